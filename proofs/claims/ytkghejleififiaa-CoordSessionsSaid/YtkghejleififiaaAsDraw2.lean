import Derived.Test.YtkghejleififiaaAsDraw
namespace Go.Proofs.Ytkghejleififiaa.AS
open Go
set_option linter.unusedSectionVars false
variable [Sym] [Orc]
set_option linter.unusedVariables false
set_option linter.unusedSimpArgs false

/-! ## the map of blocks, cut off -/
def cut (ρ : Rho) (m : Nat) : Rho := fun b => if b < m then ρ b else none
theorem cut_some {ρ : Rho} {m b : Nat} {l : Loc} : cut ρ m b = some l ↔ b < m ∧ ρ b = some l := by
  unfold cut; split <;> simp [*]
theorem cut_le (ρ : Rho) (m : Nat) : (cut ρ m).le ρ := fun b l h => (cut_some.1 h).2
theorem cut_mono {ρ ρ' : Rho} {m m' : Nat} (h : ρ.le ρ') (hm : m ≤ m') : (cut ρ m).le (cut ρ' m') := fun b l q =>
  let ⟨a, c⟩ := cut_some.1 q; cut_some.2 ⟨Nat.lt_of_lt_of_le a hm, h _ _ c⟩

/-! ## a memory laid over another -/
def layOver (σ1 : St) (t : Tr) : List Nat → Tr
  | [] => t
  | b :: r => layOver σ1 (t.set (σ1.get b) depth b) r
theorem layOver_get (σ1 : St) : ∀ (l : List Nat) (t : Tr) (b : Nat), b < most → (layOver σ1 t l).get b = if b ∈ l then σ1.get b else t.get b := by
  intro l
  induction l with
  | nil => intro t b _; simp [layOver]
  | cons x l ih =>
    intro t b hb
    simp only [layOver, ih _ b hb, Tr.get_set]
    by_cases e : b = x
    · subst e; simp [most_lt hb]
    · simp [e]

section
open Classical
variable {P : Program} [OrcOK P] {call : FuncId → List Value → St → R (Value × St)} {ops : Array Oper} {bef : List Nat} {pre : List (Nat × Nat)} {n : Nat}
variable (T : Tra P call ops bef pre n)

namespace Tra
/-- the memory that the operations of S alone have left -/
noncomputable def V (S : Nat → Prop) : Nat → St
  | 0 => T.σ 0
  | k + 1 => if S k ∧ T.isLoud k then
      { next := (T.σ 0).next, mark := (T.σ 0).mark, log := noteAll (T.σ 0).mark (T.s k).log (V S k).log,
        mem := layOver (T.σ (k + 1)) (V S k).mem ((T.s k).log ++ List.range' (T.σ k).next ((T.σ (k + 1)).next - (T.σ k).next)) }
    else V S k
/-- the slots that they have left -/
noncomputable def θ (S : Nat → Prop) : Nat → Nat → Value
  | 0, t => (T.tm 0).getD t undef
  | k + 1, t => if S k ∧ (T.o k).dst = some t then (T.tm (k + 1)).getD t undef else θ S k t

theorem V_next (S : Nat → Prop) (k : Nat) : (T.V S k).next = (T.σ 0).next ∧ (T.V S k).mark = (T.σ 0).mark := by
  induction k with
  | zero => exact ⟨rfl, rfl⟩
  | succ k ih => simp only [V]; split <;> first | exact ⟨rfl, rfl⟩ | exact ih

theorem V_get {S : Nat → Prop} {k b : Nat} : (T.V S (k + 1)).get b = if S k ∧ T.touch k b then (T.σ (k + 1)).get b else (T.V S k).get b := by
  simp only [V]
  by_cases h : S k ∧ T.isLoud k
  · rw [if_pos h]
    have hm : b ∈ (T.s k).log ++ List.range' (T.σ k).next ((T.σ (k + 1)).next - (T.σ k).next) ↔ (S k ∧ T.touch k b) := by
      unfold touch
      simp only [List.mem_append, List.mem_range'_1, h.1, h.2, true_and]
      constructor
      · rintro (h | h)
        · exact .inl h
        · exact .inr ⟨h.1, by omega⟩
      · rintro (h | h)
        · exact .inl h
        · exact .inr ⟨h.1, by omega⟩
    by_cases hb : b < most
    · rw [St.get_eq hb]
      simp only [layOver_get _ _ _ _ hb]
      by_cases q : S k ∧ T.touch k b
      · rw [if_pos q, if_pos (hm.2 q)]
      · rw [if_neg q, if_neg (fun z => q (hm.1 z)), St.get_eq hb]
    · simp [St.get, blt_f (by omega : most ≤ b)]
  · rw [if_neg h, if_neg (fun q => h ⟨q.1, q.2.1⟩)]

theorem V_log {S : Nat → Prop} {b : Nat} : ∀ {k : Nat}, b ∈ (T.V S k).log ↔ b ∈ (T.σ 0).log ∨ (b < (T.σ 0).mark ∧ ∃ i, i < k ∧ S i ∧ T.isLoud i ∧ b ∈ (T.s i).log) := by
  intro k
  induction k with
  | zero => simp [V]
  | succ k ih =>
    simp only [V]
    split
    · rename_i h
      show b ∈ noteAll _ _ _ ↔ _
      rw [mem_noteAll, ih]
      constructor
      · rintro ((h1 | ⟨h1, i, h2, h3⟩) | ⟨h1, h2⟩)
        · exact .inl h1
        · exact .inr ⟨h1, i, by omega, h3⟩
        · exact .inr ⟨h2, k, by omega, h.1, h.2, h1⟩
      · rintro (h1 | ⟨h1, i, h2, h3⟩)
        · exact .inl (.inl h1)
        · by_cases e : i = k
          · subst e; exact .inr ⟨h3.2.2, h1⟩
          · exact .inl (.inr ⟨h1, i, by omega, h3⟩)
    · rename_i h
      rw [ih]
      constructor
      · rintro (h1 | ⟨h1, i, h2, h3⟩)
        · exact .inl h1
        · exact .inr ⟨h1, i, by omega, h3⟩
      · rintro (h1 | ⟨h1, i, h2, h3⟩)
        · exact .inl h1
        · by_cases e : i = k
          · subst e; exact absurd ⟨h3.1, h3.2.1⟩ h
          · exact .inr ⟨h1, i, by omega, h3⟩

theorem V_no {S S' : Nat → Prop} {j b : Nat} (hS : ∀ i, S' i ↔ (S i ∨ i = j)) (ht : ¬ T.touch j b) : ∀ k, (T.V S' k).get b = (T.V S k).get b := by
  intro k
  induction k with
  | zero => rfl
  | succ k ih =>
    rw [T.V_get, T.V_get, ih]
    by_cases e : k = j
    · subst e; rw [if_neg (fun q => ht q.2), if_neg (fun q => ht q.2)]
    · have : S' k ↔ S k := by rw [hS]; simp [e]
      rw [this]
theorem V_const {S : Nat → Prop} {j b : Nat} (h : ∀ i, S i → T.touch i b → i < j) : ∀ k, j ≤ k → (T.V S k).get b = (T.V S j).get b := by
  intro k
  induction k with
  | zero => intro hk; have : j = 0 := by omega
            subst this; rfl
  | succ k ih =>
    intro hk
    by_cases e : j = k + 1
    · subst e; rfl
    · rw [T.V_get, if_neg (fun q => by have := h k q.1 q.2; omega), ih (by omega)]
theorem V_last {S : Nat → Prop} {j b : Nat} (hj : S j) (ht : T.touch j b) (h : ∀ i, S i → T.touch i b → i ≤ j) {k : Nat} (hk : j < k) : (T.V S k).get b = (T.σ (j + 1)).get b := by
  rw [T.V_const (j := j + 1) (fun i h1 h2 => Nat.lt_succ_of_le (h i h1 h2)) k hk, T.V_get, if_pos ⟨hj, ht⟩]
theorem V_agree (hc : KeptCall call) {S : Nat → Prop} {b : Nat} : ∀ k, k ≤ n → (∀ i, i < k → T.touch i b → S i) → b < (T.σ k).next → (T.V S k).get b = (T.σ k).get b := by
  intro k
  induction k with
  | zero => intro _ _ _; rfl
  | succ k ih =>
    intro hk h hb
    rw [T.V_get]
    by_cases e : T.touch k b
    · rw [if_pos ⟨h k (by omega) e, e⟩]
    · rw [if_neg (fun q => e q.2)]
      have hb' : b < (T.σ k).next := by
        rcases T.pure_or_loud k with hp | hl
        · rw [T.quiet_same (by omega) hp] at hb; exact hb
        · rcases Nat.lt_or_ge b (T.σ k).next with q | q
          · exact q
          · exact absurd ⟨hl, .inr ⟨q, hb⟩⟩ e
      rw [ih (by omega) (fun i hi => h i (by omega)) hb', T.untouched hc (by omega) hb' e]

theorem tm_step {k : Nat} (hk : k < n) : ∃ v, T.tm (k + 1) = putV (T.tm k) (T.o k).dst v := by
  rcases T.pure_or_loud k with hp | hl
  · exact step_tm (T.quiet k hk hp).1
  · exact step_tm (T.loud k hk hl).1
theorem putV_getD_ne {tm : List Value} {d : Option Tmp} {v : Value} {t : Nat} (h : d ≠ some t) : (putV tm d v).getD t undef = tm.getD t undef := by
  cases d with
  | none => rfl
  | some d =>
    have : d ≠ t := fun e => h (by rw [e])
    simp [putV, List.getD_eq_getElem?_getD, List.getElem?_set_ne this]
theorem putV_length {tm : List Value} {d : Option Tmp} {v : Value} : (putV tm d v).length = tm.length := by
  cases d <;> simp [putV]
theorem tm_len {k : Nat} (hk : k ≤ n) : (T.tm k).length = (T.tm 0).length := by
  induction k with
  | zero => rfl
  | succ k ih => obtain ⟨v, h⟩ := T.tm_step (by omega : k < n); rw [h, putV_length, ih (by omega)]

theorem θ_no {S S' : Nat → Prop} {j t : Nat} (hS : ∀ i, S' i ↔ (S i ∨ i = j)) (ht : (T.o j).dst ≠ some t) : ∀ k, T.θ S' k t = T.θ S k t := by
  intro k
  induction k with
  | zero => rfl
  | succ k ih =>
    simp only [θ, ih]
    by_cases e : k = j
    · subst e; rw [if_neg (fun q => ht q.2), if_neg (fun q => ht q.2)]
    · have : S' k ↔ S k := by rw [hS]; simp [e]
      simp only [this]
theorem θ_const {S : Nat → Prop} {j t : Nat} (h : ∀ i, S i → (T.o i).dst = some t → i < j ∨ n ≤ i) : ∀ k, j ≤ k → k ≤ n → T.θ S k t = T.θ S j t := by
  intro k
  induction k with
  | zero => intro hk _; have : j = 0 := by omega
            subst this; rfl
  | succ k ih =>
    intro hk hn
    by_cases e : j = k + 1
    · subst e; rfl
    · rw [θ, if_neg (fun q => by have := h k q.1 q.2; omega), ih (by omega) (by omega)]
theorem θ_agree {S : Nat → Prop} {t : Nat} : ∀ k, k ≤ n → (∀ i, i < k → (T.o i).dst = some t → S i) → T.θ S k t = (T.tm k).getD t undef := by
  intro k
  induction k with
  | zero => intro _ _; rfl
  | succ k ih =>
    intro hk h
    rw [θ]
    by_cases e : (T.o k).dst = some t
    · rw [if_pos ⟨h k (by omega) e, e⟩]
    · obtain ⟨v, hv⟩ := T.tm_step (by omega : k < n)
      rw [if_neg (fun q => e q.2), ih (by omega) (fun i hi => h i (by omega)), hv, putV_getD_ne e]
end Tra
end
end Go.Proofs.Ytkghejleififiaa.AS
