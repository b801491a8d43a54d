import Derived.Test.YtkghejleififiaaAsDraw2
namespace Go.Proofs.Ytkghejleififiaa.AS
open Go
set_option linter.unusedSectionVars false
variable [Sym] [Orc]
set_option linter.unusedVariables false
set_option linter.unusedSimpArgs false

theorem put_getD_ne {a : Act} {d : Option Tmp} {v : Value} {t : Nat} (h : d ≠ some t) : (a.put d v).tmps.getD t undef = a.tmps.getD t undef := by
  cases d with
  | none => rfl
  | some d =>
    have : d ≠ t := fun e => h (by rw [e])
    simp [Act.put, Array.getD_eq_getD_getElem?, Array.getElem?_setIfInBounds_ne this]
theorem put_size {a : Act} {d : Option Tmp} {v : Value} : (a.put d v).tmps.size = a.tmps.size := by
  cases d <;> simp [Act.put]
theorem put_getD_VR {ρ : Rho} {a : Act} {tm : List Value} {t : Nat} {v v' : Value} (hlen : tm.length = a.tmps.size) (hv : VR ρ v v') :
    VR ρ ((putV tm (some t) v).getD t undef) ((a.put (some t) v').tmps.getD t undef) := by
  by_cases h : t < tm.length
  · have h' : t < a.tmps.size := hlen ▸ h
    simp only [putV, Act.put, List.getD_eq_getElem?_getD, Array.getD_eq_getD_getElem?]
    rw [List.getElem?_set_self h, Array.getElem?_setIfInBounds_self_of_lt h']
    exact hv
  · have h' : ¬ t < a.tmps.size := hlen ▸ h
    simp only [putV, Act.put, List.getD_eq_getElem?_getD, Array.getD_eq_getD_getElem?]
    rw [List.getElem?_eq_none (by simp; omega), Array.getElem?_eq_none (by simp; omega)]
    exact undef_VR

section
open Classical
variable {P : Program} [OrcOK P] {call : FuncId → List Value → St → R (Value × St)} {ops : Array Oper} {bef : List Nat} {pre : List (Nat × Nat)} {n : Nat}
variable (T : Tra P call ops bef pre n)

namespace Tra
structure Inv (ρ0 : Rho) (w0 : World) (a0 : Act) (S : Nat → Prop) (ρ : Rho) (w : World) (a : Act) : Prop where
  bd : ∀ i, S i → i < n
  down : ∀ i, S i → ∀ e ∈ (T.o i).after.toList, Region.binds .any e = true → S e.on
  dom : ∀ b l, ρ b = some l → b < (T.σ 0).next ∨ ∃ i, S i ∧ (T.σ i).next ≤ b ∧ b < (T.σ (i + 1)).next
  ldom : ∀ i b, S i → T.isLoud i → b ∈ (T.s i).log → ∃ l, ρ b = some l
  ob : ∀ b o l q, q ≤ n → (∀ i, S i → T.touch i b → i < q) → (T.V S n).get b = some o → ρ b = some l → ObR (cut ρ (T.σ q).next) w l o
  sep : ∀ b b' o o' l l', b ≠ b' → (T.V S n).get b = some o → writable o = true → (T.V S n).get b' = some o' → ρ b = some l → ρ b' = some l' → l.pb ≠ l'.pb
  size : a.tmps.size = (T.tm 0).length
  tmp : ∀ t q, q ≤ n → (∀ i, S i → (T.o i).dst = some t → i < q) → VR (cut ρ (T.σ q).next) (T.θ S n t) (a.tmps.getD t undef)
  defers : a.defers = a0.defers
  ext : Ext ρ0 (T.σ 0) w0 ρ (T.V S n) w

variable {T}
variable {S : Nat → Prop} {ρ0 ρ : Rho} {w0 w : World} {a0 a : Act}

theorem ahead_S (hbef : bef = befOf ops ops.toList []) (hd : ∀ i, S i → ∀ e ∈ (T.o i).after.toList, Region.binds .any e = true → S e.on) {i : Nat} : ∀ (m k : Nat), k < m → k < n →
    (∀ e ∈ (T.o k).after.toList, Region.binds .any e = true → S e.on) → ahead bef i k = true → S i := by
  intro m
  induction m with
  | zero => intro k hk; omega
  | succ m ih =>
    intro k hk hkn hr ha
    rw [hbef] at ha
    obtain ⟨e, h1, h2, h3, h4⟩ := ahead_edge (T.ho k hkn) ha
    have hS := hr e h1 h2
    rcases h4 with rfl | h4
    · exact hS
    · rw [← hbef] at h4
      exact ih e.on (by omega) (by omega) (hd e.on hS) h4

theorem H_lt (hc : KeptCall call) (hpre : ∀ i b, (i, b) ∈ pre → b < (T.σ 0).next) {j b : Nat} (hj : j < n) (h : b ∈ T.H j) : b < (T.σ j).next := by
  unfold H hidden at h
  rcases List.mem_append.1 h with h | h
  · obtain ⟨⟨i, m⟩, h1, h2⟩ := List.mem_flatMap.1 h
    obtain ⟨h3, h4, h5⟩ := T.wr_lt hc (by omega) i m (List.mem_filter.1 h1).1
    simp only at h2
    subst h5
    exact Nat.lt_of_lt_of_le (T.log_lt hc (by omega) h4 h2).1 (T.next_mono hc (by omega) (by omega))
  · obtain ⟨⟨i, c⟩, h1, h2⟩ := List.mem_map.1 h
    simp only at h2; subst h2
    exact Nat.lt_of_lt_of_le (hpre i c (List.mem_filter.1 h1).1) (T.next_mono hc (by omega) (by omega))

/-- what a ready operation sees is what there is -/
theorem agree (hc : KeptCall call) (hbef : bef = befOf ops ops.toList []) (I : T.Inv ρ0 w0 a0 S ρ w a) {j b : Nat} {l : Loc} (hj : j < n) (hjS : ¬ S j)
    (hr : ∀ e ∈ (T.o j).after.toList, Region.binds .any e = true → S e.on) (hlj : T.isLoud j) (hb : ρ b = some l) (hbn : b < (T.σ j).next) (hH : b ∉ T.H j)
    (hl : ∀ b0, loadsAt (T.tm j) (T.o j).op = some b0 → b = b0) :
    (T.V S n).get b = (T.σ j).get b ∧ ∀ i, S i → T.touch i b → i < j := by
  have h1 : ∀ i, S i → T.touch i b → i < j := by
    intro i hi ht
    rcases Nat.lt_or_ge i j with q | q
    · exact q
    · exfalso
      have hne : i ≠ j := fun e => hjS (e ▸ hi)
      have hin := I.bd i hi
      rcases ht with ⟨hli, ht | ht⟩
      · have hna : ahead bef j i = false := by
          cases hh : ahead bef j i with
          | false => rfl
          | true => exact absurd (ahead_S (T := T) hbef I.down (i + 1) i (by omega) hin (I.down i hi) hh) hjS
        rcases T.hidden_pre hin (by omega) hli hlj ht hna with q | ⟨b0, q1, q2⟩
        · exact hH q
        · exact q2 (hl b0 q1)
      · have := T.next_mono hc (by omega : j ≤ i) (by omega)
        omega
  refine ⟨?_, h1⟩
  rw [T.V_const h1 n (by omega)]
  refine T.V_agree hc j (by omega) (fun i hi ht => ?_) hbn
  rcases ht with ⟨hli, ht | ht⟩
  · cases ha : ahead bef i j with
    | false => exact absurd (T.hidden_wr hj hi hli ht ha) hH
    | true => exact ahead_S (T := T) hbef I.down (j + 1) j (by omega) hj hr ha
  · rcases I.dom b l hb with q | ⟨i', q1, q2, q3⟩
    · have := T.next_mono hc (by omega : 0 ≤ i) (by omega)
      omega
    · have : i' = i := by
        rcases Nat.lt_trichotomy i' i with q | q | q
        · have := T.next_mono hc (by omega : i' + 1 ≤ i) (by omega); omega
        · exact q
        · have := T.next_mono hc (by omega : i + 1 ≤ i') (by have := I.bd i' q1; omega); omega
      exact this ▸ q1

/-- the memory over which a ready operation can be walked -/
theorem vis (hc : KeptCall call) (hbef : bef = befOf ops ops.toList []) (hpre : ∀ i b, (i, b) ∈ pre → b < (T.σ 0).next) (I : T.Inv ρ0 w0 a0 S ρ w a) {j : Nat} (hj : j < n) (hjS : ¬ S j)
    (hr : ∀ e ∈ (T.o j).after.toList, Region.binds .any e = true → S e.on) :
    ∃ sv sx, stepV P call ops (T.o j) (T.tm j) sv = some (T.tm (j + 1), sx) ∧ sv.next = (T.σ j).next ∧ sv.mark = (T.σ j).next ∧ sv.log = [] ∧
      (∀ b o l, sv.get b = some o → ρ b = some l → b < (T.σ j).next → (T.V S n).get b = some o ∧ ∀ i, S i → T.touch i b → i < j) ∧
      sx.next = (T.σ (j + 1)).next ∧ (∀ b, T.touch j b → (T.σ (j + 1)).get b = sx.get b) ∧ (∀ b, b ∈ sx.log → T.touch j b) ∧ (∀ b, T.touch j b → b ∈ sx.log ∨ (T.σ j).next ≤ b) := by
  have leaf_get : ∀ m b, St.get ⟨m, m, [], .leaf⟩ b = none := by
    intro m b; unfold St.get; split <;> first | rfl | (simp only [Tr.get])
  rcases T.pure_or_loud j with hp | hl
  · have hq := T.quiet j hj hp
    have hnt : ∀ b, ¬ T.touch j b := fun b ht => by have := ht.1; unfold isLoud at this; rw [hp] at this; cases this
    refine ⟨⟨(T.σ j).next, (T.σ j).next, [], .leaf⟩, ⟨(T.σ j).next, (T.σ j).next, [], .leaf⟩, (step_pure_any _ hp hq.1).2, rfl, rfl, rfl, ?_, ?_, fun b ht => absurd ht (hnt b), fun b hb => by (cases hb), fun b ht => absurd ht (hnt b)⟩
    · intro b o l h; rw [leaf_get] at h; cases h
    · rw [T.quiet_same hj hp]
  · have hL := T.loud j hj hl
    cases hla : loadsAt (T.tm j) (T.o j).op with
    | some b0 =>
      have hg : ∀ b, St.get ⟨(T.σ j).next, (T.σ j).next, [], Tr.leaf.set ((seen (T.σ j) (T.H j)).get b0) depth b0⟩ b = if b = b0 then (seen (T.σ j) (T.H j)).get b0 else none := by
        intro b
        by_cases hb : b < most
        · rw [St.get_eq hb]
          simp only [Tr.get_set]
          by_cases e : b = b0
          · subst e; simp [most_lt hb]
          · rw [if_neg (fun q => e q.1), if_neg e]; simp only [Tr.get]
        · have : St.get ⟨(T.σ j).next, (T.σ j).next, [], Tr.leaf.set ((seen (T.σ j) (T.H j)).get b0) depth b0⟩ b = none := by simp [St.get, blt_f (by omega : most ≤ b)]
          rw [this]
          split
          · rename_i e; subst e; simp [St.get, blt_f (by omega : most ≤ b)]
          · rfl
      obtain ⟨hs1, hs2⟩ := step_load_local (σ2 := ⟨(T.σ j).next, (T.σ j).next, [], Tr.leaf.set ((seen (T.σ j) (T.H j)).get b0) depth b0⟩) hla (by rw [hg, if_pos rfl]; rfl) hl hL.1
      have hnx : (T.σ (j + 1)).next = (T.σ j).next := by rw [T.s_next hj hl, hs1]; rfl
      have hnt : ∀ b, ¬ T.touch j b := by
        rintro b ⟨_, ht | ht⟩
        · rw [hs1] at ht; cases ht
        · omega
      refine ⟨_, _, hs2, rfl, rfl, rfl, ?_, hnx.symm, fun b ht => absurd ht (hnt b), fun b hb => by (cases hb), fun b ht => absurd ht (hnt b)⟩
      intro b o l h hb hbn
      rw [hg] at h
      split at h
      · rename_i e; subst e
        rw [seen_get] at h
        split at h
        · cases h
        · rename_i hH
          obtain ⟨q1, q2⟩ := agree hc hbef I hj hjS hr hl hb hbn hH (fun b1 h1 => by rw [hla] at h1; exact Option.some.inj h1)
          exact ⟨q1.trans h, q2⟩
      · cases h
    | none =>
      refine ⟨seen (T.σ j) (T.H j), T.s j, hL.1, rfl, rfl, rfl, ?_, (T.s_next hj hl).symm, ?_, fun b hb => ⟨hl, .inl hb⟩, fun b ht => ht.2.imp id (·.1)⟩
      · intro b o l h hb hbn
        rw [seen_get] at h
        split at h
        · cases h
        · rename_i hH
          obtain ⟨q1, q2⟩ := agree hc hbef I hj hjS hr hl hb hbn hH (fun b1 h1 => by rw [hla] at h1; cases h1)
          exact ⟨q1.trans h, q2⟩
      · intro b ht
        rw [hL.2.2.1, back_get']
        have : b ∉ T.H j := by
          rcases ht with ⟨_, ht | ht⟩
          · exact (T.log_lt hc hj hl ht).2.1
          · intro q; have := H_lt hc hpre hj q; omega
        exact if_neg this
end Tra
end
end Go.Proofs.Ytkghejleififiaa.AS
