import Derived.Test.YtbhjhffglcipbaaAsOps2
import Derived.Scope
import Derived.Below
namespace Go.Proofs.Ytbhjhffglcipbaa.AS
open Go
set_option linter.unusedSectionVars false
variable [Sym] [Orc]
set_option linter.unusedVariables false
set_option linter.unusedSimpArgs false

/-- what a step of the little machine leaves of the blocks below the mark -/
structure Kept0 (σ σ' : St) : Prop where
  next : σ.next ≤ σ'.next
  mark : σ'.mark = σ.mark
  log : ∀ b, b ∈ σ.log → b ∈ σ'.log
  logd : ∀ b, b ∈ σ'.log → b ∈ σ.log ∨ (b < σ.mark ∧ ∃ o, σ.get b = some o ∧ writable o = true)
  get : ∀ b, b < σ.mark → b ∉ σ'.log → σ'.get b = σ.get b
def Kept (σ σ' : St) : Prop := σ.mark ≤ σ.next → Kept0 σ σ'

theorem Kept.refl (σ : St) : Kept σ σ := fun _ => ⟨Nat.le_refl _, rfl, fun _ h => h, fun _ h => .inl h, fun _ _ _ => rfl⟩
theorem Kept.trans {a b c : St} (h : Kept a b) (k : Kept b c) : Kept a c := by
  intro hm
  have h := h hm
  have k := k (by have := h.mark; have := h.next; omega)
  refine ⟨Nat.le_trans h.next k.next, k.mark.trans h.mark, fun x hx => k.log x (h.log x hx), ?_, ?_⟩
  · intro x hx
    rcases k.logd x hx with q | ⟨q1, o, q2, q3⟩
    · exact h.logd x q
    · rw [h.mark] at q1
      by_cases hl : x ∈ b.log
      · exact h.logd x hl
      · rw [h.get x q1 hl] at q2; exact .inr ⟨q1, o, q2, q3⟩
  · intro x h1 h2
    rw [k.get x (by rw [h.mark]; exact h1) h2, h.get x h1 (fun q => h2 (k.log x q))]
theorem Kept.new {σ σ' : St} {o : Ob} {b : Nat} (h : σ.new o = some (b, σ')) : Kept σ σ' := by
  intro hm
  obtain ⟨rfl, h1, h2, h3, h4, h5⟩ := St.new_eq h
  refine ⟨by omega, h3, fun x hx => by rw [h4]; exact hx, fun x hx => .inl (by rw [← h4]; exact hx), fun x h6 h7 => ?_⟩
  rw [h5, if_neg (by omega)]
theorem Kept.set {σ : St} {b : Nat} {o : Ob} {o' : Option Ob} (hg : σ.get b = some o) (hw : writable o = true) : Kept σ (σ.set b o') := by
  intro hm
  refine ⟨Nat.le_refl _, rfl, fun x hx => mem_note.2 (.inl hx), fun x hx => ?_, fun x h1 h2 => ?_⟩
  · rcases mem_note.1 hx with q | ⟨rfl, q⟩
    · exact .inl q
    · exact .inr ⟨q, o, hg, hw⟩
  · rw [St.get_set (St.get_lt hg)]
    by_cases e : x = b
    · subst e; exact absurd (mem_note.2 (.inr ⟨rfl, h1⟩)) h2
    · rw [if_neg e]

theorem storeC_kept {σ σ' : St} {b o : Nat} {vs : List Value} (h : storeC σ b o vs = some σ') : Kept σ σ' := by
  rcases storeC_eq h with ⟨_, rfl⟩ | ⟨_, cs, u, ty, hg, _, _, rfl⟩
  · exact Kept.refl _
  · exact Kept.set hg rfl
theorem inPlace_kept {σ σ' : St} {base : Option Addr} {o : Nat} {vs : List Value} (h : inPlace σ base o vs = some σ') : Kept σ σ' := by
  unfold inPlace at h
  split at h
  · simp only [pure, Option.some.injEq] at h; subst h; exact Kept.refl _
  · exact storeC_kept h
  · simp [bad] at h
theorem growS_kept {σ σ' : St} {base : Option Addr} {c size : Nat} (h : growS σ base c size = some σ') : Kept σ σ' := by
  unfold growS at h
  split at h
  · simp only [pure, Option.some.injEq] at h; subst h; exact Kept.refl _
  · split at h
    · rename_i hg
      split at h
      · split at h
        · simp only [pure, Option.some.injEq] at h; subst h; exact Kept.set hg rfl
        · simp [bad] at h
      · simp only [pure, Option.some.injEq] at h; subst h; exact Kept.refl _
    · simp [bad] at h
  · simp [bad] at h

section
variable {P : Program} [OrcOK P] {σ σ' : St}
theorem append_kept {argTypes : Array TypeId} {args : Array Value} {v : Value} (h : appendV P σ argTypes args = some (v, σ')) : Kept σ σ' := by
  unfold appendV at h
  simp only [bind, Option.bind_eq_some_iff, want] at h
  obtain ⟨_, _, s, _, _, _, _, _, _, _, _, _, _, _, _, _, _, _, h⟩ := h
  split at h
  · unfold appendS at h
    split at h
    · simp only [bind, Option.bind_eq_some_iff, pure, Option.some.injEq, Prod.mk.injEq] at h
      obtain ⟨_, h1, rfl, rfl⟩ := h
      exact inPlace_kept h1
    · simp only [bind, Option.bind_eq_some_iff] at h
      obtain ⟨_, _, _, _, _, _, h⟩ := h
      split at h
      · simp only [bind, Option.bind_eq_some_iff, pure, Option.some.injEq] at h
        obtain ⟨_, h1, ⟨_, _⟩, h2, h⟩ := h
        simp only [Prod.mk.injEq] at h
        obtain ⟨rfl, rfl⟩ := h
        exact (growS_kept h1).trans (Kept.new h2)
      · simp [bad] at h
  · simp [bad] at h
theorem copy_kept {argTypes : Array TypeId} {args : Array Value} {v : Value} (h : copyV P σ argTypes args = some (v, σ')) : Kept σ σ' := by
  unfold copyV at h
  simp only [bind, Option.bind_eq_some_iff, want] at h
  obtain ⟨_, _, d, _, _, _, _, _, _, _, _, _, h⟩ := h
  split at h
  · simp only [bind, Option.bind_eq_some_iff, pure, Option.some.injEq, Prod.mk.injEq] at h
    obtain ⟨_, _, _, h1, rfl, rfl⟩ := h
    exact inPlace_kept h1
  · simp [bad] at h
theorem clear_kept {argTypes : Array TypeId} {args : Array Value} {v : Value} (h : clearV P σ argTypes args = some (v, σ')) : Kept σ σ' := by
  unfold clearV at h
  simp only [bind, Option.bind_eq_some_iff, want] at h
  obtain ⟨_, _, d, _, _, _, _, _, h⟩ := h
  split at h
  · simp only [bind, Option.bind_eq_some_iff, pure, Option.some.injEq, Prod.mk.injEq] at h
    obtain ⟨_, h1, rfl, rfl⟩ := h
    exact inPlace_kept h1
  · simp [bad] at h
theorem update_kept {t : TypeId} {x k v : Value} (h : updateV P σ t x k v = some σ') : Kept σ σ' := by
  unfold updateV at h
  simp only [bind, Option.bind_eq_some_iff, want] at h
  obtain ⟨⟨_, _⟩, _, h⟩ := h
  split at h
  · rename_i r
    simp only [bind, Option.bind_eq_some_iff] at h
    obtain ⟨es, hes, _, _, h⟩ := h
    have hg : σ.get r = some (.mp es) := by
      unfold rowsOf at hes
      simp only at hes
      split at hes
      · rename_i hg; simp only [pure, Option.some.injEq] at hes; subst hes; exact hg
      · simp [bad] at hes
    split at h
    · simp only [bind, Option.bind_eq_some_iff] at h
      obtain ⟨f, _, h⟩ := h
      unfold setRow at h
      split at h
      · split at h
        · split at h
          · simp only [pure, Option.some.injEq] at h; subst h; exact Kept.set hg rfl
          · simp [bad] at h
        · simp [bad] at h
      · simp only [pure, Option.some.injEq] at h; subst h; exact Kept.set hg rfl
    · simp [bad] at h
  · simp [bad] at h
theorem plain_kept {ev : Operand → Value} {o : Oper} {ne : Ne} (h : plainV P σ ev o = some (ne, σ')) : σ' = σ := by
  unfold plainV at h
  split at h
  · split at h
    · split at h
      · simp only [pure, Option.some.injEq, Prod.mk.injEq] at h; exact h.2.symm
      · simp [bad] at h
    · simp [bad] at h
  · split at h
    · split at h
      · simp only [pure, Option.some.injEq, Prod.mk.injEq] at h; exact h.2.symm
      · simp [bad] at h
    · simp [bad] at h
theorem v0_eq {r : R Value} {ne : Ne} (h : v0 σ r = some (ne, σ')) : ∃ v, r = some v ∧ ne = .val v ∧ σ' = σ := by
  simp only [v0, bind, Option.bind_eq_some_iff, pure, Option.some.injEq] at h
  obtain ⟨v, h1, h⟩ := h
  simp only [Prod.mk.injEq] at h
  exact ⟨v, h1, h.1.symm, h.2.symm⟩
theorem v1_eq {r : R (Value × St)} {ne : Ne} (h : v1 r = some (ne, σ')) : ∃ v, r = some (v, σ') ∧ ne = .val v := by
  simp only [v1, bind, Option.bind_eq_some_iff, pure, Option.some.injEq] at h
  obtain ⟨⟨v, σ1⟩, h1, h⟩ := h
  simp only [Prod.mk.injEq] at h
  obtain ⟨rfl, rfl⟩ := h
  exact ⟨v, h1, rfl⟩
theorem vs_eq {r : R St} {ne : Ne} (h : vs r = some (ne, σ')) : r = some σ' ∧ ne = .skip := by
  simp only [vs, bind, Option.bind_eq_some_iff, pure, Option.some.injEq] at h
  obtain ⟨σ1, h1, h⟩ := h
  simp only [Prod.mk.injEq] at h
  obtain ⟨rfl, rfl⟩ := h
  exact ⟨h1, rfl⟩
theorem newP_kept {t : TypeId} {cs : List Value} {v : Value} (h : newP σ t cs = some (v, σ')) : Kept σ σ' := by
  unfold newP at h
  simp only [bind, Option.bind_eq_some_iff, pure, Option.some.injEq] at h
  obtain ⟨⟨b, σ1⟩, h1, h⟩ := h
  simp only [Prod.mk.injEq] at h
  obtain ⟨rfl, rfl⟩ := h
  exact Kept.new h1

theorem updateW_kept {t : TypeId} {x k v : Value} (h : updateW P σ t x k v = some σ') : Kept σ σ' := by
  unfold updateW at h
  split at h
  · rename_i r tag he
    unfold extOf at he
    split at he
    · split at he
      · rename_i hg
        split at he
        · rename_i hev
          simp only [Option.some.injEq, Prod.mk.injEq] at he
          obtain ⟨rfl, rfl⟩ := he
          split at h
          · split at h
            · simp only [pure, Option.some.injEq] at h; subst h; exact Kept.set hg hev
            · simp [bad] at h
          · simp [bad] at h
        · cases he
      · cases he
    · cases he
  · exact update_kept h
theorem op_kept {ev : Operand → Value} {o : Oper} {ne : Ne} (h : opV P σ ev o = some (ne, σ')) : Kept σ σ' := by
  obtain ⟨dst, op, type, pos, after, guard⟩ := o
  cases op <;> simp only [opV] at h
  case alloc e =>
    obtain ⟨v, h1, _⟩ := v1_eq h
    simp only [bind, Option.bind_eq_some_iff] at h1
    obtain ⟨_, _, h1⟩ := h1
    exact newP_kept h1
  case box e x =>
    split at h
    case isFalse => simp [bad] at h
    obtain ⟨v, h1, _⟩ := v1_eq h; exact newP_kept h1
  case buildSlice t n ps =>
    split at h
    case isFalse => simp [bad] at h
    obtain ⟨v, h1, _⟩ := v1_eq h
    unfold buildS at h1
    simp only [bind, Option.bind_eq_some_iff] at h1
    obtain ⟨_, _, _, _, h1⟩ := h1
    split at h1
    · simp only [bind, Option.bind_eq_some_iff, pure, Option.some.injEq] at h1
      obtain ⟨_, _, _, _, ⟨_, _⟩, h2, h1⟩ := h1
      simp only [Prod.mk.injEq] at h1
      obtain ⟨rfl, rfl⟩ := h1
      exact Kept.new h2
    · simp [bad] at h1
  case makeSlice t l c =>
    obtain ⟨v, h1, _⟩ := v1_eq h
    unfold makeS at h1
    simp only [bind, Option.bind_eq_some_iff] at h1
    obtain ⟨_, _, h1⟩ := h1
    split at h1
    · simp only [bind, Option.bind_eq_some_iff] at h1
      obtain ⟨_, _, h1⟩ := h1
      split at h1
      · simp only [bind, Option.bind_eq_some_iff, pure, Option.some.injEq] at h1
        obtain ⟨_, _, ⟨_, _⟩, h2, h1⟩ := h1
        simp only [Prod.mk.injEq] at h1
        obtain ⟨rfl, rfl⟩ := h1
        exact Kept.new h2
      · simp [bad] at h1
    · simp [bad] at h1
  case makeMap t r =>
    cases r with
    | some r => simp [bad] at h
    | none =>
      obtain ⟨v, h1, _⟩ := v1_eq h
      simp only [bind, Option.bind_eq_some_iff, pure, Option.some.injEq] at h1
      obtain ⟨⟨_, _⟩, h2, h1⟩ := h1
      simp only [Prod.mk.injEq] at h1
      obtain ⟨rfl, rfl⟩ := h1
      exact Kept.new h2
  case range t x =>
    obtain ⟨v, h1, _⟩ := v1_eq h
    unfold rangeV at h1
    split at h1
    · split at h1
      · simp only [bind, Option.bind_eq_some_iff, pure, Option.some.injEq] at h1
        obtain ⟨⟨_, _⟩, h2, h1⟩ := h1
        simp only [Prod.mk.injEq] at h1
        obtain ⟨rfl, rfl⟩ := h1
        exact Kept.new h2
      · simp [bad] at h1
    · simp [bad] at h1
  case next x s =>
    obtain ⟨v, h1, _⟩ := v1_eq h
    unfold nextV at h1
    split at h1
    · split at h1
      · rename_i hg
        split at h1
        · split at h1
          · simp [bad] at h1
          · simp only [pure, Option.some.injEq, Prod.mk.injEq] at h1; rw [← h1.2]; exact Kept.refl _
        · split at h1
          · simp only [pure, Option.some.injEq, Prod.mk.injEq] at h1; rw [← h1.2]; exact Kept.refl _
          · split at h1
            · simp only [pure, Option.some.injEq, Prod.mk.injEq] at h1; rw [← h1.2]; exact Kept.set hg rfl
            · simp [bad] at h1
        · simp [bad] at h1
      · simp [bad] at h1
    · simp [bad] at h1
  case store t a x =>
    obtain ⟨h1, _⟩ := vs_eq h
    unfold storeV at h1
    split at h1
    · simp only [bind, Option.bind_eq_some_iff] at h1
      obtain ⟨_, _, h1⟩ := h1
      split at h1
      · exact storeC_kept h1
      · simp [bad] at h1
    · simp [bad] at h1
  case mapUpdate t m k x => exact updateW_kept (vs_eq h).1
  case insert t m k x => exact updateW_kept (vs_eq h).1
  case convert s d x =>
    unfold convertV at h
    split at h
    · split at h
      · simp only [bind, Option.bind_eq_some_iff, pure, Option.some.injEq] at h
        obtain ⟨⟨_, _⟩, h2, h1⟩ := h
        simp only [Prod.mk.injEq] at h1
        obtain ⟨rfl, rfl⟩ := h1
        exact Kept.new h2
      · simp [bad] at h
    · split at h
      · simp only [bind, Option.bind_eq_some_iff, pure, Option.some.injEq, Prod.mk.injEq] at h
        obtain ⟨_, _, _, _, rfl, rfl⟩ := h
        exact Kept.refl _
      · simp [bad] at h
    · rw [plain_kept h]; exact Kept.refl _
  case call c =>
    obtain ⟨callee, args, argTypes⟩ := c
    cases callee with
    | invoke r m => simp [bad] at h
    | value f =>
      simp only at h
      split at h
      · simp only [bind, Option.bind_eq_some_iff, pure, Option.some.injEq, Prod.mk.injEq] at h
        obtain ⟨_, _, rfl, rfl⟩ := h
        exact Kept.refl _
      · simp [bad] at h
    | builtin b =>
      simp only [builtinV] at h
      split at h
      · obtain ⟨v, h1, _⟩ := v1_eq h; exact append_kept h1
      · obtain ⟨v, h1, _⟩ := v1_eq h; exact copy_kept h1
      · obtain ⟨v, h1, _⟩ := v1_eq h; exact clear_kept h1
      · split at h
        · simp only [pure, Option.some.injEq, Prod.mk.injEq] at h; rw [← h.2]; exact Kept.refl _
        · split at h
          · simp only [pure, Option.some.injEq, Prod.mk.injEq] at h; rw [← h.2]; exact Kept.refl _
          · simp [bad] at h
        · simp only [pure, Option.some.injEq, Prod.mk.injEq] at h; rw [← h.2]; exact Kept.refl _
        · rw [plain_kept h]; exact Kept.refl _
      · simp [bad] at h
      · obtain ⟨_, _, _, e⟩ := v0_eq h; rw [e]; exact Kept.refl _
      · obtain ⟨v, h1, _⟩ := v1_eq h
        unfold unsafeStrV at h1
        split at h1
        · split at h1
          · rename_i hg
            split at h1
            · simp only [bind, Option.bind_eq_some_iff, pure, Option.some.injEq, Prod.mk.injEq] at h1
              obtain ⟨_, _, _, rfl⟩ := h1
              exact Kept.set hg rfl
            · simp [bad] at h1
          · simp [bad] at h1
        · simp [bad] at h1
      · rw [plain_kept h]; exact Kept.refl _
  case binOp b t x y yt =>
    split at h
    · simp only [pure, Option.some.injEq, Prod.mk.injEq] at h; rw [← h.2]; exact Kept.refl _
    · simp only [pure, Option.some.injEq, Prod.mk.injEq] at h; rw [← h.2]; exact Kept.refl _
    · rw [plain_kept h]; exact Kept.refl _
  case makeFunc fn a b =>
    cases fn <;> simp only [bad] at h <;> try (cases h; done)
    simp only [pure, Option.some.injEq, Prod.mk.injEq] at h; rw [← h.2]; exact Kept.refl _
  all_goals first
    | (simp [bad] at h; done)
    | (simp only [pure, Option.some.injEq, Prod.mk.injEq] at h; rw [← h.2]; exact Kept.refl _)
    | (obtain ⟨_, _, _, e⟩ := v0_eq h; rw [e]; exact Kept.refl _)
    | (rw [plain_kept h]; exact Kept.refl _)
    | (split at h <;> first
        | (simp [bad] at h; done)
        | (simp only [pure, Option.some.injEq, Prod.mk.injEq] at h; rw [← h.2]; exact Kept.refl _)
        | (obtain ⟨_, _, _, e⟩ := v0_eq h; rw [e]; exact Kept.refl _)
        | (rw [plain_kept h]; exact Kept.refl _))

variable {call : FuncId → List Value → St → R (Value × St)} {ops : Array Oper}
def KeptCall (call : FuncId → List Value → St → R (Value × St)) : Prop := ∀ f args σ v σ', call f args σ = some (v, σ') → Kept σ σ'

theorem step_kept (hc : KeptCall call) {o : Oper} {tm tm' : List Value} (h : stepV P call ops o tm σ = some (tm', σ')) : Kept σ σ' := by
  unfold stepV at h
  split at h
  · simp [bad] at h
  · simp only [pure, Option.some.injEq, Prod.mk.injEq] at h; rw [← h.2]; exact Kept.refl _
  · split at h
    · simp only [bind, Option.bind_eq_some_iff] at h
      obtain ⟨⟨ne, σ1⟩, h1, h⟩ := h
      have k := op_kept h1
      cases ne with
      | val v => simp only [pure, Option.some.injEq, Prod.mk.injEq] at h; rw [← h.2]; exact k
      | skip => simp only [pure, Option.some.injEq, Prod.mk.injEq] at h; rw [← h.2]; exact k
      | enter f args =>
        simp only [bind, Option.bind_eq_some_iff, pure, Option.some.injEq] at h
        obtain ⟨⟨v, σ2⟩, h2, h⟩ := h
        simp only [Prod.mk.injEq] at h
        rw [← h.2]
        exact k.trans (hc _ _ _ _ _ h2)
    · simp [bad] at h

theorem step_tm {o : Oper} {tm tm' : List Value} (h : stepV P call ops o tm σ = some (tm', σ')) : ∃ v, tm' = putV tm o.dst v := by
  unfold stepV at h
  split at h
  · simp [bad] at h
  · simp only [pure, Option.some.injEq, Prod.mk.injEq] at h; exact ⟨_, h.1.symm⟩
  · split at h
    · simp only [bind, Option.bind_eq_some_iff] at h
      obtain ⟨⟨ne, σ1⟩, h1, h⟩ := h
      cases ne with
      | val v => simp only [pure, Option.some.injEq, Prod.mk.injEq] at h; exact ⟨_, h.1.symm⟩
      | skip => simp only [pure, Option.some.injEq, Prod.mk.injEq] at h; exact ⟨_, h.1.symm⟩
      | enter f args =>
        simp only [bind, Option.bind_eq_some_iff, pure, Option.some.injEq] at h
        obtain ⟨⟨v, σ2⟩, h2, h⟩ := h
        simp only [Prod.mk.injEq] at h
        exact ⟨_, h.1.symm⟩
    · simp [bad] at h

theorem ops_kept (hc : KeptCall call) : ∀ (l : List Oper) {tm tm' : List Value} {σ σ' : St}, opsV P call ops l tm σ = some (tm', σ') → Kept σ σ'
  | [], tm, tm', σ, σ', h => by simp only [opsV, pure, Option.some.injEq, Prod.mk.injEq] at h; rw [← h.2]; exact Kept.refl _
  | o :: l, tm, tm', σ, σ', h => by
    simp only [opsV, bind, Option.bind_eq_some_iff] at h
    obtain ⟨⟨tm1, σ1⟩, h1, h2⟩ := h
    exact (step_kept hc h1).trans (ops_kept hc l h2)

/-! ## what is hidden, and laid back -/
theorem hide_get (t : Tr) : ∀ (h : List Nat) (t : Tr) (b : Nat), b < most → (hideAll t h).get b = if b ∈ h then none else t.get b := by
  intro h
  induction h with
  | nil => intro t b _; simp [hideAll]
  | cons x h ih =>
    intro t b hb
    simp only [hideAll, ih _ b hb, Tr.get_set]
    by_cases e : b = x
    · subst e; simp [most_lt hb]
    · simp [e]
theorem back_get (t0 : Tr) : ∀ (h : List Nat) (t : Tr) (b : Nat), b < most → (layBack t0 t h).get b = if b ∈ h then (match t0.get b with | some o => some o | none => t.get b) else t.get b := by
  intro h
  induction h with
  | nil => intro t b _; simp [layBack]
  | cons x h ih =>
    intro t b hb
    simp only [layBack, ih _ b hb]
    by_cases e : b = x
    · subst e
      cases ht : t0.get b with
      | none => simp
      | some o => simp [Tr.get_set, most_lt hb]
    · have : ∀ o, (t.set (some o) depth x).get b = t.get b := by intro o; simp [Tr.get_set, e]
      cases ht : t0.get x with
      | none => simp [e]
      | some o => simp [e, this]

/-- the memory that an operation sees -/
def seen (σ : St) (h : List Nat) : St := { next := σ.next, mark := σ.next, log := [], mem := hideAll σ.mem h }
def back (σ σ' : St) (h : List Nat) : St := { next := σ'.next, mark := σ.mark, log := noteAll σ.mark σ'.log σ.log, mem := layBack σ.mem σ'.mem h }
theorem seen_get (σ : St) (h : List Nat) (b : Nat) : (seen σ h).get b = if b ∈ h then none else σ.get b := by
  by_cases hb : b < most
  · rw [St.get_eq hb, St.get_eq hb]; exact hide_get σ.mem h σ.mem b hb
  · simp [St.get, blt_f (by omega : most ≤ b)]
theorem back_get' (σ σ' : St) (h : List Nat) (b : Nat) : (back σ σ' h).get b = if b ∈ h then (match σ.get b with | some o => some o | none => σ'.get b) else σ'.get b := by
  by_cases hb : b < most
  · rw [St.get_eq hb, St.get_eq hb, St.get_eq hb]; exact back_get σ.mem h σ'.mem b hb
  · simp [St.get, blt_f (by omega : most ≤ b)]
theorem mem_noteAll {mark b : Nat} : ∀ {m l : List Nat}, b ∈ noteAll mark m l ↔ b ∈ l ∨ (b ∈ m ∧ b < mark) := by
  intro m
  induction m with
  | nil => intro l; simp [noteAll]
  | cons x m ih =>
    intro l
    have : noteAll mark (x :: m) l = noteAll mark m (note mark x l) := rfl
    rw [this, ih, mem_note]
    constructor
    · rintro ((h | ⟨rfl, h⟩) | ⟨h, k⟩)
      · exact .inl h
      · exact .inr ⟨by simp, h⟩
      · exact .inr ⟨by simp [h], k⟩
    · rintro (h | ⟨h, k⟩)
      · exact .inl (.inl h)
      · rcases List.mem_cons.1 h with rfl | h
        · exact .inl (.inr ⟨rfl, k⟩)
        · exact .inr ⟨h, k⟩

theorem back_kept {h : List Nat} (k : Kept (seen σ h) σ') : Kept σ (back σ σ' h) := by
  intro hm
  have k := k (Nat.le_refl _)
  have hsm : (seen σ h).mark = σ.next := rfl
  refine ⟨k.next, rfl, fun b hb => mem_noteAll.2 (.inl hb), fun b hb => ?_, fun b h1 h2 => ?_⟩
  · rcases mem_noteAll.1 hb with q | ⟨q1, q2⟩
    · exact .inl q
    · rcases k.logd b q1 with r | ⟨_, o, r1, r2⟩
      · cases r
      · rw [seen_get] at r1
        split at r1
        · cases r1
        · exact .inr ⟨q2, o, r1, r2⟩
  · have h3 : b ∉ σ'.log := fun q => h2 (mem_noteAll.2 (.inr ⟨q, h1⟩))
    have h4 := k.get b (by rw [hsm]; omega) h3
    rw [seen_get] at h4
    rw [back_get', h4]
    split
    · cases σ.get b <;> rfl
    · rfl

variable {bef : List Nat} {pre : List (Nat × Nat)}
theorem one_eq {o : Oper} {k : Nat} {tm tm' : List Value} {d d' : Dr} (h : drawOne P call ops bef pre o k tm σ d = some (tm', σ', d')) :
    (pureOp P o.op = true ∧ stepV P call ops o tm σ = some (tm', σ') ∧ d' = d) ∨
    (pureOp P o.op = false ∧ ∃ σ1, stepV P call ops o tm (seen σ (hidden bef pre d.wr k)) = some (tm', σ1) ∧ writesOK bef pre d.ld k σ1.log = true ∧ σ' = back σ σ1 (hidden bef pre d.wr k) ∧
      d' = { wr := if σ1.log.isEmpty then d.wr else (k, σ1.log) :: d.wr, ld := (k, loadsAt tm o.op) :: d.ld }) := by
  unfold drawOne at h
  split at h
  · rename_i hp
    simp only [bind, Option.bind_eq_some_iff, pure, Option.some.injEq] at h
    obtain ⟨⟨tm1, σ1⟩, h1, h⟩ := h
    simp only [Prod.mk.injEq] at h
    obtain ⟨rfl, rfl, rfl⟩ := h
    exact .inl ⟨hp, h1, rfl⟩
  · rename_i hp
    simp only [bind, Option.bind_eq_some_iff] at h
    obtain ⟨⟨tm1, σ1⟩, h1, h⟩ := h
    split at h
    · rename_i hw
      simp only [pure, Option.some.injEq, Prod.mk.injEq] at h
      obtain ⟨rfl, rfl, rfl⟩ := h
      exact .inr ⟨by simpa using hp, σ1, h1, hw, rfl, rfl⟩
    · simp [bad] at h

theorem one_kept (hc : KeptCall call) {o : Oper} {k : Nat} {tm tm' : List Value} {d d' : Dr} (h : drawOne P call ops bef pre o k tm σ d = some (tm', σ', d')) : Kept σ σ' := by
  rcases one_eq h with ⟨_, h1, _⟩ | ⟨_, σ1, h1, _, rfl, _⟩
  · exact step_kept hc h1
  · exact back_kept (step_kept hc h1)

theorem draw_kept (hc : KeptCall call) {tm : List Value} : ∀ (k : Nat) {tm' : List Value} {σ' : St} {d' : Dr}, drawTo P call ops bef pre tm σ k = some (tm', σ', d') → Kept σ σ'
  | 0, tm', σ', d', h => by simp only [drawTo, pure, Option.some.injEq, Prod.mk.injEq] at h; rw [← h.2.1]; exact Kept.refl _
  | k + 1, tm', σ', d', h => by
    simp only [drawTo, bind, Option.bind_eq_some_iff] at h
    obtain ⟨⟨tm1, σ1, d1⟩, h1, h⟩ := h
    split at h
    · exact (draw_kept hc k h1).trans (one_kept hc h)
    · simp [bad] at h

theorem region_kept (hc : KeptCall call) {draw : Bool} {tm tm' : List Value} (h : regionV P call ops draw tm σ = some (tm', σ')) : Kept σ σ' := by
  unfold regionV at h
  split at h
  · simp only at h
    split at h
    · simp only [bind, Option.bind_eq_some_iff, pure, Option.some.injEq] at h
      obtain ⟨⟨tm1, σ1, d1⟩, h1, h⟩ := h
      simp only [Prod.mk.injEq] at h
      obtain ⟨rfl, rfl⟩ := h
      exact draw_kept hc _ h1
    · simp [bad] at h
  · exact ops_kept hc _ h

theorem call_kept {ov : FuncId → Option (List Value → St → R (Value × St))} {run : Code → List Value → St → R (Ex × List Value × St)} (hov : ∀ f g, ov f = some g → ∀ args σ v σ', g args σ = some (v, σ') → Kept σ σ')
    (hrun : ∀ c tm σ e tm' σ', run c tm σ = some (e, tm', σ') → Kept σ σ') : KeptCall (callV P ov run) := by
  intro f args σ v σ' h
  unfold callV at h
  split at h
  · rename_i g hg; exact hov f g hg _ _ _ _ h
  · simp only [bind, Option.bind_eq_some_iff, want] at h
    obtain ⟨fn, _, c, _, ⟨e, tm1, σ1⟩, h1, h⟩ := h
    have k := hrun _ _ _ _ _ _ h1
    cases e <;> simp only [bind, Option.bind_eq_some_iff, pure, Option.some.injEq, bad] at h <;> try (cases h; done)
    all_goals
      obtain ⟨_, _, h⟩ := h
      simp only [Prod.mk.injEq] at h
      rw [← h.2]; exact k

theorem run_kept {ov : FuncId → Option (List Value → St → R (Value × St))} (hov : ∀ f g, ov f = some g → ∀ args σ v σ', g args σ = some (v, σ') → Kept σ σ') :
    ∀ (n : Nat) (sc : Option Code) (c : Code) (tm : List Value) (σ : St) (e : Ex) (tm' : List Value) (σ' : St), runV P ov n sc c tm σ = some (e, tm', σ') → Kept σ σ' := by
  intro n
  induction n with
  | zero => intro sc c tm σ e tm' σ' h; simp [runV, bad] at h
  | succ n ih =>
    intro sc c tm σ e tm' σ' h
    have hc : KeptCall (callV P ov (runV P ov n none)) := call_kept hov (fun c tm σ e tm' σ' => ih none c tm σ e tm' σ')
    cases sc with
    | some a =>
      simp only [runV, bind, Option.bind_eq_some_iff] at h
      obtain ⟨⟨e1, tm1, σ1⟩, h1, h⟩ := h
      have k := ih _ _ _ _ _ _ _ h1
      cases e1 with
      | goto l =>
        simp only at h
        split at h
        · exact k.trans (ih _ _ _ _ _ _ _ h)
        · simp only [pure, Option.some.injEq, Prod.mk.injEq] at h; rw [← h.2.2]; exact k
      | _ => simp only [pure, Option.some.injEq, Prod.mk.injEq] at h; rw [← h.2.2]; exact k
    | none =>
      cases c <;> simp only [runV] at h
      case region id ops draw =>
        simp only [bind, Option.bind_eq_some_iff, pure, Option.some.injEq] at h
        obtain ⟨⟨tm1, σ1⟩, h1, h⟩ := h
        simp only [Prod.mk.injEq] at h; rw [← h.2.2]
        exact region_kept hc h1
      case seq a b =>
        simp only [bind, Option.bind_eq_some_iff] at h
        obtain ⟨⟨e1, tm1, σ1⟩, h1, h⟩ := h
        have k := ih _ _ _ _ _ _ _ h1
        cases e1 with
        | normal => exact k.trans (ih _ _ _ _ _ _ _ h)
        | _ => simp only [pure, Option.some.injEq, Prod.mk.injEq] at h; rw [← h.2.2]; exact k
      case cond x a b =>
        split at h
        · exact ih _ _ _ _ _ _ _ h
        · exact ih _ _ _ _ _ _ _ h
        · simp [bad] at h
      case block id a =>
        simp only [bind, Option.bind_eq_some_iff] at h
        obtain ⟨⟨e1, tm1, σ1⟩, h1, h⟩ := h
        have k := ih _ _ _ _ _ _ _ h1
        cases e1 with
        | exit i =>
          simp only at h
          split at h <;> (simp only [pure, Option.some.injEq, Prod.mk.injEq] at h; rw [← h.2.2]; exact k)
        | _ => simp only [pure, Option.some.injEq, Prod.mk.injEq] at h; rw [← h.2.2]; exact k
      case loop a =>
        simp only [bind, Option.bind_eq_some_iff] at h
        obtain ⟨⟨e1, tm1, σ1⟩, h1, h⟩ := h
        have k := ih _ _ _ _ _ _ _ h1
        cases e1 with
        | normal => exact k.trans (ih _ _ _ _ _ _ _ h)
        | _ => simp only [pure, Option.some.injEq, Prod.mk.injEq] at h; rw [← h.2.2]; exact k
      case scope a => exact ih _ _ _ _ _ _ _ h
      all_goals first
        | (simp [bad] at h; done)
        | (simp only [pure, Option.some.injEq, Prod.mk.injEq] at h; rw [← h.2.2]; exact Kept.refl _)

end
end Go.Proofs.Ytbhjhffglcipbaa.AS
namespace Go.Proofs.Ytbhjhffglcipbaa.AS
open Go
set_option linter.unusedSectionVars false
variable [Sym] [Orc]
set_option linter.unusedVariables false
set_option linter.unusedSimpArgs false

/-! ## edges -/
theorem testBit_ahead {n i : Nat} : Nat.beq ((n / 2 ^ i) % 2) 1 = n.testBit i := by
  rw [Nat.testBit_eq_decide_div_mod_eq]
  by_cases h : n / 2 ^ i % 2 = 1
  · rw [beq_t h]; simp [h]
  · rw [beq_f h]; simp [h]

theorem fold_bit (acc : List Nat) (i : Nat) : ∀ (es : List Edge) (s : Nat),
    (es.foldl (fun s e => if Region.binds .any e && Nat.blt e.on acc.length then Nat.lor (Nat.lor s (2 ^ e.on)) (acc.getD e.on 0) else s) s).testBit i = true →
    s.testBit i = true ∨ ∃ e ∈ es, Region.binds .any e = true ∧ e.on < acc.length ∧ (i = e.on ∨ (acc.getD e.on 0).testBit i = true) := by
  intro es
  induction es with
  | nil => intro s h; exact .inl h
  | cons e es ih =>
    intro s h
    simp only [List.foldl_cons] at h
    rcases ih _ h with h | ⟨e', h1, h2, h3, h4⟩
    · split at h
      · rename_i hc
        simp only [Bool.and_eq_true] at hc
        have e1 : Nat.lor (Nat.lor s (2 ^ e.on)) (acc.getD e.on 0) = (s ||| 2 ^ e.on) ||| acc.getD e.on 0 := rfl
        rw [e1, Nat.testBit_or, Nat.testBit_or] at h
        simp only [Bool.or_eq_true] at h
        rcases h with (h | h) | h
        · exact .inl h
        · rw [Nat.testBit_two_pow] at h
          exact .inr ⟨e, by simp, hc.1, of_blt hc.2, .inl (by simpa using h : e.on = i).symm⟩
        · exact .inr ⟨e, by simp, hc.1, of_blt hc.2, .inr h⟩
      · exact .inl h
    · exact .inr ⟨e', by simp [h1], h2, h3, h4⟩

theorem bef_spec (ops : Array Oper) : ∀ (l : List Oper) (acc : List Nat), (∀ j, l[j]? = ops[acc.length + j]?) →
    (∀ j i o, j < acc.length → ops[j]? = some o → (acc.getD j 0).testBit i = true → ∃ e ∈ o.after.toList, Region.binds .any e = true ∧ e.on < j ∧ (i = e.on ∨ (acc.getD e.on 0).testBit i = true)) →
    ∀ j i o, ops[j]? = some o → ((befOf ops l acc).getD j 0).testBit i = true → ∃ e ∈ o.after.toList, Region.binds .any e = true ∧ e.on < j ∧ (i = e.on ∨ ((befOf ops l acc).getD e.on 0).testBit i = true) := by
  intro l
  induction l with
  | nil =>
    intro acc hl hacc j i o ho hb
    simp only [befOf] at hb ⊢
    have : j < acc.length := by
      rcases Nat.lt_or_ge j acc.length with h | h
      · exact h
      · have := hl (j - acc.length)
        rw [show acc.length + (j - acc.length) = j by omega, ho] at this
        simp at this
    exact hacc j i o this ho hb
  | cons x l ih =>
    intro acc hl hacc j i o ho hb
    simp only [befOf] at hb ⊢
    have hx : ops[acc.length]? = some x := by have := hl 0; simpa using this.symm
    refine ih _ (fun j => by have := hl (j + 1); simp only [List.length_append, List.length_cons, List.length_nil]; rw [show acc.length + (0 + 1) + j = acc.length + (j + 1) by omega, ← this]; rfl) ?_ j i o ho hb
    intro j i o hj ho hb
    simp only [List.length_append, List.length_cons, List.length_nil] at hj
    by_cases h : j < acc.length
    · have e1 : ∀ k, k < acc.length → (acc ++ [x.after.toList.foldl (fun s e => if Region.binds .any e && Nat.blt e.on acc.length then Nat.lor (Nat.lor s (2 ^ e.on)) (acc.getD e.on 0) else s) 0]).getD k 0 = acc.getD k 0 := by
        intro k hk; simp [List.getD_eq_getElem?_getD, List.getElem?_append_left hk]
      rw [e1 j h] at hb
      obtain ⟨e, h1, h2, h3, h4⟩ := hacc j i o h ho hb
      exact ⟨e, h1, h2, h3, by rw [e1 _ (by omega)]; exact h4⟩
    · have hj' : j = acc.length := by omega
      subst hj'
      rw [hx] at ho; cases ho
      simp only [List.getD_eq_getElem?_getD, List.getElem?_concat_length, Option.getD_some] at hb
      rcases fold_bit acc i _ 0 (by simpa only [List.getD_eq_getElem?_getD] using hb) with h | ⟨e, h1, h2, h3, h4⟩
      · simp at h
      · exact ⟨e, h1, h2, h3, by
          rcases h4 with h4 | h4
          · exact .inl h4
          · right; simpa [List.getD_eq_getElem?_getD, List.getElem?_append_left h3] using h4⟩

theorem ahead_edge {ops : Array Oper} {i j : Nat} {o : Oper} (ho : ops[j]? = some o) (h : ahead (befOf ops ops.toList []) i j = true) :
    ∃ e ∈ o.after.toList, Region.binds .any e = true ∧ e.on < j ∧ (i = e.on ∨ ahead (befOf ops ops.toList []) i e.on = true) := by
  unfold ahead at h
  rw [testBit_ahead] at h
  obtain ⟨e, h1, h2, h3, h4⟩ := bef_spec ops ops.toList [] (fun j => by simp) (fun j i o hj => by simp at hj) j i o ho h
  exact ⟨e, h1, h2, h3, h4.imp id fun q => by unfold ahead; rw [testBit_ahead]; exact q⟩

/-! ## operations that look at little -/
section local_
variable {P : Program} [OrcOK P] {call : FuncId → List Value → St → R (Value × St)} {ops : Array Oper}

theorem plain_any {ev : Operand → Value} {o : Oper} {ne : Ne} {σ σ1 σ2 : St} (h : plainV P σ ev o = some (ne, σ1)) : σ1 = σ ∧ plainV P σ2 ev o = some (ne, σ2) ∧ ∃ v, ne = .val v := by
  unfold plainV at h ⊢
  split at h
  · rename_i hall
    rw [if_pos hall]
    split at h
    · rename_i v hpv
      split at h
      · rename_i hf
        simp only [pure, Option.some.injEq, Prod.mk.injEq] at h
        obtain ⟨rfl, rfl⟩ := h
        exact ⟨rfl, by simp [hf], _, rfl⟩
      · simp [bad] at h
    · simp [bad] at h
  · rename_i hall
    rw [if_neg hall]
    split at h
    · split at h
      · rename_i hf
        simp only [pure, Option.some.injEq, Prod.mk.injEq] at h
        obtain ⟨rfl, rfl⟩ := h
        exact ⟨rfl, if_pos hf, _, rfl⟩
      · simp [bad] at h
    · simp [bad] at h

theorem v0_any {r : R Value} {ne : Ne} {σ σ1 σ2 : St} (h : v0 σ r = some (ne, σ1)) : σ1 = σ ∧ v0 σ2 r = some (ne, σ2) ∧ ∃ v, ne = .val v := by
  obtain ⟨v, h1, rfl, rfl⟩ := v0_eq h
  exact ⟨rfl, by rw [h1]; rfl, v, rfl⟩

theorem val_any {v : Value} {ne : Ne} {σ σ1 σ2 : St} (h : (pure (Ne.val v, σ) : R (Ne × St)) = some (ne, σ1)) : σ1 = σ ∧ (pure (Ne.val v, σ2) : R (Ne × St)) = some (ne, σ2) ∧ ∃ v, ne = .val v := by
  simp only [pure, Option.some.injEq, Prod.mk.injEq] at h
  obtain ⟨rfl, rfl⟩ := h
  exact ⟨rfl, rfl, _, rfl⟩

/-- a quiet operation comes to the same over every memory -/
theorem pure_any {ev : Operand → Value} {o : Oper} {ne : Ne} {σ σ1 : St} (σ2 : St) (hp : pureOp P o.op = true) (h : opV P σ ev o = some (ne, σ1)) : σ1 = σ ∧ opV P σ2 ev o = some (ne, σ2) ∧ ∃ v, ne = .val v := by
  obtain ⟨dst, op, type, pos, after, guard⟩ := o
  cases op <;> simp only [opV] at h ⊢ <;> simp only [pureOp] at hp <;> try (cases hp; done)
  case move x => exact val_any h
  case assign x => exact val_any h
  case pick c a b =>
    split at h
    · exact val_any h
    · simp [bad] at h
  case nilCheck x =>
    split at h
    · exact val_any h
    · exact val_any h
    · simp [bad] at h
  case binOp b t x y yt =>
    split at h
    · exact val_any h
    · exact val_any h
    · exact plain_any h
  case unOp a b c => exact plain_any h
  case makeFunc fn a b =>
    cases fn <;> simp only [bad] at h <;> try (cases h; done)
    exact val_any h
  case build t ps =>
    split at h
    · rename_i hj; rw [if_pos hj]; exact v0_any h
    · simp [bad] at h
  case fieldAddr t x f => exact v0_any h
  case field t x f => exact v0_any h
  case indexAddr t x i => exact v0_any h
  case index t x i =>
    split at h
    · exact plain_any h
    · exact v0_any h
  case extract t i =>
    split at h
    · exact v0_any h
    · simp [bad] at h
  case slice t x l hh m =>
    split at hp
    · rename_i hu
      split at h
      · exact plain_any h
      · exfalso
        obtain ⟨v, h1, _⟩ := v0_eq h
        unfold sliceV at h1
        rw [hu] at h1
        simp [bad] at h1
    · cases hp
  case convert s d x =>
    unfold convertV at h ⊢
    split at h
    · rename_i h1 h2 h3; rw [h1, h2] at hp; simp at hp
    · rename_i h1 h2 h3; rw [h1, h2] at hp; simp at hp
    · exact plain_any h
  case call c =>
    obtain ⟨callee, args, argTypes⟩ := c
    cases callee with
    | invoke r m => simp at hp
    | value f => simp at hp
    | builtin b =>
      simp only [builtinV] at h ⊢
      cases b <;> simp only at hp h ⊢ <;> try (first | (cases hp; done) | (exact plain_any h))
      split at h
      · exact val_any h
      · rename_i k e r ht ha
        rw [ht] at hp; simp at hp
      · exact val_any h
      · exact plain_any h

/-- over every memory -/
theorem step_pure_any {o : Oper} {tm tm' : List Value} {σ σ1 : St} (σ2 : St) (hp : pureOp P o.op = true) (h : stepV P call ops o tm σ = some (tm', σ1)) : σ1 = σ ∧ stepV P call ops o tm σ2 = some (tm', σ2) := by
  unfold stepV at h ⊢
  split at h
  · simp [bad] at h
  · rename_i hw
    simp only [pure, Option.some.injEq, Prod.mk.injEq] at h
    obtain ⟨rfl, rfl⟩ := h
    exact ⟨rfl, rfl⟩
  · rename_i hw
    split at h
    · rename_i hok
      rw [if_pos hok]
      simp only [bind, Option.bind_eq_some_iff] at h
      obtain ⟨⟨ne, σ3⟩, h1, h⟩ := h
      obtain ⟨rfl, h2, v, rfl⟩ := pure_any σ2 hp h1
      simp only [pure, Option.some.injEq, Prod.mk.injEq] at h
      obtain ⟨rfl, rfl⟩ := h
      refine ⟨rfl, ?_⟩
      simp only [bind, Option.bind_eq_some_iff]
      exact ⟨_, h2, rfl⟩
    · simp [bad] at h

theorem loadV_local {σ σ2 : St} {t : TypeId} {a v : Value} {b : Nat} (hb : (match a with | .pointer (some a) => some a.block | _ => none) = some b) (hg : σ2.get b = σ.get b) (h : loadV P σ t a = some v) : loadV P σ2 t a = some v := by
  unfold loadV at h ⊢
  split at h
  · rename_i b' o
    simp only [Option.some.injEq] at hb; subst hb
    have : ∀ n, loadC σ2 b' o n = loadC σ b' o n := by intro n; unfold loadC; rw [hg]
    simp only [this]
    exact h
  · simp [bad] at h

theorem sliceV_local {σ σ2 : St} {t : TypeId} {x v : Value} {l h' m : Option Value} {b : Nat} (hb : (match x with | .slice (some a) _ _ => some a.block | _ => none) = some b) (hg : σ2.get b = σ.get b) (h : sliceV P σ t x l h' m = some v) : sliceV P σ2 t x l h' m = some v := by
  unfold sliceV at h ⊢
  split at h
  · rename_i e a n c hu
    cases a with
    | none => simp at hb
    | some a =>
      simp only [Option.some.injEq] at hb; subst hb
      have : ∀ s, cutOK σ2 a.block s = cutOK σ a.block s := by intro s; unfold cutOK; rw [hg]
      simp only [this]
      exact h
  · simp at hb
  · simp [bad] at h

/-- a plain load looks at one block alone -/
theorem step_load_local {o : Oper} {tm tm' : List Value} {σ σ1 σ2 : St} {b : Nat} (hb : loadsAt tm o.op = some b) (hg : σ2.get b = σ.get b) (hnp : pureOp P o.op = false) (h : stepV P call ops o tm σ = some (tm', σ1)) :
    σ1 = σ ∧ stepV P call ops o tm σ2 = some (tm', σ2) := by
  have key : ∀ {ne : Ne} {σ3 : St}, opV P σ (evalOp tm) o = some (ne, σ3) → σ3 = σ ∧ opV P σ2 (evalOp tm) o = some (ne, σ2) ∧ ∃ v, ne = .val v := by
    intro ne σ3 h
    obtain ⟨dst, op, type, pos, after, guard⟩ := o
    cases op <;> simp only [loadsAt] at hb <;> try (cases hb; done)
    case load t a =>
      simp only [opV] at h ⊢
      obtain ⟨v, h1, rfl, rfl⟩ := v0_eq h
      exact ⟨rfl, by rw [loadV_local hb hg h1]; rfl, v, rfl⟩
    case slice t x l hh m =>
      simp only [opV] at h ⊢
      split at h
      · rename_i s hs; rw [hs] at hb; simp at hb
      · obtain ⟨v, h1, rfl, rfl⟩ := v0_eq h
        exact ⟨rfl, by rw [sliceV_local hb hg h1]; rfl, v, rfl⟩
  unfold stepV at h ⊢
  split at h
  · simp [bad] at h
  · rename_i hw
    simp only [pure, Option.some.injEq, Prod.mk.injEq] at h
    obtain ⟨rfl, rfl⟩ := h
    exact ⟨rfl, rfl⟩
  · rename_i hw
    split at h
    · rename_i hok
      rw [if_pos hok]
      simp only [bind, Option.bind_eq_some_iff] at h
      obtain ⟨⟨ne, σ3⟩, h1, h⟩ := h
      obtain ⟨rfl, h2, v, rfl⟩ := key h1
      simp only [pure, Option.some.injEq, Prod.mk.injEq] at h
      obtain ⟨rfl, rfl⟩ := h
      refine ⟨rfl, ?_⟩
      simp only [bind, Option.bind_eq_some_iff]
      exact ⟨_, h2, rfl⟩
    · simp [bad] at h
end local_

/-! ## the run in the order of the text -/
structure Tra (P : Program) (call : FuncId → List Value → St → R (Value × St)) (ops : Array Oper) (bef : List Nat) (pre : List (Nat × Nat)) (n : Nat) where
  tm : Nat → List Value
  σ : Nat → St
  d : Nat → Dr
  s : Nat → St
  o : Nat → Oper
  ho : ∀ k, k < n → ops[k]? = some (o k)
  quiet : ∀ k, k < n → pureOp P (o k).op = true → stepV P call ops (o k) (tm k) (σ k) = some (tm (k + 1), σ (k + 1)) ∧ d (k + 1) = d k
  loud : ∀ k, k < n → pureOp P (o k).op = false → stepV P call ops (o k) (tm k) (seen (σ k) (hidden bef pre (d k).wr k)) = some (tm (k + 1), s k) ∧ writesOK bef pre (d k).ld k (s k).log = true ∧
    σ (k + 1) = back (σ k) (s k) (hidden bef pre (d k).wr k) ∧ d (k + 1) = { wr := if (s k).log.isEmpty then (d k).wr else (k, (s k).log) :: (d k).wr, ld := (k, loadsAt (tm k) (o k).op) :: (d k).ld }
  d0 : d 0 = ⟨[], []⟩

section tra
variable {P : Program} [OrcOK P] {call : FuncId → List Value → St → R (Value × St)} {ops : Array Oper} {bef : List Nat} {pre : List (Nat × Nat)} {n : Nat}

theorem drawTo_le {tm : List Value} {σ : St} : ∀ (m k : Nat), k ≤ m → ∀ {r}, drawTo P call ops bef pre tm σ m = some r → ∃ r', drawTo P call ops bef pre tm σ k = some r' := by
  intro m
  induction m with
  | zero => intro k hk r h; have : k = 0 := by omega
            subst this; exact ⟨r, h⟩
  | succ m ih =>
    intro k hk r h
    by_cases e : k = m + 1
    · subst e; exact ⟨r, h⟩
    · simp only [drawTo, bind, Option.bind_eq_some_iff] at h
      obtain ⟨r1, h1, _⟩ := h
      exact ih k (by omega) h1

theorem tra_of {tm0 tmN : List Value} {σ0 σN : St} {dN : Dr} (h : drawTo P call ops bef pre tm0 σ0 n = some (tmN, σN, dN)) :
    ∃ T : Tra P call ops bef pre n, T.tm 0 = tm0 ∧ T.σ 0 = σ0 ∧ T.tm n = tmN ∧ T.σ n = σN := by
  classical
  let X : Nat → List Value × St × Dr := fun k => (drawTo P call ops bef pre tm0 σ0 k).getD (tm0, σ0, ⟨[], []⟩)
  have hX : ∀ k, k ≤ n → drawTo P call ops bef pre tm0 σ0 k = some (X k) := by
    intro k hk
    obtain ⟨r, hr⟩ := drawTo_le n k hk h
    simp only [X, hr, Option.getD_some]
  have hstep : ∀ k, k < n → ∃ o, ops[k]? = some o ∧ drawOne P call ops bef pre o k (X k).1 (X k).2.1 (X k).2.2 = some (X (k + 1)) := by
    intro k hk
    have h1 := hX (k + 1) (by omega)
    simp only [drawTo, hX k (by omega), bind, Option.bind_some] at h1
    split at h1
    · rename_i o ho; exact ⟨o, ho, h1⟩
    · simp [bad] at h1
  let o : Nat → Oper := fun k => (ops[k]?).getD default
  have ho : ∀ k, k < n → ops[k]? = some (o k) := by
    intro k hk; obtain ⟨p, hp, _⟩ := hstep k hk; simp only [o, hp, Option.getD_some]
  have hone : ∀ k, k < n → drawOne P call ops bef pre (o k) k (X k).1 (X k).2.1 (X k).2.2 = some (X (k + 1)) := by
    intro k hk; obtain ⟨p, hp, h1⟩ := hstep k hk; have := ho k hk; rw [hp] at this; cases this; exact h1
  let s : Nat → St := fun k => if q : ∃ σ1, stepV P call ops (o k) (X k).1 (seen (X k).2.1 (hidden bef pre (X k).2.2.wr k)) = some ((X (k + 1)).1, σ1) then Classical.choose q else default
  have h0 := hX 0 (by omega)
  simp only [drawTo, pure, Option.some.injEq] at h0
  have hn := hX n (Nat.le_refl _)
  rw [h] at hn
  simp only [Option.some.injEq] at hn
  refine ⟨⟨fun k => (X k).1, fun k => (X k).2.1, fun k => (X k).2.2, s, o, ho, ?_, ?_, ?_⟩, ?_, ?_, ?_, ?_⟩
  · intro k hk hp
    rcases one_eq (tm' := (X (k + 1)).1) (σ' := (X (k + 1)).2.1) (d' := (X (k + 1)).2.2) (hone k hk) with ⟨_, h1, h2⟩ | ⟨h1, _⟩
    · exact ⟨h1, h2⟩
    · rw [hp] at h1; cases h1
  · intro k hk hp
    rcases one_eq (tm' := (X (k + 1)).1) (σ' := (X (k + 1)).2.1) (d' := (X (k + 1)).2.2) (hone k hk) with ⟨h1, _⟩ | ⟨_, σ1, h1, h2, h3, h4⟩
    · rw [hp] at h1; cases h1
    · have hs : s k = σ1 := by
        have hq : ∃ σ1, stepV P call ops (o k) (X k).1 (seen (X k).2.1 (hidden bef pre (X k).2.2.wr k)) = some ((X (k + 1)).1, σ1) := ⟨σ1, h1⟩
        simp only [s, dif_pos hq]
        have := (Option.some.inj ((Classical.choose_spec hq).symm.trans h1))
        exact (Prod.mk.inj this).2
      show _ ∧ writesOK bef pre (X k).2.2.ld k (s k).log = true ∧ _
      rw [hs]
      exact ⟨h1, h2, h3, h4⟩
  · show (X 0).2.2 = _; rw [← h0]
  · show (X 0).1 = _; rw [← h0]
  · show (X 0).2.1 = _; rw [← h0]
  · show (X n).1 = _; rw [← hn]
  · show (X n).2.1 = _; rw [← hn]

namespace Tra
variable (T : Tra P call ops bef pre n) (hc : KeptCall call)

def H (k : Nat) : List Nat := hidden bef pre (T.d k).wr k
def isLoud (k : Nat) : Prop := pureOp P (T.o k).op = false
/-- the operation k wrote the block b, or made it -/
def touch (k b : Nat) : Prop := T.isLoud k ∧ (b ∈ (T.s k).log ∨ ((T.σ k).next ≤ b ∧ b < (T.σ (k + 1)).next))

include hc in
theorem kept {k : Nat} (hk : k < n) (hl : T.isLoud k) : Kept0 (seen (T.σ k) (T.H k)) (T.s k) :=
  step_kept hc (T.loud k hk hl).1 (Nat.le_refl _)
theorem quiet_same {k : Nat} (hk : k < n) (hp : pureOp P (T.o k).op = true) : T.σ (k + 1) = T.σ k :=
  (step_pure_any (T.σ k) hp (T.quiet k hk hp).1).1
theorem pure_or_loud (k : Nat) : pureOp P (T.o k).op = true ∨ T.isLoud k := by
  unfold isLoud; cases pureOp P (T.o k).op <;> simp

include hc in
theorem next_le {k : Nat} (hk : k < n) : (T.σ k).next ≤ (T.σ (k + 1)).next := by
  rcases T.pure_or_loud k with h | h
  · rw [T.quiet_same hk h]; exact Nat.le_refl _
  · rw [(T.loud k hk h).2.2.1]; exact (T.kept hc hk h).next
include hc in
theorem next_mono {j k : Nat} (hjk : j ≤ k) (hk : k ≤ n) : (T.σ j).next ≤ (T.σ k).next := by
  induction k with
  | zero => have : j = 0 := by omega
            subst this; exact Nat.le_refl _
  | succ k ih =>
    by_cases e : j = k + 1
    · subst e; exact Nat.le_refl _
    · exact Nat.le_trans (ih (by omega) (by omega)) (T.next_le hc (by omega))
theorem mark_eq {k : Nat} (hk : k < n) : (T.σ (k + 1)).mark = (T.σ k).mark := by
  rcases T.pure_or_loud k with h | h
  · rw [T.quiet_same hk h]
  · rw [(T.loud k hk h).2.2.1]; rfl
theorem mark0 {k : Nat} (hk : k ≤ n) : (T.σ k).mark = (T.σ 0).mark := by
  induction k with
  | zero => rfl
  | succ k ih => rw [T.mark_eq (by omega), ih (by omega)]
/-- what was written is old, was there, and was not hidden -/
theorem log_lt {k b : Nat} (hc : KeptCall call) (hk : k < n) (hl : T.isLoud k) (hb : b ∈ (T.s k).log) : b < (T.σ k).next ∧ b ∉ T.H k ∧ ∃ o, (T.σ k).get b = some o ∧ writable o = true := by
  rcases (T.kept hc hk hl).logd b hb with h | ⟨h1, o, h2, h3⟩
  · cases h
  · rw [seen_get] at h2
    split at h2
    · cases h2
    · rename_i hne; exact ⟨h1, hne, o, h2, h3⟩
theorem untouched {k b : Nat} (hc : KeptCall call) (hk : k < n) (hb : b < (T.σ k).next) (ht : ¬ T.touch k b) : (T.σ (k + 1)).get b = (T.σ k).get b := by
  rcases T.pure_or_loud k with h | h
  · rw [T.quiet_same hk h]
  · have hnl : b ∉ (T.s k).log := fun q => ht ⟨h, .inl q⟩
    have h4 := (T.kept hc hk h).get b hb hnl
    rw [seen_get] at h4
    rw [(T.loud k hk h).2.2.1, back_get', h4]
    show (if b ∈ T.H k then (match (T.σ k).get b with | some o => some o | none => if b ∈ T.H k then none else (T.σ k).get b) else if b ∈ T.H k then none else (T.σ k).get b) = _
    split
    · cases (T.σ k).get b <;> rfl
    · rfl
theorem s_next {k : Nat} (hk : k < n) (hl : T.isLoud k) : (T.σ (k + 1)).next = (T.s k).next := by rw [(T.loud k hk hl).2.2.1]; rfl
/-- hidden blocks are old -/
theorem wr_lt (hc : KeptCall call) {k : Nat} (hk : k ≤ n) : ∀ i m, (i, m) ∈ (T.d k).wr → i < k ∧ T.isLoud i ∧ m = (T.s i).log := by
  induction k with
  | zero => intro i m h; rw [T.d0] at h; cases h
  | succ k ih =>
    intro i m h
    rcases T.pure_or_loud k with hp | hl
    · rw [(T.quiet k (by omega) hp).2] at h
      obtain ⟨h1, h2, h3⟩ := ih (by omega) i m h
      exact ⟨by omega, h2, h3⟩
    · rw [(T.loud k (by omega) hl).2.2.2] at h
      simp only at h
      split at h
      · obtain ⟨h1, h2, h3⟩ := ih (by omega) i m h
        exact ⟨by omega, h2, h3⟩
      · rcases List.mem_cons.1 h with h | h
        · cases h; exact ⟨by omega, hl, rfl⟩
        · obtain ⟨h1, h2, h3⟩ := ih (by omega) i m h
          exact ⟨by omega, h2, h3⟩
theorem wr_mem {i : Nat} : ∀ {k : Nat}, k ≤ n → i < k → T.isLoud i → (T.s i).log ≠ [] → (i, (T.s i).log) ∈ (T.d k).wr := by
  intro k
  induction k with
  | zero => intro _ h; omega
  | succ k ih =>
    intro hk hi hl hne
    rcases T.pure_or_loud k with hp | hlk
    · rw [(T.quiet k (by omega) hp).2]
      have : i ≠ k := fun e => by subst e; unfold isLoud at hl; rw [hp] at hl; cases hl
      exact ih (by omega) (by omega) hl hne
    · rw [(T.loud k (by omega) hlk).2.2.2]
      by_cases e : i = k
      · subst e
        simp only
        have : (T.s i).log.isEmpty = false := by cases hh : (T.s i).log <;> simp_all
        rw [this]; simp
      · have := ih (by omega) (by omega) hl hne
        simp only
        split
        · exact this
        · exact List.mem_cons.2 (.inr this)
theorem ld_mem {i : Nat} : ∀ {k : Nat}, k ≤ n → i < k → T.isLoud i → (i, loadsAt (T.tm i) (T.o i).op) ∈ (T.d k).ld := by
  intro k
  induction k with
  | zero => intro _ h; omega
  | succ k ih =>
    intro hk hi hl
    rcases T.pure_or_loud k with hp | hlk
    · rw [(T.quiet k (by omega) hp).2]
      have : i ≠ k := fun e => by subst e; unfold isLoud at hl; rw [hp] at hl; cases hl
      exact ih (by omega) (by omega) hl
    · rw [(T.loud k (by omega) hlk).2.2.2]
      by_cases e : i = k
      · subst e; simp
      · exact List.mem_cons.2 (.inr (ih (by omega) (by omega) hl))

/-- what an operation wrote is hidden from a later one that does not stand behind it -/
theorem hidden_wr {i j b : Nat} (hj : j < n) (hij : i < j) (hl : T.isLoud i) (hb : b ∈ (T.s i).log) (ha : ahead bef i j = false) : b ∈ T.H j := by
  unfold H hidden
  refine List.mem_append.2 (.inl (List.mem_flatMap.2 ⟨(i, (T.s i).log), List.mem_filter.2 ⟨T.wr_mem (by omega) hij hl (fun e => by rw [e] at hb; cases hb), by simp [ha]⟩, hb⟩))
/-- what a later one wrote, that does not stand behind an earlier one, is hidden from that, or that is a plain load of another block -/
theorem hidden_pre {i j b : Nat} (hi : i < n) (hij : j < i) (hli : T.isLoud i) (hlj : T.isLoud j) (hb : b ∈ (T.s i).log) (ha : ahead bef j i = false) :
    b ∈ T.H j ∨ ∃ b0, loadsAt (T.tm j) (T.o j).op = some b0 ∧ b ≠ b0 := by
  have hw := (T.loud i hi hli).2.1
  unfold writesOK at hw
  simp only [Bool.or_eq_true] at hw
  rcases hw with hw | hw
  · left
    have := List.all_eq_true.1 hw b hb
    obtain ⟨⟨i', c⟩, h1, h2⟩ := List.any_eq_true.1 this
    simp only [Bool.and_eq_true] at h2
    have e1 := of_beq h2.1
    have e2 := of_beq h2.2
    subst e1 e2
    unfold H hidden
    refine List.mem_append.2 (.inr (List.mem_map.2 ⟨(i', b), List.mem_filter.2 ⟨h1, ?_⟩, rfl⟩))
    simp only [Bool.and_eq_true]
    exact ⟨by simpa [Nat.blt_eq] using hij, by simp [ha]⟩
  · right
    have := List.all_eq_true.1 hw _ (T.ld_mem (by omega) hij hlj)
    simp only [ha, Bool.false_or] at this
    cases hq : loadsAt (T.tm j) (T.o j).op with
    | none => rw [hq] at this; simp at this
    | some b0 =>
      rw [hq] at this
      refine ⟨b0, rfl, fun e => ?_⟩
      subst e
      have h2 : (T.s i).log.any (Nat.beq b) = true := List.any_eq_true.2 ⟨b, hb, beq_t rfl⟩
      simp [h2] at this
end Tra
end tra
end Go.Proofs.Ytbhjhffglcipbaa.AS
namespace Go.Proofs.Ytbhjhffglcipbaa.AS
open Go
set_option linter.unusedSectionVars false
variable [Sym] [Orc]
set_option linter.unusedVariables false
set_option linter.unusedSimpArgs false

/-! ## the map of blocks, cut off -/
def cut (ρ : Rho) (m : Nat) : Rho := fun b => if b < m then ρ b else none
theorem cut_some {ρ : Rho} {m b : Nat} {l : Loc} : cut ρ m b = some l ↔ b < m ∧ ρ b = some l := by
  unfold cut; split <;> simp [*]
theorem cut_le (ρ : Rho) (m : Nat) : (cut ρ m).le ρ := fun b l h => (cut_some.1 h).2
theorem cut_mono {ρ ρ' : Rho} {m m' : Nat} (h : ρ.le ρ') (hm : m ≤ m') : (cut ρ m).le (cut ρ' m') := fun b l q =>
  let ⟨a, c⟩ := cut_some.1 q; cut_some.2 ⟨Nat.lt_of_lt_of_le a hm, h _ _ c⟩

/-! ## a memory laid over another -/
def layOver (σ1 : St) (t : Tr) : List Nat → Tr
  | [] => t
  | b :: r => layOver σ1 (t.set (σ1.get b) depth b) r
theorem layOver_get (σ1 : St) : ∀ (l : List Nat) (t : Tr) (b : Nat), b < most → (layOver σ1 t l).get b = if b ∈ l then σ1.get b else t.get b := by
  intro l
  induction l with
  | nil => intro t b _; simp [layOver]
  | cons x l ih =>
    intro t b hb
    simp only [layOver, ih _ b hb, Tr.get_set]
    by_cases e : b = x
    · subst e; simp [most_lt hb]
    · simp [e]

section
open Classical
variable {P : Program} [OrcOK P] {call : FuncId → List Value → St → R (Value × St)} {ops : Array Oper} {bef : List Nat} {pre : List (Nat × Nat)} {n : Nat}
variable (T : Tra P call ops bef pre n)

namespace Tra
/-- the memory that the operations of S alone have left -/
noncomputable def V (S : Nat → Prop) : Nat → St
  | 0 => T.σ 0
  | k + 1 => if S k ∧ T.isLoud k then
      { next := (T.σ 0).next, mark := (T.σ 0).mark, log := noteAll (T.σ 0).mark (T.s k).log (V S k).log,
        mem := layOver (T.σ (k + 1)) (V S k).mem ((T.s k).log ++ List.range' (T.σ k).next ((T.σ (k + 1)).next - (T.σ k).next)) }
    else V S k
/-- the slots that they have left -/
noncomputable def θ (S : Nat → Prop) : Nat → Nat → Value
  | 0, t => (T.tm 0).getD t undef
  | k + 1, t => if S k ∧ (T.o k).dst = some t then (T.tm (k + 1)).getD t undef else θ S k t

theorem V_next (S : Nat → Prop) (k : Nat) : (T.V S k).next = (T.σ 0).next ∧ (T.V S k).mark = (T.σ 0).mark := by
  induction k with
  | zero => exact ⟨rfl, rfl⟩
  | succ k ih => simp only [V]; split <;> first | exact ⟨rfl, rfl⟩ | exact ih

theorem V_get {S : Nat → Prop} {k b : Nat} : (T.V S (k + 1)).get b = if S k ∧ T.touch k b then (T.σ (k + 1)).get b else (T.V S k).get b := by
  simp only [V]
  by_cases h : S k ∧ T.isLoud k
  · rw [if_pos h]
    have hm : b ∈ (T.s k).log ++ List.range' (T.σ k).next ((T.σ (k + 1)).next - (T.σ k).next) ↔ (S k ∧ T.touch k b) := by
      unfold touch
      simp only [List.mem_append, List.mem_range'_1, h.1, h.2, true_and]
      constructor
      · rintro (h | h)
        · exact .inl h
        · exact .inr ⟨h.1, by omega⟩
      · rintro (h | h)
        · exact .inl h
        · exact .inr ⟨h.1, by omega⟩
    by_cases hb : b < most
    · rw [St.get_eq hb]
      simp only [layOver_get _ _ _ _ hb]
      by_cases q : S k ∧ T.touch k b
      · rw [if_pos q, if_pos (hm.2 q)]
      · rw [if_neg q, if_neg (fun z => q (hm.1 z)), St.get_eq hb]
    · simp [St.get, blt_f (by omega : most ≤ b)]
  · rw [if_neg h, if_neg (fun q => h ⟨q.1, q.2.1⟩)]

theorem V_log {S : Nat → Prop} {b : Nat} : ∀ {k : Nat}, b ∈ (T.V S k).log ↔ b ∈ (T.σ 0).log ∨ (b < (T.σ 0).mark ∧ ∃ i, i < k ∧ S i ∧ T.isLoud i ∧ b ∈ (T.s i).log) := by
  intro k
  induction k with
  | zero => simp [V]
  | succ k ih =>
    simp only [V]
    split
    · rename_i h
      show b ∈ noteAll _ _ _ ↔ _
      rw [mem_noteAll, ih]
      constructor
      · rintro ((h1 | ⟨h1, i, h2, h3⟩) | ⟨h1, h2⟩)
        · exact .inl h1
        · exact .inr ⟨h1, i, by omega, h3⟩
        · exact .inr ⟨h2, k, by omega, h.1, h.2, h1⟩
      · rintro (h1 | ⟨h1, i, h2, h3⟩)
        · exact .inl (.inl h1)
        · by_cases e : i = k
          · subst e; exact .inr ⟨h3.2.2, h1⟩
          · exact .inl (.inr ⟨h1, i, by omega, h3⟩)
    · rename_i h
      rw [ih]
      constructor
      · rintro (h1 | ⟨h1, i, h2, h3⟩)
        · exact .inl h1
        · exact .inr ⟨h1, i, by omega, h3⟩
      · rintro (h1 | ⟨h1, i, h2, h3⟩)
        · exact .inl h1
        · by_cases e : i = k
          · subst e; exact absurd ⟨h3.1, h3.2.1⟩ h
          · exact .inr ⟨h1, i, by omega, h3⟩

theorem V_no {S S' : Nat → Prop} {j b : Nat} (hS : ∀ i, S' i ↔ (S i ∨ i = j)) (ht : ¬ T.touch j b) : ∀ k, (T.V S' k).get b = (T.V S k).get b := by
  intro k
  induction k with
  | zero => rfl
  | succ k ih =>
    rw [T.V_get, T.V_get, ih]
    by_cases e : k = j
    · subst e; rw [if_neg (fun q => ht q.2), if_neg (fun q => ht q.2)]
    · have : S' k ↔ S k := by rw [hS]; simp [e]
      rw [this]
theorem V_const {S : Nat → Prop} {j b : Nat} (h : ∀ i, S i → T.touch i b → i < j) : ∀ k, j ≤ k → (T.V S k).get b = (T.V S j).get b := by
  intro k
  induction k with
  | zero => intro hk; have : j = 0 := by omega
            subst this; rfl
  | succ k ih =>
    intro hk
    by_cases e : j = k + 1
    · subst e; rfl
    · rw [T.V_get, if_neg (fun q => by have := h k q.1 q.2; omega), ih (by omega)]
theorem V_last {S : Nat → Prop} {j b : Nat} (hj : S j) (ht : T.touch j b) (h : ∀ i, S i → T.touch i b → i ≤ j) {k : Nat} (hk : j < k) : (T.V S k).get b = (T.σ (j + 1)).get b := by
  rw [T.V_const (j := j + 1) (fun i h1 h2 => Nat.lt_succ_of_le (h i h1 h2)) k hk, T.V_get, if_pos ⟨hj, ht⟩]
theorem V_agree (hc : KeptCall call) {S : Nat → Prop} {b : Nat} : ∀ k, k ≤ n → (∀ i, i < k → T.touch i b → S i) → b < (T.σ k).next → (T.V S k).get b = (T.σ k).get b := by
  intro k
  induction k with
  | zero => intro _ _ _; rfl
  | succ k ih =>
    intro hk h hb
    rw [T.V_get]
    by_cases e : T.touch k b
    · rw [if_pos ⟨h k (by omega) e, e⟩]
    · rw [if_neg (fun q => e q.2)]
      have hb' : b < (T.σ k).next := by
        rcases T.pure_or_loud k with hp | hl
        · rw [T.quiet_same (by omega) hp] at hb; exact hb
        · rcases Nat.lt_or_ge b (T.σ k).next with q | q
          · exact q
          · exact absurd ⟨hl, .inr ⟨q, hb⟩⟩ e
      rw [ih (by omega) (fun i hi => h i (by omega)) hb', T.untouched hc (by omega) hb' e]

theorem tm_step {k : Nat} (hk : k < n) : ∃ v, T.tm (k + 1) = putV (T.tm k) (T.o k).dst v := by
  rcases T.pure_or_loud k with hp | hl
  · exact step_tm (T.quiet k hk hp).1
  · exact step_tm (T.loud k hk hl).1
theorem putV_getD_ne {tm : List Value} {d : Option Tmp} {v : Value} {t : Nat} (h : d ≠ some t) : (putV tm d v).getD t undef = tm.getD t undef := by
  cases d with
  | none => rfl
  | some d =>
    have : d ≠ t := fun e => h (by rw [e])
    simp [putV, List.getD_eq_getElem?_getD, List.getElem?_set_ne this]
theorem putV_length {tm : List Value} {d : Option Tmp} {v : Value} : (putV tm d v).length = tm.length := by
  cases d <;> simp [putV]
theorem tm_len {k : Nat} (hk : k ≤ n) : (T.tm k).length = (T.tm 0).length := by
  induction k with
  | zero => rfl
  | succ k ih => obtain ⟨v, h⟩ := T.tm_step (by omega : k < n); rw [h, putV_length, ih (by omega)]

theorem θ_no {S S' : Nat → Prop} {j t : Nat} (hS : ∀ i, S' i ↔ (S i ∨ i = j)) (ht : (T.o j).dst ≠ some t) : ∀ k, T.θ S' k t = T.θ S k t := by
  intro k
  induction k with
  | zero => rfl
  | succ k ih =>
    simp only [θ, ih]
    by_cases e : k = j
    · subst e; rw [if_neg (fun q => ht q.2), if_neg (fun q => ht q.2)]
    · have : S' k ↔ S k := by rw [hS]; simp [e]
      simp only [this]
theorem θ_const {S : Nat → Prop} {j t : Nat} (h : ∀ i, S i → (T.o i).dst = some t → i < j ∨ n ≤ i) : ∀ k, j ≤ k → k ≤ n → T.θ S k t = T.θ S j t := by
  intro k
  induction k with
  | zero => intro hk _; have : j = 0 := by omega
            subst this; rfl
  | succ k ih =>
    intro hk hn
    by_cases e : j = k + 1
    · subst e; rfl
    · rw [θ, if_neg (fun q => by have := h k q.1 q.2; omega), ih (by omega) (by omega)]
theorem θ_agree {S : Nat → Prop} {t : Nat} : ∀ k, k ≤ n → (∀ i, i < k → (T.o i).dst = some t → S i) → T.θ S k t = (T.tm k).getD t undef := by
  intro k
  induction k with
  | zero => intro _ _; rfl
  | succ k ih =>
    intro hk h
    rw [θ]
    by_cases e : (T.o k).dst = some t
    · rw [if_pos ⟨h k (by omega) e, e⟩]
    · obtain ⟨v, hv⟩ := T.tm_step (by omega : k < n)
      rw [if_neg (fun q => e q.2), ih (by omega) (fun i hi => h i (by omega)), hv, putV_getD_ne e]
end Tra
end
end Go.Proofs.Ytbhjhffglcipbaa.AS
namespace Go.Proofs.Ytbhjhffglcipbaa.AS
open Go
set_option linter.unusedSectionVars false
variable [Sym] [Orc]
set_option linter.unusedVariables false
set_option linter.unusedSimpArgs false

theorem put_getD_ne {a : Act} {d : Option Tmp} {v : Value} {t : Nat} (h : d ≠ some t) : (a.put d v).tmps.getD t undef = a.tmps.getD t undef := by
  cases d with
  | none => rfl
  | some d =>
    have : d ≠ t := fun e => h (by rw [e])
    simp [Act.put, Array.getD_eq_getD_getElem?, Array.getElem?_setIfInBounds_ne this]
theorem put_size {a : Act} {d : Option Tmp} {v : Value} : (a.put d v).tmps.size = a.tmps.size := by
  cases d <;> simp [Act.put]
theorem put_getD_VR {ρ : Rho} {a : Act} {tm : List Value} {t : Nat} {v v' : Value} (hlen : tm.length = a.tmps.size) (hv : VR ρ v v') :
    VR ρ ((putV tm (some t) v).getD t undef) ((a.put (some t) v').tmps.getD t undef) := by
  by_cases h : t < tm.length
  · have h' : t < a.tmps.size := hlen ▸ h
    simp only [putV, Act.put, List.getD_eq_getElem?_getD, Array.getD_eq_getD_getElem?]
    rw [List.getElem?_set_self h, Array.getElem?_setIfInBounds_self_of_lt h']
    exact hv
  · have h' : ¬ t < a.tmps.size := hlen ▸ h
    simp only [putV, Act.put, List.getD_eq_getElem?_getD, Array.getD_eq_getD_getElem?]
    rw [List.getElem?_eq_none (by simp; omega), Array.getElem?_eq_none (by simp; omega)]
    exact undef_VR

section
open Classical
variable {P : Program} [OrcOK P] {call : FuncId → List Value → St → R (Value × St)} {ops : Array Oper} {bef : List Nat} {pre : List (Nat × Nat)} {n : Nat}
variable (T : Tra P call ops bef pre n)

namespace Tra
structure Inv (ρ0 : Rho) (w0 : World) (a0 : Act) (S : Nat → Prop) (ρ : Rho) (w : World) (a : Act) : Prop where
  bd : ∀ i, S i → i < n
  down : ∀ i, S i → ∀ e ∈ (T.o i).after.toList, Region.binds .any e = true → S e.on
  dom : ∀ b l, ρ b = some l → b < (T.σ 0).next ∨ ∃ i, S i ∧ (T.σ i).next ≤ b ∧ b < (T.σ (i + 1)).next
  ldom : ∀ i b, S i → T.isLoud i → b ∈ (T.s i).log → ∃ l, ρ b = some l
  ob : ∀ b o l q, q ≤ n → (∀ i, S i → T.touch i b → i < q) → (T.V S n).get b = some o → ρ b = some l → ObR (cut ρ (T.σ q).next) w l o
  sep : ∀ b b' o o' l l', b ≠ b' → (T.V S n).get b = some o → writable o = true → (T.V S n).get b' = some o' → ρ b = some l → ρ b' = some l' → l.pb ≠ l'.pb
  size : a.tmps.size = (T.tm 0).length
  tmp : ∀ t q, q ≤ n → (∀ i, S i → (T.o i).dst = some t → i < q) → VR (cut ρ (T.σ q).next) (T.θ S n t) (a.tmps.getD t undef)
  defers : a.defers = a0.defers
  ext : Ext ρ0 (T.σ 0) w0 ρ (T.V S n) w

variable {T}
variable {S : Nat → Prop} {ρ0 ρ : Rho} {w0 w : World} {a0 a : Act}

theorem ahead_S (hbef : bef = befOf ops ops.toList []) (hd : ∀ i, S i → ∀ e ∈ (T.o i).after.toList, Region.binds .any e = true → S e.on) {i : Nat} : ∀ (m k : Nat), k < m → k < n →
    (∀ e ∈ (T.o k).after.toList, Region.binds .any e = true → S e.on) → ahead bef i k = true → S i := by
  intro m
  induction m with
  | zero => intro k hk; omega
  | succ m ih =>
    intro k hk hkn hr ha
    rw [hbef] at ha
    obtain ⟨e, h1, h2, h3, h4⟩ := ahead_edge (T.ho k hkn) ha
    have hS := hr e h1 h2
    rcases h4 with rfl | h4
    · exact hS
    · rw [← hbef] at h4
      exact ih e.on (by omega) (by omega) (hd e.on hS) h4

theorem H_lt (hc : KeptCall call) (hpre : ∀ i b, (i, b) ∈ pre → b < (T.σ 0).next) {j b : Nat} (hj : j < n) (h : b ∈ T.H j) : b < (T.σ j).next := by
  unfold H hidden at h
  rcases List.mem_append.1 h with h | h
  · obtain ⟨⟨i, m⟩, h1, h2⟩ := List.mem_flatMap.1 h
    obtain ⟨h3, h4, h5⟩ := T.wr_lt hc (by omega) i m (List.mem_filter.1 h1).1
    simp only at h2
    subst h5
    exact Nat.lt_of_lt_of_le (T.log_lt hc (by omega) h4 h2).1 (T.next_mono hc (by omega) (by omega))
  · obtain ⟨⟨i, c⟩, h1, h2⟩ := List.mem_map.1 h
    simp only at h2; subst h2
    exact Nat.lt_of_lt_of_le (hpre i c (List.mem_filter.1 h1).1) (T.next_mono hc (by omega) (by omega))

/-- what a ready operation sees is what there is -/
theorem agree (hc : KeptCall call) (hbef : bef = befOf ops ops.toList []) (I : T.Inv ρ0 w0 a0 S ρ w a) {j b : Nat} {l : Loc} (hj : j < n) (hjS : ¬ S j)
    (hr : ∀ e ∈ (T.o j).after.toList, Region.binds .any e = true → S e.on) (hlj : T.isLoud j) (hb : ρ b = some l) (hbn : b < (T.σ j).next) (hH : b ∉ T.H j)
    (hl : ∀ b0, loadsAt (T.tm j) (T.o j).op = some b0 → b = b0) :
    (T.V S n).get b = (T.σ j).get b ∧ ∀ i, S i → T.touch i b → i < j := by
  have h1 : ∀ i, S i → T.touch i b → i < j := by
    intro i hi ht
    rcases Nat.lt_or_ge i j with q | q
    · exact q
    · exfalso
      have hne : i ≠ j := fun e => hjS (e ▸ hi)
      have hin := I.bd i hi
      rcases ht with ⟨hli, ht | ht⟩
      · have hna : ahead bef j i = false := by
          cases hh : ahead bef j i with
          | false => rfl
          | true => exact absurd (ahead_S (T := T) hbef I.down (i + 1) i (by omega) hin (I.down i hi) hh) hjS
        rcases T.hidden_pre hin (by omega) hli hlj ht hna with q | ⟨b0, q1, q2⟩
        · exact hH q
        · exact q2 (hl b0 q1)
      · have := T.next_mono hc (by omega : j ≤ i) (by omega)
        omega
  refine ⟨?_, h1⟩
  rw [T.V_const h1 n (by omega)]
  refine T.V_agree hc j (by omega) (fun i hi ht => ?_) hbn
  rcases ht with ⟨hli, ht | ht⟩
  · cases ha : ahead bef i j with
    | false => exact absurd (T.hidden_wr hj hi hli ht ha) hH
    | true => exact ahead_S (T := T) hbef I.down (j + 1) j (by omega) hj hr ha
  · rcases I.dom b l hb with q | ⟨i', q1, q2, q3⟩
    · have := T.next_mono hc (by omega : 0 ≤ i) (by omega)
      omega
    · have : i' = i := by
        rcases Nat.lt_trichotomy i' i with q | q | q
        · have := T.next_mono hc (by omega : i' + 1 ≤ i) (by omega); omega
        · exact q
        · have := T.next_mono hc (by omega : i + 1 ≤ i') (by have := I.bd i' q1; omega); omega
      exact this ▸ q1

/-- the memory over which a ready operation can be walked -/
theorem vis (hc : KeptCall call) (hbef : bef = befOf ops ops.toList []) (hpre : ∀ i b, (i, b) ∈ pre → b < (T.σ 0).next) (I : T.Inv ρ0 w0 a0 S ρ w a) {j : Nat} (hj : j < n) (hjS : ¬ S j)
    (hr : ∀ e ∈ (T.o j).after.toList, Region.binds .any e = true → S e.on) :
    ∃ sv sx, stepV P call ops (T.o j) (T.tm j) sv = some (T.tm (j + 1), sx) ∧ sv.next = (T.σ j).next ∧ sv.mark = (T.σ j).next ∧ sv.log = [] ∧
      (∀ b o l, sv.get b = some o → ρ b = some l → b < (T.σ j).next → (T.V S n).get b = some o ∧ ∀ i, S i → T.touch i b → i < j) ∧
      sx.next = (T.σ (j + 1)).next ∧ (∀ b, T.touch j b → (T.σ (j + 1)).get b = sx.get b) ∧ (∀ b, b ∈ sx.log → T.touch j b) ∧ (∀ b, T.touch j b → b ∈ sx.log ∨ (T.σ j).next ≤ b) := by
  have leaf_get : ∀ m b, St.get ⟨m, m, [], .leaf⟩ b = none := by
    intro m b; unfold St.get; split <;> first | rfl | (simp only [Tr.get])
  rcases T.pure_or_loud j with hp | hl
  · have hq := T.quiet j hj hp
    have hnt : ∀ b, ¬ T.touch j b := fun b ht => by have := ht.1; unfold isLoud at this; rw [hp] at this; cases this
    refine ⟨⟨(T.σ j).next, (T.σ j).next, [], .leaf⟩, ⟨(T.σ j).next, (T.σ j).next, [], .leaf⟩, (step_pure_any _ hp hq.1).2, rfl, rfl, rfl, ?_, ?_, fun b ht => absurd ht (hnt b), fun b hb => by (cases hb), fun b ht => absurd ht (hnt b)⟩
    · intro b o l h; rw [leaf_get] at h; cases h
    · rw [T.quiet_same hj hp]
  · have hL := T.loud j hj hl
    cases hla : loadsAt (T.tm j) (T.o j).op with
    | some b0 =>
      have hg : ∀ b, St.get ⟨(T.σ j).next, (T.σ j).next, [], Tr.leaf.set ((seen (T.σ j) (T.H j)).get b0) depth b0⟩ b = if b = b0 then (seen (T.σ j) (T.H j)).get b0 else none := by
        intro b
        by_cases hb : b < most
        · rw [St.get_eq hb]
          simp only [Tr.get_set]
          by_cases e : b = b0
          · subst e; simp [most_lt hb]
          · rw [if_neg (fun q => e q.1), if_neg e]; simp only [Tr.get]
        · have : St.get ⟨(T.σ j).next, (T.σ j).next, [], Tr.leaf.set ((seen (T.σ j) (T.H j)).get b0) depth b0⟩ b = none := by simp [St.get, blt_f (by omega : most ≤ b)]
          rw [this]
          split
          · rename_i e; subst e; simp [St.get, blt_f (by omega : most ≤ b)]
          · rfl
      obtain ⟨hs1, hs2⟩ := step_load_local (σ2 := ⟨(T.σ j).next, (T.σ j).next, [], Tr.leaf.set ((seen (T.σ j) (T.H j)).get b0) depth b0⟩) hla (by rw [hg, if_pos rfl]; rfl) hl hL.1
      have hnx : (T.σ (j + 1)).next = (T.σ j).next := by rw [T.s_next hj hl, hs1]; rfl
      have hnt : ∀ b, ¬ T.touch j b := by
        rintro b ⟨_, ht | ht⟩
        · rw [hs1] at ht; cases ht
        · omega
      refine ⟨_, _, hs2, rfl, rfl, rfl, ?_, hnx.symm, fun b ht => absurd ht (hnt b), fun b hb => by (cases hb), fun b ht => absurd ht (hnt b)⟩
      intro b o l h hb hbn
      rw [hg] at h
      split at h
      · rename_i e; subst e
        rw [seen_get] at h
        split at h
        · cases h
        · rename_i hH
          obtain ⟨q1, q2⟩ := agree hc hbef I hj hjS hr hl hb hbn hH (fun b1 h1 => by rw [hla] at h1; exact Option.some.inj h1)
          exact ⟨q1.trans h, q2⟩
      · cases h
    | none =>
      refine ⟨seen (T.σ j) (T.H j), T.s j, hL.1, rfl, rfl, rfl, ?_, (T.s_next hj hl).symm, ?_, fun b hb => ⟨hl, .inl hb⟩, fun b ht => ht.2.imp id (·.1)⟩
      · intro b o l h hb hbn
        rw [seen_get] at h
        split at h
        · cases h
        · rename_i hH
          obtain ⟨q1, q2⟩ := agree hc hbef I hj hjS hr hl hb hbn hH (fun b1 h1 => by rw [hla] at h1; cases h1)
          exact ⟨q1.trans h, q2⟩
      · intro b ht
        rw [hL.2.2.1, back_get']
        have : b ∉ T.H j := by
          rcases ht with ⟨_, ht | ht⟩
          · exact (T.log_lt hc hj hl ht).2.1
          · intro q; have := H_lt hc hpre hj q; omega
        exact if_neg this
end Tra
end
end Go.Proofs.Ytbhjhffglcipbaa.AS
namespace Go.Proofs.Ytbhjhffglcipbaa.AS
open Go
set_option linter.unusedSectionVars false
variable [Sym] [Orc]
set_option linter.unusedVariables false
set_option linter.unusedSimpArgs false
section
open Classical
variable {P : Program} [OrcOK P] {call : FuncId → List Value → St → R (Value × St)} {ops : Array Oper} {bef : List Nat} {pre : List (Nat × Nat)} {n : Nat}
variable {T : Tra P call ops bef pre n}

namespace Tra
variable {S : Nat → Prop} {ρ0 ρ : Rho} {w0 w : World} {a0 a : Act} {Q : Exit → Act → World → Prop}

theorem slots {i j d : Nat} {p o : Oper} (h : slotsOK ops bef = true) (hp : ops[i]? = some p) (ho : ops[j]? = some o) (hd : p.dst = some d) (hij : i ≠ j) :
    o.dst ≠ some d ∧ (d ∈ readsOf ops o → if i < j then ahead bef i j = true else ahead bef j i = true) := by
  unfold slotsOK at h
  have hp' : (p, i) ∈ ops.toList.zipIdx := by rw [List.mem_zipIdx_iff_getElem?]; simpa using hp
  have ho' : (o, j) ∈ ops.toList.zipIdx := by rw [List.mem_zipIdx_iff_getElem?]; simpa using ho
  have h1 := List.all_eq_true.1 h _ hp'
  simp only [hd] at h1
  have h2 := List.all_eq_true.1 h1 _ ho'
  simp only [beq_f hij, Bool.false_or, Bool.and_eq_true] at h2
  refine ⟨fun e => ?_, fun hm => ?_⟩
  · rw [e] at h2; simp only [beq_t rfl] at h2; cases h2.1
  · have h3 := h2.2
    have : (readsOf ops o).any (fun t => Nat.beq t d) = true := List.any_eq_true.2 ⟨d, hm, beq_t rfl⟩
    rw [this] at h3
    simp only [Bool.not_true, Bool.false_or] at h3
    by_cases e : i < j
    · rw [if_pos e]; rw [if_pos (by simpa [Nat.blt_eq] using e)] at h3; exact h3
    · rw [if_neg e]; rw [if_neg (by simp [blt_f (by omega : j ≤ i)])] at h3; exact h3

/-- one operation that is ready -/
theorem Inv.step (hc : KeptCall call) (hs : SimCall P call) (hbef : bef = befOf ops ops.toList []) (hslots : slotsOK ops bef = true) (hpre : ∀ i b, (i, b) ∈ pre → b < (T.σ 0).next)
    (hg : GR P ρ0) (hr0 : HR ρ0 (T.σ 0) w0) (I : T.Inv ρ0 w0 a0 S ρ w a) {j : Nat} (hj : j < n) (hjS : ¬ S j)
    (hr : ∀ e ∈ (T.o j).after.toList, Region.binds .any e = true → S e.on) {S' : Nat → Prop} (hS : ∀ i, S' i ↔ (S i ∨ i = j)) {K : Act → World → Prop}
    (hK : ∀ ρ' a' w', T.Inv ρ0 w0 a0 S' ρ' w' a' → K a' w') : wpOp P ops Q j K a w := by
  obtain ⟨sv, sx, hstep, hnx, hmk, hlg, hvis, hsx, ht1, ht2, ht3⟩ := vis hc hbef hpre I hj hjS hr
  have hoj := T.ho j hj
  have hHR : HR (cut ρ (T.σ j).next) sv w := by
    refine ⟨fun b o l h1 h2 => ?_, fun b b' o o' l l' hne h1 h2 h3 h4 h5 => ?_, fun b hb => ?_, by rw [hmk, hnx]; exact Nat.le_refl _, fun f hf => ?win⟩
    case win =>
      obtain ⟨x, n1, c, kd, i, l, h1, h2, h3, h4, h5, h6⟩ := hr0.win f hf
      have hlt : f.b < (T.σ 0).next := Nat.lt_of_not_le fun q => by rw [hr0.dom _ q] at h5; cases h5
      exact ⟨x, n1, c, kd, i, l, h1, h2, h3, h4, cut_some.2 ⟨Nat.lt_of_lt_of_le hlt (T.next_mono hc (by omega) (by omega)), I.ext.le _ _ h5⟩, h6⟩
    · obtain ⟨q1, q2⟩ := cut_some.1 h2
      obtain ⟨r1, r2⟩ := hvis b o l h1 q2 q1
      exact I.ob b o l j (by omega) r2 r1 q2
    · obtain ⟨q1, q2⟩ := cut_some.1 h4
      obtain ⟨q3, q4⟩ := cut_some.1 h5
      exact I.sep b b' o o' l l' hne (hvis b o l h1 q2 q1).1 h2 (hvis b' o' l' h3 q4 q3).1 q2 q4
    · rw [hnx] at hb
      unfold cut; rw [if_neg (by omega)]
  have hGR : GR P (cut ρ (T.σ j).next) := by
    intro g hgs
    obtain ⟨l, h1, h2⟩ := hg g hgs
    refine ⟨l, cut_some.2 ⟨?_, I.ext.le _ _ h1⟩, h2⟩
    rcases Nat.lt_or_ge g (T.σ 0).next with q | q
    · exact Nat.lt_of_lt_of_le q (T.next_mono hc (by omega) (by omega))
    · rw [hr0.dom g q] at h1; cases h1
  have hlen : (T.tm j).length = a.tmps.size := by rw [T.tm_len (by omega), I.size]
  have hX : ∀ t ∈ readsOf ops (T.o j), VR (cut ρ (T.σ j).next) ((T.tm j).getD t undef) (a.tmps.getD t undef) := by
    intro t ht
    have h1 : ∀ i, S i → (T.o i).dst = some t → i < j := by
      intro i hi hd
      rcases Nat.lt_or_ge i j with q | q
      · exact q
      · exfalso
        have hne : i ≠ j := fun e => hjS (e ▸ hi)
        have := (slots hslots (T.ho i (I.bd i hi)) hoj hd hne).2 ht
        rw [if_neg (by omega)] at this
        exact hjS (ahead_S (T := T) hbef I.down (i + 1) i (by omega) (I.bd i hi) (I.down i hi) this)
    have h2 := I.tmp t j (by omega) h1
    rw [T.θ_const (j := j) (fun i q1 q2 => .inl (h1 i q1 q2)) n (by omega) (Nat.le_refl _), T.θ_agree j (by omega) (fun i hi hd => ?_)] at h2
    · exact h2
    · have := (slots hslots (T.ho i (by omega)) hoj hd (by omega)).2 ht
      rw [if_pos hi] at this
      exact ahead_S (T := T) hbef I.down (j + 1) j (by omega) hj hr this
  refine step_sim hs hoj hstep hHR hGR hlen hX ?_
  intro ρ1 v v' w1 e hR1 hv htm
  have hle1 := e.le
  have hnn : (T.σ j).next ≤ (T.σ (j + 1)).next := T.next_le hc hj
  have hrange : ∀ b l, ρ b = some l → ¬ ((T.σ j).next ≤ b ∧ b < (T.σ (j + 1)).next) := by
    intro b l hb hq
    rcases I.dom b l hb with q | ⟨i, q1, q2, q3⟩
    · have := T.next_mono hc (by omega : 0 ≤ j) (by omega); omega
    · rcases Nat.lt_trichotomy i j with q | q | q
      · have := T.next_mono hc (by omega : i + 1 ≤ j) (by omega); omega
      · exact hjS (q ▸ q1)
      · have := T.next_mono hc (by omega : j + 1 ≤ i) (by have := I.bd i q1; omega); omega
  let ρ2 : Rho := fun b => if (T.σ j).next ≤ b ∧ b < (T.σ (j + 1)).next then ρ1 b else ρ b
  have h2in : ∀ b, (T.σ j).next ≤ b ∧ b < (T.σ (j + 1)).next → ρ2 b = ρ1 b := fun b h => if_pos h
  have h2out : ∀ b, ¬ ((T.σ j).next ≤ b ∧ b < (T.σ (j + 1)).next) → ρ2 b = ρ b := fun b h => if_neg h
  have hle : ρ.le ρ2 := fun b l hb => by rw [h2out b (hrange b l hb)]; exact hb
  have h1lt : ∀ b l, ρ1 b = some l → b < (T.σ (j + 1)).next := by
    intro b l hb
    rcases Nat.lt_or_ge b (T.σ (j + 1)).next with q | q
    · exact q
    · rw [hR1.dom b (by rw [hsx]; exact q)] at hb; cases hb
  have h12 : ρ1.le ρ2 := by
    intro b l hb
    have hlt := h1lt b l hb
    by_cases q : (T.σ j).next ≤ b
    · rw [h2in b ⟨q, hlt⟩]; exact hb
    · rw [h2out b (fun z => q z.1)]
      rcases e.new b l hb with r | r
      · exact (cut_some.1 r).2
      · rw [hnx] at r; omega
  have h12q : ∀ q, j < q → q ≤ n → ρ1.le (cut ρ2 (T.σ q).next) := by
    intro q hq hqn b l hb
    exact cut_some.2 ⟨Nat.lt_of_lt_of_le (h1lt b l hb) (T.next_mono hc (by omega) hqn), h12 b l hb⟩
  -- what j touched, under the new map, is under the operation's own
  have htouch : ∀ b l, T.touch j b → ρ2 b = some l → ρ1 b = some l := by
    intro b l ht hb
    by_cases q : (T.σ j).next ≤ b ∧ b < (T.σ (j + 1)).next
    · rw [h2in b q] at hb; exact hb
    · rw [h2out b q] at hb
      rcases ht with ⟨hl, ht | ht⟩
      · have := (T.log_lt hc hj hl ht).1
        exact hle1 _ _ (cut_some.2 ⟨this, hb⟩)
      · exact absurd ht q
  have hnotouch : ∀ b, ¬ T.touch j b → ρ2 b = ρ b := by
    intro b ht
    refine h2out b fun q => ?_
    rcases T.pure_or_loud j with hp | hl
    · rw [T.quiet_same hj hp] at q; omega
    · exact ht ⟨hl, .inr q⟩
  have hlog_lt : ∀ b, b ∈ sx.log → b < (T.σ j).next ∧ ∃ l, cut ρ (T.σ j).next b = some l := by
    intro b hb
    rcases e.logd b hb with q | ⟨q, r⟩
    · rw [hlg] at q; cases q
    · rw [hmk] at q; exact ⟨q, r⟩
  -- nobody behind j has touched what j touched
  have hlast : ∀ b l, T.touch j b → ρ2 b = some l → ∀ i, S' i → T.touch i b → i ≤ j := by
    intro b l ht hb i hi hti
    rcases (hS i).1 hi with hi | rfl
    · rcases Nat.lt_or_ge j i with hji | hji
      · exfalso
        have hin := I.bd i hi
        have hmono := T.next_mono hc (by omega : j + 1 ≤ i) (by omega)
        by_cases q : (T.σ j).next ≤ b ∧ b < (T.σ (j + 1)).next
        · rcases hti with ⟨hli, hti | hti⟩
          · obtain ⟨l', hl'⟩ := I.ldom i b hi hli hti
            exact hrange b l' hl' q
          · omega
        · have hbl : b ∈ sx.log := by
            rcases ht3 b ht with r | r
            · exact r
            · exfalso
              exact q ⟨r, h1lt b l (htouch b l ht hb)⟩
          obtain ⟨r1, l', r2⟩ := hlog_lt b hbl
          rcases ht with ⟨hlj, ht | ht⟩
          · rcases hti with ⟨hli, hti | hti⟩
            · -- both wrote it: j's own sight of it
              have hna : ahead bef j i = false := by
                cases hh : ahead bef j i with
                | false => rfl
                | true => exact absurd (ahead_S (T := T) hbef I.down (i + 1) i (by omega) hin (I.down i hi) hh) hjS
              rcases T.hidden_pre hin hji hli hlj hti hna with z | ⟨b0, z1, z2⟩
              · exact (T.log_lt hc hj hlj ht).2.1 z
              · have := (step_load_local (σ2 := seen (T.σ j) (T.H j)) z1 rfl hlj (T.loud j hj hlj).1).1
                rw [this] at ht; cases ht
            · omega
          · exact q ht
      · exact hji
    · exact Nat.le_refl _
  have hSj : S' j := (hS j).2 (.inr rfl)
  have hVt : ∀ b l, T.touch j b → ρ2 b = some l → (T.V S' n).get b = sx.get b := by
    intro b l ht hb
    rw [T.V_last hSj ht (hlast b l ht hb) hj, ht1 b ht]
  have hVn : ∀ b, ¬ T.touch j b → (T.V S' n).get b = (T.V S n).get b := fun b ht => T.V_no hS ht n
  have hlogs : ∀ b, b ∈ (T.V S' n).log ↔ b ∈ (T.V S n).log ∨ (b < (T.σ 0).mark ∧ T.isLoud j ∧ b ∈ (T.s j).log) := by
    intro b
    rw [T.V_log, T.V_log]
    constructor
    · rintro (h | ⟨h, i, h1, h2, h3⟩)
      · exact .inl (.inl h)
      · rcases (hS i).1 h2 with q | rfl
        · exact .inl (.inr ⟨h, i, h1, q, h3⟩)
        · exact .inr ⟨h, h3⟩
    · rintro ((h | ⟨h, i, h1, h2, h3⟩) | ⟨h, h3⟩)
      · exact .inl h
      · exact .inr ⟨h, i, h1, (hS i).2 (.inl h2), h3⟩
      · exact .inr ⟨h, j, hj, hSj, h3⟩
  -- the own log of j
  have hown : ∀ b, b ∈ sx.log → T.isLoud j ∧ b ∈ (T.s j).log := by
    intro b hb
    obtain ⟨h1, h2⟩ := ht2 b hb
    refine ⟨h1, ?_⟩
    rcases h2 with h2 | h2
    · exact h2
    · have := (hlog_lt b hb).1; omega
  have hown' : ∀ b, T.isLoud j → b ∈ (T.s j).log → b ∈ sx.log := by
    intro b hl hb
    rcases ht3 b ⟨hl, .inl hb⟩ with r | r
    · exact r
    · have := (T.log_lt hc hj hl hb).1; omega
  have hM : (T.V S n).mark = (T.σ 0).mark := (T.V_next S n).2
  have hN : (T.V S n).next = (T.σ 0).next := (T.V_next S n).1
  have hmn : (T.σ 0).mark ≤ (T.σ 0).next := hr0.mkn
  have hExt : Ext ρ (T.V S n) w ρ2 (T.V S' n) w1 := by
    refine ⟨hle, by rw [hN, (T.V_next S' n).1]; exact Nat.le_refl _, e.heap, e.os, e.tape, e.output, by rw [hM, hN]; exact hmn, by rw [hM, (T.V_next S' n).2], fun b hb => (hlogs b).2 (.inl hb), ?_, ?_, ?_, ?_⟩
    · intro b hb
      rcases (hlogs b).1 hb with q | ⟨q1, q2, q3⟩
      · exact .inl q
      · obtain ⟨_, l, r⟩ := hlog_lt b (hown' b q2 q3)
        exact .inr ⟨by rw [hM]; exact q1, l, (cut_some.1 r).2⟩
    · intro p hp hf
      refine e.frame p hp ?_
      intro b o l h1 h2 h3 h4
      obtain ⟨q1, q2⟩ := cut_some.1 h3
      have hbl := h4 (by rw [hmk]; exact q1)
      refine hf b o l (hvis b o l h1 q2 q1).1 h2 q2 (fun hm => (hlogs b).2 (.inr ⟨by rw [hM] at hm; exact hm, hown b hbl⟩))
    · intro b o l h1 h2
      by_cases ht : T.touch j b
      · rw [hVt b l ht h2] at h1
        rcases e.wr b o l h1 (htouch b l ht h2) with ⟨q1, o0, q2, q3⟩ | q | ⟨b0, o0, l0, q1, q2, q3, q4, q5⟩
        · obtain ⟨r1, r2⟩ := cut_some.1 q1
          exact .inl ⟨r2, o0, (hvis b o0 l q2 r2 r1).1, q3⟩
        · exact .inr (.inl q)
        · obtain ⟨r1, r2⟩ := cut_some.1 q3
          have hbl := q5 (by rw [hmk]; exact r1)
          exact .inr (.inr ⟨b0, o0, l0, (hvis b0 o0 l0 q1 r2 r1).1, q2, r2, q4, fun hm => (hlogs b0).2 (.inr ⟨by rw [hM] at hm; exact hm, hown b0 hbl⟩)⟩)
      · rw [hVn b ht] at h1
        rw [hnotouch b ht] at h2
        exact .inl ⟨h2, o, h1, id⟩
    · intro b l hb
      by_cases q : (T.σ j).next ≤ b ∧ b < (T.σ (j + 1)).next
      · have := T.next_mono hc (by omega : 0 ≤ j) (by omega)
        exact .inr (by rw [hN]; omega)
      · rw [h2out b q] at hb; exact .inl hb
  -- blocks that j left alone stand in the world as they stood
  have hstill : ∀ b o l, ¬ T.touch j b → (T.V S n).get b = some o → ρ b = some l → l.pb < w.heap.size → w1.heap[l.pb]? = w.heap[l.pb]? := by
    intro b o l ht h1 h2 hlt
    refine e.frame l.pb hlt ?_
    intro b1 o1 l1 k1 k2 k3 k4
    obtain ⟨q1, q2⟩ := cut_some.1 k3
    have hbl := k4 (by rw [hmk]; exact q1)
    have hne : b1 ≠ b := fun z => ht (z ▸ ht2 b1 hbl)
    exact I.sep b1 b o1 o l1 l hne (hvis b1 o1 l1 k1 q2 q1).1 k2 h1 q2 h2
  have hob_lt : ∀ b o l, (T.V S n).get b = some o → ρ b = some l → l.pb < w.heap.size := by
    intro b o l h1 h2
    exact (I.ob b o l n (Nat.le_refl _) (fun i hi _ => I.bd i hi) h1 h2).lt
  refine hK ρ2 _ w1 ⟨?_, ?_, ?_, ?_, ?_, ?_, ?_, ?_, ?_, I.ext.trans hExt⟩
  · intro i hi
    rcases (hS i).1 hi with q | rfl
    · exact I.bd i q
    · exact hj
  · intro i hi ed h1 h2
    rcases (hS i).1 hi with q | rfl
    · exact (hS _).2 (.inl (I.down i q ed h1 h2))
    · exact (hS _).2 (.inl (hr ed h1 h2))
  · intro b l hb
    by_cases q : (T.σ j).next ≤ b ∧ b < (T.σ (j + 1)).next
    · exact .inr ⟨j, hSj, q⟩
    · rw [h2out b q] at hb
      exact (I.dom b l hb).imp id fun ⟨i, h1, h2⟩ => ⟨i, (hS i).2 (.inl h1), h2⟩
  · intro i b hi hl hb
    rcases (hS i).1 hi with q | rfl
    · obtain ⟨l, h⟩ := I.ldom i b q hl hb; exact ⟨l, hle _ _ h⟩
    · obtain ⟨_, l, h⟩ := hlog_lt b (hown' b hl hb); exact ⟨l, hle _ _ (cut_some.1 h).2⟩
  · intro b o l q hq hqt h1 h2
    by_cases ht : T.touch j b
    · have hjq := hqt j hSj ht
      rw [hVt b l ht h2] at h1
      exact (hR1.ob b o l h1 (htouch b l ht h2)).mono (h12q q hjq hq)
    · rw [hVn b ht] at h1
      rw [hnotouch b ht] at h2
      have hold := I.ob b o l q hq (fun i hi => hqt i ((hS i).2 (.inl hi))) h1 h2
      exact (hold.same (hstill b o l ht h1 h2 hold.lt)).mono (cut_mono hle (Nat.le_refl _))
  · intro b b' o o' l l' hne h1 hw h3 h4 h5
    by_cases ht : T.touch j b
    · have k1 := hVt b l ht h4
      rw [k1] at h1
      have k4 := htouch b l ht h4
      by_cases ht' : T.touch j b'
      · rw [hVt b' l' ht' h5] at h3
        exact hR1.sep b b' o o' l l' hne h1 hw h3 k4 (htouch b' l' ht' h5)
      · rw [hVn b' ht'] at h3
        rw [hnotouch b' ht'] at h5
        rcases e.wr b o l h1 k4 with ⟨q1, o0, q2, q3⟩ | q | ⟨b0, o0, l0, q1, q2, q3, q4, q5⟩
        · obtain ⟨r1, r2⟩ := cut_some.1 q1
          exact I.sep b b' o0 o' l l' hne (hvis b o0 l q2 r2 r1).1 (q3 hw) h3 r2 h5
        · have := hob_lt b' o' l' h3 h5
          omega
        · obtain ⟨r1, r2⟩ := cut_some.1 q3
          have hbl := q5 (by rw [hmk]; exact r1)
          have hne0 : b0 ≠ b' := fun z => ht' (z ▸ ht2 b0 hbl)
          rw [← q4]
          exact I.sep b0 b' o0 o' l0 l' hne0 (hvis b0 o0 l0 q1 r2 r1).1 q2 h3 r2 h5
    · rw [hVn b ht] at h1
      rw [hnotouch b ht] at h4
      by_cases ht' : T.touch j b'
      · have k5 := htouch b' l' ht' h5
        rw [hVt b' l' ht' h5] at h3
        rcases e.wr b' o' l' h3 k5 with ⟨q1, o0, q2, q3⟩ | q | ⟨b0, o0, l0, q1, q2, q3, q4, q5⟩
        · obtain ⟨r1, r2⟩ := cut_some.1 q1
          exact I.sep b b' o o0 l l' hne h1 hw (hvis b' o0 l' q2 r2 r1).1 h4 r2
        · have := hob_lt b o l h1 h4
          omega
        · obtain ⟨r1, r2⟩ := cut_some.1 q3
          have hbl := q5 (by rw [hmk]; exact r1)
          have hne0 : b ≠ b0 := fun z => ht (z ▸ ht2 b0 hbl)
          rw [← q4]
          exact I.sep b b0 o o0 l l0 hne0 h1 hw (hvis b0 o0 l0 q1 r2 r1).1 h4 r2
      · rw [hVn b' ht'] at h3
        rw [hnotouch b' ht'] at h5
        exact I.sep b b' o o' l l' hne h1 hw h3 h4 h5
  · rw [put_size, I.size]
  · intro t q hq hqt
    by_cases hd : (T.o j).dst = some t
    · have hjq := hqt j hSj hd
      have hθ : T.θ S' n t = (T.tm (j + 1)).getD t undef := by
        rw [T.θ_const (j := j + 1) (fun i hi hdi => ?_) n (by omega) (Nat.le_refl _)]
        · simp only [θ]; rw [if_pos ⟨hSj, hd⟩]
        · rcases (hS i).1 hi with r | rfl
          · exfalso
            have hne : j ≠ i := fun z => hjS (z ▸ r)
            exact (slots hslots hoj (T.ho i (I.bd i r)) hd hne).1 hdi
          · exact .inl (by omega)
      rw [hθ, htm, hd]
      exact (put_getD_VR hlen hv).mono (h12q q hjq hq)
    · rw [T.θ_no hS hd, put_getD_ne hd]
      exact (I.tmp t q hq (fun i hi => hqt i ((hS i).2 (.inl hi)))).mono (cut_mono hle (Nat.le_refl _))
  · rw [put_defers]; exact I.defers
end Tra
end
end Go.Proofs.Ytbhjhffglcipbaa.AS
namespace Go.Proofs.Ytbhjhffglcipbaa.AS
open Go
set_option linter.unusedSectionVars false
variable [Sym] [Orc]
set_option linter.unusedVariables false
set_option linter.unusedSimpArgs false
section
open Classical
variable {P : Program} [OrcOK P] {call : FuncId → List Value → St → R (Value × St)} {ops : Array Oper} {bef : List Nat} {pre : List (Nat × Nat)}
variable {T : Tra P call ops bef pre ops.size}

namespace Tra
variable {S : Nat → Prop} {ρ0 ρ : Rho} {w0 w : World} {a0 a : Act} {Q : Exit → Act → World → Prop}

theorem Inv.start (hc : KeptCall call) (hr : HR ρ0 (T.σ 0) w0) (ht : VL ρ0 (T.tm 0) a0.tmps.toList) : T.Inv ρ0 w0 a0 (fun _ => False) ρ0 w0 a0 := by
  have hle : ∀ q, q ≤ ops.size → ρ0.le (cut ρ0 (T.σ q).next) := by
    intro q hq b l hb
    refine cut_some.2 ⟨?_, hb⟩
    rcases Nat.lt_or_ge b (T.σ 0).next with z | z
    · exact Nat.lt_of_lt_of_le z (T.next_mono hc (by omega) hq)
    · rw [hr.dom b z] at hb; cases hb
  have hV : ∀ k, T.V (fun _ => False) k = T.σ 0 := by
    intro k
    induction k with
    | zero => rfl
    | succ k ih => simp only [V]; rw [if_neg (fun q => q.1)]; exact ih
  have hθ : ∀ k t, T.θ (fun _ => False) k t = (T.tm 0).getD t undef := by
    intro k t
    induction k with
    | zero => rfl
    | succ k ih => simp only [θ]; rw [if_neg (fun q => q.1)]; exact ih
  refine ⟨fun i h => h.elim, fun i h => h.elim, ?_, fun i b h => h.elim, ?_, ?_, ?_, ?_, rfl, ?_⟩
  · intro b l hb
    left
    rcases Nat.lt_or_ge b (T.σ 0).next with z | z
    · exact z
    · rw [hr.dom b z] at hb; cases hb
  · intro b o l q hq _ h1 h2
    rw [hV] at h1
    exact (hr.ob b o l h1 h2).mono (hle q hq)
  · intro b b' o o' l l' hne h1 h2 h3
    rw [hV] at h1 h3
    exact hr.sep b b' o o' l l' hne h1 h2 h3
  · have := ht.length; simpa using this.symm
  · intro t q hq _
    rw [hθ, getD_tmps]
    exact (ht.getD t).mono (hle q hq)
  · rw [hV]; exact Ext.refl hr

theorem Inv.finish (hc : KeptCall call) (hr : HR ρ0 (T.σ 0) w0) (I : T.Inv ρ0 w0 a0 S ρ w a) (hall : ∀ i, i < ops.size → S i) :
    Ext ρ0 (T.σ 0) w0 ρ (T.σ ops.size) w ∧ HR ρ (T.σ ops.size) w ∧ VL ρ (T.tm ops.size) a.tmps.toList ∧ a.defers = a0.defers := by
  have hdom : ∀ b l, ρ b = some l → b < (T.σ ops.size).next := by
    intro b l hb
    rcases I.dom b l hb with q | ⟨i, q1, _, q3⟩
    · exact Nat.lt_of_lt_of_le q (T.next_mono hc (by omega) (Nat.le_refl _))
    · exact Nat.lt_of_lt_of_le q3 (T.next_mono hc (by have := I.bd i q1; omega) (Nat.le_refl _))
  have hget : ∀ b l, ρ b = some l → (T.V S ops.size).get b = (T.σ ops.size).get b := by
    intro b l hb
    exact T.V_agree hc ops.size (Nat.le_refl _) (fun i hi _ => hall i hi) (hdom b l hb)
  have hlog : ∀ k, k ≤ ops.size → (T.V S k).log = (T.σ k).log := by
    intro k
    induction k with
    | zero => intro _; rfl
    | succ k ih =>
      intro hk
      simp only [V]
      rcases T.pure_or_loud k with hp | hl
      · rw [if_neg (fun q => by have := q.2; unfold isLoud at this; rw [hp] at this; cases this), ih (by omega), T.quiet_same (by omega) hp]
      · rw [if_pos ⟨hall k (by omega), hl⟩, (T.loud k (by omega) hl).2.2.1]
        show noteAll _ _ _ = noteAll _ _ _
        rw [ih (by omega), T.mark0 (k := k) (by omega)]
  have hE := I.ext
  refine ⟨⟨hE.le, T.next_mono hc (by omega) (Nat.le_refl _), hE.heap, hE.os, hE.tape, hE.output, hE.mkn, T.mark0 (Nat.le_refl _), ?_, ?_, ?_, ?_, hE.new⟩, ⟨?_, ?_, ?_, ?_, fun f hf => (hr.win f hf).mono hE.le⟩, ?_, I.defers⟩
  · rw [← hlog _ (Nat.le_refl _)]; exact hE.log
  · rw [← hlog _ (Nat.le_refl _)]; exact hE.logd
  · rw [← hlog _ (Nat.le_refl _)]; exact hE.frame
  · intro b o l h1 h2
    rw [← hlog _ (Nat.le_refl _)]
    exact hE.wr b o l (by rw [hget b l h2]; exact h1) h2
  · intro b o l h1 h2
    exact (I.ob b o l ops.size (Nat.le_refl _) (fun i hi _ => I.bd i hi) (by rw [hget b l h2]; exact h1) h2).mono (cut_le _ _)
  · intro b b' o o' l l' hne h1 h2 h3 h4 h5
    exact I.sep b b' o o' l l' hne (by rw [hget b l h4]; exact h1) h2 (by rw [hget b' l' h5]; exact h3) h4 h5
  · intro b hb
    cases h : ρ b with
    | none => rfl
    | some l => have := hdom b l h; omega
  · rw [T.mark0 (Nat.le_refl _)]; exact Nat.le_trans hr.mkn (T.next_mono hc (by omega) (Nat.le_refl _))
  · have hlen : (T.tm ops.size).length = a.tmps.toList.length := by rw [T.tm_len (Nat.le_refl _)]; simpa using I.size.symm
    refine VL.of_get hlen ?_
    intro t v hv
    have h1 := I.tmp t ops.size (Nat.le_refl _) (fun i hi _ => I.bd i hi)
    rw [T.θ_agree ops.size (Nat.le_refl _) (fun i hi _ => hall i hi), getD_tmps] at h1
    have hlt : t < a.tmps.toList.length := by rw [← hlen]; exact (List.getElem?_eq_some_iff.1 hv).1
    refine ⟨a.tmps.toList.getD t undef, by simp [List.getD_eq_getElem?_getD, List.getElem?_eq_getElem hlt], ?_⟩
    have : (T.tm ops.size).getD t undef = v := by simp [List.getD_eq_getElem?_getD, hv]
    rw [this] at h1
    exact h1.mono (cut_le _ _)

theorem ready_all (he : edgesOK ops = true) {listed : Array Bool} (hsz : listed.size = ops.size) (h : Region.ready .any ops listed = []) : ∀ m i, i < m → i < ops.size → listed[i]? = some true := by
  intro m
  induction m with
  | zero => intro i hi; omega
  | succ m ih =>
    intro i hi hio
    cases hl : listed[i]? with
    | none => rw [Array.getElem?_eq_none_iff] at hl; omega
    | some b =>
      cases b with
      | true => rfl
      | false =>
        exfalso
        have : i ∈ Region.ready .any ops listed := by
          unfold Region.ready
          refine List.mem_filter.2 ⟨List.mem_range.2 hio, ?_⟩
          have ho : ops[i]? = some ops[i] := Array.getElem?_eq_getElem hio
          rw [ho]
          simp only [Array.getD_eq_getD_getElem?, hl, Option.getD_some, Bool.not_false, Bool.true_and, Option.map_some]
          rw [Array.all_eq_true']
          intro e hem
          unfold edgesOK at he
          have hz : (ops[i], i) ∈ ops.toList.zipIdx := by rw [List.mem_zipIdx_iff_getElem?]; simp
          have h1 := List.all_eq_true.1 (List.all_eq_true.1 he _ hz) e (by simpa using hem)
          simp only [Bool.or_eq_true] at h1 ⊢
          rcases h1 with h1 | h1
          · exact .inl h1
          · right
            have := ih e.on (by have := of_blt h1; omega) (by have := of_blt h1; omega)
            rw [this]; rfl
        rw [h] at this; cases this

theorem any_sim (hc : KeptCall call) (hs : SimCall P call) (hbef : bef = befOf ops ops.toList []) (hslots : slotsOK ops bef = true) (he : edgesOK ops = true) (hpre : ∀ i b, (i, b) ∈ pre → b < (T.σ 0).next)
    (hg : GR P ρ0) (hr0 : HR ρ0 (T.σ 0) w0)
    (hQ : ∀ ρ' a' w', Ext ρ0 (T.σ 0) w0 ρ' (T.σ ops.size) w' → HR ρ' (T.σ ops.size) w' → VL ρ' (T.tm ops.size) a'.tmps.toList → a'.defers = a0.defers → Q .normal a' w') :
    ∀ (fuel : Nat) (listed : Array Bool) (ρ : Rho) (a : Act) (w : World), listed.size = ops.size → listed.toList.count false ≤ fuel → T.Inv ρ0 w0 a0 (fun i => listed[i]? = some true) ρ w a →
      wpAny P .any ops Q fuel listed a w := by
  have hend : ∀ (listed : Array Bool) (ρ : Rho) (a : Act) (w : World), listed.size = ops.size → T.Inv ρ0 w0 a0 (fun i => listed[i]? = some true) ρ w a → Region.ready .any ops listed = [] → Q .normal a w := by
    intro listed ρ a w hsz I h
    obtain ⟨h1, h2, h3, h4⟩ := I.finish hc hr0 (fun i hi => ready_all he hsz h ops.size i hi hi)
    exact hQ ρ a w h1 h2 h3 h4
  intro fuel
  induction fuel with
  | zero =>
    intro listed ρ a w hsz hcnt I
    have hnil : Region.ready .any ops listed = [] := by
      unfold Region.ready
      rw [List.filter_eq_nil_iff]
      intro i hi hh
      have hi := List.mem_range.1 hi
      rw [Bool.and_eq_true] at hh
      have hlt : i < listed.size := by omega
      have h0 : listed.toList.count false = 0 := by omega
      have hne := List.count_eq_zero.1 h0
      have h1 := hh.1
      simp only [Array.getD_eq_getD_getElem?, Array.getElem?_eq_getElem hlt, Option.getD_some, Bool.not_eq_true'] at h1
      exact hne (by rw [← h1]; simp)
    exact ⟨hnil, hend listed ρ a w hsz I hnil⟩
  | succ fuel ih =>
    intro listed ρ a w hsz hcnt I
    refine ⟨hend listed ρ a w hsz I, ?_⟩
    intro i hi
    unfold Region.ready at hi
    obtain ⟨hi1, hi2⟩ := List.mem_filter.1 hi
    have hio := List.mem_range.1 hi1
    rw [Bool.and_eq_true] at hi2
    have hlt : i < listed.size := by omega
    have h1 := hi2.1
    simp only [Array.getD_eq_getD_getElem?, Array.getElem?_eq_getElem hlt, Option.getD_some, Bool.not_eq_true'] at h1
    refine I.step (S' := fun k => (listed.setIfInBounds i true)[k]? = some true) hc hs hbef hslots hpre hg hr0 hio ?_ ?_ ?_ ?_
    · rw [Array.getElem?_eq_getElem hlt, h1]; simp
    · intro e hem hb
      have h2 := hi2.2
      rw [T.ho i hio] at h2
      simp only [Option.map_some, Option.getD_some] at h2
      have h3 := (Array.all_eq_true'.1 h2) e (by simpa using hem)
      rw [hb] at h3
      simp only [Bool.not_true, Bool.false_or, Array.getD_eq_getD_getElem?] at h3
      cases hq : listed[e.on]? with
      | none => rw [hq] at h3; simp at h3
      | some b => rw [hq] at h3; simp at h3; rw [h3]
    · intro k
      by_cases e : k = i
      · subst e; simp [Array.getElem?_setIfInBounds_self_of_lt hlt]
      · rw [Array.getElem?_setIfInBounds_ne (fun z => e z.symm)]; simp [e]
    · intro ρ' a' w' I'
      refine ih _ ρ' a' w' (by simpa using hsz) ?_ I'
      rw [Array.toList_setIfInBounds]
      have hlt' : i < listed.toList.length := by simpa using hlt
      rw [List.count_set hlt']
      have hv : listed.toList[i] = false := by simpa using h1
      rw [hv]
      have hpos : 0 < listed.toList.count false := List.count_pos_iff.2 (by rw [← hv]; exact List.getElem_mem hlt')
      have q1 : (if (false == false) = true then (1:Nat) else 0) = 1 := rfl
      have q2 : (if (true == false) = true then (1:Nat) else 0) = 0 := rfl
      rw [q1, q2]
      omega
end Tra

/-- a region, over whatever the tape bids -/
theorem region_sim (hm : P.follows .mixedOrders = true) (hc : KeptCall call) (hs : SimCall P call) {ρ : Rho} {σ σ' : St} {w : World} {a : Act} {Q : Exit → Act → World → Prop} {id : Nat} {draw : Bool} {tm tm' : List Value}
    (h : regionV P call ops draw tm σ = some (tm', σ')) (hr : HR ρ σ w) (hg : GR P ρ) (ht : VL ρ tm a.tmps.toList)
    (hQ : ∀ ρ' a' w', Ext ρ σ w ρ' σ' w' → HR ρ' σ' w' → VL ρ' tm' a'.tmps.toList → a'.defers = a.defers → Q .normal a' w') :
    (Code.region id ops draw).wp P Q a w := by
  unfold regionV at h
  cases draw with
  | false =>
    simp only [Bool.false_eq_true, if_false] at h
    refine wp_region ?_
    have := ops_sim (P := P) (call := call) (Q := Q) (ops := ops) hs ops.toList 0 tm tm' σ σ' ρ w a (fun j => by rw [Nat.zero_add, Array.getElem?_toList]) h hr hg ht hQ
    rw [Array.length_toList, ← List.range_eq_range'] at this
    exact this
  | true =>
    simp only [if_true] at h
    split at h
    · rename_i hcond
      simp only [Bool.and_eq_true] at hcond
      simp only [bind, Option.bind_eq_some_iff, pure, Option.some.injEq] at h
      obtain ⟨⟨tm1, σ1, d1⟩, h1, h⟩ := h
      simp only [Prod.mk.injEq] at h
      obtain ⟨rfl, rfl⟩ := h
      have hpre : ∀ i b, (i, b) ∈ (storesOf ops tm).filter (fun (_, b) => Nat.blt b σ.next) → b < σ.next := fun i b hb => of_blt (List.mem_filter.1 hb).2
      generalize (storesOf ops tm).filter (fun (_, b) => Nat.blt b σ.next) = pre at h1 hpre
      obtain ⟨T, e1, e2, e3, e4⟩ := tra_of h1
      subst e1 e2 e3 e4
      refine wp_region_any hm ?_
      have hr' := hr.drawn (w.drawn + 1)
      refine Tra.any_sim (T := T) (a0 := a) (Q := Q) hc hs rfl hcond.1.1 hcond.1.2 hpre hg hr' ?_ ops.size _ ρ a _ (by simp) (by simp) ?_
      · intro ρ' a' w' k1 k2 k3 k4
        exact hQ ρ' a' w' ((Ext.drawn hr (w.drawn + 1)).trans k1) k2 k3 k4
      · have hS : (fun i : Nat => (Array.replicate ops.size false)[i]? = some true) = fun _ => False := by
          funext i
          simp [Array.getElem?_replicate]
        rw [hS]
        exact Tra.Inv.start hc hr' ht
    · simp [bad] at h
end
end Go.Proofs.Ytbhjhffglcipbaa.AS
namespace Go.Proofs.Ytbhjhffglcipbaa.AS
open Go
set_option linter.unusedSectionVars false
variable [Sym] [Orc]
set_option linter.unusedVariables false
set_option linter.unusedSimpArgs false

/-- what stands in for a function -/
def SimFn (P : Program) (f : FuncId) (g : List Value → St → R (Value × St)) : Prop :=
  ∀ args σ v σ', g args σ = some (v, σ') → ∀ (ρ : Rho) (w : World) (args' : List Value), GR P ρ → HR ρ σ w → VL ρ args args' →
    Calls P f args'.toArray w fun e w' => ∃ v' ρ', e = .returned v' ∧ Ext ρ σ w ρ' σ' w' ∧ HR ρ' σ' w' ∧ VR ρ' v v'

section
variable {P : Program} [OrcOK P]

theorem result_sim {ρ : Rho} {σ : St} {w : World} {tm : List Value} {tmps : Array Value} (hr : HR ρ σ w) (ht : VL ρ tm tmps.toList) {x : ResultVar} {v : Value} (h : resultV P σ tm x = some v) :
    ∃ v', (match x with | .tmp t => pure (tmps.getD t undef) | .cell a t => do loadVar t (← asAddr (tmps.getD a undef)) : Sem Value).run P w = .ok v' w ∧ VR ρ v v' := by
  have hg : ∀ t, tmps.getD t undef = tmps.toList.getD t undef := fun t => by simp [Array.getD_eq_getD_getElem?, List.getD_eq_getElem?_getD]
  cases x with
  | tmp t =>
    simp only [resultV, pure, Option.some.injEq] at h
    subst h
    exact ⟨tmps.getD t undef, rfl, by rw [hg]; exact ht.getD t⟩
  | cell a t =>
    simp only [resultV] at h
    have hv := ht.getD a
    obtain ⟨v', h1, h2⟩ := load_sim hr hv h
    refine ⟨v', ?_, h2⟩
    have hp : ∃ p, tmps.toList.getD a undef = .pointer (some p) := by
      unfold loadV at h
      split at h
      · rename_i b o hb
        rw [hb] at hv
        obtain ⟨p', q, _⟩ := hv.inv_ptr
        exact ⟨p', q⟩
      · simp [bad] at h
    obtain ⟨p, hp⟩ := hp
    rw [hp] at h1
    show (do loadVar t (← asAddr (tmps.getD a undef)) : Sem Value).run P w = _
    rw [hg, hp]
    simpa [Instr.loadAt, Instr.sureAddr, asAddr] using h1

theorem results_list {ρ : Rho} {σ : St} {w : World} {tm : List Value} {tmps : Array Value} (hr : HR ρ σ w) (ht : VL ρ tm tmps.toList) : ∀ (l : List ResultVar) {vs : List Value}, l.mapM (resultV P σ tm) = some vs →
    ∃ vs', (l.mapM fun x => (match x with | .tmp t => pure (tmps.getD t undef) | .cell a t => do loadVar t (← asAddr (tmps.getD a undef)) : Sem Value)).run P w = .ok vs' w ∧ VL ρ vs vs' := by
  intro l
  induction l with
  | nil => intro vs h; simp at h; subst h; exact ⟨[], rfl, .nil⟩
  | cons x l ih =>
    intro vs h
    simp only [List.mapM_cons, bind, Option.bind_eq_some_iff, pure, Option.some.injEq] at h
    obtain ⟨v, h1, vs1, h2, rfl⟩ := h
    obtain ⟨v', k1, k2⟩ := result_sim hr ht h1
    obtain ⟨vs', q1, q2⟩ := ih h2
    refine ⟨v' :: vs', ?_, .cons k2 q2⟩
    rw [List.mapM_cons]
    simp only [Sem.run_bind, Sem.run_pure, k1, q1, Result.andThen_ok]

theorem results_sim {ρ : Rho} {σ : St} {w : World} {tm : List Value} {tmps : Array Value} {fn : Func} {v : Value} (hr : HR ρ σ w) (ht : VL ρ tm tmps.toList) (h : resultsV P fn σ tm = some v) :
    ∃ v', (results fn tmps).run P w = .ok v' w ∧ VR ρ v v' := by
  unfold resultsV at h
  simp only [bind, Option.bind_eq_some_iff] at h
  obtain ⟨vs, h1, h⟩ := h
  obtain ⟨vs', k1, k2⟩ := results_list hr ht _ h1
  refine ⟨(if h : vs'.toArray.size = 1 then vs'.toArray[0] else .tuple vs'.toArray), ?_, ?_⟩
  · unfold results
    rw [Array.mapM_eq_mapM_toList]
    simp only [Sem.run_bind, Sem.run_pure, map_eq_pure_bind]
    refine Eq.trans (congrArg (fun r => (Result.andThen r fun a w' => Result.ok a.toArray w').andThen fun a w' => Result.ok (if h : a.size = 1 then a[0] else Value.tuple a) w') k1) rfl
  · split at h
    · cases k2 with
      | cons hx ht => cases ht; simp only [pure, Option.some.injEq] at h; subst h; simpa using hx
    · rename_i hne
      simp only [pure, Option.some.injEq] at h; subst h
      have hl := k2.length
      rw [dif_neg ?_]
      · exact .tuple (by simpa using k2)
      · intro h1
        have : vs.length = 1 := by rw [hl]; simpa using h1
        match vs, this with
        | [x], _ => exact hne x rfl

/-! ## scopes and loops, a round at a time -/
def InScope (P : Program) (A c : Code) (Q : Exit → Act → World → Prop) (a : Act) (w : World) : Prop :=
  ∀ (b : Frame) (k : List Item) (cs : List Frame), ∃ e a' w', Q e a' w' ∧ Arrives P (lone (b.at a (.code c :: .inScope A :: k)) cs w) b k cs e a' w'

def Exit.inScope (P : Program) (A : Code) (Q : Exit → Act → World → Prop) : Exit → Act → World → Prop
  | .goto l, a, w => match findLabel A l with | some rest => InScope P A rest Q a w | none => Q (.goto l) a w
  | e, a, w => Q e a w

theorem inScope_of_wp {A c : Code} {Q : Exit → Act → World → Prop} {a : Act} {w : World} (h : c.wp P (Exit.inScope P A Q) a w) : InScope P A c Q a w := by
  intro b k cs
  obtain ⟨e, a₁, w₁, hq, harr⟩ := h b (.inScope A :: k) cs
  cases e with
  | normal => exact ⟨.normal, a₁, w₁, hq, Steps.trans harr (.one step_inScope)⟩
  | exit id => exact ⟨.exit id, a₁, w₁, hq, fun k' hk => harr k' (by simp [exitTo, hk])⟩
  | goto l =>
    simp only [Exit.inScope] at hq
    cases hf : findLabel A l with
    | none =>
      rw [hf] at hq
      exact ⟨.goto l, a₁, w₁, hq, fun k' hk => harr k' (by simp [gotoIn, hf, hk])⟩
    | some rest =>
      rw [hf] at hq
      obtain ⟨e₂, a₂, w₂, hq₂, harr₂⟩ := hq b k cs
      exact ⟨e₂, a₂, w₂, hq₂, .of_steps (harr _ (by simp [gotoIn, hf])) harr₂⟩
  | ret => exact ⟨_, a₁, w₁, hq, harr⟩
  | panic ch => exact ⟨_, a₁, w₁, hq, harr⟩
  | outgrown => exact ⟨_, a₁, w₁, hq, harr⟩

theorem wp_scope_in {A : Code} {Q : Exit → Act → World → Prop} {a : Act} {w : World} (h : InScope P A A Q a w) : (Code.scope A).wp P Q a w := by
  intro b k cs
  obtain ⟨e, a₁, w₁, hq, harr⟩ := h b k cs
  exact ⟨e, a₁, w₁, hq, .of_steps (.one step_scope) harr⟩

def InLoop (P : Program) (c : Code) (Q : Exit → Act → World → Prop) (a : Act) (w : World) : Prop :=
  ∀ (b : Frame) (k : List Item) (cs : List Frame), ∃ e a' w', Q e a' w' ∧ Arrives P (lone (b.at a (.code c :: .inLoop c :: k)) cs w) b k cs e a' w'

theorem inLoop_of_wp {c : Code} {Q : Exit → Act → World → Prop} {a : Act} {w : World} (h : c.wp P (Exit.then (InLoop P c Q) Q) a w) : InLoop P c Q a w := by
  intro b k cs
  obtain ⟨e, a₁, w₁, hq, harr⟩ := h b (.inLoop c :: k) cs
  cases e with
  | normal =>
    obtain ⟨e₂, a₂, w₂, hq₂, harr₂⟩ := hq b k cs
    exact ⟨e₂, a₂, w₂, hq₂, .of_steps (Steps.trans harr (.one step_inLoop)) harr₂⟩
  | exit id => exact ⟨_, a₁, w₁, hq, .pass (x := .inLoop c) rfl (fun _ _ => .inl (by simp)) harr⟩
  | goto l => exact ⟨_, a₁, w₁, hq, .pass (x := .inLoop c) rfl (fun _ _ => .inl (by simp)) harr⟩
  | ret => exact ⟨_, a₁, w₁, hq, .pass (x := .inLoop c) rfl (fun _ _ => .inl (by simp)) harr⟩
  | panic ch => exact ⟨_, a₁, w₁, hq, .pass (x := .inLoop c) rfl (fun _ _ => .inl (by simp)) harr⟩
  | outgrown => exact ⟨_, a₁, w₁, hq, .pass (x := .inLoop c) rfl (fun _ _ => .inl (by simp)) harr⟩

def SimC (P : Program) (sc : Option Code) (c : Code) (Q : Exit → Act → World → Prop) (a : Act) (w : World) : Prop :=
  match sc with
  | some A => InScope P A c Q a w
  | none => match c with | .loop x => InLoop P x Q a w | c => c.wp P Q a w

theorem SimC.wp {c : Code} {Q : Exit → Act → World → Prop} {a : Act} {w : World} (h : SimC P none c Q a w) : c.wp P Q a w := by
  cases c <;> first
    | exact h
    | (intro b k cs
       obtain ⟨e, a₁, w₁, hq, harr⟩ := h b k cs
       exact ⟨e, a₁, w₁, hq, .of_steps (.one step_loop) harr⟩)

def toExit : Ex → Exit
  | .normal => .normal
  | .exit i => .exit i
  | .goto l => .goto l
  | .ret => .ret

variable {ov : FuncId → Option (List Value → St → R (Value × St))}

theorem call_sim (hovS : ∀ f g, ov f = some g → SimFn P f g) {run : Code → List Value → St → R (Ex × List Value × St)}
    (hrun : ∀ c tm σ e tm' σ', run c tm σ = some (e, tm', σ') → ∀ (ρ : Rho) (w : World) (a : Act) (Q : Exit → Act → World → Prop), GR P ρ → HR ρ σ w → VL ρ tm a.tmps.toList → a.defers = [] →
      (∀ ρ' a' w', Ext ρ σ w ρ' σ' w' → HR ρ' σ' w' → VL ρ' tm' a'.tmps.toList → a'.defers = [] → Q (toExit e) a' w') → c.wp P Q a w) : SimCall P (callV P ov run) := by
  intro f args σ v σ' h ρ w args' hg hr ha
  unfold callV at h
  split at h
  · rename_i g hov; exact hovS f g hov args σ v σ' h ρ w args' hg hr ha
  · simp only [bind, Option.bind_eq_some_iff, want] at h
    obtain ⟨fn, hf, c, hb, ⟨e, tm1, σ1⟩, h1, h⟩ := h
    refine calls_of_wp hf hb ?_
    have hlen := ha.length
    refine hrun _ _ _ _ _ _ h1 ρ w _ _ hg hr ?_ rfl ?_
    · have : VL ρ (List.replicate (fn.ntmps - args.length) undef) (List.replicate (fn.ntmps - args.length) undef) := by
        generalize fn.ntmps - args.length = m
        induction m with
        | zero => exact .nil
        | succ m ih => exact .cons undef_VR ih
      simpa [hlen] using ha.append this
    · intro ρ' a' w' k1 k2 k3 k4
      cases e <;> simp only [bind, Option.bind_eq_some_iff, pure, Option.some.injEq, bad] at h <;> try (cases h; done)
      all_goals
        obtain ⟨v1, h2, h⟩ := h
        simp only [Prod.mk.injEq] at h
        obtain ⟨rfl, rfl⟩ := h
        obtain ⟨v', q1, q2⟩ := results_sim k2 k3 h2
        exact ⟨k4, v', q1, v', ρ', rfl, k1, k2, q2⟩

theorem run_sim (hm : P.follows .mixedOrders = true) (hovS : ∀ f g, ov f = some g → SimFn P f g) (hovK : ∀ f g, ov f = some g → ∀ args σ v σ', g args σ = some (v, σ') → Kept σ σ') :
    ∀ (n : Nat) (sc : Option Code) (c : Code) (tm : List Value) (σ : St) (e : Ex) (tm' : List Value) (σ' : St), runV P ov n sc c tm σ = some (e, tm', σ') →
      ∀ (ρ : Rho) (w : World) (a : Act) (Q : Exit → Act → World → Prop), GR P ρ → HR ρ σ w → VL ρ tm a.tmps.toList → a.defers = [] →
        (∀ ρ' a' w', Ext ρ σ w ρ' σ' w' → HR ρ' σ' w' → VL ρ' tm' a'.tmps.toList → a'.defers = [] → Q (toExit e) a' w') →
        SimC P sc c Q a w := by
  intro n
  induction n with
  | zero => intro sc c tm σ e tm' σ' h; simp [runV, bad] at h
  | succ n ih =>
    intro sc c tm σ e tm' σ' h ρ w a Q hg hr ht hd hQ
    have hk : KeptCall (callV P ov (runV P ov n none)) := call_kept hovK (fun c tm σ e tm' σ' => run_kept hovK n none c tm σ e tm' σ')
    have hs : SimCall P (callV P ov (runV P ov n none)) := call_sim hovS (fun c tm σ e tm' σ' h ρ w a Q hg hr ht hd hQ => (ih none c tm σ e tm' σ' h ρ w a Q hg hr ht hd hQ).wp)
    cases sc with
    | some A =>
      simp only [runV, bind, Option.bind_eq_some_iff] at h
      obtain ⟨⟨e1, tm1, σ1⟩, h1, h⟩ := h
      refine inScope_of_wp (ih none c tm σ e1 tm1 σ1 h1 ρ w a _ hg hr ht hd ?_).wp
      intro ρ1 a1 w1 k1 k2 k3 k4
      cases e1 with
      | goto l =>
        simp only at h
        simp only [toExit, Exit.inScope]
        split at h
        · rename_i rest hf
          rw [hf]
          exact ih (some A) rest tm1 σ1 e tm' σ' h ρ1 w1 a1 Q (hg.mono k1.le) k2 k3 k4 (fun ρ2 a2 w2 q1 q2 q3 q4 => hQ ρ2 a2 w2 (k1.trans q1) q2 q3 q4)
        · rename_i hf
          simp only [pure, Option.some.injEq, Prod.mk.injEq] at h
          obtain ⟨rfl, rfl, rfl⟩ := h
          rw [hf]
          exact hQ ρ1 a1 w1 k1 k2 k3 k4
      | _ =>
        simp only [pure, Option.some.injEq, Prod.mk.injEq] at h
        obtain ⟨rfl, rfl, rfl⟩ := h
        exact hQ ρ1 a1 w1 k1 k2 k3 k4
    | none =>
      cases c <;> simp only [runV] at h
      case skip =>
        simp only [pure, Option.some.injEq, Prod.mk.injEq] at h
        obtain ⟨rfl, rfl, rfl⟩ := h
        exact wp_skip (hQ ρ a w (Ext.refl hr) hr ht hd)
      case label l =>
        simp only [pure, Option.some.injEq, Prod.mk.injEq] at h
        obtain ⟨rfl, rfl, rfl⟩ := h
        exact wp_label (hQ ρ a w (Ext.refl hr) hr ht hd)
      case exit id =>
        simp only [pure, Option.some.injEq, Prod.mk.injEq] at h
        obtain ⟨rfl, rfl, rfl⟩ := h
        exact wp_exit (hQ ρ a w (Ext.refl hr) hr ht hd)
      case goto l =>
        simp only [pure, Option.some.injEq, Prod.mk.injEq] at h
        obtain ⟨rfl, rfl, rfl⟩ := h
        exact wp_goto (hQ ρ a w (Ext.refl hr) hr ht hd)
      case ret =>
        simp only [pure, Option.some.injEq, Prod.mk.injEq] at h
        obtain ⟨rfl, rfl, rfl⟩ := h
        exact wp_ret (hQ ρ a w (Ext.refl hr) hr ht hd)
      case region id ops draw =>
        simp only [bind, Option.bind_eq_some_iff, pure, Option.some.injEq] at h
        obtain ⟨⟨tm1, σ1⟩, h1, h⟩ := h
        simp only [Prod.mk.injEq] at h
        obtain ⟨rfl, rfl, rfl⟩ := h
        exact region_sim hm hk hs h1 hr hg ht (fun ρ' a' w' k1 k2 k3 k4 => hQ ρ' a' w' k1 k2 k3 (k4.trans hd))
      case seq x y =>
        simp only [bind, Option.bind_eq_some_iff] at h
        obtain ⟨⟨e1, tm1, σ1⟩, h1, h⟩ := h
        refine wp_seq (ih none x tm σ e1 tm1 σ1 h1 ρ w a _ hg hr ht hd ?_).wp
        intro ρ1 a1 w1 k1 k2 k3 k4
        cases e1 with
        | normal => exact (ih none y tm1 σ1 e tm' σ' h ρ1 w1 a1 Q (hg.mono k1.le) k2 k3 k4 (fun ρ2 a2 w2 q1 q2 q3 q4 => hQ ρ2 a2 w2 (k1.trans q1) q2 q3 q4)).wp
        | _ =>
          simp only [pure, Option.some.injEq, Prod.mk.injEq] at h
          obtain ⟨rfl, rfl, rfl⟩ := h
          exact hQ ρ1 a1 w1 k1 k2 k3 k4
      case cond x y z =>
        have hv : ∀ b, evalOp tm x = .bool b → a.eval x = .bool b := by
          intro b hb
          cases x with
          | tmp t =>
            have := ht.getD t
            simp only [evalOp] at hb
            rw [hb] at this
            simp only [Act.eval]
            rw [getD_tmps]
            exact this.inv_leaf rfl
          | const v => exact hb
          | global g => simp [evalOp] at hb
          | func f => simp [evalOp] at hb
        split at h
        · rename_i hb
          exact wp_cond_true (hv _ hb) (ih none y tm σ e tm' σ' h ρ w a Q hg hr ht hd hQ).wp
        · rename_i hb
          exact wp_cond_false (hv _ hb) (ih none z tm σ e tm' σ' h ρ w a Q hg hr ht hd hQ).wp
        · simp [bad] at h
      case block id x =>
        simp only [bind, Option.bind_eq_some_iff] at h
        obtain ⟨⟨e1, tm1, σ1⟩, h1, h⟩ := h
        refine wp_block (ih none x tm σ e1 tm1 σ1 h1 ρ w a _ hg hr ht hd ?_).wp
        intro ρ1 a1 w1 k1 k2 k3 k4
        cases e1 with
        | exit i =>
          simp only at h
          simp only [toExit, Exit.inBlock]
          split at h
          · rename_i hi
            simp only [pure, Option.some.injEq, Prod.mk.injEq] at h
            obtain ⟨rfl, rfl, rfl⟩ := h
            rw [if_pos (of_beq hi)]
            exact hQ ρ1 a1 w1 k1 k2 k3 k4
          · rename_i hi
            simp only [pure, Option.some.injEq, Prod.mk.injEq] at h
            obtain ⟨rfl, rfl, rfl⟩ := h
            rw [if_neg (fun z => hi (beq_t z))]
            exact hQ ρ1 a1 w1 k1 k2 k3 k4
        | _ =>
          simp only [pure, Option.some.injEq, Prod.mk.injEq] at h
          obtain ⟨rfl, rfl, rfl⟩ := h
          exact hQ ρ1 a1 w1 k1 k2 k3 k4
      case loop x =>
        simp only [bind, Option.bind_eq_some_iff] at h
        obtain ⟨⟨e1, tm1, σ1⟩, h1, h⟩ := h
        refine inLoop_of_wp (ih none x tm σ e1 tm1 σ1 h1 ρ w a _ hg hr ht hd ?_).wp
        intro ρ1 a1 w1 k1 k2 k3 k4
        cases e1 with
        | normal => exact ih none (.loop x) tm1 σ1 e tm' σ' h ρ1 w1 a1 Q (hg.mono k1.le) k2 k3 k4 (fun ρ2 a2 w2 q1 q2 q3 q4 => hQ ρ2 a2 w2 (k1.trans q1) q2 q3 q4)
        | _ =>
          simp only [pure, Option.some.injEq, Prod.mk.injEq] at h
          obtain ⟨rfl, rfl, rfl⟩ := h
          exact hQ ρ1 a1 w1 k1 k2 k3 k4
      case scope x =>
        exact wp_scope_in (ih (some x) x tm σ e tm' σ' h ρ w a Q hg hr ht hd hQ)
      all_goals (simp [bad] at h)
end
end Go.Proofs.Ytbhjhffglcipbaa.AS
namespace Go.Proofs.Ytbhjhffglcipbaa.AS
open Go Go.RowKit
set_option linter.unusedSectionVars false
variable [Sym] [Orc]
set_option linter.unusedVariables false
set_option linter.unusedSimpArgs false
section
variable {P : Program} [OrcOK P] {ov : FuncId → Option (List Value → St → R (Value × St))}

/-- the little machine's start: no block is known but the program's variables, of which nothing is known -/
def start (P : Program) : St := { next := P.globals.size, mark := 0, log := [], mem := .leaf }
def rho0 (P : Program) : Rho := fun g => if g < P.globals.size then some ⟨g, 0, 0, 0, 0, true⟩ else none

theorem start_get (P : Program) (b : Nat) : (start P).get b = none := by
  unfold St.get start; split <;> simp [Tr.get]
theorem start_GR (P : Program) : GR P (rho0 P) := fun g hg => ⟨⟨g, 0, 0, 0, 0, true⟩, by simp [rho0, hg], rfl, rfl⟩
theorem rho0_dom (P : Program) (b : Nat) (hb : (start P).next ≤ b) : rho0 P b = none := by
  have hb' : P.globals.size ≤ b := hb
  exact if_neg (by omega)
theorem start_HR (P : Program) (w : World) (hwin : Sym.wins = []) : HR (rho0 P) (start P) w := by
  refine ⟨?_, ?_, rho0_dom P, Nat.zero_le _, fun f hf => by rw [hwin] at hf; cases hf⟩
  · intro b o l h; rw [start_get] at h; cases h
  · intro b b' o o' l l' _ h; rw [start_get] at h; cases h

/-- a call that was run comes to what it was run to -/
theorem calls_sim (hm : P.follows .mixedOrders = true) (hovS : ∀ f g, ov f = some g → SimFn P f g) (hovK : ∀ f g, ov f = some g → ∀ args σ v σ', g args σ = some (v, σ') → Kept σ σ') (fuel : Nat) :
    SimCall P (callV P ov (runV P ov fuel none)) :=
  call_sim hovS (fun c tm σ e tm' σ' h ρ w a Q hg hr ht hd hQ => (run_sim hm hovS hovK fuel none c tm σ e tm' σ' h ρ w a Q hg hr ht hd hQ).wp)

theorem closed (hwin : Sym.wins = []) (hm : P.follows .mixedOrders = true) (hovS : ∀ f g, ov f = some g → SimFn P f g) (hovK : ∀ f g, ov f = some g → ∀ args σ v σ', g args σ = some (v, σ') → Kept σ σ')
    {fuel : Nat} {f : FuncId} {v : Value} {σ' : St} (h : callV P ov (runV P ov fuel none) f [] (start P) = some (v, σ')) (w : World) :
    Calls P f #[] w fun e w' => ∃ v' ρ', e = .returned v' ∧ VR ρ' v v' ∧ HR ρ' σ' w' ∧ Below w.heap.size w w' := by
  refine (calls_sim hm hovS hovK fuel f [] (start P) v σ' h (rho0 P) w [] (start_GR P) (start_HR P w hwin) .nil).mono ?_
  rintro e w' ⟨v', ρ', rfl, h1, h2, h3⟩
  exact ⟨v', ρ', rfl, h3, h2, ⟨h1.os, h1.tape, h1.output, h1.heap, fun p hp => h1.frame p hp (fun b o l h => by rw [start_get] at h; cases h)⟩⟩

/-- does a closed call come to true? -/
def yes (P : Program) (ov : FuncId → Option (List Value → St → R (Value × St))) (fuel : Nat) (f : FuncId) : Bool :=
  match callV P ov (runV P ov fuel none) f [] (start P) with
  | some (.bool b, _) => b
  | _ => false

theorem closed_yes (hwin : Sym.wins = []) (hm : P.follows .mixedOrders = true) (hovS : ∀ f g, ov f = some g → SimFn P f g) (hovK : ∀ f g, ov f = some g → ∀ args σ v σ', g args σ = some (v, σ') → Kept σ σ')
    {fuel : Nat} {f : FuncId} (h : yes P ov fuel f = true) (w : World) : Calls P f #[] w fun e w' => e = .returned (.bool true) ∧ Below w.heap.size w w' := by
  unfold yes at h
  split at h
  · rename_i b σ' hq
    subst h
    refine (closed hwin hm hovS hovK hq w).mono ?_
    rintro e w' ⟨v', ρ', rfl, h1, _, h2⟩
    exact ⟨by rw [h1.inv_leaf rfl], h2⟩
  · cases h

/-- without a stand-in -/
theorem closed_yes0 (hwin : Sym.wins = []) (hm : P.follows .mixedOrders = true) {fuel : Nat} {f : FuncId} (h : yes P (fun _ => none) fuel f = true) (w : World) :
    Calls P f #[] w fun e w' => e = .returned (.bool true) ∧ Below w.heap.size w w' :=
  closed_yes hwin hm (fun _ _ h => by cases h) (fun _ _ h => by cases h) h w
end
end Go.Proofs.Ytbhjhffglcipbaa.AS
