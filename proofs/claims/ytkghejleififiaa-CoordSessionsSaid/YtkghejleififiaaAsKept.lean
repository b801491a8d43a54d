import Derived.Test.YtkghejleififiaaAsSeq
namespace Go.Proofs.Ytkghejleififiaa.AS
open Go
set_option linter.unusedSectionVars false
variable [Sym] [Orc]
set_option linter.unusedVariables false
set_option linter.unusedSimpArgs false

/-- what a step of the little machine leaves of the blocks below the mark -/
structure Kept0 (σ σ' : St) : Prop where
  next : σ.next ≤ σ'.next
  mark : σ'.mark = σ.mark
  log : ∀ b, b ∈ σ.log → b ∈ σ'.log
  logd : ∀ b, b ∈ σ'.log → b ∈ σ.log ∨ (b < σ.mark ∧ ∃ o, σ.get b = some o ∧ writable o = true)
  get : ∀ b, b < σ.mark → b ∉ σ'.log → σ'.get b = σ.get b
def Kept (σ σ' : St) : Prop := σ.mark ≤ σ.next → Kept0 σ σ'

theorem Kept.refl (σ : St) : Kept σ σ := fun _ => ⟨Nat.le_refl _, rfl, fun _ h => h, fun _ h => .inl h, fun _ _ _ => rfl⟩
theorem Kept.trans {a b c : St} (h : Kept a b) (k : Kept b c) : Kept a c := by
  intro hm
  have h := h hm
  have k := k (by have := h.mark; have := h.next; omega)
  refine ⟨Nat.le_trans h.next k.next, k.mark.trans h.mark, fun x hx => k.log x (h.log x hx), ?_, ?_⟩
  · intro x hx
    rcases k.logd x hx with q | ⟨q1, o, q2, q3⟩
    · exact h.logd x q
    · rw [h.mark] at q1
      by_cases hl : x ∈ b.log
      · exact h.logd x hl
      · rw [h.get x q1 hl] at q2; exact .inr ⟨q1, o, q2, q3⟩
  · intro x h1 h2
    rw [k.get x (by rw [h.mark]; exact h1) h2, h.get x h1 (fun q => h2 (k.log x q))]
theorem Kept.new {σ σ' : St} {o : Ob} {b : Nat} (h : σ.new o = some (b, σ')) : Kept σ σ' := by
  intro hm
  obtain ⟨rfl, h1, h2, h3, h4, h5⟩ := St.new_eq h
  refine ⟨by omega, h3, fun x hx => by rw [h4]; exact hx, fun x hx => .inl (by rw [← h4]; exact hx), fun x h6 h7 => ?_⟩
  rw [h5, if_neg (by omega)]
theorem Kept.set {σ : St} {b : Nat} {o : Ob} {o' : Option Ob} (hg : σ.get b = some o) (hw : writable o = true) : Kept σ (σ.set b o') := by
  intro hm
  refine ⟨Nat.le_refl _, rfl, fun x hx => mem_note.2 (.inl hx), fun x hx => ?_, fun x h1 h2 => ?_⟩
  · rcases mem_note.1 hx with q | ⟨rfl, q⟩
    · exact .inl q
    · exact .inr ⟨q, o, hg, hw⟩
  · rw [St.get_set (St.get_lt hg)]
    by_cases e : x = b
    · subst e; exact absurd (mem_note.2 (.inr ⟨rfl, h1⟩)) h2
    · rw [if_neg e]

theorem storeC_kept {σ σ' : St} {b o : Nat} {vs : List Value} (h : storeC σ b o vs = some σ') : Kept σ σ' := by
  rcases storeC_eq h with ⟨_, rfl⟩ | ⟨_, cs, u, hg, _, _, rfl⟩
  · exact Kept.refl _
  · exact Kept.set hg rfl
theorem inPlace_kept {σ σ' : St} {base : Option Addr} {o : Nat} {vs : List Value} (h : inPlace σ base o vs = some σ') : Kept σ σ' := by
  unfold inPlace at h
  split at h
  · simp only [pure, Option.some.injEq] at h; subst h; exact Kept.refl _
  · exact storeC_kept h
  · simp [bad] at h
theorem growS_kept {σ σ' : St} {base : Option Addr} {c size : Nat} (h : growS σ base c size = some σ') : Kept σ σ' := by
  unfold growS at h
  split at h
  · simp only [pure, Option.some.injEq] at h; subst h; exact Kept.refl _
  · split at h
    · rename_i hg
      split at h
      · split at h
        · simp only [pure, Option.some.injEq] at h; subst h; exact Kept.set hg rfl
        · simp [bad] at h
      · simp only [pure, Option.some.injEq] at h; subst h; exact Kept.refl _
    · simp [bad] at h
  · simp [bad] at h

section
variable {P : Program} [OrcOK P] {σ σ' : St}
theorem append_kept {argTypes : Array TypeId} {args : Array Value} {v : Value} (h : appendV P σ argTypes args = some (v, σ')) : Kept σ σ' := by
  unfold appendV at h
  simp only [bind, Option.bind_eq_some_iff, want] at h
  obtain ⟨_, _, s, _, _, _, _, _, _, _, _, _, _, _, _, _, _, _, h⟩ := h
  split at h
  · unfold appendS at h
    split at h
    · simp only [bind, Option.bind_eq_some_iff, pure, Option.some.injEq, Prod.mk.injEq] at h
      obtain ⟨_, h1, rfl, rfl⟩ := h
      exact inPlace_kept h1
    · simp only [bind, Option.bind_eq_some_iff] at h
      obtain ⟨_, _, _, _, _, _, h⟩ := h
      split at h
      · simp only [bind, Option.bind_eq_some_iff, pure, Option.some.injEq] at h
        obtain ⟨_, h1, ⟨_, _⟩, h2, h⟩ := h
        simp only [Prod.mk.injEq] at h
        obtain ⟨rfl, rfl⟩ := h
        exact (growS_kept h1).trans (Kept.new h2)
      · simp [bad] at h
  · simp [bad] at h
theorem copy_kept {argTypes : Array TypeId} {args : Array Value} {v : Value} (h : copyV P σ argTypes args = some (v, σ')) : Kept σ σ' := by
  unfold copyV at h
  simp only [bind, Option.bind_eq_some_iff, want] at h
  obtain ⟨_, _, d, _, _, _, _, _, _, _, _, _, h⟩ := h
  split at h
  · simp only [bind, Option.bind_eq_some_iff, pure, Option.some.injEq, Prod.mk.injEq] at h
    obtain ⟨_, _, _, h1, rfl, rfl⟩ := h
    exact inPlace_kept h1
  · simp [bad] at h
theorem clear_kept {argTypes : Array TypeId} {args : Array Value} {v : Value} (h : clearV P σ argTypes args = some (v, σ')) : Kept σ σ' := by
  unfold clearV at h
  simp only [bind, Option.bind_eq_some_iff, want] at h
  obtain ⟨_, _, d, _, _, _, _, _, h⟩ := h
  split at h
  · simp only [bind, Option.bind_eq_some_iff, pure, Option.some.injEq, Prod.mk.injEq] at h
    obtain ⟨_, h1, rfl, rfl⟩ := h
    exact inPlace_kept h1
  · simp [bad] at h
theorem update_kept {t : TypeId} {x k v : Value} (h : updateV P σ t x k v = some σ') : Kept σ σ' := by
  unfold updateV at h
  simp only [bind, Option.bind_eq_some_iff, want] at h
  obtain ⟨⟨_, _⟩, _, h⟩ := h
  split at h
  · rename_i r
    simp only [bind, Option.bind_eq_some_iff] at h
    obtain ⟨es, hes, _, _, h⟩ := h
    have hg : σ.get r = some (.mp es) := by
      unfold rowsOf at hes
      simp only at hes
      split at hes
      · rename_i hg; simp only [pure, Option.some.injEq] at hes; subst hes; exact hg
      · simp [bad] at hes
    split at h
    · simp only [bind, Option.bind_eq_some_iff] at h
      obtain ⟨f, _, h⟩ := h
      unfold setRow at h
      split at h
      · split at h
        · split at h
          · simp only [pure, Option.some.injEq] at h; subst h; exact Kept.set hg rfl
          · simp [bad] at h
        · simp [bad] at h
      · simp only [pure, Option.some.injEq] at h; subst h; exact Kept.set hg rfl
    · simp [bad] at h
  · simp [bad] at h
theorem plain_kept {ev : Operand → Value} {o : Oper} {ne : Ne} (h : plainV P σ ev o = some (ne, σ')) : σ' = σ := by
  unfold plainV at h
  split at h
  · split at h
    · split at h
      · simp only [pure, Option.some.injEq, Prod.mk.injEq] at h; exact h.2.symm
      · simp [bad] at h
    · simp [bad] at h
  · split at h
    · split at h
      · simp only [pure, Option.some.injEq, Prod.mk.injEq] at h; exact h.2.symm
      · simp [bad] at h
    · simp [bad] at h
theorem v0_eq {r : R Value} {ne : Ne} (h : v0 σ r = some (ne, σ')) : ∃ v, r = some v ∧ ne = .val v ∧ σ' = σ := by
  simp only [v0, bind, Option.bind_eq_some_iff, pure, Option.some.injEq] at h
  obtain ⟨v, h1, h⟩ := h
  simp only [Prod.mk.injEq] at h
  exact ⟨v, h1, h.1.symm, h.2.symm⟩
theorem v1_eq {r : R (Value × St)} {ne : Ne} (h : v1 r = some (ne, σ')) : ∃ v, r = some (v, σ') ∧ ne = .val v := by
  simp only [v1, bind, Option.bind_eq_some_iff, pure, Option.some.injEq] at h
  obtain ⟨⟨v, σ1⟩, h1, h⟩ := h
  simp only [Prod.mk.injEq] at h
  obtain ⟨rfl, rfl⟩ := h
  exact ⟨v, h1, rfl⟩
theorem vs_eq {r : R St} {ne : Ne} (h : vs r = some (ne, σ')) : r = some σ' ∧ ne = .skip := by
  simp only [vs, bind, Option.bind_eq_some_iff, pure, Option.some.injEq] at h
  obtain ⟨σ1, h1, h⟩ := h
  simp only [Prod.mk.injEq] at h
  obtain ⟨rfl, rfl⟩ := h
  exact ⟨h1, rfl⟩
theorem newP_kept {cs : List Value} {v : Value} (h : newP σ cs = some (v, σ')) : Kept σ σ' := by
  unfold newP at h
  simp only [bind, Option.bind_eq_some_iff, pure, Option.some.injEq] at h
  obtain ⟨⟨b, σ1⟩, h1, h⟩ := h
  simp only [Prod.mk.injEq] at h
  obtain ⟨rfl, rfl⟩ := h
  exact Kept.new h1

theorem op_kept {ev : Operand → Value} {o : Oper} {ne : Ne} (h : opV P σ ev o = some (ne, σ')) : Kept σ σ' := by
  obtain ⟨dst, op, type, pos, after, guard⟩ := o
  cases op <;> simp only [opV] at h
  case alloc e =>
    obtain ⟨v, h1, _⟩ := v1_eq h
    simp only [bind, Option.bind_eq_some_iff] at h1
    obtain ⟨_, _, h1⟩ := h1
    exact newP_kept h1
  case box e x =>
    split at h
    case isFalse => simp [bad] at h
    obtain ⟨v, h1, _⟩ := v1_eq h; exact newP_kept h1
  case buildSlice t n ps =>
    split at h
    case isFalse => simp [bad] at h
    obtain ⟨v, h1, _⟩ := v1_eq h
    unfold buildS at h1
    simp only [bind, Option.bind_eq_some_iff] at h1
    obtain ⟨_, _, _, _, h1⟩ := h1
    split at h1
    · simp only [bind, Option.bind_eq_some_iff, pure, Option.some.injEq] at h1
      obtain ⟨_, _, _, _, ⟨_, _⟩, h2, h1⟩ := h1
      simp only [Prod.mk.injEq] at h1
      obtain ⟨rfl, rfl⟩ := h1
      exact Kept.new h2
    · simp [bad] at h1
  case makeSlice t l c =>
    obtain ⟨v, h1, _⟩ := v1_eq h
    unfold makeS at h1
    simp only [bind, Option.bind_eq_some_iff] at h1
    obtain ⟨_, _, h1⟩ := h1
    split at h1
    · simp only [bind, Option.bind_eq_some_iff] at h1
      obtain ⟨_, _, h1⟩ := h1
      split at h1
      · simp only [bind, Option.bind_eq_some_iff, pure, Option.some.injEq] at h1
        obtain ⟨_, _, ⟨_, _⟩, h2, h1⟩ := h1
        simp only [Prod.mk.injEq] at h1
        obtain ⟨rfl, rfl⟩ := h1
        exact Kept.new h2
      · simp [bad] at h1
    · simp [bad] at h1
  case makeMap t r =>
    cases r with
    | some r => simp [bad] at h
    | none =>
      obtain ⟨v, h1, _⟩ := v1_eq h
      simp only [bind, Option.bind_eq_some_iff, pure, Option.some.injEq] at h1
      obtain ⟨⟨_, _⟩, h2, h1⟩ := h1
      simp only [Prod.mk.injEq] at h1
      obtain ⟨rfl, rfl⟩ := h1
      exact Kept.new h2
  case store t a x =>
    obtain ⟨h1, _⟩ := vs_eq h
    unfold storeV at h1
    split at h1
    · simp only [bind, Option.bind_eq_some_iff] at h1
      obtain ⟨_, _, h1⟩ := h1
      split at h1
      · exact storeC_kept h1
      · simp [bad] at h1
    · simp [bad] at h1
  case mapUpdate t m k x => exact update_kept (vs_eq h).1
  case insert t m k x => exact update_kept (vs_eq h).1
  case convert s d x =>
    unfold convertV at h
    split at h
    · split at h
      · simp only [bind, Option.bind_eq_some_iff, pure, Option.some.injEq] at h
        obtain ⟨⟨_, _⟩, h2, h1⟩ := h
        simp only [Prod.mk.injEq] at h1
        obtain ⟨rfl, rfl⟩ := h1
        exact Kept.new h2
      · simp [bad] at h
    · split at h
      · simp only [bind, Option.bind_eq_some_iff, pure, Option.some.injEq, Prod.mk.injEq] at h
        obtain ⟨_, _, _, _, rfl, rfl⟩ := h
        exact Kept.refl _
      · simp [bad] at h
    · rw [plain_kept h]; exact Kept.refl _
  case call c =>
    obtain ⟨callee, args, argTypes⟩ := c
    cases callee with
    | invoke r m => simp [bad] at h
    | value f =>
      simp only at h
      split at h
      · simp only [bind, Option.bind_eq_some_iff, pure, Option.some.injEq, Prod.mk.injEq] at h
        obtain ⟨_, _, rfl, rfl⟩ := h
        exact Kept.refl _
      · simp [bad] at h
    | builtin b =>
      simp only [builtinV] at h
      split at h
      · obtain ⟨v, h1, _⟩ := v1_eq h; exact append_kept h1
      · obtain ⟨v, h1, _⟩ := v1_eq h; exact copy_kept h1
      · obtain ⟨v, h1, _⟩ := v1_eq h; exact clear_kept h1
      · split at h
        · simp only [pure, Option.some.injEq, Prod.mk.injEq] at h; rw [← h.2]; exact Kept.refl _
        · split at h
          · simp only [pure, Option.some.injEq, Prod.mk.injEq] at h; rw [← h.2]; exact Kept.refl _
          · simp [bad] at h
        · simp only [pure, Option.some.injEq, Prod.mk.injEq] at h; rw [← h.2]; exact Kept.refl _
        · rw [plain_kept h]; exact Kept.refl _
      · simp [bad] at h
      · rw [plain_kept h]; exact Kept.refl _
  case binOp b t x y yt =>
    split at h
    · simp only [pure, Option.some.injEq, Prod.mk.injEq] at h; rw [← h.2]; exact Kept.refl _
    · simp only [pure, Option.some.injEq, Prod.mk.injEq] at h; rw [← h.2]; exact Kept.refl _
    · rw [plain_kept h]; exact Kept.refl _
  case makeFunc fn a b =>
    cases fn <;> simp only [bad] at h <;> try (cases h; done)
    simp only [pure, Option.some.injEq, Prod.mk.injEq] at h; rw [← h.2]; exact Kept.refl _
  all_goals first
    | (simp [bad] at h; done)
    | (simp only [pure, Option.some.injEq, Prod.mk.injEq] at h; rw [← h.2]; exact Kept.refl _)
    | (obtain ⟨_, _, _, e⟩ := v0_eq h; rw [e]; exact Kept.refl _)
    | (rw [plain_kept h]; exact Kept.refl _)
    | (split at h <;> first
        | (simp [bad] at h; done)
        | (simp only [pure, Option.some.injEq, Prod.mk.injEq] at h; rw [← h.2]; exact Kept.refl _)
        | (obtain ⟨_, _, _, e⟩ := v0_eq h; rw [e]; exact Kept.refl _)
        | (rw [plain_kept h]; exact Kept.refl _))

variable {call : FuncId → List Value → St → R (Value × St)} {ops : Array Oper}
def KeptCall (call : FuncId → List Value → St → R (Value × St)) : Prop := ∀ f args σ v σ', call f args σ = some (v, σ') → Kept σ σ'

theorem step_kept (hc : KeptCall call) {o : Oper} {tm tm' : List Value} (h : stepV P call ops o tm σ = some (tm', σ')) : Kept σ σ' := by
  unfold stepV at h
  split at h
  · simp [bad] at h
  · simp only [pure, Option.some.injEq, Prod.mk.injEq] at h; rw [← h.2]; exact Kept.refl _
  · split at h
    · simp only [bind, Option.bind_eq_some_iff] at h
      obtain ⟨⟨ne, σ1⟩, h1, h⟩ := h
      have k := op_kept h1
      cases ne with
      | val v => simp only [pure, Option.some.injEq, Prod.mk.injEq] at h; rw [← h.2]; exact k
      | skip => simp only [pure, Option.some.injEq, Prod.mk.injEq] at h; rw [← h.2]; exact k
      | enter f args =>
        simp only [bind, Option.bind_eq_some_iff, pure, Option.some.injEq] at h
        obtain ⟨⟨v, σ2⟩, h2, h⟩ := h
        simp only [Prod.mk.injEq] at h
        rw [← h.2]
        exact k.trans (hc _ _ _ _ _ h2)
    · simp [bad] at h

theorem step_tm {o : Oper} {tm tm' : List Value} (h : stepV P call ops o tm σ = some (tm', σ')) : ∃ v, tm' = putV tm o.dst v := by
  unfold stepV at h
  split at h
  · simp [bad] at h
  · simp only [pure, Option.some.injEq, Prod.mk.injEq] at h; exact ⟨_, h.1.symm⟩
  · split at h
    · simp only [bind, Option.bind_eq_some_iff] at h
      obtain ⟨⟨ne, σ1⟩, h1, h⟩ := h
      cases ne with
      | val v => simp only [pure, Option.some.injEq, Prod.mk.injEq] at h; exact ⟨_, h.1.symm⟩
      | skip => simp only [pure, Option.some.injEq, Prod.mk.injEq] at h; exact ⟨_, h.1.symm⟩
      | enter f args =>
        simp only [bind, Option.bind_eq_some_iff, pure, Option.some.injEq] at h
        obtain ⟨⟨v, σ2⟩, h2, h⟩ := h
        simp only [Prod.mk.injEq] at h
        exact ⟨_, h.1.symm⟩
    · simp [bad] at h

theorem ops_kept (hc : KeptCall call) : ∀ (l : List Oper) {tm tm' : List Value} {σ σ' : St}, opsV P call ops l tm σ = some (tm', σ') → Kept σ σ'
  | [], tm, tm', σ, σ', h => by simp only [opsV, pure, Option.some.injEq, Prod.mk.injEq] at h; rw [← h.2]; exact Kept.refl _
  | o :: l, tm, tm', σ, σ', h => by
    simp only [opsV, bind, Option.bind_eq_some_iff] at h
    obtain ⟨⟨tm1, σ1⟩, h1, h2⟩ := h
    exact (step_kept hc h1).trans (ops_kept hc l h2)

/-! ## what is hidden, and laid back -/
theorem hide_get (t : Tr) : ∀ (h : List Nat) (t : Tr) (b : Nat), b < most → (hideAll t h).get b = if b ∈ h then none else t.get b := by
  intro h
  induction h with
  | nil => intro t b _; simp [hideAll]
  | cons x h ih =>
    intro t b hb
    simp only [hideAll, ih _ b hb, Tr.get_set]
    by_cases e : b = x
    · subst e; simp [most_lt hb]
    · simp [e]
theorem back_get (t0 : Tr) : ∀ (h : List Nat) (t : Tr) (b : Nat), b < most → (layBack t0 t h).get b = if b ∈ h then (match t0.get b with | some o => some o | none => t.get b) else t.get b := by
  intro h
  induction h with
  | nil => intro t b _; simp [layBack]
  | cons x h ih =>
    intro t b hb
    simp only [layBack, ih _ b hb]
    by_cases e : b = x
    · subst e
      cases ht : t0.get b with
      | none => simp
      | some o => simp [Tr.get_set, most_lt hb]
    · have : ∀ o, (t.set (some o) depth x).get b = t.get b := by intro o; simp [Tr.get_set, e]
      cases ht : t0.get x with
      | none => simp [e]
      | some o => simp [e, this]

/-- the memory that an operation sees -/
def seen (σ : St) (h : List Nat) : St := { next := σ.next, mark := σ.next, log := [], mem := hideAll σ.mem h }
def back (σ σ' : St) (h : List Nat) : St := { next := σ'.next, mark := σ.mark, log := noteAll σ.mark σ'.log σ.log, mem := layBack σ.mem σ'.mem h }
theorem seen_get (σ : St) (h : List Nat) (b : Nat) : (seen σ h).get b = if b ∈ h then none else σ.get b := by
  by_cases hb : b < most
  · rw [St.get_eq hb, St.get_eq hb]; exact hide_get σ.mem h σ.mem b hb
  · simp [St.get, blt_f (by omega : most ≤ b)]
theorem back_get' (σ σ' : St) (h : List Nat) (b : Nat) : (back σ σ' h).get b = if b ∈ h then (match σ.get b with | some o => some o | none => σ'.get b) else σ'.get b := by
  by_cases hb : b < most
  · rw [St.get_eq hb, St.get_eq hb, St.get_eq hb]; exact back_get σ.mem h σ'.mem b hb
  · simp [St.get, blt_f (by omega : most ≤ b)]
theorem mem_noteAll {mark b : Nat} : ∀ {m l : List Nat}, b ∈ noteAll mark m l ↔ b ∈ l ∨ (b ∈ m ∧ b < mark) := by
  intro m
  induction m with
  | nil => intro l; simp [noteAll]
  | cons x m ih =>
    intro l
    have : noteAll mark (x :: m) l = noteAll mark m (note mark x l) := rfl
    rw [this, ih, mem_note]
    constructor
    · rintro ((h | ⟨rfl, h⟩) | ⟨h, k⟩)
      · exact .inl h
      · exact .inr ⟨by simp, h⟩
      · exact .inr ⟨by simp [h], k⟩
    · rintro (h | ⟨h, k⟩)
      · exact .inl (.inl h)
      · rcases List.mem_cons.1 h with rfl | h
        · exact .inl (.inr ⟨rfl, k⟩)
        · exact .inr ⟨h, k⟩

theorem back_kept {h : List Nat} (k : Kept (seen σ h) σ') : Kept σ (back σ σ' h) := by
  intro hm
  have k := k (Nat.le_refl _)
  have hsm : (seen σ h).mark = σ.next := rfl
  refine ⟨k.next, rfl, fun b hb => mem_noteAll.2 (.inl hb), fun b hb => ?_, fun b h1 h2 => ?_⟩
  · rcases mem_noteAll.1 hb with q | ⟨q1, q2⟩
    · exact .inl q
    · rcases k.logd b q1 with r | ⟨_, o, r1, r2⟩
      · cases r
      · rw [seen_get] at r1
        split at r1
        · cases r1
        · exact .inr ⟨q2, o, r1, r2⟩
  · have h3 : b ∉ σ'.log := fun q => h2 (mem_noteAll.2 (.inr ⟨q, h1⟩))
    have h4 := k.get b (by rw [hsm]; omega) h3
    rw [seen_get] at h4
    rw [back_get', h4]
    split
    · cases σ.get b <;> rfl
    · rfl

variable {bef : List Nat} {pre : List (Nat × Nat)}
theorem one_eq {o : Oper} {k : Nat} {tm tm' : List Value} {d d' : Dr} (h : drawOne P call ops bef pre o k tm σ d = some (tm', σ', d')) :
    (pureOp P o.op = true ∧ stepV P call ops o tm σ = some (tm', σ') ∧ d' = d) ∨
    (pureOp P o.op = false ∧ ∃ σ1, stepV P call ops o tm (seen σ (hidden bef pre d.wr k)) = some (tm', σ1) ∧ writesOK bef pre d.ld k σ1.log = true ∧ σ' = back σ σ1 (hidden bef pre d.wr k) ∧
      d' = { wr := if σ1.log.isEmpty then d.wr else (k, σ1.log) :: d.wr, ld := (k, loadsAt tm o.op) :: d.ld }) := by
  unfold drawOne at h
  split at h
  · rename_i hp
    simp only [bind, Option.bind_eq_some_iff, pure, Option.some.injEq] at h
    obtain ⟨⟨tm1, σ1⟩, h1, h⟩ := h
    simp only [Prod.mk.injEq] at h
    obtain ⟨rfl, rfl, rfl⟩ := h
    exact .inl ⟨hp, h1, rfl⟩
  · rename_i hp
    simp only [bind, Option.bind_eq_some_iff] at h
    obtain ⟨⟨tm1, σ1⟩, h1, h⟩ := h
    split at h
    · rename_i hw
      simp only [pure, Option.some.injEq, Prod.mk.injEq] at h
      obtain ⟨rfl, rfl, rfl⟩ := h
      exact .inr ⟨by simpa using hp, σ1, h1, hw, rfl, rfl⟩
    · simp [bad] at h

theorem one_kept (hc : KeptCall call) {o : Oper} {k : Nat} {tm tm' : List Value} {d d' : Dr} (h : drawOne P call ops bef pre o k tm σ d = some (tm', σ', d')) : Kept σ σ' := by
  rcases one_eq h with ⟨_, h1, _⟩ | ⟨_, σ1, h1, _, rfl, _⟩
  · exact step_kept hc h1
  · exact back_kept (step_kept hc h1)

theorem draw_kept (hc : KeptCall call) {tm : List Value} : ∀ (k : Nat) {tm' : List Value} {σ' : St} {d' : Dr}, drawTo P call ops bef pre tm σ k = some (tm', σ', d') → Kept σ σ'
  | 0, tm', σ', d', h => by simp only [drawTo, pure, Option.some.injEq, Prod.mk.injEq] at h; rw [← h.2.1]; exact Kept.refl _
  | k + 1, tm', σ', d', h => by
    simp only [drawTo, bind, Option.bind_eq_some_iff] at h
    obtain ⟨⟨tm1, σ1, d1⟩, h1, h⟩ := h
    split at h
    · exact (draw_kept hc k h1).trans (one_kept hc h)
    · simp [bad] at h

theorem region_kept (hc : KeptCall call) {draw : Bool} {tm tm' : List Value} (h : regionV P call ops draw tm σ = some (tm', σ')) : Kept σ σ' := by
  unfold regionV at h
  split at h
  · simp only at h
    split at h
    · simp only [bind, Option.bind_eq_some_iff, pure, Option.some.injEq] at h
      obtain ⟨⟨tm1, σ1, d1⟩, h1, h⟩ := h
      simp only [Prod.mk.injEq] at h
      obtain ⟨rfl, rfl⟩ := h
      exact draw_kept hc _ h1
    · simp [bad] at h
  · exact ops_kept hc _ h

theorem call_kept {ov : FuncId → Option (List Value → St → R (Value × St))} {run : Code → List Value → St → R (Ex × List Value × St)} (hov : ∀ f g, ov f = some g → ∀ args σ v σ', g args σ = some (v, σ') → Kept σ σ')
    (hrun : ∀ c tm σ e tm' σ', run c tm σ = some (e, tm', σ') → Kept σ σ') : KeptCall (callV P ov run) := by
  intro f args σ v σ' h
  unfold callV at h
  split at h
  · rename_i g hg; exact hov f g hg _ _ _ _ h
  · simp only [bind, Option.bind_eq_some_iff, want] at h
    obtain ⟨fn, _, c, _, ⟨e, tm1, σ1⟩, h1, h⟩ := h
    have k := hrun _ _ _ _ _ _ h1
    cases e <;> simp only [bind, Option.bind_eq_some_iff, pure, Option.some.injEq, bad] at h <;> try (cases h; done)
    all_goals
      obtain ⟨_, _, h⟩ := h
      simp only [Prod.mk.injEq] at h
      rw [← h.2]; exact k

theorem run_kept {ov : FuncId → Option (List Value → St → R (Value × St))} (hov : ∀ f g, ov f = some g → ∀ args σ v σ', g args σ = some (v, σ') → Kept σ σ') :
    ∀ (n : Nat) (sc : Option Code) (c : Code) (tm : List Value) (σ : St) (e : Ex) (tm' : List Value) (σ' : St), runV P ov n sc c tm σ = some (e, tm', σ') → Kept σ σ' := by
  intro n
  induction n with
  | zero => intro sc c tm σ e tm' σ' h; simp [runV, bad] at h
  | succ n ih =>
    intro sc c tm σ e tm' σ' h
    have hc : KeptCall (callV P ov (runV P ov n none)) := call_kept hov (fun c tm σ e tm' σ' => ih none c tm σ e tm' σ')
    cases sc with
    | some a =>
      simp only [runV, bind, Option.bind_eq_some_iff] at h
      obtain ⟨⟨e1, tm1, σ1⟩, h1, h⟩ := h
      have k := ih _ _ _ _ _ _ _ h1
      cases e1 with
      | goto l =>
        simp only at h
        split at h
        · exact k.trans (ih _ _ _ _ _ _ _ h)
        · simp only [pure, Option.some.injEq, Prod.mk.injEq] at h; rw [← h.2.2]; exact k
      | _ => simp only [pure, Option.some.injEq, Prod.mk.injEq] at h; rw [← h.2.2]; exact k
    | none =>
      cases c <;> simp only [runV] at h
      case region id ops draw =>
        simp only [bind, Option.bind_eq_some_iff, pure, Option.some.injEq] at h
        obtain ⟨⟨tm1, σ1⟩, h1, h⟩ := h
        simp only [Prod.mk.injEq] at h; rw [← h.2.2]
        exact region_kept hc h1
      case seq a b =>
        simp only [bind, Option.bind_eq_some_iff] at h
        obtain ⟨⟨e1, tm1, σ1⟩, h1, h⟩ := h
        have k := ih _ _ _ _ _ _ _ h1
        cases e1 with
        | normal => exact k.trans (ih _ _ _ _ _ _ _ h)
        | _ => simp only [pure, Option.some.injEq, Prod.mk.injEq] at h; rw [← h.2.2]; exact k
      case cond x a b =>
        split at h
        · exact ih _ _ _ _ _ _ _ h
        · exact ih _ _ _ _ _ _ _ h
        · simp [bad] at h
      case block id a =>
        simp only [bind, Option.bind_eq_some_iff] at h
        obtain ⟨⟨e1, tm1, σ1⟩, h1, h⟩ := h
        have k := ih _ _ _ _ _ _ _ h1
        cases e1 with
        | exit i =>
          simp only at h
          split at h <;> (simp only [pure, Option.some.injEq, Prod.mk.injEq] at h; rw [← h.2.2]; exact k)
        | _ => simp only [pure, Option.some.injEq, Prod.mk.injEq] at h; rw [← h.2.2]; exact k
      case loop a =>
        simp only [bind, Option.bind_eq_some_iff] at h
        obtain ⟨⟨e1, tm1, σ1⟩, h1, h⟩ := h
        have k := ih _ _ _ _ _ _ _ h1
        cases e1 with
        | normal => exact k.trans (ih _ _ _ _ _ _ _ h)
        | _ => simp only [pure, Option.some.injEq, Prod.mk.injEq] at h; rw [← h.2.2]; exact k
      case scope a => exact ih _ _ _ _ _ _ _ h
      all_goals first
        | (simp [bad] at h; done)
        | (simp only [pure, Option.some.injEq, Prod.mk.injEq] at h; rw [← h.2.2]; exact Kept.refl _)

end
end Go.Proofs.Ytkghejleififiaa.AS
