import Derived.Test.YtkghejleififiaaAsKept
namespace Go.Proofs.Ytkghejleififiaa.AS
open Go
set_option linter.unusedSectionVars false
variable [Sym] [Orc]
set_option linter.unusedVariables false
set_option linter.unusedSimpArgs false

/-! ## edges -/
theorem testBit_ahead {n i : Nat} : Nat.beq ((n / 2 ^ i) % 2) 1 = n.testBit i := by
  rw [Nat.testBit_eq_decide_div_mod_eq]
  by_cases h : n / 2 ^ i % 2 = 1
  · rw [beq_t h]; simp [h]
  · rw [beq_f h]; simp [h]

theorem fold_bit (acc : List Nat) (i : Nat) : ∀ (es : List Edge) (s : Nat),
    (es.foldl (fun s e => if Region.binds .any e && Nat.blt e.on acc.length then Nat.lor (Nat.lor s (2 ^ e.on)) (acc.getD e.on 0) else s) s).testBit i = true →
    s.testBit i = true ∨ ∃ e ∈ es, Region.binds .any e = true ∧ e.on < acc.length ∧ (i = e.on ∨ (acc.getD e.on 0).testBit i = true) := by
  intro es
  induction es with
  | nil => intro s h; exact .inl h
  | cons e es ih =>
    intro s h
    simp only [List.foldl_cons] at h
    rcases ih _ h with h | ⟨e', h1, h2, h3, h4⟩
    · split at h
      · rename_i hc
        simp only [Bool.and_eq_true] at hc
        have e1 : Nat.lor (Nat.lor s (2 ^ e.on)) (acc.getD e.on 0) = (s ||| 2 ^ e.on) ||| acc.getD e.on 0 := rfl
        rw [e1, Nat.testBit_or, Nat.testBit_or] at h
        simp only [Bool.or_eq_true] at h
        rcases h with (h | h) | h
        · exact .inl h
        · rw [Nat.testBit_two_pow] at h
          exact .inr ⟨e, by simp, hc.1, of_blt hc.2, .inl (by simpa using h : e.on = i).symm⟩
        · exact .inr ⟨e, by simp, hc.1, of_blt hc.2, .inr h⟩
      · exact .inl h
    · exact .inr ⟨e', by simp [h1], h2, h3, h4⟩

theorem bef_spec (ops : Array Oper) : ∀ (l : List Oper) (acc : List Nat), (∀ j, l[j]? = ops[acc.length + j]?) →
    (∀ j i o, j < acc.length → ops[j]? = some o → (acc.getD j 0).testBit i = true → ∃ e ∈ o.after.toList, Region.binds .any e = true ∧ e.on < j ∧ (i = e.on ∨ (acc.getD e.on 0).testBit i = true)) →
    ∀ j i o, ops[j]? = some o → ((befOf ops l acc).getD j 0).testBit i = true → ∃ e ∈ o.after.toList, Region.binds .any e = true ∧ e.on < j ∧ (i = e.on ∨ ((befOf ops l acc).getD e.on 0).testBit i = true) := by
  intro l
  induction l with
  | nil =>
    intro acc hl hacc j i o ho hb
    simp only [befOf] at hb ⊢
    have : j < acc.length := by
      rcases Nat.lt_or_ge j acc.length with h | h
      · exact h
      · have := hl (j - acc.length)
        rw [show acc.length + (j - acc.length) = j by omega, ho] at this
        simp at this
    exact hacc j i o this ho hb
  | cons x l ih =>
    intro acc hl hacc j i o ho hb
    simp only [befOf] at hb ⊢
    have hx : ops[acc.length]? = some x := by have := hl 0; simpa using this.symm
    refine ih _ (fun j => by have := hl (j + 1); simp only [List.length_append, List.length_cons, List.length_nil]; rw [show acc.length + (0 + 1) + j = acc.length + (j + 1) by omega, ← this]; rfl) ?_ j i o ho hb
    intro j i o hj ho hb
    simp only [List.length_append, List.length_cons, List.length_nil] at hj
    by_cases h : j < acc.length
    · have e1 : ∀ k, k < acc.length → (acc ++ [x.after.toList.foldl (fun s e => if Region.binds .any e && Nat.blt e.on acc.length then Nat.lor (Nat.lor s (2 ^ e.on)) (acc.getD e.on 0) else s) 0]).getD k 0 = acc.getD k 0 := by
        intro k hk; simp [List.getD_eq_getElem?_getD, List.getElem?_append_left hk]
      rw [e1 j h] at hb
      obtain ⟨e, h1, h2, h3, h4⟩ := hacc j i o h ho hb
      exact ⟨e, h1, h2, h3, by rw [e1 _ (by omega)]; exact h4⟩
    · have hj' : j = acc.length := by omega
      subst hj'
      rw [hx] at ho; cases ho
      simp only [List.getD_eq_getElem?_getD, List.getElem?_concat_length, Option.getD_some] at hb
      rcases fold_bit acc i _ 0 (by simpa only [List.getD_eq_getElem?_getD] using hb) with h | ⟨e, h1, h2, h3, h4⟩
      · simp at h
      · exact ⟨e, h1, h2, h3, by
          rcases h4 with h4 | h4
          · exact .inl h4
          · right; simpa [List.getD_eq_getElem?_getD, List.getElem?_append_left h3] using h4⟩

theorem ahead_edge {ops : Array Oper} {i j : Nat} {o : Oper} (ho : ops[j]? = some o) (h : ahead (befOf ops ops.toList []) i j = true) :
    ∃ e ∈ o.after.toList, Region.binds .any e = true ∧ e.on < j ∧ (i = e.on ∨ ahead (befOf ops ops.toList []) i e.on = true) := by
  unfold ahead at h
  rw [testBit_ahead] at h
  obtain ⟨e, h1, h2, h3, h4⟩ := bef_spec ops ops.toList [] (fun j => by simp) (fun j i o hj => by simp at hj) j i o ho h
  exact ⟨e, h1, h2, h3, h4.imp id fun q => by unfold ahead; rw [testBit_ahead]; exact q⟩

/-! ## operations that look at little -/
section local_
variable {P : Program} [OrcOK P] {call : FuncId → List Value → St → R (Value × St)} {ops : Array Oper}

theorem plain_any {ev : Operand → Value} {o : Oper} {ne : Ne} {σ σ1 σ2 : St} (h : plainV P σ ev o = some (ne, σ1)) : σ1 = σ ∧ plainV P σ2 ev o = some (ne, σ2) ∧ ∃ v, ne = .val v := by
  unfold plainV at h ⊢
  split at h
  · rename_i hall
    rw [if_pos hall]
    split at h
    · rename_i v hpv
      split at h
      · rename_i hf
        simp only [pure, Option.some.injEq, Prod.mk.injEq] at h
        obtain ⟨rfl, rfl⟩ := h
        exact ⟨rfl, by simp [hf], _, rfl⟩
      · simp [bad] at h
    · simp [bad] at h
  · rename_i hall
    rw [if_neg hall]
    split at h
    · split at h
      · rename_i hf
        simp only [pure, Option.some.injEq, Prod.mk.injEq] at h
        obtain ⟨rfl, rfl⟩ := h
        exact ⟨rfl, if_pos hf, _, rfl⟩
      · simp [bad] at h
    · simp [bad] at h

theorem v0_any {r : R Value} {ne : Ne} {σ σ1 σ2 : St} (h : v0 σ r = some (ne, σ1)) : σ1 = σ ∧ v0 σ2 r = some (ne, σ2) ∧ ∃ v, ne = .val v := by
  obtain ⟨v, h1, rfl, rfl⟩ := v0_eq h
  exact ⟨rfl, by rw [h1]; rfl, v, rfl⟩

theorem val_any {v : Value} {ne : Ne} {σ σ1 σ2 : St} (h : (pure (Ne.val v, σ) : R (Ne × St)) = some (ne, σ1)) : σ1 = σ ∧ (pure (Ne.val v, σ2) : R (Ne × St)) = some (ne, σ2) ∧ ∃ v, ne = .val v := by
  simp only [pure, Option.some.injEq, Prod.mk.injEq] at h
  obtain ⟨rfl, rfl⟩ := h
  exact ⟨rfl, rfl, _, rfl⟩

/-- a quiet operation comes to the same over every memory -/
theorem pure_any {ev : Operand → Value} {o : Oper} {ne : Ne} {σ σ1 : St} (σ2 : St) (hp : pureOp P o.op = true) (h : opV P σ ev o = some (ne, σ1)) : σ1 = σ ∧ opV P σ2 ev o = some (ne, σ2) ∧ ∃ v, ne = .val v := by
  obtain ⟨dst, op, type, pos, after, guard⟩ := o
  cases op <;> simp only [opV] at h ⊢ <;> simp only [pureOp] at hp <;> try (cases hp; done)
  case move x => exact val_any h
  case assign x => exact val_any h
  case pick c a b =>
    split at h
    · exact val_any h
    · simp [bad] at h
  case nilCheck x =>
    split at h
    · exact val_any h
    · exact val_any h
    · simp [bad] at h
  case binOp b t x y yt =>
    split at h
    · exact val_any h
    · exact val_any h
    · exact plain_any h
  case unOp a b c => exact plain_any h
  case makeFunc fn a b =>
    cases fn <;> simp only [bad] at h <;> try (cases h; done)
    exact val_any h
  case build t ps =>
    split at h
    · rename_i hj; rw [if_pos hj]; exact v0_any h
    · simp [bad] at h
  case fieldAddr t x f => exact v0_any h
  case field t x f => exact v0_any h
  case indexAddr t x i => exact v0_any h
  case index t x i =>
    split at h
    · exact plain_any h
    · exact v0_any h
  case extract t i =>
    split at h
    · exact v0_any h
    · simp [bad] at h
  case slice t x l hh m =>
    split at hp
    · rename_i hu
      split at h
      · exact plain_any h
      · exfalso
        obtain ⟨v, h1, _⟩ := v0_eq h
        unfold sliceV at h1
        rw [hu] at h1
        simp [bad] at h1
    · cases hp
  case convert s d x =>
    unfold convertV at h ⊢
    split at h
    · rename_i h1 h2 h3; rw [h1, h2] at hp; simp at hp
    · rename_i h1 h2 h3; rw [h1, h2] at hp; simp at hp
    · exact plain_any h
  case call c =>
    obtain ⟨callee, args, argTypes⟩ := c
    cases callee with
    | invoke r m => simp at hp
    | value f => simp at hp
    | builtin b =>
      simp only [builtinV] at h ⊢
      cases b <;> simp only at hp h ⊢ <;> try (first | (cases hp; done) | (exact plain_any h))
      split at h
      · exact val_any h
      · rename_i k e r ht ha
        rw [ht] at hp; simp at hp
      · exact val_any h
      · exact plain_any h

/-- over every memory -/
theorem step_pure_any {o : Oper} {tm tm' : List Value} {σ σ1 : St} (σ2 : St) (hp : pureOp P o.op = true) (h : stepV P call ops o tm σ = some (tm', σ1)) : σ1 = σ ∧ stepV P call ops o tm σ2 = some (tm', σ2) := by
  unfold stepV at h ⊢
  split at h
  · simp [bad] at h
  · rename_i hw
    simp only [pure, Option.some.injEq, Prod.mk.injEq] at h
    obtain ⟨rfl, rfl⟩ := h
    exact ⟨rfl, rfl⟩
  · rename_i hw
    split at h
    · rename_i hok
      rw [if_pos hok]
      simp only [bind, Option.bind_eq_some_iff] at h
      obtain ⟨⟨ne, σ3⟩, h1, h⟩ := h
      obtain ⟨rfl, h2, v, rfl⟩ := pure_any σ2 hp h1
      simp only [pure, Option.some.injEq, Prod.mk.injEq] at h
      obtain ⟨rfl, rfl⟩ := h
      refine ⟨rfl, ?_⟩
      simp only [bind, Option.bind_eq_some_iff]
      exact ⟨_, h2, rfl⟩
    · simp [bad] at h

theorem loadV_local {σ σ2 : St} {t : TypeId} {a v : Value} {b : Nat} (hb : (match a with | .pointer (some a) => some a.block | _ => none) = some b) (hg : σ2.get b = σ.get b) (h : loadV P σ t a = some v) : loadV P σ2 t a = some v := by
  unfold loadV at h ⊢
  split at h
  · rename_i b' o
    simp only [Option.some.injEq] at hb; subst hb
    have : ∀ n, loadC σ2 b' o n = loadC σ b' o n := by intro n; unfold loadC; rw [hg]
    simp only [this]
    exact h
  · simp [bad] at h

theorem sliceV_local {σ σ2 : St} {t : TypeId} {x v : Value} {l h' m : Option Value} {b : Nat} (hb : (match x with | .slice (some a) _ _ => some a.block | _ => none) = some b) (hg : σ2.get b = σ.get b) (h : sliceV P σ t x l h' m = some v) : sliceV P σ2 t x l h' m = some v := by
  unfold sliceV at h ⊢
  split at h
  · rename_i e a n c hu
    cases a with
    | none => simp at hb
    | some a =>
      simp only [Option.some.injEq] at hb; subst hb
      have : ∀ s, cutOK σ2 a.block s = cutOK σ a.block s := by intro s; unfold cutOK; rw [hg]
      simp only [this]
      exact h
  · simp at hb
  · simp [bad] at h

/-- a plain load looks at one block alone -/
theorem step_load_local {o : Oper} {tm tm' : List Value} {σ σ1 σ2 : St} {b : Nat} (hb : loadsAt tm o.op = some b) (hg : σ2.get b = σ.get b) (hnp : pureOp P o.op = false) (h : stepV P call ops o tm σ = some (tm', σ1)) :
    σ1 = σ ∧ stepV P call ops o tm σ2 = some (tm', σ2) := by
  have key : ∀ {ne : Ne} {σ3 : St}, opV P σ (evalOp tm) o = some (ne, σ3) → σ3 = σ ∧ opV P σ2 (evalOp tm) o = some (ne, σ2) ∧ ∃ v, ne = .val v := by
    intro ne σ3 h
    obtain ⟨dst, op, type, pos, after, guard⟩ := o
    cases op <;> simp only [loadsAt] at hb <;> try (cases hb; done)
    case load t a =>
      simp only [opV] at h ⊢
      obtain ⟨v, h1, rfl, rfl⟩ := v0_eq h
      exact ⟨rfl, by rw [loadV_local hb hg h1]; rfl, v, rfl⟩
    case slice t x l hh m =>
      simp only [opV] at h ⊢
      split at h
      · rename_i s hs; rw [hs] at hb; simp at hb
      · obtain ⟨v, h1, rfl, rfl⟩ := v0_eq h
        exact ⟨rfl, by rw [sliceV_local hb hg h1]; rfl, v, rfl⟩
  unfold stepV at h ⊢
  split at h
  · simp [bad] at h
  · rename_i hw
    simp only [pure, Option.some.injEq, Prod.mk.injEq] at h
    obtain ⟨rfl, rfl⟩ := h
    exact ⟨rfl, rfl⟩
  · rename_i hw
    split at h
    · rename_i hok
      rw [if_pos hok]
      simp only [bind, Option.bind_eq_some_iff] at h
      obtain ⟨⟨ne, σ3⟩, h1, h⟩ := h
      obtain ⟨rfl, h2, v, rfl⟩ := key h1
      simp only [pure, Option.some.injEq, Prod.mk.injEq] at h
      obtain ⟨rfl, rfl⟩ := h
      refine ⟨rfl, ?_⟩
      simp only [bind, Option.bind_eq_some_iff]
      exact ⟨_, h2, rfl⟩
    · simp [bad] at h
end local_

/-! ## the run in the order of the text -/
structure Tra (P : Program) (call : FuncId → List Value → St → R (Value × St)) (ops : Array Oper) (bef : List Nat) (pre : List (Nat × Nat)) (n : Nat) where
  tm : Nat → List Value
  σ : Nat → St
  d : Nat → Dr
  s : Nat → St
  o : Nat → Oper
  ho : ∀ k, k < n → ops[k]? = some (o k)
  quiet : ∀ k, k < n → pureOp P (o k).op = true → stepV P call ops (o k) (tm k) (σ k) = some (tm (k + 1), σ (k + 1)) ∧ d (k + 1) = d k
  loud : ∀ k, k < n → pureOp P (o k).op = false → stepV P call ops (o k) (tm k) (seen (σ k) (hidden bef pre (d k).wr k)) = some (tm (k + 1), s k) ∧ writesOK bef pre (d k).ld k (s k).log = true ∧
    σ (k + 1) = back (σ k) (s k) (hidden bef pre (d k).wr k) ∧ d (k + 1) = { wr := if (s k).log.isEmpty then (d k).wr else (k, (s k).log) :: (d k).wr, ld := (k, loadsAt (tm k) (o k).op) :: (d k).ld }
  d0 : d 0 = ⟨[], []⟩

section tra
variable {P : Program} [OrcOK P] {call : FuncId → List Value → St → R (Value × St)} {ops : Array Oper} {bef : List Nat} {pre : List (Nat × Nat)} {n : Nat}

theorem drawTo_le {tm : List Value} {σ : St} : ∀ (m k : Nat), k ≤ m → ∀ {r}, drawTo P call ops bef pre tm σ m = some r → ∃ r', drawTo P call ops bef pre tm σ k = some r' := by
  intro m
  induction m with
  | zero => intro k hk r h; have : k = 0 := by omega
            subst this; exact ⟨r, h⟩
  | succ m ih =>
    intro k hk r h
    by_cases e : k = m + 1
    · subst e; exact ⟨r, h⟩
    · simp only [drawTo, bind, Option.bind_eq_some_iff] at h
      obtain ⟨r1, h1, _⟩ := h
      exact ih k (by omega) h1

theorem tra_of {tm0 tmN : List Value} {σ0 σN : St} {dN : Dr} (h : drawTo P call ops bef pre tm0 σ0 n = some (tmN, σN, dN)) :
    ∃ T : Tra P call ops bef pre n, T.tm 0 = tm0 ∧ T.σ 0 = σ0 ∧ T.tm n = tmN ∧ T.σ n = σN := by
  classical
  let X : Nat → List Value × St × Dr := fun k => (drawTo P call ops bef pre tm0 σ0 k).getD (tm0, σ0, ⟨[], []⟩)
  have hX : ∀ k, k ≤ n → drawTo P call ops bef pre tm0 σ0 k = some (X k) := by
    intro k hk
    obtain ⟨r, hr⟩ := drawTo_le n k hk h
    simp only [X, hr, Option.getD_some]
  have hstep : ∀ k, k < n → ∃ o, ops[k]? = some o ∧ drawOne P call ops bef pre o k (X k).1 (X k).2.1 (X k).2.2 = some (X (k + 1)) := by
    intro k hk
    have h1 := hX (k + 1) (by omega)
    simp only [drawTo, hX k (by omega), bind, Option.bind_some] at h1
    split at h1
    · rename_i o ho; exact ⟨o, ho, h1⟩
    · simp [bad] at h1
  let o : Nat → Oper := fun k => (ops[k]?).getD default
  have ho : ∀ k, k < n → ops[k]? = some (o k) := by
    intro k hk; obtain ⟨p, hp, _⟩ := hstep k hk; simp only [o, hp, Option.getD_some]
  have hone : ∀ k, k < n → drawOne P call ops bef pre (o k) k (X k).1 (X k).2.1 (X k).2.2 = some (X (k + 1)) := by
    intro k hk; obtain ⟨p, hp, h1⟩ := hstep k hk; have := ho k hk; rw [hp] at this; cases this; exact h1
  let s : Nat → St := fun k => if q : ∃ σ1, stepV P call ops (o k) (X k).1 (seen (X k).2.1 (hidden bef pre (X k).2.2.wr k)) = some ((X (k + 1)).1, σ1) then Classical.choose q else default
  have h0 := hX 0 (by omega)
  simp only [drawTo, pure, Option.some.injEq] at h0
  have hn := hX n (Nat.le_refl _)
  rw [h] at hn
  simp only [Option.some.injEq] at hn
  refine ⟨⟨fun k => (X k).1, fun k => (X k).2.1, fun k => (X k).2.2, s, o, ho, ?_, ?_, ?_⟩, ?_, ?_, ?_, ?_⟩
  · intro k hk hp
    rcases one_eq (tm' := (X (k + 1)).1) (σ' := (X (k + 1)).2.1) (d' := (X (k + 1)).2.2) (hone k hk) with ⟨_, h1, h2⟩ | ⟨h1, _⟩
    · exact ⟨h1, h2⟩
    · rw [hp] at h1; cases h1
  · intro k hk hp
    rcases one_eq (tm' := (X (k + 1)).1) (σ' := (X (k + 1)).2.1) (d' := (X (k + 1)).2.2) (hone k hk) with ⟨h1, _⟩ | ⟨_, σ1, h1, h2, h3, h4⟩
    · rw [hp] at h1; cases h1
    · have hs : s k = σ1 := by
        have hq : ∃ σ1, stepV P call ops (o k) (X k).1 (seen (X k).2.1 (hidden bef pre (X k).2.2.wr k)) = some ((X (k + 1)).1, σ1) := ⟨σ1, h1⟩
        simp only [s, dif_pos hq]
        have := (Option.some.inj ((Classical.choose_spec hq).symm.trans h1))
        exact (Prod.mk.inj this).2
      show _ ∧ writesOK bef pre (X k).2.2.ld k (s k).log = true ∧ _
      rw [hs]
      exact ⟨h1, h2, h3, h4⟩
  · show (X 0).2.2 = _; rw [← h0]
  · show (X 0).1 = _; rw [← h0]
  · show (X 0).2.1 = _; rw [← h0]
  · show (X n).1 = _; rw [← hn]
  · show (X n).2.1 = _; rw [← hn]

namespace Tra
variable (T : Tra P call ops bef pre n) (hc : KeptCall call)

def H (k : Nat) : List Nat := hidden bef pre (T.d k).wr k
def isLoud (k : Nat) : Prop := pureOp P (T.o k).op = false
/-- the operation k wrote the block b, or made it -/
def touch (k b : Nat) : Prop := T.isLoud k ∧ (b ∈ (T.s k).log ∨ ((T.σ k).next ≤ b ∧ b < (T.σ (k + 1)).next))

include hc in
theorem kept {k : Nat} (hk : k < n) (hl : T.isLoud k) : Kept0 (seen (T.σ k) (T.H k)) (T.s k) :=
  step_kept hc (T.loud k hk hl).1 (Nat.le_refl _)
theorem quiet_same {k : Nat} (hk : k < n) (hp : pureOp P (T.o k).op = true) : T.σ (k + 1) = T.σ k :=
  (step_pure_any (T.σ k) hp (T.quiet k hk hp).1).1
theorem pure_or_loud (k : Nat) : pureOp P (T.o k).op = true ∨ T.isLoud k := by
  unfold isLoud; cases pureOp P (T.o k).op <;> simp

include hc in
theorem next_le {k : Nat} (hk : k < n) : (T.σ k).next ≤ (T.σ (k + 1)).next := by
  rcases T.pure_or_loud k with h | h
  · rw [T.quiet_same hk h]; exact Nat.le_refl _
  · rw [(T.loud k hk h).2.2.1]; exact (T.kept hc hk h).next
include hc in
theorem next_mono {j k : Nat} (hjk : j ≤ k) (hk : k ≤ n) : (T.σ j).next ≤ (T.σ k).next := by
  induction k with
  | zero => have : j = 0 := by omega
            subst this; exact Nat.le_refl _
  | succ k ih =>
    by_cases e : j = k + 1
    · subst e; exact Nat.le_refl _
    · exact Nat.le_trans (ih (by omega) (by omega)) (T.next_le hc (by omega))
theorem mark_eq {k : Nat} (hk : k < n) : (T.σ (k + 1)).mark = (T.σ k).mark := by
  rcases T.pure_or_loud k with h | h
  · rw [T.quiet_same hk h]
  · rw [(T.loud k hk h).2.2.1]; rfl
theorem mark0 {k : Nat} (hk : k ≤ n) : (T.σ k).mark = (T.σ 0).mark := by
  induction k with
  | zero => rfl
  | succ k ih => rw [T.mark_eq (by omega), ih (by omega)]
/-- what was written is old, was there, and was not hidden -/
theorem log_lt {k b : Nat} (hc : KeptCall call) (hk : k < n) (hl : T.isLoud k) (hb : b ∈ (T.s k).log) : b < (T.σ k).next ∧ b ∉ T.H k ∧ ∃ o, (T.σ k).get b = some o ∧ writable o = true := by
  rcases (T.kept hc hk hl).logd b hb with h | ⟨h1, o, h2, h3⟩
  · cases h
  · rw [seen_get] at h2
    split at h2
    · cases h2
    · rename_i hne; exact ⟨h1, hne, o, h2, h3⟩
theorem untouched {k b : Nat} (hc : KeptCall call) (hk : k < n) (hb : b < (T.σ k).next) (ht : ¬ T.touch k b) : (T.σ (k + 1)).get b = (T.σ k).get b := by
  rcases T.pure_or_loud k with h | h
  · rw [T.quiet_same hk h]
  · have hnl : b ∉ (T.s k).log := fun q => ht ⟨h, .inl q⟩
    have h4 := (T.kept hc hk h).get b hb hnl
    rw [seen_get] at h4
    rw [(T.loud k hk h).2.2.1, back_get', h4]
    show (if b ∈ T.H k then (match (T.σ k).get b with | some o => some o | none => if b ∈ T.H k then none else (T.σ k).get b) else if b ∈ T.H k then none else (T.σ k).get b) = _
    split
    · cases (T.σ k).get b <;> rfl
    · rfl
theorem s_next {k : Nat} (hk : k < n) (hl : T.isLoud k) : (T.σ (k + 1)).next = (T.s k).next := by rw [(T.loud k hk hl).2.2.1]; rfl
/-- hidden blocks are old -/
theorem wr_lt (hc : KeptCall call) {k : Nat} (hk : k ≤ n) : ∀ i m, (i, m) ∈ (T.d k).wr → i < k ∧ T.isLoud i ∧ m = (T.s i).log := by
  induction k with
  | zero => intro i m h; rw [T.d0] at h; cases h
  | succ k ih =>
    intro i m h
    rcases T.pure_or_loud k with hp | hl
    · rw [(T.quiet k (by omega) hp).2] at h
      obtain ⟨h1, h2, h3⟩ := ih (by omega) i m h
      exact ⟨by omega, h2, h3⟩
    · rw [(T.loud k (by omega) hl).2.2.2] at h
      simp only at h
      split at h
      · obtain ⟨h1, h2, h3⟩ := ih (by omega) i m h
        exact ⟨by omega, h2, h3⟩
      · rcases List.mem_cons.1 h with h | h
        · cases h; exact ⟨by omega, hl, rfl⟩
        · obtain ⟨h1, h2, h3⟩ := ih (by omega) i m h
          exact ⟨by omega, h2, h3⟩
theorem wr_mem {i : Nat} : ∀ {k : Nat}, k ≤ n → i < k → T.isLoud i → (T.s i).log ≠ [] → (i, (T.s i).log) ∈ (T.d k).wr := by
  intro k
  induction k with
  | zero => intro _ h; omega
  | succ k ih =>
    intro hk hi hl hne
    rcases T.pure_or_loud k with hp | hlk
    · rw [(T.quiet k (by omega) hp).2]
      have : i ≠ k := fun e => by subst e; unfold isLoud at hl; rw [hp] at hl; cases hl
      exact ih (by omega) (by omega) hl hne
    · rw [(T.loud k (by omega) hlk).2.2.2]
      by_cases e : i = k
      · subst e
        simp only
        have : (T.s i).log.isEmpty = false := by cases hh : (T.s i).log <;> simp_all
        rw [this]; simp
      · have := ih (by omega) (by omega) hl hne
        simp only
        split
        · exact this
        · exact List.mem_cons.2 (.inr this)
theorem ld_mem {i : Nat} : ∀ {k : Nat}, k ≤ n → i < k → T.isLoud i → (i, loadsAt (T.tm i) (T.o i).op) ∈ (T.d k).ld := by
  intro k
  induction k with
  | zero => intro _ h; omega
  | succ k ih =>
    intro hk hi hl
    rcases T.pure_or_loud k with hp | hlk
    · rw [(T.quiet k (by omega) hp).2]
      have : i ≠ k := fun e => by subst e; unfold isLoud at hl; rw [hp] at hl; cases hl
      exact ih (by omega) (by omega) hl
    · rw [(T.loud k (by omega) hlk).2.2.2]
      by_cases e : i = k
      · subst e; simp
      · exact List.mem_cons.2 (.inr (ih (by omega) (by omega) hl))

/-- what an operation wrote is hidden from a later one that does not stand behind it -/
theorem hidden_wr {i j b : Nat} (hj : j < n) (hij : i < j) (hl : T.isLoud i) (hb : b ∈ (T.s i).log) (ha : ahead bef i j = false) : b ∈ T.H j := by
  unfold H hidden
  refine List.mem_append.2 (.inl (List.mem_flatMap.2 ⟨(i, (T.s i).log), List.mem_filter.2 ⟨T.wr_mem (by omega) hij hl (fun e => by rw [e] at hb; cases hb), by simp [ha]⟩, hb⟩))
/-- what a later one wrote, that does not stand behind an earlier one, is hidden from that, or that is a plain load of another block -/
theorem hidden_pre {i j b : Nat} (hi : i < n) (hij : j < i) (hli : T.isLoud i) (hlj : T.isLoud j) (hb : b ∈ (T.s i).log) (ha : ahead bef j i = false) :
    b ∈ T.H j ∨ ∃ b0, loadsAt (T.tm j) (T.o j).op = some b0 ∧ b ≠ b0 := by
  have hw := (T.loud i hi hli).2.1
  unfold writesOK at hw
  simp only [Bool.or_eq_true] at hw
  rcases hw with hw | hw
  · left
    have := List.all_eq_true.1 hw b hb
    obtain ⟨⟨i', c⟩, h1, h2⟩ := List.any_eq_true.1 this
    simp only [Bool.and_eq_true] at h2
    have e1 := of_beq h2.1
    have e2 := of_beq h2.2
    subst e1 e2
    unfold H hidden
    refine List.mem_append.2 (.inr (List.mem_map.2 ⟨(i', b), List.mem_filter.2 ⟨h1, ?_⟩, rfl⟩))
    simp only [Bool.and_eq_true]
    exact ⟨by simpa [Nat.blt_eq] using hij, by simp [ha]⟩
  · right
    have := List.all_eq_true.1 hw _ (T.ld_mem (by omega) hij hlj)
    simp only [ha, Bool.false_or] at this
    cases hq : loadsAt (T.tm j) (T.o j).op with
    | none => rw [hq] at this; simp at this
    | some b0 =>
      rw [hq] at this
      refine ⟨b0, rfl, fun e => ?_⟩
      subst e
      have h2 : (T.s i).log.any (Nat.beq b) = true := List.any_eq_true.2 ⟨b, hb, beq_t rfl⟩
      simp [h2] at this
end Tra
end tra
end Go.Proofs.Ytkghejleififiaa.AS
