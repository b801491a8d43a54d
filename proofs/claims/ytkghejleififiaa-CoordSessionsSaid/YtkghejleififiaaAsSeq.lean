import Derived.Test.YtkghejleififiaaAsOps6
namespace Go.Proofs.Ytkghejleififiaa.AS
open Go
set_option linter.unusedSectionVars false
variable [Sym] [Orc]
set_option linter.unusedVariables false
set_option linter.unusedSimpArgs false

/-- the program's variables stand where they stand -/
def GR (P : Program) (ρ : Rho) : Prop := ∀ g, g < P.globals.size → ∃ l, ρ g = some l ∧ l.pb = g ∧ l.po = 0
theorem GR.mono {P : Program} {ρ ρ' : Rho} (hρ : ρ.le ρ') (h : GR P ρ) : GR P ρ' := fun g hg => let ⟨l, h1, h2⟩ := h g hg; ⟨l, hρ _ _ h1, h2⟩

def SimCall (P : Program) (call : FuncId → List Value → St → R (Value × St)) : Prop :=
  ∀ f args σ v σ', call f args σ = some (v, σ') → ∀ (ρ : Rho) (w : World) (args' : List Value), GR P ρ → HR ρ σ w → VL ρ args args' →
    Calls P f args'.toArray w fun e w' => ∃ v' ρ', e = .returned v' ∧ Ext ρ σ w ρ' σ' w' ∧ HR ρ' σ' w' ∧ VR ρ' v v'

theorem getD_tmps (a : Act) (t : Nat) : a.tmps.getD t undef = a.tmps.toList.getD t undef := by
  simp [Array.getD_eq_getD_getElem?, List.getD_eq_getElem?_getD]

section
variable {P : Program} [OrcOK P] {call : FuncId → List Value → St → R (Value × St)} {ops : Array Oper} {ρ : Rho} {σ : St} {w : World} {a : Act} {Q : Exit → Act → World → Prop}

theorem VR.bool_of {v v' : Value} (h : VR ρ v v') (b : Bool) (hj : notJunk v = true) (e : v' = .bool b) : v = .bool b := by
  subst e
  cases h with
  | leaf => rfl
  | sym h => exact absurd h (Sym.nb _ _)
  | junk => simp [notJunk] at hj

theorem wanted_eq {o : Oper} {tm : List Value} {b : Bool} (hlen : tm.length = a.tmps.size) (hX : ∀ t ∈ readsOf ops o, VR ρ (tm.getD t undef) (a.tmps.getD t undef)) (hw : wantedV ops tm o = some b) :
    Region.wanted o (yielded ops a.tmps) = b := by
  unfold wantedV at hw
  unfold Region.wanted
  cases hg : o.guard with
  | none => rw [hg] at hw; simpa using hw
  | some p =>
    obtain ⟨j, g⟩ := p
    rw [hg] at hw
    simp only [yielded] at hw ⊢
    cases hd : (ops[j]?).bind (·.dst) with
    | none => rw [hd] at hw; simpa using hw
    | some d =>
      rw [hd] at hw
      have hmem : d ∈ readsOf ops o := by
        unfold readsOf
        rw [hg]
        simp [hd]
      have hvr := hX d hmem
      simp only [Option.bind_some] at hw ⊢
      by_cases hlt : d < tm.length
      · have h1 : tm[d]? = some (tm.getD d undef) := by simp [List.getD_eq_getElem?_getD, List.getElem?_eq_getElem hlt]
        have h2 : a.tmps[d]? = some (a.tmps.getD d undef) := by
          have : d < a.tmps.size := hlen ▸ hlt
          simp [Array.getD_eq_getD_getElem?, Array.getElem?_eq_getElem this]
        rw [h1] at hw
        rw [h2]
        generalize tm.getD d undef = v at hw hvr
        generalize a.tmps.getD d undef = v' at hvr
        have hnb : notJunk v = true → (∀ c, v ≠ .bool c) → ∀ c, v' ≠ .bool c := fun hj hn c e => hn c (hvr.bool_of c hj e)
        split at hw
        · rename_i c hc
          simp only [Option.some.injEq] at hc hw
          subst hc
          rw [hvr.inv_leaf rfl]
          simpa using hw
        · cases hw
        · rename_i n1 n2
          simp only [Option.some.injEq] at hw
          subst hw
          have hj : notJunk v = true := by
            unfold notJunk
            split
            · exact absurd rfl n2
            · rfl
          have := hnb hj (fun c e => n1 c (by rw [e]))
          split <;> first | rfl | (rename_i c hc; simp only [Option.some.injEq] at hc; exact absurd hc (this c))
      · have h1 : tm[d]? = none := by simpa using hlt
        have h2 : a.tmps[d]? = none := by rw [Array.getElem?_eq_none_iff, ← hlen]; exact Nat.le_of_not_lt hlt
        rw [h1] at hw; rw [h2]; simpa using hw

theorem eval_sim {x : Operand} {tm : List Value} (hok : okX P x = true) (hg : GR P ρ) (hX : ∀ t, x = .tmp t → VR ρ (tm.getD t undef) (a.tmps.getD t undef)) : VR ρ (evalOp tm x) (a.eval x) := by
  cases x with
  | tmp t => exact hX t rfl
  | const v => exact flat_VR (v := v) hok
  | global g =>
    obtain ⟨l, h1, h2, h3⟩ := hg g (of_blt (by simpa [okX] using hok))
    exact .ptr ⟨rfl, rfl, l, h1, h2.symm, by simp [h3]⟩
  | func f => exact .leaf rfl

/-- one operation -/
theorem step_sim (hc : SimCall P call) {i : Nat} {o : Oper} {tm tm' : List Value} {σ' : St} (ho : ops[i]? = some o) (h : stepV P call ops o tm σ = some (tm', σ')) (hr : HR ρ σ w) (hg : GR P ρ)
    (hlen : tm.length = a.tmps.size) (hX : ∀ t ∈ readsOf ops o, VR ρ (tm.getD t undef) (a.tmps.getD t undef)) {K : Act → World → Prop}
    (hK : ∀ ρ' v v' w', Ext ρ σ w ρ' σ' w' → HR ρ' σ' w' → VR ρ' v v' → tm' = putV tm o.dst v → K (a.put o.dst v') w') : wpOp P ops Q i K a w := by
  unfold stepV at h
  simp only [wpOp, ho]
  cases hwv : wantedV ops tm o with
  | none => rw [hwv] at h; simp [bad] at h
  | some b =>
  rw [wanted_eq (ops := ops) hlen hX hwv]
  cases b with
  | false =>
    rw [hwv] at h
    simp only [pure, Option.some.injEq, Prod.mk.injEq] at h
    obtain ⟨rfl, rfl⟩ := h
    simp only [Bool.false_eq_true, if_false]
    exact hK ρ undef undef w (Ext.refl hr) hr undef_VR rfl
  | true =>
    rw [hwv] at h
    simp only at h
    simp only [if_true]
    split at h
    · rename_i hok
      simp only [bind, Option.bind_eq_some_iff] at h
      obtain ⟨⟨ne, σ1⟩, hop, h⟩ := h
      have hXX : ∀ x ∈ o.op.operands, VR ρ (evalOp tm x) (a.eval x) := by
        intro x hx
        refine eval_sim (List.all_eq_true.1 hok x (by simpa using hx)) hg fun t e => hX t ?_
        unfold readsOf
        refine List.mem_append.2 (.inl (List.mem_filterMap.2 ⟨x, by simpa using hx, by rw [e]⟩))
      obtain ⟨ρ1, w1, h1, h2, h3⟩ := op_sim hr hXX hop
      left
      unfold Oper.wp
      cases ne with
      | val v =>
        simp only [pure, Option.some.injEq, Prod.mk.injEq] at h
        obtain ⟨rfl, rfl⟩ := h
        obtain ⟨v', h3, h4⟩ := h3
        rw [h3, Oper.upon_value]
        exact hK ρ1 v v' w1 h1 h2 h4 rfl
      | skip =>
        simp only [pure, Option.some.injEq, Prod.mk.injEq] at h
        obtain ⟨rfl, rfl⟩ := h
        have h3 : (execOp a.eval o).run P w = .ok .skip w1 := h3
        rw [h3, Oper.upon_skip]
        exact hK ρ1 undef undef w1 h1 h2 undef_VR rfl
      | enter f args =>
        simp only [bind, Option.bind_eq_some_iff, pure, Option.some.injEq] at h
        obtain ⟨⟨v, σ2⟩, hcall, h⟩ := h
        simp only [Prod.mk.injEq] at h
        obtain ⟨rfl, rfl⟩ := h
        obtain ⟨args', h3, h4⟩ := h3
        rw [h3, Oper.upon_enter]
        refine (hc f args σ1 v σ2 hcall ρ1 w1 args' (hg.mono h1.le) h2 h4).mono ?_
        rintro e w2 ⟨v', ρ2, rfl, k1, k2, k3⟩
        exact hK ρ2 v v' w2 (h1.trans k1) k2 k3 rfl
    · simp [bad] at h

theorem VL.put {ρ : Rho} {tm : List Value} {a : Act} (ht : VL ρ tm a.tmps.toList) (d : Option Tmp) {v v' : Value} (hv : VR ρ v v') : VL ρ (putV tm d v) (a.put d v').tmps.toList := by
  cases d with
  | none => exact ht
  | some d =>
    simp only [putV, Act.put, Array.toList_setIfInBounds]
    exact ht.set d hv

theorem put_defers (a : Act) (d : Option Tmp) (v : Value) : (a.put d v).defers = a.defers := by cases d <;> rfl

/-- operations one behind the other -/
theorem ops_sim (hc : SimCall P call) : ∀ (l : List Oper) (k : Nat) (tm tm' : List Value) (σ σ' : St) (ρ : Rho) (w : World) (a : Act), (∀ j, l[j]? = ops[k + j]?) → opsV P call ops l tm σ = some (tm', σ') →
    HR ρ σ w → GR P ρ → VL ρ tm a.tmps.toList →
    (∀ ρ' a' w', Ext ρ σ w ρ' σ' w' → HR ρ' σ' w' → VL ρ' tm' a'.tmps.toList → a'.defers = a.defers → Q .normal a' w') →
    wpOps P ops Q (List.range' k l.length) a w := by
  intro l
  induction l with
  | nil =>
    intro k tm tm' σ σ' ρ w a _ h hr hg ht hQ
    simp only [opsV, pure, Option.some.injEq, Prod.mk.injEq] at h
    obtain ⟨rfl, rfl⟩ := h
    exact hQ ρ a w (Ext.refl hr) hr ht rfl
  | cons o l ih =>
    intro k tm tm' σ σ' ρ w a hl h hr hg ht hQ
    simp only [opsV, bind, Option.bind_eq_some_iff] at h
    obtain ⟨⟨tm1, σ1⟩, h1, h2⟩ := h
    have ho : ops[k]? = some o := by have := hl 0; simpa using this.symm
    have hlen : tm.length = a.tmps.size := by have := ht.length; simpa using this
    simp only [List.length_cons, List.range'_succ]
    rw [wpOps_cons]
    refine step_sim hc ho h1 hr hg hlen (fun t _ => by rw [getD_tmps]; exact ht.getD t) ?_
    rintro ρ1 v v' w1 k1 k2 k3 rfl
    refine ih (k + 1) _ _ _ _ ρ1 w1 _ (fun j => by have := hl (j + 1); simpa [Nat.add_assoc, Nat.add_comm 1 j] using this) h2 k2 (hg.mono k1.le) ((ht.mono k1.le).put _ k3) ?_
    intro ρ2 a2 w2 q1 q2 q3 q4
    exact hQ ρ2 a2 w2 (k1.trans q1) q2 q3 (q4.trans (put_defers _ _ _))

end
end Go.Proofs.Ytkghejleififiaa.AS
