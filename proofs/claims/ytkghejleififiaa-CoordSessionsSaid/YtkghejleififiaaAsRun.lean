import Derived.Test.YtkghejleififiaaAsRegion
import Derived.Scope
namespace Go.Proofs.Ytkghejleififiaa.AS
open Go
set_option linter.unusedSectionVars false
variable [Sym] [Orc]
set_option linter.unusedVariables false
set_option linter.unusedSimpArgs false

/-- what stands in for a function -/
def SimFn (P : Program) (f : FuncId) (g : List Value → St → R (Value × St)) : Prop :=
  ∀ args σ v σ', g args σ = some (v, σ') → ∀ (ρ : Rho) (w : World) (args' : List Value), GR P ρ → HR ρ σ w → VL ρ args args' →
    Calls P f args'.toArray w fun e w' => ∃ v' ρ', e = .returned v' ∧ Ext ρ σ w ρ' σ' w' ∧ HR ρ' σ' w' ∧ VR ρ' v v'

section
variable {P : Program} [OrcOK P]

theorem result_sim {ρ : Rho} {σ : St} {w : World} {tm : List Value} {tmps : Array Value} (hr : HR ρ σ w) (ht : VL ρ tm tmps.toList) {x : ResultVar} {v : Value} (h : resultV P σ tm x = some v) :
    ∃ v', (match x with | .tmp t => pure (tmps.getD t undef) | .cell a t => do loadVar t (← asAddr (tmps.getD a undef)) : Sem Value).run P w = .ok v' w ∧ VR ρ v v' := by
  have hg : ∀ t, tmps.getD t undef = tmps.toList.getD t undef := fun t => by simp [Array.getD_eq_getD_getElem?, List.getD_eq_getElem?_getD]
  cases x with
  | tmp t =>
    simp only [resultV, pure, Option.some.injEq] at h
    subst h
    exact ⟨tmps.getD t undef, rfl, by rw [hg]; exact ht.getD t⟩
  | cell a t =>
    simp only [resultV] at h
    have hv := ht.getD a
    obtain ⟨v', h1, h2⟩ := load_sim hr hv h
    refine ⟨v', ?_, h2⟩
    have hp : ∃ p, tmps.toList.getD a undef = .pointer (some p) := by
      unfold loadV at h
      split at h
      · rename_i b o hb
        rw [hb] at hv
        obtain ⟨p', q, _⟩ := hv.inv_ptr
        exact ⟨p', q⟩
      · simp [bad] at h
    obtain ⟨p, hp⟩ := hp
    rw [hp] at h1
    show (do loadVar t (← asAddr (tmps.getD a undef)) : Sem Value).run P w = _
    rw [hg, hp]
    simpa [Instr.loadAt, Instr.sureAddr, asAddr] using h1

theorem results_list {ρ : Rho} {σ : St} {w : World} {tm : List Value} {tmps : Array Value} (hr : HR ρ σ w) (ht : VL ρ tm tmps.toList) : ∀ (l : List ResultVar) {vs : List Value}, l.mapM (resultV P σ tm) = some vs →
    ∃ vs', (l.mapM fun x => (match x with | .tmp t => pure (tmps.getD t undef) | .cell a t => do loadVar t (← asAddr (tmps.getD a undef)) : Sem Value)).run P w = .ok vs' w ∧ VL ρ vs vs' := by
  intro l
  induction l with
  | nil => intro vs h; simp at h; subst h; exact ⟨[], rfl, .nil⟩
  | cons x l ih =>
    intro vs h
    simp only [List.mapM_cons, bind, Option.bind_eq_some_iff, pure, Option.some.injEq] at h
    obtain ⟨v, h1, vs1, h2, rfl⟩ := h
    obtain ⟨v', k1, k2⟩ := result_sim hr ht h1
    obtain ⟨vs', q1, q2⟩ := ih h2
    refine ⟨v' :: vs', ?_, .cons k2 q2⟩
    rw [List.mapM_cons]
    simp only [Sem.run_bind, Sem.run_pure, k1, q1, Result.andThen_ok]

theorem results_sim {ρ : Rho} {σ : St} {w : World} {tm : List Value} {tmps : Array Value} {fn : Func} {v : Value} (hr : HR ρ σ w) (ht : VL ρ tm tmps.toList) (h : resultsV P fn σ tm = some v) :
    ∃ v', (results fn tmps).run P w = .ok v' w ∧ VR ρ v v' := by
  unfold resultsV at h
  simp only [bind, Option.bind_eq_some_iff] at h
  obtain ⟨vs, h1, h⟩ := h
  obtain ⟨vs', k1, k2⟩ := results_list hr ht _ h1
  refine ⟨(if h : vs'.toArray.size = 1 then vs'.toArray[0] else .tuple vs'.toArray), ?_, ?_⟩
  · unfold results
    rw [Array.mapM_eq_mapM_toList]
    simp only [Sem.run_bind, Sem.run_pure, map_eq_pure_bind]
    refine Eq.trans (congrArg (fun r => (Result.andThen r fun a w' => Result.ok a.toArray w').andThen fun a w' => Result.ok (if h : a.size = 1 then a[0] else Value.tuple a) w') k1) rfl
  · split at h
    · cases k2 with
      | cons hx ht => cases ht; simp only [pure, Option.some.injEq] at h; subst h; simpa using hx
    · rename_i hne
      simp only [pure, Option.some.injEq] at h; subst h
      have hl := k2.length
      rw [dif_neg ?_]
      · exact .tuple (by simpa using k2)
      · intro h1
        have : vs.length = 1 := by rw [hl]; simpa using h1
        match vs, this with
        | [x], _ => exact hne x rfl

/-! ## scopes and loops, a round at a time -/
def InScope (P : Program) (A c : Code) (Q : Exit → Act → World → Prop) (a : Act) (w : World) : Prop :=
  ∀ (b : Frame) (k : List Item) (cs : List Frame), ∃ e a' w', Q e a' w' ∧ Arrives P (lone (b.at a (.code c :: .inScope A :: k)) cs w) b k cs e a' w'

def Exit.inScope (P : Program) (A : Code) (Q : Exit → Act → World → Prop) : Exit → Act → World → Prop
  | .goto l, a, w => match findLabel A l with | some rest => InScope P A rest Q a w | none => Q (.goto l) a w
  | e, a, w => Q e a w

theorem inScope_of_wp {A c : Code} {Q : Exit → Act → World → Prop} {a : Act} {w : World} (h : c.wp P (Exit.inScope P A Q) a w) : InScope P A c Q a w := by
  intro b k cs
  obtain ⟨e, a₁, w₁, hq, harr⟩ := h b (.inScope A :: k) cs
  cases e with
  | normal => exact ⟨.normal, a₁, w₁, hq, Steps.trans harr (.one step_inScope)⟩
  | exit id => exact ⟨.exit id, a₁, w₁, hq, fun k' hk => harr k' (by simp [exitTo, hk])⟩
  | goto l =>
    simp only [Exit.inScope] at hq
    cases hf : findLabel A l with
    | none =>
      rw [hf] at hq
      exact ⟨.goto l, a₁, w₁, hq, fun k' hk => harr k' (by simp [gotoIn, hf, hk])⟩
    | some rest =>
      rw [hf] at hq
      obtain ⟨e₂, a₂, w₂, hq₂, harr₂⟩ := hq b k cs
      exact ⟨e₂, a₂, w₂, hq₂, .of_steps (harr _ (by simp [gotoIn, hf])) harr₂⟩
  | ret => exact ⟨_, a₁, w₁, hq, harr⟩
  | panic ch => exact ⟨_, a₁, w₁, hq, harr⟩
  | outgrown => exact ⟨_, a₁, w₁, hq, harr⟩

theorem wp_scope_in {A : Code} {Q : Exit → Act → World → Prop} {a : Act} {w : World} (h : InScope P A A Q a w) : (Code.scope A).wp P Q a w := by
  intro b k cs
  obtain ⟨e, a₁, w₁, hq, harr⟩ := h b k cs
  exact ⟨e, a₁, w₁, hq, .of_steps (.one step_scope) harr⟩

def InLoop (P : Program) (c : Code) (Q : Exit → Act → World → Prop) (a : Act) (w : World) : Prop :=
  ∀ (b : Frame) (k : List Item) (cs : List Frame), ∃ e a' w', Q e a' w' ∧ Arrives P (lone (b.at a (.code c :: .inLoop c :: k)) cs w) b k cs e a' w'

theorem inLoop_of_wp {c : Code} {Q : Exit → Act → World → Prop} {a : Act} {w : World} (h : c.wp P (Exit.then (InLoop P c Q) Q) a w) : InLoop P c Q a w := by
  intro b k cs
  obtain ⟨e, a₁, w₁, hq, harr⟩ := h b (.inLoop c :: k) cs
  cases e with
  | normal =>
    obtain ⟨e₂, a₂, w₂, hq₂, harr₂⟩ := hq b k cs
    exact ⟨e₂, a₂, w₂, hq₂, .of_steps (Steps.trans harr (.one step_inLoop)) harr₂⟩
  | exit id => exact ⟨_, a₁, w₁, hq, .pass (x := .inLoop c) rfl (fun _ _ => .inl (by simp)) harr⟩
  | goto l => exact ⟨_, a₁, w₁, hq, .pass (x := .inLoop c) rfl (fun _ _ => .inl (by simp)) harr⟩
  | ret => exact ⟨_, a₁, w₁, hq, .pass (x := .inLoop c) rfl (fun _ _ => .inl (by simp)) harr⟩
  | panic ch => exact ⟨_, a₁, w₁, hq, .pass (x := .inLoop c) rfl (fun _ _ => .inl (by simp)) harr⟩
  | outgrown => exact ⟨_, a₁, w₁, hq, .pass (x := .inLoop c) rfl (fun _ _ => .inl (by simp)) harr⟩

def SimC (P : Program) (sc : Option Code) (c : Code) (Q : Exit → Act → World → Prop) (a : Act) (w : World) : Prop :=
  match sc with
  | some A => InScope P A c Q a w
  | none => match c with | .loop x => InLoop P x Q a w | c => c.wp P Q a w

theorem SimC.wp {c : Code} {Q : Exit → Act → World → Prop} {a : Act} {w : World} (h : SimC P none c Q a w) : c.wp P Q a w := by
  cases c <;> first
    | exact h
    | (intro b k cs
       obtain ⟨e, a₁, w₁, hq, harr⟩ := h b k cs
       exact ⟨e, a₁, w₁, hq, .of_steps (.one step_loop) harr⟩)

def toExit : Ex → Exit
  | .normal => .normal
  | .exit i => .exit i
  | .goto l => .goto l
  | .ret => .ret

variable {ov : FuncId → Option (List Value → St → R (Value × St))}

theorem call_sim (hovS : ∀ f g, ov f = some g → SimFn P f g) {run : Code → List Value → St → R (Ex × List Value × St)}
    (hrun : ∀ c tm σ e tm' σ', run c tm σ = some (e, tm', σ') → ∀ (ρ : Rho) (w : World) (a : Act) (Q : Exit → Act → World → Prop), GR P ρ → HR ρ σ w → VL ρ tm a.tmps.toList → a.defers = [] →
      (∀ ρ' a' w', Ext ρ σ w ρ' σ' w' → HR ρ' σ' w' → VL ρ' tm' a'.tmps.toList → a'.defers = [] → Q (toExit e) a' w') → c.wp P Q a w) : SimCall P (callV P ov run) := by
  intro f args σ v σ' h ρ w args' hg hr ha
  unfold callV at h
  split at h
  · rename_i g hov; exact hovS f g hov args σ v σ' h ρ w args' hg hr ha
  · simp only [bind, Option.bind_eq_some_iff, want] at h
    obtain ⟨fn, hf, c, hb, ⟨e, tm1, σ1⟩, h1, h⟩ := h
    refine calls_of_wp hf hb ?_
    have hlen := ha.length
    refine hrun _ _ _ _ _ _ h1 ρ w _ _ hg hr ?_ rfl ?_
    · have : VL ρ (List.replicate (fn.ntmps - args.length) undef) (List.replicate (fn.ntmps - args.length) undef) := by
        generalize fn.ntmps - args.length = m
        induction m with
        | zero => exact .nil
        | succ m ih => exact .cons undef_VR ih
      simpa [hlen] using ha.append this
    · intro ρ' a' w' k1 k2 k3 k4
      cases e <;> simp only [bind, Option.bind_eq_some_iff, pure, Option.some.injEq, bad] at h <;> try (cases h; done)
      all_goals
        obtain ⟨v1, h2, h⟩ := h
        simp only [Prod.mk.injEq] at h
        obtain ⟨rfl, rfl⟩ := h
        obtain ⟨v', q1, q2⟩ := results_sim k2 k3 h2
        exact ⟨k4, v', q1, v', ρ', rfl, k1, k2, q2⟩

theorem run_sim (hm : P.follows .mixedOrders = true) (hovS : ∀ f g, ov f = some g → SimFn P f g) (hovK : ∀ f g, ov f = some g → ∀ args σ v σ', g args σ = some (v, σ') → Kept σ σ') :
    ∀ (n : Nat) (sc : Option Code) (c : Code) (tm : List Value) (σ : St) (e : Ex) (tm' : List Value) (σ' : St), runV P ov n sc c tm σ = some (e, tm', σ') →
      ∀ (ρ : Rho) (w : World) (a : Act) (Q : Exit → Act → World → Prop), GR P ρ → HR ρ σ w → VL ρ tm a.tmps.toList → a.defers = [] →
        (∀ ρ' a' w', Ext ρ σ w ρ' σ' w' → HR ρ' σ' w' → VL ρ' tm' a'.tmps.toList → a'.defers = [] → Q (toExit e) a' w') →
        SimC P sc c Q a w := by
  intro n
  induction n with
  | zero => intro sc c tm σ e tm' σ' h; simp [runV, bad] at h
  | succ n ih =>
    intro sc c tm σ e tm' σ' h ρ w a Q hg hr ht hd hQ
    have hk : KeptCall (callV P ov (runV P ov n none)) := call_kept hovK (fun c tm σ e tm' σ' => run_kept hovK n none c tm σ e tm' σ')
    have hs : SimCall P (callV P ov (runV P ov n none)) := call_sim hovS (fun c tm σ e tm' σ' h ρ w a Q hg hr ht hd hQ => (ih none c tm σ e tm' σ' h ρ w a Q hg hr ht hd hQ).wp)
    cases sc with
    | some A =>
      simp only [runV, bind, Option.bind_eq_some_iff] at h
      obtain ⟨⟨e1, tm1, σ1⟩, h1, h⟩ := h
      refine inScope_of_wp (ih none c tm σ e1 tm1 σ1 h1 ρ w a _ hg hr ht hd ?_).wp
      intro ρ1 a1 w1 k1 k2 k3 k4
      cases e1 with
      | goto l =>
        simp only at h
        simp only [toExit, Exit.inScope]
        split at h
        · rename_i rest hf
          rw [hf]
          exact ih (some A) rest tm1 σ1 e tm' σ' h ρ1 w1 a1 Q (hg.mono k1.le) k2 k3 k4 (fun ρ2 a2 w2 q1 q2 q3 q4 => hQ ρ2 a2 w2 (k1.trans q1) q2 q3 q4)
        · rename_i hf
          simp only [pure, Option.some.injEq, Prod.mk.injEq] at h
          obtain ⟨rfl, rfl, rfl⟩ := h
          rw [hf]
          exact hQ ρ1 a1 w1 k1 k2 k3 k4
      | _ =>
        simp only [pure, Option.some.injEq, Prod.mk.injEq] at h
        obtain ⟨rfl, rfl, rfl⟩ := h
        exact hQ ρ1 a1 w1 k1 k2 k3 k4
    | none =>
      cases c <;> simp only [runV] at h
      case skip =>
        simp only [pure, Option.some.injEq, Prod.mk.injEq] at h
        obtain ⟨rfl, rfl, rfl⟩ := h
        exact wp_skip (hQ ρ a w (Ext.refl hr) hr ht hd)
      case label l =>
        simp only [pure, Option.some.injEq, Prod.mk.injEq] at h
        obtain ⟨rfl, rfl, rfl⟩ := h
        exact wp_label (hQ ρ a w (Ext.refl hr) hr ht hd)
      case exit id =>
        simp only [pure, Option.some.injEq, Prod.mk.injEq] at h
        obtain ⟨rfl, rfl, rfl⟩ := h
        exact wp_exit (hQ ρ a w (Ext.refl hr) hr ht hd)
      case goto l =>
        simp only [pure, Option.some.injEq, Prod.mk.injEq] at h
        obtain ⟨rfl, rfl, rfl⟩ := h
        exact wp_goto (hQ ρ a w (Ext.refl hr) hr ht hd)
      case ret =>
        simp only [pure, Option.some.injEq, Prod.mk.injEq] at h
        obtain ⟨rfl, rfl, rfl⟩ := h
        exact wp_ret (hQ ρ a w (Ext.refl hr) hr ht hd)
      case region id ops draw =>
        simp only [bind, Option.bind_eq_some_iff, pure, Option.some.injEq] at h
        obtain ⟨⟨tm1, σ1⟩, h1, h⟩ := h
        simp only [Prod.mk.injEq] at h
        obtain ⟨rfl, rfl, rfl⟩ := h
        exact region_sim hm hk hs h1 hr hg ht (fun ρ' a' w' k1 k2 k3 k4 => hQ ρ' a' w' k1 k2 k3 (k4.trans hd))
      case seq x y =>
        simp only [bind, Option.bind_eq_some_iff] at h
        obtain ⟨⟨e1, tm1, σ1⟩, h1, h⟩ := h
        refine wp_seq (ih none x tm σ e1 tm1 σ1 h1 ρ w a _ hg hr ht hd ?_).wp
        intro ρ1 a1 w1 k1 k2 k3 k4
        cases e1 with
        | normal => exact (ih none y tm1 σ1 e tm' σ' h ρ1 w1 a1 Q (hg.mono k1.le) k2 k3 k4 (fun ρ2 a2 w2 q1 q2 q3 q4 => hQ ρ2 a2 w2 (k1.trans q1) q2 q3 q4)).wp
        | _ =>
          simp only [pure, Option.some.injEq, Prod.mk.injEq] at h
          obtain ⟨rfl, rfl, rfl⟩ := h
          exact hQ ρ1 a1 w1 k1 k2 k3 k4
      case cond x y z =>
        have hv : ∀ b, evalOp tm x = .bool b → a.eval x = .bool b := by
          intro b hb
          cases x with
          | tmp t =>
            have := ht.getD t
            simp only [evalOp] at hb
            rw [hb] at this
            simp only [Act.eval]
            rw [getD_tmps]
            exact this.inv_leaf rfl
          | const v => exact hb
          | global g => simp [evalOp] at hb
          | func f => simp [evalOp] at hb
        split at h
        · rename_i hb
          exact wp_cond_true (hv _ hb) (ih none y tm σ e tm' σ' h ρ w a Q hg hr ht hd hQ).wp
        · rename_i hb
          exact wp_cond_false (hv _ hb) (ih none z tm σ e tm' σ' h ρ w a Q hg hr ht hd hQ).wp
        · simp [bad] at h
      case block id x =>
        simp only [bind, Option.bind_eq_some_iff] at h
        obtain ⟨⟨e1, tm1, σ1⟩, h1, h⟩ := h
        refine wp_block (ih none x tm σ e1 tm1 σ1 h1 ρ w a _ hg hr ht hd ?_).wp
        intro ρ1 a1 w1 k1 k2 k3 k4
        cases e1 with
        | exit i =>
          simp only at h
          simp only [toExit, Exit.inBlock]
          split at h
          · rename_i hi
            simp only [pure, Option.some.injEq, Prod.mk.injEq] at h
            obtain ⟨rfl, rfl, rfl⟩ := h
            rw [if_pos (of_beq hi)]
            exact hQ ρ1 a1 w1 k1 k2 k3 k4
          · rename_i hi
            simp only [pure, Option.some.injEq, Prod.mk.injEq] at h
            obtain ⟨rfl, rfl, rfl⟩ := h
            rw [if_neg (fun z => hi (beq_t z))]
            exact hQ ρ1 a1 w1 k1 k2 k3 k4
        | _ =>
          simp only [pure, Option.some.injEq, Prod.mk.injEq] at h
          obtain ⟨rfl, rfl, rfl⟩ := h
          exact hQ ρ1 a1 w1 k1 k2 k3 k4
      case loop x =>
        simp only [bind, Option.bind_eq_some_iff] at h
        obtain ⟨⟨e1, tm1, σ1⟩, h1, h⟩ := h
        refine inLoop_of_wp (ih none x tm σ e1 tm1 σ1 h1 ρ w a _ hg hr ht hd ?_).wp
        intro ρ1 a1 w1 k1 k2 k3 k4
        cases e1 with
        | normal => exact ih none (.loop x) tm1 σ1 e tm' σ' h ρ1 w1 a1 Q (hg.mono k1.le) k2 k3 k4 (fun ρ2 a2 w2 q1 q2 q3 q4 => hQ ρ2 a2 w2 (k1.trans q1) q2 q3 q4)
        | _ =>
          simp only [pure, Option.some.injEq, Prod.mk.injEq] at h
          obtain ⟨rfl, rfl, rfl⟩ := h
          exact hQ ρ1 a1 w1 k1 k2 k3 k4
      case scope x =>
        exact wp_scope_in (ih (some x) x tm σ e tm' σ' h ρ w a Q hg hr ht hd hQ)
      all_goals (simp [bad] at h)
end
end Go.Proofs.Ytkghejleififiaa.AS
