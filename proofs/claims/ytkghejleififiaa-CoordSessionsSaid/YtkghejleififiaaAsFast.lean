import Derived.Test.YtkghejleififiaaAsAt
namespace Go.Proofs.Ytkghejleififiaa.AS
open Go
set_option linter.unusedSectionVars false
set_option linter.unusedVariables false
set_option linter.unusedSimpArgs false

/-! ## the same machine, its slots in a tree -/
structure TM where
  n : Nat
  t : Tr
  ok : n ≤ most

def TM.at (m : TM) (i : Nat) : Value :=
  match Nat.blt i m.n with
  | true => (match m.t.get i with | some (.blk [v] _ _) => v | _ => undef)
  | false => undef
def TM.put (m : TM) (i : Nat) (v : Value) : TM := ⟨m.n, m.t.set (some (.blk [v] 0 false)) depth i, m.ok⟩
def TM.toL (m : TM) : List Value := (List.range m.n).map m.at

theorem to_blt {a b : Nat} (h : a < b) : Nat.blt a b = true := by simpa [Nat.blt_eq] using h

theorem TM.len (m : TM) : m.toL.length = m.n := by simp [TM.toL]
theorem TM.at_ge {m : TM} {i : Nat} (h : m.n ≤ i) : m.at i = undef := by unfold TM.at; rw [blt_f h]
theorem TM.get? (m : TM) (i : Nat) : m.toL[i]? = match Nat.blt i m.n with | true => some (m.at i) | false => none := by
  unfold TM.toL
  cases h : Nat.blt i m.n with
  | true => simp [List.getElem?_map, List.getElem?_range (of_blt h)]
  | false =>
    have : ¬ i < m.n := fun q => by rw [to_blt q] at h; cases h
    simp [this]
theorem TM.getD (m : TM) (i : Nat) : m.toL.getD i undef = m.at i := by
  rw [List.getD_eq_getElem?_getD, TM.get?]
  cases h : Nat.blt i m.n with
  | true => rfl
  | false =>
    have : ¬ i < m.n := fun q => by rw [to_blt q] at h; cases h
    rw [TM.at_ge (by omega)]; rfl
theorem TM.at_put (m : TM) (i j : Nat) (v : Value) : (m.put i v).at j = if j = i ∧ i < m.n then v else m.at j := by
  by_cases hj : j < m.n
  · have hb : Nat.blt j m.n = true := to_blt hj
    unfold TM.at TM.put
    simp only [hb]
    rw [Tr.get_set]
    have := m.ok
    by_cases e : j = i
    · subst e
      rw [if_pos ⟨rfl, most_lt (by omega)⟩, if_pos ⟨rfl, hj⟩]
    · rw [if_neg (fun q => e q.1), if_neg (fun q => e q.1)]
  · rw [TM.at_ge (m := m) (by omega), TM.at_ge (by show m.n ≤ j; omega), if_neg (by omega)]
theorem TM.set (m : TM) (i : Nat) (v : Value) : m.toL.set i v = (m.put i v).toL := by
  apply List.ext_getElem?
  intro j
  rw [List.getElem?_set, TM.get?, TM.get?, TM.at_put, TM.len]
  show _ = match Nat.blt j m.n with | true => _ | false => _
  cases h : Nat.blt j m.n with
  | true =>
    have hj := of_blt h
    by_cases e : i = j
    · subst e; simp [hj]
    · have e' : ¬ (j = i) := fun q => e q.symm
      simp [e, e']
  | false =>
    have : ¬ j < m.n := fun q => by rw [to_blt q] at h; cases h
    by_cases e : i = j
    · subst e; simp [this]
    · simp [e]

def evalT (m : TM) : Operand → Value
  | .tmp t => m.at t
  | .const v => v
  | .global g => .pointer (some ⟨g, 0, none⟩)
  | .func f => .func (.func f) #[] #[]
theorem evalT_eq (m : TM) : evalOp m.toL = evalT m := by
  funext x
  cases x with
  | tmp t => exact m.getD t
  | _ => rfl

def wantedT (ops : Array Oper) (m : TM) (o : Oper) : Option Bool :=
  match o.guard with
  | none => some true
  | some (j, b) =>
    match (ops[j]?).bind (·.dst) with
    | none => some false
    | some t =>
      match Nat.blt t m.n with
      | false => some false
      | true =>
        match m.at t with
        | .bool c => some (c == b)
        | .chan none => none
        | _ => some false
theorem wantedT_eq (ops : Array Oper) (m : TM) (o : Oper) : wantedV ops m.toL o = wantedT ops m o := by
  unfold wantedV wantedT
  cases o.guard with
  | none => rfl
  | some jb =>
    obtain ⟨j, b⟩ := jb
    simp only
    cases (ops[j]?).bind (·.dst) with
    | none => rfl
    | some t =>
      simp only [Option.bind_some, TM.get?]
      cases h : Nat.blt t m.n with
      | false => rfl
      | true =>
        simp only
        generalize m.at t = v
        cases v with
        | chan c => cases c <;> rfl
        | _ => rfl

def putT (m : TM) (d : Option Tmp) (v : Value) : TM :=
  match d with
  | some d => m.put d v
  | none => m
theorem putT_eq (m : TM) (d : Option Tmp) (v : Value) : putV m.toL d v = (putT m d v).toL := by
  cases d with
  | none => rfl
  | some d => exact m.set d v

section
variable [Orc]
def stepT (P : Program) (call : FuncId → List Value → St → R (Value × St)) (ops : Array Oper) (o : Oper) (tm : TM) (σ : St) : R (TM × St) :=
  match wantedT ops tm o with
  | none => bad "a guard of junk"
  | some false => pure (putT tm o.dst undef, σ)
  | some true =>
    if o.op.operands.toList.all (okX P) then do
      let (ne, σ) ← opV P σ (evalT tm) o
      match ne with
      | .val v => pure (putT tm o.dst v, σ)
      | .skip => pure (putT tm o.dst undef, σ)
      | .enter f args => do
        let (v, σ) ← call f args σ
        pure (putT tm o.dst v, σ)
    else bad "an operand"

variable {P : Program} {cT call : FuncId → List Value → St → R (Value × St)}
theorem stepT_sound (hc : ∀ f args σ v, cT f args σ = some v → call f args σ = some v) {ops : Array Oper} {o : Oper} {m m' : TM} {σ σ' : St} (h : stepT P cT ops o m σ = some (m', σ')) :
    stepV P call ops o m.toL σ = some (m'.toL, σ') := by
  unfold stepT at h
  unfold stepV
  rw [wantedT_eq, evalT_eq]
  cases hw : wantedT ops m o with
  | none => rw [hw] at h; simp [bad] at h
  | some b =>
    rw [hw] at h
    cases b with
    | false =>
      simp only [pure, Option.some.injEq, Prod.mk.injEq] at h ⊢
      obtain ⟨rfl, rfl⟩ := h
      exact ⟨putT_eq .., rfl⟩
    | true =>
      simp only at h ⊢
      split at h
      · rename_i hok
        rw [if_pos hok]
        simp only [bind, Option.bind_eq_some_iff] at h ⊢
        obtain ⟨⟨ne, σ1⟩, h1, h⟩ := h
        refine ⟨⟨ne, σ1⟩, h1, ?_⟩
        cases ne with
        | val v =>
          simp only [pure, Option.some.injEq, Prod.mk.injEq] at h ⊢
          obtain ⟨rfl, rfl⟩ := h
          exact ⟨putT_eq .., rfl⟩
        | skip =>
          simp only [pure, Option.some.injEq, Prod.mk.injEq] at h ⊢
          obtain ⟨rfl, rfl⟩ := h
          exact ⟨putT_eq .., rfl⟩
        | enter f args =>
          simp only [Option.bind_eq_some_iff] at h ⊢
          obtain ⟨⟨v, σ2⟩, h2, h⟩ := h
          refine ⟨⟨v, σ2⟩, hc _ _ _ _ h2, ?_⟩
          simp only [pure, Option.some.injEq, Prod.mk.injEq] at h ⊢
          obtain ⟨rfl, rfl⟩ := h
          exact ⟨putT_eq .., rfl⟩
      · simp [bad] at h

def opsT (P : Program) (call : FuncId → List Value → St → R (Value × St)) (ops : Array Oper) : List Oper → TM → St → R (TM × St)
  | [], tm, σ => pure (tm, σ)
  | o :: rest, tm, σ => do
    let (tm, σ) ← stepT P call ops o tm σ
    opsT P call ops rest tm σ
theorem opsT_sound (hc : ∀ f args σ v, cT f args σ = some v → call f args σ = some v) {ops : Array Oper} : ∀ (l : List Oper) {m m' : TM} {σ σ' : St}, opsT P cT ops l m σ = some (m', σ') →
    opsV P call ops l m.toL σ = some (m'.toL, σ') := by
  intro l
  induction l with
  | nil =>
    intro m m' σ σ' h
    simp only [opsT, opsV, pure, Option.some.injEq, Prod.mk.injEq] at h ⊢
    obtain ⟨rfl, rfl⟩ := h
    exact ⟨rfl, rfl⟩
  | cons o l ih =>
    intro m m' σ σ' h
    simp only [opsT, opsV, bind, Option.bind_eq_some_iff] at h ⊢
    obtain ⟨⟨m1, σ1⟩, h1, h⟩ := h
    exact ⟨(m1.toL, σ1), stepT_sound hc h1, ih h⟩

def blockAtT (ops : Array Oper) (tm : TM) : Nat → Operand → Option Nat
  | 0, _ => none
  | n + 1, .tmp t =>
    match ops.toList.find? fun o => match o.dst with | some d => Nat.beq d t | none => false with
    | none => match tm.at t with | .pointer (some a) => some a.block | _ => none
    | some o =>
      match o.op with
      | .fieldAddr _ x _ | .move x | .nilCheck x => blockAtT ops tm n x
      | _ => none
  | _, _ => none
theorem blockAtT_eq (ops : Array Oper) (m : TM) : ∀ (n : Nat) (x : Operand), blockAt ops m.toL n x = blockAtT ops m n x := by
  intro n
  induction n with
  | zero => intro x; rfl
  | succ n ih =>
    intro x
    cases x with
    | tmp t =>
      simp only [blockAt, blockAtT, TM.getD]
      generalize (List.find? _ ops.toList) = r
      cases r with
      | none => rfl
      | some o =>
        simp only
        cases o.op <;> first | rfl | exact ih _
    | _ => rfl
def storesT (ops : Array Oper) (tm : TM) : List (Nat × Nat) :=
  ops.toList.zipIdx.filterMap fun (o, k) =>
    match o.op with
    | .store _ a _ => (blockAtT ops tm 20 a).map fun b => (k, b)
    | _ => none
theorem storesT_eq (ops : Array Oper) (m : TM) : storesOf ops m.toL = storesT ops m := by
  unfold storesOf storesT
  congr 1
  funext ⟨o, k⟩
  simp only [blockAtT_eq]
  cases o.op <;> rfl
def loadsT (tm : TM) : Op → Option Nat
  | .load _ a => match evalT tm a with | .pointer (some a) => some a.block | _ => none
  | .slice _ x _ _ _ => match evalT tm x with | .slice (some a) _ _ => some a.block | _ => none
  | _ => none
theorem loadsT_eq (m : TM) (o : Op) : loadsAt m.toL o = loadsT m o := by
  cases o <;> simp only [loadsAt, loadsT, evalT_eq] <;> (generalize evalT m _ = v; cases v <;> first | rfl | (rename_i a; cases a <;> rfl) | (rename_i a _ _; cases a <;> rfl))

def drawOneT (P : Program) (call : FuncId → List Value → St → R (Value × St)) (ops : Array Oper) (bef : List Nat) (pre : List (Nat × Nat)) (o : Oper) (k : Nat) (tm : TM) (σ : St) (d : Dr) :
    R (TM × St × Dr) :=
  if pureOp P o.op then do
    let (tm, σ) ← stepT P call ops o tm σ
    pure (tm, σ, d)
  else do
    let h := hidden bef pre d.wr k
    let (tm', σ') ← stepT P call ops o tm { next := σ.next, mark := σ.next, log := [], mem := hideAll σ.mem h }
    if writesOK bef pre d.ld k σ'.log then
      pure (tm', { next := σ'.next, mark := σ.mark, log := noteAll σ.mark σ'.log σ.log, mem := layBack σ.mem σ'.mem h },
        { wr := if σ'.log.isEmpty then d.wr else (k, σ'.log) :: d.wr, ld := (k, loadsT tm o.op) :: d.ld })
    else bad ("a draw with a write at " ++ o.pos)
theorem drawOneT_sound (hc : ∀ f args σ v, cT f args σ = some v → call f args σ = some v) {ops : Array Oper} {bef : List Nat} {pre : List (Nat × Nat)} {o : Oper} {k : Nat} {m m' : TM} {σ σ' : St} {d d' : Dr}
    (h : drawOneT P cT ops bef pre o k m σ d = some (m', σ', d')) : drawOne P call ops bef pre o k m.toL σ d = some (m'.toL, σ', d') := by
  unfold drawOneT at h
  unfold drawOne
  split at h
  · rename_i hp
    rw [if_pos hp]
    simp only [bind, Option.bind_eq_some_iff, pure, Option.some.injEq, Prod.mk.injEq] at h ⊢
    obtain ⟨⟨m1, σ1⟩, h1, rfl, rfl, rfl⟩ := h
    exact ⟨_, stepT_sound hc h1, rfl, rfl, rfl⟩
  · rename_i hp
    rw [if_neg hp]
    simp only [bind, Option.bind_eq_some_iff] at h ⊢
    obtain ⟨⟨m1, σ1⟩, h1, h⟩ := h
    refine ⟨_, stepT_sound hc h1, ?_⟩
    simp only at h ⊢
    split at h
    · rename_i hw
      rw [if_pos hw]
      simp only [pure, Option.some.injEq, Prod.mk.injEq] at h ⊢
      obtain ⟨rfl, rfl, rfl⟩ := h
      exact ⟨rfl, rfl, by rw [loadsT_eq]⟩
    · simp [bad] at h

def drawToT (P : Program) (call : FuncId → List Value → St → R (Value × St)) (ops : Array Oper) (bef : List Nat) (pre : List (Nat × Nat)) (tm : TM) (σ : St) : Nat → R (TM × St × Dr)
  | 0 => pure (tm, σ, ⟨[], []⟩)
  | k + 1 => do
    let (tm, σ, d) ← drawToT P call ops bef pre tm σ k
    match ops[k]? with
    | some o => drawOneT P call ops bef pre o k tm σ d
    | none => bad "no operation"
theorem drawToT_sound (hc : ∀ f args σ v, cT f args σ = some v → call f args σ = some v) {ops : Array Oper} {bef : List Nat} {pre : List (Nat × Nat)} {m : TM} {σ : St} : ∀ (k : Nat) {m' : TM} {σ' : St} {d' : Dr},
    drawToT P cT ops bef pre m σ k = some (m', σ', d') → drawTo P call ops bef pre m.toL σ k = some (m'.toL, σ', d') := by
  intro k
  induction k with
  | zero =>
    intro m' σ' d' h
    simp only [drawToT, drawTo, pure, Option.some.injEq, Prod.mk.injEq] at h ⊢
    obtain ⟨rfl, rfl, rfl⟩ := h
    exact ⟨rfl, rfl, rfl⟩
  | succ k ih =>
    intro m' σ' d' h
    simp only [drawToT, drawTo, bind, Option.bind_eq_some_iff] at h ⊢
    obtain ⟨⟨m1, σ1, d1⟩, h1, h⟩ := h
    refine ⟨_, ih h1, ?_⟩
    simp only at h ⊢
    split at h
    · rename_i o ho
      simp only [ho]
      exact drawOneT_sound hc h
    · simp [bad] at h

def regionT (P : Program) (call : FuncId → List Value → St → R (Value × St)) (ops : Array Oper) (draw : Bool) (tm : TM) (σ : St) : R (TM × St) :=
  if draw then
    let bef := befOf ops ops.toList []
    if slotsOK ops bef && edgesOK ops && Nat.ble σ.mark σ.next then do
      let (tm, σ, _) ← drawToT P call ops bef ((storesT ops tm).filter fun (_, b) => Nat.blt b σ.next) tm σ ops.size
      pure (tm, σ)
    else bad "a draw out of form"
  else opsT P call ops ops.toList tm σ
theorem regionT_sound (hc : ∀ f args σ v, cT f args σ = some v → call f args σ = some v) {ops : Array Oper} {draw : Bool} {m m' : TM} {σ σ' : St} (h : regionT P cT ops draw m σ = some (m', σ')) :
    regionV P call ops draw m.toL σ = some (m'.toL, σ') := by
  unfold regionT at h
  unfold regionV
  cases draw with
  | false => exact opsT_sound hc _ h
  | true =>
    simp only [if_true] at h ⊢
    split at h
    · rename_i hcond
      rw [if_pos hcond]
      simp only [bind, Option.bind_eq_some_iff, pure, Option.some.injEq, Prod.mk.injEq] at h ⊢
      obtain ⟨⟨m1, σ1, d1⟩, h1, rfl, rfl⟩ := h
      refine ⟨(m1.toL, σ1, d1), ?_, rfl, rfl⟩
      rw [storesT_eq]
      exact drawToT_sound hc _ h1
    · simp [bad] at h

/-! a list of slots as a tree -/
def treeOf : List Value → Nat → Tr → Tr
  | [], _, t => t
  | v :: l, i, t => treeOf l (i + 1) (t.set (some (.blk [v] 0 false)) depth i)
theorem treeOf_get : ∀ (l : List Value) (i : Nat) (t : Tr) (j : Nat), i + l.length ≤ most → (treeOf l i t).get j = if i ≤ j then (match l[j - i]? with | some v => some (.blk [v] 0 false) | none => t.get j) else t.get j := by
  intro l
  induction l with
  | nil => intro i t j h; simp [treeOf]
  | cons v l ih =>
    intro i t j h
    simp only [List.length_cons] at h
    rw [treeOf, ih (i + 1) _ j (by omega), Tr.get_set]
    have hm := most_lt (i := i) (by omega)
    by_cases h1 : i + 1 ≤ j
    · rw [if_pos h1, if_pos (show i ≤ j by omega), if_neg (show ¬ (j = i ∧ i + 1 < 2 ^ depth) from fun q => by omega)]
      have : j - i = (j - (i + 1)) + 1 := by omega
      rw [this, List.getElem?_cons_succ]
    · rw [if_neg h1]
      by_cases h2 : j = i
      · subst h2; rw [if_pos ⟨rfl, hm⟩, if_pos (Nat.le_refl _), Nat.sub_self]; rfl
      · rw [if_neg (fun q => h2 q.1), if_neg (show ¬ i ≤ j by omega)]

/-- n slots, the first of which are told -/
def TM.of (l : List Value) (n : Nat) (h : n ≤ most) : TM := ⟨n, treeOf l 0 .leaf, h⟩
theorem TM.of_toL {l : List Value} {n : Nat} {h : n ≤ most} (hl : l.length ≤ n) : (TM.of l n h).toL = l ++ List.replicate (n - l.length) undef := by
  apply List.ext_getElem?
  intro j
  rw [TM.get?]
  show (match Nat.blt j n with | true => _ | false => _) = _
  cases hj : Nat.blt j n with
  | true =>
    have hj' := of_blt hj
    have e : (TM.of l n h).at j = match l[j]? with | some v => v | none => undef := by
      unfold TM.at TM.of
      simp only [hj]
      rw [treeOf_get l 0 .leaf j (by omega), if_pos (Nat.zero_le _), Nat.sub_zero]
      cases l[j]? with
      | some v => rfl
      | none => rfl
    rw [e]
    by_cases hlt : j < l.length
    · rw [List.getElem?_append_left hlt, List.getElem?_eq_getElem hlt]
    · rw [List.getElem?_append_right (by omega), List.getElem?_eq_none (by omega), List.getElem?_replicate, if_pos (by omega)]
  | false =>
    have hj' : ¬ j < n := fun q => by rw [to_blt q] at hj; cases hj
    rw [List.getElem?_eq_none]
    simp only [List.length_append, List.length_replicate]
    omega

def resultT (P : Program) (σ : St) (tm : TM) : ResultVar → R Value
  | .tmp t => pure (tm.at t)
  | .cell a t => loadV P σ t (tm.at a)
def resultsT (P : Program) (fn : Func) (σ : St) (tm : TM) : R Value := do
  let vs ← fn.results.toList.mapM (resultT P σ tm)
  match vs with
  | [v] => pure v
  | vs => pure (.tuple vs.toArray)
theorem resultsT_eq (P : Program) (fn : Func) (σ : St) (m : TM) : resultsV P fn σ m.toL = resultsT P fn σ m := by
  have : resultV P σ m.toL = resultT P σ m := by
    funext x
    cases x with
    | tmp t => simp only [resultV, resultT, TM.getD]
    | cell a t => simp only [resultV, resultT, TM.getD]
  unfold resultsV resultsT
  rw [this]
  congr 1

def callT (P : Program) (ov : FuncId → Option (List Value → St → R (Value × St))) (run : Code → TM → St → R (Ex × TM × St)) (f : FuncId) (args : List Value) (σ : St) : R (Value × St) :=
  match ov f with
  | some g => g args σ
  | none =>
    match P.funcs[f]? with
    | none => none
    | some fn =>
      match fn.body with
      | none => none
      | some c =>
        match h : Nat.ble fn.ntmps most with
        | false => none
        | true =>
          match Nat.ble args.length fn.ntmps with
          | false => none
          | true =>
            match run c (TM.of args fn.ntmps (of_ble h)) σ with
            | some (.normal, tm, σ) => do pure (← resultsT P fn σ tm, σ)
            | some (.ret, tm, σ) => do pure (← resultsT P fn σ tm, σ)
            | _ => none

def runT (P : Program) (ov : FuncId → Option (List Value → St → R (Value × St))) : Nat → Option Code → Code → TM → St → R (Ex × TM × St)
  | 0, _, _, _, _ => none
  | n + 1, some a, c, tm, σ =>
    match runT P ov n none c tm σ with
    | some (.goto l, tm, σ) =>
      (match findLabel a l with
      | some rest => runT P ov n (some a) rest tm σ
      | none => some (.goto l, tm, σ))
    | r => r
  | n + 1, none, c, tm, σ =>
    match c with
    | .skip | .label _ => some (.normal, tm, σ)
    | .region _ ops draw =>
      (match regionT P (callT P ov (runT P ov n none)) ops draw tm σ with
      | some (tm, σ) => some (.normal, tm, σ)
      | none => none)
    | .seq a b =>
      (match runT P ov n none a tm σ with
      | some (.normal, tm, σ) => runT P ov n none b tm σ
      | r => r)
    | .cond x a b =>
      (match evalT tm x with
      | .bool true => runT P ov n none a tm σ
      | .bool false => runT P ov n none b tm σ
      | _ => none)
    | .block id a =>
      (match runT P ov n none a tm σ with
      | some (.exit i, tm, σ) => if Nat.beq i id then some (.normal, tm, σ) else some (.exit i, tm, σ)
      | r => r)
    | .loop a =>
      (match runT P ov n none a tm σ with
      | some (.normal, tm, σ) => runT P ov n none (.loop a) tm σ
      | r => r)
    | .exit id => some (.exit id, tm, σ)
    | .goto l => some (.goto l, tm, σ)
    | .ret => some (.ret, tm, σ)
    | .scope a => runT P ov n (some a) a tm σ
    | _ => none

variable {ov : FuncId → Option (List Value → St → R (Value × St))}
theorem callT_sound {runF : Code → TM → St → R (Ex × TM × St)} {run : Code → List Value → St → R (Ex × List Value × St)} (hr : ∀ c m σ e m' σ', runF c m σ = some (e, m', σ') → run c m.toL σ = some (e, m'.toL, σ')) :
    ∀ f args σ v, callT P ov runF f args σ = some v → callV P ov run f args σ = some v := by
  intro f args σ v h
  unfold callT at h
  unfold callV
  cases hov : ov f with
  | some g => simp only [hov] at h ⊢; exact h
  | none =>
    simp only [hov] at h ⊢
    split at h
    · cases h
    · rename_i fn hf
      split at h
      · cases h
      · rename_i c hb
        split at h
        · cases h
        · rename_i hn
          split at h
          · cases h
          · rename_i ha
            have hL := TM.of_toL (h := of_ble hn) (of_ble ha)
            simp only [want, hf, hb, bind, Option.bind_some]
            split at h
            · rename_i tm1 σ1 h1
              have h2 := hr _ _ _ _ _ _ h1
              rw [hL] at h2
              simp only [h2, Option.bind_some, resultsT_eq]
              exact h
            · rename_i tm1 σ1 h1
              have h2 := hr _ _ _ _ _ _ h1
              rw [hL] at h2
              simp only [h2, Option.bind_some, resultsT_eq]
              exact h
            · cases h

theorem runT_sound : ∀ (n : Nat) (sc : Option Code) (c : Code) (m : TM) (σ : St) (e : Ex) (m' : TM) (σ' : St), runT P ov n sc c m σ = some (e, m', σ') → runV P ov n sc c m.toL σ = some (e, m'.toL, σ') := by
  intro n
  induction n with
  | zero => intro sc c m σ e m' σ' h; simp [runT] at h
  | succ n ih =>
    intro sc c m σ e m' σ' h
    cases sc with
    | some A =>
      simp only [runT] at h
      simp only [runV, bind]
      cases h1 : runT P ov n none c m σ with
      | none => rw [h1] at h; cases h
      | some r =>
        obtain ⟨e1, m1, σ1⟩ := r
        rw [h1] at h
        rw [ih _ _ _ _ _ _ _ h1]
        simp only [Option.bind_some]
        cases e1 with
        | goto l =>
          simp only at h ⊢
          split at h
          · rename_i rest hf; rw [hf]; exact ih _ _ _ _ _ _ _ h
          · rename_i hf; rw [hf]
            simp only [Option.some.injEq, Prod.mk.injEq] at h
            obtain ⟨rfl, rfl, rfl⟩ := h
            rfl
        | _ =>
          simp only [Option.some.injEq, Prod.mk.injEq] at h
          obtain ⟨rfl, rfl, rfl⟩ := h
          rfl
    | none =>
      cases c <;> simp only [runT] at h <;> simp only [runV]
      case skip | label | exit | goto | ret =>
        simp only [Option.some.injEq, Prod.mk.injEq] at h
        obtain ⟨rfl, rfl, rfl⟩ := h
        rfl
      case region id ops draw =>
        split at h
        · rename_i tm1 σ1 h1
          simp only [Option.some.injEq, Prod.mk.injEq] at h
          obtain ⟨rfl, rfl, rfl⟩ := h
          rw [regionT_sound (callT_sound (fun c m σ e m' σ' => ih none c m σ e m' σ')) h1]
          rfl
        · cases h
      case seq x y =>
        cases h1 : runT P ov n none x m σ with
        | none => rw [h1] at h; cases h
        | some r =>
          obtain ⟨e1, m1, σ1⟩ := r
          rw [h1] at h
          simp only [bind, ih _ _ _ _ _ _ _ h1, Option.bind_some]
          cases e1 with
          | normal => exact ih _ _ _ _ _ _ _ h
          | _ =>
            simp only [Option.some.injEq, Prod.mk.injEq] at h
            obtain ⟨rfl, rfl, rfl⟩ := h
            rfl
      case cond x y z =>
        rw [evalT_eq]
        split at h
        · rename_i hb; simp only [hb]; exact ih _ _ _ _ _ _ _ h
        · rename_i hb; simp only [hb]; exact ih _ _ _ _ _ _ _ h
        · cases h
      case block id x =>
        cases h1 : runT P ov n none x m σ with
        | none => rw [h1] at h; cases h
        | some r =>
          obtain ⟨e1, m1, σ1⟩ := r
          rw [h1] at h
          simp only [bind, ih _ _ _ _ _ _ _ h1, Option.bind_some]
          cases e1 with
          | exit i =>
            simp only at h ⊢
            split at h
            · rename_i hi
              simp only [Option.some.injEq, Prod.mk.injEq] at h
              obtain ⟨rfl, rfl, rfl⟩ := h
              rw [if_pos hi]; rfl
            · rename_i hi
              simp only [Option.some.injEq, Prod.mk.injEq] at h
              obtain ⟨rfl, rfl, rfl⟩ := h
              rw [if_neg hi]; rfl
          | _ =>
            simp only [Option.some.injEq, Prod.mk.injEq] at h
            obtain ⟨rfl, rfl, rfl⟩ := h
            rfl
      case loop x =>
        cases h1 : runT P ov n none x m σ with
        | none => rw [h1] at h; cases h
        | some r =>
          obtain ⟨e1, m1, σ1⟩ := r
          rw [h1] at h
          simp only [bind, ih _ _ _ _ _ _ _ h1, Option.bind_some]
          cases e1 with
          | normal => exact ih _ _ _ _ _ _ _ h
          | _ =>
            simp only [Option.some.injEq, Prod.mk.injEq] at h
            obtain ⟨rfl, rfl, rfl⟩ := h
            rfl
      case scope x => exact ih _ _ _ _ _ _ _ h
      all_goals cases h

/-- run pieces, each to its end -/
def runLT (P : Program) (ov : FuncId → Option (List Value → St → R (Value × St))) (fuel : Nat) : List Code → TM → St → Option (TM × St)
  | [], tm, σ => some (tm, σ)
  | c :: l, tm, σ => match runT P ov fuel none c tm σ with
    | some (.normal, tm, σ) => runLT P ov fuel l tm σ
    | _ => none
theorem runLT_sound {fuel : Nat} : ∀ (l : List Code) {m m' : TM} {σ σ' : St}, runLT P ov fuel l m σ = some (m', σ') → runL P ov fuel l m.toL σ = some (m'.toL, σ') := by
  intro l
  induction l with
  | nil =>
    intro m m' σ σ' h
    simp only [runLT, Option.some.injEq, Prod.mk.injEq] at h
    obtain ⟨rfl, rfl⟩ := h
    rfl
  | cons c l ih =>
    intro m m' σ σ' h
    simp only [runLT] at h
    split at h
    · rename_i tm1 σ1 h1
      simp only [runL, runT_sound _ _ _ _ _ _ _ _ h1]
      exact ih h
    · cases h
end
end Go.Proofs.Ytkghejleififiaa.AS
