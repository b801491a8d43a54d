import Derived.Test.YtbhjhffglcipbaaAsY3
namespace Go.Proofs.Ytbhjhffglcipbaa.HW
open Go Go.Proofs.Ytbhjhffglcipbaa.AS
set_option linter.unusedVariables false
/-! ## HistMade, computed -/
def tmZ (k : Nat) : List Value := slots 87 [(0, sy 1), (1, sy 2), (2, sy 3), (6, .bool false), (7, mineV k), (8, sy 8)]
theorem ok87 : 87 ≤ most := by unfold most; omega
inductive WayZ where
  | low | high | take
def factsZ : WayZ → List Fact
  | .low => [⟨.geq, 3, sy 11, i64 1, .bool false⟩]
  | .high => [⟨.geq, 3, sy 11, i64 1, .bool true⟩, ⟨.leq, 3, sy 11, i64 4, .bool false⟩]
  | .take => [⟨.geq, 3, sy 11, i64 1, .bool true⟩, ⟨.leq, 3, sy 11, i64 4, .bool true⟩]
def phaseZ (P : Program) (code : List Code) (k : Nat) (w : WayZ) : Bool :=
  match @runLT (orcC P lensM (factsWI ++ factsZ w) [] winsW) P ov0 600 code (TM.of (tmZ k) 87 ok87) (stW2 k) with
  | some (t, σ) =>
    match w with
    | .take => stB P [some 0, mineAt t] (thetaW k (sy 22) [sy 11, keyK, sy 13, sy 14, sy 15]) 8 (stW1 (k + 1)) (tmZ (k + 1)) σ t.toL
    | _ => stB P [some 0, some 1] (thetaW k (sy 22) []) 8 (stW1 k) (tmZ k) σ t.toL
  | none => false
def phaseZ0 (P : Program) (c1 : List Code) : Bool :=
  match @runLT (orcC P lensM [⟨.gtr, 3, sy 9, i64 10, .bool false⟩] [] []) P ovA 600 c1 (TM.of [sy 1, sy 2, sy 3] 87 ok87) stW0 with
  | some (t, σ) => stB P [some 0] (thetaW 0 (i64 0) []) 8 (stW1 0) (tmZ 0) σ t.toL
  | none => false
def phaseZx (P : Program) (fn : Func) (c1 : List Code) (c : Code) : Bool :=
  match @runLT (orcC P lensM [⟨.gtr, 3, sy 9, i64 10, .bool true⟩] [] []) P ovA 600 c1 (TM.of [sy 1, sy 2, sy 3] 87 ok87) stW0 with
  | some (t, σ) => (match @AS.runT (orcC P lensM [] [] []) P ovA 600 none c t σ with
    | some (.ret, t, σ) => isTrue2 (resultsT P fn σ t)
    | _ => false)
  | none => false
/-! Made, Linear -/
/-- rows of symbols from the base on -/
def rowsB (base : Nat) : Nat → List Value
  | 0 => []
  | k + 1 => rowsB base k ++ rowS (base + 10 * k)
def rowsOB (base k : Nat) : Option Ob → Bool
  | some (.blk cs u false (some t)) => Nat.beq u 15 && (Nat.beq t 40 && listB same cs (rowsB base k))
  | _ => false
/-- is that a slice of these rows? -/
def sliceB (base k : Nat) (σ : St) (v : Value) : Bool :=
  match Nat.beq k 0 with
  | true => same v nils
  | false => match v with
    | .slice (some ⟨b, o, none⟩) n c => Nat.beq o 0 && (Nat.beq n k && (Nat.beq c k && rowsOB base k (σ.get b)))
    | _ => false
def itB : Value → Bool
  | .agg it => listB same it.toList [.string ⟨#[]⟩, .string ⟨#[]⟩, .bool false, .complex .f64 0 0]
  | _ => false
/-- Linear's stand-in -/
def linB (base k : Nat) : Fn := fun args σ =>
  match args with
  | [v, it] => if itB it && sliceB base k σ v then some (.bool true, σ) else none
  | _ => none
def newRows (base k : Nat) (σ : St) : R (Value × St) :=
  match Nat.beq k 0 with
  | true => some (nils, σ)
  | false => match σ.new (.blk (rowsB base k) 15 false (some 40)) with
    | some (nb, σ') => some (.slice (some ⟨nb, 0, none⟩) k k, σ')
    | none => none
/-- Made's -/
def mineSB (k : Nat) (σ : St) (v : Value) : Bool :=
  match Nat.beq k 0 with
  | true => same v nils
  | false => match v with
    | .slice (some ⟨b, o, none⟩) n c => Nat.beq o 0 && (Nat.beq n k && mineB k (σ.get b))
    | _ => false
def madeZ (k : Nat) : Fn := fun args σ =>
  match args with
  | [m, s] => if same s (sy 2) && (okX 1 (σ.get 0) && mineSB k σ m) then newRows 80 k σ else none
  | _ => none
/-- Key's -/
def keyZ (k k' : Nat) : Fn := fun args σ =>
  match args with
  | [v, s] => if same s keyK && sliceB 23 k σ v then newRows 150 k' σ else none
  | _ => none
def ovB1 (k : Nat) : Ov := fun f => match Nat.beq f 13 with | true => some (madeZ k) | false => match Nat.beq f 14 with | true => some (linB 80 k) | false => none
def ovB2 (k k' : Nat) : Ov := fun f => match Nat.beq f 15 with | true => some (keyZ k k') | false => match Nat.beq f 14 with | true => some (linB 150 k') | false => none
def stC (k : Nat) : St := { next := 1, mark := 0, log := [], mem := match Nat.beq k 0 with | true => .leaf | false => Tr.set (some (.blk (rowsB 23 k) 15 false (some 40))) depth .leaf 0 }
def lV (k : Nat) : Value := match Nat.beq k 0 with | true => nils | false => .slice (some ⟨0, 0, none⟩) k k
def tmC (k i : Nat) : List Value := slots 87 [(2, sy 3), (6, .bool false), (10, lV k), (11, i64 i)]
def lAt (t : TM) : Option Nat := match t.toL.getD 10 undef with | .slice (some ⟨b, _, _⟩) _ _ => some b | _ => none
def thetaC (k : Nat) : List Value := (List.range 23).map sy ++ (List.range (10 * k)).map fun j => sy (80 + j)
/-- behind the first loop -/
def phaseB (P : Program) (c1 c2 : Code) (rest : List Code) (k : Nat) : Bool :=
  match @runLT (orcC P lensM [⟨.lss, 3, sy 8, sy 9, .bool false⟩] [] []) P ov0 600 [c1] (TM.of (tmZ k) 87 ok87) (stW1 k) with
  | some (t, σ) => (match @AS.runT (orcC P lensM [] [] []) P ov0 600 none c2 t σ with
    | some (.exit id, t, σ) => Nat.beq id 0 && (match @runLT (orcC P lensM [] [] []) P (ovB1 k) 600 rest t σ with
      | some (t, σ) => stB P [lAt t] (thetaC k) 8 (stC k) (tmC k 0) σ t.toL
      | none => false)
    | _ => false)
  | none => false
/-! the loop that loses answers -/
def factsC (i : Nat) (b : Bool) : List Fact := [⟨.shr, 29, sy 3, i64 i, sy (123 + 2 * i)⟩, ⟨.and, 29, sy (123 + 2 * i), .int .u16 1, sy (124 + 2 * i)⟩, ⟨.eql, 29, sy (124 + 2 * i), .int .u16 1, .bool b⟩]
def thetaL (i : Nat) (b : Bool) : List Value :=
  let id := (List.range 143).map sy
  if b then (((id.set (23 + 10 * i + 6) (i64 (-1))).set (23 + 10 * i + 7) (i64 0)).set (23 + 10 * i + 8) emp).set (23 + 10 * i + 9) (.bool false) else id
def phaseC (P : Program) (code : List Code) (k i : Nat) (b : Bool) : Bool :=
  match @runLT (orcC P [] (factsC i b) [] []) P ov0 600 code (TM.of (tmC k i) 87 ok87) (stC k) with
  | some (t, σ) => stB P [some 0] (thetaL i b) 8 (stC k) (tmC k (i + 1)) σ t.toL
  | none => false
def allC (P : Program) (code : List Code) (k : Nat) : Bool := (List.range k).all fun i => phaseC P code k i true && phaseC P code k i false
/-- behind it -/
def phaseD (P : Program) (fn : Func) (c1 c2 : Code) (rest : List Code) (k k' : Nat) : Bool :=
  match @runLT (orcC P [] [] [] []) P ov0 600 [c1] (TM.of (tmC k k) 87 ok87) (stC k) with
  | some (t, σ) => (match @AS.runT (orcC P [] [] [] []) P ov0 600 none c2 t σ with
    | some (.exit id, t, σ) => Nat.beq id 2 && (match @runLT (orcC P [] [] [] []) P (ovB2 k k') 600 rest t σ with
      | some (t, σ) => isTrue2 (resultsT P fn σ t)
      | none => false)
    | _ => false)
  | none => false
end Go.Proofs.Ytbhjhffglcipbaa.HW
namespace Go.Proofs.Ytbhjhffglcipbaa
open Go Go.Proofs.Ytbhjhffglcipbaa.AS Go.Proofs.Ytbhjhffglcipbaa.HW
set_option maxRecDepth 100000
noncomputable def hmL : List Code := flatC (Try.f6.body.getD .skip)
noncomputable def hmB : Code := match hmL[5]? with | some (Code.block _ (Code.loop b)) => b | _ => .skip
noncomputable def hmLb : List Code := flatC hmB
noncomputable def hmB2 : Code := match hmL[10]? with | some (Code.block _ (Code.loop b)) => b | _ => .skip
noncomputable def hmLb2 : List Code := flatC hmB2
theorem hmL_eq : hmL = hmL.take 5 ++ ([.block 0 (.loop hmB)] ++ ((hmL.drop 6).take 4 ++ ([.block 2 (.loop hmB2)] ++ ((hmL.drop 11).take 1 ++ [.ret])))) := by kernel_rfl
theorem z_start : phaseZ0 Try.prog (hmL.take 5) = true := by kernel_rfl
theorem z_full : phaseZx Try.prog Try.f6 (hmL.take 2) (hmL.getD 2 .skip) = true := by kernel_rfl
theorem z_skip : ((List.range 11).all fun k => phaseZ Try.prog hmLb k .low && phaseZ Try.prog hmLb k .high) = true := by kernel_rfl
theorem z_take : ((List.range 10).all fun k => phaseZ Try.prog hmLb k .take) = true := by kernel_rfl
theorem z_mid : ((List.range 11).all fun k => phaseB Try.prog (hmLb.getD 0 .skip) (hmLb.getD 1 .skip) ((hmL.drop 6).take 4) k) = true := by kernel_rfl
theorem z_end : ((List.range 11).all fun k => (List.range (k + 1)).all fun k' => phaseD Try.prog Try.f6 (hmLb2.getD 0 .skip) (hmLb2.getD 1 .skip) ((hmL.drop 11).take 1) k k') = true := by kernel_rfl
end Go.Proofs.Ytbhjhffglcipbaa
