import Derived.Test.YtbhjhffglcipbaaAsM4
namespace Go.Proofs.Ytbhjhffglcipbaa.HW
open Go Go.Proofs.Ytbhjhffglcipbaa.AS
set_option linter.unusedVariables false
/-! ## HistWrong, computed -/
def neverV : ByteArray := ⟨#[110, 101, 118, 101, 114]⟩
def keyK : Value := .string ⟨#[107]⟩
def opS (b : Nat) : List Value := [sy b, sy (b + 1), sy (b + 2), sy (b + 3), sy (b + 4)]
def mineC : Nat → List Value
  | 0 => []
  | k + 1 => mineC k ++ opS (23 + 5 * k)
/-- block 0: the spread's (pinned); block 1: the calls that are taken -/
def stW1 (k : Nat) : St :=
  let m0 := Tr.set (some (.ext 1)) depth .leaf 0
  { next := 2, mark := 0, log := [], mem := match Nat.beq k 0 with | true => m0 | false => Tr.set (some (.blk (mineC k) 5 false (some 31))) depth m0 1 }
def stW2 (k : Nat) : St := { next := 3, mark := 0, log := [], mem := Tr.set (some (.blk (opS 11) 0 true none)) depth (stW1 k).mem 2 }
def mineV (k : Nat) : Value := match Nat.beq k 0 with | true => nils | false => .slice (some ⟨1, 0, none⟩) k k
def tmW1 (k : Nat) : List Value := slots 73 [(0, sy 1), (1, sy 2), (2, sy 3), (6, .bool false), (7, mineV k), (8, sy 8)]
theorem ok73 : 73 ≤ most := by unfold most; omega
inductive WayW where
  | low | high | nev | take
def factsW : WayW → List Fact
  | .low => [⟨.geq, 3, sy 11, i64 1, .bool false⟩]
  | .high => [⟨.geq, 3, sy 11, i64 1, .bool true⟩, ⟨.leq, 3, sy 11, i64 4, .bool false⟩]
  | .nev => [⟨.geq, 3, sy 11, i64 1, .bool true⟩, ⟨.leq, 3, sy 11, i64 4, .bool true⟩, ⟨.neq, 9, sy 13, .string neverV, .bool false⟩]
  | .take => [⟨.geq, 3, sy 11, i64 1, .bool true⟩, ⟨.leq, 3, sy 11, i64 4, .bool true⟩, ⟨.neq, 9, sy 13, .string neverV, .bool true⟩]
def factsWI : List Fact := [⟨.lss, 3, sy 8, sy 9, .bool true⟩, ⟨.add, 3, sy 8, i64 1, sy 22⟩]
def winsW : List Win := [⟨1, sy 8, 2, 5⟩]
def thetaW (k : Nat) (v : Value) (row : List Value) : List Value := ((List.range 23).map sy).set 8 v ++ ((List.range (5 * k)).map (fun j => sy (23 + j)) ++ row)
def mineAt (t : TM) : Option Nat := match t.toL.getD 7 undef with | .slice (some ⟨b, _, _⟩) _ _ => some b | _ => none
def phaseW (P : Program) (code : List Code) (k : Nat) (w : WayW) : Bool :=
  match @runLT (orcC P lensM (factsWI ++ factsW w) [] winsW) P ov0 600 code (TM.of (tmW1 k) 73 ok73) (stW2 k) with
  | some (t, σ) =>
    match w with
    | .take => stB P [some 0, mineAt t] (thetaW k (sy 22) [sy 11, keyK, sy 13, sy 14, sy 15]) 8 (stW1 (k + 1)) (tmW1 (k + 1)) σ t.toL
    | _ => stB P [some 0, some 1] (thetaW k (sy 22) []) 8 (stW1 k) (tmW1 k) σ t.toL
  | none => false
def allW (P : Program) (code : List Code) (k : Nat) : Bool := phaseW P code k .low && (phaseW P code k .high && phaseW P code k .nev)
/-- ahead of the loop: awake() has said yes -/
def awakeS : Fn := fun args σ => match args with | [] => some (.bool true, σ) | _ => none
def ovA : Ov := fun f => match Nat.beq f 12 with | true => some awakeS | false => none
def stW0 : St := { next := 1, mark := 0, log := [], mem := Tr.set (some (.ext 1)) depth .leaf 0 }
def phaseW0 (P : Program) (c1 : List Code) : Bool :=
  match @runLT (orcC P lensM [⟨.gtr, 3, sy 9, i64 9, .bool false⟩] [] []) P ovA 600 c1 (TM.of [sy 1, sy 2, sy 3] 73 ok73) stW0 with
  | some (t, σ) => stB P [some 0] (thetaW 0 (i64 0) []) 8 (stW1 0) (tmW1 0) σ t.toL
  | none => false
def isTrue2 : Option Value → Bool
  | some (.bool true) => true
  | _ => false
/-- too many calls: awake() alone -/
def phaseWx (P : Program) (fn : Func) (c1 : List Code) (c : Code) : Bool :=
  match @runLT (orcC P lensM [⟨.gtr, 3, sy 9, i64 9, .bool true⟩] [] []) P ovA 600 c1 (TM.of [sy 1, sy 2, sy 3] 73 ok73) stW0 with
  | some (t, σ) => (match @AS.runT (orcC P lensM [] [] []) P ovA 600 none c t σ with
    | some (.ret, t, σ) => isTrue2 (resultsT P fn σ t)
    | _ => false)
  | none => false
/-! behind the loop -/
def madeC : Nat → List Value
  | 0 => []
  | k + 1 => madeC k ++ rowS (80 + 10 * k)
def lastC : List Value := [i64 0, i64 0, i64 0, i64 0, i64 1, keyK, emp, emp, .bool false, sy 16, sy 17, i64 0, .string neverV, .bool true, .complex .f64 0 0]
def mineB (k : Nat) : Option Ob → Bool
  | some (.blk cs u false (some t)) => Nat.beq u 5 && (Nat.beq t 31 && listB same cs (mineC k))
  | _ => false
def histB (k : Nat) : Option Ob → Bool
  | some (.blk cs _ _ _) => listB same cs (madeC k ++ lastC)
  | _ => false
/-- Made's stand-in: k calls -/
def madeS (k : Nat) : Fn := fun args σ =>
  match args with
  | [m, s] =>
    if same s (sy 2) && okX 1 (σ.get 0) then
      match Nat.beq k 0 with
      | true => if same m nils then some (nils, σ) else none
      | false =>
        match m with
        | .slice (some ⟨b, o, none⟩) n c =>
          if Nat.beq o 0 && (Nat.beq n k && mineB k (σ.get b)) then
            match σ.new (.blk (madeC k) 15 false (some 40)) with
            | some (nb, σ') => some (.slice (some ⟨nb, 0, none⟩) k k, σ')
            | none => none
          else none
        | _ => none
    else none
  | _ => none
/-- Linear's stand-in: k calls and the last one -/
def linS (k : Nat) : Fn := fun args σ =>
  match args with
  | [.slice (some ⟨b, o, none⟩) n _, .agg it] =>
    if Nat.beq o 0 && (Nat.beq n (k + 1) && (listB same it.toList [.string ⟨#[]⟩, .string ⟨#[]⟩, .bool false, .complex .f64 0 0] && histB k (σ.get b))) then some (.bool false, σ) else none
  | _ => none
def ovW (k : Nat) : Ov := fun f => match Nat.beq f 13 with | true => some (madeS k) | false => match Nat.beq f 14 with | true => some (linS k) | false => none
def convW : List Cnv := [⟨5, 3, sy 3, sy 16⟩]
def factsWe : List Fact := [⟨.add, 3, sy 16, i64 5, sy 17⟩]
def phaseWe (P : Program) (fn : Func) (c1 c2 : Code) (rest : List Code) (k : Nat) : Bool :=
  match @runLT (orcC P lensM [⟨.lss, 3, sy 8, sy 9, .bool false⟩] [] []) P ov0 600 [c1] (TM.of (tmW1 k) 73 ok73) (stW1 k) with
  | some (t, σ) => (match @AS.runT (orcC P lensM [] [] []) P ov0 600 none c2 t σ with
    | some (.exit id, t, σ) => Nat.beq id 0 && (match @runLT (orcC P lensM factsWe convW []) P (ovW k) 600 rest t σ with
      | some (t, σ) => isTrue2 (resultsT P fn σ t)
      | none => false)
    | _ => false)
  | none => false
end Go.Proofs.Ytbhjhffglcipbaa.HW
namespace Go.Proofs.Ytbhjhffglcipbaa
open Go Go.Proofs.Ytbhjhffglcipbaa.AS Go.Proofs.Ytbhjhffglcipbaa.HW
set_option maxRecDepth 100000
noncomputable def hwL : List Code := flatC (Try.f7.body.getD .skip)
noncomputable def hwB : Code := match hwL[5]? with | some (Code.block _ (Code.loop b)) => b | _ => .skip
noncomputable def hwLb : List Code := flatC hwB
theorem hwL_eq : hwL = hwL.take 5 ++ ([.block 0 (.loop hwB)] ++ ((hwL.drop 6).take 3 ++ [.ret])) := by kernel_rfl
theorem w_start : phaseW0 Try.prog (hwL.take 5) = true := by kernel_rfl
theorem w_full : phaseWx Try.prog Try.f7 (hwL.take 2) (hwL.getD 2 .skip) = true := by kernel_rfl
theorem w_skip : ((List.range 10).all fun k => allW Try.prog hwLb k) = true := by kernel_rfl
theorem w_take : ((List.range 9).all fun k => phaseW Try.prog hwLb k .take) = true := by kernel_rfl
theorem w_end : ((List.range 10).all fun k => phaseWe Try.prog Try.f7 (hwLb.getD 0 .skip) (hwLb.getD 1 .skip) ((hwL.drop 6).take 3) k) = true := by kernel_rfl
end Go.Proofs.Ytbhjhffglcipbaa
