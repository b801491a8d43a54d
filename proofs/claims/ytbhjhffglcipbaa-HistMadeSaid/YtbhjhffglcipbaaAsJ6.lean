import Derived.Test.YtbhjhffglcipbaaAsJ
namespace Go.Proofs.Ytbhjhffglcipbaa.HW
open Go Go.Proofs.Ytbhjhffglcipbaa.AS
/-! ## search.goes, computed -/
/-- the search's struct, the rows' block, the map -/
def stG0 : St := { next := 3, mark := 0, log := [], mem := Tr.set (some (.ext 0)) depth (Tr.set (some (.ext 1)) depth (Tr.set (some (.blk [sy 1, .map (some 2)] 0 true (some 53))) depth .leaf 0) 1) 2 }
/-- and what is left, and the value -/
def stG (has : Bool) : St := { next := 4, mark := 0, log := [], mem := Tr.set (some (.blk [sy 3, .bool has, sy 5] 0 false (some 59))) depth stG0.mem 3 }
def rowG (hasOld Has : Bool) : List Value := (rowU.set 8 (.bool hasOld)).set 13 (.bool Has)
def stGw (has hasOld Has : Bool) : St := { next := 5, mark := 0, log := [], mem := Tr.set (some (.blk (rowG hasOld Has) 0 true none)) depth (stG has).mem 4 }
def tmG : List Value := slots 68 [(0, at_ 0), (3, at_ 3), (4, .bool false), (22, sy 1), (23, sy 9), (24, sy 8)]
theorem ok68 : 68 ≤ most := by unfold most; omega
def winsG : List Win := [⟨1, sy 8, 4, 15⟩]
def keyX (has : Bool) : List Value := [sy 3, .bool has, sy 5]
def isKey (has : Bool) : Value → Bool
  | .agg cs => listB same cs.toList (keyX has)
  | _ => false
def isB : Value → Bool
  | .bool _ => true
  | _ => false
/-- facts, lengths, windows, and the map -/
abbrev orcM (P : Program) (dead : Option Bool) (has : Bool) (fs : List Fact) (ws : List Win) : Orc where
  orc := (orcL P lens fs).orc
  wins := ws
  look t tag k ok := match dead with
    | some d => if Nat.beq t 51 && (Nat.beq tag 0 && (isKey has k && !ok)) then some (.bool d) else none
    | none => none
  upd t tag k x := match dead with
    | some _ => none
    | none => if Nat.beq t 51 && (Nat.beq tag 0 && (isKey has k && isB x)) then some 0 else none
/-- are these blocks as at the start? -/
def okS : Option Ob → Bool
  | some (.blk [.chan (some a), .map (some b)] u _ (some t)) => Nat.beq a 1 && (Nat.beq b 2 && (Nat.beq t 53 && Nat.beq u 0))
  | _ => false
def okX (n : Nat) : Option Ob → Bool
  | some (.ext t) => Nat.beq t n
  | _ => false
def okB (σ : St) : Bool := okS (σ.get 0) && (okX 1 (σ.get 1) && okX 0 (σ.get 2))
abbrev Fn := List Value → St → R (Value × St)
def argsB (args l : List Value) (σ : St) : Bool := listB same args.tail l && ((match args with | .pointer (some ⟨b, o, none⟩) :: _ => Nat.beq b 0 && Nat.beq o 0 | _ => false) && okB σ)
def overS : Fn := fun args σ => if argsB args [sy 3] σ then some (.bool false, σ) else none
def firstS (b : Bool) : Fn := fun args σ => if argsB args [sy 3, sy 8] σ then some (.bool b, σ) else none
def okV (has : Bool) (cs : List Value) : Bool := listB same cs [sy 115, .bool true, sy 106] || (listB same cs [sy 115, .bool has, sy 5] || listB same cs [sy 115, .bool false, .string ⟨#[]⟩])
def argsV (has : Bool) (args : List Value) (σ : St) : Bool := (match args with | [.pointer (some ⟨b, o, none⟩), .agg cs] => Nat.beq b 0 && (Nat.beq o 0 && okV has cs.toList) | _ => false) && okB σ
def goesS (has : Bool) : Fn := fun args σ => if argsV has args σ then some (.bool false, σ.set 2 (some (.ext 0))) else none
abbrev Ov := FuncId → Option Fn
def ovS : Ov := fun f => match Nat.beq f 22 with | true => some overS | false => none
def ovF (b : Bool) : Ov := fun f => match Nat.beq f 23 with | true => some (firstS b) | false => none
def ovG (has : Bool) : Ov := fun f => match Nat.beq f 23 with | true => some (firstS true) | false => match Nat.beq f 18 with | true => some (goesS has) | false => none
def piG : List (Option Nat) := [some 0, some 1, some 2, some 3]
/-- a round -/
def phaseG (P : Program) (code : List Code) (ov : Ov) (has hasOld Has : Bool) (fs : List Fact) : Bool :=
  match @runLT (orcM P none has fs winsG) P ov 400 code (TM.of tmG 68 ok68) (stGw has hasOld Has) with
  | some (t, σ) => stB P piG (theta (sy 22) (sy 20) (sy 21) (sy 22) []) 8 (stG has) tmG σ t.toL
  | none => false
/-- questions -/
inductive QT where
  | done
  | ask (q : Nat) (y n : QT)
def qf (q : Nat) (b : Bool) : Fact :=
  match q with
  | 0 => ⟨.geq, 3, sy 110, i64 0, .bool b⟩
  | 1 => ⟨.neq, 3, sy 111, i64 7, .bool b⟩
  | 2 => ⟨.eql, 3, sy 104, i64 1, .bool b⟩
  | 3 => ⟨.eql, 3, sy 104, i64 2, .bool b⟩
  | 4 => ⟨.eql, 3, sy 104, i64 3, .bool b⟩
  | 5 => ⟨.eql, 3, sy 111, i64 0, .bool b⟩
  | 6 => ⟨.eql, 3, sy 111, i64 1, .bool b⟩
  | 7 => ⟨.eql, 3, sy 111, i64 2, .bool b⟩
  | 8 => ⟨.eql, 9, sy 112, sy 5, .bool b⟩
  | _ => ⟨.eql, 9, sy 5, sy 107, .bool b⟩
def chk (ph : List Fact → Bool) : QT → List Fact → Bool
  | .done, fs => ph fs
  | .ask q y n, fs => chk ph y (qf q true :: fs) && chk ph n (qf q false :: fs)
def qPd (said : Bool) : QT := if said then .ask 5 .done .done else .done
def qOther (said has Has : Bool) : QT :=
  let z : QT := if said then .ask 7 .done .done else .done
  if Has == has && has then .ask 8 z z else z
def qSw (said has hasOld Has : Bool) : QT := if has == hasOld then (if has then .ask 9 (qPd said) (qOther said has Has) else qPd said) else qOther said has Has
def qK (said has hasOld Has : Bool) : QT :=
  .ask 2 (if has then .ask 5 (if Has then .ask 8 .done .done else .done) .done else .ask 6 .done .done) (.ask 3 (qPd said) (.ask 4 (qPd said) (qSw said has hasOld Has)))
def qAll (has hasOld Has : Bool) : QT := .ask 0 (.ask 1 (qK true has hasOld Has) (qK false has hasOld Has)) (qK false has hasOld Has)
def bitF (b : Bool) : List Fact := [⟨.eql, 57, sy 21, u32 0, .bool (!b)⟩]
def factsG : List Fact := factsI ++ (bitF true ++ [⟨.shl, 57, u32 1, sy 8, sy 116⟩, ⟨.andNot, 57, sy 3, sy 116, sy 115⟩])
/-- the last row: an answered Get of what nobody writes -/
def lastF (has : Bool) : List Fact := [qf 0 true, qf 1 true, qf 2 true] ++ (if has then [qf 5 true, qf 8 false] else [qf 6 false])
def bools : List Bool := [true, false]
/-- what lies there ahead of the loop -/
def phaseG0 (P : Program) (c1 c2 : List Code) (has : Bool) : Bool :=
  match @runLT (orcM P (some false) has [] []) P ovS 400 c1 (TM.of [at_ 0, .agg #[sy 3, .bool has, sy 5]] 68 ok68) stG0 with
  | some (t, σ) => (match @runLT (orcM P (some false) has [] []) P ov0 400 c2 t σ with
    | some (t, σ) => stB P piG (theta (i64 0) (i64 0) (i64 0) (i64 0) []) 8 (stG has) tmG σ t.toL
    | none => false)
  | none => false
def isAt0 : Value → Bool
  | .pointer (some ⟨b, 0, none⟩) => Nat.beq b 0
  | _ => false
/-- an answer -/
def ansG (P : Program) (fn : Func) (t : TM) (σ : St) : Bool := HW.isFalse (resultsT P fn σ t) && (okB σ && isAt0 (t.toL.getD 0 undef))
/-- where it was seen before -/
def phaseGd (P : Program) (fn : Func) (c1 c2 : List Code) (c : Code) (has : Bool) : Bool :=
  match @runLT (orcM P (some true) has [] []) P ovS 400 c1 (TM.of [at_ 0, .agg #[sy 3, .bool has, sy 5]] 68 ok68) stG0 with
  | some (t, σ) => (match @runLT (orcM P (some true) has [] []) P ov0 400 c2 t σ with
    | some (t, σ) => (match @AS.runT (orcM P (some true) has [] []) P ov0 400 none c t σ with
      | some (.ret, t, σ) => ansG P fn t σ
      | _ => false)
    | none => false)
  | none => false
/-- behind the loop -/
def phaseGe (P : Program) (fn : Func) (c1 c2 : Code) (rest : List Code) (has : Bool) : Bool :=
  match @runLT (orcM P none has [⟨.lss, 3, sy 8, sy 9, .bool false⟩] []) P ov0 400 [c1] (TM.of tmG 68 ok68) (stG has) with
  | some (t, σ) => (match @AS.runT (orcM P none has [] []) P ov0 400 none c2 t σ with
    | some (.exit i, t, σ) => Nat.beq i 0 && (match @runLT (orcM P none has [] []) P ov0 400 rest t σ with
      | some (t, σ) => ansG P fn t σ
      | none => false)
    | _ => false)
  | none => false
end Go.Proofs.Ytbhjhffglcipbaa.HW
namespace Go.Proofs.Ytbhjhffglcipbaa
open Go Go.Proofs.Ytbhjhffglcipbaa.AS Go.Proofs.Ytbhjhffglcipbaa.HW
set_option maxRecDepth 100000
noncomputable def goL : List Code := flatC (Try.f18.body.getD .skip)
noncomputable def goB : Code := match goL[6]? with | some (Code.block _ (Code.loop b)) => b | _ => .skip
noncomputable def goLb : List Code := flatC goB
theorem goL_eq : goL = goL.take 6 ++ ([.block 0 (.loop goB)] ++ ((goL.drop 7).take 2 ++ [.ret])) := by kernel_rfl
theorem g_bit : (bools.all fun has => bools.all fun o => bools.all fun h => phaseG Try.prog goLb ov0 has o h (factsI ++ bitF false)) = true := by kernel_rfl
theorem g_first : (bools.all fun has => bools.all fun o => bools.all fun h => phaseG Try.prog goLb (ovF false) has o h (factsI ++ bitF true)) = true := by kernel_rfl
theorem g_last : (bools.all fun has => bools.all fun o => phaseG Try.prog goLb (ovF true) has o true (lastF has ++ factsG)) = true := by kernel_rfl
theorem g_tt : (bools.all fun h => chk (phaseG Try.prog goLb (ovG true) true true h) (qAll true true h) factsG) = true := by kernel_rfl
theorem g_tf : (bools.all fun h => chk (phaseG Try.prog goLb (ovG true) true false h) (qAll true false h) factsG) = true := by kernel_rfl
theorem g_ft : (bools.all fun h => chk (phaseG Try.prog goLb (ovG false) false true h) (qAll false true h) factsG) = true := by kernel_rfl
theorem g_ff : (bools.all fun h => chk (phaseG Try.prog goLb (ovG false) false false h) (qAll false false h) factsG) = true := by kernel_rfl
theorem g_start : (bools.all fun has => phaseG0 Try.prog (goL.take 3) ((goL.drop 3).take 3) has) = true := by kernel_rfl
theorem g_dead : (bools.all fun has => phaseGd Try.prog Try.f18 (goL.take 3) ((goL.drop 3).take 1) (goL.getD 4 .skip) has) = true := by kernel_rfl
theorem g_end : (bools.all fun has => phaseGe Try.prog Try.f18 (goLb.getD 0 .skip) (goLb.getD 1 .skip) ((goL.drop 7).take 2) has) = true := by kernel_rfl
end Go.Proofs.Ytbhjhffglcipbaa
