import Derived.Test.YtbhjhffglcipbaaAsAtX3
namespace Go.Proofs.Ytbhjhffglcipbaa.HW
open Go Go.Proofs.Ytbhjhffglcipbaa.AS
set_option linter.unusedVariables false
/-! ## search.goes, whatever it answers: computed -/
/-- questions; at the ends: what a call makes of a value (0: the value as it is, 1: what it writes, 2: none), and whether it says what was answered -/
inductive Q2 where
  | done (h : Bool) (v : Nat) (ok : Bool)
  | ask (q : Nat) (y n : Q2)
def ev2 (tr : Nat → Bool) : Q2 → Bool × Nat × Bool
  | .done h v ok => (h, v, ok)
  | .ask q y n => if tr q then ev2 tr y else ev2 tr n
def pd2 (said : Bool) (h : Bool) (v : Nat) : Q2 := if said then .ask 5 (.done h v true) (.done h v false) else .done h v true
def other2 (said has Has : Bool) : Q2 :=
  let z (same : Bool) : Q2 := if said then .ask 7 (.done has 0 same) (.done has 0 false) else .done has 0 true
  if Has == has then (if has then .ask 8 (z true) (z false) else z true) else z false
def sw2 (said has hasOld Has : Bool) : Q2 := if has == hasOld then (if has then .ask 9 (pd2 said true 1) (other2 said has Has) else pd2 said true 1) else other2 said has Has
def k2 (said has hasOld Has : Bool) : Q2 :=
  .ask 2 (if has then .ask 5 (if Has then .ask 8 (.done has 0 true) (.done has 0 false) else .done has 0 false) (.done has 0 false) else .ask 6 (.done has 0 (!Has)) (.done has 0 false))
    (.ask 3 (pd2 said true 1) (.ask 4 (pd2 said false 2) (sw2 said has hasOld Has)))
def all2 (has hasOld Has : Bool) : Q2 := .ask 0 (.ask 1 (k2 true has hasOld Has) (k2 false has hasOld Has)) (k2 false has hasOld Has)
/-- of the map: 0: nothing is told, 1: it isn't there, 2: it is, 3: it may be laid -/
abbrev orcN (P : Program) (mode : Nat) (has : Bool) (fs : List Fact) (ws : List Win) : Orc where
  orc := (orcL P lens fs).orc
  wins := ws
  look t tag k ok := match mode with
    | 1 => if Nat.beq t 51 && (Nat.beq tag 0 && (isKey has k && !ok)) then some (.bool false) else none
    | 2 => if Nat.beq t 51 && (Nat.beq tag 0 && (isKey has k && !ok)) then some (.bool true) else none
    | _ => none
  upd t tag k x := match mode with
    | 3 => if Nat.beq t 51 && (Nat.beq tag 0 && (isKey has k && same x (.bool true))) then some 0 else none
    | _ => none
def vM : Nat → Value
  | 0 => sy 5
  | 1 => sy 106
  | _ => .string ⟨#[]⟩
def overS2 (b : Bool) : Fn := fun args σ => if argsB args [sy 3] σ then some (.bool b, σ) else none
def argsV2 (h : Bool) (v : Value) (args : List Value) (σ : St) : Bool := (match args with | [.pointer (some ⟨b, o, none⟩), .agg cs] => Nat.beq b 0 && (Nat.beq o 0 && listB same cs.toList [sy 115, .bool h, v]) | _ => false) && okB σ
def goesS2 (h : Bool) (v : Value) (r : Bool) : Fn := fun args σ => if argsV2 h v args σ then some (.bool r, σ.set 2 (some (.ext 0))) else none
def ovS2 (b : Bool) : Ov := fun f => match Nat.beq f 22 with | true => some (overS2 b) | false => none
def ovG2 (h : Bool) (v : Nat) (r : Bool) : Ov := fun f => match Nat.beq f 23 with | true => some (firstS true) | false => match Nat.beq f 18 with | true => some (goesS2 h (vM v) r) | false => none
def phaseH (P : Program) (code : List Code) (ov : Ov) (has hasOld Has : Bool) (fs : List Fact) : Bool :=
  match @runLT (orcN P 0 has fs winsG) P ov 400 code (TM.of tmG 68 ok68) (stGw has hasOld Has) with
  | some (t, σ) => stB P piG (theta (sy 22) (sy 20) (sy 21) (sy 22) []) 8 (stG has) tmG σ t.toL
  | none => false
def ans2 (P : Program) (fn : Func) (r : Bool) (t : TM) (σ : St) : Bool := (match resultsT P fn σ t with | some (.bool b) => b == r | _ => false) && (okB σ && isAt0 (t.toL.getD 0 undef))
/-- a round in which it is found -/
def phaseHt (P : Program) (fn : Func) (c1 : List Code) (c : Code) (ov : Ov) (has hasOld Has : Bool) (fs : List Fact) : Bool :=
  match @runLT (orcN P 0 has fs winsG) P ov 400 c1 (TM.of tmG 68 ok68) (stGw has hasOld Has) with
  | some (t, σ) => (match @AS.runT (orcN P 0 has fs winsG) P ov 400 none c t σ with
    | some (.ret, t, σ) => ans2 P fn true t σ
    | _ => false)
  | none => false
/-- all ways of a round in which a call is tried -/
def chk2 (P : Program) (fn : Func) (code : List Code) (c1 : List Code) (c : Code) (has hasOld Has : Bool) : Q2 → List Fact → Bool
  | .done h v ok, fs => if ok then phaseH P code (ovG2 h v false) has hasOld Has fs && phaseHt P fn c1 c (ovG2 h v true) has hasOld Has fs else phaseH P code (ovF true) has hasOld Has fs
  | .ask q y n, fs => chk2 P fn code c1 c has hasOld Has y (qf q true :: fs) && chk2 P fn code c1 c has hasOld Has n (qf q false :: fs)
/-- nothing is left -/
def phaseHo (P : Program) (fn : Func) (c1 : List Code) (c : Code) (has : Bool) : Bool :=
  match @runLT (orcN P 0 has [] []) P (ovS2 true) 400 c1 (TM.of [at_ 0, .agg #[sy 3, .bool has, sy 5]] 68 ok68) stG0 with
  | some (t, σ) => (match @AS.runT (orcN P 0 has [] []) P ov0 400 none c t σ with
    | some (.ret, t, σ) => ans2 P fn true t σ
    | _ => false)
  | none => false
def phaseH0 (P : Program) (c1 c2 : List Code) (has : Bool) : Bool :=
  match @runLT (orcN P 1 has [] []) P (ovS2 false) 400 c1 (TM.of [at_ 0, .agg #[sy 3, .bool has, sy 5]] 68 ok68) stG0 with
  | some (t, σ) => (match @runLT (orcN P 1 has [] []) P ov0 400 c2 t σ with
    | some (t, σ) => stB P piG (theta (i64 0) (i64 0) (i64 0) (i64 0) []) 8 (stG has) tmG σ t.toL
    | none => false)
  | none => false
def phaseHd (P : Program) (fn : Func) (c1 c2 : List Code) (c : Code) (has : Bool) : Bool :=
  match @runLT (orcN P 2 has [] []) P (ovS2 false) 400 c1 (TM.of [at_ 0, .agg #[sy 3, .bool has, sy 5]] 68 ok68) stG0 with
  | some (t, σ) => (match @runLT (orcN P 2 has [] []) P ov0 400 c2 t σ with
    | some (t, σ) => (match @AS.runT (orcN P 2 has [] []) P ov0 400 none c t σ with
      | some (.ret, t, σ) => ans2 P fn false t σ
      | _ => false)
    | none => false)
  | none => false
def phaseHe (P : Program) (fn : Func) (c1 c2 : Code) (rest : List Code) (has : Bool) : Bool :=
  match @runLT (orcN P 0 has [⟨.lss, 3, sy 8, sy 9, .bool false⟩] []) P ov0 400 [c1] (TM.of tmG 68 ok68) (stG has) with
  | some (t, σ) => (match @AS.runT (orcN P 0 has [] []) P ov0 400 none c2 t σ with
    | some (.exit i, t, σ) => Nat.beq i 0 && (match @runLT (orcN P 3 has [] []) P ov0 400 rest t σ with
      | some (t, σ) => ans2 P fn false t σ
      | none => false)
    | _ => false)
  | none => false
end Go.Proofs.Ytbhjhffglcipbaa.HW
namespace Go.Proofs.Ytbhjhffglcipbaa
open Go Go.Proofs.Ytbhjhffglcipbaa.AS Go.Proofs.Ytbhjhffglcipbaa.HW
set_option maxRecDepth 100000
theorem h_bit : (bools.all fun has => bools.all fun o => bools.all fun h => phaseH Try.prog goLb ov0 has o h (factsI ++ bitF false)) = true := by kernel_rfl
theorem h_first : (bools.all fun has => bools.all fun o => bools.all fun h => phaseH Try.prog goLb (ovF false) has o h (factsI ++ bitF true)) = true := by kernel_rfl
theorem h_over : (bools.all fun has => phaseHo Try.prog Try.f18 (goL.take 2) (goL.getD 2 .skip) has) = true := by kernel_rfl
theorem h_start : (bools.all fun has => phaseH0 Try.prog (goL.take 3) ((goL.drop 3).take 3) has) = true := by kernel_rfl
theorem h_dead : (bools.all fun has => phaseHd Try.prog Try.f18 (goL.take 3) ((goL.drop 3).take 1) (goL.getD 4 .skip) has) = true := by kernel_rfl
theorem h_end : (bools.all fun has => phaseHe Try.prog Try.f18 (goLb.getD 0 .skip) (goLb.getD 1 .skip) ((goL.drop 7).take 2) has) = true := by kernel_rfl
end Go.Proofs.Ytbhjhffglcipbaa
