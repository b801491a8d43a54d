import Derived.Test.YtkghejleififiaaAsLen
import Derived.Test.YtkghejleififiaaAsFast
namespace Go.Proofs.Ytkghejleififiaa.CS
open Go Go.Proofs.Ytkghejleififiaa.AS
/-! ## CoordSessions: the canonical states of its loop -/
def i64 (n : Int) : Value := .int .i64 n
def sy (n : Nat) : Value := .chan (some n)
def jk : Value := .chan none
def at_ (b : Nat) : Value := .pointer (some ⟨b, 0, none⟩)
def msgRow (x : Value × Value × Value) : List Value := [i64 0, x.1, i64 0, i64 0, i64 0, i64 0, i64 0, i64 0, x.2.2, x.2.1, i64 0, i64 0, .bool false, .bool false, .string ⟨#[]⟩, .string ⟨#[]⟩, .complex .f64 0 0, .complex .f64 0 0, i64 0, .string ⟨#[]⟩, .string ⟨#[]⟩, .string ⟨#[]⟩, .bool false, .slice none 0 0, .slice none 0 0, .slice none 0 0, .complex .f64 0 0, .complex .f64 0 0, i64 0, .slice none 0 0, .slice none 0 0]
def confCells : List Value := [3, 1, 1, 0, 0, 0, 0, 0, 0, 0, 0, 3, 2, 0, 0].map i64
abbrev Row := Value × Value × Value
def rowsS (k : Nat) : List Row := (List.range k).map fun j => (sy (30 + 3 * j), sy (31 + 3 * j), sy (32 + 3 * j))
def bureau (k : Nat) : List Value := [sy 0, i64 0, .slice (some ⟨2, 0, none⟩) 1 1, .slice none 0 0, .slice (some ⟨3, 0, none⟩) 1 1, (match k with | 0 => .slice none 0 0 | _ => .slice (some ⟨4, 0, none⟩) k k), .slice none 0 0]
def cellsOf (u k : Nat) (b : List Value) (d : List (List Value × Nat)) : List (List Value × Nat) := [
  (confCells, 0),
  (b, 0),
  ([i64 0, i64 0, i64 0, .bool false, i64 0, i64 0, .slice none 0 0, .slice none 0 0], 8),
  ([.bool false, .slice none 0 0, .slice none 0 0, .bool false], u),
  ((rowsS k).flatMap msgRow, 31),
  ((List.range 16).map fun j => sy (10 + j), 0)] ++ d
def memOf (l : List (List Value × Nat)) : Tr := l.zipIdx.foldl (fun m x => m.set (some (.blk x.1.1 x.1.2 false)) depth x.2) .leaf
/-- at the loop's head, k rows in Opens; u: how Work was made -/
def stC (u k : Nat) : St := { next := 6, mark := 0, log := [], mem := memOf (cellsOf u k (bureau k) []) }
/-- behind the two calls of Handle -/
def stD (k : Nat) : St := { next := 7, mark := 0, log := [], mem := memOf (cellsOf 4 k (List.replicate 7 jk) [(bureau k, 0)]) }
def slots (l : List (Nat × Value)) : List Value := l.foldl (fun tm x => tm.set x.1 x.2) (List.replicate 179 jk)
def base : List (Nat × Value) := [(0, sy 1), (2, .bool false), (3, at_ 0), (4, at_ 1), (5, at_ 5), (6, sy 2)]
def tmC : List Value := slots base
def tmR : List Value := slots (base ++ [(7, sy 4), (8, sy 5)])
def tmD : List Value := slots (base ++ [(7, sy 4), (8, sy 5), (9, at_ 6), (11, sy 7)])
def tmE (who num : Nat) : List Value := (tmD.set 7 (i64 who)).set 8 (i64 num)

/-- k rows; the row whose From it is, if any; is its Num the same? is there room? -/
structure Case where
  k : Nat
  j : Option Nat
  eq : Bool
  lt : Bool
def Case.isNew (c : Case) : Bool := c.lt && !(c.j.isSome && c.eq)
def Case.rows (c : Case) : List Row :=
  if c.isNew then (match c.j with | none => rowsS c.k | some j => (rowsS c.k).eraseIdx j) ++ [(sy 3, sy 5, sy 6)] else rowsS c.k
def Case.s (c : Case) : Value := match c.isNew, c.j, c.eq with
  | true, _, _ => sy 6
  | false, some j, true => sy (32 + 3 * j)
  | _, _, _ => i64 0
def gotS : List Value := (List.range 16).map fun j => sy (10 + j)
def Case.θ (c : Case) : List Value :=
  [if c.isNew then sy 6 else sy 0, sy 1, sy 2, sy 3, sy 4, sy 5, sy 6, c.s, sy 8, sy 9] ++ gotS ++ [i64 0, i64 0, i64 0, i64 0] ++ c.rows.flatMap fun (x : Row) => [x.1, x.2.1, x.2.2]
def Case.facts (c : Case) : List Fact :=
  [⟨.add, 3, i64 100, sy 4, sy 3⟩, ⟨.neq, 3, sy 3, sy 3, .bool false⟩, ⟨.eql, 3, sy 3, sy 3, .bool true⟩, ⟨.neq, 3, sy 5, sy 5, .bool false⟩, ⟨.eql, 3, sy 5, sy 5, .bool true⟩,
   ⟨.neq, 3, sy 0, sy 0, .bool false⟩, ⟨.lss, 3, sy 0, i64 3, .bool c.lt⟩] ++
  (if c.lt then [⟨.add, 3, sy 0, i64 1, sy 6⟩, ⟨.neq, 3, sy 6, sy 6, .bool false⟩, ⟨.lss, 3, sy 6, i64 0, .bool false⟩, ⟨.gtr, 3, sy 6, i64 3, .bool false⟩, ⟨.gtr, 3, sy 6, i64 0, .bool true⟩] else []) ++
  (List.range c.k).map (fun j => ⟨.eql, 3, sy (30 + 3 * j), sy 3, .bool (decide (c.j = some j))⟩) ++
  (match c.j with
   | none => []
   | some j => [⟨.eql, 3, sy (31 + 3 * j), sy 5, .bool c.eq⟩, ⟨.neq, 3, sy (32 + 3 * j), sy (32 + 3 * j), .bool false⟩, ⟨.lss, 3, sy (32 + 3 * j), i64 0, .bool false⟩, ⟨.gtr, 3, sy (32 + 3 * j), i64 3, .bool false⟩, ⟨.gtr, 3, sy (32 + 3 * j), i64 0, .bool true⟩])

def blkOf : Value → Option Nat
  | .pointer (some a) => some a.block
  | .slice (some a) _ _ => some a.block
  | _ => none
def cellAt (σ : St) (b i : Nat) : Value := match σ.get b with | some (.blk cs _ _) => cs.getD i undef | _ => undef
/-- where the canonical state's blocks lie: the bureau is that of the slot t -/
def piFrom (σ : St) (tm : TM) (t : Nat) : List (Option Nat) :=
  let g (t : Nat) := blkOf (tm.at t)
  match g t with
  | none => []
  | some b => [g 3, g 4, blkOf (cellAt σ b 2), blkOf (cellAt σ b 4), blkOf (cellAt σ b 5), g 5] ++ (if t = 4 then [] else [g t])
theorem ok179 : 179 ≤ most := by unfold most; omega
def ov0 : FuncId → Option (List Value → St → R (Value × St)) := fun _ => none

/-- both calls of Handle, and the checks behind them -/
def phase1 (P : Program) (code : List Code) (u : Nat) (c : Case) : Bool :=
  match @runLT (orcOf c.facts) P ov0 3000 code (TM.of tmR 179 ok179) (stC u c.k) with
  | some (tm, σ) => stB P (piFrom σ tm 9) c.θ 8 (stD c.rows.length) tmD σ tm.toL
  | none => false

/-- how the search goes -/
inductive Mode where
  | zero | free | same
def facts2 (who num : Nat) (m : Mode) : List Fact :=
  ⟨.add, 3, sy 2, i64 1, sy 8⟩ ::
  match m with
  | .zero => [⟨.gtr, 3, sy 7, i64 0, .bool false⟩]
  | .free => ⟨.gtr, 3, sy 7, i64 0, .bool true⟩ :: (List.range 16).map fun j => ⟨.eql, 3, sy (10 + j), sy 7, .bool false⟩
  | .same => ⟨.gtr, 3, sy 7, i64 0, .bool true⟩ :: (List.range 16).map fun j => ⟨.eql, 3, sy (10 + j), sy 7, .bool (decide (j = 4 * who + num))⟩
def theta2 (k who num : Nat) : List Value :=
  [sy 0, sy 1, sy 8, sy 3, sy 4, sy 5, sy 6, sy 7, sy 8, sy 9] ++ gotS.set (4 * who + num) (sy 7) ++ [i64 0, i64 0, i64 0, i64 0] ++ (rowsS k).flatMap fun (x : Row) => [x.1, x.2.1, x.2.2]
def phase2 (P : Program) (code : List Code) (k who num : Nat) (m : Mode) : Bool :=
  match @runLT (orcOf (facts2 who num m)) P ov0 3000 code (TM.of (tmE who num) 179 ok179) (stD k) with
  | some (tm, σ) => stB P (piFrom σ tm 4) (theta2 k who num) 8 (stC 4 k) tmC σ tm.toL
  | none => false

/-- as it was -/
def thetaI (k : Nat) : List Value :=
  [sy 0, sy 1, sy 2, i64 0, i64 0, i64 0, i64 0, i64 0, i64 0, sy 9] ++ gotS ++ [i64 0, i64 0, i64 0, i64 0] ++ (rowsS k).flatMap fun (x : Row) => [x.1, x.2.1, x.2.2]
def theta0 : List Value := [i64 0, sy 1, i64 0, i64 0, i64 0, i64 0, i64 0, i64 0, i64 0, sy 9] ++ List.replicate 20 (i64 0)
def lens : List (Nat × Value) := [(1, sy 9)]
def factsS (b : Bool) : List Fact := [⟨.gtr, 3, sy 9, i64 60, .bool b⟩]
def factsH (b : Bool) : List Fact := [⟨.lss, 3, sy 2, sy 9, .bool b⟩]
def factsE : List Fact := [⟨.leq, 3, sy 0, i64 3, .bool true⟩]
/-- up to the loop -/
def phaseS (P : Program) (code : List Code) : Bool :=
  match @runLT (orcL P lens (factsS false)) P ov0 3000 code (TM.of [sy 1] 179 ok179) (AS.start P) with
  | some (tm, σ) => stB P (piFrom σ tm 4) theta0 8 (stC 0 0) tmC σ tm.toL
  | none => false
def yesB : Option Value → Bool
  | some (.bool true) => true
  | _ => false
/-- l is too long: up to the answer -/
def phaseL (P : Program) (fn : Func) (code : List Code) (c : Code) : Bool :=
  match @runLT (orcL P lens (factsS true)) P ov0 3000 code (TM.of [sy 1] 179 ok179) (AS.start P) with
  | some (tm, σ) =>
    (match @AS.runT (orcL P lens (factsS true)) P ov0 3000 none c tm σ with
    | some (.ret, tm, σ) => yesB (resultsT P fn σ tm)
    | _ => false)
  | none => false
/-- the loop's head: is i below the length? -/
def phaseH (P : Program) (c : Code) (u k : Nat) (b : Bool) : Bool :=
  match @AS.runT (orcL P lens (factsH b)) P ov0 3000 none c (TM.of tmC 179 ok179) (stC u k) with
  | some (.normal, tm, σ) => b && stB P (piFrom σ tm 4) (thetaI k) 8 (stC u k) tmC σ tm.toL
  | some (.exit i, tm, σ) => !b && Nat.beq i 0 && stB P (piFrom σ tm 4) (thetaI k) 8 (stC u k) tmC σ tm.toL
  | _ => false
/-- behind the loop -/
def phaseE (P : Program) (fn : Func) (code : List Code) (u k : Nat) : Bool :=
  match @runLT (orcOf factsE) P ov0 3000 code (TM.of tmC 179 ok179) (stC u k) with
  | some (tm, σ) => yesB (resultsT P fn σ tm)
  | none => false
def jsOf (k : Nat) : List (Option Nat) := none :: (List.range k).map some
def all1 (P : Program) (code : List Code) (u k : Nat) : Bool :=
  (jsOf k).all fun j => [true, false].all fun eq => [true, false].all fun lt => (!(j.isSome || eq)) || (!(Nat.blt k 3 || !lt)) || phase1 P code u ⟨k, j, eq, lt⟩
/-- the second half: the pieces of the block, then those behind it -/
def all2 (P : Program) (code : List Code) (k who : Nat) : Bool :=
  (List.range 4).all fun num => phase2 P code k who num .zero && phase2 P code k who num .free && phase2 P code k who num .same
end Go.Proofs.Ytkghejleififiaa.CS
