import Derived.Test.YtkghejleififiaaAsOrc
namespace Go.Proofs.Ytkghejleififiaa.AS
open Go
set_option linter.unusedSectionVars false
set_option linter.unusedVariables false
set_option linter.unusedSimpArgs false

/-- what two whole numbers come to -/
def intR (b : BinOp) (k : IntKind) (x y : Int) : Option Value :=
  match b with
  | .eql => some (.bool (decide (x = y)))
  | .neq => some (.bool (!decide (x = y)))
  | .lss => some (.bool (decide (x < y)))
  | .leq => some (.bool (decide (x ≤ y)))
  | .gtr => some (.bool (decide (x > y)))
  | .geq => some (.bool (decide (x ≥ y)))
  | .add => some (.int k (k.wrap (x + y)))
  | .sub => some (.int k (k.wrap (x - y)))
  | _ => none

theorem run_int {P : Program} {w : World} {b : BinOp} {t : TypeId} {k : IntKind} {x y : Int} {r : Value} (h : intR b k x y = some r) : (binOp b t (.int k x) (.int k y)).run P w = .ok r w := by
  cases b <;> simp only [intR, Option.some.injEq] at h <;> first
    | (cases h; done)
    | (subst h; simp [binOp, Op.intCmp, Op.intArith]; done)
    | (subst h; simp [binOp, Op.intCmp, Op.intArith]; by_cases e : x = y <;> simp [e])

/-- a fact about whole numbers -/
theorem FactOK.int {P : Program} {S : Sym} {f : Fact} {k : IntKind} {x y : Int} (hx : conc S f.x = .int k x) (hy : conc S f.y = .int k y) (hr : intR f.b k x y = some (conc S f.r)) (hl : AS.leaf f.r = true ∨ isSym f.r = true) : FactOK P S f :=
  ⟨fun w => by rw [hx, hy]; exact run_int hr, ⟨by rw [hx]; rfl, by rw [hx]; simp⟩, hl⟩
end Go.Proofs.Ytkghejleififiaa.AS
