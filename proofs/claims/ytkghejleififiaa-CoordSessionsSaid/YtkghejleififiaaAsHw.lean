import Derived.Test.YtkghejleififiaaAsWalk
import Derived.Test.YtkghejleififiaaAsHk
namespace Go.Proofs.Ytkghejleififiaa
open Go Go.Proofs.Ytkghejleififiaa.AS Go.Proofs.Ytkghejleififiaa.CS Go.RowKit
set_option maxRecDepth 100000
set_option linter.unusedVariables false
set_option linter.unusedSimpArgs false
noncomputable def opsOf : Code → Array Oper
  | .region _ ops _ => ops
  | _ => #[]
noncomputable def ops9 : Array Oper := opsOf (innerC.getD 0 .skip)
noncomputable def ops10 : Array Oper := opsOf (innerC.getD 1 .skip)
theorem inner0 : innerC.getD 0 .skip = .region 9 ops9 false := by kernel_rfl
theorem inner1 : innerC.getD 1 .skip = .region 10 ops10 false := by kernel_rfl
/-- an operation of a region -/
def isOp (ops : Array Oper) (i : Nat) (d : Nat) (op : Op) : Prop := ∃ o, ops[i]? = some o ∧ o.guard = none ∧ o.dst = some d ∧ o.op = op
theorem isOp_of {ops : Array Oper} {i d : Nat} {op : Op} (h : ops[i]?.map (fun o => (o.guard, o.dst, o.op)) = some (none, some d, op)) : isOp ops i d op := by
  obtain ⟨o, h1, h2⟩ := Option.map_eq_some_iff.1 h
  simp only [Prod.mk.injEq] at h2
  exact ⟨o, h1, h2.1, h2.2.1, h2.2.2⟩
theorem o9_0 : isOp ops9 0 34 (.move (.tmp 0)) := isOp_of (by kernel_rfl)
theorem o9_1 : isOp ops9 1 35 (.move (.tmp 6)) := isOp_of (by kernel_rfl)
theorem o9_2 : isOp ops9 2 36 (.indexAddr 22 (.tmp 34) (.tmp 35)) := isOp_of (by kernel_rfl)
theorem o9_3 : isOp ops9 3 37 (.load 5 (.tmp 36)) := isOp_of (by kernel_rfl)
theorem o9_4 : isOp ops9 4 38 (.binOp .rem 5 (.tmp 37) (.const (.int .u8 4)) 5) := isOp_of (by kernel_rfl)
theorem o9_5 : isOp ops9 5 39 (.convert 5 3 (.tmp 38)) := isOp_of (by kernel_rfl)
theorem o9_6 : isOp ops9 6 7 (.assign (.tmp 39)) := isOp_of (by kernel_rfl)
theorem o10_0 : isOp ops10 0 40 (.move (.tmp 0)) := isOp_of (by kernel_rfl)
theorem o10_1 : isOp ops10 1 41 (.move (.tmp 6)) := isOp_of (by kernel_rfl)
theorem o10_2 : isOp ops10 2 42 (.indexAddr 22 (.tmp 40) (.tmp 41)) := isOp_of (by kernel_rfl)
theorem o10_3 : isOp ops10 3 43 (.load 5 (.tmp 42)) := isOp_of (by kernel_rfl)
theorem o10_4 : isOp ops10 4 44 (.binOp .quo 5 (.tmp 43) (.const (.int .u8 4)) 5) := isOp_of (by kernel_rfl)
theorem o10_5 : isOp ops10 5 45 (.binOp .rem 5 (.tmp 44) (.const (.int .u8 4)) 5) := isOp_of (by kernel_rfl)
theorem o10_6 : isOp ops10 6 46 (.convert 5 3 (.tmp 45)) := isOp_of (by kernel_rfl)
theorem o10_7 : isOp ops10 7 8 (.assign (.tmp 46)) := isOp_of (by kernel_rfl)
theorem sz9 : ops9.size = 7 := by kernel_rfl
theorem sz10 : ops10.size = 8 := by kernel_rfl
theorem u22 : Try.prog.underlying 22 = some (.slice 5) := by kernel_rfl
theorem u5 : Try.prog.underlying 5 = some (.int .u8) := by kernel_rfl
theorem u3 : Try.prog.underlying 3 = some (.int .i64) := by kernel_rfl
theorem s5 : (Try.prog.info? 5).map (·.size) = some 1 := by kernel_rfl
theorem ag5 : aggT Try.prog 5 = some false := by kernel_rfl

variable {S : Sym} {B : Nat} {W : World} {σ : St} {tm : List Value} {a : Act} {w : World} {Q : Exit → Act → World → Prop}
theorem op_step {ops : Array Oper} {i d : Nat} {op : Op} {K : Act → World → Prop} {v : Value} (ho : isOp ops i d op) (hat : At Try.prog S B W σ tm a w) (hj : tm.getD d undef = .chan none) (hd : d < tm.length)
    (hx : ∀ o : Oper, o.op = op → (execOp a.eval o).run Try.prog w = .ok (.value v) w) (hK : ∀ a', At Try.prog S B W σ tm a' w → Val a' d v → (∀ t u, t ≠ d → Val a t u → Val a' t u) → K a' w) : wpOp Try.prog ops Q i K a w := by
  obtain ⟨o, h1, h2, h3, h4⟩ := ho
  refine wpOp_val h1 h2 h3 (hx o h4) (hK _ (hat.junk hj) (Val.self ?_) fun t u ne h => h.put ne)
  rw [hat.len]; exact hd
theorem eval_tmp {t : Nat} {v : Value} (h : Val a t v) : a.eval (.tmp t) = v := h

theorem reg9 {x : Addr} {n c : Nat} {i z : Int} (hat : At Try.prog S B W σ tm a w) (hj : ∀ d ∈ [34, 35, 36, 37, 38, 39, 7], tm.getD d undef = .chan none) (hl : tm.length = 179)
    (h0 : Val a 0 (.slice (some x) n c)) (h6 : Val a 6 (.int .i64 i)) (hi0 : 0 ≤ i) (hin : i < n) (hc : w.cell? (x.add i.toNat) = some (.int .u8 z)) (hz : 0 ≤ z ∧ z < 256)
    (hQ : ∀ a', At Try.prog S B W σ tm a' w → Val a' 0 (.slice (some x) n c) → Val a' 6 (.int .i64 i) → Val a' 7 (.int .i64 (z % 4)) → Q .normal a' w) : (Code.region 9 ops9 false).wp Try.prog Q a w := by
  refine wp_region ?_
  rw [sz9]
  show wpOps Try.prog ops9 Q [0, 1, 2, 3, 4, 5, 6] a w
  simp only [wpOps_cons]
  refine op_step (v := .slice (some x) n c) o9_0 hat (hj _ (by simp)) (by omega) (fun o e => by simp only [execOp, e, eval_tmp h0, Sem.run_pure]) fun a0 hat q0 k0 => ?_
  refine op_step (v := .int .i64 i) o9_1 hat (hj _ (by simp)) (by omega) (fun o e => by simp only [execOp, e, eval_tmp (k0 6 _ (by omega) h6), Sem.run_pure]) fun a1 hat q1 k1 => ?_
  refine op_step (v := .pointer (some (x.add i.toNat))) o9_2 hat (hj _ (by simp)) (by omega) (fun o e => by
    simp only [execOp, e, eval_tmp (k1 34 _ (by omega) q0), eval_tmp q1, Sem.run_bind, run_indexAt u22 s5 hi0 hin, Result.andThen_ok, Sem.run_pure]) fun a2 hat q2 k2 => ?_
  refine op_step (v := .int .u8 z) o9_3 hat (hj _ (by simp)) (by omega) (fun o e => by
    simp only [execOp, e, eval_tmp q2, Sem.run_bind, run_loadAt ag5 hc, Result.andThen_ok, Sem.run_pure]) fun a3 hat q3 k3 => ?_
  refine op_step (v := .int .u8 (z % 4)) o9_4 hat (hj _ (by simp)) (by omega) (fun o e => by
    have e4 : a3.eval (.const (.int .u8 4)) = .int .u8 4 := rfl
    have e5 : z.tmod 4 = z % 4 := Int.tmod_eq_emod_of_nonneg hz.1
    simp only [execOp, e, eval_tmp q3, e4]
    simp [eqGuard, binOp, Op.intDiv, IntKind.wrap, e5]) fun a4 hat q4 k4 => ?_
  refine op_step (v := .int .i64 (z % 4)) o9_5 hat (hj _ (by simp)) (by omega) (fun o e => by
    simp only [execOp, e, eval_tmp q4]
    simp [convert, underlying, u5, u3, Conv.intToInt, IntKind.wrap, IntKind.bits, IntKind.signed]
    omega) fun a5 hat q5 k5 => ?_
  refine op_step (v := .int .i64 (z % 4)) o9_6 hat (hj _ (by simp)) (by omega) (fun o e => by simp only [execOp, e, eval_tmp q5, Sem.run_pure]) fun a6 hat q6 k6 => ?_
  show Q .normal a6 w
  have keep : ∀ t u, t < 7 → Val a t u → Val a6 t u := fun t u ht h => k6 t u (by omega) (k5 t u (by omega) (k4 t u (by omega) (k3 t u (by omega) (k2 t u (by omega) (k1 t u (by omega) (k0 t u (by omega) h))))))
  exact hQ a6 hat (keep 0 _ (by omega) h0) (keep 6 _ (by omega) h6) q6

theorem reg10 {x : Addr} {n c : Nat} {i z : Int} (hat : At Try.prog S B W σ tm a w) (hj : ∀ d ∈ [40, 41, 42, 43, 44, 45, 46, 8], tm.getD d undef = .chan none) (hl : tm.length = 179)
    (h0 : Val a 0 (.slice (some x) n c)) (h6 : Val a 6 (.int .i64 i)) (hi0 : 0 ≤ i) (hin : i < n) (hc : w.cell? (x.add i.toNat) = some (.int .u8 z)) (hz : 0 ≤ z ∧ z < 256)
    (hQ : ∀ a', At Try.prog S B W σ tm a' w → (∀ t u, t < 8 → Val a t u → Val a' t u) → Val a' 8 (.int .i64 (z / 4 % 4)) → Q .normal a' w) : (Code.region 10 ops10 false).wp Try.prog Q a w := by
  refine wp_region ?_
  rw [sz10]
  show wpOps Try.prog ops10 Q [0, 1, 2, 3, 4, 5, 6, 7] a w
  simp only [wpOps_cons]
  refine op_step (v := .slice (some x) n c) o10_0 hat (hj _ (by simp)) (by omega) (fun o e => by simp only [execOp, e, eval_tmp h0, Sem.run_pure]) fun a0 hat q0 k0 => ?_
  refine op_step (v := .int .i64 i) o10_1 hat (hj _ (by simp)) (by omega) (fun o e => by simp only [execOp, e, eval_tmp (k0 6 _ (by omega) h6), Sem.run_pure]) fun a1 hat q1 k1 => ?_
  refine op_step (v := .pointer (some (x.add i.toNat))) o10_2 hat (hj _ (by simp)) (by omega) (fun o e => by
    simp only [execOp, e, eval_tmp (k1 40 _ (by omega) q0), eval_tmp q1, Sem.run_bind, run_indexAt u22 s5 hi0 hin, Result.andThen_ok, Sem.run_pure]) fun a2 hat q2 k2 => ?_
  refine op_step (v := .int .u8 z) o10_3 hat (hj _ (by simp)) (by omega) (fun o e => by
    simp only [execOp, e, eval_tmp q2, Sem.run_bind, run_loadAt ag5 hc, Result.andThen_ok, Sem.run_pure]) fun a3 hat q3 k3 => ?_
  have e6 : 0 ≤ z / 4 ∧ z / 4 < 64 := by omega
  refine op_step (v := .int .u8 (z / 4)) o10_4 hat (hj _ (by simp)) (by omega) (fun o e => by
    have e4 : a3.eval (.const (.int .u8 4)) = .int .u8 4 := rfl
    have e5 : z.tdiv 4 = z / 4 := Int.tdiv_eq_ediv_of_nonneg hz.1
    simp only [execOp, e, eval_tmp q3, e4]
    simp [eqGuard, binOp, Op.intDiv, IntKind.wrap, IntKind.bits, IntKind.signed, e5]
    omega) fun a4 hat q4 k4 => ?_
  refine op_step (v := .int .u8 (z / 4 % 4)) o10_5 hat (hj _ (by simp)) (by omega) (fun o e => by
    have e4 : a4.eval (.const (.int .u8 4)) = .int .u8 4 := rfl
    have e5 : (z / 4).tmod 4 = z / 4 % 4 := Int.tmod_eq_emod_of_nonneg e6.1
    simp only [execOp, e, eval_tmp q4, e4]
    simp [eqGuard, binOp, Op.intDiv, IntKind.wrap, e5]) fun a5 hat q5 k5 => ?_
  refine op_step (v := .int .i64 (z / 4 % 4)) o10_6 hat (hj _ (by simp)) (by omega) (fun o e => by
    simp only [execOp, e, eval_tmp q5]
    simp [convert, underlying, u5, u3, Conv.intToInt, IntKind.wrap, IntKind.bits, IntKind.signed]
    omega) fun a6 hat q6 k6 => ?_
  refine op_step (v := .int .i64 (z / 4 % 4)) o10_7 hat (hj _ (by simp)) (by omega) (fun o e => by simp only [execOp, e, eval_tmp q6, Sem.run_pure]) fun a7 hat q7 k7 => ?_
  show Q .normal a7 w
  exact hQ a7 hat (fun t u ht h => k7 t u (by omega) (k6 t u (by omega) (k5 t u (by omega) (k4 t u (by omega) (k3 t u (by omega) (k2 t u (by omega) (k1 t u (by omega) (k0 t u (by omega) h)))))))) q7
end Go.Proofs.Ytkghejleififiaa
