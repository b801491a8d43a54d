import Derived.Test.YtkghejleififiaaAsFast
import Derived.Laws.Slices
namespace Go.Proofs.Ytkghejleififiaa.AS
open Go
set_option linter.unusedSectionVars false
set_option linter.unusedVariables false
set_option linter.unusedSimpArgs false

theorem tmps_getD (a : Act) (t : Nat) : a.tmps.getD t undef = a.tmps.toList.getD t undef := by
  simp [Array.getD_eq_getD_getElem?, List.getD_eq_getElem?_getD]

/-! ## an operation by hand, where the little machine can't see: what it comes to is told -/
def Val (a : Act) (t : Nat) (v : Value) : Prop := a.tmps.getD t undef = v
theorem Val.put {a : Act} {t d : Nat} {u v : Value} (h : Val a t v) (ne : t ≠ d) : Val (a.put (some d) u) t v := by
  unfold Val at *
  simp only [Act.put]
  rw [← h]
  simp [Array.getD_eq_getD_getElem?, Array.getElem?_setIfInBounds, Ne.symm ne]
theorem Val.self {a : Act} {d : Nat} {u : Value} (h : d < a.tmps.size) : Val (a.put (some d) u) d u := by
  unfold Val
  simp [Act.put, Array.getD_eq_getD_getElem?, Array.getElem?_setIfInBounds, h]
theorem size_put {a : Act} {d : Option Nat} {u : Value} : (a.put d u).tmps.size = a.tmps.size := by
  cases d <;> simp [Act.put]

theorem wpOp_val {P : Program} {ops : Array Oper} {Q : Exit → Act → World → Prop} {i d : Nat} {o : Oper} {a : Act} {w : World} {v : Value} {K : Act → World → Prop} (ho : ops[i]? = some o) (hg : o.guard = none) (hd : o.dst = some d)
    (hx : (execOp a.eval o).run P w = .ok (.value v) w) (hK : K (a.put (some d) v) w) : wpOp P ops Q i K a w := by
  simp only [wpOp, ho]
  have : Region.wanted o (yielded ops a.tmps) = true := by simp [Region.wanted, hg]
  rw [if_pos this]
  left
  unfold Oper.wp
  rw [hx, Oper.upon_value, hd]
  exact hK

theorem At.junk {P : Program} {S : Sym} {B : Nat} {W : World} {σ : St} {tm : List Value} {a : Act} {w : World} (hat : At P S B W σ tm a w) {d : Nat} {u : Value} (hj : tm.getD d undef = .chan none) : At P S B W σ tm (a.put (some d) u) w := by
  obtain ⟨ρ, h⟩ := hat
  refine ⟨ρ, h.gr, h.hr, ?_, h.df, h.bel, h.size, h.fresh⟩
  have h2 := @VL.put S mute ρ tm a h.vl (some d) (.chan none) u (@VR.junk S ρ u)
  have e : putV tm (some d) (.chan none) = tm := by
    simp only [putV]
    apply List.ext_getElem?
    intro j
    rw [List.getElem?_set]
    split
    · rename_i hj'; subst hj'
      split
      · rename_i h3
        rw [List.getD_eq_getElem?_getD, List.getElem?_eq_getElem h3] at hj
        rw [List.getElem?_eq_getElem h3]; exact congrArg some hj.symm
      · rename_i h3; rw [List.getElem?_eq_none (by omega)]
    · rfl
  rwa [e] at h2

theorem At.len {P : Program} {S : Sym} {B : Nat} {W : World} {σ : St} {tm : List Value} {a : Act} {w : World} (hat : At P S B W σ tm a w) : a.tmps.size = tm.length := by
  obtain ⟨ρ, h⟩ := hat
  have := @VL.length S ρ _ _ h.vl
  simpa using this.symm
theorem At.val {P : Program} {S : Sym} {B : Nat} {W : World} {σ : St} {tm : List Value} {a : Act} {w : World} (hat : At P S B W σ tm a w) {t i : Nat} (ht : tm.getD t undef = .chan (some i)) : Val a t (S.val i) := by
  obtain ⟨ρ, h⟩ := hat
  have := @VL.getD S ρ _ _ h.vl t
  rw [ht] at this
  unfold Val
  rw [tmps_getD]
  generalize a.tmps.toList.getD t undef = u at this
  cases this with
  | leaf h => simp [leaf] at h
  | sym h => exact h.symm
/-- a slot of which nothing was known is told a symbol -/
theorem At.tell {P : Program} {S : Sym} {B : Nat} {W : World} {σ : St} {tm : List Value} {a : Act} {w : World} (hat : At P S B W σ tm a w) {t i : Nat} (ht : Val a t (S.val i)) : At P S B W σ (tm.set t (.chan (some i))) a w := by
  refine hat.slot t _ fun ρ _ => ?_
  unfold Val at ht
  rw [tmps_getD] at ht
  rw [ht]
  exact @VR.sym S ρ i _ rfl

/-- a row's element's place, and what stands there -/
theorem run_indexAt {P : Program} {w : World} {t e : TypeId} {x : Addr} {n c : Nat} {i : Int} {k : IntKind} (hu : P.underlying t = some (.slice e)) (hs : (P.info? e).map (·.size) = some 1) (h0 : 0 ≤ i) (hn : i < n) :
    (Instr.indexAt t (.slice (some x) n c) (.int k i)).run P w = .ok (.pointer (some (x.add i.toNat))) w := by
  obtain ⟨inf, h1, h2⟩ := Option.map_eq_some_iff.1 hs
  have hund : (underlying t).run P w = .ok (.slice e) w := by simp [underlying, hu]
  simp [Instr.indexAt, asIntOf, hund, h0, hn, sizeOf, typeInfo, h1, h2]

theorem run_loadAt {P : Program} {w : World} {t : TypeId} {x : Addr} {v : Value} (hag : aggT P t = some false) (hc : w.cell? x = some v) : (Instr.loadAt t (.pointer (some x))).run P w = .ok v w := by
  have hl : (load x).run P w = .ok v w := by simp [hc]
  simp [Instr.loadAt, Instr.sureAddr, loadVar, @run_agg plainSym P w t false hag, hl, hc]
end Go.Proofs.Ytkghejleififiaa.AS
