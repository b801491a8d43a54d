/- The law lockgatelaw26.HistMade holds of every input: calls that were done one by one, each within its own steps, are in order, and so they are without answers of some; no condition beyond the row's own. -/
import Derived.Test.YtbhjhffglcipbaaRows
import Derived.Test.YtbhjhffglcipbaaAsZ4
import Derived.WalkKit
import Derived.ProofKit
import Derived.OpenShut
import Derived.ShutString
import Derived.ChangeOld
import Derived.Below
import Derived.SizedLaws
namespace Go.Proofs.Ytbhjhffglcipbaa.histMade
open Go.ChangeShapes Go.WideShapes Go.ChangeAt Go.RowKit Go.Proofs.Ytbhjhffglcipbaa.HW
set_option linter.unusedVariables false
theorem own : ownKnob Try.prog.godebug = none := by kernel_rfl
theorem laidOut : laidOutB Try.prog = true := by kernel_rfl
theorem und27 : Try.prog.underlying 27 = some (.slice 31) := by kernel_rfl
theorem und28 : Try.prog.underlying 28 = some (.slice 5) := by kernel_rfl
theorem und31 : Try.prog.underlying 31 = some (.struct #[⟨ "Kind", 3, 0, false, "", "", 0⟩, ⟨ "Key", 9, 1, false, "", "", 8⟩, ⟨ "Val", 9, 2, false, "", "", 24⟩, ⟨ "Old", 9, 3, false, "", "", 40⟩, ⟨ "HasOld", 4, 4, false, "", "", 56⟩]) := by kernel_rfl
theorem cell31 : Try.prog.cellsOf 31 = 5 := by kernel_rfl
theorem cell3 : Try.prog.cellsOf 3 = 1 := by kernel_rfl
theorem und29 : Try.prog.underlying 29 = some (.int .u16) := by kernel_rfl
theorem par6 : Try.f6.params = #[27, 28, 29] := by kernel_rfl
section
variable {H : Type} {enc : TypeId × Value → H} {W : World} {sp : Nat → Bool} {held : Bool}
/-- an Op that is read: its five cells -/
theorem op_cells {n : Nat} {cs : List Value} {y : DataW H × List MemPlace} (h : DataW.trod enc Try.prog W 0 sp held n 31 cs = some y) : ∃ o : OpR, cs = o.cells ∧ o.val.size ≤ maxLen := by
  obtain ⟨xs, m, rfl, rfl, hlen, hxs, hf⟩ := DataW.trod_struct und31 h
  rw [cell31] at hlen
  match cs, hlen with
  | [v0, v1, v2, v3, v4], _ =>
    have hx : xs.length = 5 := hxs
    have f0 : DataW.trod enc Try.prog W 0 sp held m 3 (([v0, v1, v2, v3, v4].drop 0).take (Try.prog.cellsOf 3)) = xs[0]? := hf 0 _ rfl
    have f1 : DataW.trod enc Try.prog W 0 sp held m 9 (([v0, v1, v2, v3, v4].drop 1).take (Try.prog.cellsOf 9)) = xs[1]? := hf 1 _ rfl
    have f2 : DataW.trod enc Try.prog W 0 sp held m 9 (([v0, v1, v2, v3, v4].drop 2).take (Try.prog.cellsOf 9)) = xs[2]? := hf 2 _ rfl
    have f3 : DataW.trod enc Try.prog W 0 sp held m 9 (([v0, v1, v2, v3, v4].drop 3).take (Try.prog.cellsOf 9)) = xs[3]? := hf 3 _ rfl
    have f4 : DataW.trod enc Try.prog W 0 sp held m 4 (([v0, v1, v2, v3, v4].drop 4).take (Try.prog.cellsOf 4)) = xs[4]? := hf 4 _ rfl
    rw [cell3] at f0
    rw [c9] at f1 f2 f3
    rw [c4] at f4
    rw [List.getElem?_eq_getElem (by omega)] at f0 f1 f2 f3 f4
    obtain ⟨z0, e0, _, _⟩ := DataW.trod_int u3 f0
    obtain ⟨z1, e1, _, _⟩ := DataW.trod_string u9 f1
    obtain ⟨z2, e2, _, s2⟩ := DataW.trod_string u9 f2
    obtain ⟨z3, e3, _, _⟩ := DataW.trod_string u9 f3
    obtain ⟨z4, e4, _⟩ := DataW.trod_bool u4 f4
    have g0 : v0 = _ := (List.cons.inj e0).1
    have g1 : v1 = _ := (List.cons.inj e1).1
    have g2 : v2 = _ := (List.cons.inj e2).1
    have g3 : v3 = _ := (List.cons.inj e3).1
    have g4 : v4 = _ := (List.cons.inj e4).1
    rw [g0, g1, g2, g3, g4]
    exact ⟨⟨z0, z1, z2, z3, z4⟩, rfl, s2⟩
/-- rows of z cells that are read one by one -/
theorem rows_of {a : Option Addr} {len z : Nat} (hz : 0 < z) {row : Nat → List Value} (hl : ∀ i, i < len → (row i).length = z) (h : len = 0 ∨ ∃ x, a = some x ∧ x.spot = none ∧ ∀ i, i < len → W.cells? 0 (x.add (i * z)) z = some (row i)) : RowsZ W a len z row := by
  rcases h with h | ⟨x, rfl, hs, h⟩
  · exact .inl h
  rcases Nat.eq_zero_or_pos len with h0 | h0
  · exact .inl h0
  have hadd : ∀ k, x.add k = ⟨x.block, x.off + k, none⟩ := by
    intro k
    unfold Addr.add
    split
    · rename_i e; subst e; cases x; simp_all
    · rfl
  have hcell : ∀ i, i < len → ∀ j, j < z → W.cell? ⟨x.block, x.off + i * z + j, none⟩ = (row i)[j]? := by
    intro i hi j hj
    have h1 := (World.cells?_some (h i hi)).2.2 j hj
    rw [hadd] at h1
    have e : (⟨x.block, x.off + i * z, none⟩ : Addr).add j = ⟨x.block, x.off + i * z + j, none⟩ := by
      unfold Addr.add
      split
      · rename_i e; subst e; rfl
      · rfl
    rw [e] at h1
    exact h1
  have hsome : ∀ i, i < len → ∀ j, j < z → ∃ v, (row i)[j]? = some v := fun i hi j hj => ⟨_, List.getElem?_eq_getElem (by rw [hl i hi]; exact hj)⟩
  obtain ⟨C, t, fr, hC⟩ : ∃ C t fr, W.heap[x.block]? = some (.cells C t fr) := by
    obtain ⟨v, hv⟩ := hsome 0 h0 0 hz
    have h1 := hcell 0 h0 0 hz
    rw [hv] at h1
    unfold World.cell? at h1
    split at h1
    · rename_i C t fr hC; exact ⟨C, t, fr, hC⟩
    · cases h1
  have hC2 : ∀ i, i < len → ∀ j, j < z → C[x.off + i * z + j]? = (row i)[j]? := by
    intro i hi j hj
    have h1 := hcell i hi j hj
    unfold World.cell? at h1
    rw [hC] at h1
    exact h1
  refine .inr ⟨x, rfl, hs, C, t, fr, hC, ?_, fun i hi j v hv => ?_⟩
  · obtain ⟨v, hv⟩ := hsome (len - 1) (by omega) (z - 1) (by omega)
    have h1 := (hC2 (len - 1) (by omega) (z - 1) (by omega)).trans hv
    have h2 := (Array.getElem?_eq_some_iff.1 h1).1
    have e : len * z = (len - 1) * z + z := by
      obtain ⟨k, rfl⟩ : ∃ k, len = k + 1 := ⟨len - 1, by omega⟩
      rw [Nat.add_sub_cancel, Nat.succ_mul]
    omega
  · have hj : j < z := by rw [← hl i hi]; exact (List.getElem?_eq_some_iff.1 hv).1
    rw [hC2 i hi j hj, hv]
theorem spot_of {t e : TypeId} {x : Addr} {len cap : Nat} (ht : Try.prog.underlying t = some (.slice e)) (h : Value.okWide Try.prog W .any 0 t (.slice (some x) len cap)) : x.spot = none := by
  simp only [Value.okWide, ht, Cell.okWide, Cell.ok] at h
  exact h.2.2.2.1
/-- a slice of Ops that is read -/
theorem ops_of {a : Option Addr} {len cap : Nat} {d : DataW H} {p : List MemPlace} (hv : Value.okWide Try.prog W .any 0 27 (.slice a len cap)) (h : DataW.Trod enc Try.prog W 0 sp held 27 (.slice a len cap) d p) :
    ∃ ops : Nat → OpR, RowsZ W a len 5 (fun k => (ops k).cells) ∧ ∀ i, i < len → (ops i).val.size ≤ maxLen := by
  obtain ⟨fuel, hf⟩ := h
  rcases DataW.trod_slice und27 hf with ⟨hcs, _⟩ | ⟨x, len', cap', elems, rest, n, _, hcs, _, _, _, _, hlen, hel, _⟩
  · simp [Value.cells] at hcs
    obtain ⟨rfl, rfl, rfl⟩ := hcs
    exact ⟨fun _ => ⟨0, ⟨#[]⟩, ⟨#[]⟩, ⟨#[]⟩, false⟩, .inl rfl, fun i hi => by omega⟩
  · simp [Value.cells] at hcs
    obtain ⟨rfl, rfl, rfl⟩ := hcs
    have hs := spot_of und27 hv
    rw [cell31] at hel
    have each : ∀ i, i < len → ∃ o : OpR, W.cells? 0 (x.add (i * 5)) 5 = some o.cells ∧ o.val.size ≤ maxLen := by
      intro i hi
      have h1 := hel i hi
      rw [List.getElem?_eq_getElem (by omega), Option.bind_eq_some_iff] at h1
      obtain ⟨cs, h2, h3⟩ := h1
      obtain ⟨o, rfl, ho⟩ := op_cells h3
      exact ⟨o, h2, ho⟩
    refine ⟨fun i => if h : i < len then (each i h).choose else ⟨0, ⟨#[]⟩, ⟨#[]⟩, ⟨#[]⟩, false⟩, rows_of (by omega) (fun i hi => rfl) (.inr ⟨x, rfl, hs, fun i hi => ?_⟩), fun i hi => ?_⟩
    · simp only [dif_pos hi]; exact (each i hi).choose_spec.1
    · simp only [dif_pos hi]; exact (each i hi).choose_spec.2
/-- a slice of bytes that is read -/
theorem bytes_of {a : Option Addr} {len cap : Nat} {d : DataW H} {p : List MemPlace} (hv : Value.okWide Try.prog W .any 0 28 (.slice a len cap)) (h : DataW.Trod enc Try.prog W 0 sp held 28 (.slice a len cap) d p) :
    ∃ sb : Nat → Int, RowsZ W a len 1 (fun k => [u8V (sb k)]) ∧ ∀ i, i < len → 0 ≤ sb i ∧ sb i < 256 := by
  obtain ⟨fuel, hf⟩ := h
  rcases DataW.trod_slice und28 hf with ⟨hcs, _⟩ | ⟨x, len', cap', elems, rest, n, _, hcs, _, _, _, _, hlen, hel, _⟩
  · simp [Value.cells] at hcs
    obtain ⟨rfl, rfl, rfl⟩ := hcs
    exact ⟨fun _ => 0, .inl rfl, fun i hi => by omega⟩
  · simp [Value.cells] at hcs
    obtain ⟨rfl, rfl, rfl⟩ := hcs
    have hs := spot_of und28 hv
    have c5 : Try.prog.cellsOf 5 = 1 := by kernel_rfl
    rw [c5] at hel
    have each : ∀ i, i < len → ∃ z : Int, W.cells? 0 (x.add (i * 1)) 1 = some [u8V z] ∧ 0 ≤ z ∧ z < 256 := by
      intro i hi
      have h1 := hel i hi
      rw [List.getElem?_eq_getElem (by omega), Option.bind_eq_some_iff] at h1
      obtain ⟨cs, h2, h3⟩ := h1
      obtain ⟨z, rfl, _, hw⟩ := DataW.trod_int u5 h3
      refine ⟨z, h2, ?_⟩
      simp [Lit.wf, IntKind.min, IntKind.max, IntKind.bits, IntKind.signed] at hw
      omega
    refine ⟨fun i => if h : i < len then (each i h).choose else 0, rows_of (by omega) (fun i hi => rfl) (.inr ⟨x, rfl, hs, fun i hi => ?_⟩), fun i hi => ?_⟩
    · simp only [dif_pos hi]; exact (each i hi).choose_spec.1
    · simp only [dif_pos hi]; exact (each i hi).choose_spec.2
end
set_option maxRecDepth 100000 in
theorem lifted (os : Os) (started : os.Started) (H : Type) (enc : TypeId × Value → H) :
    ReturnsInHanded {} Try.checked os 6 .any (Rows.histMadeSpec.pre6 enc Try.prog Try.f6 Rows.histMadeRow.domain false) (Rows.histMadeSpec.post enc Try.prog Try.f6 false true false false) := by
  refine returnsInHanded_of_change_sized (C := Try.checked) own started (by kernel_rfl) Try.func6
    (ChangeSpec.witness6 (enc := enc) (C := Try.checked) false ⟨#[], #[.slice none 0 0, .slice none 0 0, .int .u16 0], []⟩ 8 (by kernel_rfl) (by kernel_rfl) (by kernel_rfl) (by kernel_rfl)) ?_
  intro W base args ds gs before hval0 hW hcnd hsz0 _
  have hval : ∀ (j : Nat) t v, Try.f6.params[j]? = some t → args[j]? = some v → Value.okWide Try.prog W .any base t v := hval0
  have hW' := hW
  obtain ⟨p, q, hA0, hV, rfl, hfz, hnd⟩ := hW
  have hA : DataW.TrodAll enc Try.prog W 0 (fun _ => true) true Try.f6.params.toList args.toList ds p := hA0
  rw [par6] at hA hval
  obtain ⟨v0, vs0, d0, ds0, p0, q0, hargs, rfl, rfl, h0, r0⟩ := trodAll_cons hA
  obtain ⟨v1, vs1, d1, ds1, p1, q1, rfl, rfl, rfl, h1, r1⟩ := trodAll_cons r0
  obtain ⟨v2, vs2, d2, ds2, p2, q2, rfl, rfl, rfl, h2, r2⟩ := trodAll_cons r1
  obtain ⟨rfl, rfl, rfl⟩ := trodAll_nil r2
  obtain rfl : args = #[v0, v1, v2] := by cases args; simp_all
  obtain ⟨rfl, rfl⟩ := trodVars_none hV
  have hv0 : Value.okWide Try.prog W .any 0 27 v0 := hval 0 27 v0 rfl rfl
  have hv1 : Value.okWide Try.prog W .any 0 28 v1 := hval 1 28 v1 rfl rfl
  obtain ⟨a0, len0, cap0, rfl⟩ := okWide_slice und27 hv0
  obtain ⟨a1, len1, cap1, rfl⟩ := okWide_slice und28 hv1
  have k0 := h0
  have k1 := h1
  have lt0 : ∀ x ∈ p0, x.block < W.heap.size := by obtain ⟨m, hm⟩ := k0; exact DataW.trod_lt m _ _ _ hm
  have lt1 : ∀ x ∈ p1, x.block < W.heap.size := by obtain ⟨m, hm⟩ := k1; exact DataW.trod_lt m _ _ _ hm
  obtain ⟨ops, w0, s0⟩ := ops_of hv0 h0
  obtain ⟨sb, w1, b1⟩ := bytes_of hv1 h1
  obtain ⟨z, rfl, rfl, rfl, w2⟩ := open_int und29 (hval 2 29 v2 rfl rfl) h2
  have hz : 0 ≤ z ∧ z < 65536 := by
    have hw := w2
    simp [Lit.wf, IntKind.min, IntKind.max, IntKind.bits, IntKind.signed] at hw
    omega
  clear hA0 hval0 hsz0
  obtain ⟨lo, rfl⟩ : ∃ lo : Nat, z = (lo : Int) := ⟨z.toNat, by omega⟩
  refine (made_row_calls (ao := a0) (n := len0) (co := cap0) (ap := a1) (ns := len1) (cs := cap1) (lo := lo) w0 w1 s0 b1 (by omega)).mono fun e W' ⟨he, bel⟩ => ?_
  subst he
  exact ⟨_, rfl, _, _, _, [], _, [], hW', trodAll_mk1 (shut_bool u4 _), (trodAll_cons_mk (Below.trod laidOut (by kernel_rfl) (of_decide_eq_true (by kernel_rfl)) k0 bel lt0) (trodAll_cons_mk (Below.trod laidOut (by kernel_rfl) (of_decide_eq_true (by kernel_rfl)) k1 bel lt1) (trodAll_cons_mk (shut_int und29 w2) trodAll_mk0))), rfl, bel.frame _, fun h => by cases h⟩
theorem over : Rows.histMadeRow.holds Try.pinned (OpenSpec.ofChange Rows.histMadeSpec) :=
  OpenClaim.holds_of_wide 6 Try.f6 rfl rfl rfl rfl rfl rfl rfl ⟨rfl, rfl, rfl, rfl, rfl⟩ rfl rfl rfl rfl rfl (by kernel_rfl) Try.func6 (by kernel_rfl)
    (of_decide_eq_true (by kernel_rfl)) (by unfold Func.isWrapper; first | (rw [if_pos (by decide +kernel)]; kernel_rfl) | (rw [if_neg (by decide +kernel)]; exact ⟨rfl, rfl⟩))
    (fun os started H enc _ => lifted os started H enc)
theorem proved : Rows.HistMadeSaid := over
end Go.Proofs.Ytbhjhffglcipbaa.histMade
namespace Go.Proofs.Ytbhjhffglcipbaa
/-- The row, under a short name, for the claim. -/
theorem histMade_holds : Rows.HistMadeSaid := histMade.proved
end Go.Proofs.Ytbhjhffglcipbaa
