import Derived.Test.YtbhjhffglcipbaaAsZ3
import Derived.Test.YtbhjhffglcipbaaAsZ2a
import Derived.Test.YtbhjhffglcipbaaAsZ2b
import Derived.Test.YtbhjhffglcipbaaAsZ2c
import Derived.Test.YtbhjhffglcipbaaAsZ2d
namespace Go.Proofs.Ytbhjhffglcipbaa.HW
open Go Go.Proofs.Ytbhjhffglcipbaa.AS Go.RowKit
set_option linter.unusedVariables false
set_option linter.unusedSimpArgs false
set_option linter.unusedSectionVars false
/-- which way a call goes -/
def wayZ (o : OpR) : WayZ := if 1 ≤ o.kind then (if o.kind ≤ 4 then .take else .high) else .low
theorem factsZ_ok {P : Program} {S : Sym} {o : OpR} (h11 : S.val 11 = i64 o.kind) : ∀ f ∈ factsZ (wayZ o), FactOK P S f := by
  intro f hf
  have k1 : ∀ b, decide (o.kind ≥ 1) = b → FactOK P S ⟨.geq, 3, sy 11, i64 1, .bool b⟩ := fun b hb => FactOK.int (k := .i64) (x := o.kind) (y := 1) h11 rfl (by simp [intR, conc, ← hb]) (.inl rfl)
  have k2 : ∀ b, decide (o.kind ≤ 4) = b → FactOK P S ⟨.leq, 3, sy 11, i64 4, .bool b⟩ := fun b hb => FactOK.int (k := .i64) (x := o.kind) (y := 4) h11 rfl (by simp [intR, conc, ← hb]) (.inl rfl)
  unfold wayZ at hf
  split at hf
  · rename_i h1
    split at hf
    · rename_i h2
      simp only [factsZ, List.mem_cons, List.not_mem_nil, or_false] at hf
      rcases hf with rfl | rfl
      · exact k1 true (by simpa using h1)
      · exact k2 true (by simpa using h2)
    · rename_i h2
      simp only [factsZ, List.mem_cons, List.not_mem_nil, or_false] at hf
      rcases hf with rfl | rfl
      · exact k1 true (by simpa using h1)
      · exact k2 false (by simpa using h2)
  · rename_i h1
    simp only [factsZ, List.mem_cons, List.not_mem_nil, or_false] at hf
    subst hf
    exact k1 false (by simpa using h1)
/-- a call that is taken -/
structure SelOK (o : OpR) : Prop where
  lo : 1 ≤ o.kind
  hi : o.kind ≤ 4
  key : o.key = ⟨#[107]⟩
  size : o.val.size ≤ maxLen
end Go.Proofs.Ytbhjhffglcipbaa.HW
namespace Go.Proofs.Ytbhjhffglcipbaa
open Go Go.Proofs.Ytbhjhffglcipbaa.AS Go.Proofs.Ytbhjhffglcipbaa.HW Go.RowKit
set_option maxRecDepth 100000
set_option linter.unusedVariables false
set_option linter.unusedSimpArgs false
set_option linter.unusedSectionVars false
theorem hmLb_eq1 : hmLb = [hmLb.getD 0 .skip] ++ (hmLb.getD 1 .skip :: hmLb.drop 2) := by kernel_rfl
section
variable {a0 a1 a2 a3 a4 b0 b1 b2 b3 b4 b5 b6 : Value} {rows : List Value}
theorem tellZ0 : stB2 Try.prog [some 0, some 1] (thetaT 0 a0 a1 a2 a3 a4 b0 b1 b2 b3 b4 b5 b6) 8 (stW1 0) (tmZ 0) (stW1 0) (tmZ 0) = true := by kernel_rfl
theorem tellEZ0 : stB2 Try.prog [some 0, some 1] (thetaE a0 a1 rows) 8 (stW1 0) (tmZ 0) (stW1 0) (tmZ 0) = true := by kernel_rfl
theorem tellZ1 : stB2 Try.prog [some 0, some 1] (thetaT 1 a0 a1 a2 a3 a4 b0 b1 b2 b3 b4 b5 b6) 8 (stW1 1) (tmZ 1) (stW1 1) (tmZ 1) = true := by kernel_rfl
theorem tellEZ1 : stB2 Try.prog [some 0, some 1] (thetaE a0 a1 rows) 8 (stW1 1) (tmZ 1) (stW1 1) (tmZ 1) = true := by kernel_rfl
theorem tellZ2 : stB2 Try.prog [some 0, some 1] (thetaT 2 a0 a1 a2 a3 a4 b0 b1 b2 b3 b4 b5 b6) 8 (stW1 2) (tmZ 2) (stW1 2) (tmZ 2) = true := by kernel_rfl
theorem tellEZ2 : stB2 Try.prog [some 0, some 1] (thetaE a0 a1 rows) 8 (stW1 2) (tmZ 2) (stW1 2) (tmZ 2) = true := by kernel_rfl
theorem tellZ3 : stB2 Try.prog [some 0, some 1] (thetaT 3 a0 a1 a2 a3 a4 b0 b1 b2 b3 b4 b5 b6) 8 (stW1 3) (tmZ 3) (stW1 3) (tmZ 3) = true := by kernel_rfl
theorem tellEZ3 : stB2 Try.prog [some 0, some 1] (thetaE a0 a1 rows) 8 (stW1 3) (tmZ 3) (stW1 3) (tmZ 3) = true := by kernel_rfl
theorem tellZ4 : stB2 Try.prog [some 0, some 1] (thetaT 4 a0 a1 a2 a3 a4 b0 b1 b2 b3 b4 b5 b6) 8 (stW1 4) (tmZ 4) (stW1 4) (tmZ 4) = true := by kernel_rfl
theorem tellEZ4 : stB2 Try.prog [some 0, some 1] (thetaE a0 a1 rows) 8 (stW1 4) (tmZ 4) (stW1 4) (tmZ 4) = true := by kernel_rfl
theorem tellZ5 : stB2 Try.prog [some 0, some 1] (thetaT 5 a0 a1 a2 a3 a4 b0 b1 b2 b3 b4 b5 b6) 8 (stW1 5) (tmZ 5) (stW1 5) (tmZ 5) = true := by kernel_rfl
theorem tellEZ5 : stB2 Try.prog [some 0, some 1] (thetaE a0 a1 rows) 8 (stW1 5) (tmZ 5) (stW1 5) (tmZ 5) = true := by kernel_rfl
theorem tellZ6 : stB2 Try.prog [some 0, some 1] (thetaT 6 a0 a1 a2 a3 a4 b0 b1 b2 b3 b4 b5 b6) 8 (stW1 6) (tmZ 6) (stW1 6) (tmZ 6) = true := by kernel_rfl
theorem tellEZ6 : stB2 Try.prog [some 0, some 1] (thetaE a0 a1 rows) 8 (stW1 6) (tmZ 6) (stW1 6) (tmZ 6) = true := by kernel_rfl
theorem tellZ7 : stB2 Try.prog [some 0, some 1] (thetaT 7 a0 a1 a2 a3 a4 b0 b1 b2 b3 b4 b5 b6) 8 (stW1 7) (tmZ 7) (stW1 7) (tmZ 7) = true := by kernel_rfl
theorem tellEZ7 : stB2 Try.prog [some 0, some 1] (thetaE a0 a1 rows) 8 (stW1 7) (tmZ 7) (stW1 7) (tmZ 7) = true := by kernel_rfl
theorem tellZ8 : stB2 Try.prog [some 0, some 1] (thetaT 8 a0 a1 a2 a3 a4 b0 b1 b2 b3 b4 b5 b6) 8 (stW1 8) (tmZ 8) (stW1 8) (tmZ 8) = true := by kernel_rfl
theorem tellEZ8 : stB2 Try.prog [some 0, some 1] (thetaE a0 a1 rows) 8 (stW1 8) (tmZ 8) (stW1 8) (tmZ 8) = true := by kernel_rfl
theorem tellZ9 : stB2 Try.prog [some 0, some 1] (thetaT 9 a0 a1 a2 a3 a4 b0 b1 b2 b3 b4 b5 b6) 8 (stW1 9) (tmZ 9) (stW1 9) (tmZ 9) = true := by kernel_rfl
theorem tellEZ9 : stB2 Try.prog [some 0, some 1] (thetaE a0 a1 rows) 8 (stW1 9) (tmZ 9) (stW1 9) (tmZ 9) = true := by kernel_rfl
theorem tellZ10 : stB2 Try.prog [some 0, some 1] (thetaT 10 a0 a1 a2 a3 a4 b0 b1 b2 b3 b4 b5 b6) 8 (stW1 10) (tmZ 10) (stW1 10) (tmZ 10) = true := by kernel_rfl
theorem tellEZ10 : stB2 Try.prog [some 0, some 1] (thetaE a0 a1 rows) 8 (stW1 10) (tmZ 10) (stW1 10) (tmZ 10) = true := by kernel_rfl
theorem tellZ {i : Nat} (hi : i < 11) : stB2 Try.prog [some 0, some 1] (thetaT i a0 a1 a2 a3 a4 b0 b1 b2 b3 b4 b5 b6) 8 (stW1 i) (tmZ i) (stW1 i) (tmZ i) = true := by
  match i, hi with
  | 0, _ => exact tellZ0
  | 1, _ => exact tellZ1
  | 2, _ => exact tellZ2
  | 3, _ => exact tellZ3
  | 4, _ => exact tellZ4
  | 5, _ => exact tellZ5
  | 6, _ => exact tellZ6
  | 7, _ => exact tellZ7
  | 8, _ => exact tellZ8
  | 9, _ => exact tellZ9
  | 10, _ => exact tellZ10
theorem tellEZ {i : Nat} (hi : i < 11) : stB2 Try.prog [some 0, some 1] (thetaE a0 a1 rows) 8 (stW1 i) (tmZ i) (stW1 i) (tmZ i) = true := by
  match i, hi with
  | 0, _ => exact tellEZ0
  | 1, _ => exact tellEZ1
  | 2, _ => exact tellEZ2
  | 3, _ => exact tellEZ3
  | 4, _ => exact tellEZ4
  | 5, _ => exact tellEZ5
  | 6, _ => exact tellEZ6
  | 7, _ => exact tellEZ7
  | 8, _ => exact tellEZ8
  | 9, _ => exact tellEZ9
  | 10, _ => exact tellEZ10
end
section
variable {w0 : World} {ao ap : Option Addr} {n co ns cs : Nat} {lo : Int} {ops : Nat → OpR} {sb : Nat → Int}
theorem filter_loop {Q : Exit → Act → World → Prop} (hops : RowsZ w0 ao n 5 fun k => (ops k).cells) (hn : n ≤ 10) (hsz : ∀ i, i < n → (ops i).val.size ≤ maxLen)
    (hQe : ∀ S σ (t : TM) a w k sel, k ≤ 10 → SZ S ao ap n co ns cs lo sb k sel → (∀ j, j < k → ∀ c u, (rowT (madeRow sel (spF ns sb) j))[c]? = some u → S.val (80 + 10 * j + c) = u) → (∀ j, j < k → SelOK (sel j)) →
      AtX Try.prog S (fun _ => False) w0.heap.size w0 σ t.toL a w →
      (match @runLT (orcC Try.prog lensM [] [] []) Try.prog (ovB1 k) 600 ((hmL.drop 6).take 4) t σ with
      | some (t, σ) => stB Try.prog [lAt t] (thetaC k) 8 (stC k) (tmC k 0) σ t.toL
      | none => false) = true → Q (.exit 0) a w) :
    ∀ (d i k : Nat) (sel : Nat → OpR) (S : Sym) (a : Act) (w : World), n - i = d → i ≤ n → k ≤ i → SZ S ao ap n co ns cs lo sb k sel → S.val 8 = HW.i64 i → (∀ j, j < k → SelOK (sel j)) →
      AtX Try.prog S (fun _ => False) w0.heap.size w0 (stW1 k) (tmZ k) a w → InLoop Try.prog hmB Q a w := by
  intro d
  induction d with
  | zero =>
    intro i k sel S a w hd hi hk hS h8 hsel hat
    have hin : i = n := by omega
    -- what Made makes is told
    have hθ := thetaE_ok (a := HW.i64 0) (b := HW.i64 0) rfl rfl (rowsT_leaf (ops := sel) (sp := spF ns sb) k)
    obtain ⟨_, ws, hws, hat1⟩ := hat.restateP (f := pinS) (c := 0 < ns) (stB_of hθ (tellEZ (show k < 11 by omega))) hS.pin rfl rfl rfl
    have hS1 : SZ { Sym.of S _ hθ with wins := ws } ao ap n co ns cs lo sb k sel := ⟨hS.hops, hS.hspr, hS.hlost, hS.hn, hS.hns, fun j hj c u hc => by
      have hc5 : c < 5 := (List.getElem?_eq_some_iff.1 hc).1
      show conc S ((thetaE _ _ _).getD (23 + 5 * j + c) _) = u
      rw [thetaE_low (by omega) (by omega) (by omega)]
      exact hS.rows j hj c u hc, hS.ext, hws⟩
    have h81 : ({ Sym.of S _ hθ with wins := ws } : Sym).val 8 = HW.i64 i := h8
    have hm : ∀ j, j < k → ∀ c u, (rowT (madeRow sel (spF ns sb) j))[c]? = some u → ({ Sym.of S _ hθ with wins := ws } : Sym).val (80 + 10 * j + c) = u := by
      intro j hj c u hc
      have hc10 : c < 10 := (List.getElem?_eq_some_iff.1 hc).1
      show conc S ((thetaE _ _ (rowsT sel (spF ns sb) k)).getD (80 + 10 * j + c) _) = u
      rw [Nat.add_assoc, thetaE_row, List.getD_eq_getElem?_getD, rowsT_get hj hc10, hc]
      refine conc_leaf (List.all_eq_true.1 (rowsT_leaf (ops := sel) (sp := spF ns sb) k) u ?_)
      exact List.mem_of_getElem? ((rowsT_get hj hc10).trans hc)
    generalize ({ Sym.of S _ hθ with wins := ws } : Sym) = S1 at hat1 hS1 h81 hm
    refine @inLoop_of_wp plainSym mute _ (mute_ok _) _ _ _ _ (wp_flat _ _ _ _ ?_)
    show wpL Try.prog _ hmLb a w
    have htm : (TM.of (tmZ k) 87 ok87).toL = tmZ k := by
      rw [@TM.of_toL mute _ _ _ (by simp [tmZ, slots])]
      simp [tmZ, slots]
    rw [← htm] at hat1
    have hp := List.all_eq_true.1 z_mid k (List.mem_range.2 (by omega))
    unfold phaseB at hp
    split at hp
    case h_2 => cases hp
    rename_i t1 σ1 hrun
    split at hp
    case h_2 => cases hp
    rename_i id t2 σ2 hrun2
    simp only [Bool.and_eq_true] at hp
    obtain ⟨hid, hp⟩ := hp
    have hid := of_beq hid
    subst hid
    have hO : @OrcOK S1 (orcC Try.prog lensM [⟨.lss, 3, HW.sy 8, HW.sy 9, .bool false⟩] [] []) Try.prog := by
      refine orcC_ok _ _ _ _ _ hS1.len ?_ (fun f hf => by cases hf) (fun f hf => by cases hf)
      intro f hf
      simp only [List.mem_cons, List.not_mem_nil, or_false] at hf
      subst hf
      exact FactOK.int (k := .i64) (x := i) (y := n) h81 hS1.hn (by simp [intR, conc]; omega) (.inl rfl)
    have hO2 : @OrcOK S1 (orcC Try.prog lensM [] [] []) Try.prog := orcC_ok _ _ _ _ _ hS1.len (fun f hf => by cases hf) (fun f hf => by cases hf) (fun f hf => by cases hf)
    rw [hmLb_eq1]
    refine AtX.runL _ hO mixed26 (fun _ _ h => by cases h) (fun _ _ h => by cases h) _ hrun hat1 fun a' w' hat3 => ?_
    refine AtX.run _ hO2 mixed26 (fun _ _ h => by cases h) (fun _ _ h => by cases h) hrun2 hat3 fun a2 w2 hat4 => ?_
    exact hQe S1 σ2 t2 a2 w2 k sel (by omega) hS1 hm hsel hat4 hp
  | succ d ih =>
    intro i k sel S a w hd hi hk hS h8 hsel hat
    have hin : i < n := by omega
    have hk10 : k < 11 := by omega
    obtain ⟨x, rfl, hxs, C, ct, fr, c1, c2, c3⟩ : ∃ x, ao = some x ∧ x.spot = none ∧ ∃ C t fr, w0.heap[x.block]? = some (.cells C t fr) ∧ x.off + n * 5 ≤ C.size ∧ ∀ i, i < n → ∀ j v, ((ops i).cells)[j]? = some v → C[x.off + i * 5 + j]? = some v := by
      rcases hops with h | h
      · omega
      · exact h
    have hxB : x.block < w0.heap.size := (Array.getElem?_eq_some_iff.1 c1).1
    let o := ops i
    have hθ : (thetaT k (HW.i64 o.kind) (.string o.key) (.string o.val) (.string o.old) (.bool o.hasOld) (HW.i64 0) (HW.i64 0) (HW.i64 0) (HW.i64 0) (HW.i64 0) (HW.i64 0) (HW.i64 (i + 1 : Nat))).all okθ = true := thetaT_ok rfl
    obtain ⟨_, ws, hws, hat1⟩ := hat.restateP (f := pinS) (c := 0 < ns) (stB_of hθ (tellZ hk10)) hS.pin rfl rfl rfl
    have hS1 : SZ { Sym.of S _ hθ with wins := ws } (some x) ap n co ns cs lo sb k sel := ⟨hS.hops, hS.hspr, hS.hlost, hS.hn, hS.hns, fun j hj c u hc => by
      have hc5 : c < 5 := (List.getElem?_eq_some_iff.1 hc).1
      show conc S ((thetaT k _ _ _ _ _ _ _ _ _ _ _ _).getD (23 + 5 * j + c) _) = u
      rw [Nat.add_assoc, thetaT_old (by omega), ← Nat.add_assoc]
      exact hS.rows j hj c u hc, hS.ext, hws⟩
    have g8 : ({ Sym.of S _ hθ with wins := ws } : Sym).val 8 = HW.i64 i := h8
    have g11 : ({ Sym.of S _ hθ with wins := ws } : Sym).val 11 = HW.i64 o.kind := rfl
    have g12 : ({ Sym.of S _ hθ with wins := ws } : Sym).val 12 = .string o.key := rfl
    have g13 : ({ Sym.of S _ hθ with wins := ws } : Sym).val 13 = .string o.val := rfl
    have g14 : ({ Sym.of S _ hθ with wins := ws } : Sym).val 14 = .string o.old := rfl
    have g15 : ({ Sym.of S _ hθ with wins := ws } : Sym).val 15 = .bool o.hasOld := rfl
    have g22 : ({ Sym.of S _ hθ with wins := ws } : Sym).val 22 = HW.i64 (i + 1 : Nat) := rfl
    generalize ({ Sym.of S _ hθ with wins := ws } : Sym) = S1 at hat1 hS1 g8 g11 g12 g13 g14 g15 g22
    obtain ⟨ρw, hw⟩ := hat1
    have hwx : w.heap[x.block]? = some (.cells C ct fr) := (hw.keep x.block hxB (fun q => q)).trans c1
    have hat2 := AtX.window (k := HW.sy 8) ⟨ρw, hw⟩ (new_rowW (k := k)) (z := 5) hS1.hops (kd := .i64) (i := (i : Int)) g8 (by omega) (by omega) hxs rfl hxB (fun q => q) hwx (by simp only [Int.toNat_natCast]; omega) (fun j u hu => by
      have hj : j < 5 := (List.getElem?_eq_some_iff.1 hu).1
      have hv : ((ops i).cells)[j]? = some (((ops i).cells)[j]'hj) := List.getElem?_eq_getElem _
      refine ⟨_, by simp only [Int.toNat_natCast]; exact c3 i hin j _ hv, fun ρ => ?_⟩
      match j, hj, hu with
      | 0, _, hu => simp only [opS, List.getElem?_cons_zero, Option.some.injEq] at hu; subst hu; exact @VR.sym S1 ρ 11 _ g11
      | 1, _, hu => simp only [opS, List.getElem?_cons_succ, List.getElem?_cons_zero, Option.some.injEq] at hu; subst hu; exact @VR.sym S1 ρ 12 _ g12
      | 2, _, hu => simp only [opS, List.getElem?_cons_succ, List.getElem?_cons_zero, Option.some.injEq] at hu; subst hu; exact @VR.sym S1 ρ 13 _ g13
      | 3, _, hu => simp only [opS, List.getElem?_cons_succ, List.getElem?_cons_zero, Option.some.injEq] at hu; subst hu; exact @VR.sym S1 ρ 14 _ g14
      | 4, _, hu => simp only [opS, List.getElem?_cons_succ, List.getElem?_cons_zero, Option.some.injEq] at hu; subst hu; exact @VR.sym S1 ρ 15 _ g15)
    have hS2 : SZ { S1 with wins := ⟨1, HW.sy 8, 2, 5⟩ :: S1.wins } (some x) ap n co ns cs lo sb k sel := ⟨hS1.hops, hS1.hspr, hS1.hlost, hS1.hn, hS1.hns, hS1.rows, hS1.ext, fun q => List.mem_cons_of_mem _ (hS1.pin q)⟩
    have hwin : ∀ f ∈ winsW, f ∈ ({ S1 with wins := ⟨1, HW.sy 8, 2, 5⟩ :: S1.wins } : Sym).wins := by
      intro f hf
      simp only [winsW, List.mem_cons, List.not_mem_nil, or_false] at hf
      subst hf; simp
    have k8 : ({ S1 with wins := ⟨1, HW.sy 8, 2, 5⟩ :: S1.wins } : Sym).val 8 = HW.i64 i := g8
    have k11 : ({ S1 with wins := ⟨1, HW.sy 8, 2, 5⟩ :: S1.wins } : Sym).val 11 = HW.i64 o.kind := g11
    have k13 : ({ S1 with wins := ⟨1, HW.sy 8, 2, 5⟩ :: S1.wins } : Sym).val 13 = .string o.val := g13
    have k14 : ({ S1 with wins := ⟨1, HW.sy 8, 2, 5⟩ :: S1.wins } : Sym).val 14 = .string o.old := g14
    have k15 : ({ S1 with wins := ⟨1, HW.sy 8, 2, 5⟩ :: S1.wins } : Sym).val 15 = .bool o.hasOld := g15
    have k22 : ({ S1 with wins := ⟨1, HW.sy 8, 2, 5⟩ :: S1.wins } : Sym).val 22 = HW.i64 (i + 1 : Nat) := g22
    generalize ({ S1 with wins := ⟨1, HW.sy 8, 2, 5⟩ :: S1.wins } : Sym) = S2 at hat2 hS2 hwin k8 k11 k13 k14 k15 k22
    have hO : ∀ wy, wy = wayZ o → @OrcOK S2 (orcC Try.prog lensM (factsWI ++ factsZ wy) [] winsW) Try.prog := by
      rintro wy rfl
      refine orcC_ok _ _ _ _ _ hS2.len ?_ (fun f hf => by cases hf) hwin
      intro f hf
      rcases List.mem_append.1 hf with hf | hf
      · simp only [factsWI, List.mem_cons, List.not_mem_nil, or_false] at hf
        rcases hf with rfl | rfl
        · exact FactOK.int (k := .i64) (x := i) (y := n) k8 hS2.hn (by simp [intR, conc]; omega) (.inl rfl)
        · refine FactOK.int (k := .i64) (x := i) (y := 1) k8 rfl ?_ (.inr rfl)
          show some (Value.int .i64 (IntKind.i64.wrap ((i : Int) + 1))) = some (S2.val 22)
          rw [k22, wrap_i64 (by omega) (by omega)]; rfl
      · exact factsZ_ok k11 f hf
    refine @inLoop_of_wp plainSym mute _ (mute_ok _) _ _ _ _ (wp_flat _ _ _ _ ?_)
    show wpL Try.prog _ hmLb a w
    have htm : (TM.of (tmZ k) 87 ok87).toL = tmZ k := by
      rw [@TM.of_toL mute _ _ _ (by simp [tmZ, slots])]
      simp [tmZ, slots]
    rw [← htm] at hat2
    have hskip := List.all_eq_true.1 z_skip k (List.mem_range.2 hk10)
    simp only [Bool.and_eq_true] at hskip
    obtain ⟨sk1, sk2⟩ := hskip
    have skip : ∀ wy, wy = wayZ o → (match @runLT (orcC Try.prog lensM (factsWI ++ factsZ wy) [] winsW) Try.prog ov0 600 hmLb (TM.of (tmZ k) 87 ok87) (stW2 k) with
        | some (t, σ) => stB Try.prog [some 0, some 1] (thetaW k (HW.sy 22) []) 8 (stW1 k) (tmZ k) σ t.toL
        | none => false) = true → wpL Try.prog (Exit.then (InLoop Try.prog hmB Q) Q) hmLb a w := by
      intro wy hwy hp
      split at hp
      case h_2 => cases hp
      rename_i t1 σ1 hrun
      rw [← List.append_nil hmLb]
      refine AtX.runL _ (hO wy hwy) mixed26 (fun _ _ h => by cases h) (fun _ _ h => by cases h) hmLb hrun hat2 fun a' w' hat3 => ?_
      obtain ⟨hθ2, ws2, hws2, hat4⟩ := hat3.restateP (f := pinS) (c := 0 < ns) hp hS2.pin rfl rfl rfl
      refine ih (i + 1) k sel _ a' w' (by omega) (by omega) (by omega) ?_ ?_ hsel hat4
      · refine ⟨hS2.hops, hS2.hspr, hS2.hlost, hS2.hn, hS2.hns, fun j hj c u hc => ?_, hS2.ext, hws2⟩
        have hc5 : c < 5 := (List.getElem?_eq_some_iff.1 hc).1
        show conc S2 ((thetaW k _ _).getD (23 + 5 * j + c) _) = u
        rw [Nat.add_assoc, thetaW_old (by omega), ← Nat.add_assoc]
        exact hS2.rows j hj c u hc
      · exact k22
    cases hwy : wayZ o with
    | low => exact skip .low hwy.symm sk1
    | high => exact skip .high hwy.symm sk2
    | take =>
      have hp := List.all_eq_true.1 z_take k (List.mem_range.2 (by omega))
      unfold phaseZ at hp
      split at hp
      case h_2 => cases hp
      rename_i t1 σ1 hrun
      have hp : stB Try.prog [some 0, mineAt t1] (thetaW k (HW.sy 22) [HW.sy 11, keyK, HW.sy 13, HW.sy 14, HW.sy 15]) 8 (stW1 (k + 1)) (tmZ (k + 1)) σ1 t1.toL = true := hp
      have hkind : 1 ≤ o.kind ∧ o.kind ≤ 4 := by
        unfold wayZ at hwy
        split at hwy
        · split at hwy
          · exact ⟨by assumption, by assumption⟩
          · cases hwy
        · cases hwy
      rw [← List.append_nil hmLb]
      refine AtX.runL _ (hO .take hwy.symm) mixed26 (fun _ _ h => by cases h) (fun _ _ h => by cases h) hmLb hrun hat2 fun a' w' hat3 => ?_
      obtain ⟨hθ2, ws2, hws2, hat4⟩ := hat3.restateP (f := pinS) (c := 0 < ns) hp hS2.pin rfl rfl rfl
      refine ih (i + 1) (k + 1) (fun j => if j = k then { o with key := ⟨#[107]⟩ } else sel j) _ a' w' (by omega) (by omega) (by omega) ?_ ?_ ?_ hat4
      · refine ⟨hS2.hops, hS2.hspr, hS2.hlost, hS2.hn, hS2.hns, fun j hj c u hc => ?_, hS2.ext, hws2⟩
        have hc5 : c < 5 := (List.getElem?_eq_some_iff.1 hc).1
        show conc S2 ((thetaW k _ _).getD (23 + 5 * j + c) _) = u
        by_cases hjk : j = k
        · subst hjk
          rw [thetaW_new]
          simp only [if_true] at hc
          match c, hc5, hc with
          | 0, _, hc => simp only [OpR.cells, List.getElem?_cons_zero, Option.some.injEq] at hc; subst hc; exact k11
          | 1, _, hc => simp only [OpR.cells, List.getElem?_cons_succ, List.getElem?_cons_zero, Option.some.injEq] at hc; subst hc; rfl
          | 2, _, hc => simp only [OpR.cells, List.getElem?_cons_succ, List.getElem?_cons_zero, Option.some.injEq] at hc; subst hc; exact k13
          | 3, _, hc => simp only [OpR.cells, List.getElem?_cons_succ, List.getElem?_cons_zero, Option.some.injEq] at hc; subst hc; exact k14
          | 4, _, hc => simp only [OpR.cells, List.getElem?_cons_succ, List.getElem?_cons_zero, Option.some.injEq] at hc; subst hc; exact k15
        · rw [Nat.add_assoc, thetaW_old (by omega), ← Nat.add_assoc]
          simp only [if_neg hjk] at hc
          exact hS2.rows j (by omega) c u hc
      · exact k22
      · intro j hj
        by_cases hjk : j = k
        · simp only [if_pos hjk]
          exact ⟨hkind.1, hkind.2, rfl, hsz i hin⟩
        · simp only [if_neg hjk]
          exact hsel j (by omega)
end
end Go.Proofs.Ytbhjhffglcipbaa
namespace Go.Proofs.Ytbhjhffglcipbaa.HW
open Go Go.Proofs.Ytbhjhffglcipbaa.AS Go.RowKit
set_option linter.unusedVariables false
set_option linter.unusedSimpArgs false
set_option linter.unusedSectionVars false
theorem run_shr16 {P : Program} {w : World} {t : TypeId} (a i : Nat) (hi : i < 16) : (binOp .shr t (.int .u16 a) (.int .i64 i)).run P w = .ok (.int .u16 ((a / 2 ^ i : Nat) : Int)) w := by
  have hn : ¬ ((i : Int) < 0) := by omega
  have hm : min i 16 = i := by omega
  simp only [binOp, Op.shift, if_neg hn, IntKind.bits, Int.toNat_natCast, hm]
  show Result.ok (Value.int .u16 ((a : Int).fdiv (2 ^ i))) w = _
  congr 2
  rw [Int.fdiv_eq_ediv_of_nonneg _ (by exact_mod_cast Nat.zero_le _)]
  norm_cast
theorem wrap_u16 {a : Nat} (h : a < 65536) : IntKind.u16.wrap (a : Int) = a := by
  simp [IntKind.wrap, IntKind.bits, IntKind.signed]
  omega
theorem run_and16 {P : Program} {w : World} {t : TypeId} (a : Nat) (ha : a < 65536) : (binOp .and t (.int .u16 a) (.int .u16 1)).run P w = .ok (.int .u16 ((a % 2 : Nat) : Int)) w := by
  have e : (BitVec.ofInt 16 (a : Int) &&& BitVec.ofInt 16 1).toNat = a % 2 := by
    rw [BitVec.toNat_and]
    have h1 : (BitVec.ofInt 16 (a : Int)).toNat = a := by simp [BitVec.toNat_ofInt]; omega
    have h2 : (BitVec.ofInt 16 1).toNat = 1 := by decide
    rw [h1, h2, Nat.and_one_is_mod]
  simp only [binOp, Op.intBits, IntKind.bits, ne_eq, not_true, if_false]
  show Result.ok (Value.int .u16 (IntKind.u16.wrap ((BitVec.ofInt 16 (a : Int) &&& BitVec.ofInt 16 1).toNat : Int))) w = _
  rw [e, wrap_u16 (by omega)]
def u16 (n : Int) : Value := .int .u16 n
/-- the bits of what is lost, as symbols -/
def bitsT (lo : Nat) : Nat → List Value
  | 0 => []
  | i + 1 => bitsT lo i ++ [u16 ((lo / 2 ^ i : Nat) : Int), u16 ((lo / 2 ^ i % 2 : Nat) : Int)]
theorem bitsT_len {lo : Nat} (n : Nat) : (bitsT lo n).length = 2 * n := by
  induction n with
  | zero => rfl
  | succ n ih => rw [bitsT, List.length_append, ih]; show 2 * n + 2 = _; omega
theorem bitsT_leaf {lo : Nat} (n : Nat) : (bitsT lo n).all AS.leaf = true := by
  induction n with
  | zero => rfl
  | succ n ih => rw [bitsT, List.all_append, ih]; rfl
theorem bitsT_get {lo n i c : Nat} (hi : i < n) (hc : c < 2) : (bitsT lo n)[2 * i + c]? = ([u16 ((lo / 2 ^ i : Nat) : Int), u16 ((lo / 2 ^ i % 2 : Nat) : Int)] : List Value)[c]? := by
  induction n with
  | zero => omega
  | succ n ih =>
    rw [bitsT]
    have hl := bitsT_len (lo := lo) n
    rcases Nat.lt_or_ge i n with h | h
    · rw [List.getElem?_append_left (by omega)]; exact ih h
    · have e : i = n := by omega
      subst e
      rw [List.getElem?_append_right (by omega)]
      congr 1
      omega
/-- identity up to b, then values -/
def thetaP (b : Nat) (vs : List Value) : List Value := (List.range b).map sy ++ vs
theorem thetaP_low {b j : Nat} {vs : List Value} {e : Value} (hj : j < b) : (thetaP b vs).getD j e = sy j := by
  unfold thetaP
  rw [List.getD_eq_getElem?_getD, List.getElem?_append_left (by simpa using hj)]
  simp [hj]
theorem thetaP_high {b j : Nat} {vs : List Value} {e : Value} : (thetaP b vs).getD (b + j) e = vs.getD j e := by
  unfold thetaP
  rw [List.getD_eq_getElem?_getD, List.getElem?_append_right (by simp), List.getD_eq_getElem?_getD]
  simp
theorem thetaP_ok {b : Nat} {vs : List Value} (h : vs.all AS.leaf = true) : (thetaP b vs).all okθ = true := by
  unfold thetaP
  rw [List.all_append, Bool.and_eq_true, List.all_eq_true, List.all_eq_true]
  constructor
  · intro x hx
    obtain ⟨j, _, rfl⟩ := List.mem_map.1 hx; rfl
  · intro x hx
    exact leaf_ok (List.all_eq_true.1 h x hx)
theorem thetaC_low {k j : Nat} {e : Value} (hj : j < 23) : (thetaC k).getD j e = sy j := by
  unfold thetaC
  rw [List.getD_eq_getElem?_getD, List.getElem?_append_left (by simpa using hj)]
  simp [hj]
theorem thetaC_row {k j : Nat} {e : Value} (hj : j < 10 * k) : (thetaC k).getD (23 + j) e = sy (80 + j) := by
  unfold thetaC
  rw [List.getD_eq_getElem?_getD, List.getElem?_append_right (by simp)]
  simp [hj]
theorem thetaL_id {i x : Nat} {b : Bool} {e : Value} (hx : x < 143) (h : b = true → x ≠ 23 + 10 * i + 6 ∧ x ≠ 23 + 10 * i + 7 ∧ x ≠ 23 + 10 * i + 8 ∧ x ≠ 23 + 10 * i + 9) : (thetaL i b).getD x e = sy x := by
  unfold thetaL
  cases b with
  | false => simp only [Bool.false_eq_true, if_false]; rw [List.getD_eq_getElem?_getD]; simp [hx]
  | true =>
    obtain ⟨h1, h2, h3, h4⟩ := h rfl
    simp only [if_true]
    rw [List.getD_eq_getElem?_getD, List.getElem?_set_ne (by omega), List.getElem?_set_ne (by omega), List.getElem?_set_ne (by omega), List.getElem?_set_ne (by omega)]
    simp [hx]
theorem thetaL_6 {i : Nat} {e : Value} (hi : i < 10) : (thetaL i true).getD (23 + 10 * i + 6) e = i64 (-1) := by
  unfold thetaL
  simp only [if_true]
  rw [List.getD_eq_getElem?_getD, List.getElem?_set_ne (by omega), List.getElem?_set_ne (by omega), List.getElem?_set_ne (by omega), List.getElem?_set_self (by simp; omega)]
  rfl
theorem thetaL_7 {i : Nat} {e : Value} (hi : i < 10) : (thetaL i true).getD (23 + 10 * i + 7) e = i64 0 := by
  unfold thetaL
  simp only [if_true]
  rw [List.getD_eq_getElem?_getD, List.getElem?_set_ne (by omega), List.getElem?_set_ne (by omega), List.getElem?_set_self (by simp; omega)]
  rfl
theorem thetaL_8 {i : Nat} {e : Value} (hi : i < 10) : (thetaL i true).getD (23 + 10 * i + 8) e = emp := by
  unfold thetaL
  simp only [if_true]
  rw [List.getD_eq_getElem?_getD, List.getElem?_set_ne (by omega), List.getElem?_set_self (by simp; omega)]
  rfl
theorem thetaL_9 {i : Nat} {e : Value} (hi : i < 10) : (thetaL i true).getD (23 + 10 * i + 9) e = .bool false := by
  unfold thetaL
  simp only [if_true]
  rw [List.getD_eq_getElem?_getD, List.getElem?_set_self (by simp; omega)]
  rfl
/-- which answers are lost -/
def bitL (lo j : Nat) : Bool := decide (lo / 2 ^ j % 2 = 1)
/-- the rows, of which the first i were looked at -/
def roundD (sel : Nat → OpR) (sp : Nat → Option Int) (lo i j : Nat) : DR := curD sel sp (fun j => decide (j < i) && bitL lo j) j
/-- what the symbols stand for in the second loop -/
structure SC (S : Sym) (lo k : Nat) (D : Nat → DR) : Prop where
  lost : S.val 3 = u16 lo
  bits : ∀ i, i < 10 → S.val (123 + 2 * i) = u16 ((lo / 2 ^ i : Nat) : Int) ∧ S.val (124 + 2 * i) = u16 ((lo / 2 ^ i % 2 : Nat) : Int)
  rows : ∀ j, j < k → ∀ c u, (rowT (D j))[c]? = some u → S.val (23 + 10 * j + c) = u
/-- the list of rows' symbols -/
def rowsL (D : Nat → DR) : Nat → List Value
  | 0 => []
  | k + 1 => rowsL D k ++ rowT (D k)
theorem rowsL_len {D : Nat → DR} (n : Nat) : (rowsL D n).length = 10 * n := by
  induction n with
  | zero => rfl
  | succ n ih => rw [rowsL, List.length_append, ih]; show 10 * n + 10 = _; omega
theorem rowsL_leaf {D : Nat → DR} (n : Nat) : (rowsL D n).all AS.leaf = true := by
  induction n with
  | zero => rfl
  | succ n ih => rw [rowsL, List.all_append, ih]; rfl
theorem rowsL_get {D : Nat → DR} {n j c : Nat} (hj : j < n) (hc : c < 10) : (rowsL D n)[10 * j + c]? = (rowT (D j))[c]? := by
  induction n with
  | zero => omega
  | succ n ih =>
    rw [rowsL]
    have hl := rowsL_len (D := D) n
    rcases Nat.lt_or_ge j n with h | h
    · rw [List.getElem?_append_left (by omega)]; exact ih h
    · have e : j = n := by omega
      subst e
      rw [List.getElem?_append_right (by omega)]
      congr 1
      omega
end Go.Proofs.Ytbhjhffglcipbaa.HW
namespace Go.Proofs.Ytbhjhffglcipbaa
open Go Go.Proofs.Ytbhjhffglcipbaa.AS Go.Proofs.Ytbhjhffglcipbaa.HW Go.RowKit
set_option maxRecDepth 100000
set_option linter.unusedVariables false
set_option linter.unusedSimpArgs false
set_option linter.unusedSectionVars false
theorem hmLb2_eq1 : hmLb2 = [hmLb2.getD 0 .skip] ++ (hmLb2.getD 1 .skip :: hmLb2.drop 2) := by kernel_rfl
section
variable {vs : List Value}
theorem tellB0 : stB2 Try.prog [some 0] (thetaP 123 vs) 8 (stC 0) (tmC 0 0) (stC 0) (tmC 0 0) = true := by kernel_rfl
theorem tellD0 : stB2 Try.prog [some 0] (thetaP 150 vs) 8 (stC 0) (tmC 0 0) (stC 0) (tmC 0 0) = true := by kernel_rfl
theorem tellB1 : stB2 Try.prog [some 0] (thetaP 123 vs) 8 (stC 1) (tmC 1 0) (stC 1) (tmC 1 0) = true := by kernel_rfl
theorem tellD1 : stB2 Try.prog [some 0] (thetaP 150 vs) 8 (stC 1) (tmC 1 1) (stC 1) (tmC 1 1) = true := by kernel_rfl
theorem tellB2 : stB2 Try.prog [some 0] (thetaP 123 vs) 8 (stC 2) (tmC 2 0) (stC 2) (tmC 2 0) = true := by kernel_rfl
theorem tellD2 : stB2 Try.prog [some 0] (thetaP 150 vs) 8 (stC 2) (tmC 2 2) (stC 2) (tmC 2 2) = true := by kernel_rfl
theorem tellB3 : stB2 Try.prog [some 0] (thetaP 123 vs) 8 (stC 3) (tmC 3 0) (stC 3) (tmC 3 0) = true := by kernel_rfl
theorem tellD3 : stB2 Try.prog [some 0] (thetaP 150 vs) 8 (stC 3) (tmC 3 3) (stC 3) (tmC 3 3) = true := by kernel_rfl
theorem tellB4 : stB2 Try.prog [some 0] (thetaP 123 vs) 8 (stC 4) (tmC 4 0) (stC 4) (tmC 4 0) = true := by kernel_rfl
theorem tellD4 : stB2 Try.prog [some 0] (thetaP 150 vs) 8 (stC 4) (tmC 4 4) (stC 4) (tmC 4 4) = true := by kernel_rfl
theorem tellB5 : stB2 Try.prog [some 0] (thetaP 123 vs) 8 (stC 5) (tmC 5 0) (stC 5) (tmC 5 0) = true := by kernel_rfl
theorem tellD5 : stB2 Try.prog [some 0] (thetaP 150 vs) 8 (stC 5) (tmC 5 5) (stC 5) (tmC 5 5) = true := by kernel_rfl
theorem tellB6 : stB2 Try.prog [some 0] (thetaP 123 vs) 8 (stC 6) (tmC 6 0) (stC 6) (tmC 6 0) = true := by kernel_rfl
theorem tellD6 : stB2 Try.prog [some 0] (thetaP 150 vs) 8 (stC 6) (tmC 6 6) (stC 6) (tmC 6 6) = true := by kernel_rfl
theorem tellB7 : stB2 Try.prog [some 0] (thetaP 123 vs) 8 (stC 7) (tmC 7 0) (stC 7) (tmC 7 0) = true := by kernel_rfl
theorem tellD7 : stB2 Try.prog [some 0] (thetaP 150 vs) 8 (stC 7) (tmC 7 7) (stC 7) (tmC 7 7) = true := by kernel_rfl
theorem tellB8 : stB2 Try.prog [some 0] (thetaP 123 vs) 8 (stC 8) (tmC 8 0) (stC 8) (tmC 8 0) = true := by kernel_rfl
theorem tellD8 : stB2 Try.prog [some 0] (thetaP 150 vs) 8 (stC 8) (tmC 8 8) (stC 8) (tmC 8 8) = true := by kernel_rfl
theorem tellB9 : stB2 Try.prog [some 0] (thetaP 123 vs) 8 (stC 9) (tmC 9 0) (stC 9) (tmC 9 0) = true := by kernel_rfl
theorem tellD9 : stB2 Try.prog [some 0] (thetaP 150 vs) 8 (stC 9) (tmC 9 9) (stC 9) (tmC 9 9) = true := by kernel_rfl
theorem tellB10 : stB2 Try.prog [some 0] (thetaP 123 vs) 8 (stC 10) (tmC 10 0) (stC 10) (tmC 10 0) = true := by kernel_rfl
theorem tellD10 : stB2 Try.prog [some 0] (thetaP 150 vs) 8 (stC 10) (tmC 10 10) (stC 10) (tmC 10 10) = true := by kernel_rfl
theorem tellB {i : Nat} (hi : i < 11) : stB2 Try.prog [some 0] (thetaP 123 vs) 8 (stC i) (tmC i 0) (stC i) (tmC i 0) = true := by
  match i, hi with
  | 0, _ => exact tellB0
  | 1, _ => exact tellB1
  | 2, _ => exact tellB2
  | 3, _ => exact tellB3
  | 4, _ => exact tellB4
  | 5, _ => exact tellB5
  | 6, _ => exact tellB6
  | 7, _ => exact tellB7
  | 8, _ => exact tellB8
  | 9, _ => exact tellB9
  | 10, _ => exact tellB10
theorem tellD {i : Nat} (hi : i < 11) : stB2 Try.prog [some 0] (thetaP 150 vs) 8 (stC i) (tmC i i) (stC i) (tmC i i) = true := by
  match i, hi with
  | 0, _ => exact tellD0
  | 1, _ => exact tellD1
  | 2, _ => exact tellD2
  | 3, _ => exact tellD3
  | 4, _ => exact tellD4
  | 5, _ => exact tellD5
  | 6, _ => exact tellD6
  | 7, _ => exact tellD7
  | 8, _ => exact tellD8
  | 9, _ => exact tellD9
  | 10, _ => exact tellD10
end
theorem z_all {k : Nat} (hk : k < 11) : allC Try.prog hmLb2 k = true := by
  match k, hk with
  | 0, _ => exact z_all0
  | 1, _ => exact z_all1
  | 2, _ => exact z_all2
  | 3, _ => exact z_all3
  | 4, _ => exact z_all4
  | 5, _ => exact z_all5
  | 6, _ => exact z_all6
  | 7, _ => exact z_all7
  | 8, _ => exact z_all8
  | 9, _ => exact z_all9
  | 10, _ => exact z_all10
section
variable {w0 : World} {lo k : Nat} {sel : Nat → OpR} {sp : Nat → Option Int}
theorem lost_loop {Q : Exit → Act → World → Prop} (hk : k ≤ 10) (hlo : lo < 65536)
    (hQe : ∀ S σ (t : TM) a w, (∀ j, j < k → ∀ c u, (rowT (curD sel sp (bitL lo) j))[c]? = some u → S.val (23 + 10 * j + c) = u) →
      (∀ j, j < (pkF (curD sel sp (bitL lo)) k).length → ∀ c u, (rowT ((pkF (curD sel sp (bitL lo)) k).getD j (curD sel sp (bitL lo) 0)))[c]? = some u → S.val (150 + 10 * j + c) = u) →
      AtX Try.prog S (fun _ => False) w0.heap.size w0 σ t.toL a w →
      (match @runLT (orcC Try.prog [] [] [] []) Try.prog (ovB2 k (pkF (curD sel sp (bitL lo)) k).length) 600 ((hmL.drop 11).take 1) t σ with
      | some (t, σ) => isTrue2 (resultsT Try.prog Try.f6 σ t)
      | none => false) = true → Q (.exit 2) a w) :
    ∀ (d i : Nat) (S : Sym) (a : Act) (w : World), k - i = d → i ≤ k → SC S lo k (roundD sel sp lo i) →
      AtX Try.prog S (fun _ => False) w0.heap.size w0 (stC k) (tmC k i) a w → InLoop Try.prog hmB2 Q a w := by
  intro d
  induction d with
  | zero =>
    intro i S a w hd hi hS hat
    have hik : i = k := by omega
    subst hik
    have hround : ∀ j, j < i → roundD sel sp lo i j = curD sel sp (bitL lo) j := by
      intro j hj
      unfold roundD curD
      simp [hj]
    have hplen := pkF_len (D := curD sel sp (bitL lo)) i
    have hθ := thetaP_ok (b := 150) (rowsL_leaf (D := fun j => (pkF (curD sel sp (bitL lo)) i).getD j (curD sel sp (bitL lo) 0)) (pkF (curD sel sp (bitL lo)) i).length)
    have hat1 := hat.tell hθ (tellD (by omega))
    have h1 : ∀ j, j < i → ∀ c u, (rowT (curD sel sp (bitL lo) j))[c]? = some u → (Sym.of S _ hθ).val (23 + 10 * j + c) = u := by
      intro j hj c u hc
      have hc10 : c < 10 := (List.getElem?_eq_some_iff.1 hc).1
      show conc S ((thetaP 150 _).getD (23 + 10 * j + c) _) = u
      rw [thetaP_low (by omega)]
      exact hS.rows j hj c u (by rw [hround j hj]; exact hc)
    have h2 : ∀ j, j < (pkF (curD sel sp (bitL lo)) i).length → ∀ c u, (rowT ((pkF (curD sel sp (bitL lo)) i).getD j (curD sel sp (bitL lo) 0)))[c]? = some u → (Sym.of S _ hθ).val (150 + 10 * j + c) = u := by
      intro j hj c u hc
      have hc10 : c < 10 := (List.getElem?_eq_some_iff.1 hc).1
      show conc S ((thetaP 150 (rowsL (fun j => (pkF (curD sel sp (bitL lo)) i).getD j (curD sel sp (bitL lo) 0)) (pkF (curD sel sp (bitL lo)) i).length)).getD (150 + 10 * j + c) _) = u
      have hg := (rowsL_get (D := fun j => (pkF (curD sel sp (bitL lo)) i).getD j (curD sel sp (bitL lo) 0)) hj hc10).trans hc
      rw [Nat.add_assoc, thetaP_high, List.getD_eq_getElem?_getD, hg]
      exact conc_leaf (List.all_eq_true.1 (rowsL_leaf (D := fun j => (pkF (curD sel sp (bitL lo)) i).getD j (curD sel sp (bitL lo) 0)) _) u (List.mem_of_getElem? hg))
    generalize Sym.of S _ hθ = S1 at hat1 h1 h2
    refine @inLoop_of_wp plainSym mute _ (mute_ok _) _ _ _ _ (wp_flat _ _ _ _ ?_)
    show wpL Try.prog _ hmLb2 a w
    have htm : (TM.of (tmC i i) 87 ok87).toL = tmC i i := by
      rw [@TM.of_toL mute _ _ _ (by simp [tmC, slots])]
      simp [tmC, slots]
    rw [← htm] at hat1
    have hp := List.all_eq_true.1 (List.all_eq_true.1 z_end i (List.mem_range.2 (by omega))) (pkF (curD sel sp (bitL lo)) i).length (List.mem_range.2 (by omega))
    unfold phaseD at hp
    split at hp
    case h_2 => cases hp
    rename_i t1 σ1 hrun
    split at hp
    case h_2 => cases hp
    rename_i id t2 σ2 hrun2
    simp only [Bool.and_eq_true] at hp
    obtain ⟨hid, hp⟩ := hp
    have hid := of_beq hid
    subst hid
    have hO : @OrcOK S1 (orcC Try.prog [] [] [] []) Try.prog := orcC_ok _ _ _ _ _ (fun f hf => by cases hf) (fun f hf => by cases hf) (fun f hf => by cases hf) (fun f hf => by cases hf)
    rw [hmLb2_eq1]
    refine AtX.runL _ hO mixed26 (fun _ _ h => by cases h) (fun _ _ h => by cases h) _ hrun hat1 fun a' w' hat3 => ?_
    refine AtX.run _ hO mixed26 (fun _ _ h => by cases h) (fun _ _ h => by cases h) hrun2 hat3 fun a2 w2 hat4 => ?_
    exact hQe S1 σ2 t2 a2 w2 h1 h2 hat4 hp
  | succ d ih =>
    intro i S a w hd hi hS hat
    have hik : i < k := by omega
    have hall := List.all_eq_true.1 (z_all (show k < 11 by omega)) i (List.mem_range.2 hik)
    simp only [Bool.and_eq_true] at hall
    obtain ⟨b1, b2⟩ := hS.bits i (by omega)
    refine @inLoop_of_wp plainSym mute _ (mute_ok _) _ _ _ _ (wp_flat _ _ _ _ ?_)
    show wpL Try.prog _ hmLb2 a w
    have htm : (TM.of (tmC k i) 87 ok87).toL = tmC k i := by
      rw [@TM.of_toL mute _ _ _ (by simp [tmC, slots])]
      simp [tmC, slots]
    rw [← htm] at hat
    have goon : ∀ b, bitL lo i = b → phaseC Try.prog hmLb2 k i b = true → wpL Try.prog (Exit.then (InLoop Try.prog hmB2 Q) Q) hmLb2 a w := by
      intro b hb hp
      unfold phaseC at hp
      split at hp
      case h_2 => cases hp
      rename_i t1 σ1 hrun
      have hO : @OrcOK S (orcC Try.prog [] (factsC i b) [] []) Try.prog := by
        refine orcC_ok _ _ _ _ _ (fun f hf => by cases hf) ?_ (fun f hf => by cases hf) (fun f hf => by cases hf)
        have hdl : lo / 2 ^ i < 65536 := Nat.lt_of_le_of_lt (Nat.div_le_self _ _) hlo
        intro f hf
        simp only [factsC, List.mem_cons, List.not_mem_nil, or_false] at hf
        rcases hf with rfl | rfl | rfl
        · exact FactOK.of_run (vx := u16 lo) (vy := .int .i64 i) (vr := u16 ((lo / 2 ^ i : Nat) : Int)) hS.lost rfl b1 (fun w => run_shr16 lo i (by omega)) ⟨rfl, by simp [u16]⟩ (.inr rfl)
        · exact FactOK.of_run (vx := u16 ((lo / 2 ^ i : Nat) : Int)) (vy := .int .u16 1) (vr := u16 ((lo / 2 ^ i % 2 : Nat) : Int)) b1 rfl b2 (fun w => run_and16 _ hdl) ⟨rfl, by simp [u16]⟩ (.inr rfl)
        · refine FactOK.int (k := .u16) (x := ((lo / 2 ^ i % 2 : Nat) : Int)) (y := 1) b2 rfl ?_ (.inl rfl)
          show some (Value.bool (decide (((lo / 2 ^ i % 2 : Nat) : Int) = 1))) = some (Value.bool b)
          rw [← hb]
          unfold bitL
          congr 2
          rw [decide_eq_decide]
          omega
      rw [← List.append_nil hmLb2]
      refine AtX.runL _ hO mixed26 (fun _ _ h => by cases h) (fun _ _ h => by cases h) hmLb2 hrun hat fun a' w' hat3 => ?_
      obtain ⟨hθ2, hat4⟩ := hat3.restate hp
      refine ih (i + 1) _ a' w' (by omega) (by omega) ?_ hat4
      refine ⟨?_, ?_, ?_⟩
      · show conc S ((thetaL i b).getD 3 _) = _
        rw [thetaL_id (by omega) (fun _ => by omega)]
        exact hS.lost
      · intro i' hi'
        obtain ⟨q1, q2⟩ := hS.bits i' hi'
        constructor
        · show conc S ((thetaL i b).getD (123 + 2 * i') _) = _
          rw [thetaL_id (by omega) (fun _ => by omega)]
          exact q1
        · show conc S ((thetaL i b).getD (124 + 2 * i') _) = _
          rw [thetaL_id (by omega) (fun _ => by omega)]
          exact q2
      · intro j hj c u hc
        have hc10 : c < 10 := (List.getElem?_eq_some_iff.1 hc).1
        show conc S ((thetaL i b).getD (23 + 10 * j + c) _) = u
        by_cases hji : j = i
        · subst hji
          have hnew : roundD sel sp lo (j + 1) j = if b = true then lostRow (madeRow sel sp j) else madeRow sel sp j := by
            unfold roundD curD
            simp [hb]
          have hold : roundD sel sp lo j j = madeRow sel sp j := by
            unfold roundD curD
            simp
          have hrow := hS.rows j hj
          rw [hold] at hrow
          rw [hnew] at hc
          cases b with
          | false =>
            rw [thetaL_id (by omega) (fun h => by cases h)]
            exact hrow c u hc
          | true =>
            simp only [if_true] at hc
            match c, hc10, hc with
            | 0, _, hc => rw [thetaL_id (by omega) (fun _ => by omega)]; exact hrow 0 u hc
            | 1, _, hc => rw [thetaL_id (by omega) (fun _ => by omega)]; exact hrow 1 u hc
            | 2, _, hc => rw [thetaL_id (by omega) (fun _ => by omega)]; exact hrow 2 u hc
            | 3, _, hc => rw [thetaL_id (by omega) (fun _ => by omega)]; exact hrow 3 u hc
            | 4, _, hc => rw [thetaL_id (by omega) (fun _ => by omega)]; exact hrow 4 u hc
            | 5, _, hc => rw [thetaL_id (by omega) (fun _ => by omega)]; exact hrow 5 u hc
            | 6, _, hc => rw [thetaL_6 (by omega)]; simp only [rowT, lostRow, List.getElem?_cons_succ, List.getElem?_cons_zero, Option.some.injEq] at hc; subst hc; rfl
            | 7, _, hc => rw [thetaL_7 (by omega)]; simp only [rowT, lostRow, List.getElem?_cons_succ, List.getElem?_cons_zero, Option.some.injEq] at hc; subst hc; rfl
            | 8, _, hc => rw [thetaL_8 (by omega)]; simp only [rowT, lostRow, List.getElem?_cons_succ, List.getElem?_cons_zero, Option.some.injEq] at hc; subst hc; rfl
            | 9, _, hc => rw [thetaL_9 (by omega)]; simp only [rowT, lostRow, List.getElem?_cons_succ, List.getElem?_cons_zero, Option.some.injEq] at hc; subst hc; rfl
        · have hsame : roundD sel sp lo (i + 1) j = roundD sel sp lo i j := by
            unfold roundD curD
            have e : decide (j < i + 1) = decide (j < i) := by
              rw [decide_eq_decide]
              omega
            simp only [e]
          rw [hsame] at hc
          rw [thetaL_id (by omega) (fun _ => by omega)]
          exact hS.rows j hj c u hc
    cases hb : bitL lo i with
    | true => exact goon true hb hall.1
    | false => exact goon false hb hall.2
end
end Go.Proofs.Ytbhjhffglcipbaa
namespace Go.Proofs.Ytbhjhffglcipbaa.HW
open Go Go.Proofs.Ytbhjhffglcipbaa.AS Go.RowKit
open Go.Proofs.Ytbhjhffglcipbaa (u8V)
set_option linter.unusedVariables false
abbrev symZ (ao ap : Option Addr) (n co ns cs : Nat) (lo : Int) (sb : Nat → Int) (ws : List Win) : Sym where
  val i := if i = 1 then .slice ao n co else if i = 2 then .slice ap ns cs else if i = 3 then .int .u16 lo else if i = 9 then .int .i64 n else if i = 10 then .int .i64 ns else .int .i64 0
  cell i := by split <;> first | rfl | (split <;> first | rfl | (split <;> first | rfl | (split <;> first | rfl | (split <;> rfl))))
  wins := ws
  ext := extW ap ns sb
/-- the first state -/
theorem startZ {w : World} {ao ap : Option Addr} {n co ns cs : Nat} {lo : Int} {sb : Nat → Int} {sel : Nat → OpR} (hsp : RowsZ w ap ns 1 fun k => [u8V (sb k)]) :
    ∃ (S : Sym) (ρ : Rho), @HR S ρ stW0 w ∧ SZ S ao ap n co ns cs lo sb 0 sel := by
  have hsw : ∀ ws, (0 < ns → pinS ∈ ws) → SZ (symZ ao ap n co ns cs lo sb ws) ao ap n co ns cs lo sb 0 sel := fun ws h => ⟨rfl, rfl, rfl, rfl, rfl, fun j hj => by omega, rfl, h⟩
  rcases Nat.eq_zero_or_pos ns with h0 | hpos
  · refine ⟨symZ ao ap n co ns cs lo sb [], fun _ => none, ?_, hsw _ (fun q => by omega)⟩
    exact @HR.mk (symZ ao ap n co ns cs lo sb []) _ _ _ (fun _ _ _ _ h => by cases h) (fun _ _ _ _ _ _ _ _ _ _ h => by cases h) (fun _ _ => rfl) (Nat.zero_le _) (fun f hf => by cases hf)
  · obtain ⟨y, rfl, hys, C, t, fr, d1, d2, d3⟩ : ∃ x, ap = some x ∧ x.spot = none ∧ ∃ C t fr, w.heap[x.block]? = some (.cells C t fr) ∧ x.off + ns * 1 ≤ C.size ∧ ∀ i, i < ns → ∀ j v, ([u8V (sb i)] : List Value)[j]? = some v → C[x.off + i * 1 + j]? = some v := by
      rcases hsp with h | h
      · omega
      · exact h
    refine ⟨symZ ao (some y) n co ns cs lo sb [pinS], fun b => if b = 0 then some ⟨y.block, y.off, 0, 0, 0, true⟩ else none, ?_, hsw _ (fun _ => List.mem_cons_self ..)⟩
    refine @HR.mk (symZ ao (some y) n co ns cs lo sb [pinS]) _ _ _ ?_ ?_ ?_ (Nat.zero_le _) ?_
    · intro b o l hb hl
      obtain ⟨rfl, rfl⟩ := stW0_get hb
      have hl : some (⟨y.block, y.off, 0, 0, 0, true⟩ : AS.Loc) = some l := hl
      simp only [Option.some.injEq] at hl
      subst hl
      exact ⟨_, d1, rfl, y, rfl, rfl, C, t, fr, rfl, d2, d3⟩
    · intro b b' o o' l l' _ hb hw
      obtain ⟨_, rfl⟩ := stW0_get hb
      cases hw
    · intro b hb
      have hb' : 1 ≤ b := hb
      exact if_neg (by omega)
    · intro f hf
      have hf : f ∈ [pinS] := hf
      have hf := List.mem_singleton.1 hf
      subst hf
      exact ⟨y, ns, cs, .i64, 0, ⟨y.block, y.off, 0, 0, 0, true⟩, rfl, rfl, Int.le_refl _, by exact_mod_cast hpos, rfl, hys, rfl, by simp [pinS]⟩
theorem cur_row {sel : Nat → OpR} {sp : Nat → Option Int} {lost : Nat → Bool} {k j : Nat} (hs : SelOK (sel j)) : RowY (curD sel sp lost j) := by
  unfold curD
  split
  · exact ⟨⟨rfl, rfl, rfl, rfl, rfl⟩, hs.key, hs.lo, hs.hi, fun h => absurd h (by show ¬ (0 ≤ (-1 : Int)); decide)⟩
  · exact ⟨⟨rfl, rfl, rfl, rfl, rfl⟩, hs.key, hs.lo, hs.hi, fun _ => step_code⟩
theorem cur_val {sel : Nat → OpR} {sp : Nat → Option Int} {lost : Nat → Bool} {j : Nat} : (curD sel sp lost j).val = (sel j).val := by
  unfold curD
  split <;> rfl
end Go.Proofs.Ytbhjhffglcipbaa.HW
namespace Go.Proofs.Ytbhjhffglcipbaa
open Go Go.Proofs.Ytbhjhffglcipbaa.AS Go.Proofs.Ytbhjhffglcipbaa.HW Go.RowKit
set_option maxRecDepth 100000
set_option linter.unusedVariables false
set_option linter.unusedSimpArgs false
set_option linter.unusedSectionVars false
theorem body6 : Try.f6.body = some (Try.f6.body.getD .skip) := by kernel_rfl
theorem nt6 : Try.f6.ntmps = 87 := by kernel_rfl
theorem hmL_eq2 : hmL = hmL.take 2 ++ (hmL.getD 2 .skip :: hmL.drop 3) := by kernel_rfl
section
variable {w0 : World} {ao ap : Option Addr} {n co ns cs lo : Nat} {ops : Nat → OpR} {sb : Nat → Int}
/-- HistMade, of whatever calls: true -/
theorem made_row_calls (hops : RowsZ w0 ao n 5 fun k => (ops k).cells) (hsp : RowsZ w0 ap ns 1 fun k => [u8V (sb k)]) (hsz : ∀ i, i < n → (ops i).val.size ≤ maxLen) (hsb : ∀ i, i < ns → 0 ≤ sb i ∧ sb i < 256) (hlo : lo < 65536) :
    Calls Try.prog 6 #[.slice ao n co, .slice ap ns cs, u16 lo] w0 fun e w' => e = .returned (.bool true) ∧ Below w0.heap.size w0 w' := by
  refine calls_flat (args := [.slice ao n co, .slice ap ns cs, u16 lo]) Try.func6 body6 fun a ht hd => ?_
  show wpL Try.prog _ hmL a w0
  obtain ⟨S, ρ, hr, hS⟩ := startZ (ao := ao) (n := n) (co := co) (cs := cs) (lo := lo) (sel := ops) hsp
  have hat := AtX.start (P := Try.prog) (S := S) (X := fun _ => False) (n := Try.f6.ntmps) (vs0 := [HW.sy 1, HW.sy 2, HW.sy 3]) (fun g hg => by rw [noG] at hg; omega) hr
    (@VL.cons S _ _ _ _ _ (@VR.sym S _ 1 _ hS.hops) (@VL.cons S _ _ _ _ _ (@VR.sym S _ 2 _ hS.hspr) (@VL.cons S _ _ _ _ _ (@VR.sym S _ 3 _ hS.hlost) (@VL.nil S _)))) ht hd
    (fun b o l hb hw hl => by obtain ⟨_, rfl⟩ := stW0_get hb; cases hw)
  rw [nt6] at hat
  have hat : AtX Try.prog S (fun _ => False) w0.heap.size w0 stW0 (TM.of [HW.sy 1, HW.sy 2, HW.sy 3] 87 ok87).toL a w0 := by
    rw [@TM.of_toL mute _ _ _ (show 3 ≤ 87 by decide)]; exact hat
  have hO : ∀ b, decide ((n : Int) > 10) = b → @OrcOK S (orcC Try.prog lensM [⟨.gtr, 3, HW.sy 9, HW.i64 10, .bool b⟩] [] []) Try.prog := by
    intro b hb
    refine orcC_ok _ _ _ _ _ hS.len ?_ (fun f hf => by cases hf) (fun f hf => by cases hf)
    intro f hf
    simp only [List.mem_cons, List.not_mem_nil, or_false] at hf
    subst hf
    exact FactOK.int (k := .i64) (x := n) (y := 10) hS.hn rfl (by simp [intR, conc, ← hb]) (.inl rfl)
  have hO2 : @OrcOK S (orcC Try.prog lensM [] [] []) Try.prog := orcC_ok _ _ _ _ _ hS.len (fun f hf => by cases hf) (fun f hf => by cases hf) (fun f hf => by cases hf)
  by_cases hn : n ≤ 10
  · have hp := z_start
    unfold phaseZ0 at hp
    split at hp
    case h_2 => cases hp
    rename_i t1 σ1 hrun
    rw [hmL_eq]
    refine AtX.runL _ (hO false (by simp; omega)) mixed26 (ovA_ok S) ovA_kept _ hrun hat fun a1 w1 hat1 => ?_
    obtain ⟨hθ, ws, hws, hat2⟩ := hat1.restateP (f := pinS) (c := 0 < ns) hp hS.pin rfl rfl rfl
    refine wp_block (@SimC.wp plainSym mute _ (mute_ok _) (.loop hmB) _ _ _ ?_)
    refine filter_loop (co := co) (cs := cs) (lo := lo) (sb := sb) (ap := ap) (ns := ns) hops hn hsz ?_ n 0 0 ops _ a1 w1 (by omega) (by omega) (by omega) ?_ ?_ (fun j hj => by omega) hat2
    · intro S σ t a2 w2 k sel hk hS hm hsel hat3 hp2
      show wpL Try.prog (bodyPost Try.prog Try.f6 (fun e w' => e = Ending.returned (Value.bool true) ∧ Below w0.heap.size w0 w')) ((hmL.drop 6).take 4 ++ ([.block 2 (.loop hmB2)] ++ ((hmL.drop 11).take 1 ++ [.ret]))) a2 w2
      split at hp2
      case h_2 => cases hp2
      rename_i t3 σ3 hrun3
      have hw : ∀ i x, spF ns sb i = some x → 0 ≤ x ∧ x < 256 := by
        intro i x h
        unfold spF at h
        split at h
        · rename_i hi
          simp only [Option.some.injEq] at h
          subst h
          exact hsb i hi
        · cases h
      have hO3 : @OrcOK S (orcC Try.prog lensM [] [] []) Try.prog := orcC_ok _ _ _ _ _ hS.len (fun f hf => by cases hf) (fun f hf => by cases hf) (fun f hf => by cases hf)
      refine AtX.runL _ hO3 mixed26 ?_ ?_ _ hrun3 hat3 fun a4 w4 hat4 => ?_
      · intro f g h
        unfold ovB1 at h
        split at h
        · rename_i e
          have e := of_beq e
          simp only [Option.some.injEq] at h
          subst h e
          exact madeZ_ok hS hk hm
        · split at h
          · rename_i e
            have e := of_beq e
            simp only [Option.some.injEq] at h
            subst h e
            exact linB_ok (D := madeRow sel (spF ns sb)) hk (fun j hj => ⟨rfl, rfl, rfl, rfl, rfl⟩) hm (fun j hj => (hsel j hj).size) (made_lin hk hw)
          · cases h
      · intro f g h
        unfold ovB1 at h
        split at h
        · simp only [Option.some.injEq] at h
          subst h
          exact madeZ_kept k
        · split at h
          · simp only [Option.some.injEq] at h
            subst h
            exact linB_kept 80 k
          · cases h
      obtain ⟨hθ1, hat5⟩ := hat4.restate hp2
      have r3 : (Sym.of S _ hθ1).val 3 = u16 lo := by
        show conc S ((thetaC k).getD 3 _) = _
        rw [thetaC_low (by omega)]
        exact hS.hlost
      have rr : ∀ j, j < k → ∀ c u, (rowT (madeRow sel (spF ns sb) j))[c]? = some u → (Sym.of S _ hθ1).val (23 + 10 * j + c) = u := by
        intro j hj c u hc
        have hc10 : c < 10 := (List.getElem?_eq_some_iff.1 hc).1
        show conc S ((thetaC k).getD (23 + 10 * j + c) _) = u
        rw [Nat.add_assoc, thetaC_row (by omega), ← Nat.add_assoc]
        exact hm j hj c u hc
      generalize Sym.of S _ hθ1 = S1 at hat5 r3 rr
      have hθ3 := thetaP_ok (b := 123) (bitsT_leaf (lo := lo) 10)
      have hat6 := hat5.tell hθ3 (tellB (by omega))
      have hSC : SC (Sym.of S1 _ hθ3) lo k (roundD sel (spF ns sb) lo 0) := by
        refine ⟨?_, ?_, ?_⟩
        · show conc S1 ((thetaP 123 _).getD 3 _) = _
          rw [thetaP_low (by omega)]
          exact r3
        · intro i hi
          constructor
          · show conc S1 ((thetaP 123 (bitsT lo 10)).getD (123 + 2 * i) _) = _
            rw [thetaP_high, List.getD_eq_getElem?_getD, show 2 * i = 2 * i + 0 by omega, bitsT_get hi (by omega)]
            rfl
          · show conc S1 ((thetaP 123 (bitsT lo 10)).getD (124 + 2 * i) _) = _
            rw [show 124 + 2 * i = 123 + (2 * i + 1) by omega, thetaP_high, List.getD_eq_getElem?_getD, bitsT_get hi (by omega)]
            rfl
        · intro j hj c u hc
          have hc10 : c < 10 := (List.getElem?_eq_some_iff.1 hc).1
          show conc S1 ((thetaP 123 _).getD (23 + 10 * j + c) _) = u
          rw [thetaP_low (by omega)]
          refine rr j hj c u ?_
          have e : roundD sel (spF ns sb) lo 0 j = madeRow sel (spF ns sb) j := by
            unfold roundD curD
            simp
          rw [e] at hc
          exact hc
      refine wp_block (@SimC.wp plainSym mute _ (mute_ok _) (.loop hmB2) _ _ _ ?_)
      refine lost_loop (sel := sel) (sp := spF ns sb) hk hlo ?_ k 0 _ a4 w4 (by omega) (by omega) hSC hat6
      intro S σ t a7 w7 g1 g2 hat7 hp7
      show wpL Try.prog (bodyPost Try.prog Try.f6 (fun e w' => e = Ending.returned (Value.bool true) ∧ Below w0.heap.size w0 w')) ((hmL.drop 11).take 1 ++ [.ret]) a7 w7
      split at hp7
      case h_2 => cases hp7
      rename_i t8 σ8 hrun8
      have hO8 : @OrcOK S (orcC Try.prog [] [] [] []) Try.prog := orcC_ok _ _ _ _ _ (fun f hf => by cases hf) (fun f hf => by cases hf) (fun f hf => by cases hf) (fun f hf => by cases hf)
      have hplen := pkF_len (D := curD sel (spF ns sb) (bitL lo)) k
      have hpk : ∀ j, j < (pkF (curD sel (spF ns sb) (bitL lo)) k).length → ∃ i, i < k ∧ (pkF (curD sel (spF ns sb) (bitL lo)) k).getD j (curD sel (spF ns sb) (bitL lo) 0) = curD sel (spF ns sb) (bitL lo) i := by
        intro j hj
        have hget : (pkF (curD sel (spF ns sb) (bitL lo)) k)[j]? = some ((pkF (curD sel (spF ns sb) (bitL lo)) k).getD j (curD sel (spF ns sb) (bitL lo) 0)) := by
          rw [List.getD_eq_getElem?_getD, List.getElem?_eq_getElem hj]; rfl
        exact pkF_mem (List.mem_of_getElem? hget)
      refine AtX.runL _ hO8 mixed26 ?_ ?_ _ hrun8 hat7 fun a9 w9 hat9 => ?_
      · intro f g h
        unfold ovB2 at h
        split at h
        · rename_i e
          have e := of_beq e
          simp only [Option.some.injEq] at h
          subst h e
          exact keyZ_ok (D := curD sel (spF ns sb) (bitL lo)) hk (fun j hj => cur_row (k := k) (hsel j hj)) g1 rfl g2
        · split at h
          · rename_i e
            have e := of_beq e
            simp only [Option.some.injEq] at h
            subst h e
            refine linB_ok (D := fun j => (pkF (curD sel (spF ns sb) (bitL lo)) k).getD j (curD sel (spF ns sb) (bitL lo) 0)) (by omega) (fun j hj => ?_) g2 (fun j hj => ?_) (lost_lin hk hw)
            · obtain ⟨i, hi, e⟩ := hpk j hj
              show StdD ((pkF (curD sel (spF ns sb) (bitL lo)) k).getD j (curD sel (spF ns sb) (bitL lo) 0))
              rw [e]
              exact (cur_row (k := k) (hsel i hi)).std
            · obtain ⟨i, hi, e⟩ := hpk j hj
              show ((pkF (curD sel (spF ns sb) (bitL lo)) k).getD j (curD sel (spF ns sb) (bitL lo) 0)).val.size ≤ maxLen
              rw [e, cur_val]
              exact (hsel i hi).size
          · cases h
      · intro f g h
        unfold ovB2 at h
        split at h
        · simp only [Option.some.injEq] at h
          subst h
          exact keyZ_kept k _
        · split at h
          · simp only [Option.some.injEq] at h
            subst h
            exact linB_kept 150 _
          · cases h
      rw [wpL_one]
      refine wp_ret ?_
      exact hat9.done (.inr rfl) (by rw [@resultsT_eq mute]; exact isTrue2_eq hp7) fun ρ v' hv => ⟨by rw [@VR.inv_leaf S ρ _ _ hv rfl], hat9.below⟩
    · exact ⟨hS.hops, hS.hspr, hS.hlost, hS.hn, hS.hns, fun j hj => by omega, hS.ext, hws⟩
    · show conc S ((thetaW 0 (HW.i64 0) []).getD 8 _) = _
      rw [thetaW_8]
      rfl
  · have hp := z_full
    unfold phaseZx at hp
    split at hp
    case h_2 => cases hp
    rename_i t1 σ1 hrun
    split at hp
    case h_2 => cases hp
    rename_i t2 σ2 hrun2
    rw [hmL_eq2]
    refine AtX.runL _ (hO true (by simp; omega)) mixed26 (ovA_ok S) ovA_kept _ hrun hat fun a1 w1 hat1 => ?_
    refine AtX.run _ hO2 mixed26 (ovA_ok S) ovA_kept hrun2 hat1 fun a2 w2 hat2 => ?_
    show bodyPost Try.prog Try.f6 (fun e w' => e = Ending.returned (Value.bool true) ∧ Below w0.heap.size w0 w') Exit.ret a2 w2
    exact hat2.done (.inr rfl) (by rw [@resultsT_eq mute]; exact isTrue2_eq hp) fun ρ v' hv => ⟨by rw [@VR.inv_leaf S ρ _ _ hv rfl], hat2.below⟩
end
end Go.Proofs.Ytbhjhffglcipbaa
