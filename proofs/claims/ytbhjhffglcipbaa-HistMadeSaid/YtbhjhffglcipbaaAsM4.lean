import Derived.Test.YtbhjhffglcipbaaAsG4
import Derived.Test.YtbhjhffglcipbaaAsM2a
import Derived.Test.YtbhjhffglcipbaaAsM2b
import Derived.Test.YtbhjhffglcipbaaAsM2c
import Derived.Test.YtbhjhffglcipbaaAsM2d
namespace Go.Proofs.Ytbhjhffglcipbaa.HW
open Go Go.Proofs.Ytbhjhffglcipbaa.AS Go.RowKit
open Go.Proofs.Ytbhjhffglcipbaa (allM waysM)
set_option linter.unusedVariables false
set_option linter.unusedSimpArgs false
set_option linter.unusedSectionVars false
/-! ## Made: what it answers -/
structure OpR where
  kind : Int
  (key val old : ByteArray)
  hasOld : Bool
def OpR.cells (o : OpR) : List Value := [i64 o.kind, .string o.key, .string o.val, .string o.old, .bool o.hasOld]
def kcOf (k : Int) : Nat := if k = 1 then 1 else if k = 2 then 2 else if k = 3 then 3 else 4
def stepF (o : OpR) (v : Bool × ByteArray) : (Bool × ByteArray) × Int × (ByteArray × Bool) := stepX v.1 (kcOf o.kind) (mtB v.1 o.hasOld (v.2.toList == o.old.toList)) v.2 o.val ⟨#[]⟩
def valsF (ops : Nat → OpR) : Nat → Bool × ByteArray
  | 0 => (false, ⟨#[]⟩)
  | i + 1 => (stepF (ops i) (valsF ops i)).1
def wI (x : Int) : Int := IntKind.i64.wrap x
/-- the step at which a call comes, and that at which it is done -/
def frmF (i : Nat) (w : Option Int) : Int := match w with | some w => wI (atM i - (wI w).tmod 40) | none => atM i
def toF (i : Nat) (w : Option Int) : Int := match w with | some w => wI (atM i + wI (wI ((wI w).tdiv 40) * 10)) | none => atM i
def madeRow (ops : Nat → OpR) (sp : Nat → Option Int) (i : Nat) : DR :=
  let r := stepF (ops i) (valsF ops i)
  ⟨i64 0, i64 0, i64 0, i64 0, (ops i).kind, (ops i).key, (ops i).val, (ops i).old, (ops i).hasOld, frmF i (sp i), toF i (sp i), r.2.1, r.2.2.1, r.2.2.2, .complex .f64 0 0⟩
/-- the ten cells of a row that are symbols -/
def rowT (d : DR) : List Value := [i64 d.kind, .string d.key, .string d.val, .string d.old, .bool d.hasOld, i64 d.frm, i64 d.to, i64 d.code, .string d.told, .bool d.has]
/-- rows of z cells each that a slice is -/
def RowsZ (w : World) (a : Option Addr) (n z : Nat) (row : Nat → List Value) : Prop :=
  n = 0 ∨ ∃ x, a = some x ∧ x.spot = none ∧ ∃ C t fr, w.heap[x.block]? = some (.cells C t fr) ∧ x.off + n * z ≤ C.size ∧ ∀ i, i < n → ∀ j v, (row i)[j]? = some v → C[x.off + i * z + j]? = some v

theorem kc_cases (k : Int) : (kcOf k = 1 ∧ k = 1) ∨ (kcOf k = 2 ∧ k = 2) ∨ (kcOf k = 3 ∧ k = 3) ∨ (kcOf k = 4 ∧ k ≠ 1 ∧ k ≠ 2 ∧ k ≠ 3) := by
  unfold kcOf
  by_cases h1 : k = 1
  · subst h1; exact .inl ⟨rfl, rfl⟩
  · by_cases h2 : k = 2
    · subst h2; exact .inr (.inl ⟨rfl, rfl⟩)
    · by_cases h3 : k = 3
      · subst h3; exact .inr (.inr (.inl ⟨rfl, rfl⟩))
      · exact .inr (.inr (.inr ⟨by simp [h1, h2, h3], h1, h2, h3⟩))
/-- every way of a round -/
theorem phaseM_all {P : Program} {code : List Code} {i : Nat} (h : allM P code i = true) {kc : Nat} (hk : kc = 1 ∨ kc = 2 ∨ kc = 3 ∨ kc = 4) (has ho eq inr : Bool) : phaseM P code i kc has ho eq inr = true := by
  have h := List.all_eq_true.1 h
  have key : ∀ kc has ho eq, (kc, has, ho, eq) ∈ waysM → phaseM P code i kc has ho eq inr = true := by
    intro kc has ho eq hm
    have := h _ hm
    simp only [Bool.and_eq_true] at this
    cases inr
    · exact this.1
    · exact this.2
  rcases hk with rfl | rfl | rfl | rfl
  · cases has
    · exact key 1 false true true (by decide)
    · exact key 1 true true true (by decide)
  · cases has
    · exact key 2 false true true (by decide)
    · exact key 2 true true true (by decide)
  · cases has
    · exact key 3 false true true (by decide)
    · exact key 3 true true true (by decide)
  · cases has <;> cases ho
    · exact key 4 false false true (by decide)
    · exact key 4 false true true (by decide)
    · exact key 4 true false true (by decide)
    · cases eq
      · exact key 4 true true false (by decide)
      · exact key 4 true true true (by decide)
/-- a step, told by symbols -/
theorem stepX_conc {S : Sym} {has : Bool} {kc : Nat} {mt : Bool} {v val : ByteArray} (h5 : S.val 5 = .string v) (h13 : S.val 13 = .string val) :
    (stepX has kc mt (sy 5) (sy 13) emp).1.1 = (stepX has kc mt v val ⟨#[]⟩).1.1 ∧ conc S (stepX has kc mt (sy 5) (sy 13) emp).1.2 = .string (stepX has kc mt v val ⟨#[]⟩).1.2 ∧ (stepX has kc mt (sy 5) (sy 13) emp).2.1 = (stepX has kc mt v val ⟨#[]⟩).2.1 ∧
      conc S (stepX has kc mt (sy 5) (sy 13) emp).2.2.1 = .string (stepX has kc mt v val ⟨#[]⟩).2.2.1 ∧ (stepX has kc mt (sy 5) (sy 13) emp).2.2.2 = (stepX has kc mt v val ⟨#[]⟩).2.2.2 := by
  have e5 : conc S (sy 5) = .string v := h5
  have e13 : conc S (sy 13) = .string val := h13
  have ee : conc S emp = .string ⟨#[]⟩ := rfl
  unfold stepX
  split
  · cases has
    · exact ⟨rfl, e5, rfl, ee, rfl⟩
    · exact ⟨rfl, e5, rfl, e5, rfl⟩
  · exact ⟨rfl, e13, rfl, ee, rfl⟩
  · exact ⟨rfl, ee, rfl, ee, rfl⟩
  · cases mt
    · exact ⟨rfl, e5, rfl, e5, rfl⟩
    · exact ⟨rfl, e13, rfl, ee, rfl⟩
theorem thetaM_5 {i : Nat} {v e : Value} {row : List Value} : (thetaM i v row).getD 5 e = v := by
  unfold thetaM
  rw [List.getD_eq_getElem?_getD, List.getElem?_append_left (by simp)]
  simp
theorem thetaM_low {i k : Nat} {v e : Value} {row : List Value} (hk : k < 23) (h5 : k ≠ 5) : (thetaM i v row).getD k e = sy k := by
  unfold thetaM
  rw [List.getD_eq_getElem?_getD, List.getElem?_append_left (by simpa using hk), List.getElem?_set_ne (by omega)]
  simp [hk]
theorem thetaM_old {i j : Nat} {v e : Value} {row : List Value} (hj : j < 10 * i) : (thetaM i v row).getD (23 + j) e = sy (23 + j) := by
  unfold thetaM
  rw [List.getD_eq_getElem?_getD, List.getElem?_append_right (by simp), List.getElem?_append_left (by simp; omega)]
  simp [hj]
theorem thetaM_new {i c : Nat} {v e : Value} {row : List Value} : (thetaM i v row).getD (23 + 10 * i + c) e = row.getD c e := by
  unfold thetaM
  rw [List.getD_eq_getElem?_getD, List.getElem?_append_right (by simp; omega), List.getElem?_append_right (by simp; omega), List.getD_eq_getElem?_getD]
  congr 2
  simp
  omega
theorem thetaT_old {i j : Nat} {a0 a1 a2 a3 a4 b0 b1 b2 b3 b4 b5 b6 e : Value} (hj : j < 10 * i) : (thetaT i a0 a1 a2 a3 a4 b0 b1 b2 b3 b4 b5 b6).getD (23 + j) e = sy (23 + j) := by
  unfold thetaT
  rw [List.getD_eq_getElem?_getD, List.getElem?_append_right (by simp)]
  simp [hj]
theorem thetaT_ok {i : Nat} {a0 a1 a2 a3 a4 b0 b1 b2 b3 b4 b5 b6 : Value} (h : [a0, a1, a2, a3, a4, b0, b1, b2, b3, b4, b5, b6].all AS.leaf = true) : (thetaT i a0 a1 a2 a3 a4 b0 b1 b2 b3 b4 b5 b6).all okθ = true := by
  have hl : ∀ x ∈ [a0, a1, a2, a3, a4, b0, b1, b2, b3, b4, b5, b6], okθ x = true := fun x hx => leaf_ok (List.all_eq_true.1 h x hx)
  unfold thetaT
  rw [List.all_append, Bool.and_eq_true, List.all_eq_true]
  constructor
  · intro x hx
    have e : ([i64 0, sy 1, sy 2, sy 3, sy 4, sy 5, sy 6, sy 7, sy 8, sy 9, sy 10, a0, a1, a2, a3, a4, b0, b1, b2, b3, b4, b5, b6] : List Value) = [i64 0, sy 1, sy 2, sy 3, sy 4, sy 5, sy 6, sy 7, sy 8, sy 9, sy 10] ++ [a0, a1, a2, a3, a4, b0, b1, b2, b3, b4, b5, b6] := rfl
    rw [e] at hx
    rcases List.mem_append.1 hx with hx | hx
    · simp only [List.mem_cons, List.not_mem_nil, or_false] at hx
      rcases hx with rfl | rfl | rfl | rfl | rfl | rfl | rfl | rfl | rfl | rfl | rfl <;> rfl
    · exact hl x hx
  · rw [List.all_eq_true]
    intro x hx
    obtain ⟨j, _, rfl⟩ := List.mem_map.1 hx
    rfl
theorem new_rowM {i : Nat} {has : Bool} {ho : Value} : (stM i has).new (.blk (rowM ho) 0 true none) = some (2, stMr i has ho) := by rfl
theorem new_rowMs {i : Nat} {has : Bool} {ho : Value} : (stMr i has ho).new (.blk [sy 16] 0 true none) = some (3, stMs i has ho) := by rfl

/-- what the symbols stand for in Made -/
structure SM (S : Sym) (ao ap : Option Addr) (n co ns cs : Nat) (ops : Nat → OpR) (sp : Nat → Option Int) (i : Nat) : Prop where
  hops : S.val 1 = .slice ao n co
  hspr : S.val 2 = .slice ap ns cs
  hn : S.val 9 = i64 n
  hns : S.val 10 = i64 ns
  v : S.val 5 = .string (valsF ops i).2
  rows : ∀ j, j < i → ∀ c u, (rowT (madeRow ops sp j))[c]? = some u → S.val (23 + 10 * j + c) = u
theorem SM.len {S : Sym} {ao ap : Option Addr} {n co ns cs i : Nat} {ops : Nat → OpR} {sp : Nat → Option Int} (h : SM S ao ap n co ns cs ops sp i) : ∀ y ∈ lensM, LenOK S y := by
  intro y hy
  simp only [lensM, List.mem_cons, List.not_mem_nil, or_false] at hy
  rcases hy with rfl | rfl
  · exact ⟨⟨_, _, _, h.hops, h.hn⟩, .inr rfl⟩
  · exact ⟨⟨_, _, _, h.hspr, h.hns⟩, .inr rfl⟩
end Go.Proofs.Ytbhjhffglcipbaa.HW
namespace Go.Proofs.Ytbhjhffglcipbaa.AS
open Go Go.RowKit
set_option linter.unusedVariables false
/-- the body is done: what it answers, and what is known of the world -/
theorem AtX.done2 {P : Program} {S : Sym} {X : Nat → Prop} {B : Nat} {W : World} {σ : St} {tm : List Value} {a : Act} {w : World} {fn : Func} {v : Value} {R : Ending → World → Prop} {e : Exit} (he : e = .normal ∨ e = .ret) (hat : AtX P S X B W σ tm a w) (hres : resultsV P fn σ tm = some v)
    (hR : ∀ (ρ : Rho) (v' : Value), AtXR P S X B W ρ σ tm a w → @VR S ρ v v' → R (.returned v') w) : bodyPost P fn R e a w := by
  obtain ⟨ρ, h⟩ := hat
  obtain ⟨v', q1, q2⟩ := @results_sim S mute P (mute_ok S) ρ σ w tm a.tmps fn v h.hr h.vl hres
  rcases he with rfl | rfl
  · exact ⟨h.df, v', q1, hR ρ v' h q2⟩
  · exact ⟨h.df, v', q1, hR ρ v' h q2⟩
end Go.Proofs.Ytbhjhffglcipbaa.AS
namespace Go.Proofs.Ytbhjhffglcipbaa
open Go Go.Proofs.Ytbhjhffglcipbaa.AS Go.Proofs.Ytbhjhffglcipbaa.HW Go.RowKit
set_option maxRecDepth 100000
set_option linter.unusedVariables false
set_option linter.unusedSimpArgs false
set_option linter.unusedSectionVars false
theorem body13 : Try.f13.body = some (Try.f13.body.getD .skip) := by kernel_rfl
theorem nt13 : Try.f13.ntmps = 66 := by kernel_rfl
theorem u5 : Try.prog.underlying 5 = some (.int .u8) := by kernel_rfl
theorem u3 : Try.prog.underlying 3 = some (.int .i64) := by kernel_rfl
theorem m_all {i : Nat} (hi : i < 10) : allM Try.prog maLb i = true := by
  match i, hi with
  | 0, _ => exact m_all0
  | 1, _ => exact m_all1
  | 2, _ => exact m_all2
  | 3, _ => exact m_all3
  | 4, _ => exact m_all4
  | 5, _ => exact m_all5
  | 6, _ => exact m_all6
  | 7, _ => exact m_all7
  | 8, _ => exact m_all8
  | 9, _ => exact m_all9
def u8V (x : Int) : Value := .int .u8 x
/-- the spread at i, if there is one -/
def spF (ns : Nat) (sb : Nat → Int) (i : Nat) : Option Int := if i < ns then some (sb i) else none
section
variable {w0 : World} {ao ap : Option Addr} {n co ns cs : Nat} {ops : Nat → OpR} {sb : Nat → Int}
theorem made_loop {Q : Exit → Act → World → Prop} (hops : RowsZ w0 ao n 5 fun k => (ops k).cells) (hsp : RowsZ w0 ap ns 1 fun k => [u8V (sb k)]) (hn : n ≤ 10)
    (hQe : ∀ S σ (t : TM) a w, SM S ao ap n co ns cs ops (spF ns sb) n → AtX Try.prog S (fun _ => False) w0.heap.size w0 σ t.toL a w →
      (match @runLT (orcC Try.prog lensM [] [] []) Try.prog ov0 600 ((maL.drop 5).take 1) t σ with
      | some (t, σ) => ansM n (resultsT Try.prog Try.f13 σ t) σ
      | none => false) = true → Q (.exit 0) a w) :
    ∀ (d : Nat) (i : Nat) (S : Sym) (a : Act) (w : World), n - i = d → i ≤ n → SM S ao ap n co ns cs ops (spF ns sb) i →
      AtX Try.prog S (fun _ => False) w0.heap.size w0 (stM i (valsF ops i).1) (tmM i) a w → InLoop Try.prog maB Q a w := by
  intro d
  induction d with
  | zero =>
    intro i S a w hd hi hS hat
    have hin : i = n := by omega
    subst hin
    refine @inLoop_of_wp plainSym mute _ (mute_ok _) _ _ _ _ (wp_flat _ _ _ _ ?_)
    show wpL Try.prog _ maLb a w
    have htm : (TM.of (tmM i) 66 ok66).toL = tmM i := by
      rw [@TM.of_toL mute _ _ _ (by simp [tmM, slots])]
      simp [tmM, slots]
    rw [← htm] at hat
    have hp := bools_all (List.all_eq_true.1 m_end i (List.mem_range.2 (by omega))) (valsF ops i).1
    unfold phaseMe at hp
    split at hp
    case h_2 => cases hp
    rename_i t1 σ1 hrun
    split at hp
    case h_2 => cases hp
    rename_i id t2 σ2 hrun2
    simp only [Bool.and_eq_true] at hp
    obtain ⟨hid, hp⟩ := hp
    have hid := of_beq hid
    subst hid
    have hO : @OrcOK S (orcC Try.prog lensM [⟨.lss, 3, HW.i64 i, HW.sy 9, .bool false⟩] [] []) Try.prog := by
      refine orcC_ok _ _ _ _ _ hS.len ?_ (fun f hf => by cases hf) (fun f hf => by cases hf)
      intro f hf
      simp only [List.mem_cons, List.not_mem_nil, or_false] at hf
      subst hf
      exact FactOK.int (k := .i64) (x := i) (y := i) rfl hS.hn (by simp [intR, conc]) (.inl rfl)
    have hO2 : @OrcOK S (orcC Try.prog lensM [] [] []) Try.prog := orcC_ok _ _ _ _ _ hS.len (fun f hf => by cases hf) (fun f hf => by cases hf) (fun f hf => by cases hf)
    rw [maLb_eq1]
    refine AtX.runL _ hO mixed26 (fun _ _ h => by cases h) (fun _ _ h => by cases h) _ hrun hat fun a' w' hat3 => ?_
    refine AtX.run _ hO2 mixed26 (fun _ _ h => by cases h) (fun _ _ h => by cases h) hrun2 hat3 fun a2 w2 hat4 => ?_
    exact hQe S σ2 t2 a2 w2 hS hat4 hp
  | succ d ih =>
    intro i S a w hd hi hS hat
    have hin : i < n := by omega
    have hi10 : i < 10 := by omega
    obtain ⟨x, rfl, hxs, C, ct, fr, c1, c2, c3⟩ : ∃ x, ao = some x ∧ x.spot = none ∧ ∃ C t fr, w0.heap[x.block]? = some (.cells C t fr) ∧ x.off + n * 5 ≤ C.size ∧ ∀ i, i < n → ∀ j v, ((ops i).cells)[j]? = some v → C[x.off + i * 5 + j]? = some v := by
      rcases hops with h | h
      · omega
      · exact h
    have hxB : x.block < w0.heap.size := (Array.getElem?_eq_some_iff.1 c1).1
    -- the symbols of this round
    let o := ops i
    let wv := wI (sb i)
    have hθ : (thetaT i (HW.i64 o.kind) (.string o.key) (.string o.val) (.string o.old) (.bool o.hasOld) (u8V (sb i)) (HW.i64 wv) (HW.i64 (wv.tmod 40)) (HW.i64 (wI (wv.tdiv 40))) (HW.i64 (wI (atM i - wv.tmod 40))) (HW.i64 (wI (wI (wv.tdiv 40) * 10))) (HW.i64 (wI (atM i + wI (wI (wv.tdiv 40) * 10))))).all okθ = true := thetaT_ok rfl
    have hat1 := hat.tell hθ (tellM hi10)
    have hS1 : SM (Sym.of S _ hθ) (some x) ap n co ns cs ops (spF ns sb) i := ⟨hS.hops, hS.hspr, hS.hn, hS.hns, hS.v, fun j hj c u hc => by
      have hc10 : c < 10 := (List.getElem?_eq_some_iff.1 hc).1
      show conc S ((thetaT i _ _ _ _ _ _ _ _ _ _ _ _).getD (23 + 10 * j + c) _) = u
      rw [Nat.add_assoc, thetaT_old (by omega), ← Nat.add_assoc]
      exact hS.rows j hj c u hc⟩
    have g11 : (Sym.of S _ hθ).val 11 = HW.i64 o.kind := rfl
    have g12 : (Sym.of S _ hθ).val 12 = .string o.key := rfl
    have g13 : (Sym.of S _ hθ).val 13 = .string o.val := rfl
    have g14 : (Sym.of S _ hθ).val 14 = .string o.old := rfl
    have g15 : (Sym.of S _ hθ).val 15 = .bool o.hasOld := rfl
    have g16 : (Sym.of S _ hθ).val 16 = u8V (sb i) := rfl
    have g17 : (Sym.of S _ hθ).val 17 = HW.i64 wv := rfl
    have g18 : (Sym.of S _ hθ).val 18 = HW.i64 (wv.tmod 40) := rfl
    have g19 : (Sym.of S _ hθ).val 19 = HW.i64 (wI (wv.tdiv 40)) := rfl
    have g20 : (Sym.of S _ hθ).val 20 = HW.i64 (wI (atM i - wv.tmod 40)) := rfl
    have g21 : (Sym.of S _ hθ).val 21 = HW.i64 (wI (wI (wv.tdiv 40) * 10)) := rfl
    have g22 : (Sym.of S _ hθ).val 22 = HW.i64 (wI (atM i + wI (wI (wv.tdiv 40) * 10))) := rfl
    generalize Sym.of S _ hθ = S1 at hat1 hS1 g11 g12 g13 g14 g15 g16 g17 g18 g19 g20 g21 g22
    obtain ⟨ρw, hw⟩ := hat1
    have hwx : w.heap[x.block]? = some (.cells C ct fr) := (hw.keep x.block hxB (fun q => q)).trans c1
    have gho : ∀ ρ : Rho, @VR S1 ρ (hoV (kcOf o.kind) o.hasOld) (.bool o.hasOld) := by
      intro ρ
      unfold hoV
      split
      · exact @VR.leaf S1 ρ _ rfl
      · exact @VR.sym S1 ρ 15 _ g15
    have hat2 := AtX.window (k := HW.i64 i) ⟨ρw, hw⟩ (new_rowM (ho := hoV (kcOf o.kind) o.hasOld)) (z := 5) hS1.hops (kd := .i64) (i := (i : Int)) rfl (by omega) (by omega) hxs rfl hxB (fun q => q) hwx (by simp only [Int.toNat_natCast]; omega) (fun j u hu => by
      have hj : j < 5 := (List.getElem?_eq_some_iff.1 hu).1
      have hv : ((ops i).cells)[j]? = some (((ops i).cells)[j]'hj) := List.getElem?_eq_getElem _
      refine ⟨_, by simp only [Int.toNat_natCast]; exact c3 i hin j _ hv, fun ρ => ?_⟩
      match j, hj, hu with
      | 0, _, hu => simp only [rowM, List.getElem?_cons_zero, Option.some.injEq] at hu; subst hu; exact @VR.sym S1 ρ 11 _ g11
      | 1, _, hu => simp only [rowM, List.getElem?_cons_succ, List.getElem?_cons_zero, Option.some.injEq] at hu; subst hu; exact @VR.sym S1 ρ 12 _ g12
      | 2, _, hu => simp only [rowM, List.getElem?_cons_succ, List.getElem?_cons_zero, Option.some.injEq] at hu; subst hu; exact @VR.sym S1 ρ 13 _ g13
      | 3, _, hu => simp only [rowM, List.getElem?_cons_succ, List.getElem?_cons_zero, Option.some.injEq] at hu; subst hu; exact @VR.sym S1 ρ 14 _ g14
      | 4, _, hu => simp only [rowM, List.getElem?_cons_succ, List.getElem?_cons_zero, Option.some.injEq] at hu; subst hu; exact gho ρ)
    -- whatever windows there are: the run
    have goon : ∀ (S2 : Sym) (inr : Bool) (σ2 : St), σ2 = (if inr then stMs i (valsF ops i).1 (hoV (kcOf o.kind) o.hasOld) else stMr i (valsF ops i).1 (hoV (kcOf o.kind) o.hasOld)) → inr = decide (i < ns) → (∀ j, S2.val j = S1.val j) → (∀ f ∈ winsM i inr, f ∈ S2.wins) →
        AtX Try.prog S2 (fun _ => False) w0.heap.size w0 σ2 (tmM i) a w → InLoop Try.prog maB Q a w := by
      intro S2 inr σ2 hσ hinr hval hwin hat3
      have hS2 : SM S2 (some x) ap n co ns cs ops (spF ns sb) i := ⟨(hval _).trans hS1.hops, (hval _).trans hS1.hspr, (hval _).trans hS1.hn, (hval _).trans hS1.hns, (hval _).trans hS1.v, fun j hj c u hc => (hval _).trans (hS1.rows j hj c u hc)⟩
      have k11 := (hval 11).trans g11
      have k12 := (hval 12).trans g12
      have k13 := (hval 13).trans g13
      have k14 := (hval 14).trans g14
      have k15 := (hval 15).trans g15
      have k16 := (hval 16).trans g16
      have k17 := (hval 17).trans g17
      have k18 := (hval 18).trans g18
      have k19 := (hval 19).trans g19
      have k20 := (hval 20).trans g20
      have k21 := (hval 21).trans g21
      have k22 := (hval 22).trans g22
      have hkc := kc_cases o.kind
      have hk4 : kcOf o.kind = 1 ∨ kcOf o.kind = 2 ∨ kcOf o.kind = 3 ∨ kcOf o.kind = 4 := hkc.imp (·.1) fun h => h.imp (·.1) fun h => h.imp (·.1) (·.1)
      have hp := phaseM_all (m_all hi10) hk4 (valsF ops i).1 o.hasOld ((valsF ops i).2.toList == o.old.toList) inr
      unfold phaseM at hp
      split at hp
      case h_2 => cases hp
      rename_i t1 σ1 hrun
      rw [← hσ] at hrun
      have hkind : ∀ f ∈ kindF (kcOf o.kind), FactOK Try.prog S2 f := by
        have fk : ∀ c b, decide (o.kind = c) = b → FactOK Try.prog S2 ⟨.eql, 3, HW.sy 11, HW.i64 c, .bool b⟩ := fun c b hb => FactOK.int (k := .i64) (x := o.kind) (y := c) k11 rfl (by simp [intR, conc, hb]) (.inl rfl)
        intro f hf
        rcases hkc with ⟨e, h⟩ | ⟨e, h⟩ | ⟨e, h⟩ | ⟨e, h1, h2, h3⟩
        · rw [e] at hf
          simp only [kindF, List.mem_cons, List.not_mem_nil, or_false] at hf
          subst hf
          exact fk 1 true (by simp [h])
        · rw [e] at hf
          simp only [kindF, List.mem_cons, List.not_mem_nil, or_false] at hf
          rcases hf with rfl | rfl
          · exact fk 1 false (by simp [h])
          · exact fk 2 true (by simp [h])
        · rw [e] at hf
          simp only [kindF, List.mem_cons, List.not_mem_nil, or_false] at hf
          rcases hf with rfl | rfl | rfl
          · exact fk 1 false (by simp [h])
          · exact fk 2 false (by simp [h])
          · exact fk 3 true (by simp [h])
        · rw [e] at hf
          simp only [kindF, List.mem_cons, List.not_mem_nil, or_false] at hf
          rcases hf with rfl | rfl | rfl
          · exact fk 1 false (by simp [h1])
          · exact fk 2 false (by simp [h2])
          · exact fk 3 false (by simp [h3])
      have hO : @OrcOK S2 (orcC Try.prog lensM (factsM i (kcOf o.kind) (valsF ops i).1 o.hasOld ((valsF ops i).2.toList == o.old.toList) inr) (convM inr) (winsM i inr)) Try.prog := by
        refine orcC_ok _ _ _ _ _ hS2.len ?_ ?_ hwin
        · intro f hf
          unfold factsM at hf
          rcases List.mem_cons.1 hf with rfl | hf
          · exact FactOK.int (k := .i64) (x := i) (y := n) rfl hS2.hn (by simp [intR, conc]; omega) (.inl rfl)
          rcases List.mem_cons.1 hf with rfl | hf
          · exact FactOK.int (k := .i64) (x := i) (y := ns) rfl hS2.hns (by simp [intR, conc, hinr]) (.inl rfl)
          rcases List.mem_append.1 hf with hf | hf
          · exact hkind f hf
          rcases List.mem_append.1 hf with hf | hf
          · unfold eqFs at hf
            split at hf
            · split at hf
              · simp only [List.mem_cons, List.not_mem_nil, or_false] at hf
                subst hf
                exact FactOK.str hS2.v k14 rfl
              · cases hf
            · cases hf
          · split at hf
            · simp only [spreadF, List.mem_cons, List.not_mem_nil, or_false] at hf
              rcases hf with rfl | rfl | rfl | rfl | rfl
              · exact FactOK.of_run (vx := HW.i64 wv) (vy := HW.i64 40) (vr := HW.i64 (wv.tmod 40)) k17 rfl k18 (fun w => run_rem (by decide)) ⟨rfl, by simp [HW.i64]⟩ (.inr rfl)
              · exact FactOK.int (k := .i64) (x := atM i) (y := wv.tmod 40) rfl k18 (by show some (Value.int .i64 (IntKind.i64.wrap (atM i - wv.tmod 40))) = some (S2.val 20); rw [k20]; rfl) (.inr rfl)
              · exact FactOK.of_run (vx := HW.i64 wv) (vy := HW.i64 40) (vr := HW.i64 (wI (wv.tdiv 40))) k17 rfl k19 (fun w => run_quo (by decide)) ⟨rfl, by simp [HW.i64]⟩ (.inr rfl)
              · exact FactOK.of_run (vx := HW.i64 (wI (wv.tdiv 40))) (vy := HW.i64 10) (vr := HW.i64 (wI (wI (wv.tdiv 40) * 10))) k19 rfl k21 (fun w => run_mul) ⟨rfl, by simp [HW.i64]⟩ (.inr rfl)
              · exact FactOK.int (k := .i64) (x := atM i) (y := wI (wI (wv.tdiv 40) * 10)) rfl k21 (by show some (Value.int .i64 (IntKind.i64.wrap (atM i + wI (wI (wv.tdiv 40) * 10)))) = some (S2.val 22); rw [k22]; rfl) (.inr rfl)
            · cases hf
        · intro c hc
          unfold convM at hc
          split at hc
          · simp only [List.mem_cons, List.not_mem_nil, or_false] at hc
            subst hc
            exact ⟨⟨_, _, _, u5, u3, k16, k17⟩, .inr rfl⟩
          · cases hc
      refine @inLoop_of_wp plainSym mute _ (mute_ok _) _ _ _ _ (wp_flat _ _ _ _ ?_)
      show wpL Try.prog _ maLb a w
      have htm : (TM.of (tmM i) 66 ok66).toL = tmM i := by
        rw [@TM.of_toL mute _ _ _ (by simp [tmM, slots])]
        simp [tmM, slots]
      rw [← htm] at hat3
      rw [← List.append_nil maLb]
      refine AtX.runL _ hO mixed26 (fun _ _ h => by cases h) (fun _ _ h => by cases h) maLb hrun hat3 fun a' w' hat4 => ?_
      obtain ⟨hθ2, hat5⟩ := hat4.restate hp
      obtain ⟨r1, r2, r3, r4, r5⟩ := stepX_conc (has := (valsF ops i).1) (kc := kcOf o.kind) (mt := mtB (valsF ops i).1 o.hasOld ((valsF ops i).2.toList == o.old.toList)) hS2.v k13
      rw [r1] at hat5
      refine ih (i + 1) _ a' w' (by omega) (by omega) ?_ hat5
      refine ⟨hS2.hops, hS2.hspr, hS2.hn, hS2.hns, ?_, ?_⟩
      · show conc S2 ((thetaM i _ _).getD 5 _) = _
        rw [thetaM_5]
        exact r2
      · intro j hj c u hc
        have hc10 : c < 10 := (List.getElem?_eq_some_iff.1 hc).1
        show conc S2 ((thetaM i _ _).getD (23 + 10 * j + c) _) = u
        rcases Nat.lt_or_ge j i with hji | hji
        · rw [Nat.add_assoc, thetaM_old (by omega), ← Nat.add_assoc]
          exact hS2.rows j hji c u hc
        · have e : j = i := by omega
          subst e
          rw [thetaM_new]
          have hfr : conc S2 (if inr then HW.sy 20 else HW.i64 (atM j)) = HW.i64 (frmF j (spF ns sb j)) := by
            unfold spF frmF
            subst hinr
            by_cases h : j < ns
            · simp only [h, decide_true, if_true]; exact k20
            · simp only [h, decide_false, if_false]; rfl
          have hto : conc S2 (if inr then HW.sy 22 else HW.i64 (atM j)) = HW.i64 (toF j (spF ns sb j)) := by
            unfold spF toF
            subst hinr
            by_cases h : j < ns
            · simp only [h, decide_true, if_true]; exact k22
            · simp only [h, decide_false, if_false]; rfl
          have hho : conc S2 (hoV (kcOf o.kind) o.hasOld) = .bool o.hasOld := by
            unfold hoV
            split
            · rfl
            · exact k15
          have hco : conc S2 (HW.i64 (stepX (valsF ops j).1 (kcOf o.kind) (mtB (valsF ops j).1 o.hasOld ((valsF ops j).2.toList == o.old.toList)) (HW.sy 5) (HW.sy 13) emp).2.1) = HW.i64 (madeRow ops (spF ns sb) j).code := by
            rw [r3]; rfl
          have hhas : conc S2 (.bool (stepX (valsF ops j).1 (kcOf o.kind) (mtB (valsF ops j).1 o.hasOld ((valsF ops j).2.toList == o.old.toList)) (HW.sy 5) (HW.sy 13) emp).2.2.2) = .bool (madeRow ops (spF ns sb) j).has := by
            rw [r5]; rfl
          match c, hc10, hc with
          | 0, _, hc => simp only [rowT, List.getElem?_cons_zero, Option.some.injEq] at hc; subst hc; exact k11
          | 1, _, hc => simp only [rowT, List.getElem?_cons_succ, List.getElem?_cons_zero, Option.some.injEq] at hc; subst hc; exact k12
          | 2, _, hc => simp only [rowT, List.getElem?_cons_succ, List.getElem?_cons_zero, Option.some.injEq] at hc; subst hc; exact k13
          | 3, _, hc => simp only [rowT, List.getElem?_cons_succ, List.getElem?_cons_zero, Option.some.injEq] at hc; subst hc; exact k14
          | 4, _, hc => simp only [rowT, List.getElem?_cons_succ, List.getElem?_cons_zero, Option.some.injEq] at hc; subst hc; exact hho
          | 5, _, hc => simp only [rowT, List.getElem?_cons_succ, List.getElem?_cons_zero, Option.some.injEq] at hc; subst hc; exact hfr
          | 6, _, hc => simp only [rowT, List.getElem?_cons_succ, List.getElem?_cons_zero, Option.some.injEq] at hc; subst hc; exact hto
          | 7, _, hc => simp only [rowT, List.getElem?_cons_succ, List.getElem?_cons_zero, Option.some.injEq] at hc; subst hc; exact hco
          | 8, _, hc => simp only [rowT, List.getElem?_cons_succ, List.getElem?_cons_zero, Option.some.injEq] at hc; subst hc; exact r4
          | 9, _, hc => simp only [rowT, List.getElem?_cons_succ, List.getElem?_cons_zero, Option.some.injEq] at hc; subst hc; exact hhas
    by_cases hns : i < ns
    · obtain ⟨y, hy, hys, C2, ct2, fr2, d1, d2, d3⟩ : ∃ x, ap = some x ∧ x.spot = none ∧ ∃ C t fr, w0.heap[x.block]? = some (.cells C t fr) ∧ x.off + ns * 1 ≤ C.size ∧ ∀ i, i < ns → ∀ j v, ([u8V (sb i)] : List Value)[j]? = some v → C[x.off + i * 1 + j]? = some v := by
        rcases hsp with h | h
        · omega
        · exact h
      subst hy
      have hyB : y.block < w0.heap.size := (Array.getElem?_eq_some_iff.1 d1).1
      obtain ⟨ρw2, hw2⟩ := hat2
      have hwy : w.heap[y.block]? = some (.cells C2 ct2 fr2) := (hw2.keep y.block hyB (fun q => q)).trans d1
      have hat3 := AtX.window (s := 2) (k := HW.i64 i) ⟨ρw2, hw2⟩ (new_rowMs (ho := hoV (kcOf o.kind) o.hasOld)) (z := 1) hS1.hspr (kd := .i64) (i := (i : Int)) rfl (by omega) (by omega) hys rfl hyB (fun q => q) hwy (by simp only [Int.toNat_natCast]; omega) (fun j u hu => by
        have hj : j < 1 := (List.getElem?_eq_some_iff.1 hu).1
        have hj : j = 0 := by omega
        subst hj
        simp only [List.getElem?_cons_zero, Option.some.injEq] at hu
        subst hu
        refine ⟨u8V (sb i), by simp only [Int.toNat_natCast]; exact d3 i hns 0 _ rfl, fun ρ => ?_⟩
        exact @VR.sym { S1 with wins := ⟨1, HW.i64 i, 2, 5⟩ :: S1.wins } ρ 16 _ g16)
      refine goon { S1 with wins := ⟨2, HW.i64 i, 3, 1⟩ :: ⟨1, HW.i64 i, 2, 5⟩ :: S1.wins } true _ rfl (by simp [hns]) (fun _ => rfl) ?_ hat3
      intro f hf
      simp only [winsM, if_true, List.mem_cons, List.not_mem_nil, or_false] at hf
      rcases hf with rfl | rfl
      · simp
      · simp
    · refine goon { S1 with wins := ⟨1, HW.i64 i, 2, 5⟩ :: S1.wins } false _ rfl (by simp [hns]) (fun _ => rfl) ?_ hat2
      intro f hf
      simp only [winsM, Bool.false_eq_true, if_false, List.mem_cons, List.not_mem_nil, or_false] at hf
      subst hf
      simp
end
end Go.Proofs.Ytbhjhffglcipbaa
namespace Go.Proofs.Ytbhjhffglcipbaa.HW
open Go Go.Proofs.Ytbhjhffglcipbaa.AS Go.RowKit
set_option linter.unusedVariables false
set_option linter.unusedSimpArgs false
set_option linter.unusedSectionVars false
theorem outC_len (n : Nat) : (outC n).length = 15 * n := by
  induction n with
  | zero => rfl
  | succ n ih => rw [outC, List.length_append, ih]; show 15 * n + 15 = _; omega
theorem outC_get {n j c : Nat} (hj : j < n) (hc : c < 15) : (outC n)[j * 15 + c]? = (rowS (23 + 10 * j))[c]? := by
  induction n with
  | zero => omega
  | succ n ih =>
    rw [outC]
    have hl := outC_len n
    rcases Nat.lt_or_ge j n with h | h
    · rw [List.getElem?_append_left (by omega)]; exact ih h
    · have e : j = n := by omega
      subst e
      rw [List.getElem?_append_right (by omega)]
      congr 1
      omega
theorem ansM_eq {i : Nat} {v : Option Value} {σ : St} (h : ansM i v σ = true) : (i = 0 ∧ v = some nils) ∨ (0 < i ∧ ∃ b, v = some (.slice (some ⟨b, 0, none⟩) i i) ∧ σ.get b = some (.blk (outC i) 15 false (some 40))) := by
  unfold ansM at h
  split at h
  · simp only [Bool.and_eq_true] at h
    obtain ⟨h1, h2, h3⟩ := h
    rw [of_beq h1, of_beq h2]
    exact .inl ⟨of_beq h3, rfl⟩
  · rename_i b o n c
    simp only [Bool.and_eq_true] at h
    obtain ⟨⟨h0, h1⟩, h2, h3, h4⟩ := h
    have h1 := of_beq h1; have h2 := of_beq h2; have h3 := of_beq h3
    subst h1 h2 h3
    refine .inr ⟨of_blt h0, b, rfl, ?_⟩
    split at h4
    · rename_i cs u t hg
      simp only [Bool.and_eq_true] at h4
      obtain ⟨k1, k2, k3⟩ := h4
      rw [hg, of_beq k1, of_beq k2, listB_eq (fun a b q => same_eq q) k3]
    · cases h4
  · cases h
/-- the slice that Made answers -/
def MadeE (n : Nat) (row : Nat → DR) (B : Nat) (e : Ending) (w' : World) : Prop :=
  (n = 0 ∧ e = .returned nils) ∨ (0 < n ∧ ∃ pb cap C, e = .returned (.slice (some ⟨pb, 0, none⟩) n cap) ∧ B ≤ pb ∧ w'.heap[pb]? = some (.cells C 40 (0, 0)) ∧ cap * 15 ≤ C.size ∧ n ≤ cap ∧ ∀ j, j < n → ∀ c v, ((row j).cells)[c]? = some v → C[j * 15 + c]? = some v)
theorem rowS_VR {S : Sym} {ρ : Rho} {b c : Nat} {d : DR} {u v' v : Value} (h0 : d.c0 = i64 0 ∧ d.c1 = i64 0 ∧ d.c2 = i64 0 ∧ d.c3 = i64 0 ∧ d.ver = .complex .f64 0 0) (hS : ∀ k u, (rowT d)[k]? = some u → S.val (b + k) = u) (hu : (rowS b)[c]? = some u) (hv : @VR S ρ u v') (hc : (d.cells)[c]? = some v) : v' = v := by
  obtain ⟨h0, h1, h2, h3, h4⟩ := h0
  have hc15 : c < 15 := (List.getElem?_eq_some_iff.1 hu).1
  match c, hc15, hu, hc with
  | 0, _, hu, hc => simp only [rowS, DR.cells, List.getElem?_cons_zero, Option.some.injEq] at hu hc; subst hu hc; rw [h0]; exact @VR.inv_leaf S ρ _ _ hv rfl
  | 1, _, hu, hc => simp only [rowS, DR.cells, List.getElem?_cons_succ, List.getElem?_cons_zero, Option.some.injEq] at hu hc; subst hu hc; rw [h1]; exact @VR.inv_leaf S ρ _ _ hv rfl
  | 2, _, hu, hc => simp only [rowS, DR.cells, List.getElem?_cons_succ, List.getElem?_cons_zero, Option.some.injEq] at hu hc; subst hu hc; rw [h2]; exact @VR.inv_leaf S ρ _ _ hv rfl
  | 3, _, hu, hc => simp only [rowS, DR.cells, List.getElem?_cons_succ, List.getElem?_cons_zero, Option.some.injEq] at hu hc; subst hu hc; rw [h3]; exact @VR.inv_leaf S ρ _ _ hv rfl
  | 4, _, hu, hc => simp only [rowS, DR.cells, List.getElem?_cons_succ, List.getElem?_cons_zero, Option.some.injEq] at hu hc; subst hu hc; rw [sy_eq hv]; exact hS 0 _ rfl
  | 5, _, hu, hc => simp only [rowS, DR.cells, List.getElem?_cons_succ, List.getElem?_cons_zero, Option.some.injEq] at hu hc; subst hu hc; rw [sy_eq hv]; exact hS 1 _ rfl
  | 6, _, hu, hc => simp only [rowS, DR.cells, List.getElem?_cons_succ, List.getElem?_cons_zero, Option.some.injEq] at hu hc; subst hu hc; rw [sy_eq hv]; exact hS 2 _ rfl
  | 7, _, hu, hc => simp only [rowS, DR.cells, List.getElem?_cons_succ, List.getElem?_cons_zero, Option.some.injEq] at hu hc; subst hu hc; rw [sy_eq hv]; exact hS 3 _ rfl
  | 8, _, hu, hc => simp only [rowS, DR.cells, List.getElem?_cons_succ, List.getElem?_cons_zero, Option.some.injEq] at hu hc; subst hu hc; rw [sy_eq hv]; exact hS 4 _ rfl
  | 9, _, hu, hc => simp only [rowS, DR.cells, List.getElem?_cons_succ, List.getElem?_cons_zero, Option.some.injEq] at hu hc; subst hu hc; rw [sy_eq hv]; exact hS 5 _ rfl
  | 10, _, hu, hc => simp only [rowS, DR.cells, List.getElem?_cons_succ, List.getElem?_cons_zero, Option.some.injEq] at hu hc; subst hu hc; rw [sy_eq hv]; exact hS 6 _ rfl
  | 11, _, hu, hc => simp only [rowS, DR.cells, List.getElem?_cons_succ, List.getElem?_cons_zero, Option.some.injEq] at hu hc; subst hu hc; rw [sy_eq hv]; exact hS 7 _ rfl
  | 12, _, hu, hc => simp only [rowS, DR.cells, List.getElem?_cons_succ, List.getElem?_cons_zero, Option.some.injEq] at hu hc; subst hu hc; rw [sy_eq hv]; exact hS 8 _ rfl
  | 13, _, hu, hc => simp only [rowS, DR.cells, List.getElem?_cons_succ, List.getElem?_cons_zero, Option.some.injEq] at hu hc; subst hu hc; rw [sy_eq hv]; exact hS 9 _ rfl
  | 14, _, hu, hc => simp only [rowS, DR.cells, List.getElem?_cons_succ, List.getElem?_cons_zero, Option.some.injEq] at hu hc; subst hu hc; rw [h4]; exact @VR.inv_leaf S ρ _ _ hv rfl
abbrev symM (ao ap : Option Addr) (n co ns cs : Nat) : Sym where
  val i := if i = 1 then .slice ao n co else if i = 2 then .slice ap ns cs else if i = 9 then .int .i64 n else if i = 10 then .int .i64 ns else .int .i64 0
  cell i := by split <;> first | rfl | (split <;> first | rfl | (split <;> first | rfl | (split <;> rfl)))
theorem stE_HR {S : Sym} (hw : S.wins = []) (w : World) : @HR S (fun _ => none) stE w :=
  @HR.mk S _ _ _ (fun _ _ _ _ h => by cases h) (fun _ _ _ _ _ _ _ _ _ _ h => by cases h) (fun _ _ => rfl) (Nat.le_refl _) (fun f hf => by rw [hw] at hf; cases hf)
end Go.Proofs.Ytbhjhffglcipbaa.HW
namespace Go.Proofs.Ytbhjhffglcipbaa
open Go Go.Proofs.Ytbhjhffglcipbaa.AS Go.Proofs.Ytbhjhffglcipbaa.HW Go.RowKit
set_option maxRecDepth 100000
set_option linter.unusedVariables false
set_option linter.unusedSimpArgs false
set_option linter.unusedSectionVars false
section
variable {w0 : World} {ao ap : Option Addr} {n co ns cs : Nat} {ops : Nat → OpR} {sb : Nat → Int}
/-- Made: the calls, done one by one -/
theorem made_calls (hops : RowsZ w0 ao n 5 fun k => (ops k).cells) (hsp : RowsZ w0 ap ns 1 fun k => [u8V (sb k)]) (hn : n ≤ 10) :
    Calls Try.prog 13 #[.slice ao n co, .slice ap ns cs] w0 fun e w' => Below w0.heap.size w0 w' ∧ MadeE n (madeRow ops (spF ns sb)) w0.heap.size e w' := by
  refine calls_flat (args := [.slice ao n co, .slice ap ns cs]) Try.func13 body13 fun a ht hd => ?_
  show wpL Try.prog _ maL a w0
  have hat := AtX.start (P := Try.prog) (S := symM ao ap n co ns cs) (X := fun _ => False) (n := Try.f13.ntmps) (vs0 := [HW.sy 1, HW.sy 2]) (fun g hg => by rw [noG] at hg; omega) (stE_HR (S := symM ao ap n co ns cs) rfl w0)
    (@VL.cons (symM ao ap n co ns cs) _ _ _ _ _ (@VR.sym (symM ao ap n co ns cs) _ 1 _ rfl) (@VL.cons (symM ao ap n co ns cs) _ _ _ _ _ (@VR.sym (symM ao ap n co ns cs) _ 2 _ rfl) (@VL.nil (symM ao ap n co ns cs) _))) ht hd
    (fun b o l hb hw hl => by cases hl)
  rw [nt13] at hat
  have hat : AtX Try.prog (symM ao ap n co ns cs) (fun _ => False) w0.heap.size w0 stE (TM.of [HW.sy 1, HW.sy 2] 66 ok66).toL a w0 := by
    rw [@TM.of_toL mute _ _ _ (show 2 ≤ 66 by decide)]; exact hat
  have hlens : ∀ y ∈ lensM, LenOK (symM ao ap n co ns cs) y := by
    intro y hy
    simp only [lensM, List.mem_cons, List.not_mem_nil, or_false] at hy
    rcases hy with rfl | rfl
    · exact ⟨⟨_, _, _, rfl, rfl⟩, .inr rfl⟩
    · exact ⟨⟨_, _, _, rfl, rfl⟩, .inr rfl⟩
  have hO : @OrcOK (symM ao ap n co ns cs) (orcC Try.prog lensM [] [] []) Try.prog := orcC_ok _ _ _ _ _ hlens (fun f hf => by cases hf) (fun f hf => by cases hf) (fun f hf => by cases hf)
  have hp := m_start
  unfold phaseM0 at hp
  split at hp
  case h_2 => cases hp
  rename_i t1 σ1 hrun
  rw [maL_eq]
  refine AtX.runL _ hO mixed26 (fun _ _ h => by cases h) (fun _ _ h => by cases h) _ hrun hat fun a1 w1 hat1 => ?_
  obtain ⟨hθ, hat2⟩ := hat1.restate hp
  refine wp_block (@SimC.wp plainSym mute _ (mute_ok _) (.loop maB) _ _ _ ?_)
  refine made_loop (co := co) (cs := cs) hops hsp hn ?_ n 0 _ a1 w1 (by omega) (by omega) ?_ hat2
  · intro S σ t a2 w2 hS hat3 hp2
    show wpL Try.prog (bodyPost Try.prog Try.f13 (fun e w' => Below w0.heap.size w0 w' ∧ MadeE n (madeRow ops (spF ns sb)) w0.heap.size e w')) ((maL.drop 5).take 1 ++ [.ret]) a2 w2
    split at hp2
    case h_2 => cases hp2
    rename_i t3 σ3 hrun3
    have hO3 : @OrcOK S (orcC Try.prog lensM [] [] []) Try.prog := orcC_ok _ _ _ _ _ hS.len (fun f hf => by cases hf) (fun f hf => by cases hf) (fun f hf => by cases hf)
    refine AtX.runL _ hO3 mixed26 (fun _ _ h => by cases h) (fun _ _ h => by cases h) _ hrun3 hat3 fun a4 w4 hat4 => ?_
    rw [wpL_one]
    refine wp_ret ?_
    rcases ansM_eq hp2 with ⟨h0, hv⟩ | ⟨h0, b, hv, hg⟩
    · exact hat4.done (.inr rfl) (by rw [@resultsT_eq mute]; exact hv) fun ρ v' hv' => ⟨hat4.below, .inl ⟨h0, by rw [@VR.inv_leaf S ρ _ _ hv' rfl]⟩⟩
    · refine hat4.done2 (.inr rfl) (by rw [@resultsT_eq mute]; exact hv) fun ρ v' hx hv' => ⟨hat4.below, .inr ⟨h0, ?_⟩⟩
      obtain ⟨a', c', rfl, hva⟩ := @VR.inv_slice S ρ _ _ _ _ hv'
      rcases hva with ⟨hva, hcap⟩ | ⟨e, _⟩
      case inr => omega
      obtain ⟨l, l1, l2, l3⟩ := hva.at_
      have l1 : ρ b = some l := l1
      obtain ⟨e1, e2, e3, e4, C, t, fr, e5, e6, e7, e8, e9⟩ := @HR.ob S ρ _ _ hx.hr b _ l hg l1
      obtain ⟨rfl, hpo, hsz, rfl, hu⟩ := e9 40 rfl
      have ha' : a' = ⟨l.pb, 0, none⟩ := by
        have := hva.s'
        cases a'
        simp_all
      have hfr : w0.heap.size ≤ l.pb := by
        rcases hx.fresh b _ l hg rfl l1 with h | h
        · exact h
        · exact h.elim
      rw [outC_len] at e3 e4
      have hc' : c' * 15 ≤ C.size ∧ n ≤ c' := by
        rcases hcap with e | ⟨l', q1, q2, q3⟩
        · subst e; rw [hsz]; omega
        · have q1 : ρ b = some l' := q1
          rw [l1] at q1
          cases q1
          rcases q3 with q3 | ⟨_, _, q3⟩
          · rw [e2] at q3; cases q3
          · rw [e1] at q3
            have : (⟨b, 0, none⟩ : Addr).off = 0 := rfl
            rw [hsz]
            omega
      refine ⟨l.pb, c', C, by rw [ha'], hfr, e5, hc'.1, hc'.2, fun j hj c v hcv => ?_⟩
      have hc15 : c < 15 := (List.getElem?_eq_some_iff.1 hcv).1
      have hcell : (rowS (23 + 10 * j))[c]? = some ((rowS (23 + 10 * j))[c]'hc15) := List.getElem?_eq_getElem _
      obtain ⟨v', k1, k2⟩ := e8 (j * 15 + c) _ ((outC_get hj hc15).trans hcell)
      rw [hpo, Nat.zero_add] at k1
      rw [k1, rowS_VR (d := madeRow ops (spF ns sb) j) ⟨rfl, rfl, rfl, rfl, rfl⟩ (fun k u hk => hS.rows j hj k u hk) hcell k2 hcv]
  · refine ⟨rfl, rfl, rfl, rfl, ?_, fun j hj => by omega⟩
    show conc _ ((thetaM 0 emp []).getD 5 _) = _
    rw [thetaM_5]
    rfl
end
end Go.Proofs.Ytbhjhffglcipbaa
