import Derived.Test.YtbhjhffglcipbaaAsName
import Derived.Test.YtbhjhffglcipbaaAsI
namespace Go.Proofs.Ytbhjhffglcipbaa.AS
open Go
/-- facts, lengths, windows -/
abbrev orcX (P : Program) (lens : List (Nat × Value)) (fs : List Fact) (ws : List Win) : Orc where
  orc := (orcL P lens fs).orc
  wins := ws
theorem orcX_ok {P : Program} (S : Sym) (lens : List (Nat × Value)) (fs : List Fact) (ws : List Win) (hl : ∀ x ∈ lens, LenOK S x) (h : ∀ f ∈ fs, FactOK P S f) (hw : ∀ f ∈ ws, f ∈ S.wins) : @OrcOK S (orcX P lens fs ws) P := by
  have h0 := @orcL_ok P S lens fs hl h
  exact @OrcOK.mk S (orcX P lens fs ws) P hw (fun _ _ _ _ _ h => by cases h) (fun _ _ _ _ _ h => by cases h) (fun o ev v ho ρ ev' w hX => @OrcOK.ok S (orcL P lens fs) P h0 o ev v ho ρ ev' w hX)
end Go.Proofs.Ytbhjhffglcipbaa.AS
namespace Go.Proofs.Ytbhjhffglcipbaa.HW
open Go Go.Proofs.Ytbhjhffglcipbaa.AS
def i64 (n : Int) : Value := .int .i64 n
def u32 (n : Int) : Value := .int .u32 n
def sy (n : Nat) : Value := .chan (some n)
def jk : Value := .chan none
def at_ (b : Nat) : Value := .pointer (some ⟨b, 0, none⟩)
def slots (n : Nat) (l : List (Nat × Value)) : List Value := l.foldl (fun tm x => tm.set x.1 x.2) (List.replicate n jk)
def rowU : List Value := (List.range 15).map fun j => sy (100 + j)
/-- the search's struct alone -/
def stS : St := { next := 1, mark := 0, log := [], mem := Tr.set (some (.blk [sy 1, sy 2] 0 true none)) depth .leaf 0 }
/-- and a row -/
def stW : St := { next := 2, mark := 0, log := [], mem := Tr.set (some (.blk rowU 0 true none)) depth stS.mem 1 }
def tmO : List Value := slots 27 [(0, at_ 0), (1, sy 3), (4, .bool false), (10, sy 1), (11, sy 9), (12, sy 8)]
theorem ok27 : 27 ≤ most := by unfold most; omega
def lens : List (Nat × Value) := [(1, sy 9)]
/-- a list of symbols: those below 100, some of them told, and a row -/
def theta (t8 t20 t21 t22 : Value) (vs : List Value) : List Value :=
  [i64 0, sy 1, sy 2, sy 3, sy 4, sy 5, sy 6, sy 7, t8, sy 9] ++ (List.range 10).map (fun j => sy (10 + j)) ++ [t20, t21, t22] ++ (List.range 77).map (fun j => sy (23 + j)) ++ vs
inductive WayO where
  | bit | low | out | yes
def factsO : WayO → List Fact
  | .bit => [⟨.eql, 57, sy 21, u32 1, .bool false⟩]
  | .low => [⟨.eql, 57, sy 21, u32 1, .bool true⟩, ⟨.geq, 3, sy 110, i64 0, .bool false⟩]
  | .out => [⟨.eql, 57, sy 21, u32 1, .bool true⟩, ⟨.geq, 3, sy 110, i64 0, .bool true⟩, ⟨.neq, 3, sy 111, i64 7, .bool false⟩]
  | .yes => [⟨.eql, 57, sy 21, u32 1, .bool true⟩, ⟨.geq, 3, sy 110, i64 0, .bool true⟩, ⟨.neq, 3, sy 111, i64 7, .bool true⟩]
def factsI : List Fact := [⟨.lss, 3, sy 8, sy 9, .bool true⟩, ⟨.shr, 57, sy 3, sy 8, sy 20⟩, ⟨.and, 57, sy 20, u32 1, sy 21⟩, ⟨.add, 3, sy 8, i64 1, sy 22⟩]
def winsK : List Win := [⟨1, sy 8, 1, 15⟩]
def ov0 : FuncId → Option (List Value → St → R (Value × St)) := fun _ => none
def isFalse : Option Value → Bool
  | some (.bool false) => true
  | _ => false
/-- a round that goes on -/
def phaseO (P : Program) (code : List Code) (w : WayO) : Bool :=
  match @runLT (orcX P lens (factsI ++ factsO w) winsK) P ov0 300 code (TM.of tmO 27 ok27) stW with
  | some (t, σ) => stB P [some 0] (theta (sy 22) (sy 20) (sy 21) (sy 22) []) 8 stS tmO σ t.toL
  | none => false
/-- a round that answers false -/
def phaseOr (P : Program) (fn : Func) (code : List Code) (c : Code) : Bool :=
  match @runLT (orcX P lens (factsI ++ factsO .yes) winsK) P ov0 300 code (TM.of tmO 27 ok27) stW with
  | some (t, σ) => (match @AS.runT (orcX P lens (factsI ++ factsO .yes) winsK) P ov0 300 none c t σ with
    | some (.ret, t, σ) => isFalse (resultsT P fn σ t)
    | _ => false)
  | none => false
/-- ahead of the loop -/
def phaseO0 (P : Program) (code : List Code) : Bool :=
  match @runLT (orcX P lens [] []) P ov0 300 code (TM.of [at_ 0, sy 3] 27 ok27) stS with
  | some (t, σ) => stB P [some 0] (theta (i64 0) (i64 0) (i64 0) (i64 0) []) 8 stS tmO σ t.toL
  | none => false
end Go.Proofs.Ytbhjhffglcipbaa.HW
namespace Go.Proofs.Ytbhjhffglcipbaa
open Go Go.Proofs.Ytbhjhffglcipbaa.AS Go.Proofs.Ytbhjhffglcipbaa.HW
set_option maxRecDepth 100000
noncomputable def ovL : List Code := flatC (Try.f22.body.getD .skip)
noncomputable def ovB : Code := match ovL[2]? with | some (Code.block _ (Code.loop b)) => b | _ => .skip
noncomputable def ovLb : List Code := flatC ovB
theorem o_start : phaseO0 Try.prog (ovL.take 2) = true := by kernel_rfl
theorem o_bit : phaseO Try.prog ovLb .bit = true := by kernel_rfl
theorem o_low : phaseO Try.prog ovLb .low = true := by kernel_rfl
theorem o_out : phaseO Try.prog ovLb .out = true := by kernel_rfl
theorem o_yes : phaseOr Try.prog Try.f22 (ovLb.take 2) (ovLb.getD 2 .skip) = true := by kernel_rfl
end Go.Proofs.Ytbhjhffglcipbaa
namespace Go.Proofs.Ytbhjhffglcipbaa.HW
open Go Go.Proofs.Ytbhjhffglcipbaa.AS Go.RowKit
set_option linter.unusedVariables false
set_option linter.unusedSimpArgs false
set_option linter.unusedSectionVars false

/-- n rows of 15 cells each lie from x on -/
structure RowsAt (w : World) (x : Addr) (n : Nat) (row : Nat → List Value) : Prop where
  spot : x.spot = none
  cells : ∃ C t fr, w.heap[x.block]? = some (.cells C t fr) ∧ x.off + n * 15 ≤ C.size ∧ ∀ i, i < n → ∀ j v, (row i)[j]? = some v → C[x.off + i * 15 + j]? = some v
  len : ∀ i, i < n → (row i).length = 15
  leafs : ∀ i, i < n → (row i).all AS.leaf = true
theorem RowsAt.keep {w w' : World} {x : Addr} {n : Nat} {row : Nat → List Value} (h : RowsAt w x n row) (hw : w'.heap[x.block]? = w.heap[x.block]?) : RowsAt w' x n row := by
  obtain ⟨C, t, fr, h1, h2⟩ := h.cells
  exact ⟨h.spot, ⟨C, t, fr, hw.trans h1, h2⟩, h.len, h.leafs⟩

theorem leaf_ok {v : Value} (h : AS.leaf v = true) : okθ v = true := by
  unfold okθ
  split
  · rfl
  · exact h
theorem theta_ok {a b c d : Value} {vs : List Value} (ha : okθ a = true) (hb : okθ b = true) (hc : okθ c = true) (hd : okθ d = true) (hv : vs.all AS.leaf = true) : (theta a b c d vs).all okθ = true := by
  unfold theta
  simp only [List.all_append, List.all_cons, List.all_nil, Bool.and_true, Bool.and_eq_true]
  refine ⟨⟨⟨⟨⟨rfl, rfl, rfl, rfl, rfl, rfl, rfl, rfl, ha, rfl⟩, ?_⟩, hb, hc, hd⟩, ?_⟩, ?_⟩
  · rw [List.all_eq_true]; intro x hx; obtain ⟨j, _, rfl⟩ := List.mem_map.1 hx; rfl
  · rw [List.all_eq_true]; intro x hx; obtain ⟨j, _, rfl⟩ := List.mem_map.1 hx; rfl
  · rw [List.all_eq_true]; intro x hx; exact leaf_ok (List.all_eq_true.1 hv x hx)
theorem theta_row {a b c d : Value} {vs : List Value} {j : Nat} {e : Value} : (theta a b c d vs).getD (100 + j) e = vs.getD j e := by
  unfold theta
  rw [List.getD_eq_getElem?_getD, List.getElem?_append_right (by simp), List.getD_eq_getElem?_getD]
  simp

/-- what the symbols stand for in over, first and goes -/
structure SO (S : Sym) (x : Addr) (n c m left : Nat) : Prop where
  l : S.val 1 = .slice (some x) n c
  m : S.val 2 = .map (some m)
  left : S.val 3 = u32 left
  n : S.val 9 = i64 n
theorem SO.of {S : Sym} {x : Addr} {n c m left : Nat} (h : SO S x n c m left) {t8 t20 t21 t22 : Value} {vs : List Value} (hθ : (theta t8 t20 t21 t22 vs).all okθ = true) : SO (Sym.of S (theta t8 t20 t21 t22 vs) hθ) x n c m left := ⟨h.l, h.m, h.left, h.n⟩
theorem SO.len {S : Sym} {x : Addr} {n c m left : Nat} (h : SO S x n c m left) : ∀ y ∈ lens, LenOK S y := by
  intro y hy
  simp only [lens, List.mem_cons, List.not_mem_nil, or_false] at hy
  subst hy
  exact ⟨⟨_, _, _, h.l, h.n⟩, .inr rfl⟩

theorem wrap_i64 {x : Int} (h0 : 0 ≤ x) (h : x < 1000) : IntKind.i64.wrap x = x := by
  simp [IntKind.wrap, IntKind.bits, IntKind.signed]
  omega

/-- the facts of a round -/
theorem factsI_ok {P : Program} {S : Sym} {x : Addr} {n c m left i : Nat} (h : SO S x n c m left) (hl : left < 4294967296) (hn : n ≤ 31) (hi : i < n) (h8 : S.val 8 = i64 i) (h20 : S.val 20 = u32 ((left / 2 ^ i : Nat) : Int)) (h21 : S.val 21 = u32 ((left / 2 ^ i % 2 : Nat) : Int)) (h22 : S.val 22 = i64 (i + 1 : Nat)) :
    ∀ f ∈ factsI, FactOK P S f := by
  have hd : left / 2 ^ i < 4294967296 := Nat.lt_of_le_of_lt (Nat.div_le_self _ _) hl
  intro f hf
  simp only [factsI, List.mem_cons, List.not_mem_nil, or_false] at hf
  rcases hf with rfl | rfl | rfl | rfl
  · exact FactOK.int (k := .i64) (x := i) (y := n) h8 h.n (by simp [intR, conc]; omega) (.inl rfl)
  · exact FactOK.of_run (vx := .int .u32 left) (vy := .int .i64 i) (vr := .int .u32 ((left / 2 ^ i : Nat) : Int)) h.left h8 h20 (fun w => run_shr left i (by omega)) ⟨rfl, by simp⟩ (.inr rfl)
  · exact FactOK.of_run (vx := .int .u32 ((left / 2 ^ i : Nat) : Int)) (vy := .int .u32 1) (vr := .int .u32 ((left / 2 ^ i % 2 : Nat) : Int)) h20 rfl h21 (fun w => run_and1 _ hd) ⟨rfl, by simp⟩ (.inr rfl)
  · refine FactOK.int (k := .i64) (x := i) (y := 1) h8 rfl ?_ (.inr rfl)
    show some (Value.int .i64 (IntKind.i64.wrap ((i : Int) + 1))) = some (S.val 22)
    rw [h22, wrap_i64 (by omega) (by omega)]; rfl

/-- which way a row goes -/
def wayO (left i : Nat) (to code : Int) : WayO := if left / 2 ^ i % 2 = 1 then (if 0 ≤ to then (if code = 7 then .out else .yes) else .low) else .bit
theorem factsO_ok {P : Program} {S : Sym} {left i : Nat} {to code : Int} (h21 : S.val 21 = u32 ((left / 2 ^ i % 2 : Nat) : Int)) (hto : S.val 110 = i64 to) (hcode : S.val 111 = i64 code) : ∀ f ∈ factsO (wayO left i to code), FactOK P S f := by
  intro f hf
  unfold wayO at hf
  split at hf
  · rename_i hb
    have e1 : FactOK P S ⟨.eql, 57, sy 21, u32 1, .bool true⟩ := FactOK.int (k := .u32) (x := ((left / 2 ^ i % 2 : Nat) : Int)) (y := 1) h21 rfl (by simp only [intR, conc]; rw [hb]; rfl) (.inl rfl)
    split at hf
    · rename_i h0
      have e2 : FactOK P S ⟨.geq, 3, sy 110, i64 0, .bool true⟩ := FactOK.int (k := .i64) (x := to) (y := 0) hto rfl (by simp [intR, conc]; omega) (.inl rfl)
      split at hf
      · rename_i h7
        simp only [factsO, List.mem_cons, List.not_mem_nil, or_false] at hf
        rcases hf with rfl | rfl | rfl
        · exact e1
        · exact e2
        · exact FactOK.int (k := .i64) (x := code) (y := 7) hcode rfl (by simp [intR, conc, h7]) (.inl rfl)
      · rename_i h7
        simp only [factsO, List.mem_cons, List.not_mem_nil, or_false] at hf
        rcases hf with rfl | rfl | rfl
        · exact e1
        · exact e2
        · exact FactOK.int (k := .i64) (x := code) (y := 7) hcode rfl (by simp [intR, conc, h7]) (.inl rfl)
    · rename_i h0
      simp only [factsO, List.mem_cons, List.not_mem_nil, or_false] at hf
      rcases hf with rfl | rfl
      · exact e1
      · exact FactOK.int (k := .i64) (x := to) (y := 0) hto rfl (by simp [intR, conc]; omega) (.inl rfl)
  · rename_i hb
    simp only [factsO, List.mem_cons, List.not_mem_nil, or_false] at hf
    subst hf
    refine FactOK.int (k := .u32) (x := ((left / 2 ^ i % 2 : Nat) : Int)) (y := 1) h21 rfl ?_ (.inl rfl)
    have : ¬ (((left / 2 ^ i % 2 : Nat) : Int) = 1) := by omega
    show some (Value.bool (decide (((left / 2 ^ i % 2 : Nat) : Int) = 1))) = some (Value.bool false)
    rw [decide_eq_false this]
end Go.Proofs.Ytbhjhffglcipbaa.HW
namespace Go.Proofs.Ytbhjhffglcipbaa
open Go Go.Proofs.Ytbhjhffglcipbaa.AS Go.Proofs.Ytbhjhffglcipbaa.HW Go.RowKit
set_option maxRecDepth 100000
set_option linter.unusedVariables false
set_option linter.unusedSimpArgs false
set_option linter.unusedSectionVars false
theorem body22 : Try.f22.body = some (Try.f22.body.getD .skip) := by kernel_rfl
theorem nt22 : Try.f22.ntmps = 27 := by kernel_rfl
theorem noG : Try.prog.globals.size = 0 := by kernel_rfl
theorem ovL_eq : ovL = ovL.take 2 ++ ([.block 0 (.loop ovB)] ++ ovL.drop 3) := by kernel_rfl
theorem ovLb_eq : ovLb = ovLb.take 2 ++ (ovLb.getD 2 .skip :: ovLb.drop 3) := by kernel_rfl
theorem stB_tell (t8 t20 t21 t22 : Value) (vs : List Value) (h8 : t8 = sy 8) : stB2 Try.prog [some 0] (theta t8 t20 t21 t22 vs) 8 stS tmO stS tmO = true := by subst h8; kernel_rfl
theorem stS_get {b : Nat} {o : Ob} (h : stS.get b = some o) : b = 0 ∧ o = .blk [sy 1, sy 2] 0 true none := by
  have hb := St.get_lt h
  rw [St.get_eq hb] at h
  have e : stS.mem = Tr.set (some (.blk [sy 1, sy 2] 0 true none)) depth .leaf 0 := rfl
  rw [e, Tr.get_set] at h
  split at h
  · rename_i q; simp only [Option.some.injEq] at h; exact ⟨q.1, h.symm⟩
  · simp [Tr.get] at h
theorem new_row : stS.new (.blk rowU 0 true none) = some (1, stW) := by rfl
theorem isFalse_eq {o : Option Value} (h : HW.isFalse o = true) : o = some (.bool false) := by
  unfold HW.isFalse at h
  split at h
  · rfl
  · cases h

/-- the search's struct -/
def StructAt (w : World) (sb : Nat) (x : Addr) (n c m : Nat) : Prop := ∃ C t fr, w.heap[sb]? = some (.cells C t fr) ∧ C[0]? = some (.slice (some x) n c) ∧ C[1]? = some (.map (some m)) ∧ 2 ≤ C.size

abbrev symO (x : Addr) (n c m left : Nat) : Sym where
  val i := if i = 1 then .slice (some x) n c else if i = 2 then .map (some m) else if i = 3 then .int .u32 left else if i = 9 then .int .i64 n else .int .i64 0
  cell i := by split <;> first | rfl | (split <;> first | rfl | (split <;> first | rfl | (split <;> rfl)))
def rhoO (sb : Nat) : Rho := fun b => if b = 0 then some ⟨sb, 0, 2, 0, 2, true⟩ else none

theorem startO {w : World} {sb : Nat} {x : Addr} {n c m left : Nat} (hs : StructAt w sb x n c m) : @HR (symO x n c m left) (rhoO sb) stS w := by
  obtain ⟨C, t, fr, h1, h2, h3, h4⟩ := hs
  refine @HR.mk (symO x n c m left) _ _ _ ?_ ?_ ?_ (Nat.zero_le _) (fun f hf => by cases hf)
  · intro b o l hb hl
    obtain ⟨rfl, rfl⟩ := stS_get hb
    simp only [rhoO, if_true, Option.some.injEq] at hl
    subst hl
    refine ⟨rfl, rfl, rfl, Nat.le_refl _, C, t, fr, h1, by simpa using h4, (fun e => by cases e), fun i v hi => ?_, (fun t' e => by cases e)⟩
    match i, hi with
    | 0, hi => simp at hi; subst hi; exact ⟨.slice (some x) n c, by simpa using h2, @VR.sym (symO x n c m left) _ 1 _ rfl⟩
    | 1, hi => simp at hi; subst hi; exact ⟨.map (some m), by simpa using h3, @VR.sym (symO x n c m left) _ 2 _ rfl⟩
    | i + 2, hi => simp at hi
  · intro b b' o o' l l' _ hb hw
    obtain ⟨_, rfl⟩ := stS_get hb
    cases hw
  · intro b hb
    have hb' : 1 ≤ b := hb
    exact if_neg (by omega)

section
variable {w0 : World} {x : Addr} {n c m left : Nat} {row : Nat → List Value}

theorem over_loop {Q : Exit → Act → World → Prop} (hr : RowsAt w0 x n row) (hxB : x.block < w0.heap.size) (htc : ∀ i, i < n → ∃ to code, (row i)[10]? = some (HW.i64 to) ∧ (row i)[11]? = some (HW.i64 code)) (hn : n ≤ 31) (hl : left < 4294967296)
    (hend : ∃ i, i < n ∧ left / 2 ^ i % 2 = 1 ∧ ∃ to code, (row i)[10]? = some (HW.i64 to) ∧ (row i)[11]? = some (HW.i64 code) ∧ 0 ≤ to ∧ code ≠ 7)
    (hQ : ∀ S σ tm a w, AtX Try.prog S (fun _ => False) w0.heap.size w0 σ tm a w → resultsV Try.prog Try.f22 σ tm = some (.bool false) → Q .ret a w) :
    ∀ (d : Nat) (i : Nat) (S : Sym) (a : Act) (w : World), n - i = d → (∃ k, i ≤ k ∧ k < n ∧ left / 2 ^ k % 2 = 1 ∧ ∃ to code, (row k)[10]? = some (HW.i64 to) ∧ (row k)[11]? = some (HW.i64 code) ∧ 0 ≤ to ∧ code ≠ 7) → SO S x n c m left → S.val 8 = HW.i64 i →
      AtX Try.prog S (fun _ => False) w0.heap.size w0 stS tmO a w → InLoop Try.prog ovB Q a w := by
  intro d
  induction d with
  | zero => intro i S a w hd ⟨k, hk, hkn, _⟩; omega
  | succ d ih =>
    intro i S a w hd hk hS h8 hat
    have hin : i < n := by omega
    obtain ⟨to, code, hto, hcode⟩ := htc i hin
    -- the row, told
    have hθ : (theta (HW.sy 8) (u32 ((left / 2 ^ i : Nat) : Int)) (u32 ((left / 2 ^ i % 2 : Nat) : Int)) (HW.i64 (i + 1 : Nat)) (row i)).all okθ = true := theta_ok rfl rfl rfl rfl (hr.leafs i hin)
    have hat1 := hat.tell hθ (stB_tell _ _ _ _ _ rfl)
    have hS1 := hS.of hθ
    have g8 : (Sym.of S _ hθ).val 8 = HW.i64 i := h8
    have g20 : (Sym.of S _ hθ).val 20 = u32 ((left / 2 ^ i : Nat) : Int) := rfl
    have g21 : (Sym.of S _ hθ).val 21 = u32 ((left / 2 ^ i % 2 : Nat) : Int) := rfl
    have g22 : (Sym.of S _ hθ).val 22 = HW.i64 (i + 1 : Nat) := rfl
    have grow : ∀ j v, (row i)[j]? = some v → (Sym.of S _ hθ).val (100 + j) = v := by
      intro j v hv
      show conc S ((theta _ _ _ _ (row i)).getD (100 + j) _) = v
      rw [theta_row, List.getD_eq_getElem?_getD, hv]
      exact conc_leaf (List.all_eq_true.1 (hr.leafs i hin) v (List.mem_of_getElem? hv))
    generalize Sym.of S _ hθ = S1 at hat1 hS1 g8 g20 g21 g22 grow
    obtain ⟨ρw, hw⟩ := hat1
    have hrw : RowsAt w x n row := hr.keep (hw.keep x.block hxB (fun q => q))
    obtain ⟨C, t, fr, c1, c2, c3⟩ := hrw.cells
    have hat2 := AtX.window (k := HW.sy 8) ⟨ρw, hw⟩ new_row (z := 15) hS1.l (kd := .i64) (i := (i : Int)) g8 (by omega) (by omega) hr.spot rfl hxB (fun q => q) c1 (by simp only [Int.toNat_natCast]; omega) (fun j u hu => by
      have hj : j < 15 := by
        have := (List.getElem?_eq_some_iff.1 hu).1
        simpa [rowU] using this
      have hv : (row i)[j]? = some ((row i)[j]'(by rw [hr.len i hin]; exact hj)) := List.getElem?_eq_getElem _
      refine ⟨_, by simp only [Int.toNat_natCast]; exact c3 i hin j _ hv, fun ρ => ?_⟩
      have hu' : u = HW.sy (100 + j) := by
        simp only [rowU, List.getElem?_map, List.getElem?_range hj, Option.map_some, Option.some.injEq] at hu
        exact hu.symm
      rw [hu']
      exact @VR.sym S1 ρ (100 + j) _ (grow j _ hv))
    have hto' := grow 10 _ hto
    have hcode' := grow 11 _ hcode
    have hO : ∀ wy, wy = wayO left i to code → @OrcOK { S1 with wins := ⟨1, HW.sy 8, 1, 15⟩ :: S1.wins } (orcX Try.prog lens (factsI ++ factsO wy) winsK) Try.prog := by
      rintro wy rfl
      refine orcX_ok _ _ _ _ ?_ ?_ ?_
      · exact (SO.mk (S := { S1 with wins := ⟨1, HW.sy 8, 1, 15⟩ :: S1.wins }) hS1.l hS1.m hS1.left hS1.n).len
      · intro f hf
        rcases List.mem_append.1 hf with hf | hf
        · exact factsI_ok (S := { S1 with wins := ⟨1, HW.sy 8, 1, 15⟩ :: S1.wins }) (SO.mk hS1.l hS1.m hS1.left hS1.n) hl hn hin g8 g20 g21 g22 f hf
        · exact factsO_ok (S := { S1 with wins := ⟨1, HW.sy 8, 1, 15⟩ :: S1.wins }) g21 hto' hcode' f hf
      · intro f hf
        simp only [winsK, List.mem_cons, List.not_mem_nil, or_false] at hf
        subst hf; simp
    refine @inLoop_of_wp plainSym mute _ (mute_ok _) _ _ _ _ (wp_flat _ _ _ _ ?_)
    show wpL Try.prog _ ovLb a w
    have htm : (TM.of tmO 27 ok27).toL = tmO := by rw [@TM.of_toL mute _ _ _ (by decide)]; rfl
    rw [← htm] at hat2
    have goon : ∀ wy, wy = wayO left i to code → phaseO Try.prog ovLb wy = true → (∃ k, i + 1 ≤ k ∧ k < n ∧ left / 2 ^ k % 2 = 1 ∧ ∃ to code, (row k)[10]? = some (HW.i64 to) ∧ (row k)[11]? = some (HW.i64 code) ∧ 0 ≤ to ∧ code ≠ 7) →
        wpL Try.prog (Exit.then (InLoop Try.prog ovB Q) Q) ovLb a w := by
      intro wy hwy hp hk'
      unfold phaseO at hp
      split at hp
      case h_2 => cases hp
      rename_i t1 σ1 hrun
      rw [← List.append_nil ovLb]
      refine AtX.runL _ (hO wy hwy) mixed26 (fun _ _ h => by cases h) (fun _ _ h => by cases h) ovLb hrun hat2 fun a' w' hat3 => ?_
      obtain ⟨hθ2, hat4⟩ := hat3.restate hp
      refine ih (i + 1) _ a' w' (by omega) hk' ?_ ?_ hat4
      · exact ⟨hS1.l, hS1.m, hS1.left, hS1.n⟩
      · exact g22
    cases hwy : wayO left i to code with
    | yes =>
      have hp := o_yes
      unfold phaseOr at hp
      split at hp
      case h_2 => cases hp
      rename_i t1 σ1 hrun
      split at hp
      case h_2 => cases hp
      rename_i t2 σ2 hrun2
      rw [ovLb_eq]
      refine AtX.runL _ (hO .yes hwy.symm) mixed26 (fun _ _ h => by cases h) (fun _ _ h => by cases h) _ hrun hat2 fun a' w' hat3 => ?_
      refine AtX.run _ (hO .yes hwy.symm) mixed26 (fun _ _ h => by cases h) (fun _ _ h => by cases h) hrun2 hat3 fun a2 w2 hat4 => ?_
      exact hQ _ _ _ a2 w2 hat4 (by rw [@resultsT_eq mute]; exact isFalse_eq hp)
    | bit => exact goon .bit hwy.symm o_bit (later hk hto hcode (by rw [hwy]; intro e; cases e))
    | low => exact goon .low hwy.symm o_low (later hk hto hcode (by rw [hwy]; intro e; cases e))
    | out => exact goon .out hwy.symm o_out (later hk hto hcode (by rw [hwy]; intro e; cases e))
where
  later {i : Nat} {to code : Int} (hk : ∃ k, i ≤ k ∧ k < n ∧ left / 2 ^ k % 2 = 1 ∧ ∃ to code, (row k)[10]? = some (HW.i64 to) ∧ (row k)[11]? = some (HW.i64 code) ∧ 0 ≤ to ∧ code ≠ 7) (hto : (row i)[10]? = some (HW.i64 to)) (hcode : (row i)[11]? = some (HW.i64 code))
      (hne : wayO left i to code ≠ .yes) : ∃ k, i + 1 ≤ k ∧ k < n ∧ left / 2 ^ k % 2 = 1 ∧ ∃ to code, (row k)[10]? = some (HW.i64 to) ∧ (row k)[11]? = some (HW.i64 code) ∧ 0 ≤ to ∧ code ≠ 7 := by
    obtain ⟨k, h1, h2, h3, t2, c2, h4, h5, h6, h7⟩ := hk
    refine ⟨k, ?_, h2, h3, t2, c2, h4, h5, h6, h7⟩
    rcases Nat.lt_or_ge i k with q | q
    · omega
    · have e : k = i := by omega
      subst e
      rw [hto] at h4; rw [hcode] at h5
      simp only [Option.some.injEq, HW.i64, Value.int.injEq, true_and] at h4 h5
      subst h4 h5
      exact absurd (by simp [wayO, h3, h6, h7]) hne

/-- search.over is false while an answered call is left -/
theorem over_calls {sb : Nat} (hs : StructAt w0 sb x n c m) (hr : RowsAt w0 x n row) (htc : ∀ i, i < n → ∃ to code, (row i)[10]? = some (HW.i64 to) ∧ (row i)[11]? = some (HW.i64 code)) (hn : n ≤ 31) (hl : left < 4294967296)
    (hend : ∃ i, i < n ∧ left / 2 ^ i % 2 = 1 ∧ ∃ to code, (row i)[10]? = some (HW.i64 to) ∧ (row i)[11]? = some (HW.i64 code) ∧ 0 ≤ to ∧ code ≠ 7) :
    Calls Try.prog 22 #[.pointer (some ⟨sb, 0, none⟩), .int .u32 left] w0 fun e w' => e = .returned (.bool false) ∧ Below w0.heap.size w0 w' := by
  have hxB : x.block < w0.heap.size := by
    obtain ⟨C, t, fr, h1, _⟩ := hr.cells
    exact (Array.getElem?_eq_some_iff.1 h1).1
  refine calls_flat (args := [.pointer (some ⟨sb, 0, none⟩), .int .u32 left]) Try.func22 body22 fun a ht hd => ?_
  show wpL Try.prog _ ovL a w0
  have hat := AtX.start (P := Try.prog) (S := symO x n c m left) (X := fun _ => False) (n := Try.f22.ntmps) (vs0 := [HW.at_ 0, HW.sy 3]) (fun g hg => by rw [noG] at hg; omega) (startO hs)
    (@VL.cons (symO x n c m left) (rhoO sb) _ _ _ _ (@VR.ptr (symO x n c m left) _ _ _ ⟨rfl, rfl, ⟨sb, 0, 2, 0, 2, true⟩, rfl, rfl, rfl⟩) (@VL.cons (symO x n c m left) (rhoO sb) _ _ _ _ (@VR.sym (symO x n c m left) _ 3 _ rfl) (@VL.nil (symO x n c m left) _))) ht hd
    (fun b o l hb hw => by obtain ⟨_, rfl⟩ := stS_get hb; cases hw)
  rw [nt22] at hat
  have hat : AtX Try.prog (symO x n c m left) (fun _ => False) w0.heap.size w0 stS (TM.of [HW.at_ 0, HW.sy 3] 27 ok27).toL a w0 := by
    rw [@TM.of_toL mute _ _ _ (by decide)]; exact hat
  have hO : @OrcOK (symO x n c m left) (orcX Try.prog lens [] []) Try.prog := orcX_ok _ _ _ _ (SO.mk (S := symO x n c m left) rfl rfl rfl rfl).len (fun f hf => by cases hf) (fun f hf => by cases hf)
  have hp := o_start
  unfold phaseO0 at hp
  split at hp
  case h_2 => cases hp
  rename_i t1 σ1 hrun
  rw [ovL_eq]
  refine AtX.runL _ hO mixed26 (fun _ _ h => by cases h) (fun _ _ h => by cases h) _ hrun hat fun a1 w1 hat1 => ?_
  obtain ⟨hθ, hat2⟩ := hat1.restate hp
  show (Code.block 0 (.loop ovB)).wp Try.prog _ a1 w1
  refine wp_block (@SimC.wp plainSym mute _ (mute_ok _) (.loop ovB) _ _ _ ?_)
  obtain ⟨k, h1, h2⟩ := hend
  refine over_loop (m := m) (c := c) hr hxB htc hn hl ⟨k, h1, h2⟩ ?_ n 0 _ a1 w1 (by omega) ⟨k, by omega, h1, h2⟩ ?_ ?_ hat2
  · intro S σ tm a2 w2 hat3 hres
    show bodyPost Try.prog Try.f22 (fun e w' => e = Ending.returned (Value.bool false) ∧ Below w0.heap.size w0 w') Exit.ret a2 w2
    exact hat3.done (.inr rfl) hres fun ρ v' hv => ⟨by rw [@VR.inv_leaf S ρ _ _ hv rfl], hat3.below⟩
  · exact ⟨rfl, rfl, rfl, rfl⟩
  · rfl
end
end Go.Proofs.Ytbhjhffglcipbaa
namespace Go.Proofs.Ytbhjhffglcipbaa.HW
open Go Go.Proofs.Ytbhjhffglcipbaa.AS
/-! ## search.first: one bool or the other -/
def rowV : List Value := (List.range 15).map fun j => sy (115 + j)
def stF : St := { next := 3, mark := 0, log := [], mem := Tr.set (some (.blk rowV 0 true none)) depth stW.mem 2 }
def tmF : List Value := slots 47 [(0, at_ 0), (1, sy 3), (2, sy 7), (6, .bool false), (12, sy 1), (13, sy 9), (14, sy 8)]
theorem ok47 : 47 ≤ most := by unfold most; omega
def winsF : List Win := [⟨1, sy 7, 2, 15⟩, ⟨1, sy 8, 1, 15⟩]
inductive WayF where
  | same | bit | low | out | late | early
def factsF : WayF → List Fact
  | .same => [⟨.neq, 3, sy 8, sy 7, .bool false⟩]
  | .bit => ⟨.neq, 3, sy 8, sy 7, .bool true⟩ :: factsO .bit
  | .low => ⟨.neq, 3, sy 8, sy 7, .bool true⟩ :: factsO .low
  | .out => ⟨.neq, 3, sy 8, sy 7, .bool true⟩ :: factsO .out
  | .late => ⟨.neq, 3, sy 8, sy 7, .bool true⟩ :: ⟨.lss, 3, sy 110, sy 124, .bool false⟩ :: factsO .yes
  | .early => ⟨.neq, 3, sy 8, sy 7, .bool true⟩ :: ⟨.lss, 3, sy 110, sy 124, .bool true⟩ :: factsO .yes
def phaseF (P : Program) (code : List Code) (w : WayF) : Bool :=
  match @runLT (orcX P lens (factsI ++ factsF w) winsF) P ov0 300 code (TM.of tmF 47 ok47) stF with
  | some (t, σ) => stB P [some 0] (theta (sy 22) (sy 20) (sy 21) (sy 22) []) 8 stS tmF σ t.toL
  | none => false
def phaseFr (P : Program) (fn : Func) (code : List Code) (c : Code) : Bool :=
  match @runLT (orcX P lens (factsI ++ factsF .early) winsF) P ov0 300 code (TM.of tmF 47 ok47) stF with
  | some (t, σ) => (match @AS.runT (orcX P lens (factsI ++ factsF .early) winsF) P ov0 300 none c t σ with
    | some (.ret, t, σ) => HW.isFalse (resultsT P fn σ t)
    | _ => false)
  | none => false
def phaseF0 (P : Program) (code : List Code) : Bool :=
  match @runLT (orcX P lens [] []) P ov0 300 code (TM.of [at_ 0, sy 3, sy 7] 47 ok47) stS with
  | some (t, σ) => stB P [some 0] (theta (i64 0) (i64 0) (i64 0) (i64 0) []) 8 stS tmF σ t.toL
  | none => false
def isTrue' : Option Value → Bool
  | some (.bool true) => true
  | _ => false
/-- behind the loop: the head, then the answer -/
def phaseF1 (P : Program) (fn : Func) (c1 c2 : Code) (rest : List Code) : Bool :=
  match @runLT (orcX P lens [⟨.lss, 3, sy 8, sy 9, .bool false⟩] []) P ov0 300 [c1] (TM.of tmF 47 ok47) stS with
  | some (t, σ) => (match @AS.runT (orcX P lens [] []) P ov0 300 none c2 t σ with
    | some (.exit i, t, σ) => Nat.beq i 0 && (match @runLT (orcX P lens [] []) P ov0 300 rest t σ with
      | some (t, σ) => isTrue' (resultsT P fn σ t)
      | none => false)
    | _ => false)
  | none => false
end Go.Proofs.Ytbhjhffglcipbaa.HW
namespace Go.Proofs.Ytbhjhffglcipbaa
open Go Go.Proofs.Ytbhjhffglcipbaa.AS Go.Proofs.Ytbhjhffglcipbaa.HW
set_option maxRecDepth 100000
noncomputable def fiL : List Code := flatC (Try.f23.body.getD .skip)
noncomputable def fiB : Code := match fiL[2]? with | some (Code.block _ (Code.loop b)) => b | _ => .skip
noncomputable def fiLb : List Code := flatC fiB
theorem f_start : phaseF0 Try.prog (fiL.take 2) = true := by kernel_rfl
theorem f_same : phaseF Try.prog fiLb .same = true := by kernel_rfl
theorem f_bit : phaseF Try.prog fiLb .bit = true := by kernel_rfl
theorem f_low : phaseF Try.prog fiLb .low = true := by kernel_rfl
theorem f_out : phaseF Try.prog fiLb .out = true := by kernel_rfl
theorem f_late : phaseF Try.prog fiLb .late = true := by kernel_rfl
theorem f_early : phaseFr Try.prog Try.f23 (fiLb.take 2) (fiLb.getD 2 .skip) = true := by kernel_rfl
theorem f_end : phaseF1 Try.prog Try.f23 (fiLb.getD 0 .skip) (fiLb.getD 1 .skip) ((fiL.drop 3).take 1) = true := by kernel_rfl
end Go.Proofs.Ytbhjhffglcipbaa
namespace Go.Proofs.Ytbhjhffglcipbaa.HW
open Go Go.Proofs.Ytbhjhffglcipbaa.AS Go.RowKit
set_option linter.unusedVariables false
set_option linter.unusedSimpArgs false
set_option linter.unusedSectionVars false

/-- one call that was done -/
structure DR where
  (c0 c1 c2 c3 : Value)
  kind : Int
  (key val old : ByteArray)
  hasOld : Bool
  (frm to code : Int)
  told : ByteArray
  has : Bool
  ver : Value
def DR.cells (d : DR) : List Value := [d.c0, d.c1, d.c2, d.c3, i64 d.kind, .string d.key, .string d.val, .string d.old, .bool d.hasOld, i64 d.frm, i64 d.to, i64 d.code, .string d.told, .bool d.has, d.ver]
/-- a call that is ahead -/
def hearly (D : Nat → DR) (left i k : Nat) : Prop := k ≠ i ∧ left / 2 ^ k % 2 = 1 ∧ 0 ≤ (D k).to ∧ (D k).code ≠ 7 ∧ (D k).to < (D i).frm
instance (D : Nat → DR) (left i k : Nat) : Decidable (hearly D left i k) := by unfold hearly; infer_instance
def firstB (D : Nat → DR) (n left i : Nat) : Bool := decide (∀ k, k < n → ¬ hearly D left i k)
/-- which way a row goes in first -/
def wayF (D : Nat → DR) (left i k : Nat) : WayF :=
  if k = i then .same else
    match wayO left k (D k).to (D k).code with
    | .bit => .bit | .low => .low | .out => .out
    | .yes => if (D k).to < (D i).frm then .early else .late
theorem factsF_ok {P : Program} {S : Sym} {D : Nat → DR} {left i k : Nat} (h8 : S.val 8 = i64 k) (h7 : S.val 7 = i64 i) (h21 : S.val 21 = u32 ((left / 2 ^ k % 2 : Nat) : Int)) (hto : S.val 110 = i64 (D k).to) (hcode : S.val 111 = i64 (D k).code) (hfrm : S.val 124 = i64 (D i).frm) :
    ∀ f ∈ factsF (wayF D left i k), FactOK P S f := by
  have hO := factsO_ok (P := P) (left := left) (i := k) h21 hto hcode
  have e0 : k ≠ i → FactOK P S ⟨.neq, 3, sy 8, sy 7, .bool true⟩ := fun hne => FactOK.int (k := .i64) (x := k) (y := i) h8 h7 (by simp [intR, conc]; omega) (.inl rfl)
  intro f hf
  unfold wayF at hf
  split at hf
  · rename_i he
    simp only [factsF, List.mem_cons, List.not_mem_nil, or_false] at hf
    subst hf
    exact FactOK.int (k := .i64) (x := k) (y := i) h8 h7 (by simp [intR, conc, he]) (.inl rfl)
  · rename_i hne
    split at hf
    · rename_i hw
      rw [hw] at hO
      rcases List.mem_cons.1 hf with rfl | hf
      · exact e0 hne
      · exact hO f hf
    · rename_i hw
      rw [hw] at hO
      rcases List.mem_cons.1 hf with rfl | hf
      · exact e0 hne
      · exact hO f hf
    · rename_i hw
      rw [hw] at hO
      rcases List.mem_cons.1 hf with rfl | hf
      · exact e0 hne
      · exact hO f hf
    · rename_i hw
      rw [hw] at hO
      split at hf
      · rename_i hlt
        rcases List.mem_cons.1 hf with rfl | hf
        · exact e0 hne
        rcases List.mem_cons.1 hf with rfl | hf
        · exact FactOK.int (k := .i64) (x := (D k).to) (y := (D i).frm) hto hfrm (by simp [intR, conc, hlt]) (.inl rfl)
        · exact hO f hf
      · rename_i hlt
        rcases List.mem_cons.1 hf with rfl | hf
        · exact e0 hne
        rcases List.mem_cons.1 hf with rfl | hf
        · exact FactOK.int (k := .i64) (x := (D k).to) (y := (D i).frm) hto hfrm (by simp [intR, conc]; omega) (.inl rfl)
        · exact hO f hf
theorem wayO_yes {left i : Nat} {to code : Int} : wayO left i to code = .yes ↔ left / 2 ^ i % 2 = 1 ∧ 0 ≤ to ∧ code ≠ 7 := by
  unfold wayO
  split <;> rename_i h1
  · split <;> rename_i h2
    · split <;> rename_i h3
      · simp [h3]
      · simp [h1, h2, h3]
    · simp [h2]
  · simp [h1]
theorem wayF_early {D : Nat → DR} {left i k : Nat} : wayF D left i k = .early ↔ hearly D left i k := by
  unfold wayF hearly
  split
  · rename_i he; simp [he]
  · rename_i hne
    split
    · rename_i hw
      constructor
      · intro h; cases h
      · rintro ⟨_, h1, h2, h3, _⟩; have := wayO_yes.2 ⟨h1, h2, h3⟩; rw [hw] at this; cases this
    · rename_i hw
      constructor
      · intro h; cases h
      · rintro ⟨_, h1, h2, h3, _⟩; have := wayO_yes.2 ⟨h1, h2, h3⟩; rw [hw] at this; cases this
    · rename_i hw
      constructor
      · intro h; cases h
      · rintro ⟨_, h1, h2, h3, _⟩; have := wayO_yes.2 ⟨h1, h2, h3⟩; rw [hw] at this; cases this
    · rename_i hw
      obtain ⟨h1, h2, h3⟩ := wayO_yes.1 hw
      split
      · rename_i hlt; simp [hne, h1, h2, h3, hlt]
      · rename_i hlt; simp [hlt]
end Go.Proofs.Ytbhjhffglcipbaa.HW
namespace Go.Proofs.Ytbhjhffglcipbaa
open Go Go.Proofs.Ytbhjhffglcipbaa.AS Go.Proofs.Ytbhjhffglcipbaa.HW Go.RowKit
set_option maxRecDepth 100000
set_option linter.unusedVariables false
set_option linter.unusedSimpArgs false
set_option linter.unusedSectionVars false
theorem body23 : Try.f23.body = some (Try.f23.body.getD .skip) := by kernel_rfl
theorem nt23 : Try.f23.ntmps = 47 := by kernel_rfl
theorem fiL_eq : fiL = fiL.take 2 ++ ([.block 0 (.loop fiB)] ++ ((fiL.drop 3).take 1 ++ [.ret])) := by kernel_rfl
theorem fiLb_eq : fiLb = fiLb.take 2 ++ (fiLb.getD 2 .skip :: fiLb.drop 3) := by kernel_rfl
theorem fiLb_eq1 : fiLb = [fiLb.getD 0 .skip] ++ (fiLb.getD 1 .skip :: fiLb.drop 2) := by kernel_rfl
theorem stB_tellF (t8 t20 t21 t22 : Value) (vs : List Value) (h8 : t8 = sy 8) : stB2 Try.prog [some 0] (theta t8 t20 t21 t22 vs) 8 stS tmF stS tmF = true := by subst h8; kernel_rfl
theorem new_rowF : stW.new (.blk rowV 0 true none) = some (2, stF) := by rfl
theorem isTrue_eq {o : Option Value} (h : HW.isTrue' o = true) : o = some (.bool true) := by
  unfold HW.isTrue' at h
  split at h
  · rfl
  · cases h

section
variable {w0 : World} {x : Addr} {n c m left : Nat} {D : Nat → DR}
theorem first_loop {i : Nat} {Q : Exit → Act → World → Prop} (hr : RowsAt w0 x n fun k => (D k).cells) (hxB : x.block < w0.heap.size) (hn : n ≤ 31) (hl : left < 4294967296) (hi : i < n)
    (hQf : (∃ k, k < n ∧ hearly D left i k) → ∀ S σ tm a w, AtX Try.prog S (fun _ => False) w0.heap.size w0 σ tm a w → resultsV Try.prog Try.f23 σ tm = some (.bool false) → Q .ret a w)
    (hQe : (∀ k, k < n → ¬ hearly D left i k) → ∀ S σ (t : TM) a w, SO S x n c m left → AtX Try.prog S (fun _ => False) w0.heap.size w0 σ t.toL a w →
      (match @runLT (orcX Try.prog lens [] []) Try.prog ov0 300 ((fiL.drop 3).take 1) t σ with
      | some (t, σ) => isTrue' (resultsT Try.prog Try.f23 σ t)
      | none => false) = true → Q (.exit 0) a w) :
    ∀ (d : Nat) (k : Nat) (S : Sym) (a : Act) (w : World), n - k = d → k ≤ n → (∀ j, j < k → ¬ hearly D left i j) → SO S x n c m left → S.val 7 = HW.i64 i → S.val 8 = HW.i64 k →
      AtX Try.prog S (fun _ => False) w0.heap.size w0 stS tmF a w → InLoop Try.prog fiB Q a w := by
  intro d
  induction d with
  | zero =>
    intro k S a w hd hk hno hS h7 h8 hat
    have hkn : k = n := by omega
    refine @inLoop_of_wp plainSym mute _ (mute_ok _) _ _ _ _ (wp_flat _ _ _ _ ?_)
    show wpL Try.prog _ fiLb a w
    have htm : (TM.of tmF 47 ok47).toL = tmF := by rw [@TM.of_toL mute _ _ _ (by decide)]; rfl
    rw [← htm] at hat
    have hp := f_end
    unfold phaseF1 at hp
    split at hp
    case h_2 => cases hp
    rename_i t1 σ1 hrun
    split at hp
    case h_2 => cases hp
    rename_i id t2 σ2 hrun2
    simp only [Bool.and_eq_true] at hp
    obtain ⟨hid, hp⟩ := hp
    have hid := of_beq hid
    subst hid
    have hO : @OrcOK S (orcX Try.prog lens [⟨.lss, 3, HW.sy 8, HW.sy 9, .bool false⟩] []) Try.prog := by
      refine orcX_ok _ _ _ _ hS.len ?_ (fun f hf => by cases hf)
      intro f hf
      simp only [List.mem_cons, List.not_mem_nil, or_false] at hf
      subst hf
      exact FactOK.int (k := .i64) (x := k) (y := n) h8 hS.n (by simp [intR, conc]; omega) (.inl rfl)
    have hO2 : @OrcOK S (orcX Try.prog lens [] []) Try.prog := orcX_ok _ _ _ _ hS.len (fun f hf => by cases hf) (fun f hf => by cases hf)
    rw [fiLb_eq1]
    refine AtX.runL _ hO mixed26 (fun _ _ h => by cases h) (fun _ _ h => by cases h) _ hrun hat fun a' w' hat3 => ?_
    refine AtX.run _ hO2 mixed26 (fun _ _ h => by cases h) (fun _ _ h => by cases h) hrun2 hat3 fun a2 w2 hat4 => ?_
    exact hQe (by subst hkn; exact hno) S σ2 t2 a2 w2 hS hat4 hp
  | succ d ih =>
    intro k S a w hd hk hno hS h7 h8 hat
    have hkn : k < n := by omega
    have hlen := hr.len
    have hθ : (theta (HW.sy 8) (u32 ((left / 2 ^ k : Nat) : Int)) (u32 ((left / 2 ^ k % 2 : Nat) : Int)) (HW.i64 (k + 1 : Nat)) ((D k).cells ++ (D i).cells)).all okθ = true :=
      theta_ok rfl rfl rfl rfl (by rw [List.all_append, Bool.and_eq_true]; exact ⟨hr.leafs k hkn, hr.leafs i hi⟩)
    have hat1 := hat.tell hθ (stB_tellF _ _ _ _ _ rfl)
    have hS1 := hS.of hθ
    have g7 : (Sym.of S _ hθ).val 7 = HW.i64 i := h7
    have g8 : (Sym.of S _ hθ).val 8 = HW.i64 k := h8
    have g20 : (Sym.of S _ hθ).val 20 = u32 ((left / 2 ^ k : Nat) : Int) := rfl
    have g21 : (Sym.of S _ hθ).val 21 = u32 ((left / 2 ^ k % 2 : Nat) : Int) := rfl
    have g22 : (Sym.of S _ hθ).val 22 = HW.i64 (k + 1 : Nat) := rfl
    have grow : ∀ j v, ((D k).cells ++ (D i).cells)[j]? = some v → (Sym.of S _ hθ).val (100 + j) = v := by
      intro j v hv
      show conc S ((theta _ _ _ _ ((D k).cells ++ (D i).cells)).getD (100 + j) _) = v
      rw [theta_row, List.getD_eq_getElem?_getD, hv]
      refine conc_leaf ?_
      have := List.mem_of_getElem? hv
      rcases List.mem_append.1 this with q | q
      · exact List.all_eq_true.1 (hr.leafs k hkn) v q
      · exact List.all_eq_true.1 (hr.leafs i hi) v q
    generalize Sym.of S _ hθ = S1 at hat1 hS1 g7 g8 g20 g21 g22 grow
    obtain ⟨ρw, hw⟩ := hat1
    have hrw : RowsAt w x n fun k => (D k).cells := hr.keep (hw.keep x.block hxB (fun q => q))
    obtain ⟨C, t, fr, c1, c2, c3⟩ := hrw.cells
    have hat2 := AtX.window (k := HW.sy 8) ⟨ρw, hw⟩ new_row (z := 15) hS1.l (kd := .i64) (i := (k : Int)) g8 (by omega) (by omega) hr.spot rfl hxB (fun q => q) c1 (by simp only [Int.toNat_natCast]; omega) (fun j u hu => by
      have hj : j < 15 := by
        have := (List.getElem?_eq_some_iff.1 hu).1
        simpa [rowU] using this
      have hv : ((D k).cells)[j]? = some (((D k).cells)[j]'hj) := List.getElem?_eq_getElem _
      refine ⟨_, by simp only [Int.toNat_natCast]; exact c3 k hkn j _ hv, fun ρ => ?_⟩
      have hu' : u = HW.sy (100 + j) := by
        simp only [rowU, List.getElem?_map, List.getElem?_range hj, Option.map_some, Option.some.injEq] at hu
        exact hu.symm
      rw [hu']
      exact @VR.sym S1 ρ (100 + j) _ (grow j _ (by rw [List.getElem?_append_left (show j < (D k).cells.length from hj)]; exact hv)))
    have hat3 := AtX.window (k := HW.sy 7) hat2 new_rowF (z := 15) hS1.l (kd := .i64) (i := (i : Int)) g7 (by omega) (by omega) hr.spot rfl hxB (fun q => q) c1 (by simp only [Int.toNat_natCast]; omega) (fun j u hu => by
      have hj : j < 15 := by
        have := (List.getElem?_eq_some_iff.1 hu).1
        simpa [rowV] using this
      have hv : ((D i).cells)[j]? = some (((D i).cells)[j]'hj) := List.getElem?_eq_getElem _
      refine ⟨_, by simp only [Int.toNat_natCast]; exact c3 i hi j _ hv, fun ρ => ?_⟩
      have hu' : u = HW.sy (100 + (15 + j)) := by
        simp only [rowV, List.getElem?_map, List.getElem?_range hj, Option.map_some, Option.some.injEq] at hu
        rw [← hu]; congr 1; omega
      rw [hu']
      exact @VR.sym { S1 with wins := ⟨1, HW.sy 8, 1, 15⟩ :: S1.wins } ρ (100 + (15 + j)) _ (grow (15 + j) _ (by rw [List.getElem?_append_right (show (D k).cells.length ≤ 15 + j from Nat.le_add_right _ _)]; rw [show 15 + j - (D k).cells.length = j from Nat.add_sub_cancel_left 15 j]; exact hv)))
    have gto := grow 10 _ rfl
    have gcode := grow 11 _ rfl
    have gfrm := grow 24 _ rfl
    refine @inLoop_of_wp plainSym mute _ (mute_ok _) _ _ _ _ (wp_flat _ _ _ _ ?_)
    show wpL Try.prog _ fiLb a w
    have htm : (TM.of tmF 47 ok47).toL = tmF := by rw [@TM.of_toL mute _ _ _ (by decide)]; rfl
    rw [← htm] at hat3
    generalize hS2 : ({ S1 with wins := ⟨1, HW.sy 7, 2, 15⟩ :: ⟨1, HW.sy 8, 1, 15⟩ :: S1.wins } : Sym) = S2 at hat3
    have k1 : SO S2 x n c m left := by subst hS2; exact ⟨hS1.l, hS1.m, hS1.left, hS1.n⟩
    have k7 : S2.val 7 = HW.i64 i := by subst hS2; exact g7
    have k8 : S2.val 8 = HW.i64 k := by subst hS2; exact g8
    have k20 : S2.val 20 = u32 ((left / 2 ^ k : Nat) : Int) := by subst hS2; exact g20
    have k21 : S2.val 21 = u32 ((left / 2 ^ k % 2 : Nat) : Int) := by subst hS2; exact g21
    have k22 : S2.val 22 = HW.i64 (k + 1 : Nat) := by subst hS2; exact g22
    have kto : S2.val 110 = HW.i64 (D k).to := by subst hS2; exact gto
    have kcode : S2.val 111 = HW.i64 (D k).code := by subst hS2; exact gcode
    have kfrm : S2.val 124 = HW.i64 (D i).frm := by subst hS2; exact gfrm
    have hO : ∀ wy, wy = wayF D left i k → @OrcOK S2 (orcX Try.prog lens (factsI ++ factsF wy) winsF) Try.prog := by
      rintro wy rfl
      refine orcX_ok _ _ _ _ k1.len ?_ ?_
      · intro f hf
        rcases List.mem_append.1 hf with hf | hf
        · exact factsI_ok k1 hl hn hkn k8 k20 k21 k22 f hf
        · exact factsF_ok k8 k7 k21 kto kcode kfrm f hf
      · intro f hf
        subst hS2
        simp only [winsF, List.mem_cons, List.not_mem_nil, or_false] at hf
        rcases hf with rfl | rfl
        · simp
        · simp
    have goon : ∀ wy, wy = wayF D left i k → phaseF Try.prog fiLb wy = true → ¬ hearly D left i k → wpL Try.prog (Exit.then (InLoop Try.prog fiB Q) Q) fiLb a w := by
      intro wy hwy hp hne
      unfold phaseF at hp
      split at hp
      case h_2 => cases hp
      rename_i t1 σ1 hrun
      rw [← List.append_nil fiLb]
      refine AtX.runL _ (hO wy hwy) mixed26 (fun _ _ h => by cases h) (fun _ _ h => by cases h) fiLb hrun hat3 fun a' w' hat4 => ?_
      obtain ⟨hθ2, hat5⟩ := hat4.restate hp
      refine ih (k + 1) _ a' w' (by omega) (by omega) ?_ ?_ ?_ ?_ hat5
      · intro j hj
        rcases Nat.lt_or_ge j k with q | q
        · exact hno j q
        · have e : j = k := by omega
          subst e; exact hne
      · exact ⟨k1.l, k1.m, k1.left, k1.n⟩
      · exact k7
      · exact k22
    have hne : ∀ wy, wayF D left i k = wy → wy ≠ .early → ¬ hearly D left i k := fun wy hwy h e => h (by rw [← hwy]; exact wayF_early.2 e)
    cases hwy : wayF D left i k with
    | early =>
      have hp := f_early
      unfold phaseFr at hp
      split at hp
      case h_2 => cases hp
      rename_i t1 σ1 hrun
      split at hp
      case h_2 => cases hp
      rename_i t2 σ2 hrun2
      rw [fiLb_eq]
      refine AtX.runL _ (hO .early hwy.symm) mixed26 (fun _ _ h => by cases h) (fun _ _ h => by cases h) _ hrun hat3 fun a' w' hat4 => ?_
      refine AtX.run _ (hO .early hwy.symm) mixed26 (fun _ _ h => by cases h) (fun _ _ h => by cases h) hrun2 hat4 fun a2 w2 hat5 => ?_
      exact hQf ⟨k, hkn, wayF_early.1 hwy⟩ _ _ _ a2 w2 hat5 (by rw [@resultsT_eq mute]; exact isFalse_eq hp)
    | same => exact goon .same hwy.symm f_same (hne _ hwy (by intro e; cases e))
    | bit => exact goon .bit hwy.symm f_bit (hne _ hwy (by intro e; cases e))
    | low => exact goon .low hwy.symm f_low (hne _ hwy (by intro e; cases e))
    | out => exact goon .out hwy.symm f_out (hne _ hwy (by intro e; cases e))
    | late => exact goon .late hwy.symm f_late (hne _ hwy (by intro e; cases e))

abbrev symF (x : Addr) (n c m left i : Nat) : Sym where
  val j := if j = 1 then .slice (some x) n c else if j = 2 then .map (some m) else if j = 3 then .int .u32 left else if j = 9 then .int .i64 n else if j = 7 then .int .i64 i else .int .i64 0
  cell j := by split <;> first | rfl | (split <;> first | rfl | (split <;> first | rfl | (split <;> first | rfl | (split <;> rfl))))
theorem startF {w : World} {sb : Nat} {i : Nat} (hs : StructAt w sb x n c m) : @HR (symF x n c m left i) (rhoO sb) stS w := by
  obtain ⟨C, t, fr, h1, h2, h3, h4⟩ := hs
  refine @HR.mk (symF x n c m left i) _ _ _ ?_ ?_ ?_ (Nat.zero_le _) (fun f hf => by cases hf)
  · intro b o l hb hl
    obtain ⟨rfl, rfl⟩ := stS_get hb
    simp only [rhoO, if_true, Option.some.injEq] at hl
    subst hl
    refine ⟨rfl, rfl, rfl, Nat.le_refl _, C, t, fr, h1, by simpa using h4, (fun e => by cases e), fun i v hi => ?_, (fun t' e => by cases e)⟩
    match i, hi with
    | 0, hi => simp at hi; subst hi; exact ⟨.slice (some x) n c, by simpa using h2, @VR.sym (symF x n c m left _) _ 1 _ rfl⟩
    | 1, hi => simp at hi; subst hi; exact ⟨.map (some m), by simpa using h3, @VR.sym (symF x n c m left _) _ 2 _ rfl⟩
    | i + 2, hi => simp at hi
  · intro b b' o o' l l' _ hb hw
    obtain ⟨_, rfl⟩ := stS_get hb
    cases hw
  · intro b hb
    have hb' : 1 ≤ b := hb
    exact if_neg (by omega)

/-- search.first, of the i-th call -/
theorem first_calls {sb i : Nat} (hs : StructAt w0 sb x n c m) (hr : RowsAt w0 x n fun k => (D k).cells) (hn : n ≤ 31) (hl : left < 4294967296) (hi : i < n) :
    Calls Try.prog 23 #[.pointer (some ⟨sb, 0, none⟩), .int .u32 left, .int .i64 i] w0 fun e w' => e = .returned (.bool (firstB D n left i)) ∧ Below w0.heap.size w0 w' := by
  have hxB : x.block < w0.heap.size := by
    obtain ⟨C, t, fr, h1, _⟩ := hr.cells
    exact (Array.getElem?_eq_some_iff.1 h1).1
  refine calls_flat (args := [.pointer (some ⟨sb, 0, none⟩), .int .u32 left, .int .i64 i]) Try.func23 body23 fun a ht hd => ?_
  show wpL Try.prog _ fiL a w0
  have hat := AtX.start (P := Try.prog) (S := symF x n c m left i) (X := fun _ => False) (n := Try.f23.ntmps) (vs0 := [HW.at_ 0, HW.sy 3, HW.sy 7]) (fun g hg => by rw [noG] at hg; omega) (startF hs)
    (@VL.cons (symF x n c m left i) (rhoO sb) _ _ _ _ (@VR.ptr (symF x n c m left i) _ _ _ ⟨rfl, rfl, ⟨sb, 0, 2, 0, 2, true⟩, rfl, rfl, rfl⟩) (@VL.cons (symF x n c m left i) (rhoO sb) _ _ _ _ (@VR.sym (symF x n c m left i) _ 3 _ rfl)
      (@VL.cons (symF x n c m left i) (rhoO sb) _ _ _ _ (@VR.sym (symF x n c m left i) _ 7 _ rfl) (@VL.nil (symF x n c m left i) _)))) ht hd
    (fun b o l hb hw => by obtain ⟨_, rfl⟩ := stS_get hb; cases hw)
  rw [nt23] at hat
  have hat : AtX Try.prog (symF x n c m left i) (fun _ => False) w0.heap.size w0 stS (TM.of [HW.at_ 0, HW.sy 3, HW.sy 7] 47 ok47).toL a w0 := by
    rw [@TM.of_toL mute _ _ _ (by decide)]; exact hat
  have hO : @OrcOK (symF x n c m left i) (orcX Try.prog lens [] []) Try.prog := orcX_ok _ _ _ _ (SO.mk (S := symF x n c m left i) rfl rfl rfl rfl).len (fun f hf => by cases hf) (fun f hf => by cases hf)
  have hp := f_start
  unfold phaseF0 at hp
  split at hp
  case h_2 => cases hp
  rename_i t1 σ1 hrun
  rw [fiL_eq]
  refine AtX.runL _ hO mixed26 (fun _ _ h => by cases h) (fun _ _ h => by cases h) _ hrun hat fun a1 w1 hat1 => ?_
  obtain ⟨hθ, hat2⟩ := hat1.restate hp
  refine wp_block (@SimC.wp plainSym mute _ (mute_ok _) (.loop fiB) _ _ _ ?_)
  refine first_loop (m := m) (c := c) (i := i) hr hxB hn hl hi ?_ ?_ n 0 _ a1 w1 (by omega) (by omega) (fun j hj => by omega) ?_ ?_ ?_ hat2
  · rintro ⟨k, h1, h2⟩ S σ tm a2 w2 hat3 hres
    have hb : firstB D n left i = false := by
      unfold firstB
      exact decide_eq_false fun h => h k h1 h2
    show bodyPost Try.prog Try.f23 (fun e w' => e = Ending.returned (Value.bool (firstB D n left i)) ∧ Below w0.heap.size w0 w') Exit.ret a2 w2
    exact hat3.done (.inr rfl) hres fun ρ v' hv => ⟨by rw [@VR.inv_leaf S ρ _ _ hv rfl, hb], hat3.below⟩
  · intro hall S σ t a2 w2 hS hat3 hp2
    have hb : firstB D n left i = true := decide_eq_true hall
    show wpL Try.prog (bodyPost Try.prog Try.f23 (fun e w' => e = Ending.returned (Value.bool (firstB D n left i)) ∧ Below w0.heap.size w0 w')) ((fiL.drop 3).take 1 ++ [.ret]) a2 w2
    split at hp2
    case h_2 => cases hp2
    rename_i t3 σ3 hrun3
    have hO3 : @OrcOK S (orcX Try.prog lens [] []) Try.prog := orcX_ok _ _ _ _ hS.len (fun f hf => by cases hf) (fun f hf => by cases hf)
    refine AtX.runL _ hO3 mixed26 (fun _ _ h => by cases h) (fun _ _ h => by cases h) _ hrun3 hat3 fun a4 w4 hat4 => ?_
    rw [wpL_one]
    refine wp_ret ?_
    exact hat4.done (.inr rfl) (by rw [@resultsT_eq mute]; exact isTrue_eq hp2) fun ρ v' hv => ⟨by rw [@VR.inv_leaf S ρ _ _ hv rfl, hb], hat4.below⟩
  · exact ⟨rfl, rfl, rfl, rfl⟩
  · rfl
  · rfl
end
end Go.Proofs.Ytbhjhffglcipbaa
