import Derived.Test.YtbhjhffglcipbaaAsG1
namespace Go.Proofs.Ytbhjhffglcipbaa.HW
open Go Go.Proofs.Ytbhjhffglcipbaa.AS Go.RowKit
set_option linter.unusedVariables false
set_option linter.unusedSimpArgs false
set_option linter.unusedSectionVars false
/-! ## search.over, whatever it answers -/
/-- an answered call that is left -/
def oans (D : Nat → DR) (left k : Nat) : Prop := left / 2 ^ k % 2 = 1 ∧ 0 ≤ (D k).to ∧ (D k).code ≠ 7
instance (D : Nat → DR) (left k : Nat) : Decidable (oans D left k) := by unfold oans; infer_instance
def overB (D : Nat → DR) (n left : Nat) : Bool := decide (∀ k, k < n → ¬ oans D left k)
def phaseO1 (P : Program) (fn : Func) (c1 c2 : Code) (rest : List Code) : Bool :=
  match @runLT (orcX P lens [⟨.lss, 3, sy 8, sy 9, .bool false⟩] []) P ov0 300 [c1] (TM.of tmO 27 ok27) stS with
  | some (t, σ) => (match @AS.runT (orcX P lens [] []) P ov0 300 none c2 t σ with
    | some (.exit i, t, σ) => Nat.beq i 0 && (match @runLT (orcX P lens [] []) P ov0 300 rest t σ with
      | some (t, σ) => isTrue' (resultsT P fn σ t)
      | none => false)
    | _ => false)
  | none => false
end Go.Proofs.Ytbhjhffglcipbaa.HW
namespace Go.Proofs.Ytbhjhffglcipbaa
open Go Go.Proofs.Ytbhjhffglcipbaa.AS Go.Proofs.Ytbhjhffglcipbaa.HW Go.RowKit
set_option maxRecDepth 100000
set_option linter.unusedVariables false
set_option linter.unusedSimpArgs false
set_option linter.unusedSectionVars false
theorem o_end : phaseO1 Try.prog Try.f22 (ovLb.getD 0 .skip) (ovLb.getD 1 .skip) ((ovL.drop 3).take 1) = true := by kernel_rfl
theorem ovL_eq2 : ovL = ovL.take 2 ++ ([.block 0 (.loop ovB)] ++ ((ovL.drop 3).take 1 ++ [.ret])) := by kernel_rfl
theorem ovLb_eq1 : ovLb = [ovLb.getD 0 .skip] ++ (ovLb.getD 1 .skip :: ovLb.drop 2) := by kernel_rfl
section
variable {w0 : World} {x : Addr} {n c m left : Nat} {D : Nat → DR}
theorem over_loop2 {Q : Exit → Act → World → Prop} (hr : RowsAt w0 x n fun k => (D k).cells) (hxB : x.block < w0.heap.size) (hn : n ≤ 31) (hl : left < 4294967296)
    (hQf : (∃ k, k < n ∧ oans D left k) → ∀ S σ tm a w, AtX Try.prog S (fun _ => False) w0.heap.size w0 σ tm a w → resultsV Try.prog Try.f22 σ tm = some (.bool false) → Q .ret a w)
    (hQe : (∀ k, k < n → ¬ oans D left k) → ∀ S σ (t : TM) a w, SO S x n c m left → AtX Try.prog S (fun _ => False) w0.heap.size w0 σ t.toL a w →
      (match @runLT (orcX Try.prog lens [] []) Try.prog ov0 300 ((ovL.drop 3).take 1) t σ with
      | some (t, σ) => isTrue' (resultsT Try.prog Try.f22 σ t)
      | none => false) = true → Q (.exit 0) a w) :
    ∀ (d i : Nat) (S : Sym) (a : Act) (w : World), n - i = d → i ≤ n → (∀ j, j < i → ¬ oans D left j) → SO S x n c m left → S.val 8 = HW.i64 i →
      AtX Try.prog S (fun _ => False) w0.heap.size w0 stS tmO a w → InLoop Try.prog ovB Q a w := by
  intro d
  induction d with
  | zero =>
    intro i S a w hd hi hno hS h8 hat
    have hkn : i = n := by omega
    refine @inLoop_of_wp plainSym mute _ (mute_ok _) _ _ _ _ (wp_flat _ _ _ _ ?_)
    show wpL Try.prog _ ovLb a w
    have htm : (TM.of tmO 27 ok27).toL = tmO := by rw [@TM.of_toL mute _ _ _ (by decide)]; rfl
    rw [← htm] at hat
    have hp := o_end
    unfold phaseO1 at hp
    split at hp
    case h_2 => cases hp
    rename_i t1 σ1 hrun
    split at hp
    case h_2 => cases hp
    rename_i id t2 σ2 hrun2
    simp only [Bool.and_eq_true] at hp
    obtain ⟨hid, hp⟩ := hp
    have hid := of_beq hid
    subst hid
    have hO : @OrcOK S (orcX Try.prog lens [⟨.lss, 3, HW.sy 8, HW.sy 9, .bool false⟩] []) Try.prog := by
      refine orcX_ok _ _ _ _ hS.len ?_ (fun f hf => by cases hf)
      intro f hf
      simp only [List.mem_cons, List.not_mem_nil, or_false] at hf
      subst hf
      exact FactOK.int (k := .i64) (x := i) (y := n) h8 hS.n (by simp [intR, conc]; omega) (.inl rfl)
    have hO2 : @OrcOK S (orcX Try.prog lens [] []) Try.prog := orcX_ok _ _ _ _ hS.len (fun f hf => by cases hf) (fun f hf => by cases hf)
    rw [ovLb_eq1]
    refine AtX.runL _ hO mixed26 (fun _ _ h => by cases h) (fun _ _ h => by cases h) _ hrun hat fun a' w' hat3 => ?_
    refine AtX.run _ hO2 mixed26 (fun _ _ h => by cases h) (fun _ _ h => by cases h) hrun2 hat3 fun a2 w2 hat4 => ?_
    exact hQe (by subst hkn; exact hno) S σ2 t2 a2 w2 hS hat4 hp
  | succ d ih =>
    intro i S a w hd hi hno hS h8 hat
    have hin : i < n := by omega
    have hθ : (theta (HW.sy 8) (u32 ((left / 2 ^ i : Nat) : Int)) (u32 ((left / 2 ^ i % 2 : Nat) : Int)) (HW.i64 (i + 1 : Nat)) ((D i).cells)).all okθ = true := theta_ok rfl rfl rfl rfl (hr.leafs i hin)
    have hat1 := hat.tell hθ (stB_tell _ _ _ _ _ rfl)
    have hS1 := hS.of hθ
    have g8 : (Sym.of S _ hθ).val 8 = HW.i64 i := h8
    have g20 : (Sym.of S _ hθ).val 20 = u32 ((left / 2 ^ i : Nat) : Int) := rfl
    have g21 : (Sym.of S _ hθ).val 21 = u32 ((left / 2 ^ i % 2 : Nat) : Int) := rfl
    have g22 : (Sym.of S _ hθ).val 22 = HW.i64 (i + 1 : Nat) := rfl
    have grow : ∀ j v, ((D i).cells)[j]? = some v → (Sym.of S _ hθ).val (100 + j) = v := by
      intro j v hv
      show conc S ((theta _ _ _ _ ((D i).cells)).getD (100 + j) _) = v
      rw [theta_row, List.getD_eq_getElem?_getD, hv]
      exact conc_leaf (List.all_eq_true.1 (hr.leafs i hin) v (List.mem_of_getElem? hv))
    generalize Sym.of S _ hθ = S1 at hat1 hS1 g8 g20 g21 g22 grow
    obtain ⟨ρw, hw⟩ := hat1
    have hrw : RowsAt w x n fun k => (D k).cells := hr.keep (hw.keep x.block hxB (fun q => q))
    obtain ⟨C, t, fr, c1, c2, c3⟩ := hrw.cells
    have hat2 := AtX.window (k := HW.sy 8) ⟨ρw, hw⟩ new_row (z := 15) hS1.l (kd := .i64) (i := (i : Int)) g8 (by omega) (by omega) hr.spot rfl hxB (fun q => q) c1 (by simp only [Int.toNat_natCast]; omega) (fun j u hu => by
      have hj : j < 15 := by
        have := (List.getElem?_eq_some_iff.1 hu).1
        simpa [rowU] using this
      have hv : ((D i).cells)[j]? = some (((D i).cells)[j]'hj) := List.getElem?_eq_getElem _
      refine ⟨_, by simp only [Int.toNat_natCast]; exact c3 i hin j _ hv, fun ρ => ?_⟩
      have hu' : u = HW.sy (100 + j) := by
        simp only [rowU, List.getElem?_map, List.getElem?_range hj, Option.map_some, Option.some.injEq] at hu
        exact hu.symm
      rw [hu']
      exact @VR.sym S1 ρ (100 + j) _ (grow j _ hv))
    have hto' := grow 10 _ rfl
    have hcode' := grow 11 _ rfl
    have hO : ∀ wy, wy = wayO left i (D i).to (D i).code → @OrcOK { S1 with wins := ⟨1, HW.sy 8, 1, 15⟩ :: S1.wins } (orcX Try.prog lens (factsI ++ factsO wy) winsK) Try.prog := by
      rintro wy rfl
      refine orcX_ok _ _ _ _ ?_ ?_ ?_
      · exact (SO.mk (S := { S1 with wins := ⟨1, HW.sy 8, 1, 15⟩ :: S1.wins }) hS1.l hS1.m hS1.left hS1.n).len
      · intro f hf
        rcases List.mem_append.1 hf with hf | hf
        · exact factsI_ok (S := { S1 with wins := ⟨1, HW.sy 8, 1, 15⟩ :: S1.wins }) (SO.mk hS1.l hS1.m hS1.left hS1.n) hl hn hin g8 g20 g21 g22 f hf
        · exact factsO_ok (S := { S1 with wins := ⟨1, HW.sy 8, 1, 15⟩ :: S1.wins }) g21 hto' hcode' f hf
      · intro f hf
        simp only [winsK, List.mem_cons, List.not_mem_nil, or_false] at hf
        subst hf; simp
    refine @inLoop_of_wp plainSym mute _ (mute_ok _) _ _ _ _ (wp_flat _ _ _ _ ?_)
    show wpL Try.prog _ ovLb a w
    have htm : (TM.of tmO 27 ok27).toL = tmO := by rw [@TM.of_toL mute _ _ _ (by decide)]; rfl
    rw [← htm] at hat2
    have goon : ∀ wy, wy = wayO left i (D i).to (D i).code → wy ≠ .yes → phaseO Try.prog ovLb wy = true → wpL Try.prog (Exit.then (InLoop Try.prog ovB Q) Q) ovLb a w := by
      intro wy hwy hne hp
      unfold phaseO at hp
      split at hp
      case h_2 => cases hp
      rename_i t1 σ1 hrun
      rw [← List.append_nil ovLb]
      refine AtX.runL _ (hO wy hwy) mixed26 (fun _ _ h => by cases h) (fun _ _ h => by cases h) ovLb hrun hat2 fun a' w' hat3 => ?_
      obtain ⟨hθ2, hat4⟩ := hat3.restate hp
      refine ih (i + 1) _ a' w' (by omega) (by omega) ?_ ?_ ?_ hat4
      · intro j hj
        rcases Nat.lt_or_ge j i with q | q
        · exact hno j q
        · have e : j = i := by omega
          subst e
          intro ho
          exact hne (hwy.trans (wayO_yes.2 ho))
      · exact ⟨hS1.l, hS1.m, hS1.left, hS1.n⟩
      · exact g22
    cases hwy : wayO left i (D i).to (D i).code with
    | yes =>
      have hp := o_yes
      unfold phaseOr at hp
      split at hp
      case h_2 => cases hp
      rename_i t1 σ1 hrun
      split at hp
      case h_2 => cases hp
      rename_i t2 σ2 hrun2
      rw [ovLb_eq]
      refine AtX.runL _ (hO .yes hwy.symm) mixed26 (fun _ _ h => by cases h) (fun _ _ h => by cases h) _ hrun hat2 fun a' w' hat3 => ?_
      refine AtX.run _ (hO .yes hwy.symm) mixed26 (fun _ _ h => by cases h) (fun _ _ h => by cases h) hrun2 hat3 fun a2 w2 hat4 => ?_
      exact hQf ⟨i, hin, wayO_yes.1 hwy⟩ _ _ _ a2 w2 hat4 (by rw [@resultsT_eq mute]; exact isFalse_eq hp)
    | bit => exact goon .bit hwy.symm (by intro e; cases e) o_bit
    | low => exact goon .low hwy.symm (by intro e; cases e) o_low
    | out => exact goon .out hwy.symm (by intro e; cases e) o_out
/-- search.over -/
theorem over_calls2 {sb : Nat} (hs : StructAt w0 sb x n c m) (hr : RowsAt w0 x n fun k => (D k).cells) (hn : n ≤ 31) (hl : left < 4294967296) :
    Calls Try.prog 22 #[.pointer (some ⟨sb, 0, none⟩), .int .u32 left] w0 fun e w' => e = .returned (.bool (overB D n left)) ∧ Below w0.heap.size w0 w' := by
  have hxB : x.block < w0.heap.size := by
    obtain ⟨C, t, fr, h1, _⟩ := hr.cells
    exact (Array.getElem?_eq_some_iff.1 h1).1
  refine calls_flat (args := [.pointer (some ⟨sb, 0, none⟩), .int .u32 left]) Try.func22 body22 fun a ht hd => ?_
  show wpL Try.prog _ ovL a w0
  have hat := AtX.start (P := Try.prog) (S := symO x n c m left) (X := fun _ => False) (n := Try.f22.ntmps) (vs0 := [HW.at_ 0, HW.sy 3]) (fun g hg => by rw [noG] at hg; omega) (startO hs)
    (@VL.cons (symO x n c m left) (rhoO sb) _ _ _ _ (@VR.ptr (symO x n c m left) _ _ _ ⟨rfl, rfl, ⟨sb, 0, 2, 0, 2, true⟩, rfl, rfl, rfl⟩) (@VL.cons (symO x n c m left) (rhoO sb) _ _ _ _ (@VR.sym (symO x n c m left) _ 3 _ rfl) (@VL.nil (symO x n c m left) _))) ht hd
    (fun b o l hb hw => by obtain ⟨_, rfl⟩ := stS_get hb; cases hw)
  rw [nt22] at hat
  have hat : AtX Try.prog (symO x n c m left) (fun _ => False) w0.heap.size w0 stS (TM.of [HW.at_ 0, HW.sy 3] 27 ok27).toL a w0 := by
    rw [@TM.of_toL mute _ _ _ (by decide)]; exact hat
  have hO : @OrcOK (symO x n c m left) (orcX Try.prog lens [] []) Try.prog := orcX_ok _ _ _ _ (SO.mk (S := symO x n c m left) rfl rfl rfl rfl).len (fun f hf => by cases hf) (fun f hf => by cases hf)
  have hp := o_start
  unfold phaseO0 at hp
  split at hp
  case h_2 => cases hp
  rename_i t1 σ1 hrun
  rw [ovL_eq2]
  refine AtX.runL _ hO mixed26 (fun _ _ h => by cases h) (fun _ _ h => by cases h) _ hrun hat fun a1 w1 hat1 => ?_
  obtain ⟨hθ, hat2⟩ := hat1.restate hp
  refine wp_block (@SimC.wp plainSym mute _ (mute_ok _) (.loop ovB) _ _ _ ?_)
  refine over_loop2 (m := m) (c := c) (left := left) hr hxB hn hl ?_ ?_ n 0 _ a1 w1 (by omega) (by omega) (fun j hj => by omega) ?_ ?_ hat2
  · rintro ⟨k, h1, h2⟩ S σ tm a2 w2 hat3 hres
    have hb : overB D n left = false := decide_eq_false fun h => h k h1 h2
    show bodyPost Try.prog Try.f22 (fun e w' => e = Ending.returned (Value.bool (overB D n left)) ∧ Below w0.heap.size w0 w') Exit.ret a2 w2
    exact hat3.done (.inr rfl) hres fun ρ v' hv => ⟨by rw [@VR.inv_leaf S ρ _ _ hv rfl, hb], hat3.below⟩
  · intro hall S σ t a2 w2 hS hat3 hp2
    have hb : overB D n left = true := decide_eq_true hall
    show wpL Try.prog (bodyPost Try.prog Try.f22 (fun e w' => e = Ending.returned (Value.bool (overB D n left)) ∧ Below w0.heap.size w0 w')) ((ovL.drop 3).take 1 ++ [.ret]) a2 w2
    split at hp2
    case h_2 => cases hp2
    rename_i t3 σ3 hrun3
    have hO3 : @OrcOK S (orcX Try.prog lens [] []) Try.prog := orcX_ok _ _ _ _ hS.len (fun f hf => by cases hf) (fun f hf => by cases hf)
    refine AtX.runL _ hO3 mixed26 (fun _ _ h => by cases h) (fun _ _ h => by cases h) _ hrun3 hat3 fun a4 w4 hat4 => ?_
    rw [wpL_one]
    refine wp_ret ?_
    exact hat4.done (.inr rfl) (by rw [@resultsT_eq mute]; exact isTrue_eq hp2) fun ρ v' hv => ⟨by rw [@VR.inv_leaf S ρ _ _ hv rfl, hb], hat4.below⟩
  · exact ⟨rfl, rfl, rfl, rfl⟩
  · rfl
end
end Go.Proofs.Ytbhjhffglcipbaa
