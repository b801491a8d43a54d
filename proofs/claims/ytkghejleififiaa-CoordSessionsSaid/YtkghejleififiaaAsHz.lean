import Derived.Test.YtkghejleififiaaAsHn
namespace Go.Proofs.Ytkghejleififiaa
open Go Go.Proofs.Ytkghejleififiaa.AS Go.Proofs.Ytkghejleififiaa.CS Go.RowKit
set_option maxRecDepth 100000
set_option linter.unusedVariables false
set_option linter.unusedSimpArgs false
set_option linter.unusedSectionVars false

theorem body3 : Try.f3.body = some (Try.f3.body.getD .skip) := by kernel_rfl
theorem nt3 : Try.f3.ntmps = 179 := by kernel_rfl

section
variable {B : Nat} {W : World} {ao : Option Addr} {n c : Nat}

theorem loop_ok {Q : Exit → Act → World → Prop} (hn60 : n ≤ 60) (hcell : ∀ i : Int, 0 ≤ i → i < n → ∃ x z, ao = some x ∧ W.cell? (x.add i.toNat) = some (.int .u8 z) ∧ 0 ≤ z ∧ z < 256 ∧ x.block < B)
    (hend : ∀ S rs se g u a w, Inv S rs se g → okU u rs.length → At Try.prog S B W (stC u rs.length) tmC a w → Q (.exit 0) a w) :
    ∀ (d : Nat) (i : Int) (S : Sym) (rs : List IRow) (se : Int) (g : Nat → Int) (u : Nat) (a : Act) (w : World), 0 ≤ i → i ≤ n → ((n : Int) - i).toNat = d → Ls S ao n c i → Inv S rs se g → okU u rs.length →
      At Try.prog S B W (stC u rs.length) tmC a w → InLoop Try.prog bodyC Q a w := by
  intro d
  induction d with
  | zero =>
    intro i S rs se g u a w h0 hle hd hL hI hu hat
    refine @inLoop_of_wp plainSym mute _ (mute_ok _) _ _ _ _ (wp_flat _ _ _ _ ?_)
    show wpL Try.prog _ lbC a w
    rw [lb_eq]
    refine head hL hI hu hat fun S' a' w' hL' hI' hat' => ?_
    rw [if_neg (by omega)]
    exact hend S' rs se g u a' w' hI' hu hat'
  | succ d ih =>
    intro i S rs se g u a w h0 hle hd hL hI hu hat
    refine @inLoop_of_wp plainSym mute _ (mute_ok _) _ _ _ _ (wp_flat _ _ _ _ ?_)
    show wpL Try.prog _ lbC a w
    rw [lb_eq]
    refine head hL hI hu hat fun S' a' w' hL' hI' hat' => ?_
    rw [if_pos (by omega)]
    obtain ⟨x, z, rfl, hc, hz0, hz1, hxB⟩ := hcell i h0 (by omega)
    refine middle (m := []) hL' hI' hu ⟨h0, by omega⟩ hn60 (fun _ _ => hxB) hc ⟨hz0, hz1⟩ hat' fun S2 rs2 se2 g2 a2 w2 hL2 hI2 hat2 => ?_
    exact ih (i + 1) S2 rs2 se2 g2 4 a2 w2 (by omega) (by omega) (by omega) hL2 hI2 (.inl rfl) hat2

/-- l and its length -/
abbrev symL (ao : Option Addr) (n c : Nat) : Sym where
  val i := if i = 1 then .slice ao n c else if i = 9 then .int .i64 n else .int .i64 0
  cell i := by split <;> first | rfl | (split <;> rfl)
  nb i b := by
    split
    · intro h; cases h
    · split <;> (intro h; cases h)

theorem yesB_eq {o : Option Value} (h : yesB o = true) : o = some (.bool true) := by
  unfold yesB at h
  split at h
  · rfl
  · cases h

theorem getD_zero (i : Nat) : (List.replicate 20 (i64 0)).getD i (i64 0) = i64 0 := by
  rw [List.getD_eq_getElem?_getD, List.getElem?_replicate]
  split <;> rfl

theorem walk (ao : Option Addr) (n c : Nat) (W : World) (hcell : ∀ i : Int, 0 ≤ i → i < n → ∃ x z, ao = some x ∧ W.cell? (x.add i.toNat) = some (.int .u8 z) ∧ 0 ≤ z ∧ z < 256) :
    Calls Try.prog 3 #[.slice ao n c] W fun e w' => e = .returned (.bool true) ∧ Below W.heap.size W w' := by
  have hL : Ls (symL ao n c) ao n c 0 := ⟨rfl, rfl, rfl⟩
  refine calls_at (args := [.slice ao n c]) Try.func3 body3 rfl (symL ao n c) [sy 1] (@VL.cons (symL ao n c) _ _ _ _ _ (@VR.sym (symL ao n c) _ 1 _ rfl) (@VL.nil (symL ao n c) _)) fun a _ hat => ?_
  show wpL Try.prog _ lawC a W
  have hat : At Try.prog (symL ao n c) W.heap.size W (AS.start Try.prog) (TM.of [sy 1] 179 ok179).toL a W := by
    rw [@TM.of_toL mute _ _ _ (by simp)]
    rw [nt3] at hat
    exact hat
  have hO : ∀ b, decide ((n : Int) > 60) = b → @OrcOK (symL ao n c) (orcL Try.prog lens (factsS b)) Try.prog := by
    rintro b rfl
    refine orcL_ok _ _ _ hL.len ?_
    intro f hf
    simp only [factsS, List.mem_cons, List.not_mem_nil, or_false] at hf
    subst hf
    exact FI hL.n conc_i64 (by simp only [intR, conc_bool]) (.inl rfl)
  by_cases hn : (n : Int) > 60
  · have hp := sL
    unfold phaseL at hp
    split at hp
    case h_2 => cases hp
    rename_i t1 σ1 hrun
    split at hp
    case h_2 => cases hp
    rename_i t2 σ2 hrun2
    rw [law_eq2]
    refine run_pieces (hO true (by simpa using hn)) hrun hat fun a1 w1 hat1 => ?_
    refine run_piece (hO true (by simpa using hn)) hrun2 hat1 fun a2 w2 hat2 => ?_
    exact ⟨.inr rfl, _, σ2, t2.toL, hat2, by rw [@resultsT_eq mute]; exact yesB_eq hp⟩
  · have hn60 : n ≤ 60 := by omega
    have hp := sS
    unfold phaseS at hp
    split at hp
    case h_2 => cases hp
    rename_i t1 σ1 hrun
    rw [law_eq]
    refine run_pieces (hO false (by simpa using hn)) hrun hat fun a1 w1 hat1 => ?_
    obtain ⟨hθ, hat2⟩ := hat1.restate hp
    show (Code.block 0 (.loop bodyC)).wp Try.prog _ a1 w1
    refine wp_block (@SimC.wp plainSym mute _ (mute_ok _) (.loop bodyC) _ _ _ ?_)
    have hθ' : ([i64 0, sy 1, i64 0, i64 0, i64 0, i64 0, i64 0, i64 0, i64 0, sy 9] ++ List.replicate 16 (i64 0) ++ [i64 0, i64 0, i64 0, i64 0] ++ ([] : List Row).flatMap three).all okθ = true := hθ
    have hI : Inv (Sym.of (symL ao n c) theta0 hθ) [] 0 (fun _ => 0) := by
      refine Inv.of (A := [i64 0, sy 1, i64 0, i64 0, i64 0, i64 0, i64 0, i64 0, i64 0, sy 9]) (G := List.replicate 16 (i64 0)) (B := [i64 0, i64 0, i64 0, i64 0]) (l := []) rfl rfl rfl hθ' ⟨rfl, fun j x hx => by simp at hx⟩ rfl ?_
        (by simp) (by omega) (fun x hx => by simp at hx) .nil .nil (fun p hp => Int.le_refl _) (fun x hx => by simp at hx)
      intro p hp
      rw [List.getD_eq_getElem?_getD, List.getElem?_replicate, if_pos hp]
      rfl
    refine loop_ok (S := Sym.of (symL ao n c) theta0 hθ) (B := W.heap.size) (W := W) (ao := ao) (n := n) (c := c) hn60 ?_ ?_ n 0 [] 0 (fun _ => 0) 0 a1 w1 (by omega) (by omega) (by omega) ⟨rfl, rfl, rfl⟩ hI (.inr ⟨rfl, rfl⟩) hat2
    · intro i h0 h1
      obtain ⟨x, z, e, hc, hz⟩ := hcell i h0 h1
      refine ⟨x, z, e, hc, hz.1, hz.2, ?_⟩
      have := World.block_lt_of_cell? _ _ hc
      rwa [show (x.add i.toNat).block = x.block by unfold Addr.add; split <;> rfl] at this
    · intro S rs se g u a2 w2 hI2 hu hat3
      show wpL Try.prog _ ([lawC.getD 8 .skip] ++ [.ret]) a2 w2
      have hp := endB hu hI2.short
      unfold phaseE at hp
      split at hp
      case h_2 => cases hp
      rename_i t3 σ3 hrun3
      have hO3 : @OrcOK S (orcOf factsE) Try.prog := by
        refine orcOK S _ ?_
        intro f hf
        simp only [factsE, List.mem_cons, List.not_mem_nil, or_false] at hf
        subst hf
        exact FI hI2.v0 conc_i64 (by simp [intR, conc_bool]; exact hI2.le3) (.inl rfl)
      rw [← toL_of len_tmC] at hat3
      refine run_pieces hO3 hrun3 hat3 fun a4 w4 hat4 => ?_
      rw [wpL_one]
      exact wp_ret ⟨.inr rfl, S, σ3, t3.toL, hat4, by rw [@resultsT_eq mute]; exact yesB_eq hp⟩
end
end Go.Proofs.Ytkghejleififiaa
