import Derived.Test.YtkghejleififiaaAsHm
namespace Go.Proofs.Ytkghejleififiaa
open Go Go.Proofs.Ytkghejleififiaa.AS Go.Proofs.Ytkghejleififiaa.CS Go.RowKit
set_option maxRecDepth 100000
set_option linter.unusedVariables false
set_option linter.unusedSimpArgs false
set_option linter.unusedSectionVars false

section
variable {S : Sym} {O : Orc} {B : Nat} {W : World} {σ σ' : St} {a : Act} {w : World} {Q : Exit → Act → World → Prop}
theorem seq_pieces (hO : @OrcOK S O Try.prog) {n : Nat} {x y : Code} {m : List Code} {t t' : TM} {e : Ex} (h : @AS.runT O Try.prog ov0 (n + 1) none (.seq x y) t σ = some (e, t', σ')) (hat : At Try.prog S B W σ t.toL a w)
    (hQ : ∀ a' w', At Try.prog S B W σ' t'.toL a' w' → Exit.then (wpL Try.prog Q m) Q (toExit e) a' w') : wpL Try.prog Q (x :: y :: m) a w := by
  simp only [AS.runT] at h
  cases h1 : @AS.runT O Try.prog ov0 n none x t σ with
  | none => rw [h1] at h; cases h
  | some r =>
    obtain ⟨e1, t1, σ1⟩ := r
    rw [h1] at h
    show x.wp Try.prog (Exit.then (wpL Try.prog Q (y :: m)) Q) a w
    refine run_piece hO h1 hat fun a1 w1 hat1 => ?_
    cases e1 with
    | normal => exact run_piece hO h hat1 hQ
    | _ =>
      simp only [Option.some.injEq, Prod.mk.injEq] at h
      obtain ⟨rfl, rfl, rfl⟩ := h
      exact hQ a1 w1 hat1
end

theorem headB {u k : Nat} {b : Bool} (hu : okU u k) (hk : k ≤ 3) : phaseH Try.prog (.seq (lbC.getD 0 .skip) (lbC.getD 1 .skip)) u k b = true := by
  rcases hu with rfl | ⟨rfl, rfl⟩
  · rcases (by omega : k = 0 ∨ k = 1 ∨ k = 2 ∨ k = 3) with rfl | rfl | rfl | rfl <;> cases b
    · exact sH40f
    · exact sH40t
    · exact sH41f
    · exact sH41t
    · exact sH42f
    · exact sH42t
    · exact sH43f
    · exact sH43t
  · cases b
    · exact sH00f
    · exact sH00t
theorem endB {u k : Nat} (hu : okU u k) (hk : k ≤ 3) : phaseE Try.prog Try.f3 [lawC.getD 8 .skip] u k = true := by
  rcases hu with rfl | ⟨rfl, rfl⟩
  · rcases (by omega : k = 0 ∨ k = 1 ∨ k = 2 ∨ k = 3) with rfl | rfl | rfl | rfl
    · exact sE40
    · exact sE41
    · exact sE42
    · exact sE43
  · exact sE00

section
variable {S : Sym} {B : Nat} {W : World} {σ σ' : St} {a : Act} {w : World} {Q : Exit → Act → World → Prop} {rs : List IRow} {se : Int} {g : Nat → Int} {ao : Option Addr} {n c : Nat} {i : Int} {u k : Nat}

/-- l and its length, and i -/
structure Ls (S : Sym) (ao : Option Addr) (n c : Nat) (i : Int) : Prop where
  l : S.val 1 = .slice ao n c
  i : S.val 2 = i64 i
  n : S.val 9 = i64 n

theorem Ls.len (h : Ls S ao n c i) : ∀ x ∈ lens, LenOK S x := by
  intro x hx
  simp only [lens, List.mem_cons, List.not_mem_nil, or_false] at hx
  subst hx
  exact ⟨⟨ao, n, c, h.l, h.n⟩, .inr rfl⟩

theorem head (hL : Ls S ao n c i) (hI : Inv S rs se g) (hu : okU u rs.length) {m : List Code} (hat : At Try.prog S B W (stC u rs.length) tmC a w)
    (hQ : ∀ S' a' w', Ls S' ao n c i → Inv S' rs se g → At Try.prog S' B W (stC u rs.length) tmC a' w' → if i < n then wpL Try.prog Q m a' w' else Q (.exit 0) a' w') : wpL Try.prog Q (lbC.getD 0 .skip :: lbC.getD 1 .skip :: m) a w := by
  have hk := hI.short
  have hp := headB (b := decide (i < n)) hu hk
  have hO : @OrcOK S (orcL Try.prog lens (factsH (decide (i < n)))) Try.prog := by
    refine orcL_ok S _ _ hL.len ?_
    intro f hf
    simp only [factsH, List.mem_cons, List.not_mem_nil, or_false] at hf
    subst hf
    exact FI hL.i hL.n (by simp only [intR, conc_bool]) (.inl rfl)
  rw [← toL_of len_tmC] at hat
  unfold phaseH at hp
  split at hp
  · rename_i t σ1 hrun
    obtain ⟨h1, h2⟩ := Bool.and_eq_true_iff.1 hp
    refine seq_pieces hO hrun hat fun a' w' hat' => ?_
    obtain ⟨hθ, hat2⟩ := hat'.restate h2
    have := hQ (Sym.of S (thetaI rs.length) hθ) a' w' ⟨hL.l, hL.i, hL.n⟩ (Inv.of (A := [sy 0, sy 1, sy 2, i64 0, i64 0, i64 0, i64 0, i64 0, i64 0, sy 9]) (B := [i64 0, i64 0, i64 0, i64 0]) rfl gotS_len rfl hθ hI.rowsAre hI.v0 (fun p hp => by rw [gotS_get hp]; exact hI.vg p hp)
      hI.le hI.le3 hI.s hI.pf hI.ps hI.gl hI.own) hat2
    rw [if_pos (of_decide_eq_true h1)] at this
    exact this
  · rename_i e t σ1 hrun
    obtain ⟨h1, h2⟩ := Bool.and_eq_true_iff.1 hp
    obtain ⟨h0, h1⟩ := Bool.and_eq_true_iff.1 h1
    have h1 := of_beq h1
    subst h1
    refine seq_pieces hO hrun hat fun a' w' hat' => ?_
    obtain ⟨hθ, hat2⟩ := hat'.restate h2
    have := hQ (Sym.of S (thetaI rs.length) hθ) a' w' ⟨hL.l, hL.i, hL.n⟩ (Inv.of (A := [sy 0, sy 1, sy 2, i64 0, i64 0, i64 0, i64 0, i64 0, i64 0, sy 9]) (B := [i64 0, i64 0, i64 0, i64 0]) rfl gotS_len rfl hθ hI.rowsAre hI.v0 (fun p hp => by rw [gotS_get hp]; exact hI.vg p hp)
      hI.le hI.le3 hI.s hI.pf hI.ps hI.gl hI.own) hat2
    have hni : ¬ i < n := by simpa using h0
    rw [if_neg hni] at this
    exact this
  · cases hp

/-- symbols told anew by numbers: who, num, and what comes of them -/
def thetaV (k : Nat) (p q r s v : Int) : List Value :=
  [sy 0, sy 1, sy 2, i64 p, i64 q, i64 r, i64 s, i64 0, i64 v, sy 9] ++ gotS ++ [i64 0, i64 0, i64 0, i64 0] ++ (rowsS k).flatMap three
def piI : List (Option Nat) := [some 0, some 1, some 2, some 3, some 4, some 5]
theorem stV00 (p q r s v : Int) : stB Try.prog piI (thetaV 0 p q r s v) 8 (stC 0 0) tmC (stC 0 0) tmC = true := by kernel_rfl
theorem stV40 (p q r s v : Int) : stB Try.prog piI (thetaV 0 p q r s v) 8 (stC 4 0) tmC (stC 4 0) tmC = true := by kernel_rfl
theorem stV41 (p q r s v : Int) : stB Try.prog piI (thetaV 1 p q r s v) 8 (stC 4 1) tmC (stC 4 1) tmC = true := by kernel_rfl
theorem stV42 (p q r s v : Int) : stB Try.prog piI (thetaV 2 p q r s v) 8 (stC 4 2) tmC (stC 4 2) tmC = true := by kernel_rfl
theorem stV43 (p q r s v : Int) : stB Try.prog piI (thetaV 3 p q r s v) 8 (stC 4 3) tmC (stC 4 3) tmC = true := by kernel_rfl
theorem stV (hu : okU u k) (hk : k ≤ 3) (p q r s v : Int) : stB Try.prog piI (thetaV k p q r s v) 8 (stC u k) tmC (stC u k) tmC = true := by
  rcases hu with rfl | ⟨rfl, rfl⟩
  · rcases (by omega : k = 0 ∨ k = 1 ∨ k = 2 ∨ k = 3) with rfl | rfl | rfl | rfl
    · exact stV40 ..
    · exact stV41 ..
    · exact stV42 ..
    · exact stV43 ..
  · exact stV00 ..

theorem junk9 : ∀ d ∈ [34, 35, 36, 37, 38, 39, 7], tmC.getD d undef = .chan none := by
  intro d hd
  simp only [List.mem_cons, List.not_mem_nil, or_false] at hd
  rcases hd with rfl | rfl | rfl | rfl | rfl | rfl | rfl <;> kernel_rfl
theorem junk10 : ∀ d ∈ [40, 41, 42, 43, 44, 45, 46, 8], tmC.getD d undef = .chan none := by
  intro d hd
  simp only [List.mem_cons, List.not_mem_nil, or_false] at hd
  rcases hd with rfl | rfl | rfl | rfl | rfl | rfl | rfl | rfl <;> kernel_rfl
theorem tmC0 : tmC.getD 0 undef = .chan (some 1) := by kernel_rfl
theorem tmC6 : tmC.getD 6 undef = .chan (some 2) := by kernel_rfl
theorem tmD7 : tmD.getD 7 undef = .chan (some 4) := by kernel_rfl
theorem tmD8 (v : Value) : (tmD.set 7 v).getD 8 undef = .chan (some 5) := by
  have : tmD.getD 8 undef = .chan (some 5) := by kernel_rfl
  rw [List.getD_eq_getElem?_getD, List.getElem?_set_ne (by omega), ← List.getD_eq_getElem?_getD]
  exact this

/-- one round's middle: from l[i] on -/
theorem middle {x : Addr} {z : Int} (hL : Ls S (some x) n c i) (hI : Inv S rs se g) (hu : okU u rs.length) (hi : 0 ≤ i ∧ i < n) (hn60 : n ≤ 60) (hB : ∀ j : Nat, j < n → x.block < B) (hc : W.cell? (x.add i.toNat) = some (.int .u8 z)) (hz : 0 ≤ z ∧ z < 256)
    {m : List Code} (hat : At Try.prog S B W (stC u rs.length) tmC a w)
    (hQ : ∀ S' rs' se' g' a' w', Ls S' (some x) n c (i + 1) → Inv S' rs' se' g' → At Try.prog S' B W (stC 4 rs'.length) tmC a' w' → Q .normal a' w') : wpL Try.prog Q ([.block 1 inC] ++ lbC.drop 3) a w := by
  have hk := hI.short
  have hcell : ∀ {a' : Act} {w' : World}, At Try.prog S B W (stC u rs.length) tmC a' w' → w'.cell? (x.add i.toNat) = some (.int .u8 z) := by
    rintro a' w' ⟨ρ, h⟩
    have hb := h.bel.block x.block (hB 0 (by omega))
    rw [← hc]
    show w'.cell? (x.add i.toNat) = W.cell? (x.add i.toNat)
    have e : (x.add i.toNat).block = x.block := by unfold Addr.add; split <;> rfl
    unfold World.cell?
    rw [e, hb]
  -- the block's pieces
  show (Code.block 1 inC).wp Try.prog (Exit.then (wpL Try.prog Q (lbC.drop 3)) Q) a w
  refine wp_block (wp_flat _ _ _ _ ?_)
  show wpL Try.prog _ innerC a w
  rw [in_eq, inner0, inner1]
  generalize hQ' : Exit.inBlock 1 (Exit.then (wpL Try.prog Q (lbC.drop 3)) Q) = Q'
  have hQn : Q' .normal = wpL Try.prog Q (lbC.drop 3) := by rw [← hQ']; rfl
  show (Code.region 9 ops9 false).wp Try.prog _ a w
  refine reg9 hat junk9 len_tmC ((hat.val tmC0).trans hL.l) ((hat.val tmC6).trans hL.i) hi.1 hi.2 (hcell hat) hz ?_
  intro a1 hat1 v0 v6 v7
  show (Code.region 10 ops10 false).wp Try.prog _ a1 w
  refine reg10 hat1 junk10 len_tmC v0 v6 hi.1 hi.2 (hcell hat1) hz ?_
  intro a2 hat2 keep v8
  have v7 := keep 7 _ (by omega) v7
  show wpL Try.prog Q' (code1 ++ innerC.drop 9) a2 w
  -- who and num
  obtain ⟨who, hwho, hw4⟩ : ∃ who : Nat, z % 4 = (who : Int) ∧ who < 4 := ⟨(z % 4).toNat, by omega, by omega⟩
  obtain ⟨num, hnum, hn4⟩ : ∃ num : Nat, z / 4 % 4 = (num : Int) ∧ num < 4 := ⟨(z / 4 % 4).toNat, by omega, by omega⟩
  rw [hwho] at v7
  rw [hnum] at v8
  obtain ⟨hθ, hat3⟩ := hat2.restate (stV hu hk (100 + who) who num (se + 1) (i + 1))
  have hI2 : Inv (Sym.of S (thetaV rs.length (100 + who) who num (se + 1) (i + 1)) hθ) rs se g :=
    Inv.of (A := [sy 0, sy 1, sy 2, i64 (100 + who), i64 who, i64 num, i64 (se + 1), i64 0, i64 (i + 1), sy 9]) (B := [i64 0, i64 0, i64 0, i64 0]) rfl gotS_len rfl hθ hI.rowsAre hI.v0 (fun p hp => by rw [gotS_get hp]; exact hI.vg p hp)
      hI.le hI.le3 hI.s hI.pf hI.ps hI.gl hI.own
  have hL2 : Ls (Sym.of S (thetaV rs.length (100 + who) who num (se + 1) (i + 1)) hθ) (some x) n c i := ⟨hL.l, hL.i, hL.n⟩
  have h3 : (Sym.of S (thetaV rs.length (100 + who) who num (se + 1) (i + 1)) hθ).val 3 = i64 (100 + who) := rfl
  have h4 : (Sym.of S (thetaV rs.length (100 + who) who num (se + 1) (i + 1)) hθ).val 4 = i64 who := rfl
  have h5 : (Sym.of S (thetaV rs.length (100 + who) who num (se + 1) (i + 1)) hθ).val 5 = i64 num := rfl
  have h6 : (Sym.of S (thetaV rs.length (100 + who) who num (se + 1) (i + 1)) hθ).val 6 = i64 (se + 1) := rfl
  have h8 : (Sym.of S (thetaV rs.length (100 + who) who num (se + 1) (i + 1)) hθ).val 8 = i64 (i + 1) := rfl
  generalize Sym.of S (thetaV rs.length (100 + who) who num (se + 1) (i + 1)) hθ = S2 at hat3 hI2 hL2 h3 h4 h5 h6 h8
  have hat4 := (hat3.tell (t := 7) (i := 4) (v7.trans h4.symm)).tell (t := 8) (i := 5) (v8.trans h5.symm)
  have hat4 : At Try.prog S2 B W (stC u rs.length) (TM.of tmR 179 ok179).toL a2 w := by rw [toL_of len_tmR, tmR_eq]; exact hat4
  -- the two calls
  obtain ⟨j, eq, hj⟩ := found_ex rs who num
  have hjk : ∀ i, j = some i → i < rs.length := by
    rintro i rfl
    obtain ⟨y, hy, _⟩ := hj
    exact (List.getElem?_eq_some_iff.1 hy).1
  have hp := phase1_of (lt := decide (se < 3)) (eq := eq) (j := j) hu hk hjk (by rintro rfl; exact hj.1) (fun h => by have := of_decide_eq_true h; have := hI.le; omega)
  obtain ⟨rs', se', s', hlen, hra, hse, hs, hM⟩ := step1 hI2 h3 h5 h6 hw4 hn4 rfl hj
  have hF := facts1_ok (P := Try.prog) hI2 h3 h4 h5 h6 (by omega) rfl hj
  generalize hcase : Case.mk rs.length j eq (decide (se < 3)) = cs at hp hlen hra hse hs hF
  have hck : cs.k = rs.length := by rw [← hcase]
  unfold phase1 at hp
  rw [hck] at hp
  split at hp
  case h_2 => cases hp
  rename_i t σ1 hrun
  refine run_pieces (orcOK S2 _ hF) hrun hat4 fun a3 w3 hat5 => ?_
  obtain ⟨hθ3, hat6⟩ := hat5.restate hp
  rw [hlen] at hat6
  have hl' : rs'.length ≤ 3 := by have := hM.le; have := hM.le3; omega
  have hθ3' : ([if cs.isNew then sy 6 else sy 0, sy 1, sy 2, sy 3, sy 4, sy 5, sy 6, cs.s, sy 8, sy 9] ++ gotS ++ [i64 0, i64 0, i64 0, i64 0] ++ cs.rows.flatMap three).all okθ = true := hθ3
  have hI3 : Inv (Sym.of S2 cs.θ hθ3) rs' se' g :=
    Inv.of (A := [if cs.isNew then sy 6 else sy 0, sy 1, sy 2, sy 3, sy 4, sy 5, sy 6, cs.s, sy 8, sy 9]) (B := [i64 0, i64 0, i64 0, i64 0]) rfl gotS_len rfl hθ3' hra hse (fun p hp => by rw [gotS_get hp]; exact hI2.vg p hp)
      hM.le hM.le3 hM.sr hM.pf hM.ps hM.gl hM.own
  have hL3 : Ls (Sym.of S2 cs.θ hθ3) (some x) n c i := ⟨hL2.l, hL2.i, hL2.n⟩
  have g4 : (Sym.of S2 cs.θ hθ3).val 4 = i64 who := h4
  have g5 : (Sym.of S2 cs.θ hθ3).val 5 = i64 num := h5
  have g7 : (Sym.of S2 cs.θ hθ3).val 7 = i64 s' := hs
  have g8 : (Sym.of S2 cs.θ hθ3).val 8 = i64 (i + 1) := h8
  generalize Sym.of S2 cs.θ hθ3 = S3 at hat6 hI3 hL3 g4 g5 g7 g8
  -- the search
  have hat7 := (hat6.known 7 4 (i64 who) tmD7 rfl g4).known 8 5 (i64 num) (tmD8 _) rfl g5
  have hat7 : At Try.prog S3 B W (stD rs'.length) (TM.of (tmE who num) 179 ok179).toL a3 w3 := by rw [toL_of (len_tmE _ _), tmE_eq]; exact hat7
  have hp2 := phase2_of (m := modeOf g who num s') hl' hw4 hn4
  unfold phase2 at hp2
  split at hp2
  case h_2 => cases hp2
  rename_i t2 σ2 hrun2
  have hF2 := facts2_ok (P := Try.prog) (S := S3) hM hw4 hn4 hL3.i g7 g8 (by omega) hI3.vg
  obtain ⟨t1, σ3, r1, r2⟩ := runLT_cut hrun2
  rw [← List.append_nil (innerC.drop 9)]
  refine run_pieces (orcOK S3 _ hF2) r1 hat7 fun a4 w4 hat8 => ?_
  show Q' .normal a4 w4
  rw [hQn, ← List.append_nil (lbC.drop 3)]
  refine run_pieces (orcOK S3 _ hF2) r2 hat8 fun a5 w5 hat9 => ?_
  show Q .normal a5 w5
  obtain ⟨hθ4, hat10⟩ := hat9.restate hp2
  obtain ⟨n1, n2⟩ := step2 hM hw4 hn4
  have hθ4' : ([sy 0, sy 1, sy 8, sy 3, sy 4, sy 5, sy 6, sy 7, sy 8, sy 9] ++ gotS.set (4 * who + num) (sy 7) ++ [i64 0, i64 0, i64 0, i64 0] ++ (rowsS rs'.length).flatMap three).all okθ = true := hθ4
  refine hQ (Sym.of S3 (theta2 rs'.length who num) hθ4) rs' se' (noted g who num s') a5 w5 ⟨hL3.l, g8, hL3.n⟩ ?_ hat10
  refine Inv.of (A := [sy 0, sy 1, sy 8, sy 3, sy 4, sy 5, sy 6, sy 7, sy 8, sy 9]) (B := [i64 0, i64 0, i64 0, i64 0]) rfl (by rw [List.length_set, gotS_len]) rfl hθ4' hI3.rowsAre hI3.v0 ?_ hM.le hM.le3 hM.sr hM.pf hM.ps n1 n2
  intro p hp
  rw [List.getD_eq_getElem?_getD, List.getElem?_set]
  unfold noted
  by_cases e : 4 * who + num = p
  · rw [if_pos e, if_pos e.symm, if_pos (by rw [gotS_len]; omega)]
    exact g7
  · rw [if_neg e, if_neg (Ne.symm e), ← List.getD_eq_getElem?_getD, gotS_get hp]
    exact hI3.vg p hp
end
end Go.Proofs.Ytkghejleififiaa
