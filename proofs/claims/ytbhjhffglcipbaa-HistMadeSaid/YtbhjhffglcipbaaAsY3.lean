import Derived.Test.YtbhjhffglcipbaaAsY2
namespace Go.Proofs.Ytbhjhffglcipbaa.HW
open Go Go.Proofs.Ytbhjhffglcipbaa.AS Go.RowKit
set_option linter.unusedVariables false
set_option linter.unusedSimpArgs false
set_option linter.unusedSectionVars false
/-! ## hist.Key -/
/-- a call of the key k that may count -/
structure RowY (d : DR) : Prop where
  std : d.c0 = i64 0 ∧ d.c1 = i64 0 ∧ d.c2 = i64 0 ∧ d.c3 = i64 0 ∧ d.ver = .complex .f64 0 0
  key : d.key = ⟨#[107]⟩
  lo : 1 ≤ d.kind
  hi : d.kind ≤ 4
  code : 0 ≤ d.to → d.code = 0 ∨ d.code = 1 ∨ d.code = 2
def cntY (d : DR) : Bool := decide (0 ≤ d.to) || !decide (d.kind = 1)
/-- the calls that count -/
def pkF (D : Nat → DR) : Nat → List DR
  | 0 => []
  | i + 1 => if cntY (D i) then pkF D i ++ [D i] else pkF D i
theorem pkF_len {D : Nat → DR} (n : Nat) : (pkF D n).length ≤ n := by
  induction n with
  | zero => exact Nat.le_refl _
  | succ n ih =>
    rw [pkF]
    split
    · rw [List.length_append]; simp only [List.length_cons, List.length_nil]; omega
    · omega
theorem pkF_mem {D : Nat → DR} {n : Nat} {d : DR} (h : d ∈ pkF D n) : ∃ i, i < n ∧ d = D i := by
  induction n with
  | zero => cases h
  | succ n ih =>
    rw [pkF] at h
    split at h
    · rcases List.mem_append.1 h with h | h
      · obtain ⟨i, h1, h2⟩ := ih h; exact ⟨i, by omega, h2⟩
      · rw [List.mem_singleton] at h; exact ⟨n, by omega, h⟩
    · obtain ⟨i, h1, h2⟩ := ih h; exact ⟨i, by omega, h2⟩
def wayY (d : DR) : WayY := if 0 ≤ d.to then (if d.code = 0 then .good else if d.code = 1 then .absent else .other) else if d.kind = 1 then .get else .put
theorem wayY_cnt {d : DR} : wayY d = .get ↔ cntY d = false := by
  unfold wayY cntY
  by_cases h : 0 ≤ d.to
  · simp only [h, if_true, decide_true, Bool.true_or]
    split
    · simp
    · split <;> simp
  · by_cases h2 : d.kind = 1 <;> simp [h, h2]
def thetaK (k : Nat) (r0 r1 r2 r3 r4 r5 r6 r7 r8 r9 r10 : Value) : List Value :=
  [i64 0, sy 1, sy 2, sy 3, sy 4, sy 5, sy 6, sy 7, sy 8, sy 9, sy 10, r0, r1, r2, r3, r4, r5, r6, r7, r8, r9, r10] ++ (List.range (10 * k)).map fun j => sy (22 + j)
theorem thetaK_old {i j : Nat} {r0 r1 r2 r3 r4 r5 r6 r7 r8 r9 r10 e : Value} (hj : j < 10 * i) : (thetaK i r0 r1 r2 r3 r4 r5 r6 r7 r8 r9 r10).getD (22 + j) e = sy (22 + j) := by
  unfold thetaK
  rw [List.getD_eq_getElem?_getD, List.getElem?_append_right (by simp)]
  simp [hj]
theorem thetaK_ok {i : Nat} {r0 r1 r2 r3 r4 r5 r6 r7 r8 r9 r10 : Value} (h : [r0, r1, r2, r3, r4, r5, r6, r7, r8, r9, r10].all AS.leaf = true) : (thetaK i r0 r1 r2 r3 r4 r5 r6 r7 r8 r9 r10).all okθ = true := by
  have hl : ∀ x ∈ [r0, r1, r2, r3, r4, r5, r6, r7, r8, r9, r10], okθ x = true := fun x hx => leaf_ok (List.all_eq_true.1 h x hx)
  unfold thetaK
  rw [List.all_append, Bool.and_eq_true, List.all_eq_true]
  constructor
  · intro x hx
    have e : ([i64 0, sy 1, sy 2, sy 3, sy 4, sy 5, sy 6, sy 7, sy 8, sy 9, sy 10, r0, r1, r2, r3, r4, r5, r6, r7, r8, r9, r10] : List Value) = [i64 0, sy 1, sy 2, sy 3, sy 4, sy 5, sy 6, sy 7, sy 8, sy 9, sy 10] ++ [r0, r1, r2, r3, r4, r5, r6, r7, r8, r9, r10] := rfl
    rw [e] at hx
    rcases List.mem_append.1 hx with hx | hx
    · simp only [List.mem_cons, List.not_mem_nil, or_false] at hx
      rcases hx with rfl | rfl | rfl | rfl | rfl | rfl | rfl | rfl | rfl | rfl | rfl <;> rfl
    · exact hl x hx
  · rw [List.all_eq_true]
    intro x hx
    obtain ⟨j, _, rfl⟩ := List.mem_map.1 hx
    rfl
theorem thetaY_8 {k : Nat} {v e : Value} {row : List Value} : (thetaY k v row).getD 8 e = v := by
  unfold thetaY
  rw [List.getD_eq_getElem?_getD, List.getElem?_append_left (by simp)]
  simp
theorem thetaY_old {i j : Nat} {v e : Value} {row : List Value} (hj : j < 10 * i) : (thetaY i v row).getD (22 + j) e = sy (22 + j) := by
  unfold thetaY
  rw [List.getD_eq_getElem?_getD, List.getElem?_append_right (by simp), List.getElem?_append_left (by simp; omega)]
  simp [hj]
theorem thetaY_new {i c : Nat} {v e : Value} {row : List Value} : (thetaY i v row).getD (22 + 10 * i + c) e = row.getD c e := by
  unfold thetaY
  rw [List.getD_eq_getElem?_getD, List.getElem?_append_right (by simp; omega), List.getElem?_append_right (by simp; omega), List.getD_eq_getElem?_getD]
  congr 2
  simp
  omega
theorem outY_len (n : Nat) : (outY n).length = 15 * n := by
  induction n with
  | zero => rfl
  | succ n ih => rw [outY, List.length_append, ih]; show 15 * n + 15 = _; omega
theorem outY_get {n j c : Nat} (hj : j < n) (hc : c < 15) : (outY n)[j * 15 + c]? = (rowS (22 + 10 * j))[c]? := by
  induction n with
  | zero => omega
  | succ n ih =>
    rw [outY]
    have hl := outY_len n
    rcases Nat.lt_or_ge j n with h | h
    · rw [List.getElem?_append_left (by omega)]; exact ih h
    · have e : j = n := by omega
      subst e
      rw [List.getElem?_append_right (by omega)]
      congr 1
      omega
theorem ansY_eq {i : Nat} {v : Option Value} {σ : St} (h : ansY i v σ = true) : (i = 0 ∧ v = some nils) ∨ (0 < i ∧ ∃ b, v = some (.slice (some ⟨b, 0, none⟩) i i) ∧ σ.get b = some (.blk (outY i) 15 false (some 40))) := by
  unfold ansY at h
  split at h
  · simp only [Bool.and_eq_true] at h
    obtain ⟨h1, h2, h3⟩ := h
    rw [of_beq h1, of_beq h2]
    exact .inl ⟨of_beq h3, rfl⟩
  · rename_i b o n c
    simp only [Bool.and_eq_true] at h
    obtain ⟨⟨h0, h1⟩, h2, h3, h4⟩ := h
    have h1 := of_beq h1; have h2 := of_beq h2; have h3 := of_beq h3
    subst h1 h2 h3
    refine .inr ⟨of_blt h0, b, rfl, ?_⟩
    split at h4
    · rename_i cs u t hg
      simp only [Bool.and_eq_true] at h4
      obtain ⟨k1, k2, k3⟩ := h4
      rw [hg, of_beq k1, of_beq k2, listB_eq (fun a b q => same_eq q) k3]
    · cases h4
  · cases h
theorem new_rowY {k : Nat} : (stY k).new (.blk (rowS 11) 0 true none) = some (1, stYr k) := by rfl
/-- what the symbols stand for in Key -/
structure SY (S : Sym) (ao : Option Addr) (n co : Nat) (l : List DR) : Prop where
  hl : S.val 1 = .slice ao n co
  hn : S.val 9 = i64 n
  rows : ∀ j d, l[j]? = some d → ∀ c u, (rowT d)[c]? = some u → S.val (22 + 10 * j + c) = u
theorem SY.len {S : Sym} {ao : Option Addr} {n co : Nat} {l : List DR} (h : SY S ao n co l) : ∀ y ∈ lensY, LenOK S y := by
  intro y hy
  simp only [lensY, List.mem_cons, List.not_mem_nil, or_false] at hy
  subst hy
  exact ⟨⟨_, _, _, h.hl, h.hn⟩, .inr rfl⟩
/-- a row of symbols, of a row -/
theorem rowS_to {S : Sym} {ρ : Rho} {b c : Nat} {d : DR} {u v : Value} (h0 : d.c0 = i64 0 ∧ d.c1 = i64 0 ∧ d.c2 = i64 0 ∧ d.c3 = i64 0 ∧ d.ver = .complex .f64 0 0) (hS : ∀ k u, (rowT d)[k]? = some u → S.val (b + k) = u) (hu : (rowS b)[c]? = some u) (hc : (d.cells)[c]? = some v) : @VR S ρ u v := by
  obtain ⟨h0, h1, h2, h3, h4⟩ := h0
  have hc15 : c < 15 := (List.getElem?_eq_some_iff.1 hu).1
  match c, hc15, hu, hc with
  | 0, _, hu, hc => simp only [rowS, DR.cells, List.getElem?_cons_zero, Option.some.injEq] at hu hc; subst hu hc; rw [h0]; exact @VR.leaf S ρ _ rfl
  | 1, _, hu, hc => simp only [rowS, DR.cells, List.getElem?_cons_succ, List.getElem?_cons_zero, Option.some.injEq] at hu hc; subst hu hc; rw [h1]; exact @VR.leaf S ρ _ rfl
  | 2, _, hu, hc => simp only [rowS, DR.cells, List.getElem?_cons_succ, List.getElem?_cons_zero, Option.some.injEq] at hu hc; subst hu hc; rw [h2]; exact @VR.leaf S ρ _ rfl
  | 3, _, hu, hc => simp only [rowS, DR.cells, List.getElem?_cons_succ, List.getElem?_cons_zero, Option.some.injEq] at hu hc; subst hu hc; rw [h3]; exact @VR.leaf S ρ _ rfl
  | 4, _, hu, hc => simp only [rowS, DR.cells, List.getElem?_cons_succ, List.getElem?_cons_zero, Option.some.injEq] at hu hc; subst hu hc; exact @VR.sym S ρ _ _ (hS 0 _ rfl)
  | 5, _, hu, hc => simp only [rowS, DR.cells, List.getElem?_cons_succ, List.getElem?_cons_zero, Option.some.injEq] at hu hc; subst hu hc; exact @VR.sym S ρ _ _ (hS 1 _ rfl)
  | 6, _, hu, hc => simp only [rowS, DR.cells, List.getElem?_cons_succ, List.getElem?_cons_zero, Option.some.injEq] at hu hc; subst hu hc; exact @VR.sym S ρ _ _ (hS 2 _ rfl)
  | 7, _, hu, hc => simp only [rowS, DR.cells, List.getElem?_cons_succ, List.getElem?_cons_zero, Option.some.injEq] at hu hc; subst hu hc; exact @VR.sym S ρ _ _ (hS 3 _ rfl)
  | 8, _, hu, hc => simp only [rowS, DR.cells, List.getElem?_cons_succ, List.getElem?_cons_zero, Option.some.injEq] at hu hc; subst hu hc; exact @VR.sym S ρ _ _ (hS 4 _ rfl)
  | 9, _, hu, hc => simp only [rowS, DR.cells, List.getElem?_cons_succ, List.getElem?_cons_zero, Option.some.injEq] at hu hc; subst hu hc; exact @VR.sym S ρ _ _ (hS 5 _ rfl)
  | 10, _, hu, hc => simp only [rowS, DR.cells, List.getElem?_cons_succ, List.getElem?_cons_zero, Option.some.injEq] at hu hc; subst hu hc; exact @VR.sym S ρ _ _ (hS 6 _ rfl)
  | 11, _, hu, hc => simp only [rowS, DR.cells, List.getElem?_cons_succ, List.getElem?_cons_zero, Option.some.injEq] at hu hc; subst hu hc; exact @VR.sym S ρ _ _ (hS 7 _ rfl)
  | 12, _, hu, hc => simp only [rowS, DR.cells, List.getElem?_cons_succ, List.getElem?_cons_zero, Option.some.injEq] at hu hc; subst hu hc; exact @VR.sym S ρ _ _ (hS 8 _ rfl)
  | 13, _, hu, hc => simp only [rowS, DR.cells, List.getElem?_cons_succ, List.getElem?_cons_zero, Option.some.injEq] at hu hc; subst hu hc; exact @VR.sym S ρ _ _ (hS 9 _ rfl)
  | 14, _, hu, hc => simp only [rowS, DR.cells, List.getElem?_cons_succ, List.getElem?_cons_zero, Option.some.injEq] at hu hc; subst hu hc; rw [h4]; exact @VR.leaf S ρ _ rfl
theorem factsY_ok {P : Program} {S : Sym} {d : DR} (hy : RowY d) (h11 : S.val 11 = i64 d.kind) (h17 : S.val 17 = i64 d.to) (h18 : S.val 18 = i64 d.code) : ∀ f ∈ factsY (wayY d), FactOK P S f := by
  have k0 : ∀ b, decide (d.to ≥ 0) = b → FactOK P S ⟨.geq, 3, sy 17, i64 0, .bool b⟩ := fun b hb => FactOK.int (k := .i64) (x := d.to) (y := 0) h17 rfl (by simp [intR, conc, ← hb]) (.inl rfl)
  have k7 : ∀ b, (!decide (d.code = 7)) = b → FactOK P S ⟨.neq, 3, sy 18, i64 7, .bool b⟩ := fun b hb => FactOK.int (k := .i64) (x := d.code) (y := 7) h18 rfl (by simp [intR, conc, ← hb]) (.inl rfl)
  have kc : ∀ x b, decide (d.code = x) = b → FactOK P S ⟨.eql, 3, sy 18, i64 x, .bool b⟩ := fun x b hb => FactOK.int (k := .i64) (x := d.code) (y := x) h18 rfl (by simp [intR, conc, ← hb]) (.inl rfl)
  have kk : ∀ b, (!decide (d.kind = 1)) = b → FactOK P S ⟨.neq, 3, sy 11, i64 1, .bool b⟩ := fun b hb => FactOK.int (k := .i64) (x := d.kind) (y := 1) h11 rfl (by simp [intR, conc, ← hb]) (.inl rfl)
  intro f hf
  unfold wayY at hf
  split at hf
  · rename_i h0
    have hcode := hy.code h0
    have h7 : d.code ≠ 7 := by omega
    split at hf
    · rename_i h1
      simp only [factsY, List.mem_cons, List.not_mem_nil, or_false] at hf
      rcases hf with rfl | rfl | rfl
      · exact k0 true (by simpa using h0)
      · exact k7 true (by simpa using h7)
      · exact kc 0 true (by simpa using h1)
    · rename_i h1
      split at hf
      · rename_i h2
        simp only [factsY, List.mem_cons, List.not_mem_nil, or_false] at hf
        rcases hf with rfl | rfl | rfl | rfl
        · exact k0 true (by simpa using h0)
        · exact k7 true (by simpa using h7)
        · exact kc 0 false (by simpa using h1)
        · exact kc 1 true (by simpa using h2)
      · rename_i h2
        have h3 : d.code = 2 := by omega
        simp only [factsY, List.mem_cons, List.not_mem_nil, or_false] at hf
        rcases hf with rfl | rfl | rfl | rfl | rfl
        · exact k0 true (by simpa using h0)
        · exact k7 true (by simpa using h7)
        · exact kc 0 false (by simpa using h1)
        · exact kc 1 false (by simpa using h2)
        · exact kc 2 true (by simpa using h3)
  · rename_i h0
    split at hf
    · rename_i h1
      simp only [factsY, List.mem_cons, List.not_mem_nil, or_false] at hf
      rcases hf with rfl | rfl
      · exact k0 false (by simpa using h0)
      · exact kk false (by simpa using h1)
    · rename_i h1
      simp only [factsY, List.mem_cons, List.not_mem_nil, or_false] at hf
      rcases hf with rfl | rfl
      · exact k0 false (by simpa using h0)
      · exact kk true (by simpa using h1)
theorem factsYc_ok {P : Program} {S : Sym} {d : DR} {i n : Nat} (hy : RowY d) (h8 : S.val 8 = i64 i) (h9 : S.val 9 = i64 n) (h11 : S.val 11 = i64 d.kind) (h12 : S.val 12 = .string d.key) (h21 : S.val 21 = i64 (i + 1 : Nat)) (hin : i < n) (hn : n ≤ 10) : ∀ f ∈ factsYc, FactOK P S f := by
  intro f hf
  have hlo := hy.lo
  have hhi := hy.hi
  simp only [factsYc, List.mem_cons, List.not_mem_nil, or_false] at hf
  rcases hf with rfl | rfl | rfl | rfl | rfl
  · exact FactOK.int (k := .i64) (x := i) (y := n) h8 h9 (by simp [intR, conc]; omega) (.inl rfl)
  · refine FactOK.int (k := .i64) (x := i) (y := 1) h8 rfl ?_ (.inr rfl)
    show some (Value.int .i64 (IntKind.i64.wrap ((i : Int) + 1))) = some (S.val 21)
    rw [h21, wrap_i64 (by omega) (by omega)]; rfl
  · exact FactOK.strNe (b := ⟨#[107]⟩) h12 rfl (by rw [hy.key]; simp)
  · exact FactOK.int (k := .i64) (x := d.kind) (y := 1) h11 rfl (by simp [intR, conc]; omega) (.inl rfl)
  · exact FactOK.int (k := .i64) (x := d.kind) (y := 4) h11 rfl (by simp [intR, conc]; omega) (.inl rfl)
abbrev symY (ao : Option Addr) (n co : Nat) : Sym where
  val i := if i = 1 then .slice ao n co else if i = 9 then .int .i64 n else .int .i64 0
  cell i := by split <;> first | rfl | (split <;> rfl)
end Go.Proofs.Ytbhjhffglcipbaa.HW
namespace Go.Proofs.Ytbhjhffglcipbaa
open Go Go.Proofs.Ytbhjhffglcipbaa.AS Go.Proofs.Ytbhjhffglcipbaa.HW Go.RowKit
set_option maxRecDepth 100000
set_option linter.unusedVariables false
set_option linter.unusedSimpArgs false
set_option linter.unusedSectionVars false
theorem body15 : Try.f15.body = some (Try.f15.body.getD .skip) := by kernel_rfl
theorem nt15 : Try.f15.ntmps = 23 := by kernel_rfl
section
variable {r0 r1 r2 r3 r4 r5 r6 r7 r8 r9 r10 : Value}
theorem tellK0 : stB2 Try.prog [some 0] (thetaK 0 r0 r1 r2 r3 r4 r5 r6 r7 r8 r9 r10) 8 (stY 0) (tmY 0) (stY 0) (tmY 0) = true := by kernel_rfl
theorem tellK1 : stB2 Try.prog [some 0] (thetaK 1 r0 r1 r2 r3 r4 r5 r6 r7 r8 r9 r10) 8 (stY 1) (tmY 1) (stY 1) (tmY 1) = true := by kernel_rfl
theorem tellK2 : stB2 Try.prog [some 0] (thetaK 2 r0 r1 r2 r3 r4 r5 r6 r7 r8 r9 r10) 8 (stY 2) (tmY 2) (stY 2) (tmY 2) = true := by kernel_rfl
theorem tellK3 : stB2 Try.prog [some 0] (thetaK 3 r0 r1 r2 r3 r4 r5 r6 r7 r8 r9 r10) 8 (stY 3) (tmY 3) (stY 3) (tmY 3) = true := by kernel_rfl
theorem tellK4 : stB2 Try.prog [some 0] (thetaK 4 r0 r1 r2 r3 r4 r5 r6 r7 r8 r9 r10) 8 (stY 4) (tmY 4) (stY 4) (tmY 4) = true := by kernel_rfl
theorem tellK5 : stB2 Try.prog [some 0] (thetaK 5 r0 r1 r2 r3 r4 r5 r6 r7 r8 r9 r10) 8 (stY 5) (tmY 5) (stY 5) (tmY 5) = true := by kernel_rfl
theorem tellK6 : stB2 Try.prog [some 0] (thetaK 6 r0 r1 r2 r3 r4 r5 r6 r7 r8 r9 r10) 8 (stY 6) (tmY 6) (stY 6) (tmY 6) = true := by kernel_rfl
theorem tellK7 : stB2 Try.prog [some 0] (thetaK 7 r0 r1 r2 r3 r4 r5 r6 r7 r8 r9 r10) 8 (stY 7) (tmY 7) (stY 7) (tmY 7) = true := by kernel_rfl
theorem tellK8 : stB2 Try.prog [some 0] (thetaK 8 r0 r1 r2 r3 r4 r5 r6 r7 r8 r9 r10) 8 (stY 8) (tmY 8) (stY 8) (tmY 8) = true := by kernel_rfl
theorem tellK9 : stB2 Try.prog [some 0] (thetaK 9 r0 r1 r2 r3 r4 r5 r6 r7 r8 r9 r10) 8 (stY 9) (tmY 9) (stY 9) (tmY 9) = true := by kernel_rfl
theorem tellK10 : stB2 Try.prog [some 0] (thetaK 10 r0 r1 r2 r3 r4 r5 r6 r7 r8 r9 r10) 8 (stY 10) (tmY 10) (stY 10) (tmY 10) = true := by kernel_rfl
theorem tellK {i : Nat} (hi : i < 11) : stB2 Try.prog [some 0] (thetaK i r0 r1 r2 r3 r4 r5 r6 r7 r8 r9 r10) 8 (stY i) (tmY i) (stY i) (tmY i) = true := by
  match i, hi with
  | 0, _ => exact tellK0
  | 1, _ => exact tellK1
  | 2, _ => exact tellK2
  | 3, _ => exact tellK3
  | 4, _ => exact tellK4
  | 5, _ => exact tellK5
  | 6, _ => exact tellK6
  | 7, _ => exact tellK7
  | 8, _ => exact tellK8
  | 9, _ => exact tellK9
  | 10, _ => exact tellK10
end
section
variable {w0 : World} {ao : Option Addr} {n co : Nat} {D : Nat → DR}
theorem key_loop {Q : Exit → Act → World → Prop} (hl : RowsZ w0 ao n 15 fun k => (D k).cells) (hn : n ≤ 10) (hy : ∀ i, i < n → RowY (D i))
    (hQe : ∀ S σ (t : TM) a w, SY S ao n co (pkF D n) → AtX Try.prog S (fun _ => False) w0.heap.size w0 σ t.toL a w →
      (match @runLT (orcC Try.prog lensY [] [] []) Try.prog ov0 600 ((keL.drop 4).take 1) t σ with
      | some (t, σ) => ansY (pkF D n).length (resultsT Try.prog Try.f15 σ t) σ
      | none => false) = true → Q (.exit 0) a w) :
    ∀ (d i : Nat) (S : Sym) (a : Act) (w : World), n - i = d → i ≤ n → SY S ao n co (pkF D i) → S.val 8 = HW.i64 i →
      AtX Try.prog S (fun _ => False) w0.heap.size w0 (stY (pkF D i).length) (tmY (pkF D i).length) a w → InLoop Try.prog keB Q a w := by
  intro d
  induction d with
  | zero =>
    intro i S a w hd hi hS h8 hat
    have hin : i = n := by omega
    have hkl := pkF_len (D := D) i
    refine @inLoop_of_wp plainSym mute _ (mute_ok _) _ _ _ _ (wp_flat _ _ _ _ ?_)
    show wpL Try.prog _ keLb a w
    have htm : (TM.of (tmY (pkF D i).length) 23 ok23).toL = tmY (pkF D i).length := by
      rw [@TM.of_toL mute _ _ _ (by simp [tmY, slots])]
      simp [tmY, slots]
    rw [← htm] at hat
    have hp := List.all_eq_true.1 y_end (pkF D i).length (List.mem_range.2 (by omega))
    unfold phaseYe at hp
    split at hp
    case h_2 => cases hp
    rename_i t1 σ1 hrun
    split at hp
    case h_2 => cases hp
    rename_i id t2 σ2 hrun2
    simp only [Bool.and_eq_true] at hp
    obtain ⟨hid, hp⟩ := hp
    have hid := of_beq hid
    subst hid
    have hO : @OrcOK S (orcC Try.prog lensY [⟨.lss, 3, HW.sy 8, HW.sy 9, .bool false⟩] [] []) Try.prog := by
      refine orcC_ok _ _ _ _ _ hS.len ?_ (fun f hf => by cases hf) (fun f hf => by cases hf)
      intro f hf
      simp only [List.mem_cons, List.not_mem_nil, or_false] at hf
      subst hf
      exact FactOK.int (k := .i64) (x := i) (y := n) h8 hS.hn (by simp [intR, conc]; omega) (.inl rfl)
    have hO2 : @OrcOK S (orcC Try.prog lensY [] [] []) Try.prog := orcC_ok _ _ _ _ _ hS.len (fun f hf => by cases hf) (fun f hf => by cases hf) (fun f hf => by cases hf)
    rw [keLb_eq1]
    refine AtX.runL _ hO mixed26 (fun _ _ h => by cases h) (fun _ _ h => by cases h) _ hrun hat fun a' w' hat3 => ?_
    refine AtX.run _ hO2 mixed26 (fun _ _ h => by cases h) (fun _ _ h => by cases h) hrun2 hat3 fun a2 w2 hat4 => ?_
    subst hin
    exact hQe S σ2 t2 a2 w2 hS hat4 hp
  | succ d ih =>
    intro i S a w hd hi hS h8 hat
    have hin : i < n := by omega
    have hkl := pkF_len (D := D) i
    obtain ⟨x, rfl, hxs, C, ct, fr, c1, c2, c3⟩ : ∃ x, ao = some x ∧ x.spot = none ∧ ∃ C t fr, w0.heap[x.block]? = some (.cells C t fr) ∧ x.off + n * 15 ≤ C.size ∧ ∀ i, i < n → ∀ j v, ((D i).cells)[j]? = some v → C[x.off + i * 15 + j]? = some v := by
      rcases hl with h | h
      · omega
      · exact h
    have hxB : x.block < w0.heap.size := (Array.getElem?_eq_some_iff.1 c1).1
    have hyi := hy i hin
    have hθ : (thetaK (pkF D i).length (HW.i64 (D i).kind) (.string (D i).key) (.string (D i).val) (.string (D i).old) (.bool (D i).hasOld) (HW.i64 (D i).frm) (HW.i64 (D i).to) (HW.i64 (D i).code) (.string (D i).told) (.bool (D i).has) (HW.i64 (i + 1 : Nat))).all okθ = true := thetaK_ok rfl
    have hat1 := hat.tell hθ (tellK (by omega))
    have hS1 : SY (Sym.of S _ hθ) (some x) n co (pkF D i) := ⟨hS.hl, hS.hn, fun j d' hj c u hc => by
      have hc10 : c < 10 := (List.getElem?_eq_some_iff.1 hc).1
      have hjl : j < (pkF D i).length := (List.getElem?_eq_some_iff.1 hj).1
      show conc S ((thetaK _ _ _ _ _ _ _ _ _ _ _ _).getD (22 + 10 * j + c) _) = u
      rw [Nat.add_assoc, thetaK_old (by omega), ← Nat.add_assoc]
      exact hS.rows j d' hj c u hc⟩
    have g8 : (Sym.of S _ hθ).val 8 = HW.i64 i := h8
    have g21 : (Sym.of S _ hθ).val 21 = HW.i64 (i + 1 : Nat) := rfl
    have grow : ∀ k u, (rowT (D i))[k]? = some u → (Sym.of S _ hθ).val (11 + k) = u := by
      intro k u hk
      have hk10 : k < 10 := (List.getElem?_eq_some_iff.1 hk).1
      match k, hk10, hk with
      | 0, _, hk => simp only [rowT, List.getElem?_cons_zero, Option.some.injEq] at hk; subst hk; rfl
      | 1, _, hk => simp only [rowT, List.getElem?_cons_succ, List.getElem?_cons_zero, Option.some.injEq] at hk; subst hk; rfl
      | 2, _, hk => simp only [rowT, List.getElem?_cons_succ, List.getElem?_cons_zero, Option.some.injEq] at hk; subst hk; rfl
      | 3, _, hk => simp only [rowT, List.getElem?_cons_succ, List.getElem?_cons_zero, Option.some.injEq] at hk; subst hk; rfl
      | 4, _, hk => simp only [rowT, List.getElem?_cons_succ, List.getElem?_cons_zero, Option.some.injEq] at hk; subst hk; rfl
      | 5, _, hk => simp only [rowT, List.getElem?_cons_succ, List.getElem?_cons_zero, Option.some.injEq] at hk; subst hk; rfl
      | 6, _, hk => simp only [rowT, List.getElem?_cons_succ, List.getElem?_cons_zero, Option.some.injEq] at hk; subst hk; rfl
      | 7, _, hk => simp only [rowT, List.getElem?_cons_succ, List.getElem?_cons_zero, Option.some.injEq] at hk; subst hk; rfl
      | 8, _, hk => simp only [rowT, List.getElem?_cons_succ, List.getElem?_cons_zero, Option.some.injEq] at hk; subst hk; rfl
      | 9, _, hk => simp only [rowT, List.getElem?_cons_succ, List.getElem?_cons_zero, Option.some.injEq] at hk; subst hk; rfl
    generalize Sym.of S _ hθ = S1 at hat1 hS1 g8 g21 grow
    obtain ⟨ρw, hw⟩ := hat1
    have hwx : w.heap[x.block]? = some (.cells C ct fr) := (hw.keep x.block hxB (fun q => q)).trans c1
    have hat2 := AtX.window (k := HW.sy 8) ⟨ρw, hw⟩ (new_rowY (k := (pkF D i).length)) (z := 15) hS1.hl (kd := .i64) (i := (i : Int)) g8 (by omega) (by omega) hxs rfl hxB (fun q => q) hwx (by simp only [Int.toNat_natCast]; omega) (fun j u hu => by
      have hj : j < 15 := (List.getElem?_eq_some_iff.1 hu).1
      have hv : ((D i).cells)[j]? = some (((D i).cells)[j]'hj) := List.getElem?_eq_getElem _
      exact ⟨_, by simp only [Int.toNat_natCast]; exact c3 i hin j _ hv, fun ρ => rowS_to hyi.std grow hu hv⟩)
    have hS2 : SY { S1 with wins := ⟨1, HW.sy 8, 1, 15⟩ :: S1.wins } (some x) n co (pkF D i) := ⟨hS1.hl, hS1.hn, hS1.rows⟩
    have hwin : ∀ f ∈ winsY, f ∈ ({ S1 with wins := ⟨1, HW.sy 8, 1, 15⟩ :: S1.wins } : Sym).wins := by
      intro f hf
      simp only [winsY, List.mem_cons, List.not_mem_nil, or_false] at hf
      subst hf; simp
    have k8 : ({ S1 with wins := ⟨1, HW.sy 8, 1, 15⟩ :: S1.wins } : Sym).val 8 = HW.i64 i := g8
    have k21 : ({ S1 with wins := ⟨1, HW.sy 8, 1, 15⟩ :: S1.wins } : Sym).val 21 = HW.i64 (i + 1 : Nat) := g21
    have krow : ∀ k u, (rowT (D i))[k]? = some u → ({ S1 with wins := ⟨1, HW.sy 8, 1, 15⟩ :: S1.wins } : Sym).val (11 + k) = u := grow
    generalize ({ S1 with wins := ⟨1, HW.sy 8, 1, 15⟩ :: S1.wins } : Sym) = S2 at hat2 hS2 hwin k8 k21 krow
    have hO : ∀ wy, wy = wayY (D i) → @OrcOK S2 (orcC Try.prog lensY (factsYc ++ factsY wy) [] winsY) Try.prog := by
      rintro wy rfl
      refine orcC_ok _ _ _ _ _ hS2.len ?_ (fun f hf => by cases hf) hwin
      intro f hf
      rcases List.mem_append.1 hf with hf | hf
      · exact factsYc_ok hyi k8 hS2.hn (krow 0 _ rfl) (krow 1 _ rfl) k21 hin hn f hf
      · exact factsY_ok hyi (krow 0 _ rfl) (krow 6 _ rfl) (krow 7 _ rfl) f hf
    refine @inLoop_of_wp plainSym mute _ (mute_ok _) _ _ _ _ (wp_flat _ _ _ _ ?_)
    show wpL Try.prog _ keLb a w
    have htm : (TM.of (tmY (pkF D i).length) 23 ok23).toL = tmY (pkF D i).length := by
      rw [@TM.of_toL mute _ _ _ (by simp [tmY, slots])]
      simp [tmY, slots]
    rw [← htm] at hat2
    have htake := List.all_eq_true.1 y_take (pkF D i).length (List.mem_range.2 (by omega))
    unfold takeY at htake
    simp only [Bool.and_eq_true] at htake
    obtain ⟨tk1, tk2, tk3, tk4⟩ := htake
    have take : ∀ wy, wy = wayY (D i) → cntY (D i) = true → (match @runLT (orcC Try.prog lensY (factsYc ++ factsY wy) [] winsY) Try.prog ov0 600 keLb (TM.of (tmY (pkF D i).length) 23 ok23) (stYr (pkF D i).length) with
        | some (t, σ) => stB Try.prog [outAt t] (thetaY (pkF D i).length (HW.sy 21) newY) 8 (stY ((pkF D i).length + 1)) (tmY ((pkF D i).length + 1)) σ t.toL
        | none => false) = true → wpL Try.prog (Exit.then (InLoop Try.prog keB Q) Q) keLb a w := by
      intro wy hwy hcnt hp
      split at hp
      case h_2 => cases hp
      rename_i t1 σ1 hrun
      rw [← List.append_nil keLb]
      refine AtX.runL _ (hO wy hwy) mixed26 (fun _ _ h => by cases h) (fun _ _ h => by cases h) keLb hrun hat2 fun a' w' hat3 => ?_
      obtain ⟨hθ2, hat4⟩ := hat3.restate hp
      have hpk : pkF D (i + 1) = pkF D i ++ [D i] := by rw [pkF, if_pos hcnt]
      have hpl : (pkF D (i + 1)).length = (pkF D i).length + 1 := by rw [hpk, List.length_append]; rfl
      refine ih (i + 1) _ a' w' (by omega) (by omega) ?_ ?_ (by rw [hpl]; exact hat4)
      · refine ⟨hS2.hl, hS2.hn, fun j d' hj c u hc => ?_⟩
        have hc10 : c < 10 := (List.getElem?_eq_some_iff.1 hc).1
        show conc S2 ((thetaY _ _ _).getD (22 + 10 * j + c) _) = u
        rw [hpk] at hj
        rcases Nat.lt_or_ge j (pkF D i).length with hjl | hjl
        · rw [List.getElem?_append_left hjl] at hj
          rw [Nat.add_assoc, thetaY_old (by omega), ← Nat.add_assoc]
          exact hS2.rows j d' hj c u hc
        · rw [List.getElem?_append_right hjl] at hj
          have hj0 : j - (pkF D i).length = 0 := by
            have := (List.getElem?_eq_some_iff.1 hj).1
            simp at this
            omega
          have hje : j = (pkF D i).length := by omega
          rw [hj0] at hj
          simp only [List.getElem?_cons_zero, Option.some.injEq] at hj
          subst hj hje
          rw [thetaY_new]
          have hk := krow c u hc
          have e : newY.getD c (Value.int .i64 0) = HW.sy (11 + c) := by
            match c, hc10 with
            | 0, _ => rfl
            | 1, _ => rfl
            | 2, _ => rfl
            | 3, _ => rfl
            | 4, _ => rfl
            | 5, _ => rfl
            | 6, _ => rfl
            | 7, _ => rfl
            | 8, _ => rfl
            | 9, _ => rfl
          rw [e]
          exact hk
      · show conc S2 ((thetaY _ _ _).getD 8 _) = _
        rw [thetaY_8]
        exact k21
    cases hwy : wayY (D i) with
    | get =>
      have hcnt := wayY_cnt.1 hwy
      have hp := List.all_eq_true.1 y_skip (pkF D i).length (List.mem_range.2 (by omega))
      unfold phaseY at hp
      split at hp
      case h_2 => cases hp
      rename_i t1 σ1 hrun
      rw [← List.append_nil keLb]
      refine AtX.runL _ (hO .get hwy.symm) mixed26 (fun _ _ h => by cases h) (fun _ _ h => by cases h) keLb hrun hat2 fun a' w' hat3 => ?_
      have hp : stB Try.prog [some 0] (thetaY (pkF D i).length (HW.sy 21) []) 8 (stY (pkF D i).length) (tmY (pkF D i).length) σ1 t1.toL = true := hp
      obtain ⟨hθ2, hat4⟩ := hat3.restate hp
      have hpk : pkF D (i + 1) = pkF D i := by rw [pkF, if_neg (by rw [hcnt]; decide)]
      refine ih (i + 1) _ a' w' (by omega) (by omega) ?_ ?_ (by rw [hpk]; exact hat4)
      · rw [hpk]
        refine ⟨hS2.hl, hS2.hn, fun j d' hj c u hc => ?_⟩
        have hc10 : c < 10 := (List.getElem?_eq_some_iff.1 hc).1
        have hjl : j < (pkF D i).length := (List.getElem?_eq_some_iff.1 hj).1
        show conc S2 ((thetaY _ _ _).getD (22 + 10 * j + c) _) = u
        rw [Nat.add_assoc, thetaY_old (by omega), ← Nat.add_assoc]
        exact hS2.rows j d' hj c u hc
      · show conc S2 ((thetaY _ _ _).getD 8 _) = _
        rw [thetaY_8]
        exact k21
    | good => exact take .good hwy.symm (by cases h : cntY (D i) with | true => rfl | false => rw [wayY_cnt.2 h] at hwy; cases hwy) tk1
    | absent => exact take .absent hwy.symm (by cases h : cntY (D i) with | true => rfl | false => rw [wayY_cnt.2 h] at hwy; cases hwy) tk2
    | other => exact take .other hwy.symm (by cases h : cntY (D i) with | true => rfl | false => rw [wayY_cnt.2 h] at hwy; cases hwy) tk3
    | put => exact take .put hwy.symm (by cases h : cntY (D i) with | true => rfl | false => rw [wayY_cnt.2 h] at hwy; cases hwy) tk4
/-- Key: the calls that count -/
theorem key_calls (hl : RowsZ w0 ao n 15 fun k => (D k).cells) (hn : n ≤ 10) (hy : ∀ i, i < n → RowY (D i)) :
    Calls Try.prog 15 #[.slice ao n co, keyK] w0 fun e w' => Below w0.heap.size w0 w' ∧ MadeE (pkF D n).length (fun j => (pkF D n).getD j (D 0)) w0.heap.size e w' := by
  refine calls_flat (args := [.slice ao n co, keyK]) Try.func15 body15 fun a ht hd => ?_
  show wpL Try.prog _ keL a w0
  have hat := AtX.start (P := Try.prog) (S := symY ao n co) (X := fun _ => False) (n := Try.f15.ntmps) (vs0 := [HW.sy 1, keyK]) (fun g hg => by rw [noG] at hg; omega) (stE_HR (S := symY ao n co) rfl w0)
    (@VL.cons (symY ao n co) _ _ _ _ _ (@VR.sym (symY ao n co) _ 1 _ rfl) (@VL.cons (symY ao n co) _ _ _ _ _ (@VR.leaf (symY ao n co) _ _ rfl) (@VL.nil (symY ao n co) _))) ht hd
    (fun b o l hb hw hl => by cases hl)
  rw [nt15] at hat
  have hat : AtX Try.prog (symY ao n co) (fun _ => False) w0.heap.size w0 stE (TM.of [HW.sy 1, keyK] 23 ok23).toL a w0 := by
    rw [@TM.of_toL mute _ _ _ (show 2 ≤ 23 by decide)]; exact hat
  have hlens : ∀ y ∈ lensY, LenOK (symY ao n co) y := by
    intro y hy
    simp only [lensY, List.mem_cons, List.not_mem_nil, or_false] at hy
    subst hy
    exact ⟨⟨_, _, _, rfl, rfl⟩, .inr rfl⟩
  have hO : @OrcOK (symY ao n co) (orcC Try.prog lensY [] [] []) Try.prog := orcC_ok _ _ _ _ _ hlens (fun f hf => by cases hf) (fun f hf => by cases hf) (fun f hf => by cases hf)
  have hp := y_start
  unfold phaseY0 at hp
  split at hp
  case h_2 => cases hp
  rename_i t1 σ1 hrun
  rw [keL_eq]
  refine AtX.runL _ hO mixed26 (fun _ _ h => by cases h) (fun _ _ h => by cases h) _ hrun hat fun a1 w1 hat1 => ?_
  obtain ⟨hθ, hat2⟩ := hat1.restate hp
  refine wp_block (@SimC.wp plainSym mute _ (mute_ok _) (.loop keB) _ _ _ ?_)
  refine key_loop (co := co) hl hn hy ?_ n 0 _ a1 w1 (by omega) (by omega) ?_ ?_ hat2
  · intro S σ t a2 w2 hS hat3 hp2
    show wpL Try.prog (bodyPost Try.prog Try.f15 (fun e w' => Below w0.heap.size w0 w' ∧ MadeE (pkF D n).length (fun j => (pkF D n).getD j (D 0)) w0.heap.size e w')) ((keL.drop 4).take 1 ++ [.ret]) a2 w2
    split at hp2
    case h_2 => cases hp2
    rename_i t3 σ3 hrun3
    have hO3 : @OrcOK S (orcC Try.prog lensY [] [] []) Try.prog := orcC_ok _ _ _ _ _ hS.len (fun f hf => by cases hf) (fun f hf => by cases hf) (fun f hf => by cases hf)
    refine AtX.runL _ hO3 mixed26 (fun _ _ h => by cases h) (fun _ _ h => by cases h) _ hrun3 hat3 fun a4 w4 hat4 => ?_
    rw [wpL_one]
    refine wp_ret ?_
    rcases ansY_eq hp2 with ⟨h0, hv⟩ | ⟨h0, b, hv, hg⟩
    · exact hat4.done (.inr rfl) (by rw [@resultsT_eq mute]; exact hv) fun ρ v' hv' => ⟨hat4.below, .inl ⟨h0, by rw [@VR.inv_leaf S ρ _ _ hv' rfl]⟩⟩
    · refine hat4.done2 (.inr rfl) (by rw [@resultsT_eq mute]; exact hv) fun ρ v' hx hv' => ⟨hat4.below, .inr ⟨h0, ?_⟩⟩
      obtain ⟨a', c', rfl, hva⟩ := @VR.inv_slice S ρ _ _ _ _ hv'
      rcases hva with ⟨hva, hcap⟩ | ⟨e, _⟩
      case inr => omega
      obtain ⟨l, l1, l2, l3⟩ := hva.at_
      have l1 : ρ b = some l := l1
      obtain ⟨e1, e2, e3, e4, C, t, fr, e5, e6, e7, e8, e9⟩ := @HR.ob S ρ _ _ hx.hr b _ l hg l1
      obtain ⟨rfl, hpo, hsz, rfl, hu⟩ := e9 40 rfl
      have ha' : a' = ⟨l.pb, 0, none⟩ := by
        have := hva.s'
        cases a'
        simp_all
      have hfr : w0.heap.size ≤ l.pb := by
        rcases hx.fresh b _ l hg rfl l1 with h | h
        · exact h
        · exact h.elim
      rw [outY_len] at e3 e4
      have hc' : c' * 15 ≤ C.size ∧ (pkF D n).length ≤ c' := by
        rcases hcap with e | ⟨l', q1, q2, q3⟩
        · rw [hsz]; omega
        · have q1 : ρ b = some l' := q1
          rw [l1] at q1
          cases q1
          rcases q3 with q3 | ⟨_, _, q3⟩
          · rw [e2] at q3; cases q3
          · rw [e1] at q3
            have : (⟨b, 0, none⟩ : Addr).off = 0 := rfl
            rw [hsz]
            omega
      refine ⟨l.pb, c', C, by rw [ha'], hfr, e5, hc'.1, hc'.2, fun j hj c v hcv => ?_⟩
      have hc15 : c < 15 := (List.getElem?_eq_some_iff.1 hcv).1
      have hcell : (rowS (22 + 10 * j))[c]? = some ((rowS (22 + 10 * j))[c]'hc15) := List.getElem?_eq_getElem _
      obtain ⟨v', k1, k2⟩ := e8 (j * 15 + c) _ ((outY_get hj hc15).trans hcell)
      rw [hpo, Nat.zero_add] at k1
      have hget : (pkF D n)[j]? = some ((pkF D n).getD j (D 0)) := by
        rw [List.getD_eq_getElem?_getD, List.getElem?_eq_getElem hj]; rfl
      obtain ⟨i, hi, hdi⟩ := pkF_mem (List.mem_of_getElem? hget)
      have hstd := (hy i hi).std
      rw [← hdi] at hstd
      rw [k1, rowS_VR (d := (pkF D n).getD j (D 0)) hstd (fun k u hk => hS.rows j _ hget k u hk) hcell k2 hcv]
  · exact ⟨rfl, rfl, fun j d' hj => by cases hj⟩
  · show conc _ ((thetaY 0 (HW.i64 0) []).getD 8 _) = _
    rw [thetaY_8]
    rfl
end
end Go.Proofs.Ytbhjhffglcipbaa
namespace Go.Proofs.Ytbhjhffglcipbaa.HW
open Go Go.Proofs.Ytbhjhffglcipbaa.AS Go.RowKit
set_option linter.unusedVariables false
set_option linter.unusedSimpArgs false
set_option linter.unusedSectionVars false
/-! ## the plain law: what was done one by one is in order -/
theorem pos_of {p : Nat → Nat} {c : Nat → Bool} (h0 : p 0 = 0) (hs : ∀ i, p (i + 1) = p i + (if c i then 1 else 0)) : ∀ (k j : Nat), j < p k → ∃ i, i < k ∧ c i = true ∧ p i = j := by
  intro k
  induction k with
  | zero => intro j hj; omega
  | succ k ih =>
    intro j hj
    rw [hs] at hj
    by_cases hc : c k = true
    · rw [if_pos hc] at hj
      rcases Nat.lt_or_ge j (p k) with h | h
      · obtain ⟨i, h1, h2, h3⟩ := ih j h; exact ⟨i, by omega, h2, h3⟩
      · exact ⟨k, by omega, hc, by omega⟩
    · rw [if_neg hc] at hj
      obtain ⟨i, h1, h2, h3⟩ := ih j (by omega); exact ⟨i, by omega, h2, h3⟩
theorem pos_mono {p : Nat → Nat} {c : Nat → Bool} (hs : ∀ i, p (i + 1) = p i + (if c i then 1 else 0)) {i j : Nat} (h : i ≤ j) : p i ≤ p j := by
  induction h with
  | refl => exact Nat.le_refl _
  | step _ ih => rw [hs]; omega
theorem lin_gen {E D : Nat → DR} {m k : Nat} {p : Nat → Nat} {c : Nat → Bool} {u : Nat → Bool × ByteArray} {a : Nat → Int} (hm : m ≤ 31) (h0 : p 0 = 0) (hs : ∀ i, p (i + 1) = p i + (if c i then 1 else 0)) (hk : p k = m)
    (hE : ∀ i, i < k → c i = true → E (p i) = D i) (hd : ∀ i, i < k → c i = true → doesF (D i) (u i) = (u (i + 1), true)) (hu : ∀ i, i < k → c i = false → u (i + 1) = u i)
    (ha : ∀ i j, i < j → a i < a j) (hf : ∀ i, i < k → (D i).frm ≤ a i) (ht : ∀ i, i < k → 0 ≤ (D i).to → a i ≤ (D i).to) : Lin E m (2 ^ m - 1) (u 0) := by
  have key : ∀ (d i left : Nat), k - i = d → i ≤ k → left < 4294967296 → (∀ b, b < 32 → left.testBit b = decide (p i ≤ b ∧ b < m)) → Lin E m left (u i) := by
    intro d
    induction d with
    | zero =>
      intro i left hd0 hi hl hb
      have hik : i = k := by omega
      subst hik
      refine Lin.over (decide_eq_true fun j hj ho => ?_)
      have h1 := hb j (by omega)
      rw [bit_eq, ho.1] at h1
      have h2 : p i ≤ j ∧ j < m := by simpa using h1.symm
      omega
    | succ d ih =>
      intro i left hd0 hi hl hb
      have hik : i < k := by omega
      cases hc : c i with
      | false =>
        rw [← hu i hik hc]
        refine ih (i + 1) left (by omega) (by omega) hl (fun b hb32 => ?_)
        rw [hb b hb32, hs, hc]
        simp
      | true =>
        have hpm : p i < m := by
          have := pos_mono hs (show i + 1 ≤ k by omega)
          rw [hs, if_pos hc] at this
          omega
        have hEi := hE i hik hc
        have hdi := hd i hik hc
        have hbit : left / 2 ^ p i % 2 = 1 := by
          have h1 := hb (p i) (by omega)
          rw [bit_eq] at h1
          simpa [hpm] using h1
        refine Lin.step (p i) hpm hbit (decide_eq_true fun j hj hh => ?_) ?_ ?_
        · obtain ⟨q1, q2, q3, q4, q5⟩ := hh
          have h1 := hb j (by omega)
          rw [bit_eq, q2] at h1
          have h2 : p i ≤ j ∧ j < m := by simpa using h1.symm
          obtain ⟨i', r1, r2, r3⟩ := pos_of h0 hs k j (by omega)
          have hii : i < i' := by
            rcases Nat.lt_or_ge i i' with h | h
            · exact h
            · have := pos_mono hs h; omega
          have hEj := hE i' r1 r2
          rw [r3] at hEj
          rw [hEj] at q3 q5
          rw [hEi] at q5
          have := ha i i' hii
          have := hf i hik
          have := ht i' r1 q3
          omega
        · rw [hEi, hdi]
        · rw [hEi, hdi]
          refine ih (i + 1) (struck left (p i)) (by omega) (by omega) (struck_u32 _ _) (fun b hb32 => ?_)
          rw [struck_bit hl (by omega) hb32, hb b hb32, hs, if_pos hc]
          by_cases e : b = p i
          · subst e; simp; omega
          · simp only [e, decide_false, Bool.not_false, Bool.and_true]
            congr 1
            apply propext
            omega
  refine key k 0 _ (by omega) (by omega) (full_lt hm).1 (fun b hb => ?_)
  rw [Nat.testBit_two_pow_sub_one, h0]
  simp

/-! ### what is made says what it says -/
/-- a made row -/
def mkRow (o : OpR) (v : Bool × ByteArray) (frm to : Int) : DR := ⟨i64 0, i64 0, i64 0, i64 0, o.kind, o.key, o.val, o.old, o.hasOld, frm, to, (stepF o v).2.1, (stepF o v).2.2.1, (stepF o v).2.2.2, .complex .f64 0 0⟩
/-- and one whose answer was lost -/
def lostRow (d : DR) : DR := ⟨d.c0, d.c1, d.c2, d.c3, d.kind, d.key, d.val, d.old, d.hasOld, d.frm, -1, 0, ⟨#[]⟩, false, d.ver⟩
theorem does_made {o : OpR} {has : Bool} {v : ByteArray} {frm to : Int} (hto : 0 ≤ to) : doesF (mkRow o (has, v) frm to) (has, v) = ((stepF o (has, v)).1, true) := by
  have ht : decide (to ≥ 0) = true := by simpa using hto
  obtain ⟨k, key, val, old, hasOld⟩ := o
  rcases kc_cases k with ⟨e, rfl⟩ | ⟨e, rfl⟩ | ⟨e, rfl⟩ | ⟨e, h1, h2, h3⟩
  · cases has <;> cases hasOld <;> simp [doesF, mkRow, stepF, e, stepX, ev2, all2, k2, qtrue, ht, vR]
  · cases has <;> cases hasOld <;> simp [doesF, mkRow, stepF, e, stepX, ev2, all2, k2, qtrue, ht, vR, pd2]
  · cases has <;> cases hasOld <;> simp [doesF, mkRow, stepF, e, stepX, ev2, all2, k2, qtrue, ht, vR, pd2]
  · cases hq : (v.toList == old.toList) <;> cases has <;> cases hasOld <;> simp [doesF, mkRow, stepF, e, stepX, ev2, all2, k2, qtrue, ht, vR, pd2, sw2, other2, mtB, hq, h1, h2, h3]
theorem does_lost {o : OpR} {has : Bool} {v : ByteArray} {frm to : Int} (hk : o.kind ≠ 1) : doesF (lostRow (mkRow o (has, v) frm to)) (has, v) = ((stepF o (has, v)).1, true) := by
  obtain ⟨k, key, val, old, hasOld⟩ := o
  rcases kc_cases k with ⟨e, rfl⟩ | ⟨e, rfl⟩ | ⟨e, rfl⟩ | ⟨e, h1, h2, h3⟩
  · exact absurd rfl hk
  · cases has <;> cases hasOld <;> simp [doesF, mkRow, lostRow, stepF, e, stepX, ev2, all2, k2, qtrue, vR, pd2]
  · cases has <;> cases hasOld <;> simp [doesF, mkRow, lostRow, stepF, e, stepX, ev2, all2, k2, qtrue, vR, pd2]
  · cases hq : (v.toList == old.toList) <;> cases has <;> cases hasOld <;> simp [doesF, mkRow, lostRow, stepF, e, stepX, ev2, all2, k2, qtrue, vR, pd2, sw2, other2, mtB, hq, h1, h2, h3]
theorem step_get {o : OpR} {v : Bool × ByteArray} (hk : o.kind = 1) : (stepF o v).1 = v := by
  obtain ⟨has, s⟩ := v
  have e : kcOf o.kind = 1 := by rw [hk]; rfl
  cases has <;> simp [stepF, e, stepX]
theorem madeRow_eq {ops : Nat → OpR} {sp : Nat → Option Int} {i : Nat} : madeRow ops sp i = mkRow (ops i) (valsF ops i) (frmF i (sp i)) (toF i (sp i)) := rfl
theorem step_code {o : OpR} {v : Bool × ByteArray} : (stepF o v).2.1 = 0 ∨ (stepF o v).2.1 = 1 ∨ (stepF o v).2.1 = 2 := by
  obtain ⟨has, s⟩ := v
  unfold stepF stepX
  split
  · cases has <;> simp
  · simp
  · simp
  · split <;> simp
theorem wI_id {x : Int} (h0 : -1000000 ≤ x) (h1 : x ≤ 1000000) : wI x = x := by
  unfold wI
  simp [IntKind.wrap, IntKind.bits, IntKind.signed]
  omega
/-- where a call's steps lie -/
theorem frm_to {i : Nat} {w : Option Int} (hi : i < 100) (hw : ∀ x, w = some x → 0 ≤ x ∧ x < 256) : frmF i w ≤ atM i ∧ atM i ≤ toF i w ∧ 0 ≤ toF i w := by
  have hat : 100 ≤ atM i ∧ atM i ≤ 2000 := by unfold atM; omega
  cases w with
  | none => exact ⟨Int.le_refl _, Int.le_refl _, by show 0 ≤ atM i; omega⟩
  | some x =>
    obtain ⟨h0, h1⟩ := hw x rfl
    have ex : wI x = x := wI_id (by omega) (by omega)
    have hm : 0 ≤ x.tmod 40 ∧ x.tmod 40 < 40 := ⟨Int.tmod_nonneg _ h0, Int.tmod_lt_of_pos _ (by omega)⟩
    have hq : 0 ≤ x.tdiv 40 ∧ x.tdiv 40 ≤ 256 := by
      rw [Int.tdiv_eq_ediv_of_nonneg h0]
      omega
    have e1 : frmF i (some x) = atM i - x.tmod 40 := by
      show wI (atM i - (wI x).tmod 40) = _
      rw [ex, wI_id (by omega) (by omega)]
    have e2 : toF i (some x) = atM i + x.tdiv 40 * 10 := by
      show wI (atM i + wI (wI ((wI x).tdiv 40) * 10)) = _
      rw [ex, wI_id (x := x.tdiv 40) (by omega) (by omega), wI_id (x := x.tdiv 40 * 10) (by omega) (by omega), wI_id (by omega) (by omega)]
    rw [e1, e2]
    omega
theorem valsF_size {ops : Nat → OpR} {k : Nat} (h : ∀ i, i < k → (ops i).val.size ≤ maxLen) : ∀ i, i ≤ k → (valsF ops i).2.size ≤ maxLen := by
  intro i
  induction i with
  | zero => intro _; exact Nat.zero_le _
  | succ i ih =>
    intro hi
    have h1 := ih (by omega)
    have h2 := h i (by omega)
    show (stepF (ops i) (valsF ops i)).1.2.size ≤ maxLen
    unfold stepF stepX
    split
    · cases (valsF ops i).1
      · exact h1
      · exact h1
    · exact h2
    · exact Nat.zero_le _
    · split
      · exact h2
      · exact h1
/-- the made history is in order -/
theorem made_lin {ops : Nat → OpR} {sp : Nat → Option Int} {k : Nat} (hk : k ≤ 10) (hw : ∀ i x, sp i = some x → 0 ≤ x ∧ x < 256) : Lin (madeRow ops sp) k (2 ^ k - 1) (false, ⟨#[]⟩) := by
  refine lin_gen (D := madeRow ops sp) (k := k) (p := fun i => i) (c := fun _ => true) (u := valsF ops) (a := atM) (by omega) rfl (fun i => by simp) rfl (fun i _ _ => rfl) (fun i hi _ => ?_) (fun i hi h => by cases h) (fun i j h => by unfold atM; omega) (fun i hi => ?_) (fun i hi _ => ?_)
  · rw [madeRow_eq]
    exact does_made (frm_to (by omega) (fun x h => hw i x h)).2.2
  · exact (frm_to (by omega) (fun x h => hw i x h)).1
  · exact (frm_to (by omega) (fun x h => hw i x h)).2.1
/-- without answers of some -/
def curD (ops : Nat → OpR) (sp : Nat → Option Int) (lost : Nat → Bool) (i : Nat) : DR := if lost i then lostRow (madeRow ops sp i) else madeRow ops sp i
theorem pkF_pre {D : Nat → DR} {i k : Nat} (h : i ≤ k) : ∃ t, pkF D k = pkF D i ++ t := by
  induction h with
  | refl => exact ⟨[], by simp⟩
  | step _ ih =>
    obtain ⟨t, ht⟩ := ih
    rw [pkF]
    split
    · exact ⟨t ++ [_], by rw [ht, List.append_assoc]⟩
    · exact ⟨t, ht⟩
theorem lost_lin {ops : Nat → OpR} {sp : Nat → Option Int} {lost : Nat → Bool} {k : Nat} (hk : k ≤ 10) (hw : ∀ i x, sp i = some x → 0 ≤ x ∧ x < 256) :
    Lin (fun j => (pkF (curD ops sp lost) k).getD j (curD ops sp lost 0)) (pkF (curD ops sp lost) k).length (2 ^ (pkF (curD ops sp lost) k).length - 1) (false, ⟨#[]⟩) := by
  have hlen := pkF_len (D := curD ops sp lost) k
  refine lin_gen (D := curD ops sp lost) (k := k) (p := fun i => (pkF (curD ops sp lost) i).length) (c := fun i => cntY (curD ops sp lost i)) (u := valsF ops) (a := atM) (by omega) rfl (fun i => ?_) rfl (fun i hi hc => ?_) (fun i hi hc => ?_) (fun i hi hc => ?_) (fun i j h => by unfold atM; omega) (fun i hi => ?_) (fun i hi ht => ?_)
  · show (pkF (curD ops sp lost) (i + 1)).length = _
    rw [pkF]
    split
    · rw [List.length_append]; rfl
    · rfl
  · obtain ⟨t, ht⟩ := pkF_pre (D := curD ops sp lost) (show i + 1 ≤ k by omega)
    have hc : cntY (curD ops sp lost i) = true := hc
    have e : pkF (curD ops sp lost) (i + 1) = pkF (curD ops sp lost) i ++ [curD ops sp lost i] := by rw [pkF, if_pos hc]
    show (pkF (curD ops sp lost) k).getD _ _ = _
    rw [ht, e, List.getD_eq_getElem?_getD, List.append_assoc, List.getElem?_append_right (Nat.le_refl _), Nat.sub_self]
    rfl
  · have hc : cntY (curD ops sp lost i) = true := hc
    have hto := (frm_to (i := i) (w := sp i) (by omega) (fun x h => hw i x h)).2.2
    by_cases hl : lost i = true
    · have e : curD ops sp lost i = lostRow (madeRow ops sp i) := by unfold curD; rw [if_pos hl]
      rw [e] at hc ⊢
      rw [madeRow_eq]
      refine does_lost ?_
      intro h1
      have : cntY (lostRow (madeRow ops sp i)) = false := by
        unfold cntY lostRow
        simp [madeRow, h1]
      rw [this] at hc
      cases hc
    · have e : curD ops sp lost i = madeRow ops sp i := by unfold curD; rw [if_neg hl]
      rw [e, madeRow_eq]
      exact does_made hto
  · have hc : cntY (curD ops sp lost i) = false := hc
    have hto := (frm_to (i := i) (w := sp i) (by omega) (fun x h => hw i x h)).2.2
    show (stepF (ops i) (valsF ops i)).1 = valsF ops i
    refine step_get ?_
    by_cases hl : lost i = true
    · have e : curD ops sp lost i = lostRow (madeRow ops sp i) := by unfold curD; rw [if_pos hl]
      rw [e] at hc
      unfold cntY lostRow at hc
      by_cases h1 : (ops i).kind = 1
      · exact h1
      · exfalso
        have h2 : decide ((ops i).kind = 1) = false := decide_eq_false h1
        have h3 : (decide (0 ≤ (-1 : Int)) || !decide ((ops i).kind = 1)) = false := hc
        rw [h2] at h3
        simp at h3
    · have e : curD ops sp lost i = madeRow ops sp i := by unfold curD; rw [if_neg hl]
      rw [e] at hc
      unfold cntY at hc
      have : decide (0 ≤ (madeRow ops sp i).to) = true := decide_eq_true hto
      rw [this] at hc
      cases hc
  · have h := (frm_to (i := i) (w := sp i) (by omega) (fun x h => hw i x h)).1
    unfold curD
    split
    · exact h
    · exact h
  · have h := (frm_to (i := i) (w := sp i) (by omega) (fun x h => hw i x h)).2.1
    unfold curD at ht ⊢
    split at ht
    · exact absurd ht (by show ¬ (0 ≤ (-1 : Int)); decide)
    · rename_i hl
      rw [if_neg hl]
      exact h
end Go.Proofs.Ytbhjhffglcipbaa.HW
