import Derived.Test.YtkghejleififiaaAsHd
import Derived.Test.YtkghejleififiaaAsWalk
namespace Go.Proofs.Ytkghejleififiaa.CS
open Go Go.Proofs.Ytkghejleififiaa.AS
set_option linter.unusedVariables false
set_option linter.unusedSectionVars false
set_option linter.unusedSimpArgs false

/-! ## CoordSessions: the plain law -/
abbrev IRow := Int × Int × Int
/-- what is known at the loop's head: rows of Opens (whose From it is, its Num, its session), the book's count of sessions, what was got -/
structure Inv (S : Sym) (rs : List IRow) (se : Int) (g : Nat → Int) : Prop where
  v0 : S.val 0 = i64 se
  vr : ∀ (j : Nat) (x : IRow), rs[j]? = some x → S.val (30 + 3 * j) = i64 x.1 ∧ S.val (31 + 3 * j) = i64 x.2.1 ∧ S.val (32 + 3 * j) = i64 x.2.2
  vg : ∀ p : Nat, p < 16 → S.val (10 + p) = i64 (g p)
  le : (rs.length : Int) ≤ se
  le3 : se ≤ 3
  s : ∀ x ∈ rs, 1 ≤ x.2.2 ∧ x.2.2 ≤ se
  pf : rs.Pairwise fun x y => x.1 ≠ y.1
  ps : rs.Pairwise fun x y => x.2.2 ≠ y.2.2
  gl : ∀ p : Nat, p < 16 → g p ≤ se
  own : ∀ x ∈ rs, ∀ p : Nat, p < 16 → g p = x.2.2 → x.1 = 100 + ((p / 4 : Nat) : Int) ∧ x.2.1 = ((p % 4 : Nat) : Int)

theorem Inv.short {S : Sym} {rs : List IRow} {se : Int} {g : Nat → Int} (h : Inv S rs se g) : rs.length ≤ 3 := by
  have := h.le; have := h.le3; omega

theorem wrap_small {x : Int} (h0 : 0 ≤ x) (h : x < 1000) : IntKind.i64.wrap x = x := by
  simp [IntKind.wrap, IntKind.bits, IntKind.signed]
  omega

theorem conc_sy {S : Sym} {i : Nat} : conc S (sy i) = S.val i := rfl
theorem conc_i64 {S : Sym} {n : Int} : conc S (i64 n) = i64 n := rfl
theorem conc_bool {S : Sym} {b : Bool} : conc S (.bool b) = .bool b := rfl

section
variable {P : Program} {S : Sym} {rs : List IRow} {se : Int} {g : Nat → Int} {who num : Int} {j : Option Nat} {eq lt : Bool}

theorem FI {b : BinOp} {x y r : Value} {p q : Int} (hx : conc S x = i64 p) (hy : conc S y = i64 q) (hr : intR b .i64 p q = some (conc S r)) (hl : leaf r = true ∨ isSym r = true) : FactOK P S ⟨b, 3, x, y, r⟩ :=
  FactOK.int (k := .i64) hx hy hr hl

/-- which row it is -/
def Found (rs : List IRow) (who num : Int) (j : Option Nat) (eq : Bool) : Prop :=
  match j with
  | none => eq = true ∧ ∀ x ∈ rs, x.1 ≠ 100 + who
  | some j => ∃ x, rs[j]? = some x ∧ x.1 = 100 + who ∧ eq = decide (x.2.1 = num)

theorem found_ex (rs : List IRow) (who num : Int) : ∃ j eq, Found rs who num j eq := by
  by_cases h : ∃ x ∈ rs, x.1 = 100 + who
  · obtain ⟨x, hx, hw⟩ := h
    obtain ⟨j, hj⟩ := List.mem_iff_getElem?.1 hx
    exact ⟨some j, decide (x.2.1 = num), x, hj, hw, rfl⟩
  · exact ⟨none, true, rfl, fun x hx hw => h ⟨x, hx, hw⟩⟩

theorem pair_ne {α : Type} {R : α → α → Prop} (hs : ∀ a b, R a b → R b a) : ∀ {l : List α} {i j : Nat} {x y : α}, l.Pairwise R → l[i]? = some x → l[j]? = some y → i ≠ j → R x y := by
  intro l
  induction l with
  | nil => intro i j x y _ h; simp at h
  | cons a l ih =>
    intro i j x y hp hx hy ne
    obtain ⟨h1, h2⟩ := List.pairwise_cons.1 hp
    cases i with
    | zero =>
      cases j with
      | zero => exact absurd rfl ne
      | succ j => simp at hx hy; subst hx; exact h1 _ (List.mem_of_getElem? hy)
    | succ i =>
      cases j with
      | zero => simp at hx hy; subst hy; exact hs _ _ (h1 _ (List.mem_of_getElem? hx))
      | succ j => simp at hx hy; exact ih h2 hx hy (by omega)

theorem facts1_ok (hI : Inv S rs se g) (h3 : S.val 3 = i64 (100 + who)) (h4 : S.val 4 = i64 who) (h5 : S.val 5 = i64 num) (h6 : S.val 6 = i64 (se + 1)) (hw : 0 ≤ who ∧ who < 4) (hlt : lt = decide (se < 3))
    (hj : Found rs who num j eq) : ∀ f ∈ (Case.mk rs.length j eq lt).facts, FactOK P S f := by
  have hse : 0 ≤ se := by have := hI.le; omega
  intro f hf
  simp only [Case.facts, List.mem_append] at hf
  rcases hf with ((hf | hf) | hf) | hf
  · simp only [List.mem_cons, List.not_mem_nil, or_false] at hf
    rcases hf with rfl | rfl | rfl | rfl | rfl | rfl | rfl
    · exact FI conc_i64 h4 (by simp only [intR, conc_sy, h3, wrap_small (x := 100 + who) (by omega) (by omega)]; rfl) (.inr rfl)
    · exact FI h3 h3 (by simp [intR, conc_bool]) (.inl rfl)
    · exact FI h3 h3 (by simp [intR, conc_bool]) (.inl rfl)
    · exact FI h5 h5 (by simp [intR, conc_bool]) (.inl rfl)
    · exact FI h5 h5 (by simp [intR, conc_bool]) (.inl rfl)
    · exact FI hI.v0 hI.v0 (by simp [intR, conc_bool]) (.inl rfl)
    · exact FI hI.v0 conc_i64 (by simp only [intR, conc_bool, hlt]) (.inl rfl)
  · cases lt with
    | false => simp at hf
    | true =>
      have hl3 : se < 3 := of_decide_eq_true hlt.symm
      simp only [if_true, List.mem_cons, List.not_mem_nil, or_false] at hf
      rcases hf with rfl | rfl | rfl | rfl | rfl
      · exact FI hI.v0 conc_i64 (by simp only [intR, conc_sy, h6, wrap_small (x := se + 1) (by omega) (by omega)]; rfl) (.inr rfl)
      · exact FI h6 h6 (by simp [intR, conc_bool]) (.inl rfl)
      · exact FI h6 conc_i64 (by simp [intR, conc_bool]; omega) (.inl rfl)
      · exact FI h6 conc_i64 (by simp [intR, conc_bool]; omega) (.inl rfl)
      · exact FI h6 conc_i64 (by simp [intR, conc_bool]; omega) (.inl rfl)
  · simp only [List.mem_map, List.mem_range] at hf
    obtain ⟨i, hi, rfl⟩ := hf
    have hx := List.getElem?_eq_getElem hi
    generalize rs[i] = x at hx
    refine FI (hI.vr i x hx).1 h3 ?_ (.inl rfl)
    simp only [intR, conc_bool, Option.some.injEq, Value.bool.injEq]
    rw [decide_eq_decide]
    cases j with
    | none =>
      have := hj.2 x (List.mem_of_getElem? hx)
      simp [this]
    | some j =>
      obtain ⟨y, hy, hyw, _⟩ := hj
      constructor
      · intro e
        by_cases hij : i = j
        · rw [hij]
        · exact absurd (e.trans hyw.symm) (pair_ne (R := fun (x y : IRow) => x.1 ≠ y.1) (fun a b q => Ne.symm q) hI.pf hx hy hij)
      · intro e
        injection e with e
        subst e
        rw [hx] at hy; injection hy with hy; subst hy; exact hyw
  · cases j with
    | none => simp at hf
    | some j =>
      obtain ⟨y, hy, hyw, he⟩ := hj
      obtain ⟨k1, k2, k3⟩ := hI.vr j y hy
      obtain ⟨s1, s2⟩ := hI.s y (List.mem_of_getElem? hy)
      have := hI.le3
      simp only [List.mem_cons, List.not_mem_nil, or_false] at hf
      rcases hf with rfl | rfl | rfl | rfl | rfl
      · exact FI k2 h5 (by simp only [intR, conc_bool, he]) (.inl rfl)
      · exact FI k3 k3 (by simp [intR, conc_bool]) (.inl rfl)
      · exact FI k3 conc_i64 (by simp [intR, conc_bool]; omega) (.inl rfl)
      · exact FI k3 conc_i64 (by simp [intR, conc_bool]; omega) (.inl rfl)
      · exact FI k3 conc_i64 (by simp [intR, conc_bool]; omega) (.inl rfl)
end

theorem gd_right {α : Type} {l m : List α} {i : Nat} {d : α} (h : l.length ≤ i) : (l ++ m).getD i d = m.getD (i - l.length) d := by
  rw [List.getD_eq_getElem?_getD, List.getElem?_append_right h, List.getD_eq_getElem?_getD]
theorem gd_left {α : Type} {l m : List α} {i : Nat} {d : α} (h : i < l.length) : (l ++ m).getD i d = l.getD i d := by
  rw [List.getD_eq_getElem?_getD, List.getElem?_append_left h, List.getD_eq_getElem?_getD]
/-! what a list of renamings says -/
def three (x : Row) : List Value := [x.1, x.2.1, x.2.2]
theorem flat3 : ∀ {l : List Row} {j : Nat} {x : Row} (d : Value), l[j]? = some x → (l.flatMap three).getD (3 * j) d = x.1 ∧ (l.flatMap three).getD (1 + 3 * j) d = x.2.1 ∧ (l.flatMap three).getD (2 + 3 * j) d = x.2.2
  | [], _, _, _, h => by simp at h
  | a :: l, 0, x, d, h => by simp at h; subst h; simp [three]
  | a :: l, j + 1, x, d, h => by
    simp at h
    obtain ⟨h1, h2, h3⟩ := flat3 (l := l) d h
    have e1 : 3 * (j + 1) = 3 + 3 * j := by omega
    have key : ∀ m, ((a :: l).flatMap three).getD (3 + m) d = (l.flatMap three).getD m d := by
      intro m
      rw [List.flatMap_cons, gd_right (by simp [three])]
      congr 1
      simp [three]
    rw [e1]
    refine ⟨(key _).trans h1, ?_, ?_⟩
    · rw [show 1 + (3 + 3 * j) = 3 + (1 + 3 * j) by omega]; exact (key _).trans h2
    · rw [show 2 + (3 + 3 * j) = 3 + (2 + 3 * j) by omega]; exact (key _).trans h3

section
variable {A G B R : List Value} (hA : A.length = 10) (hG : G.length = 16) (hB : B.length = 4) {d : Value}
include hA hG hB
theorem th_A {i : Nat} (hi : i < 10) : (A ++ G ++ B ++ R).getD i d = A.getD i d := by
  rw [List.append_assoc, List.append_assoc, gd_left (by omega)]
theorem th_G {p : Nat} (hp : p < 16) : (A ++ G ++ B ++ R).getD (10 + p) d = G.getD p d := by
  rw [List.append_assoc, List.append_assoc, gd_right (by omega), gd_left (by omega)]
  congr 1; omega
theorem th_R {m : Nat} : (A ++ G ++ B ++ R).getD (30 + m) d = R.getD m d := by
  have hl : (A ++ G ++ B).length = 30 := by simp [hA, hG, hB]
  rw [gd_right (by omega)]
  congr 1; omega
end

/-- the rows' symbols stand for the rows -/
def RowsAre (S : Sym) (l : List Row) (rs : List IRow) : Prop := l.length = rs.length ∧ ∀ (j : Nat) (x : IRow), rs[j]? = some x → ∃ y, l[j]? = some y ∧ conc S y.1 = i64 x.1 ∧ conc S y.2.1 = i64 x.2.1 ∧ conc S y.2.2 = i64 x.2.2
theorem rowsS_len (k : Nat) : (rowsS k).length = k := by simp [rowsS]
theorem rowsS_get {k j : Nat} (h : j < k) : (rowsS k)[j]? = some (sy (30 + 3 * j), sy (31 + 3 * j), sy (32 + 3 * j)) := by
  simp [rowsS, List.getElem?_map, List.getElem?_range h]
theorem Inv.rowsAre {S : Sym} {rs : List IRow} {se : Int} {g : Nat → Int} (h : Inv S rs se g) : RowsAre S (rowsS rs.length) rs := by
  refine ⟨rowsS_len _, fun j x hx => ?_⟩
  have hj : j < rs.length := (List.getElem?_eq_some_iff.1 hx).1
  exact ⟨_, rowsS_get hj, h.vr j x hx⟩
theorem gotS_get {p : Nat} (h : p < 16) (d : Value) : gotS.getD p d = sy (10 + p) := by
  rw [List.getD_eq_getElem?_getD]
  simp [gotS, List.getElem?_map, List.getElem?_range h]
theorem gotS_len : gotS.length = 16 := by simp [gotS]

/-- symbols told anew: the invariant's values -/
theorem Inv.of {S : Sym} {A G B : List Value} {l : List Row} {rs : List IRow} {se : Int} {g : Nat → Int} (hA : A.length = 10) (hG : G.length = 16) (hB : B.length = 4) (hθ : (A ++ G ++ B ++ l.flatMap three).all okθ = true)
    (hr : RowsAre S l rs) (h0 : conc S (A.getD 0 (i64 0)) = i64 se) (hg : ∀ p, p < 16 → conc S (G.getD p (i64 0)) = i64 (g p))
    (le : (rs.length : Int) ≤ se) (le3 : se ≤ 3) (s : ∀ x ∈ rs, 1 ≤ x.2.2 ∧ x.2.2 ≤ se) (pf : rs.Pairwise fun x y => x.1 ≠ y.1) (ps : rs.Pairwise fun x y => x.2.2 ≠ y.2.2)
    (gl : ∀ p : Nat, p < 16 → g p ≤ se) (own : ∀ x ∈ rs, ∀ p : Nat, p < 16 → g p = x.2.2 → x.1 = 100 + ((p / 4 : Nat) : Int) ∧ x.2.1 = ((p % 4 : Nat) : Int)) :
    Inv (Sym.of S (A ++ G ++ B ++ l.flatMap three) hθ) rs se g := by
  refine ⟨?_, ?_, ?_, le, le3, s, pf, ps, gl, own⟩
  · show conc S _ = _
    rw [th_A hA hG hB (by omega)]; exact h0
  · intro j x hx
    obtain ⟨y, hy, k1, k2, k3⟩ := hr.2 j x hx
    obtain ⟨f1, f2, f3⟩ := flat3 (i64 0) hy
    refine ⟨?_, ?_, ?_⟩
    · show conc S _ = _
      rw [th_R hA hG hB]; exact (congrArg (conc S) f1).trans k1
    · show conc S _ = _
      rw [show 31 + 3 * j = 30 + (1 + 3 * j) by omega, th_R hA hG hB]; exact (congrArg (conc S) f2).trans k2
    · show conc S _ = _
      rw [show 32 + 3 * j = 30 + (2 + 3 * j) by omega, th_R hA hG hB]; exact (congrArg (conc S) f3).trans k3
  · intro p hp
    show conc S _ = _
    rw [th_G hA hG hB hp]; exact hg p hp
end Go.Proofs.Ytkghejleififiaa.CS
