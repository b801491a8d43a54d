import Derived.Test.YtkghejleififiaaAsHp
namespace Go.Proofs.Ytkghejleififiaa.CS
open Go Go.Proofs.Ytkghejleififiaa.AS
set_option linter.unusedVariables false
set_option linter.unusedSectionVars false
set_option linter.unusedSimpArgs false

section
variable {S : Sym} {rs : List IRow} {se : Int} {g : Nat → Int} {who num : Nat} {j : Option Nat} {eq lt : Bool}

theorem RowsAre.erase {l : List Row} (h : RowsAre S l rs) (i : Nat) : RowsAre S (l.eraseIdx i) (rs.eraseIdx i) := by
  refine ⟨?_, fun j x hx => ?_⟩
  · rw [List.length_eraseIdx, List.length_eraseIdx, h.1]
  · rw [List.getElem?_eraseIdx] at hx ⊢
    split at hx
    · rename_i q; rw [if_pos q]; exact h.2 _ _ hx
    · rename_i q; rw [if_neg q]; exact h.2 _ _ hx
theorem RowsAre.add {l : List Row} (h : RowsAre S l rs) {y : Row} {x : IRow} (h1 : conc S y.1 = i64 x.1) (h2 : conc S y.2.1 = i64 x.2.1) (h3 : conc S y.2.2 = i64 x.2.2) : RowsAre S (l ++ [y]) (rs ++ [x]) := by
  refine ⟨by simp [h.1], fun j z hz => ?_⟩
  by_cases hj : j < rs.length
  · rw [List.getElem?_append_left hj] at hz
    rw [List.getElem?_append_left (by rw [h.1]; exact hj)]
    exact h.2 _ _ hz
  · rw [List.getElem?_append_right (by omega)] at hz
    rw [List.getElem?_append_right (by rw [h.1]; omega), h.1]
    cases hk : j - rs.length with
    | zero => rw [hk] at hz; simp at hz; subst hz; exact ⟨y, by simp, h1, h2, h3⟩
    | succ k => rw [hk] at hz; simp at hz

def restOf (k : Nat) (j : Option Nat) : List Row := match j with | none => rowsS k | some j => (rowsS k).eraseIdx j
/-- what the first half leaves -/
structure Mid (rs : List IRow) (se s : Int) (g : Nat → Int) (who num : Nat) : Prop where
  le : (rs.length : Int) ≤ se
  le3 : se ≤ 3
  sr : ∀ x ∈ rs, 1 ≤ x.2.2 ∧ x.2.2 ≤ se
  pf : rs.Pairwise fun x y => x.1 ≠ y.1
  ps : rs.Pairwise fun x y => x.2.2 ≠ y.2.2
  gl : ∀ p : Nat, p < 16 → g p ≤ se
  own : ∀ x ∈ rs, ∀ p : Nat, p < 16 → g p = x.2.2 → x.1 = 100 + ((p / 4 : Nat) : Int) ∧ x.2.1 = ((p % 4 : Nat) : Int)
  s0 : 0 ≤ s
  sl : s ≤ se
  free : 0 < s → ∀ p : Nat, p < 16 → g p = s → p = 4 * who + num
  mine : ∀ x ∈ rs, x.2.2 = s → x.1 = 100 + (who : Int) ∧ x.2.1 = (num : Int)

theorem step1 (hI : Inv S rs se g) (h3 : S.val 3 = i64 (100 + who)) (h5 : S.val 5 = i64 num) (h6 : S.val 6 = i64 (se + 1)) (hw : who < 4) (hn : num < 4) (hlt : lt = decide (se < 3)) (hj : Found rs who num j eq) :
    ∃ rs' se' s', (Case.mk rs.length j eq lt).rows.length = rs'.length ∧ RowsAre S (Case.mk rs.length j eq lt).rows rs' ∧ conc S (if (Case.mk rs.length j eq lt).isNew then sy 6 else sy 0) = i64 se' ∧
      conc S (Case.mk rs.length j eq lt).s = i64 s' ∧ Mid rs' se' s' g who num := by
  have hr := hI.rowsAre
  have hse : 0 ≤ se := by have := hI.le; omega
  by_cases hnew : (Case.mk rs.length j eq lt).isNew = true
  · -- a new session
    have hlt' : lt = true := by
      simp only [Case.isNew, Bool.and_eq_true] at hnew
      exact hnew.1
    have hl3 : se < 3 := of_decide_eq_true (hlt ▸ hlt')
    obtain ⟨rs0, l0, e0, hr0, hm, hsub, hfree, hlen⟩ : ∃ rs0 l0, restOf rs.length j = l0 ∧ RowsAre S l0 rs0 ∧ (∀ x ∈ rs0, x ∈ rs) ∧ rs0.Sublist rs ∧ (∀ x ∈ rs0, x.1 ≠ 100 + (who : Int)) ∧ rs0.length ≤ rs.length := by
      cases j with
      | none => exact ⟨rs, _, rfl, hr, fun _ h => h, List.Sublist.refl _, hj.2, Nat.le_refl _⟩
      | some j =>
        obtain ⟨y, hy, hyw, _⟩ := hj
        refine ⟨rs.eraseIdx j, _, rfl, hr.erase j, fun x h => List.mem_of_mem_eraseIdx h, List.eraseIdx_sublist _ _, ?_, (List.eraseIdx_sublist rs j).length_le⟩
        intro x hx
        obtain ⟨i, hne, hi⟩ := List.mem_eraseIdx_iff_getElem?.1 hx
        intro e
        exact pair_ne (R := fun (x y : IRow) => x.1 ≠ y.1) (fun a b q => Ne.symm q) hI.pf hi hy hne (e.trans hyw.symm)
    have hrows : (Case.mk rs.length j eq lt).rows = l0 ++ [(sy 3, sy 5, sy 6)] := by
      simp only [Case.rows, hnew, if_true, ← e0]
      clear hj hnew e0
      cases j <;> rfl
    have hs : (Case.mk rs.length j eq lt).s = sy 6 := by simp only [Case.s, hnew]
    have hra := hr0.add (y := (sy 3, sy 5, sy 6)) (x := (100 + (who : Int), (num : Int), se + 1)) h3 h5 h6
    have hle := hI.le
    refine ⟨rs0 ++ [(100 + (who : Int), (num : Int), se + 1)], se + 1, se + 1, by rw [hrows]; exact hra.1, by rw [hrows]; exact hra, by rw [hnew]; exact h6, by rw [hs]; exact h6, ?_⟩
    have hml : ∀ x ∈ rs0, 1 ≤ x.2.2 ∧ x.2.2 ≤ se := fun x hx => hI.s x (hm x hx)
    constructor
    · simp only [List.length_append, List.length_singleton]; omega
    · omega
    · intro x hx
      rcases List.mem_append.1 hx with hx | hx
      · have := hml x hx; omega
      · simp at hx; subst hx; simp; omega
    · refine List.pairwise_append.2 ⟨hI.pf.sublist hsub, by simp, ?_⟩
      intro a ha b hb
      simp at hb; subst hb
      exact hfree a ha
    · refine List.pairwise_append.2 ⟨hI.ps.sublist hsub, by simp, ?_⟩
      intro a ha b hb
      simp at hb; subst hb
      have := hml a ha
      show a.2.2 ≠ se + 1
      omega
    · intro p hp; have := hI.gl p hp; omega
    · intro x hx p hp hg
      rcases List.mem_append.1 hx with hx | hx
      · exact hI.own x (hm x hx) p hp hg
      · simp at hx; subst hx
        have := hI.gl p hp
        simp at hg; omega
    · omega
    · omega
    · intro _ p hp hg
      have := hI.gl p hp; omega
    · intro x hx he
      rcases List.mem_append.1 hx with hx | hx
      · have := hml x hx; omega
      · simp at hx; subst hx; exact ⟨rfl, rfl⟩
  · have hnew : (Case.mk rs.length j eq lt).isNew = false := by simpa using hnew
    have hrows : (Case.mk rs.length j eq lt).rows = rowsS rs.length := by simp [Case.rows, hnew]
    by_cases hold : ∃ i, j = some i ∧ eq = true
    · obtain ⟨i, rfl, rfl⟩ := hold
      obtain ⟨y, hy, hyw, hye⟩ := hj
      have hyn : y.2.1 = num := of_decide_eq_true hye.symm
      have hym := List.mem_of_getElem? hy
      obtain ⟨s1, s2⟩ := hI.s y hym
      have hs : (Case.mk rs.length (some i) true lt).s = sy (32 + 3 * i) := by simp only [Case.s, hnew]
      refine ⟨rs, se, y.2.2, by rw [hrows, rowsS_len], by rw [hrows]; exact hr, by rw [hnew]; exact hI.v0, by rw [hs]; exact (hI.vr i y hy).2.2, ⟨hI.le, hI.le3, hI.s, hI.pf, hI.ps, hI.gl, hI.own, by omega, s2, ?_, ?_⟩⟩
      · intro _ p hp hg
        obtain ⟨q1, q2⟩ := hI.own y hym p hp hg
        rw [hyw] at q1; rw [hyn] at q2
        omega
      · intro x hx he
        obtain ⟨k, hk⟩ := List.mem_iff_getElem?.1 hx
        by_cases hki : k = i
        · subst hki; rw [hk] at hy; injection hy with hy; subst hy; exact ⟨hyw, hyn⟩
        · exact absurd he (pair_ne (R := fun (x y : IRow) => x.2.2 ≠ y.2.2) (fun a b q => Ne.symm q) hI.ps hk hy hki)
    · have hs : (Case.mk rs.length j eq lt).s = i64 0 := by
        simp only [Case.s, hnew]
        cases j with
        | none => rfl
        | some i =>
          cases eq with
          | false => rfl
          | true => exact absurd ⟨i, rfl, rfl⟩ hold
      refine ⟨rs, se, 0, by rw [hrows, rowsS_len], by rw [hrows]; exact hr, by rw [hnew]; exact hI.v0, by rw [hs]; rfl, ⟨hI.le, hI.le3, hI.s, hI.pf, hI.ps, hI.gl, hI.own, by omega, by omega, by omega, ?_⟩⟩
      intro x hx he
      have := hI.s x hx; omega

/-- what was got, noted -/
def noted (g : Nat → Int) (who num : Nat) (s : Int) : Nat → Int := fun p => if p = 4 * who + num then s else g p
/-- which way the search goes -/
def modeOf (g : Nat → Int) (who num : Nat) (s : Int) : Mode := if s = 0 then .zero else if g (4 * who + num) = s then .same else .free

theorem facts2_ok {P : Program} {i s : Int} (hM : Mid rs se s g who num) (hw : who < 4) (hn : num < 4) (h2 : S.val 2 = i64 i) (h7 : S.val 7 = i64 s) (h8 : S.val 8 = i64 (i + 1)) (hi : 0 ≤ i ∧ i < 900) (hg : ∀ p : Nat, p < 16 → S.val (10 + p) = i64 (g p)) :
    ∀ f ∈ facts2 who num (modeOf g who num s), FactOK P S f := by
  have h0 := hM.s0
  intro f hf
  rcases List.mem_cons.1 hf with rfl | hf
  · exact FI h2 conc_i64 (by simp only [intR, conc_sy, h8, wrap_small (x := i + 1) (by omega) (by omega)]; rfl) (.inr rfl)
  · unfold modeOf at hf
    by_cases hs : s = 0
    · rw [if_pos hs] at hf
      simp only [List.mem_cons, List.not_mem_nil, or_false] at hf
      subst hf
      exact FI h7 conc_i64 (by simp [intR, conc_bool]; omega) (.inl rfl)
    · rw [if_neg hs] at hf
      by_cases hgs : g (4 * who + num) = s
      · rw [if_pos hgs] at hf
        simp only [List.mem_cons, List.mem_map, List.mem_range] at hf
        rcases hf with rfl | ⟨p, hp, rfl⟩
        · exact FI h7 conc_i64 (by simp [intR, conc_bool]; omega) (.inl rfl)
        · refine FI (hg p hp) h7 ?_ (.inl rfl)
          simp only [intR, conc_bool, Option.some.injEq, Value.bool.injEq]
          rw [decide_eq_decide]
          constructor
          · intro e; exact hM.free (by omega) p hp e
          · intro e; rw [e]; exact hgs
      · rw [if_neg hgs] at hf
        simp only [List.mem_cons, List.mem_map, List.mem_range] at hf
        rcases hf with rfl | ⟨p, hp, rfl⟩
        · exact FI h7 conc_i64 (by simp [intR, conc_bool]; omega) (.inl rfl)
        · refine FI (hg p hp) h7 ?_ (.inl rfl)
          simp only [intR, conc_bool, Option.some.injEq, Value.bool.injEq, decide_eq_false_iff_not]
          intro e
          exact hgs (hM.free (by omega) p hp e ▸ e)

/-- the second half's rows and cells -/
theorem step2 {s : Int} (hM : Mid rs se s g who num) (hw : who < 4) (hn : num < 4) :
    (∀ p : Nat, p < 16 → noted g who num s p ≤ se) ∧ (∀ x ∈ rs, ∀ p : Nat, p < 16 → noted g who num s p = x.2.2 → x.1 = 100 + ((p / 4 : Nat) : Int) ∧ x.2.1 = ((p % 4 : Nat) : Int)) := by
  refine ⟨fun p hp => ?_, fun x hx p hp he => ?_⟩
  · unfold noted; split
    · exact hM.sl
    · exact hM.gl p hp
  · unfold noted at he
    split at he
    · rename_i q
      obtain ⟨m1, m2⟩ := hM.mine x hx he.symm
      rw [m1, m2]
      omega
    · exact hM.own x hx p hp he
end
end Go.Proofs.Ytkghejleififiaa.CS
