/- The law lockgatelaw13.MarkOnce holds of every input: it is busy just if the bytes have reached the high mark and haven't come down to the low one since; no condition beyond the row's own. -/
import Derived.Test.YtbhjhffglcipbaaPMarkOncex1
import Derived.Test.YtbhjhffglcipbaaWSized
namespace Go.Proofs.Ytbhjhffglcipbaa
/-- the word that the row calls by its short name -/
abbrev PrintWords.sized_ints := @Go.Proofs.YtbhjhffglcipbaaW.PrintWords.sized_ints
end Go.Proofs.Ytbhjhffglcipbaa
namespace Go.Proofs.Ytbhjhffglcipbaa.Pure
open Go.RowKit Go.Proofs.Ytbhjhffglcipbaa.PMarkOnce Go.Proofs.YtbhjhffglcipbaaW.PrintWords Go.Proofs.YtbhjhffglcipbaaW.PrintLast

theorem awake_some : lockgatelaw13_awake.f = some true := by
  simp [lockgatelaw13_awake.f, mark_Next.f, mark_Room.f]

/-- is it busy behind the first n? -/
def bz (x : List Int) (hi lo : Int) : Nat → Bool
  | 0 => false
  | n + 1 => if rd x (n : Int) ≥ hi then true else if rd x (n : Int) ≤ lo then false else bz x hi lo n

theorem wrap_small {i : Int} (h0 : -5 ≤ i) (h : i ≤ 140737488351232) : wrap64 i = i := by
  unfold wrap64
  omega

theorem busy_tells (x : List Int) (hi lo : Int) : ∀ (n k : Nat) (m : List Int), n ≤ m.length → n ≤ 140737488351232 → n < k → (∀ i : Nat, i < n → rd m (i : Int) = rd x (i : Int)) →
    lockgateref13_Busy.l0 k m hi lo ((n : Int) - 1) = some (bz x hi lo n) := by
  intro n
  induction n with
  | zero =>
    intro k m _ _ hk _
    obtain ⟨k, rfl⟩ : ∃ j, k = j + 1 := ⟨k - 1, by omega⟩
    simp only [lockgateref13_Busy.l0]; rw [if_neg (by omega)]; rfl
  | succ n ih =>
    intro k m hm hn hk he
    obtain ⟨k, rfl⟩ : ∃ j, k = j + 1 := ⟨k - 1, by omega⟩
    have e : ((n + 1 : Nat) : Int) - 1 = (n : Int) := by omega
    rw [e]
    simp only [lockgateref13_Busy.l0, bz]
    rw [if_pos (by omega), if_pos (by omega), if_pos (by omega), he n (by omega)]
    by_cases h1 : rd x (n : Int) ≥ hi
    · rw [if_pos h1, if_pos h1]
    · rw [if_neg h1, if_neg h1]
      by_cases h2 : rd x (n : Int) ≤ lo
      · rw [if_pos h2, if_pos h2]
      · rw [if_neg h2, if_neg h2, wrap_small (by omega) (by omega)]
        exact ih k m (by omega) (by omega) (by omega) (fun i hi => he i (by omega))

theorem rd_take (x : List Int) (n i : Nat) (h : i < n) : rd (x.take n) (i : Int) = rd x (i : Int) := by
  unfold rd
  simp only [Int.toNat_natCast, List.getD_eq_getElem?_getD, List.getElem?_take, h, if_true]

theorem next_tells (x : List Int) (hi lo : Int) (i : Nat) : mark_Next.f (bz x hi lo i) (rd x (i : Int)) hi lo = some (bz x hi lo (i + 1)) := by
  unfold mark_Next.f
  simp only [bz]
  by_cases h1 : rd x (i : Int) ≥ hi
  · rw [if_pos h1, if_pos h1]
  · rw [if_neg h1, if_neg h1]
    by_cases h2 : rd x (i : Int) ≤ lo
    · rw [if_pos h2, if_pos h2]
    · rw [if_neg h2, if_neg h2]

theorem once_tells (x : List Int) (hi lo : Int) (hlen : x.length ≤ 200) : ∀ (d k i : Nat), i ≤ x.length → x.length - i = d → d + x.length + 5 < k →
    lockgatelaw13_MarkOnce.l0 k x hi lo (bz x hi lo i) (i : Int) = some true := by
  intro d
  induction d with
  | zero =>
    intro k i h1 h2 hk
    obtain ⟨k, rfl⟩ : ∃ j, k = j + 1 := ⟨k - 1, by omega⟩
    rw [lockgatelaw13_MarkOnce.l0]
    rw [if_neg (by omega), awake_some]; rfl
  | succ d ih =>
    intro k i h1 h2 hk
    obtain ⟨k, rfl⟩ : ∃ j, k = j + 1 := ⟨k - 1, by omega⟩
    rw [lockgatelaw13_MarkOnce.l0]
    have hw : wrap64 ((i : Int) + 1) = ((i + 1 : Nat) : Int) := by rw [wrap_small (by omega) (by omega)]; omega
    have hn : mark_Next.f (bz x hi lo i) (rd x (i : Int)) hi lo = some (bz x hi lo (i + 1)) := next_tells x hi lo i
    have hl : (x.take (i + 1)).length = i + 1 := by rw [List.length_take]; omega
    have hb : lockgateref13_Busy.f k (x.take (i + 1)) hi lo = some (bz x hi lo (i + 1)) := by
      unfold lockgateref13_Busy.f
      rw [hl, wrap_small (by omega) (by omega)]
      exact busy_tells x hi lo (i + 1) k _ (by omega) (by omega) (by omega) (fun j hj => rd_take x (i + 1) j hj)
    rw [if_pos (by omega), if_pos (by omega), hn, Option.bind_some]
    rw [hw, if_pos (by omega), if_pos (by omega), Int.toNat_natCast, hb, Option.bind_some]
    have e : (bz x hi lo (i + 1) != bz x hi lo (i + 1)) = false := by cases bz x hi lo (i + 1) <;> rfl
    rw [e, if_neg Bool.false_ne_true]
    exact ih k (i + 1) (by omega) (by omega) (by omega)

theorem MarkOnce : lockgatelaw13_MarkOnce.Pure := by
  intro x hi lo _ _ _ _ _
  obtain ⟨k, hk⟩ : ∃ k, k = x.length + x.length + 10 := ⟨_, rfl⟩
  refine ⟨k + 1, ?_⟩
  unfold lockgatelaw13_MarkOnce.f
  by_cases h1 : lo > hi
  · rw [if_pos h1]; simp only [lockgatelaw13_MarkOnce.j0]; rw [if_pos trivial, awake_some]; rfl
  · rw [if_neg h1]
    by_cases h2 : (x.length : Int) > 200
    · simp only [lockgatelaw13_MarkOnce.j0, h2, decide_true]; rw [if_pos trivial, awake_some]; rfl
    · simp only [lockgatelaw13_MarkOnce.j0, h2, decide_false]
      rw [if_neg (by decide)]
      have := once_tells x hi lo (by omega) x.length k 0 (by omega) (by omega) (by omega)
      exact this

end Go.Proofs.Ytbhjhffglcipbaa.Pure
