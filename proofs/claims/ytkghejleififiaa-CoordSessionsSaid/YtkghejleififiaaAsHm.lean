import Derived.Test.YtkghejleififiaaAsHw
import Derived.Test.YtkghejleififiaaAsHq
import Derived.Test.YtkghejleififiaaAsK0
import Derived.Test.YtkghejleififiaaAsK1a
import Derived.Test.YtkghejleififiaaAsK1b
import Derived.Test.YtkghejleififiaaAsK1c
import Derived.Test.YtkghejleififiaaAsK2a
import Derived.Test.YtkghejleififiaaAsK2b
import Derived.Test.YtkghejleififiaaAsK2c
import Derived.Test.YtkghejleififiaaAsK2d
namespace Go.Proofs.Ytkghejleififiaa
open Go Go.Proofs.Ytkghejleififiaa.AS Go.Proofs.Ytkghejleififiaa.CS Go.RowKit
set_option maxRecDepth 100000
set_option linter.unusedVariables false
set_option linter.unusedSimpArgs false
set_option linter.unusedSectionVars false

theorem lb_eq : lbC = [lbC.getD 0 .skip, lbC.getD 1 .skip, .block 1 inC] ++ lbC.drop 3 := by kernel_rfl
theorem in_eq : innerC = [innerC.getD 0 .skip, innerC.getD 1 .skip] ++ (code1 ++ innerC.drop 9) := by kernel_rfl
theorem law_eq : lawC = lawC.take 7 ++ ([.block 0 (.loop bodyC)] ++ ([lawC.getD 8 .skip] ++ [.ret])) := by kernel_rfl
theorem law_eq2 : lawC = lawC.take 2 ++ (lawC.getD 2 .skip :: lawC.drop 3) := by kernel_rfl
theorem tmR_eq : tmR = (tmC.set 7 (sy 4)).set 8 (sy 5) := by kernel_rfl
theorem tmE_eq (who num : Nat) : tmE who num = (tmD.set 7 (i64 who)).set 8 (i64 num) := rfl

section
variable {S : Sym} {O : Orc} {B : Nat} {W : World} {σ σ' : St} {a : Act} {w : World} {Q : Exit → Act → World → Prop}
theorem run_pieces (hO : @OrcOK S O Try.prog) {fuel : Nat} {l m : List Code} {t t' : TM} (h : @runLT O Try.prog ov0 fuel l t σ = some (t', σ')) (hat : At Try.prog S B W σ t.toL a w) (hQ : ∀ a' w', At Try.prog S B W σ' t'.toL a' w' → wpL Try.prog Q m a' w') :
    wpL Try.prog Q (l ++ m) a w :=
  At.runL S O hO mixed (fun _ _ h => by cases h) (fun _ _ h => by cases h) l (@runLT_sound O Try.prog ov0 fuel l t t' σ σ' h) hat hQ
theorem run_piece (hO : @OrcOK S O Try.prog) {fuel : Nat} {c : Code} {t t' : TM} {e : Ex} (h : @AS.runT O Try.prog ov0 fuel none c t σ = some (e, t', σ')) (hat : At Try.prog S B W σ t.toL a w) (hQ : ∀ a' w', At Try.prog S B W σ' t'.toL a' w' → Q (toExit e) a' w') :
    c.wp Try.prog Q a w :=
  At.run S O hO mixed (fun _ _ h => by cases h) (fun _ _ h => by cases h) (@runT_sound O Try.prog ov0 fuel none c t σ e t' σ' h) hat hQ
/-- pieces in two parts -/
theorem runLT_cut {O : Orc} {fuel : Nat} : ∀ {l m : List Code} {t : TM} {σ : St} {r : TM × St}, @runLT O Try.prog ov0 fuel (l ++ m) t σ = some r → ∃ t1 σ1, @runLT O Try.prog ov0 fuel l t σ = some (t1, σ1) ∧ @runLT O Try.prog ov0 fuel m t1 σ1 = some r := by
  intro l
  induction l with
  | nil => intro m t σ r h; exact ⟨t, σ, rfl, h⟩
  | cons c l ih =>
    intro m t σ r h
    simp only [List.cons_append, runLT] at h ⊢
    split at h
    · exact ih h
    · cases h
end

theorem toL_of {l : List Value} (h : l.length = 179) : (TM.of l 179 ok179).toL = l := by
  rw [@TM.of_toL mute _ _ _ (by omega), h]; simp
theorem len_slots (l : List (Nat × Value)) : (slots l).length = 179 := by
  unfold slots
  have : ∀ (l : List (Nat × Value)) (t : List Value), (l.foldl (fun tm x => tm.set x.1 x.2) t).length = t.length := by
    intro l
    induction l with
    | nil => intro t; rfl
    | cons x l ih => intro t; simp [ih]
  rw [this]; simp
theorem len_tmC : tmC.length = 179 := len_slots _
theorem len_tmR : tmR.length = 179 := len_slots _
theorem len_tmD : tmD.length = 179 := len_slots _
theorem len_tmE (who num : Nat) : (tmE who num).length = 179 := by simp [tmE_eq, len_tmD]

/-! the computed facts, read -/
def okU (u k : Nat) : Prop := u = 4 ∨ (u = 0 ∧ k = 0)
theorem all1_of {u k : Nat} (hu : okU u k) (hk : k ≤ 3) : all1 Try.prog code1 u k = true := by
  rcases hu with rfl | ⟨rfl, rfl⟩
  · rcases (by omega : k = 0 ∨ k = 1 ∨ k = 2 ∨ k = 3) with rfl | rfl | rfl | rfl
    · exact p1_40
    · exact p1_41
    · exact p1_42
    · exact p1_43
  · exact p1_00
theorem all2_of {k who : Nat} (hk : k ≤ 3) (hw : who < 4) : all2 Try.prog code2 k who = true := by
  rcases (by omega : k = 0 ∨ k = 1 ∨ k = 2 ∨ k = 3) with rfl | rfl | rfl | rfl <;> rcases (by omega : who = 0 ∨ who = 1 ∨ who = 2 ∨ who = 3) with rfl | rfl | rfl | rfl
  · exact p2_00
  · exact p2_01
  · exact p2_02
  · exact p2_03
  · exact p2_10
  · exact p2_11
  · exact p2_12
  · exact p2_13
  · exact p2_20
  · exact p2_21
  · exact p2_22
  · exact p2_23
  · exact p2_30
  · exact p2_31
  · exact p2_32
  · exact p2_33
theorem phase1_of {u k : Nat} {j : Option Nat} {eq lt : Bool} (hu : okU u k) (hk : k ≤ 3) (hj : ∀ i, j = some i → i < k) (he : j = none → eq = true) (hl : lt = true → k < 3) : phase1 Try.prog code1 u ⟨k, j, eq, lt⟩ = true := by
  have h := all1_of hu hk
  unfold all1 at h
  have h1 := List.all_eq_true.1 h j (by
    cases j with
    | none => simp [jsOf]
    | some i => simp [jsOf]; exact hj i rfl)
  have h2 := List.all_eq_true.1 h1 eq (by cases eq <;> simp)
  have h3 := List.all_eq_true.1 h2 lt (by cases lt <;> simp)
  simp only [Bool.or_eq_true, Bool.not_eq_true'] at h3
  rcases h3 with (h3 | h3) | h3
  · cases j with
    | none => rw [he rfl] at h3; cases h3
    | some i => cases h3
  · cases lt with
    | false => simp at h3
    | true => rw [to_blt (hl rfl)] at h3; cases h3
  · exact h3
theorem phase2_of {k who num : Nat} {m : CS.Mode} (hk : k ≤ 3) (hw : who < 4) (hn : num < 4) : phase2 Try.prog code2 k who num m = true := by
  have h := all2_of hk hw
  unfold all2 at h
  have h1 := List.all_eq_true.1 h num (List.mem_range.2 hn)
  obtain ⟨h2, h3⟩ := Bool.and_eq_true_iff.1 h1
  obtain ⟨h4, h5⟩ := Bool.and_eq_true_iff.1 h2
  cases m with
  | zero => exact h4
  | free => exact h5
  | same => exact h3
end Go.Proofs.Ytkghejleififiaa
