-- PRINTED BY print.sh 35421559b90ae4d0a3588c463048766b98c2df88dd9212a6774a882060cdf62d: not written by this session
import Derived.Test.YtbhjhffglcipbaaPMarkOncex0
namespace Go.Proofs.Ytbhjhffglcipbaa.PMarkOnce
open Go.RowKit Go.Proofs.YtbhjhffglcipbaaW.PrintWords Go.Proofs.YtbhjhffglcipbaaW.PrintLast Go.Proofs.YtbhjhffglcipbaaW.PrintMore
attribute [local go_sem] max2_int min2_int max_two min_two max_three min_three max_four min_four   -- for this text's walks alone
set_option linter.unusedVariables false
set_option linter.unusedSimpArgs false

/-! ### mark_Next: function 9 -/
def mark_Next.f (a0 : Bool) (a1 : Int) (a2 : Int) (a3 : Int) : Option (Bool) := if a1 ≥ a2 then (some true) else (if a1 ≤ a3 then (some false) else (some a0))
set_option maxHeartbeats 8000000 in
set_option maxRecDepth 100000 in
theorem mark_Next.calls (a0 : Bool) (a1 : Int) (a2 : Int) (a3 : Int) (r : Bool) (w : World) (h : mark_Next.f a0 a1 a2 a3 = some r) :
    Calls Try.prog 9 #[.bool a0, .int .i64 a1, .int .i64 a2, .int .i64 a3] w fun e w' => e = .returned (.bool r) ∧ Drawn0 w w' := by
  have H : (if a1 ≥ a2 then (some true) else (if a1 ≤ a3 then (some false) else (some a0))) = some r := h
  clear h
  by_cases c5 : a1 ≥ a2
  · rw [if_pos c5] at H
    have c5b0 : decide (a2 ≤ a1) = true := decide_eq_true c5
    clear c5
    obtain rfl := Option.some.inj H
    go_enter Try.func9, Try.ntmps9
    go_wp2
    go_ret
    exact ⟨by first | rfl | (simp; done) | (simp [*]; done), by repeat (first | exact Drawn0.refl _ | apply Drawn0.step)⟩
  · rw [if_neg c5] at H
    have c5b0 : decide (a2 ≤ a1) = false := decide_eq_false c5
    clear c5
    by_cases c6 : a1 ≤ a3
    · rw [if_pos c6] at H
      have c6b0 : decide (a1 ≤ a3) = true := decide_eq_true c6
      clear c6
      obtain rfl := Option.some.inj H
      go_enter Try.func9, Try.ntmps9
      go_wp2
      go_ret
      exact ⟨by first | rfl | (simp; done) | (simp [*]; done), by repeat (first | exact Drawn0.refl _ | apply Drawn0.step)⟩
    · rw [if_neg c6] at H
      have c6b0 : decide (a1 ≤ a3) = false := decide_eq_false c6
      clear c6
      obtain rfl := Option.some.inj H
      go_enter Try.func9, Try.ntmps9
      go_wp2
      go_ret
      exact ⟨by first | rfl | (simp; done) | (simp [*]; done), by repeat (first | exact Drawn0.refl _ | apply Drawn0.step)⟩

/-! ### mark_Room: function 10 -/
def mark_Room.f (a0 : Bool) (a1 : Int) (a2 : Int) (a3 : Int) : Option (Bool) := (mark_Next.f a0 a1 a2 a3).bind fun t101 => (some (!t101))
set_option maxHeartbeats 8000000 in
set_option maxRecDepth 100000 in
theorem mark_Room.calls (a0 : Bool) (a1 : Int) (a2 : Int) (a3 : Int) (r : Bool) (w : World) (h : mark_Room.f a0 a1 a2 a3 = some r) :
    Calls Try.prog 10 #[.bool a0, .int .i64 a1, .int .i64 a2, .int .i64 a3] w fun e w' => e = .returned (.bool r) ∧ Drawn0 w w' := by
  have H : ((mark_Next.f a0 a1 a2 a3).bind fun t101 => (some (!t101))) = some r := h
  clear h
  replace H := Option.bind_eq_some_iff.mp H
  obtain ⟨t101, A50, H⟩ := H
  replace H : (some (!t101)) = some r := H
  have A5 := Aside0.mk A50
  clear A50
  obtain rfl := Option.some.inj H
  go_enter Try.func10, Try.ntmps10
  go_wp2_with (first | ((with_reducible refine gate_callee (f := 9) rfl ?_); refine goesL_ (some 13) rfl rfl Try.func9 (by kernel_rfl) rfl #[.bool a0, .int .i64 a1, .int .i64 a2, .int .i64 a3] rfl (by (try simp only [List.map_toArray, List.map_cons, List.map_nil]); first | done | rfl | (simp only [List.length_drop, List.length_take]; rfl)) ?_; (with_reducible refine (mark_Next.calls a0 a1 a2 a3 t101 _ A5.out).mono ?_); rintro e w' ⟨rfl, ⟨nd, rfl⟩⟩; refine ⟨_, rfl, ?_⟩))
  go_ret
  exact ⟨by first | rfl | (simp; done) | (simp [*]; done), by repeat (first | exact Drawn0.refl _ | apply Drawn0.step)⟩

/-! ### lockgatelaw13_awake: function 8 -/
def lockgatelaw13_awake.f  : Option (Bool) := (mark_Next.f false 9 10 4).bind fun t102 => (if t102 = true then (some false) else ((mark_Next.f false 10 10 4).bind fun t103 => (if t103 = true then ((mark_Next.f true 5 10 4).bind fun t104 => (if t104 = true then ((mark_Next.f true 4 10 4).bind fun t105 => (if t105 = true then (some false) else ((mark_Room.f false 9 10 4).bind fun t106 => (some t106)))) else (some false))) else (some false))))
set_option maxHeartbeats 8000000 in
set_option maxRecDepth 100000 in
theorem lockgatelaw13_awake.calls  (r : Bool) (w : World) (h : lockgatelaw13_awake.f  = some r) :
    Calls Try.prog 8 #[] w fun e w' => e = .returned (.bool r) ∧ Drawn0 w w' := by
  have H : ((mark_Next.f false 9 10 4).bind fun t102 => (if t102 = true then (some false) else ((mark_Next.f false 10 10 4).bind fun t103 => (if t103 = true then ((mark_Next.f true 5 10 4).bind fun t104 => (if t104 = true then ((mark_Next.f true 4 10 4).bind fun t105 => (if t105 = true then (some false) else ((mark_Room.f false 9 10 4).bind fun t106 => (some t106)))) else (some false))) else (some false))))) = some r := h
  clear h
  replace H := Option.bind_eq_some_iff.mp H
  obtain ⟨t102, A10, H⟩ := H
  replace H : (if t102 = true then (some false) else ((mark_Next.f false 10 10 4).bind fun t103 => (if t103 = true then ((mark_Next.f true 5 10 4).bind fun t104 => (if t104 = true then ((mark_Next.f true 4 10 4).bind fun t105 => (if t105 = true then (some false) else ((mark_Room.f false 9 10 4).bind fun t106 => (some t106)))) else (some false))) else (some false)))) = some r := H
  have A1 := Aside0.mk A10
  clear A10
  by_cases c2 : t102 = true
  · subst c2
    have H1 : (some false) = some r := by rw [if_pos rfl] at H; exact H
    clear H
    have H := H1
    clear H1
    obtain rfl := Option.some.inj H
    go_enter Try.func8, Try.ntmps8
    go_wp2_with (first | ((with_reducible refine gate_callee (f := 9) rfl ?_); refine goesL_ (some 1) rfl rfl Try.func9 (by kernel_rfl) rfl #[.bool false, .int .i64 9, .int .i64 10, .int .i64 4] rfl (by (try simp only [List.map_toArray, List.map_cons, List.map_nil]); first | done | rfl | (simp only [List.length_drop, List.length_take]; rfl)) ?_; (with_reducible refine (mark_Next.calls false 9 10 4 true _ A1.out).mono ?_); rintro e w' ⟨rfl, ⟨nd, rfl⟩⟩; refine ⟨_, rfl, ?_⟩))
    go_ret
    exact ⟨by first | rfl | (simp; done) | (simp [*]; done), by repeat (first | exact Drawn0.refl _ | apply Drawn0.step)⟩
  · replace c2 := Bool.eq_false_iff.mpr c2
    subst c2
    have H1 : ((mark_Next.f false 10 10 4).bind fun t103 => (if t103 = true then ((mark_Next.f true 5 10 4).bind fun t104 => (if t104 = true then ((mark_Next.f true 4 10 4).bind fun t105 => (if t105 = true then (some false) else ((mark_Room.f false 9 10 4).bind fun t106 => (some t106)))) else (some false))) else (some false))) = some r := by rw [if_neg (show ¬ (false = true) by decide)] at H; exact H
    clear H
    have H := H1
    clear H1
    replace H := Option.bind_eq_some_iff.mp H
    obtain ⟨t103, A30, H⟩ := H
    replace H : (if t103 = true then ((mark_Next.f true 5 10 4).bind fun t104 => (if t104 = true then ((mark_Next.f true 4 10 4).bind fun t105 => (if t105 = true then (some false) else ((mark_Room.f false 9 10 4).bind fun t106 => (some t106)))) else (some false))) else (some false)) = some r := H
    have A3 := Aside0.mk A30
    clear A30
    by_cases c4 : t103 = true
    · subst c4
      have H1 : ((mark_Next.f true 5 10 4).bind fun t104 => (if t104 = true then ((mark_Next.f true 4 10 4).bind fun t105 => (if t105 = true then (some false) else ((mark_Room.f false 9 10 4).bind fun t106 => (some t106)))) else (some false))) = some r := by rw [if_pos rfl] at H; exact H
      clear H
      have H := H1
      clear H1
      replace H := Option.bind_eq_some_iff.mp H
      obtain ⟨t104, A50, H⟩ := H
      replace H : (if t104 = true then ((mark_Next.f true 4 10 4).bind fun t105 => (if t105 = true then (some false) else ((mark_Room.f false 9 10 4).bind fun t106 => (some t106)))) else (some false)) = some r := H
      have A5 := Aside0.mk A50
      clear A50
      by_cases c6 : t104 = true
      · subst c6
        have H1 : ((mark_Next.f true 4 10 4).bind fun t105 => (if t105 = true then (some false) else ((mark_Room.f false 9 10 4).bind fun t106 => (some t106)))) = some r := by rw [if_pos rfl] at H; exact H
        clear H
        have H := H1
        clear H1
        replace H := Option.bind_eq_some_iff.mp H
        obtain ⟨t105, A70, H⟩ := H
        replace H : (if t105 = true then (some false) else ((mark_Room.f false 9 10 4).bind fun t106 => (some t106))) = some r := H
        have A7 := Aside0.mk A70
        clear A70
        by_cases c8 : t105 = true
        · subst c8
          have H1 : (some false) = some r := by rw [if_pos rfl] at H; exact H
          clear H
          have H := H1
          clear H1
          obtain rfl := Option.some.inj H
          go_enter Try.func8, Try.ntmps8
          go_wp2_with (first | ((with_reducible refine gate_callee (f := 9) rfl ?_); refine goesL_ (some 1) rfl rfl Try.func9 (by kernel_rfl) rfl #[.bool false, .int .i64 9, .int .i64 10, .int .i64 4] rfl (by (try simp only [List.map_toArray, List.map_cons, List.map_nil]); first | done | rfl | (simp only [List.length_drop, List.length_take]; rfl)) ?_; (with_reducible refine (mark_Next.calls false 9 10 4 false _ A1.out).mono ?_); rintro e w' ⟨rfl, ⟨nd, rfl⟩⟩; refine ⟨_, rfl, ?_⟩) | (go_at_call 9; (with_reducible refine (mark_Next.calls false 10 10 4 true _ A3.out).mono ?_); rintro e w' ⟨rfl, ⟨nd, rfl⟩⟩) | (go_at_call 9; (with_reducible refine (mark_Next.calls true 5 10 4 true _ A5.out).mono ?_); rintro e w' ⟨rfl, ⟨nd, rfl⟩⟩) | (go_at_call 9; (with_reducible refine (mark_Next.calls true 4 10 4 true _ A7.out).mono ?_); rintro e w' ⟨rfl, ⟨nd, rfl⟩⟩))
          go_ret
          exact ⟨by first | rfl | (simp; done) | (simp [*]; done), by repeat (first | exact Drawn0.refl _ | apply Drawn0.step)⟩
        · replace c8 := Bool.eq_false_iff.mpr c8
          subst c8
          have H1 : ((mark_Room.f false 9 10 4).bind fun t106 => (some t106)) = some r := by rw [if_neg (show ¬ (false = true) by decide)] at H; exact H
          clear H
          have H := H1
          clear H1
          replace H := Option.bind_eq_some_iff.mp H
          obtain ⟨t106, A90, H⟩ := H
          replace H : (some t106) = some r := H
          have A9 := Aside0.mk A90
          clear A90
          obtain rfl := Option.some.inj H
          go_enter Try.func8, Try.ntmps8
          go_wp2_with (first | ((with_reducible refine gate_callee (f := 9) rfl ?_); refine goesL_ (some 1) rfl rfl Try.func9 (by kernel_rfl) rfl #[.bool false, .int .i64 9, .int .i64 10, .int .i64 4] rfl (by (try simp only [List.map_toArray, List.map_cons, List.map_nil]); first | done | rfl | (simp only [List.length_drop, List.length_take]; rfl)) ?_; (with_reducible refine (mark_Next.calls false 9 10 4 false _ A1.out).mono ?_); rintro e w' ⟨rfl, ⟨nd, rfl⟩⟩; refine ⟨_, rfl, ?_⟩) | (go_at_call 9; (with_reducible refine (mark_Next.calls false 10 10 4 true _ A3.out).mono ?_); rintro e w' ⟨rfl, ⟨nd, rfl⟩⟩) | (go_at_call 9; (with_reducible refine (mark_Next.calls true 5 10 4 true _ A5.out).mono ?_); rintro e w' ⟨rfl, ⟨nd, rfl⟩⟩) | (go_at_call 9; (with_reducible refine (mark_Next.calls true 4 10 4 false _ A7.out).mono ?_); rintro e w' ⟨rfl, ⟨nd, rfl⟩⟩) | (go_at_call 10; (with_reducible refine (mark_Room.calls false 9 10 4 t106 _ A9.out).mono ?_); rintro e w' ⟨rfl, ⟨nd, rfl⟩⟩))
          go_ret
          exact ⟨by first | rfl | (simp; done) | (simp [*]; done), by repeat (first | exact Drawn0.refl _ | apply Drawn0.step)⟩
      · replace c6 := Bool.eq_false_iff.mpr c6
        subst c6
        have H1 : (some false) = some r := by rw [if_neg (show ¬ (false = true) by decide)] at H; exact H
        clear H
        have H := H1
        clear H1
        obtain rfl := Option.some.inj H
        go_enter Try.func8, Try.ntmps8
        go_wp2_with (first | ((with_reducible refine gate_callee (f := 9) rfl ?_); refine goesL_ (some 1) rfl rfl Try.func9 (by kernel_rfl) rfl #[.bool false, .int .i64 9, .int .i64 10, .int .i64 4] rfl (by (try simp only [List.map_toArray, List.map_cons, List.map_nil]); first | done | rfl | (simp only [List.length_drop, List.length_take]; rfl)) ?_; (with_reducible refine (mark_Next.calls false 9 10 4 false _ A1.out).mono ?_); rintro e w' ⟨rfl, ⟨nd, rfl⟩⟩; refine ⟨_, rfl, ?_⟩) | (go_at_call 9; (with_reducible refine (mark_Next.calls false 10 10 4 true _ A3.out).mono ?_); rintro e w' ⟨rfl, ⟨nd, rfl⟩⟩) | (go_at_call 9; (with_reducible refine (mark_Next.calls true 5 10 4 false _ A5.out).mono ?_); rintro e w' ⟨rfl, ⟨nd, rfl⟩⟩))
        go_ret
        exact ⟨by first | rfl | (simp; done) | (simp [*]; done), by repeat (first | exact Drawn0.refl _ | apply Drawn0.step)⟩
    · replace c4 := Bool.eq_false_iff.mpr c4
      subst c4
      have H1 : (some false) = some r := by rw [if_neg (show ¬ (false = true) by decide)] at H; exact H
      clear H
      have H := H1
      clear H1
      obtain rfl := Option.some.inj H
      go_enter Try.func8, Try.ntmps8
      go_wp2_with (first | ((with_reducible refine gate_callee (f := 9) rfl ?_); refine goesL_ (some 1) rfl rfl Try.func9 (by kernel_rfl) rfl #[.bool false, .int .i64 9, .int .i64 10, .int .i64 4] rfl (by (try simp only [List.map_toArray, List.map_cons, List.map_nil]); first | done | rfl | (simp only [List.length_drop, List.length_take]; rfl)) ?_; (with_reducible refine (mark_Next.calls false 9 10 4 false _ A1.out).mono ?_); rintro e w' ⟨rfl, ⟨nd, rfl⟩⟩; refine ⟨_, rfl, ?_⟩) | (go_at_call 9; (with_reducible refine (mark_Next.calls false 10 10 4 false _ A3.out).mono ?_); rintro e w' ⟨rfl, ⟨nd, rfl⟩⟩))
      go_ret
      exact ⟨by first | rfl | (simp; done) | (simp [*]; done), by repeat (first | exact Drawn0.refl _ | apply Drawn0.step)⟩

/-! ### lockgateref13_Busy: function 11 -/
def lockgateref13_Busy.l0 : Nat → List Int → Int → Int → Int → Option (Bool)
  | 0, _, _, _, _ => none
  | k + 1, x0, x1, x2, x7 => if x7 ≥ 0 then (if 0 ≤ x7 then (if x7 < (x0.length : Int) then (if (rd x0 x7) ≥ x1 then (some true) else (if (rd x0 x7) ≤ x2 then (some false) else (lockgateref13_Busy.l0 k x0 x1 x2 (wrap64 (x7 - 1))))) else (none)) else (none)) else (some false)
def lockgateref13_Busy.f (k : Nat) (l0 : List Int) (a1 : Int) (a2 : Int) : Option (Bool) := lockgateref13_Busy.l0 k l0 a1 a2 (wrap64 ((l0.length : Int) - 1))
theorem lockgateref13_Busy.mono_l : ∀ k, (∀ y0 y1 y2 y3, LeO (lockgateref13_Busy.l0 k y0 y1 y2 y3) (lockgateref13_Busy.l0 (k + 1) y0 y1 y2 y3))
  | 0 => fun _ _ _ _ r h => by simp [lockgateref13_Busy.l0] at h
  | k + 1 => by
    have ih0 := lockgateref13_Busy.mono_l k
    · intro y0 y1 y2 y3
      unfold lockgateref13_Busy.l0
      repeat' first
      | (with_reducible exact ih0 _ _ _ _)
      | (with_reducible exact LeO.refl _)
      | (with_reducible exact LeO.none _)
      | (with_reducible refine LeO.ite ?_ ?_)
      | (with_reducible refine LeO.bind ?_ (fun _ => ?_))
      | exact ih0 _ _ _ _
      | exact LeO.none _
      | refine LeO.ite ?_ ?_
      | refine LeO.bind ?_ (fun _ => ?_)
theorem lockgateref13_Busy.mono : ∀ a0 a1 a2 k, LeO (lockgateref13_Busy.f k a0 a1 a2) (lockgateref13_Busy.f (k + 1) a0 a1 a2) := by
  intro a0 a1 a2 k
  have ih0 := lockgateref13_Busy.mono_l k
  unfold lockgateref13_Busy.f
  repeat' first
      | (with_reducible exact ih0 _ _ _ _)
      | (with_reducible exact LeO.refl _)
      | (with_reducible exact LeO.none _)
      | (with_reducible refine LeO.ite ?_ ?_)
      | (with_reducible refine LeO.bind ?_ (fun _ => ?_))
      | exact ih0 _ _ _ _
      | exact LeO.none _
      | refine LeO.ite ?_ ?_
      | refine LeO.bind ?_ (fun _ => ?_)
set_option maxHeartbeats 8000000 in
set_option maxRecDepth 100000 in
theorem lockgateref13_Busy.calls (k : Nat) (A0 : Option Addr) (c0 : Nat) (l0 : List Int) (a1 : Int) (a2 : Int) (r : Bool) (w : World) (hr0 : Kd.C (Kd.int .i64) w A0 l0.length l0) (hc0 : l0.length ≤ c0) (h : lockgateref13_Busy.f k l0 a1 a2 = some r) :
    Calls Try.prog 11 #[.slice A0 l0.length c0, .int .i64 a1, .int .i64 a2] w fun e w' => e = .returned (.bool r) ∧ Drawn0 w w' := by
  have HR0 := Aside0.mk hr0
  have HC0 := Aside0.mk hc0
  clear hr0 hc0
  have H : (lockgateref13_Busy.l0 k l0 a1 a2 (wrap64 ((l0.length : Int) - 1))) = some r := h
  clear h
  have H' := Aside0.mk H
  clear H
  go_enter Try.func11, Try.ntmps11
  go_wp2
  go_loopg [7] k (fun kq v7 w' => ∃ (x7_1 : Int), v7 = .int .i64 x7_1 ∧ Aside0 (lockgateref13_Busy.l0 kq l0 a1 a2 x7_1 = some r) ∧ Aside0 (kq ≤ k) ∧ Drawn0 w w')
  case atStart => exact ⟨(wrap64 ((l0.length : Int) - 1)), (by first | rfl | (simp; done) | (simp [*]; done)), H', ⟨Nat.le_refl _⟩, by repeat (first | exact Drawn0.refl _ | apply Drawn0.step)⟩
  case round =>
    clear H'
    try clear c1
    try clear p2
    obtain ⟨x7_1, rfl, HA, HK1, ⟨m1, rfl⟩⟩ := hrel
    cases gk with
    | zero => exact absurd HA.out (by simp [lockgateref13_Busy.l0])
    | succ k1 =>
      have H := HA.out
      clear HA
      simp only [lockgateref13_Busy.l0] at H
      by_cases c4 : x7_1 ≥ 0
      · rw [if_pos c4] at H
        have c4b0 : decide (0 ≤ x7_1) = true := decide_eq_true c4
        clear c4
        by_cases c5 : 0 ≤ x7_1
        · rw [if_pos c5] at H
          have c5b0 : decide (0 ≤ x7_1) = true := decide_eq_true c5
          clear c5
          by_cases c6 : x7_1 < (l0.length : Int)
          · rw [if_pos c6] at H
            have c6b0 : decide (x7_1 < (l0.length : Int)) = true := decide_eq_true c6
            clear c6
            by_cases c7 : (rd l0 x7_1) ≥ a1
            · rw [if_pos c7] at H
              have c7b0 : decide (a1 ≤ (rd l0 x7_1)) = true := decide_eq_true c7
              clear c7
              obtain rfl := Option.some.inj H
              have p107 : 0 ≤ (x7_1 : Int) := of_decide_eq_true (by first | (with_reducible assumption) | assumption)
              have q107 : x7_1 < (l0.length : Int) := of_decide_eq_true (by first | (with_reducible assumption) | assumption)
              obtain ⟨ad107, e107, hx107_0⟩ := Kd.at_int HR0.out x7_1 p107 q107
              cases e107
              replace p107 := eq_true p107
              replace q107 := eq_true q107
              go_wp2
              go_ret
              exact ⟨by first | rfl | (simp; done) | (simp [*]; done), by repeat (first | exact Drawn0.refl _ | apply Drawn0.step)⟩
            · rw [if_neg c7] at H
              have c7b0 : decide (a1 ≤ (rd l0 x7_1)) = false := decide_eq_false c7
              clear c7
              by_cases c8 : (rd l0 x7_1) ≤ a2
              · rw [if_pos c8] at H
                have c8b0 : decide ((rd l0 x7_1) ≤ a2) = true := decide_eq_true c8
                clear c8
                obtain rfl := Option.some.inj H
                have p107 : 0 ≤ (x7_1 : Int) := of_decide_eq_true (by first | (with_reducible assumption) | assumption)
                have q107 : x7_1 < (l0.length : Int) := of_decide_eq_true (by first | (with_reducible assumption) | assumption)
                obtain ⟨ad107, e107, hx107_0⟩ := Kd.at_int HR0.out x7_1 p107 q107
                cases e107
                replace p107 := eq_true p107
                replace q107 := eq_true q107
                have p108 : 0 ≤ (x7_1 : Int) := of_decide_eq_true (by first | (with_reducible assumption) | assumption)
                have q108 : x7_1 < (l0.length : Int) := of_decide_eq_true (by first | (with_reducible assumption) | assumption)
                obtain ⟨ad108, e108, hx108_0⟩ := Kd.at_int HR0.out x7_1 p108 q108
                obtain rfl : ad107 = ad108 := (by injection e108)
                replace p108 := eq_true p108
                replace q108 := eq_true q108
                go_wp2
                go_ret
                exact ⟨by first | rfl | (simp; done) | (simp [*]; done), by repeat (first | exact Drawn0.refl _ | apply Drawn0.step)⟩
              · rw [if_neg c8] at H
                have c8b0 : decide ((rd l0 x7_1) ≤ a2) = false := decide_eq_false c8
                clear c8
                have H' := Aside0.mk H
                clear H
                have p107 : 0 ≤ (x7_1 : Int) := of_decide_eq_true (by first | (with_reducible assumption) | assumption)
                have q107 : x7_1 < (l0.length : Int) := of_decide_eq_true (by first | (with_reducible assumption) | assumption)
                obtain ⟨ad107, e107, hx107_0⟩ := Kd.at_int HR0.out x7_1 p107 q107
                cases e107
                replace p107 := eq_true p107
                replace q107 := eq_true q107
                have p108 : 0 ≤ (x7_1 : Int) := of_decide_eq_true (by first | (with_reducible assumption) | assumption)
                have q108 : x7_1 < (l0.length : Int) := of_decide_eq_true (by first | (with_reducible assumption) | assumption)
                obtain ⟨ad108, e108, hx108_0⟩ := Kd.at_int HR0.out x7_1 p108 q108
                obtain rfl : ad107 = ad108 := (by injection e108)
                replace p108 := eq_true p108
                replace q108 := eq_true q108
                go_wp2
                go_roundg k1
                case measure => have := HK1.out; omega
                case rel => exact ⟨(wrap64 (x7_1 - 1)), (by first | rfl | (simp; done) | (simp [*]; done)), H', ⟨by have := HK1.out; omega⟩, by repeat (first | exact Drawn0.refl _ | apply Drawn0.step)⟩
          · rw [if_neg c6] at H
            exact absurd H (by simp)
        · rw [if_neg c5] at H
          exact absurd H (by simp)
      · rw [if_neg c4] at H
        have c4b0 : decide (0 ≤ x7_1) = false := decide_eq_false c4
        clear c4
        obtain rfl := Option.some.inj H
        go_wp2
        go_ret
        exact ⟨by first | rfl | (simp; done) | (simp [*]; done), by repeat (first | exact Drawn0.refl _ | apply Drawn0.step)⟩

/-! ### lockgatelaw13_MarkOnce: function 4 -/
mutual
def lockgatelaw13_MarkOnce.j0 : Nat → List Int → Int → Int → Bool → Option (Bool)
  | 0, _, _, _, _ => none
  | k + 1, x0, x1, x2, x16 => if x16 = true then ((lockgatelaw13_awake.f).bind fun t109 => (some t109)) else (lockgatelaw13_MarkOnce.l0 k x0 x1 x2 false 0)
def lockgatelaw13_MarkOnce.l0 : Nat → List Int → Int → Int → Bool → Int → Option (Bool)
  | 0, _, _, _, _, _ => none
  | k + 1, x0, x1, x2, x7, x8 => if x8 < (x0.length : Int) then (if 0 ≤ x8 then ((mark_Next.f x7 (rd x0 x8) x1 x2).bind fun t112 => (if 0 ≤ (wrap64 (x8 + 1)) then (if (wrap64 (x8 + 1)) ≤ (x0.length : Int) then ((lockgateref13_Busy.f k (x0.take ((wrap64 (x8 + 1)) : Int).toNat) x1 x2).bind fun t114 => (if (t112 != t114) = true then (some false) else (lockgatelaw13_MarkOnce.l0 k x0 x1 x2 t112 (wrap64 (x8 + 1))))) else (none)) else (none))) else (none)) else ((lockgatelaw13_awake.f).bind fun t110 => (some t110))
end
def lockgatelaw13_MarkOnce.f (k : Nat) (l0 : List Int) (a1 : Int) (a2 : Int) : Option (Bool) := if a2 > a1 then (lockgatelaw13_MarkOnce.j0 k l0 a1 a2 true) else (lockgatelaw13_MarkOnce.j0 k l0 a1 a2 (decide ((l0.length : Int) > 200)))
theorem lockgatelaw13_MarkOnce.mono_l : ∀ k, (∀ y0 y1 y2 y3, LeO (lockgatelaw13_MarkOnce.j0 k y0 y1 y2 y3) (lockgatelaw13_MarkOnce.j0 (k + 1) y0 y1 y2 y3)) ∧ (∀ y0 y1 y2 y3 y4, LeO (lockgatelaw13_MarkOnce.l0 k y0 y1 y2 y3 y4) (lockgatelaw13_MarkOnce.l0 (k + 1) y0 y1 y2 y3 y4))
  | 0 => ⟨fun _ _ _ _ r h => by simp [lockgatelaw13_MarkOnce.j0] at h, fun _ _ _ _ _ r h => by simp [lockgatelaw13_MarkOnce.l0] at h⟩
  | k + 1 => by
    obtain ⟨ih0, ih1⟩ := lockgatelaw13_MarkOnce.mono_l k
    refine ⟨?_, ?_⟩
    · intro y0 y1 y2 y3
      unfold lockgatelaw13_MarkOnce.j0
      repeat' first
      | (with_reducible exact ih0 _ _ _ _)
      | (with_reducible exact ih1 _ _ _ _ _)
      | (with_reducible exact lockgateref13_Busy.mono _ _ _ _)
      | (with_reducible exact LeO.refl _)
      | (with_reducible exact LeO.none _)
      | (with_reducible refine LeO.ite ?_ ?_)
      | (with_reducible refine LeO.bind ?_ (fun _ => ?_))
      | exact ih0 _ _ _ _
      | exact ih1 _ _ _ _ _
      | exact lockgateref13_Busy.mono _ _ _ _
      | exact LeO.none _
      | refine LeO.ite ?_ ?_
      | refine LeO.bind ?_ (fun _ => ?_)
    · intro y0 y1 y2 y3 y4
      unfold lockgatelaw13_MarkOnce.l0
      repeat' first
      | (with_reducible exact ih0 _ _ _ _)
      | (with_reducible exact ih1 _ _ _ _ _)
      | (with_reducible exact lockgateref13_Busy.mono _ _ _ _)
      | (with_reducible exact LeO.refl _)
      | (with_reducible exact LeO.none _)
      | (with_reducible refine LeO.ite ?_ ?_)
      | (with_reducible refine LeO.bind ?_ (fun _ => ?_))
      | exact ih0 _ _ _ _
      | exact ih1 _ _ _ _ _
      | exact lockgateref13_Busy.mono _ _ _ _
      | exact LeO.none _
      | refine LeO.ite ?_ ?_
      | refine LeO.bind ?_ (fun _ => ?_)
theorem lockgatelaw13_MarkOnce.mono : ∀ a0 a1 a2 k, LeO (lockgatelaw13_MarkOnce.f k a0 a1 a2) (lockgatelaw13_MarkOnce.f (k + 1) a0 a1 a2) := by
  intro a0 a1 a2 k
  obtain ⟨ih0, ih1⟩ := lockgatelaw13_MarkOnce.mono_l k
  unfold lockgatelaw13_MarkOnce.f
  repeat' first
      | (with_reducible exact ih0 _ _ _ _)
      | (with_reducible exact ih1 _ _ _ _ _)
      | (with_reducible exact lockgateref13_Busy.mono _ _ _ _)
      | (with_reducible exact LeO.refl _)
      | (with_reducible exact LeO.none _)
      | (with_reducible refine LeO.ite ?_ ?_)
      | (with_reducible refine LeO.bind ?_ (fun _ => ?_))
      | exact ih0 _ _ _ _
      | exact ih1 _ _ _ _ _
      | exact lockgateref13_Busy.mono _ _ _ _
      | exact LeO.none _
      | refine LeO.ite ?_ ?_
      | refine LeO.bind ?_ (fun _ => ?_)
set_option maxHeartbeats 8000000 in
set_option maxRecDepth 100000 in
theorem lockgatelaw13_MarkOnce.calls (k : Nat) (A0 : Option Addr) (c0 : Nat) (l0 : List Int) (a1 : Int) (a2 : Int) (r : Bool) (w : World) (hr0 : Kd.C (Kd.int .i64) w A0 l0.length l0) (hc0 : l0.length ≤ c0) (h : lockgatelaw13_MarkOnce.f k l0 a1 a2 = some r) :
    Calls Try.prog 4 #[.slice A0 l0.length c0, .int .i64 a1, .int .i64 a2] w fun e w' => e = .returned (.bool r) ∧ Drawn0 w w' := by
  have HR0 := Aside0.mk hr0
  have HC0 := Aside0.mk hc0
  clear hr0 hc0
  have H : (if a2 > a1 then (lockgatelaw13_MarkOnce.j0 k l0 a1 a2 true) else (lockgatelaw13_MarkOnce.j0 k l0 a1 a2 (decide ((l0.length : Int) > 200)))) = some r := h
  clear h
  have HC4 := Aside0.mk H
  clear H
  go_enter Try.func4, Try.ntmps4
  go_upto_region 1 with (fail)
  go_cut [16] (fun v16 wc => ∃ (kq : Nat) (x16_3 : Bool), v16 = .bool x16_3 ∧ Aside0 (lockgatelaw13_MarkOnce.j0 kq l0 a1 a2 x16_3 = some r) ∧ Aside0 (kq ≤ k) ∧ Drawn0 w wc)
  case first =>
    have H := HC4.out
    clear HC4
    by_cases c5 : a2 > a1
    · rw [if_pos c5] at H
      have c5b0 : decide (a1 < a2) = true := decide_eq_true c5
      clear c5
      (first | rw [c5b0] | (simp only [i64_w, i32_w]; rw [c5b0]) | skip)
      have H' := Aside0.mk H
      clear H
      go_wp2
      go_meet
      case rel => exact ⟨_, (true), (by first | rfl | (simp; done) | (simp [*]; done)), H', ⟨by first | omega | exact Nat.le_refl _⟩, by repeat (first | exact Drawn0.refl _ | apply Drawn0.step)⟩
    · rw [if_neg c5] at H
      have c5b0 : decide (a1 < a2) = false := decide_eq_false c5
      clear c5
      (first | rw [c5b0] | (simp only [i64_w, i32_w]; rw [c5b0]) | skip)
      have H' := Aside0.mk H
      clear H
      go_wp2
      go_meet
      case rel => exact ⟨_, (decide ((l0.length : Int) > 200)), (by first | rfl | (simp; done) | (simp [*]; done)), H', ⟨by first | omega | exact Nat.le_refl _⟩, by repeat (first | exact Drawn0.refl _ | apply Drawn0.step)⟩
  case rest =>
    clear HC4
    try clear p2
    try clear c4
    try clear c5
    try clear c5b0
    obtain ⟨kq, x16_3, rfl, HA, HJ3, ⟨mc3, rfl⟩⟩ := hcut
    cases kq with
    | zero => exact absurd HA.out (by simp [lockgatelaw13_MarkOnce.j0])
    | succ kj3 =>
      have H := HA.out
      clear HA
      simp only [lockgatelaw13_MarkOnce.j0] at H
      by_cases c6 : x16_3 = true
      · subst c6
        have H1 : ((lockgatelaw13_awake.f).bind fun t109 => (some t109)) = some r := by rw [if_pos rfl] at H; exact H
        clear H
        have H := H1
        clear H1
        replace H := Option.bind_eq_some_iff.mp H
        obtain ⟨t109, A70, H⟩ := H
        replace H : (some t109) = some r := H
        have A7 := Aside0.mk A70
        clear A70
        obtain rfl := Option.some.inj H
        go_wp2_with (first | ((with_reducible refine gate_callee (f := 8) rfl ?_); refine goesL_ (some 17) rfl rfl Try.func8 (by kernel_rfl) rfl #[] rfl (by (try simp only [List.map_toArray, List.map_cons, List.map_nil]); first | done | rfl | (simp only [List.length_drop, List.length_take]; rfl)) ?_; (with_reducible refine (lockgatelaw13_awake.calls  t109 _ A7.out).mono ?_); rintro e w' ⟨rfl, ⟨nd, rfl⟩⟩; refine ⟨_, rfl, ?_⟩))
        go_ret
        exact ⟨by first | rfl | (simp; done) | (simp [*]; done), by repeat (first | exact Drawn0.refl _ | apply Drawn0.step)⟩
      · replace c6 := Bool.eq_false_iff.mpr c6
        subst c6
        have H1 : (lockgatelaw13_MarkOnce.l0 kj3 l0 a1 a2 false 0) = some r := by rw [if_neg (show ¬ (false = true) by decide)] at H; exact H
        clear H
        have H := H1
        clear H1
        have H' := Aside0.mk H
        clear H
        go_wp2
        go_loopg [7, 8] kj3 (fun kq v7 v8 w' => ∃ (x7_2 : Bool) (x8_2 : Int), v7 = .bool x7_2 ∧ v8 = .int .i64 x8_2 ∧ Aside0 (lockgatelaw13_MarkOnce.l0 kq l0 a1 a2 x7_2 x8_2 = some r) ∧ Aside0 (kq ≤ kj3) ∧ Drawn0 w w')
        case atStart => exact ⟨(false), (0), (by first | rfl | (simp; done) | (simp [*]; done)), (by first | rfl | (simp; done) | (simp [*]; done)), H', ⟨Nat.le_refl _⟩, by repeat (first | exact Drawn0.refl _ | apply Drawn0.step)⟩
        case round =>
          clear H'
          try clear p2
          try clear c3
          try clear c4
          try clear c5
          try clear c5b0
          try clear c6
          try clear p2
          obtain ⟨x7_2, x8_2, rfl, rfl, HA, HK2, ⟨m2, rfl⟩⟩ := hrel
          cases gk with
          | zero => exact absurd HA.out (by simp [lockgatelaw13_MarkOnce.l0])
          | succ k2 =>
            have H := HA.out
            clear HA
            simp only [lockgatelaw13_MarkOnce.l0] at H
            by_cases c8 : x8_2 < (l0.length : Int)
            · rw [if_pos c8] at H
              have c8b0 : decide (x8_2 < (l0.length : Int)) = true := decide_eq_true c8
              clear c8
              by_cases c9 : 0 ≤ x8_2
              · rw [if_pos c9] at H
                have c9b0 : decide (0 ≤ x8_2) = true := decide_eq_true c9
                clear c9
                replace H := Option.bind_eq_some_iff.mp H
                obtain ⟨t112, A100, H⟩ := H
                replace H : (if 0 ≤ (wrap64 (x8_2 + 1)) then (if (wrap64 (x8_2 + 1)) ≤ (l0.length : Int) then ((lockgateref13_Busy.f k2 (l0.take ((wrap64 (x8_2 + 1)) : Int).toNat) a1 a2).bind fun t114 => (if (t112 != t114) = true then (some false) else (lockgatelaw13_MarkOnce.l0 k2 l0 a1 a2 t112 (wrap64 (x8_2 + 1))))) else (none)) else (none)) = some r := H
                have A10 := Aside0.mk A100
                clear A100
                obtain ⟨ji11, hji11⟩ : ∃ j_ : Int, (wrap64 (x8_2 + 1)) = j_ := ⟨_, rfl⟩
                replace H : (if 0 ≤ (ji11) then (if (ji11) ≤ (l0.length : Int) then ((lockgateref13_Busy.f k2 (l0.take ((ji11) : Int).toNat) a1 a2).bind fun t114 => (if (t112 != t114) = true then (some false) else (lockgatelaw13_MarkOnce.l0 k2 l0 a1 a2 t112 ji11))) else (none)) else (none)) = some r := by first | (rw [hji11] at H; exact H) | (simp only [hji11] at H ⊢; exact H)
                (try rw [hji11] at A10)
                have hji11w : (IntKind.i64.wrap (x8_2 + 1)) = ji11 := (i64_w _).trans hji11
                by_cases c12 : 0 ≤ (ji11)
                · rw [if_pos c12] at H
                  have c12b0 := eq_true c12
                  have c12b1 : decide (0 ≤ (ji11)) = true := decide_eq_true c12
                  clear c12
                  by_cases c13 : (ji11) ≤ (l0.length : Int)
                  · rw [if_pos c13] at H
                    have c13b0 := eq_true c13
                    have c13b1 : decide ((ji11) ≤ (l0.length : Int)) = true := decide_eq_true c13
                    clear c13
                    replace H := Option.bind_eq_some_iff.mp H
                    obtain ⟨t114, A140, H⟩ := H
                    replace H : (if (t112 != t114) = true then (some false) else (lockgatelaw13_MarkOnce.l0 k2 l0 a1 a2 t112 ji11)) = some r := H
                    have A14 := Aside0.mk A140
                    clear A140
                    by_cases c15 : (t112 != t114) = true
                    · rw [if_pos c15] at H
                      have c15b0 : (t112 != t114) = true := c15
                      (try (have c15b1 : decide (t112 = t114) = false := by simpa using c15))
                      (try (have c15b2 : (t112 == t114) = false := by simpa using c15))
                      (try (have c15b3 : ¬ (t112 = t114) := by simpa using c15))
                      clear c15
                      obtain rfl := Option.some.inj H
                      have p111 : 0 ≤ (x8_2 : Int) := of_decide_eq_true (by first | (with_reducible assumption) | assumption)
                      have q111 : x8_2 < (l0.length : Int) := of_decide_eq_true (by first | (with_reducible assumption) | assumption)
                      obtain ⟨ad111, e111, hx111_0⟩ := Kd.at_int HR0.out x8_2 p111 q111
                      cases e111
                      replace p111 := eq_true p111
                      replace q111 := eq_true q111
                      go_wp2_with (first | ((with_reducible refine gate_callee (f := 9) rfl ?_); refine goesL_ (some 31) rfl rfl Try.func9 (by kernel_rfl) rfl #[.bool x7_2, .int .i64 (rd l0 x8_2), .int .i64 a1, .int .i64 a2] rfl (by (try simp only [List.map_toArray, List.map_cons, List.map_nil]); first | done | rfl | (simp only [List.length_drop, List.length_take]; rfl)) ?_; (with_reducible refine (mark_Next.calls x7_2 (rd l0 x8_2) a1 a2 t112 _ A10.out).mono ?_); rintro e w' ⟨rfl, ⟨nd, rfl⟩⟩; refine ⟨_, rfl, ?_⟩; obtain ⟨i016, hi016, _, hsz16, _⟩ := info_parts info3; obtain ⟨hcut16, hA16, hC16⟩ := print_take_of (P := Try.prog) (Value.int .i64) 0 24 3 .i64 Try.underlying24 hi016 hsz16 (some ad111) c0 l0 (ji11) (of_decide_eq_true (by first | (with_reducible assumption) | assumption)) (of_decide_eq_true (by first | (with_reducible assumption) | assumption)) HC0.out; have HR113 := Aside0.mk (Kd.C_of_reads (h1 := fun _ => rfl) (hA16 _ (Kd.reads_of_C HR0.out))); have HC113 := Aside0.mk hC16; clear hA16 hC16 hi016 hsz16) | ((with_reducible refine gate_callee (f := 11) rfl ?_); refine goesL_ (some 39) rfl rfl Try.func11 (by kernel_rfl) rfl #[.slice (some ad111) (l0.take ((ji11) : Int).toNat).length c0, .int .i64 a1, .int .i64 a2] rfl (by (try simp only [List.map_toArray, List.map_cons, List.map_nil]); first | done | (rw [show (l0.take ((ji11) : Int).toNat).length = (ji11).toNat from (by rw [List.length_take]; have h_ : ((ji11) : Int) ≤ (l0.length : Int) := of_decide_eq_true (by first | (with_reducible assumption) | assumption); omega)] <;> rfl) | (simp only [hji11]; rfl) | rfl | (simp only [List.length_drop, List.length_take]; rfl)) ?_; (with_reducible refine (lockgateref13_Busy.calls k2 _ _ (l0.take ((ji11) : Int).toNat) a1 a2 t114 _ ?side1 ?side2 A14.out).mono ?_); (case side1 => repeat (first | exact HR113.out | (with_reducible refine Kd.C_alloc ?_ _) | (with_reducible refine Kd.C_drewN ?_ _) | (with_reducible refine Kd.C_drew ?_))); (case side2 => exact HC113.out); rintro e w' ⟨rfl, ⟨nd, rfl⟩⟩; refine ⟨_, rfl, ?_⟩))
                      go_ret
                      exact ⟨by first | rfl | (simp; done) | (simp only [← hji11] <;> (first | rfl | simp)) | (simp [*]; done), by repeat (first | exact Drawn0.refl _ | apply Drawn0.step)⟩
                    · rw [if_neg c15] at H
                      have c15b0 : (t112 != t114) = false := by simpa using c15
                      (try (have c15b1 : decide (t112 = t114) = true := by simpa using c15))
                      (try (have c15b2 : (t112 == t114) = true := by simpa using c15))
                      clear c15
                      have H' := Aside0.mk H
                      clear H
                      have p111 : 0 ≤ (x8_2 : Int) := of_decide_eq_true (by first | (with_reducible assumption) | assumption)
                      have q111 : x8_2 < (l0.length : Int) := of_decide_eq_true (by first | (with_reducible assumption) | assumption)
                      obtain ⟨ad111, e111, hx111_0⟩ := Kd.at_int HR0.out x8_2 p111 q111
                      cases e111
                      replace p111 := eq_true p111
                      replace q111 := eq_true q111
                      go_wp2_with (first | ((with_reducible refine gate_callee (f := 9) rfl ?_); refine goesL_ (some 31) rfl rfl Try.func9 (by kernel_rfl) rfl #[.bool x7_2, .int .i64 (rd l0 x8_2), .int .i64 a1, .int .i64 a2] rfl (by (try simp only [List.map_toArray, List.map_cons, List.map_nil]); first | done | rfl | (simp only [List.length_drop, List.length_take]; rfl)) ?_; (with_reducible refine (mark_Next.calls x7_2 (rd l0 x8_2) a1 a2 t112 _ A10.out).mono ?_); rintro e w' ⟨rfl, ⟨nd, rfl⟩⟩; refine ⟨_, rfl, ?_⟩; obtain ⟨i017, hi017, _, hsz17, _⟩ := info_parts info3; obtain ⟨hcut17, hA17, hC17⟩ := print_take_of (P := Try.prog) (Value.int .i64) 0 24 3 .i64 Try.underlying24 hi017 hsz17 (some ad111) c0 l0 (ji11) (of_decide_eq_true (by first | (with_reducible assumption) | assumption)) (of_decide_eq_true (by first | (with_reducible assumption) | assumption)) HC0.out; have HR113 := Aside0.mk (Kd.C_of_reads (h1 := fun _ => rfl) (hA17 _ (Kd.reads_of_C HR0.out))); have HC113 := Aside0.mk hC17; clear hA17 hC17 hi017 hsz17) | ((with_reducible refine gate_callee (f := 11) rfl ?_); refine goesL_ (some 39) rfl rfl Try.func11 (by kernel_rfl) rfl #[.slice (some ad111) (l0.take ((ji11) : Int).toNat).length c0, .int .i64 a1, .int .i64 a2] rfl (by (try simp only [List.map_toArray, List.map_cons, List.map_nil]); first | done | (rw [show (l0.take ((ji11) : Int).toNat).length = (ji11).toNat from (by rw [List.length_take]; have h_ : ((ji11) : Int) ≤ (l0.length : Int) := of_decide_eq_true (by first | (with_reducible assumption) | assumption); omega)] <;> rfl) | (simp only [hji11]; rfl) | rfl | (simp only [List.length_drop, List.length_take]; rfl)) ?_; (with_reducible refine (lockgateref13_Busy.calls k2 _ _ (l0.take ((ji11) : Int).toNat) a1 a2 t114 _ ?side1 ?side2 A14.out).mono ?_); (case side1 => repeat (first | exact HR113.out | (with_reducible refine Kd.C_alloc ?_ _) | (with_reducible refine Kd.C_drewN ?_ _) | (with_reducible refine Kd.C_drew ?_))); (case side2 => exact HC113.out); rintro e w' ⟨rfl, ⟨nd, rfl⟩⟩; refine ⟨_, rfl, ?_⟩))
                      go_roundg k2
                      case measure => have := HJ3.out; have := HK2.out; omega
                      case rel => exact ⟨(t112), (ji11), (by first | rfl | (simp; done) | (simp [*]; done)), (by first | rfl | (simp; done) | (simp only [← hji11] <;> (first | rfl | simp)) | (simp [*]; done)), H', ⟨by have := HJ3.out; have := HK2.out; omega⟩, by repeat (first | exact Drawn0.refl _ | apply Drawn0.step)⟩
                  · rw [if_neg c13] at H
                    exact absurd H (by simp)
                · rw [if_neg c12] at H
                  exact absurd H (by simp)
              · rw [if_neg c9] at H
                exact absurd H (by simp)
            · rw [if_neg c8] at H
              have c8b0 : decide (x8_2 < (l0.length : Int)) = false := decide_eq_false c8
              clear c8
              replace H := Option.bind_eq_some_iff.mp H
              obtain ⟨t110, A180, H⟩ := H
              replace H : (some t110) = some r := H
              have A18 := Aside0.mk A180
              clear A180
              obtain rfl := Option.some.inj H
              go_wp2_with (first | ((with_reducible refine gate_callee (f := 8) rfl ?_); refine goesL_ (some 41) rfl rfl Try.func8 (by kernel_rfl) rfl #[] rfl (by (try simp only [List.map_toArray, List.map_cons, List.map_nil]); first | done | rfl | (simp only [List.length_drop, List.length_take]; rfl)) ?_; (with_reducible refine (lockgatelaw13_awake.calls  t110 _ A18.out).mono ?_); rintro e w' ⟨rfl, ⟨nd, rfl⟩⟩; refine ⟨_, rfl, ?_⟩))
              go_ret
              exact ⟨by first | rfl | (simp; done) | (simp [*]; done), by repeat (first | exact Drawn0.refl _ | apply Drawn0.step)⟩

/-- THE ONE PURE STATEMENT of lockgatelaw13_MarkOnce: yours. -/
def lockgatelaw13_MarkOnce.Pure : Prop := ∀ (l0 : List Int) (a1 : Int) (a2 : Int), l0.length ≤ maxLen → l0.length * 8 ≤ 140737488351232 → (∀ x ∈ l0, (Lit.int .i64 x).wf = true) → (Lit.int .i64 a1).wf = true → (Lit.int .i64 a2).wf = true → ∃ k, lockgatelaw13_MarkOnce.f k l0 a1 a2 = some true
theorem lockgatelaw13_MarkOnce.walk (P : lockgatelaw13_MarkOnce.Pure) (a0 : Option Addr) (len0 cap0 : Nat) (z0 : List Int) (a1 : Int) (a2 : Int) (w : World) (w0 : (a0 = none ∧ len0 = 0 ∧ cap0 = 0 ∧ z0 = []) ∨ ∃ x, a0 = some x ∧ len0 ≤ cap0 ∧ cap0 ≤ maxLen ∧ z0.length = cap0 ∧ (∀ i, i < z0.length → w.cell? (x.add i) = some (.int .i64 (z0.getD i 0))) ∧ ∀ n ∈ z0, (Lit.int .i64 n).wf = true) (y0 : len0 * 8 ≤ 140737488351232) (w1 : (Lit.int .i64 a1).wf = true) (w2 : (Lit.int .i64 a2).wf = true) :
    Calls Try.prog 4 #[.slice a0 len0 cap0, .int .i64 a1, .int .i64 a2] w fun e w' => e = .returned (.bool true) ∧ Below w.heap.size w w' := by
  obtain ⟨l0, rfl, hr0, hm0, hw0, hc0⟩ := ReadsInt.ofRowC w0
  obtain ⟨k, h⟩ := P l0 a1 a2 hm0 y0 hw0 w1 w2
  refine (lockgatelaw13_MarkOnce.calls k _ _ l0 a1 a2 true w (Kd.C_of_reads (d := (0 : Int)) (h1 := fun _ => rfl) hr0) hc0 h).mono ?_
  rintro e w' ⟨rfl, hd⟩
  exact ⟨rfl, hd.below⟩

end Go.Proofs.Ytbhjhffglcipbaa.PMarkOnce
