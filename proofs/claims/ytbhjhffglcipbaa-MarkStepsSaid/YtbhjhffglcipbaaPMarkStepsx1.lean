-- PRINTED BY print.sh 35421559b90ae4d0a3588c463048766b98c2df88dd9212a6774a882060cdf62d: not written by this session
import Derived.Test.YtbhjhffglcipbaaPMarkStepsx0
namespace Go.Proofs.Ytbhjhffglcipbaa.PMarkSteps
open Go.RowKit Go.Proofs.YtbhjhffglcipbaaW.PrintWords Go.Proofs.YtbhjhffglcipbaaW.PrintLast Go.Proofs.YtbhjhffglcipbaaW.PrintMore
attribute [local go_sem] max2_int min2_int max_two min_two max_three min_three max_four min_four   -- for this text's walks alone
set_option linter.unusedVariables false
set_option linter.unusedSimpArgs false

/-! ### mark_Next: function 9 -/
def mark_Next.f (a0 : Bool) (a1 : Int) (a2 : Int) (a3 : Int) : Option (Bool) := if a1 ≥ a2 then (some true) else (if a1 ≤ a3 then (some false) else (some a0))
set_option maxHeartbeats 8000000 in
set_option maxRecDepth 100000 in
theorem mark_Next.calls (a0 : Bool) (a1 : Int) (a2 : Int) (a3 : Int) (r : Bool) (w : World) (h : mark_Next.f a0 a1 a2 a3 = some r) :
    Calls Try.prog 9 #[.bool a0, .int .i64 a1, .int .i64 a2, .int .i64 a3] w fun e w' => e = .returned (.bool r) ∧ Drawn0 w w' := by
  have H : (if a1 ≥ a2 then (some true) else (if a1 ≤ a3 then (some false) else (some a0))) = some r := h
  clear h
  by_cases c5 : a1 ≥ a2
  · rw [if_pos c5] at H
    have c5b0 : decide (a2 ≤ a1) = true := decide_eq_true c5
    clear c5
    obtain rfl := Option.some.inj H
    go_enter Try.func9, Try.ntmps9
    go_wp2
    go_ret
    exact ⟨by first | rfl | (simp; done) | (simp [*]; done), by repeat (first | exact Drawn0.refl _ | apply Drawn0.step)⟩
  · rw [if_neg c5] at H
    have c5b0 : decide (a2 ≤ a1) = false := decide_eq_false c5
    clear c5
    by_cases c6 : a1 ≤ a3
    · rw [if_pos c6] at H
      have c6b0 : decide (a1 ≤ a3) = true := decide_eq_true c6
      clear c6
      obtain rfl := Option.some.inj H
      go_enter Try.func9, Try.ntmps9
      go_wp2
      go_ret
      exact ⟨by first | rfl | (simp; done) | (simp [*]; done), by repeat (first | exact Drawn0.refl _ | apply Drawn0.step)⟩
    · rw [if_neg c6] at H
      have c6b0 : decide (a1 ≤ a3) = false := decide_eq_false c6
      clear c6
      obtain rfl := Option.some.inj H
      go_enter Try.func9, Try.ntmps9
      go_wp2
      go_ret
      exact ⟨by first | rfl | (simp; done) | (simp [*]; done), by repeat (first | exact Drawn0.refl _ | apply Drawn0.step)⟩

/-! ### mark_Room: function 10 -/
def mark_Room.f (a0 : Bool) (a1 : Int) (a2 : Int) (a3 : Int) : Option (Bool) := (mark_Next.f a0 a1 a2 a3).bind fun t101 => (some (!t101))
set_option maxHeartbeats 8000000 in
set_option maxRecDepth 100000 in
theorem mark_Room.calls (a0 : Bool) (a1 : Int) (a2 : Int) (a3 : Int) (r : Bool) (w : World) (h : mark_Room.f a0 a1 a2 a3 = some r) :
    Calls Try.prog 10 #[.bool a0, .int .i64 a1, .int .i64 a2, .int .i64 a3] w fun e w' => e = .returned (.bool r) ∧ Drawn0 w w' := by
  have H : ((mark_Next.f a0 a1 a2 a3).bind fun t101 => (some (!t101))) = some r := h
  clear h
  replace H := Option.bind_eq_some_iff.mp H
  obtain ⟨t101, A50, H⟩ := H
  replace H : (some (!t101)) = some r := H
  have A5 := Aside0.mk A50
  clear A50
  obtain rfl := Option.some.inj H
  go_enter Try.func10, Try.ntmps10
  go_wp2_with (first | ((with_reducible refine gate_callee (f := 9) rfl ?_); refine goesL_ (some 13) rfl rfl Try.func9 (by kernel_rfl) rfl #[.bool a0, .int .i64 a1, .int .i64 a2, .int .i64 a3] rfl (by (try simp only [List.map_toArray, List.map_cons, List.map_nil]); first | done | rfl | (simp only [List.length_drop, List.length_take]; rfl)) ?_; (with_reducible refine (mark_Next.calls a0 a1 a2 a3 t101 _ A5.out).mono ?_); rintro e w' ⟨rfl, ⟨nd, rfl⟩⟩; refine ⟨_, rfl, ?_⟩))
  go_ret
  exact ⟨by first | rfl | (simp; done) | (simp [*]; done), by repeat (first | exact Drawn0.refl _ | apply Drawn0.step)⟩

/-! ### lockgatelaw13_awake: function 8 -/
def lockgatelaw13_awake.f  : Option (Bool) := (mark_Next.f false 9 10 4).bind fun t102 => (if t102 = true then (some false) else ((mark_Next.f false 10 10 4).bind fun t103 => (if t103 = true then ((mark_Next.f true 5 10 4).bind fun t104 => (if t104 = true then ((mark_Next.f true 4 10 4).bind fun t105 => (if t105 = true then (some false) else ((mark_Room.f false 9 10 4).bind fun t106 => (some t106)))) else (some false))) else (some false))))
set_option maxHeartbeats 8000000 in
set_option maxRecDepth 100000 in
theorem lockgatelaw13_awake.calls  (r : Bool) (w : World) (h : lockgatelaw13_awake.f  = some r) :
    Calls Try.prog 8 #[] w fun e w' => e = .returned (.bool r) ∧ Drawn0 w w' := by
  have H : ((mark_Next.f false 9 10 4).bind fun t102 => (if t102 = true then (some false) else ((mark_Next.f false 10 10 4).bind fun t103 => (if t103 = true then ((mark_Next.f true 5 10 4).bind fun t104 => (if t104 = true then ((mark_Next.f true 4 10 4).bind fun t105 => (if t105 = true then (some false) else ((mark_Room.f false 9 10 4).bind fun t106 => (some t106)))) else (some false))) else (some false))))) = some r := h
  clear h
  replace H := Option.bind_eq_some_iff.mp H
  obtain ⟨t102, A10, H⟩ := H
  replace H : (if t102 = true then (some false) else ((mark_Next.f false 10 10 4).bind fun t103 => (if t103 = true then ((mark_Next.f true 5 10 4).bind fun t104 => (if t104 = true then ((mark_Next.f true 4 10 4).bind fun t105 => (if t105 = true then (some false) else ((mark_Room.f false 9 10 4).bind fun t106 => (some t106)))) else (some false))) else (some false)))) = some r := H
  have A1 := Aside0.mk A10
  clear A10
  by_cases c2 : t102 = true
  · subst c2
    have H1 : (some false) = some r := by rw [if_pos rfl] at H; exact H
    clear H
    have H := H1
    clear H1
    obtain rfl := Option.some.inj H
    go_enter Try.func8, Try.ntmps8
    go_wp2_with (first | ((with_reducible refine gate_callee (f := 9) rfl ?_); refine goesL_ (some 1) rfl rfl Try.func9 (by kernel_rfl) rfl #[.bool false, .int .i64 9, .int .i64 10, .int .i64 4] rfl (by (try simp only [List.map_toArray, List.map_cons, List.map_nil]); first | done | rfl | (simp only [List.length_drop, List.length_take]; rfl)) ?_; (with_reducible refine (mark_Next.calls false 9 10 4 true _ A1.out).mono ?_); rintro e w' ⟨rfl, ⟨nd, rfl⟩⟩; refine ⟨_, rfl, ?_⟩))
    go_ret
    exact ⟨by first | rfl | (simp; done) | (simp [*]; done), by repeat (first | exact Drawn0.refl _ | apply Drawn0.step)⟩
  · replace c2 := Bool.eq_false_iff.mpr c2
    subst c2
    have H1 : ((mark_Next.f false 10 10 4).bind fun t103 => (if t103 = true then ((mark_Next.f true 5 10 4).bind fun t104 => (if t104 = true then ((mark_Next.f true 4 10 4).bind fun t105 => (if t105 = true then (some false) else ((mark_Room.f false 9 10 4).bind fun t106 => (some t106)))) else (some false))) else (some false))) = some r := by rw [if_neg (show ¬ (false = true) by decide)] at H; exact H
    clear H
    have H := H1
    clear H1
    replace H := Option.bind_eq_some_iff.mp H
    obtain ⟨t103, A30, H⟩ := H
    replace H : (if t103 = true then ((mark_Next.f true 5 10 4).bind fun t104 => (if t104 = true then ((mark_Next.f true 4 10 4).bind fun t105 => (if t105 = true then (some false) else ((mark_Room.f false 9 10 4).bind fun t106 => (some t106)))) else (some false))) else (some false)) = some r := H
    have A3 := Aside0.mk A30
    clear A30
    by_cases c4 : t103 = true
    · subst c4
      have H1 : ((mark_Next.f true 5 10 4).bind fun t104 => (if t104 = true then ((mark_Next.f true 4 10 4).bind fun t105 => (if t105 = true then (some false) else ((mark_Room.f false 9 10 4).bind fun t106 => (some t106)))) else (some false))) = some r := by rw [if_pos rfl] at H; exact H
      clear H
      have H := H1
      clear H1
      replace H := Option.bind_eq_some_iff.mp H
      obtain ⟨t104, A50, H⟩ := H
      replace H : (if t104 = true then ((mark_Next.f true 4 10 4).bind fun t105 => (if t105 = true then (some false) else ((mark_Room.f false 9 10 4).bind fun t106 => (some t106)))) else (some false)) = some r := H
      have A5 := Aside0.mk A50
      clear A50
      by_cases c6 : t104 = true
      · subst c6
        have H1 : ((mark_Next.f true 4 10 4).bind fun t105 => (if t105 = true then (some false) else ((mark_Room.f false 9 10 4).bind fun t106 => (some t106)))) = some r := by rw [if_pos rfl] at H; exact H
        clear H
        have H := H1
        clear H1
        replace H := Option.bind_eq_some_iff.mp H
        obtain ⟨t105, A70, H⟩ := H
        replace H : (if t105 = true then (some false) else ((mark_Room.f false 9 10 4).bind fun t106 => (some t106))) = some r := H
        have A7 := Aside0.mk A70
        clear A70
        by_cases c8 : t105 = true
        · subst c8
          have H1 : (some false) = some r := by rw [if_pos rfl] at H; exact H
          clear H
          have H := H1
          clear H1
          obtain rfl := Option.some.inj H
          go_enter Try.func8, Try.ntmps8
          go_wp2_with (first | ((with_reducible refine gate_callee (f := 9) rfl ?_); refine goesL_ (some 1) rfl rfl Try.func9 (by kernel_rfl) rfl #[.bool false, .int .i64 9, .int .i64 10, .int .i64 4] rfl (by (try simp only [List.map_toArray, List.map_cons, List.map_nil]); first | done | rfl | (simp only [List.length_drop, List.length_take]; rfl)) ?_; (with_reducible refine (mark_Next.calls false 9 10 4 false _ A1.out).mono ?_); rintro e w' ⟨rfl, ⟨nd, rfl⟩⟩; refine ⟨_, rfl, ?_⟩) | (go_at_call 9; (with_reducible refine (mark_Next.calls false 10 10 4 true _ A3.out).mono ?_); rintro e w' ⟨rfl, ⟨nd, rfl⟩⟩) | (go_at_call 9; (with_reducible refine (mark_Next.calls true 5 10 4 true _ A5.out).mono ?_); rintro e w' ⟨rfl, ⟨nd, rfl⟩⟩) | (go_at_call 9; (with_reducible refine (mark_Next.calls true 4 10 4 true _ A7.out).mono ?_); rintro e w' ⟨rfl, ⟨nd, rfl⟩⟩))
          go_ret
          exact ⟨by first | rfl | (simp; done) | (simp [*]; done), by repeat (first | exact Drawn0.refl _ | apply Drawn0.step)⟩
        · replace c8 := Bool.eq_false_iff.mpr c8
          subst c8
          have H1 : ((mark_Room.f false 9 10 4).bind fun t106 => (some t106)) = some r := by rw [if_neg (show ¬ (false = true) by decide)] at H; exact H
          clear H
          have H := H1
          clear H1
          replace H := Option.bind_eq_some_iff.mp H
          obtain ⟨t106, A90, H⟩ := H
          replace H : (some t106) = some r := H
          have A9 := Aside0.mk A90
          clear A90
          obtain rfl := Option.some.inj H
          go_enter Try.func8, Try.ntmps8
          go_wp2_with (first | ((with_reducible refine gate_callee (f := 9) rfl ?_); refine goesL_ (some 1) rfl rfl Try.func9 (by kernel_rfl) rfl #[.bool false, .int .i64 9, .int .i64 10, .int .i64 4] rfl (by (try simp only [List.map_toArray, List.map_cons, List.map_nil]); first | done | rfl | (simp only [List.length_drop, List.length_take]; rfl)) ?_; (with_reducible refine (mark_Next.calls false 9 10 4 false _ A1.out).mono ?_); rintro e w' ⟨rfl, ⟨nd, rfl⟩⟩; refine ⟨_, rfl, ?_⟩) | (go_at_call 9; (with_reducible refine (mark_Next.calls false 10 10 4 true _ A3.out).mono ?_); rintro e w' ⟨rfl, ⟨nd, rfl⟩⟩) | (go_at_call 9; (with_reducible refine (mark_Next.calls true 5 10 4 true _ A5.out).mono ?_); rintro e w' ⟨rfl, ⟨nd, rfl⟩⟩) | (go_at_call 9; (with_reducible refine (mark_Next.calls true 4 10 4 false _ A7.out).mono ?_); rintro e w' ⟨rfl, ⟨nd, rfl⟩⟩) | (go_at_call 10; (with_reducible refine (mark_Room.calls false 9 10 4 t106 _ A9.out).mono ?_); rintro e w' ⟨rfl, ⟨nd, rfl⟩⟩))
          go_ret
          exact ⟨by first | rfl | (simp; done) | (simp [*]; done), by repeat (first | exact Drawn0.refl _ | apply Drawn0.step)⟩
      · replace c6 := Bool.eq_false_iff.mpr c6
        subst c6
        have H1 : (some false) = some r := by rw [if_neg (show ¬ (false = true) by decide)] at H; exact H
        clear H
        have H := H1
        clear H1
        obtain rfl := Option.some.inj H
        go_enter Try.func8, Try.ntmps8
        go_wp2_with (first | ((with_reducible refine gate_callee (f := 9) rfl ?_); refine goesL_ (some 1) rfl rfl Try.func9 (by kernel_rfl) rfl #[.bool false, .int .i64 9, .int .i64 10, .int .i64 4] rfl (by (try simp only [List.map_toArray, List.map_cons, List.map_nil]); first | done | rfl | (simp only [List.length_drop, List.length_take]; rfl)) ?_; (with_reducible refine (mark_Next.calls false 9 10 4 false _ A1.out).mono ?_); rintro e w' ⟨rfl, ⟨nd, rfl⟩⟩; refine ⟨_, rfl, ?_⟩) | (go_at_call 9; (with_reducible refine (mark_Next.calls false 10 10 4 true _ A3.out).mono ?_); rintro e w' ⟨rfl, ⟨nd, rfl⟩⟩) | (go_at_call 9; (with_reducible refine (mark_Next.calls true 5 10 4 false _ A5.out).mono ?_); rintro e w' ⟨rfl, ⟨nd, rfl⟩⟩))
        go_ret
        exact ⟨by first | rfl | (simp; done) | (simp [*]; done), by repeat (first | exact Drawn0.refl _ | apply Drawn0.step)⟩
    · replace c4 := Bool.eq_false_iff.mpr c4
      subst c4
      have H1 : (some false) = some r := by rw [if_neg (show ¬ (false = true) by decide)] at H; exact H
      clear H
      have H := H1
      clear H1
      obtain rfl := Option.some.inj H
      go_enter Try.func8, Try.ntmps8
      go_wp2_with (first | ((with_reducible refine gate_callee (f := 9) rfl ?_); refine goesL_ (some 1) rfl rfl Try.func9 (by kernel_rfl) rfl #[.bool false, .int .i64 9, .int .i64 10, .int .i64 4] rfl (by (try simp only [List.map_toArray, List.map_cons, List.map_nil]); first | done | rfl | (simp only [List.length_drop, List.length_take]; rfl)) ?_; (with_reducible refine (mark_Next.calls false 9 10 4 false _ A1.out).mono ?_); rintro e w' ⟨rfl, ⟨nd, rfl⟩⟩; refine ⟨_, rfl, ?_⟩) | (go_at_call 9; (with_reducible refine (mark_Next.calls false 10 10 4 false _ A3.out).mono ?_); rintro e w' ⟨rfl, ⟨nd, rfl⟩⟩))
      go_ret
      exact ⟨by first | rfl | (simp; done) | (simp [*]; done), by repeat (first | exact Drawn0.refl _ | apply Drawn0.step)⟩

/-! ### lockgatelaw13_MarkSteps: function 3 -/
def lockgatelaw13_MarkSteps.f (a0 : Bool) (a1 : Int) (a2 : Int) (a3 : Int) : Option (Bool) := if a3 > a2 then ((lockgatelaw13_awake.f).bind fun t107 => (some t107)) else (if a1 ≥ a2 then ((lockgatelaw13_awake.f).bind fun t108 => (if t108 = true then ((mark_Next.f a0 a1 a2 a3).bind fun t109 => (if (t109 == true) = true then ((mark_Room.f a0 a1 a2 a3).bind fun t110 => (some (t110 == (!true)))) else (some false))) else (some false))) else (if a0 = true then ((lockgatelaw13_awake.f).bind fun t111 => (if t111 = true then ((mark_Next.f a0 a1 a2 a3).bind fun t112 => (if (t112 == (decide (a1 > a3))) = true then ((mark_Room.f a0 a1 a2 a3).bind fun t113 => (some (t113 == (!(decide (a1 > a3)))))) else (some false))) else (some false))) else ((lockgatelaw13_awake.f).bind fun t114 => (if t114 = true then ((mark_Next.f a0 a1 a2 a3).bind fun t115 => (if (t115 == false) = true then ((mark_Room.f a0 a1 a2 a3).bind fun t116 => (some (t116 == (!false)))) else (some false))) else (some false)))))
set_option maxHeartbeats 8000000 in
set_option maxRecDepth 100000 in
theorem lockgatelaw13_MarkSteps.calls (a0 : Bool) (a1 : Int) (a2 : Int) (a3 : Int) (r : Bool) (w : World) (h : lockgatelaw13_MarkSteps.f a0 a1 a2 a3 = some r) :
    Calls Try.prog 3 #[.bool a0, .int .i64 a1, .int .i64 a2, .int .i64 a3] w fun e w' => e = .returned (.bool r) ∧ Drawn0 w w' := by
  have H : (if a3 > a2 then ((lockgatelaw13_awake.f).bind fun t107 => (some t107)) else (if a1 ≥ a2 then ((lockgatelaw13_awake.f).bind fun t108 => (if t108 = true then ((mark_Next.f a0 a1 a2 a3).bind fun t109 => (if (t109 == true) = true then ((mark_Room.f a0 a1 a2 a3).bind fun t110 => (some (t110 == (!true)))) else (some false))) else (some false))) else (if a0 = true then ((lockgatelaw13_awake.f).bind fun t111 => (if t111 = true then ((mark_Next.f a0 a1 a2 a3).bind fun t112 => (if (t112 == (decide (a1 > a3))) = true then ((mark_Room.f a0 a1 a2 a3).bind fun t113 => (some (t113 == (!(decide (a1 > a3)))))) else (some false))) else (some false))) else ((lockgatelaw13_awake.f).bind fun t114 => (if t114 = true then ((mark_Next.f a0 a1 a2 a3).bind fun t115 => (if (t115 == false) = true then ((mark_Room.f a0 a1 a2 a3).bind fun t116 => (some (t116 == (!false)))) else (some false))) else (some false)))))) = some r := h
  clear h
  by_cases c5 : a3 > a2
  · rw [if_pos c5] at H
    have c5b0 : decide (a2 < a3) = true := decide_eq_true c5
    clear c5
    replace H := Option.bind_eq_some_iff.mp H
    obtain ⟨t107, A60, H⟩ := H
    replace H : (some t107) = some r := H
    have A6 := Aside0.mk A60
    clear A60
    obtain rfl := Option.some.inj H
    go_enter Try.func3, Try.ntmps3
    go_wp2_with (first | ((with_reducible refine gate_callee (f := 8) rfl ?_); refine goesL_ (some 13) rfl rfl Try.func8 (by kernel_rfl) rfl #[] rfl (by (try simp only [List.map_toArray, List.map_cons, List.map_nil]); first | done | rfl | (simp only [List.length_drop, List.length_take]; rfl)) ?_; (with_reducible refine (lockgatelaw13_awake.calls  t107 _ A6.out).mono ?_); rintro e w' ⟨rfl, ⟨nd, rfl⟩⟩; refine ⟨_, rfl, ?_⟩))
    go_ret
    exact ⟨by first | rfl | (simp; done) | (simp [*]; done), by repeat (first | exact Drawn0.refl _ | apply Drawn0.step)⟩
  · rw [if_neg c5] at H
    have c5b0 : decide (a2 < a3) = false := decide_eq_false c5
    clear c5
    by_cases c7 : a1 ≥ a2
    · rw [if_pos c7] at H
      have c7b0 : decide (a2 ≤ a1) = true := decide_eq_true c7
      clear c7
      replace H := Option.bind_eq_some_iff.mp H
      obtain ⟨t108, A80, H⟩ := H
      replace H : (if t108 = true then ((mark_Next.f a0 a1 a2 a3).bind fun t109 => (if (t109 == true) = true then ((mark_Room.f a0 a1 a2 a3).bind fun t110 => (some (t110 == (!true)))) else (some false))) else (some false)) = some r := H
      have A8 := Aside0.mk A80
      clear A80
      by_cases c9 : t108 = true
      · subst c9
        have H1 : ((mark_Next.f a0 a1 a2 a3).bind fun t109 => (if (t109 == true) = true then ((mark_Room.f a0 a1 a2 a3).bind fun t110 => (some (t110 == (!true)))) else (some false))) = some r := by rw [if_pos rfl] at H; exact H
        clear H
        have H := H1
        clear H1
        replace H := Option.bind_eq_some_iff.mp H
        obtain ⟨t109, A100, H⟩ := H
        replace H : (if (t109 == true) = true then ((mark_Room.f a0 a1 a2 a3).bind fun t110 => (some (t110 == (!true)))) else (some false)) = some r := H
        have A10 := Aside0.mk A100
        clear A100
        by_cases c11 : (t109 == true) = true
        · rw [if_pos c11] at H
          have c11b0 : (t109 == true) = true := c11
          (try (have c11b1 : decide (t109 = true) = true := by simpa using c11))
          (try (have c11b2 : (t109 == true) = true := by simpa using c11))
          clear c11
          replace H := Option.bind_eq_some_iff.mp H
          obtain ⟨t110, A120, H⟩ := H
          replace H : (some (t110 == (!true))) = some r := H
          have A12 := Aside0.mk A120
          clear A120
          obtain rfl := Option.some.inj H
          go_enter Try.func3, Try.ntmps3
          go_wp2_with (first | ((with_reducible refine gate_callee (f := 8) rfl ?_); refine goesL_ (some 25) rfl rfl Try.func8 (by kernel_rfl) rfl #[] rfl (by (try simp only [List.map_toArray, List.map_cons, List.map_nil]); first | done | rfl | (simp only [List.length_drop, List.length_take]; rfl)) ?_; (with_reducible refine (lockgatelaw13_awake.calls  true _ A8.out).mono ?_); rintro e w' ⟨rfl, ⟨nd, rfl⟩⟩; refine ⟨_, rfl, ?_⟩) | (go_at_call 9; (with_reducible refine (mark_Next.calls a0 a1 a2 a3 t109 _ A10.out).mono ?_); rintro e w' ⟨rfl, ⟨nd, rfl⟩⟩) | (go_at_call 10; (with_reducible refine (mark_Room.calls a0 a1 a2 a3 t110 _ A12.out).mono ?_); rintro e w' ⟨rfl, ⟨nd, rfl⟩⟩))
          go_ret
          exact ⟨by first | rfl | (simp; done) | (simp [*]; done), by repeat (first | exact Drawn0.refl _ | apply Drawn0.step)⟩
        · rw [if_neg c11] at H
          have c11b0 : (t109 == true) = false := by simpa using c11
          (try (have c11b1 : decide (t109 = true) = false := by simpa using c11))
          (try (have c11b2 : (t109 == true) = false := by simpa using c11))
          (try (have c11b3 : ¬ (t109 = true) := by simpa using c11))
          clear c11
          obtain rfl := Option.some.inj H
          go_enter Try.func3, Try.ntmps3
          go_wp2_with (first | ((with_reducible refine gate_callee (f := 8) rfl ?_); refine goesL_ (some 25) rfl rfl Try.func8 (by kernel_rfl) rfl #[] rfl (by (try simp only [List.map_toArray, List.map_cons, List.map_nil]); first | done | rfl | (simp only [List.length_drop, List.length_take]; rfl)) ?_; (with_reducible refine (lockgatelaw13_awake.calls  true _ A8.out).mono ?_); rintro e w' ⟨rfl, ⟨nd, rfl⟩⟩; refine ⟨_, rfl, ?_⟩) | (go_at_call 9; (with_reducible refine (mark_Next.calls a0 a1 a2 a3 t109 _ A10.out).mono ?_); rintro e w' ⟨rfl, ⟨nd, rfl⟩⟩))
          go_ret
          exact ⟨by first | rfl | (simp; done) | (simp [*]; done), by repeat (first | exact Drawn0.refl _ | apply Drawn0.step)⟩
      · replace c9 := Bool.eq_false_iff.mpr c9
        subst c9
        have H1 : (some false) = some r := by rw [if_neg (show ¬ (false = true) by decide)] at H; exact H
        clear H
        have H := H1
        clear H1
        obtain rfl := Option.some.inj H
        go_enter Try.func3, Try.ntmps3
        go_wp2_with (first | ((with_reducible refine gate_callee (f := 8) rfl ?_); refine goesL_ (some 25) rfl rfl Try.func8 (by kernel_rfl) rfl #[] rfl (by (try simp only [List.map_toArray, List.map_cons, List.map_nil]); first | done | rfl | (simp only [List.length_drop, List.length_take]; rfl)) ?_; (with_reducible refine (lockgatelaw13_awake.calls  false _ A8.out).mono ?_); rintro e w' ⟨rfl, ⟨nd, rfl⟩⟩; refine ⟨_, rfl, ?_⟩))
        go_ret
        exact ⟨by first | rfl | (simp; done) | (simp [*]; done), by repeat (first | exact Drawn0.refl _ | apply Drawn0.step)⟩
    · rw [if_neg c7] at H
      have c7b0 : decide (a2 ≤ a1) = false := decide_eq_false c7
      clear c7
      by_cases c13 : a0 = true
      · subst c13
        have H1 : ((lockgatelaw13_awake.f).bind fun t111 => (if t111 = true then ((mark_Next.f true a1 a2 a3).bind fun t112 => (if (t112 == (decide (a1 > a3))) = true then ((mark_Room.f true a1 a2 a3).bind fun t113 => (some (t113 == (!(decide (a1 > a3)))))) else (some false))) else (some false))) = some r := by rw [if_pos rfl] at H; exact H
        clear H
        have H := H1
        clear H1
        replace H := Option.bind_eq_some_iff.mp H
        obtain ⟨t111, A140, H⟩ := H
        replace H : (if t111 = true then ((mark_Next.f true a1 a2 a3).bind fun t112 => (if (t112 == (decide (a1 > a3))) = true then ((mark_Room.f true a1 a2 a3).bind fun t113 => (some (t113 == (!(decide (a1 > a3)))))) else (some false))) else (some false)) = some r := H
        have A14 := Aside0.mk A140
        clear A140
        by_cases c15 : t111 = true
        · subst c15
          have H1 : ((mark_Next.f true a1 a2 a3).bind fun t112 => (if (t112 == (decide (a1 > a3))) = true then ((mark_Room.f true a1 a2 a3).bind fun t113 => (some (t113 == (!(decide (a1 > a3)))))) else (some false))) = some r := by rw [if_pos rfl] at H; exact H
          clear H
          have H := H1
          clear H1
          replace H := Option.bind_eq_some_iff.mp H
          obtain ⟨t112, A160, H⟩ := H
          replace H : (if (t112 == (decide (a1 > a3))) = true then ((mark_Room.f true a1 a2 a3).bind fun t113 => (some (t113 == (!(decide (a1 > a3)))))) else (some false)) = some r := H
          have A16 := Aside0.mk A160
          clear A160
          by_cases c17 : (t112 == (decide (a1 > a3))) = true
          · rw [if_pos c17] at H
            have c17b0 : (t112 == (decide (a1 > a3))) = true := c17
            (try (have c17b1 : decide (t112 = (decide (a1 > a3))) = true := by simpa using c17))
            (try (have c17b2 : (t112 == (decide (a1 > a3))) = true := by simpa using c17))
            clear c17
            replace H := Option.bind_eq_some_iff.mp H
            obtain ⟨t113, A180, H⟩ := H
            replace H : (some (t113 == (!(decide (a1 > a3))))) = some r := H
            have A18 := Aside0.mk A180
            clear A180
            obtain rfl := Option.some.inj H
            go_enter Try.func3, Try.ntmps3
            go_wp2_with (first | ((with_reducible refine gate_callee (f := 8) rfl ?_); refine goesL_ (some 25) rfl rfl Try.func8 (by kernel_rfl) rfl #[] rfl (by (try simp only [List.map_toArray, List.map_cons, List.map_nil]); first | done | rfl | (simp only [List.length_drop, List.length_take]; rfl)) ?_; (with_reducible refine (lockgatelaw13_awake.calls  true _ A14.out).mono ?_); rintro e w' ⟨rfl, ⟨nd, rfl⟩⟩; refine ⟨_, rfl, ?_⟩) | (go_at_call 9; (with_reducible refine (mark_Next.calls true a1 a2 a3 t112 _ A16.out).mono ?_); rintro e w' ⟨rfl, ⟨nd, rfl⟩⟩) | (go_at_call 10; (with_reducible refine (mark_Room.calls true a1 a2 a3 t113 _ A18.out).mono ?_); rintro e w' ⟨rfl, ⟨nd, rfl⟩⟩))
            go_ret
            exact ⟨by first | rfl | (simp; done) | (simp [*]; done), by repeat (first | exact Drawn0.refl _ | apply Drawn0.step)⟩
          · rw [if_neg c17] at H
            have c17b0 : (t112 == (decide (a1 > a3))) = false := by simpa using c17
            (try (have c17b1 : decide (t112 = (decide (a1 > a3))) = false := by simpa using c17))
            (try (have c17b2 : (t112 == (decide (a1 > a3))) = false := by simpa using c17))
            (try (have c17b3 : ¬ (t112 = (decide (a1 > a3))) := by simpa using c17))
            clear c17
            obtain rfl := Option.some.inj H
            go_enter Try.func3, Try.ntmps3
            go_wp2_with (first | ((with_reducible refine gate_callee (f := 8) rfl ?_); refine goesL_ (some 25) rfl rfl Try.func8 (by kernel_rfl) rfl #[] rfl (by (try simp only [List.map_toArray, List.map_cons, List.map_nil]); first | done | rfl | (simp only [List.length_drop, List.length_take]; rfl)) ?_; (with_reducible refine (lockgatelaw13_awake.calls  true _ A14.out).mono ?_); rintro e w' ⟨rfl, ⟨nd, rfl⟩⟩; refine ⟨_, rfl, ?_⟩) | (go_at_call 9; (with_reducible refine (mark_Next.calls true a1 a2 a3 t112 _ A16.out).mono ?_); rintro e w' ⟨rfl, ⟨nd, rfl⟩⟩))
            go_ret
            exact ⟨by first | rfl | (simp; done) | (simp [*]; done), by repeat (first | exact Drawn0.refl _ | apply Drawn0.step)⟩
        · replace c15 := Bool.eq_false_iff.mpr c15
          subst c15
          have H1 : (some false) = some r := by rw [if_neg (show ¬ (false = true) by decide)] at H; exact H
          clear H
          have H := H1
          clear H1
          obtain rfl := Option.some.inj H
          go_enter Try.func3, Try.ntmps3
          go_wp2_with (first | ((with_reducible refine gate_callee (f := 8) rfl ?_); refine goesL_ (some 25) rfl rfl Try.func8 (by kernel_rfl) rfl #[] rfl (by (try simp only [List.map_toArray, List.map_cons, List.map_nil]); first | done | rfl | (simp only [List.length_drop, List.length_take]; rfl)) ?_; (with_reducible refine (lockgatelaw13_awake.calls  false _ A14.out).mono ?_); rintro e w' ⟨rfl, ⟨nd, rfl⟩⟩; refine ⟨_, rfl, ?_⟩))
          go_ret
          exact ⟨by first | rfl | (simp; done) | (simp [*]; done), by repeat (first | exact Drawn0.refl _ | apply Drawn0.step)⟩
      · replace c13 := Bool.eq_false_iff.mpr c13
        subst c13
        have H1 : ((lockgatelaw13_awake.f).bind fun t114 => (if t114 = true then ((mark_Next.f false a1 a2 a3).bind fun t115 => (if (t115 == false) = true then ((mark_Room.f false a1 a2 a3).bind fun t116 => (some (t116 == (!false)))) else (some false))) else (some false))) = some r := by rw [if_neg (show ¬ (false = true) by decide)] at H; exact H
        clear H
        have H := H1
        clear H1
        replace H := Option.bind_eq_some_iff.mp H
        obtain ⟨t114, A190, H⟩ := H
        replace H : (if t114 = true then ((mark_Next.f false a1 a2 a3).bind fun t115 => (if (t115 == false) = true then ((mark_Room.f false a1 a2 a3).bind fun t116 => (some (t116 == (!false)))) else (some false))) else (some false)) = some r := H
        have A19 := Aside0.mk A190
        clear A190
        by_cases c20 : t114 = true
        · subst c20
          have H1 : ((mark_Next.f false a1 a2 a3).bind fun t115 => (if (t115 == false) = true then ((mark_Room.f false a1 a2 a3).bind fun t116 => (some (t116 == (!false)))) else (some false))) = some r := by rw [if_pos rfl] at H; exact H
          clear H
          have H := H1
          clear H1
          replace H := Option.bind_eq_some_iff.mp H
          obtain ⟨t115, A210, H⟩ := H
          replace H : (if (t115 == false) = true then ((mark_Room.f false a1 a2 a3).bind fun t116 => (some (t116 == (!false)))) else (some false)) = some r := H
          have A21 := Aside0.mk A210
          clear A210
          by_cases c22 : (t115 == false) = true
          · rw [if_pos c22] at H
            have c22b0 : (t115 == false) = true := c22
            (try (have c22b1 : decide (t115 = false) = true := by simpa using c22))
            (try (have c22b2 : (t115 == false) = true := by simpa using c22))
            clear c22
            replace H := Option.bind_eq_some_iff.mp H
            obtain ⟨t116, A230, H⟩ := H
            replace H : (some (t116 == (!false))) = some r := H
            have A23 := Aside0.mk A230
            clear A230
            obtain rfl := Option.some.inj H
            go_enter Try.func3, Try.ntmps3
            go_wp2_with (first | ((with_reducible refine gate_callee (f := 8) rfl ?_); refine goesL_ (some 25) rfl rfl Try.func8 (by kernel_rfl) rfl #[] rfl (by (try simp only [List.map_toArray, List.map_cons, List.map_nil]); first | done | rfl | (simp only [List.length_drop, List.length_take]; rfl)) ?_; (with_reducible refine (lockgatelaw13_awake.calls  true _ A19.out).mono ?_); rintro e w' ⟨rfl, ⟨nd, rfl⟩⟩; refine ⟨_, rfl, ?_⟩) | (go_at_call 9; (with_reducible refine (mark_Next.calls false a1 a2 a3 t115 _ A21.out).mono ?_); rintro e w' ⟨rfl, ⟨nd, rfl⟩⟩) | (go_at_call 10; (with_reducible refine (mark_Room.calls false a1 a2 a3 t116 _ A23.out).mono ?_); rintro e w' ⟨rfl, ⟨nd, rfl⟩⟩))
            go_ret
            exact ⟨by first | rfl | (simp; done) | (simp [*]; done), by repeat (first | exact Drawn0.refl _ | apply Drawn0.step)⟩
          · rw [if_neg c22] at H
            have c22b0 : (t115 == false) = false := by simpa using c22
            (try (have c22b1 : decide (t115 = false) = false := by simpa using c22))
            (try (have c22b2 : (t115 == false) = false := by simpa using c22))
            (try (have c22b3 : ¬ (t115 = false) := by simpa using c22))
            clear c22
            obtain rfl := Option.some.inj H
            go_enter Try.func3, Try.ntmps3
            go_wp2_with (first | ((with_reducible refine gate_callee (f := 8) rfl ?_); refine goesL_ (some 25) rfl rfl Try.func8 (by kernel_rfl) rfl #[] rfl (by (try simp only [List.map_toArray, List.map_cons, List.map_nil]); first | done | rfl | (simp only [List.length_drop, List.length_take]; rfl)) ?_; (with_reducible refine (lockgatelaw13_awake.calls  true _ A19.out).mono ?_); rintro e w' ⟨rfl, ⟨nd, rfl⟩⟩; refine ⟨_, rfl, ?_⟩) | (go_at_call 9; (with_reducible refine (mark_Next.calls false a1 a2 a3 t115 _ A21.out).mono ?_); rintro e w' ⟨rfl, ⟨nd, rfl⟩⟩))
            go_ret
            exact ⟨by first | rfl | (simp; done) | (simp [*]; done), by repeat (first | exact Drawn0.refl _ | apply Drawn0.step)⟩
        · replace c20 := Bool.eq_false_iff.mpr c20
          subst c20
          have H1 : (some false) = some r := by rw [if_neg (show ¬ (false = true) by decide)] at H; exact H
          clear H
          have H := H1
          clear H1
          obtain rfl := Option.some.inj H
          go_enter Try.func3, Try.ntmps3
          go_wp2_with (first | ((with_reducible refine gate_callee (f := 8) rfl ?_); refine goesL_ (some 25) rfl rfl Try.func8 (by kernel_rfl) rfl #[] rfl (by (try simp only [List.map_toArray, List.map_cons, List.map_nil]); first | done | rfl | (simp only [List.length_drop, List.length_take]; rfl)) ?_; (with_reducible refine (lockgatelaw13_awake.calls  false _ A19.out).mono ?_); rintro e w' ⟨rfl, ⟨nd, rfl⟩⟩; refine ⟨_, rfl, ?_⟩))
          go_ret
          exact ⟨by first | rfl | (simp; done) | (simp [*]; done), by repeat (first | exact Drawn0.refl _ | apply Drawn0.step)⟩

/-- THE ONE PURE STATEMENT of lockgatelaw13_MarkSteps: yours. -/
def lockgatelaw13_MarkSteps.Pure : Prop := ∀ (a0 : Bool) (a1 : Int) (a2 : Int) (a3 : Int), (Lit.int .i64 a1).wf = true → (Lit.int .i64 a2).wf = true → (Lit.int .i64 a3).wf = true → lockgatelaw13_MarkSteps.f a0 a1 a2 a3 = some true
theorem lockgatelaw13_MarkSteps.walk (P : lockgatelaw13_MarkSteps.Pure) (a0 : Bool) (a1 : Int) (a2 : Int) (a3 : Int) (w : World) (w1 : (Lit.int .i64 a1).wf = true) (w2 : (Lit.int .i64 a2).wf = true) (w3 : (Lit.int .i64 a3).wf = true) :
    Calls Try.prog 3 #[.bool a0, .int .i64 a1, .int .i64 a2, .int .i64 a3] w fun e w' => e = .returned (.bool true) ∧ Below w.heap.size w w' := by
  have h := P a0 a1 a2 a3 w1 w2 w3
  refine (lockgatelaw13_MarkSteps.calls a0 a1 a2 a3 true w h).mono ?_
  rintro e w' ⟨rfl, hd⟩
  exact ⟨rfl, hd.below⟩

end Go.Proofs.Ytbhjhffglcipbaa.PMarkSteps
