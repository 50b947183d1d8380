-- PRINTED BY print.sh 35421559b90ae4d0a3588c463048766b98c2df88dd9212a6774a882060cdf62d: not written by this session
import Derived.Test.YtlijhbmildfffaaPPictureNamesx0
namespace Go.Proofs.Ytlijhbmildfffaa.PPictureNames
open Go.RowKit Go.Proofs.YtlijhbmildfffaaW.PrintWords Go.Proofs.YtlijhbmildfffaaW.PrintLast Go.Proofs.YtlijhbmildfffaaW.PrintMore
attribute [local go_sem] max2_int min2_int max_two min_two max_three min_three max_four min_four   -- for this text's walks alone
set_option linter.unusedVariables false
set_option linter.unusedSimpArgs false

/-! ### dailieslaw12_num: function 9 -/
def dailieslaw12_num.f (a0 : Int) : Option (Int) := some a0
set_option maxHeartbeats 8000000 in
set_option maxRecDepth 100000 in
theorem dailieslaw12_num.calls (a0 : Int) (r : Int) (w : World) (h : dailieslaw12_num.f a0 = some r) :
    Calls Try.prog 9 #[.int .i64 a0] w fun e w' => e = .returned (.int .i64 r) ∧ Drawn0 w w' := by
  have H : (some a0) = some r := h
  clear h
  obtain rfl := Option.some.inj H
  go_enter Try.func9, Try.ntmps9
  go_wp2
  go_ret
  exact ⟨by first | rfl | (simp; done) | (simp [*]; done), by repeat (first | exact Drawn0.refl _ | apply Drawn0.step)⟩

/-! ### dailieslaw12_PictureNames: function 4 -/
def dailieslaw12_PictureNames.f  : Option (Bool) := (dailieslaw12_num.f 121).bind fun t101 => (if t101 = 121 then ((dailieslaw12_num.f 122).bind fun t102 => (if t102 = 122 then ((dailieslaw12_num.f 123).bind fun t103 => (if t103 = 123 then ((dailieslaw12_num.f 124).bind fun t104 => (if t104 = 124 then ((dailieslaw12_num.f 125).bind fun t105 => (if t105 = 125 then ((dailieslaw12_num.f 82).bind fun t106 => (if t106 = 82 then ((dailieslaw12_num.f 1).bind fun t107 => (some (t107 == 1))) else (some false))) else (some false))) else (some false))) else (some false))) else (some false))) else (some false))
set_option maxHeartbeats 8000000 in
set_option maxRecDepth 100000 in
theorem dailieslaw12_PictureNames.calls  (r : Bool) (w : World) (h : dailieslaw12_PictureNames.f  = some r) :
    Calls Try.prog 4 #[] w fun e w' => e = .returned (.bool r) ∧ Drawn0 w w' := by
  have H : ((dailieslaw12_num.f 121).bind fun t101 => (if t101 = 121 then ((dailieslaw12_num.f 122).bind fun t102 => (if t102 = 122 then ((dailieslaw12_num.f 123).bind fun t103 => (if t103 = 123 then ((dailieslaw12_num.f 124).bind fun t104 => (if t104 = 124 then ((dailieslaw12_num.f 125).bind fun t105 => (if t105 = 125 then ((dailieslaw12_num.f 82).bind fun t106 => (if t106 = 82 then ((dailieslaw12_num.f 1).bind fun t107 => (some (t107 == 1))) else (some false))) else (some false))) else (some false))) else (some false))) else (some false))) else (some false))) = some r := h
  clear h
  replace H := Option.bind_eq_some_iff.mp H
  obtain ⟨t101, A10, H⟩ := H
  replace H : (if t101 = 121 then ((dailieslaw12_num.f 122).bind fun t102 => (if t102 = 122 then ((dailieslaw12_num.f 123).bind fun t103 => (if t103 = 123 then ((dailieslaw12_num.f 124).bind fun t104 => (if t104 = 124 then ((dailieslaw12_num.f 125).bind fun t105 => (if t105 = 125 then ((dailieslaw12_num.f 82).bind fun t106 => (if t106 = 82 then ((dailieslaw12_num.f 1).bind fun t107 => (some (t107 == 1))) else (some false))) else (some false))) else (some false))) else (some false))) else (some false))) else (some false)) = some r := H
  have A1 := Aside0.mk A10
  clear A10
  by_cases c2 : t101 = 121
  · rw [if_pos c2] at H
    have c2b0 : (t101 == 121) = true := beq_iff_eq.mpr c2
    have c2b1 : (t101 != 121) = false := bne_eq_false_iff_eq.mpr c2
    clear c2
    replace H := Option.bind_eq_some_iff.mp H
    obtain ⟨t102, A30, H⟩ := H
    replace H : (if t102 = 122 then ((dailieslaw12_num.f 123).bind fun t103 => (if t103 = 123 then ((dailieslaw12_num.f 124).bind fun t104 => (if t104 = 124 then ((dailieslaw12_num.f 125).bind fun t105 => (if t105 = 125 then ((dailieslaw12_num.f 82).bind fun t106 => (if t106 = 82 then ((dailieslaw12_num.f 1).bind fun t107 => (some (t107 == 1))) else (some false))) else (some false))) else (some false))) else (some false))) else (some false)) = some r := H
    have A3 := Aside0.mk A30
    clear A30
    by_cases c4 : t102 = 122
    · rw [if_pos c4] at H
      have c4b0 : (t102 == 122) = true := beq_iff_eq.mpr c4
      have c4b1 : (t102 != 122) = false := bne_eq_false_iff_eq.mpr c4
      clear c4
      replace H := Option.bind_eq_some_iff.mp H
      obtain ⟨t103, A50, H⟩ := H
      replace H : (if t103 = 123 then ((dailieslaw12_num.f 124).bind fun t104 => (if t104 = 124 then ((dailieslaw12_num.f 125).bind fun t105 => (if t105 = 125 then ((dailieslaw12_num.f 82).bind fun t106 => (if t106 = 82 then ((dailieslaw12_num.f 1).bind fun t107 => (some (t107 == 1))) else (some false))) else (some false))) else (some false))) else (some false)) = some r := H
      have A5 := Aside0.mk A50
      clear A50
      by_cases c6 : t103 = 123
      · rw [if_pos c6] at H
        have c6b0 : (t103 == 123) = true := beq_iff_eq.mpr c6
        have c6b1 : (t103 != 123) = false := bne_eq_false_iff_eq.mpr c6
        clear c6
        replace H := Option.bind_eq_some_iff.mp H
        obtain ⟨t104, A70, H⟩ := H
        replace H : (if t104 = 124 then ((dailieslaw12_num.f 125).bind fun t105 => (if t105 = 125 then ((dailieslaw12_num.f 82).bind fun t106 => (if t106 = 82 then ((dailieslaw12_num.f 1).bind fun t107 => (some (t107 == 1))) else (some false))) else (some false))) else (some false)) = some r := H
        have A7 := Aside0.mk A70
        clear A70
        by_cases c8 : t104 = 124
        · rw [if_pos c8] at H
          have c8b0 : (t104 == 124) = true := beq_iff_eq.mpr c8
          have c8b1 : (t104 != 124) = false := bne_eq_false_iff_eq.mpr c8
          clear c8
          replace H := Option.bind_eq_some_iff.mp H
          obtain ⟨t105, A90, H⟩ := H
          replace H : (if t105 = 125 then ((dailieslaw12_num.f 82).bind fun t106 => (if t106 = 82 then ((dailieslaw12_num.f 1).bind fun t107 => (some (t107 == 1))) else (some false))) else (some false)) = some r := H
          have A9 := Aside0.mk A90
          clear A90
          by_cases c10 : t105 = 125
          · rw [if_pos c10] at H
            have c10b0 : (t105 == 125) = true := beq_iff_eq.mpr c10
            have c10b1 : (t105 != 125) = false := bne_eq_false_iff_eq.mpr c10
            clear c10
            replace H := Option.bind_eq_some_iff.mp H
            obtain ⟨t106, A110, H⟩ := H
            replace H : (if t106 = 82 then ((dailieslaw12_num.f 1).bind fun t107 => (some (t107 == 1))) else (some false)) = some r := H
            have A11 := Aside0.mk A110
            clear A110
            by_cases c12 : t106 = 82
            · rw [if_pos c12] at H
              have c12b0 : (t106 == 82) = true := beq_iff_eq.mpr c12
              have c12b1 : (t106 != 82) = false := bne_eq_false_iff_eq.mpr c12
              clear c12
              replace H := Option.bind_eq_some_iff.mp H
              obtain ⟨t107, A130, H⟩ := H
              replace H : (some (t107 == 1)) = some r := H
              have A13 := Aside0.mk A130
              clear A130
              obtain rfl := Option.some.inj H
              go_enter Try.func4, Try.ntmps4
              go_wp2_with (first | ((with_reducible refine gate_callee (f := 9) rfl ?_); refine goesL_ (some 2) rfl rfl Try.func9 (by kernel_rfl) rfl #[.int .i64 121] rfl (by (try simp only [List.map_toArray, List.map_cons, List.map_nil]); first | done | rfl | (simp only [List.length_drop, List.length_take]; rfl)) ?_; (with_reducible refine (dailieslaw12_num.calls 121 t101 _ A1.out).mono ?_); rintro e w' ⟨rfl, ⟨nd, rfl⟩⟩; refine ⟨_, rfl, ?_⟩) | (go_at_call 9; (with_reducible refine (dailieslaw12_num.calls 122 t102 _ A3.out).mono ?_); rintro e w' ⟨rfl, ⟨nd, rfl⟩⟩) | (go_at_call 9; (with_reducible refine (dailieslaw12_num.calls 123 t103 _ A5.out).mono ?_); rintro e w' ⟨rfl, ⟨nd, rfl⟩⟩) | (go_at_call 9; (with_reducible refine (dailieslaw12_num.calls 124 t104 _ A7.out).mono ?_); rintro e w' ⟨rfl, ⟨nd, rfl⟩⟩) | (go_at_call 9; (with_reducible refine (dailieslaw12_num.calls 125 t105 _ A9.out).mono ?_); rintro e w' ⟨rfl, ⟨nd, rfl⟩⟩) | (go_at_call 9; (with_reducible refine (dailieslaw12_num.calls 82 t106 _ A11.out).mono ?_); rintro e w' ⟨rfl, ⟨nd, rfl⟩⟩) | (go_at_call 9; (with_reducible refine (dailieslaw12_num.calls 1 t107 _ A13.out).mono ?_); rintro e w' ⟨rfl, ⟨nd, rfl⟩⟩))
              go_ret
              exact ⟨by first | rfl | (simp; done) | (simp [*]; done), by repeat (first | exact Drawn0.refl _ | apply Drawn0.step)⟩
            · rw [if_neg c12] at H
              have c12b0 : (t106 == 82) = false := beq_eq_false_iff_ne.mpr c12
              have c12b1 : (t106 != 82) = true := bne_iff_ne.mpr c12
              obtain rfl := Option.some.inj H
              go_enter Try.func4, Try.ntmps4
              go_wp2_with (first | ((with_reducible refine gate_callee (f := 9) rfl ?_); refine goesL_ (some 2) rfl rfl Try.func9 (by kernel_rfl) rfl #[.int .i64 121] rfl (by (try simp only [List.map_toArray, List.map_cons, List.map_nil]); first | done | rfl | (simp only [List.length_drop, List.length_take]; rfl)) ?_; (with_reducible refine (dailieslaw12_num.calls 121 t101 _ A1.out).mono ?_); rintro e w' ⟨rfl, ⟨nd, rfl⟩⟩; refine ⟨_, rfl, ?_⟩) | (go_at_call 9; (with_reducible refine (dailieslaw12_num.calls 122 t102 _ A3.out).mono ?_); rintro e w' ⟨rfl, ⟨nd, rfl⟩⟩) | (go_at_call 9; (with_reducible refine (dailieslaw12_num.calls 123 t103 _ A5.out).mono ?_); rintro e w' ⟨rfl, ⟨nd, rfl⟩⟩) | (go_at_call 9; (with_reducible refine (dailieslaw12_num.calls 124 t104 _ A7.out).mono ?_); rintro e w' ⟨rfl, ⟨nd, rfl⟩⟩) | (go_at_call 9; (with_reducible refine (dailieslaw12_num.calls 125 t105 _ A9.out).mono ?_); rintro e w' ⟨rfl, ⟨nd, rfl⟩⟩) | (go_at_call 9; (with_reducible refine (dailieslaw12_num.calls 82 t106 _ A11.out).mono ?_); rintro e w' ⟨rfl, ⟨nd, rfl⟩⟩))
              go_ret
              exact ⟨by first | rfl | (simp; done) | (simp [*]; done), by repeat (first | exact Drawn0.refl _ | apply Drawn0.step)⟩
          · rw [if_neg c10] at H
            have c10b0 : (t105 == 125) = false := beq_eq_false_iff_ne.mpr c10
            have c10b1 : (t105 != 125) = true := bne_iff_ne.mpr c10
            obtain rfl := Option.some.inj H
            go_enter Try.func4, Try.ntmps4
            go_wp2_with (first | ((with_reducible refine gate_callee (f := 9) rfl ?_); refine goesL_ (some 2) rfl rfl Try.func9 (by kernel_rfl) rfl #[.int .i64 121] rfl (by (try simp only [List.map_toArray, List.map_cons, List.map_nil]); first | done | rfl | (simp only [List.length_drop, List.length_take]; rfl)) ?_; (with_reducible refine (dailieslaw12_num.calls 121 t101 _ A1.out).mono ?_); rintro e w' ⟨rfl, ⟨nd, rfl⟩⟩; refine ⟨_, rfl, ?_⟩) | (go_at_call 9; (with_reducible refine (dailieslaw12_num.calls 122 t102 _ A3.out).mono ?_); rintro e w' ⟨rfl, ⟨nd, rfl⟩⟩) | (go_at_call 9; (with_reducible refine (dailieslaw12_num.calls 123 t103 _ A5.out).mono ?_); rintro e w' ⟨rfl, ⟨nd, rfl⟩⟩) | (go_at_call 9; (with_reducible refine (dailieslaw12_num.calls 124 t104 _ A7.out).mono ?_); rintro e w' ⟨rfl, ⟨nd, rfl⟩⟩) | (go_at_call 9; (with_reducible refine (dailieslaw12_num.calls 125 t105 _ A9.out).mono ?_); rintro e w' ⟨rfl, ⟨nd, rfl⟩⟩))
            go_ret
            exact ⟨by first | rfl | (simp; done) | (simp [*]; done), by repeat (first | exact Drawn0.refl _ | apply Drawn0.step)⟩
        · rw [if_neg c8] at H
          have c8b0 : (t104 == 124) = false := beq_eq_false_iff_ne.mpr c8
          have c8b1 : (t104 != 124) = true := bne_iff_ne.mpr c8
          obtain rfl := Option.some.inj H
          go_enter Try.func4, Try.ntmps4
          go_wp2_with (first | ((with_reducible refine gate_callee (f := 9) rfl ?_); refine goesL_ (some 2) rfl rfl Try.func9 (by kernel_rfl) rfl #[.int .i64 121] rfl (by (try simp only [List.map_toArray, List.map_cons, List.map_nil]); first | done | rfl | (simp only [List.length_drop, List.length_take]; rfl)) ?_; (with_reducible refine (dailieslaw12_num.calls 121 t101 _ A1.out).mono ?_); rintro e w' ⟨rfl, ⟨nd, rfl⟩⟩; refine ⟨_, rfl, ?_⟩) | (go_at_call 9; (with_reducible refine (dailieslaw12_num.calls 122 t102 _ A3.out).mono ?_); rintro e w' ⟨rfl, ⟨nd, rfl⟩⟩) | (go_at_call 9; (with_reducible refine (dailieslaw12_num.calls 123 t103 _ A5.out).mono ?_); rintro e w' ⟨rfl, ⟨nd, rfl⟩⟩) | (go_at_call 9; (with_reducible refine (dailieslaw12_num.calls 124 t104 _ A7.out).mono ?_); rintro e w' ⟨rfl, ⟨nd, rfl⟩⟩))
          go_ret
          exact ⟨by first | rfl | (simp; done) | (simp [*]; done), by repeat (first | exact Drawn0.refl _ | apply Drawn0.step)⟩
      · rw [if_neg c6] at H
        have c6b0 : (t103 == 123) = false := beq_eq_false_iff_ne.mpr c6
        have c6b1 : (t103 != 123) = true := bne_iff_ne.mpr c6
        obtain rfl := Option.some.inj H
        go_enter Try.func4, Try.ntmps4
        go_wp2_with (first | ((with_reducible refine gate_callee (f := 9) rfl ?_); refine goesL_ (some 2) rfl rfl Try.func9 (by kernel_rfl) rfl #[.int .i64 121] rfl (by (try simp only [List.map_toArray, List.map_cons, List.map_nil]); first | done | rfl | (simp only [List.length_drop, List.length_take]; rfl)) ?_; (with_reducible refine (dailieslaw12_num.calls 121 t101 _ A1.out).mono ?_); rintro e w' ⟨rfl, ⟨nd, rfl⟩⟩; refine ⟨_, rfl, ?_⟩) | (go_at_call 9; (with_reducible refine (dailieslaw12_num.calls 122 t102 _ A3.out).mono ?_); rintro e w' ⟨rfl, ⟨nd, rfl⟩⟩) | (go_at_call 9; (with_reducible refine (dailieslaw12_num.calls 123 t103 _ A5.out).mono ?_); rintro e w' ⟨rfl, ⟨nd, rfl⟩⟩))
        go_ret
        exact ⟨by first | rfl | (simp; done) | (simp [*]; done), by repeat (first | exact Drawn0.refl _ | apply Drawn0.step)⟩
    · rw [if_neg c4] at H
      have c4b0 : (t102 == 122) = false := beq_eq_false_iff_ne.mpr c4
      have c4b1 : (t102 != 122) = true := bne_iff_ne.mpr c4
      obtain rfl := Option.some.inj H
      go_enter Try.func4, Try.ntmps4
      go_wp2_with (first | ((with_reducible refine gate_callee (f := 9) rfl ?_); refine goesL_ (some 2) rfl rfl Try.func9 (by kernel_rfl) rfl #[.int .i64 121] rfl (by (try simp only [List.map_toArray, List.map_cons, List.map_nil]); first | done | rfl | (simp only [List.length_drop, List.length_take]; rfl)) ?_; (with_reducible refine (dailieslaw12_num.calls 121 t101 _ A1.out).mono ?_); rintro e w' ⟨rfl, ⟨nd, rfl⟩⟩; refine ⟨_, rfl, ?_⟩) | (go_at_call 9; (with_reducible refine (dailieslaw12_num.calls 122 t102 _ A3.out).mono ?_); rintro e w' ⟨rfl, ⟨nd, rfl⟩⟩))
      go_ret
      exact ⟨by first | rfl | (simp; done) | (simp [*]; done), by repeat (first | exact Drawn0.refl _ | apply Drawn0.step)⟩
  · rw [if_neg c2] at H
    have c2b0 : (t101 == 121) = false := beq_eq_false_iff_ne.mpr c2
    have c2b1 : (t101 != 121) = true := bne_iff_ne.mpr c2
    obtain rfl := Option.some.inj H
    go_enter Try.func4, Try.ntmps4
    go_wp2_with (first | ((with_reducible refine gate_callee (f := 9) rfl ?_); refine goesL_ (some 2) rfl rfl Try.func9 (by kernel_rfl) rfl #[.int .i64 121] rfl (by (try simp only [List.map_toArray, List.map_cons, List.map_nil]); first | done | rfl | (simp only [List.length_drop, List.length_take]; rfl)) ?_; (with_reducible refine (dailieslaw12_num.calls 121 t101 _ A1.out).mono ?_); rintro e w' ⟨rfl, ⟨nd, rfl⟩⟩; refine ⟨_, rfl, ?_⟩))
    go_ret
    exact ⟨by first | rfl | (simp; done) | (simp [*]; done), by repeat (first | exact Drawn0.refl _ | apply Drawn0.step)⟩

/-- THE ONE PURE STATEMENT of dailieslaw12_PictureNames: yours. -/
def dailieslaw12_PictureNames.Pure : Prop := dailieslaw12_PictureNames.f  = some true
theorem dailieslaw12_PictureNames.walk (P : dailieslaw12_PictureNames.Pure)  (w : World)  :
    Calls Try.prog 4 #[] w fun e w' => e = .returned (.bool true) ∧ Below w.heap.size w w' := by
  have h := P  
  refine (dailieslaw12_PictureNames.calls  true w h).mono ?_
  rintro e w' ⟨rfl, hd⟩
  exact ⟨rfl, hd.below⟩

end Go.Proofs.Ytlijhbmildfffaa.PPictureNames
