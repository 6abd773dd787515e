-- PRINTED BY print.sh 35421559b90ae4d0a3588c463048766b98c2df88dd9212a6774a882060cdf62d: not written by this session
import Derived.Test.YtbpdjcjhdjkinaaPRolesOwnx0
import Derived.Test.YtbpdjcjhdjkinaaPRolesOwnx1
namespace Go.Proofs.Ytbpdjcjhdjkinaa.PRolesOwn
open Go.RowKit Go.Proofs.YtbpdjcjhdjkinaaW.PrintWords Go.Proofs.YtbpdjcjhdjkinaaW.PrintLast Go.Proofs.YtbpdjcjhdjkinaaW.PrintMore
attribute [local go_sem] max2_int min2_int max_two min_two max_three min_three max_four min_four   -- for this text's walks alone
set_option linter.unusedVariables false
set_option linter.unusedSimpArgs false

/-! ### munimentlaw06_RolesOwn: function 7 -/
mutual
def munimentlaw06_RolesOwn.j0 : Nat → Int → Int → Int → Int → Bool → Option (Bool)
  | 0, _, _, _, _, _ => none
  | k + 1, x0, x1, x2, x3, x19 => if x19 = true then ((munimentlaw06_awake.f k).bind fun t104 => (some t104)) else ((roles_May.f k x0 x1 true x2 x3).bind fun t105 => (if x1 = 4 then (munimentlaw06_RolesOwn.j1 k x0 x1 x2 x3 t105 x1 (x1 == 4)) else (if x1 = 5 then (munimentlaw06_RolesOwn.j1 k x0 x1 x2 x3 t105 x1 (x1 == 5)) else (if x1 = 6 then (munimentlaw06_RolesOwn.j1 k x0 x1 x2 x3 t105 x1 (x1 == 6)) else (munimentlaw06_RolesOwn.j1 k x0 x1 x2 x3 t105 x1 (x1 == 9))))))
def munimentlaw06_RolesOwn.j1 : Nat → Int → Int → Int → Int → Bool → Int → Bool → Option (Bool)
  | 0, _, _, _, _, _, _, _ => none
  | k + 1, x0, x1, x2, x3, x9, x26, x27 => if x27 = true then (some x9) else (if x26 = 2 then (some (!x9)) else (if x26 = 8 then (some (!x9)) else (if x26 = 7 then (some (!x9)) else (if x26 = 3 then (some (!x9)) else ((roles_May.f k x0 x1 false x2 x3).bind fun t106 => (some (x9 == t106)))))))
end
def munimentlaw06_RolesOwn.f (k : Nat) (a0 : Int) (a1 : Int) (a2 : Int) (a3 : Int) : Option (Bool) := (munimentlaw06_awake.f k).bind fun t103 => (if t103 = true then (if a0 < 1 then (munimentlaw06_RolesOwn.j0 k a0 a1 a2 a3 true) else (munimentlaw06_RolesOwn.j0 k a0 a1 a2 a3 (decide (a0 > 3)))) else (munimentlaw06_RolesOwn.j0 k a0 a1 a2 a3 true))
theorem munimentlaw06_RolesOwn.mono_l : ∀ k, (∀ y0 y1 y2 y3 y4, LeO (munimentlaw06_RolesOwn.j0 k y0 y1 y2 y3 y4) (munimentlaw06_RolesOwn.j0 (k + 1) y0 y1 y2 y3 y4)) ∧ (∀ y0 y1 y2 y3 y4 y5 y6, LeO (munimentlaw06_RolesOwn.j1 k y0 y1 y2 y3 y4 y5 y6) (munimentlaw06_RolesOwn.j1 (k + 1) y0 y1 y2 y3 y4 y5 y6))
  | 0 => ⟨fun _ _ _ _ _ r h => by simp [munimentlaw06_RolesOwn.j0] at h, fun _ _ _ _ _ _ _ r h => by simp [munimentlaw06_RolesOwn.j1] at h⟩
  | k + 1 => by
    obtain ⟨ih0, ih1⟩ := munimentlaw06_RolesOwn.mono_l k
    refine ⟨?_, ?_⟩
    · intro y0 y1 y2 y3 y4
      unfold munimentlaw06_RolesOwn.j0
      repeat' first
      | (with_reducible exact ih0 _ _ _ _ _)
      | (with_reducible exact ih1 _ _ _ _ _ _ _)
      | (with_reducible exact munimentlaw06_awake.mono _)
      | (with_reducible exact roles_May.mono _ _ _ _ _ _)
      | (with_reducible exact LeO.refl _)
      | (with_reducible exact LeO.none _)
      | (with_reducible refine LeO.ite ?_ ?_)
      | (with_reducible refine LeO.bind ?_ (fun _ => ?_))
      | exact ih0 _ _ _ _ _
      | exact ih1 _ _ _ _ _ _ _
      | exact munimentlaw06_awake.mono _
      | exact roles_May.mono _ _ _ _ _ _
      | exact LeO.none _
      | refine LeO.ite ?_ ?_
      | refine LeO.bind ?_ (fun _ => ?_)
    · intro y0 y1 y2 y3 y4 y5 y6
      unfold munimentlaw06_RolesOwn.j1
      repeat' first
      | (with_reducible exact ih0 _ _ _ _ _)
      | (with_reducible exact ih1 _ _ _ _ _ _ _)
      | (with_reducible exact munimentlaw06_awake.mono _)
      | (with_reducible exact roles_May.mono _ _ _ _ _ _)
      | (with_reducible exact LeO.refl _)
      | (with_reducible exact LeO.none _)
      | (with_reducible refine LeO.ite ?_ ?_)
      | (with_reducible refine LeO.bind ?_ (fun _ => ?_))
      | exact ih0 _ _ _ _ _
      | exact ih1 _ _ _ _ _ _ _
      | exact munimentlaw06_awake.mono _
      | exact roles_May.mono _ _ _ _ _ _
      | exact LeO.none _
      | refine LeO.ite ?_ ?_
      | refine LeO.bind ?_ (fun _ => ?_)
theorem munimentlaw06_RolesOwn.mono : ∀ a0 a1 a2 a3 k, LeO (munimentlaw06_RolesOwn.f k a0 a1 a2 a3) (munimentlaw06_RolesOwn.f (k + 1) a0 a1 a2 a3) := by
  intro a0 a1 a2 a3 k
  obtain ⟨ih0, ih1⟩ := munimentlaw06_RolesOwn.mono_l k
  unfold munimentlaw06_RolesOwn.f
  repeat' first
      | (with_reducible exact ih0 _ _ _ _ _)
      | (with_reducible exact ih1 _ _ _ _ _ _ _)
      | (with_reducible exact munimentlaw06_awake.mono _)
      | (with_reducible exact roles_May.mono _ _ _ _ _ _)
      | (with_reducible exact LeO.refl _)
      | (with_reducible exact LeO.none _)
      | (with_reducible refine LeO.ite ?_ ?_)
      | (with_reducible refine LeO.bind ?_ (fun _ => ?_))
      | exact ih0 _ _ _ _ _
      | exact ih1 _ _ _ _ _ _ _
      | exact munimentlaw06_awake.mono _
      | exact roles_May.mono _ _ _ _ _ _
      | exact LeO.none _
      | refine LeO.ite ?_ ?_
      | refine LeO.bind ?_ (fun _ => ?_)
set_option maxHeartbeats 8000000 in
set_option maxRecDepth 100000 in
theorem munimentlaw06_RolesOwn.calls (k : Nat) (a0 : Int) (a1 : Int) (a2 : Int) (a3 : Int) (r : Bool) (w : World) (h : munimentlaw06_RolesOwn.f k a0 a1 a2 a3 = some r) :
    Calls Try.prog 7 #[.int .u8 a0, .int .u8 a1, .int .u8 a2, .int .u8 a3] w fun e w' => e = .returned (.bool r) ∧ Drawn0 w w' := by
  have H : ((munimentlaw06_awake.f k).bind fun t103 => (if t103 = true then (if a0 < 1 then (munimentlaw06_RolesOwn.j0 k a0 a1 a2 a3 true) else (munimentlaw06_RolesOwn.j0 k a0 a1 a2 a3 (decide (a0 > 3)))) else (munimentlaw06_RolesOwn.j0 k a0 a1 a2 a3 true))) = some r := h
  clear h
  have HC5 := Aside0.mk H
  clear H
  go_enter Try.func7, Try.ntmps7
  go_upto_region 1 with (fail)
  go_cut [19] (fun v19 wc => ∃ (kq : Nat) (x19_4 : Bool), v19 = .bool x19_4 ∧ Aside0 (munimentlaw06_RolesOwn.j0 kq a0 a1 a2 a3 x19_4 = some r) ∧ Aside0 (kq ≤ k) ∧ Drawn0 w wc)
  case first =>
    have H := HC5.out
    clear HC5
    replace H := Option.bind_eq_some_iff.mp H
    obtain ⟨t103, A60, H⟩ := H
    replace H : (if t103 = true then (if a0 < 1 then (munimentlaw06_RolesOwn.j0 k a0 a1 a2 a3 true) else (munimentlaw06_RolesOwn.j0 k a0 a1 a2 a3 (decide (a0 > 3)))) else (munimentlaw06_RolesOwn.j0 k a0 a1 a2 a3 true)) = some r := H
    have A6 := Aside0.mk A60
    clear A60
    by_cases c7 : t103 = true
    · subst c7
      have H1 : (if a0 < 1 then (munimentlaw06_RolesOwn.j0 k a0 a1 a2 a3 true) else (munimentlaw06_RolesOwn.j0 k a0 a1 a2 a3 (decide (a0 > 3)))) = some r := by rw [if_pos rfl] at H; exact H
      clear H
      have H := H1
      clear H1
      by_cases c8 : a0 < 1
      · rw [if_pos c8] at H
        have c8b0 : decide (a0 < 1) = true := decide_eq_true c8
        clear c8
        (first | rw [c8b0] | (simp only [i64_w, i32_w]; rw [c8b0]) | skip)
        have H' := Aside0.mk H
        clear H
        go_wp2_with (first | ((with_reducible refine gate_callee (f := 17) rfl ?_); refine goesL_ (some 10) rfl rfl Try.func17 (by kernel_rfl) rfl #[] rfl (by (try simp only [List.map_toArray, List.map_cons, List.map_nil]); first | done | rfl | (simp only [List.length_drop, List.length_take]; rfl)) ?_; (with_reducible refine (munimentlaw06_awake.calls k  true _ A6.out).mono ?_); rintro e w' ⟨rfl, ⟨nd, rfl⟩⟩; refine ⟨_, rfl, ?_⟩))
        go_meet
        case rel => exact ⟨_, (true), (by first | rfl | (simp; done) | (simp [*]; done)), H', ⟨by first | omega | exact Nat.le_refl _⟩, by repeat (first | exact Drawn0.refl _ | apply Drawn0.step)⟩
      · rw [if_neg c8] at H
        have c8b0 : decide (a0 < 1) = false := decide_eq_false c8
        clear c8
        (first | rw [c8b0] | (simp only [i64_w, i32_w]; rw [c8b0]) | skip)
        have H' := Aside0.mk H
        clear H
        go_wp2_with (first | ((with_reducible refine gate_callee (f := 17) rfl ?_); refine goesL_ (some 10) rfl rfl Try.func17 (by kernel_rfl) rfl #[] rfl (by (try simp only [List.map_toArray, List.map_cons, List.map_nil]); first | done | rfl | (simp only [List.length_drop, List.length_take]; rfl)) ?_; (with_reducible refine (munimentlaw06_awake.calls k  true _ A6.out).mono ?_); rintro e w' ⟨rfl, ⟨nd, rfl⟩⟩; refine ⟨_, rfl, ?_⟩))
        go_meet
        case rel => exact ⟨_, (decide (a0 > 3)), (by first | rfl | (simp; done) | (simp [*]; done)), H', ⟨by first | omega | exact Nat.le_refl _⟩, by repeat (first | exact Drawn0.refl _ | apply Drawn0.step)⟩
    · replace c7 := Bool.eq_false_iff.mpr c7
      subst c7
      have H1 : (munimentlaw06_RolesOwn.j0 k a0 a1 a2 a3 true) = some r := by rw [if_neg (show ¬ (false = true) by decide)] at H; exact H
      clear H
      have H := H1
      clear H1
      have H' := Aside0.mk H
      clear H
      go_wp2_with (first | ((with_reducible refine gate_callee (f := 17) rfl ?_); refine goesL_ (some 10) rfl rfl Try.func17 (by kernel_rfl) rfl #[] rfl (by (try simp only [List.map_toArray, List.map_cons, List.map_nil]); first | done | rfl | (simp only [List.length_drop, List.length_take]; rfl)) ?_; (with_reducible refine (munimentlaw06_awake.calls k  false _ A6.out).mono ?_); rintro e w' ⟨rfl, ⟨nd, rfl⟩⟩; refine ⟨_, rfl, ?_⟩))
      go_meet
      case rel => exact ⟨_, (true), (by first | rfl | (simp; done) | (simp [*]; done)), H', ⟨by first | omega | exact Nat.le_refl _⟩, by repeat (first | exact Drawn0.refl _ | apply Drawn0.step)⟩
  case rest =>
    clear HC5
    try clear c1
    try clear p2
    try clear c7
    try clear c8
    try clear c8b0
    obtain ⟨kq, x19_4, rfl, HA, HJ4, ⟨mc4, rfl⟩⟩ := hcut
    cases kq with
    | zero => exact absurd HA.out (by simp [munimentlaw06_RolesOwn.j0])
    | succ kj4 =>
      have H := HA.out
      clear HA
      simp only [munimentlaw06_RolesOwn.j0] at H
      by_cases c9 : x19_4 = true
      · subst c9
        have H1 : ((munimentlaw06_awake.f kj4).bind fun t104 => (some t104)) = some r := by rw [if_pos rfl] at H; exact H
        clear H
        have H := H1
        clear H1
        replace H := Option.bind_eq_some_iff.mp H
        obtain ⟨t104, A100, H⟩ := H
        replace H : (some t104) = some r := H
        have A10 := Aside0.mk A100
        clear A100
        obtain rfl := Option.some.inj H
        go_wp2_with (first | ((with_reducible refine gate_callee (f := 17) rfl ?_); refine goesL_ (some 20) rfl rfl Try.func17 (by kernel_rfl) rfl #[] rfl (by (try simp only [List.map_toArray, List.map_cons, List.map_nil]); first | done | rfl | (simp only [List.length_drop, List.length_take]; rfl)) ?_; (with_reducible refine (munimentlaw06_awake.calls kj4  t104 _ A10.out).mono ?_); rintro e w' ⟨rfl, ⟨nd, rfl⟩⟩; refine ⟨_, rfl, ?_⟩))
        go_ret
        exact ⟨by first | rfl | (simp; done) | (simp [*]; done), by repeat (first | exact Drawn0.refl _ | apply Drawn0.step)⟩
      · replace c9 := Bool.eq_false_iff.mpr c9
        subst c9
        have H1 : ((roles_May.f kj4 a0 a1 true a2 a3).bind fun t105 => (if a1 = 4 then (munimentlaw06_RolesOwn.j1 kj4 a0 a1 a2 a3 t105 a1 (a1 == 4)) else (if a1 = 5 then (munimentlaw06_RolesOwn.j1 kj4 a0 a1 a2 a3 t105 a1 (a1 == 5)) else (if a1 = 6 then (munimentlaw06_RolesOwn.j1 kj4 a0 a1 a2 a3 t105 a1 (a1 == 6)) else (munimentlaw06_RolesOwn.j1 kj4 a0 a1 a2 a3 t105 a1 (a1 == 9)))))) = some r := by rw [if_neg (show ¬ (false = true) by decide)] at H; exact H
        clear H
        have H := H1
        clear H1
        replace H := Option.bind_eq_some_iff.mp H
        obtain ⟨t105, A110, H⟩ := H
        replace H : (if a1 = 4 then (munimentlaw06_RolesOwn.j1 kj4 a0 a1 a2 a3 t105 a1 (a1 == 4)) else (if a1 = 5 then (munimentlaw06_RolesOwn.j1 kj4 a0 a1 a2 a3 t105 a1 (a1 == 5)) else (if a1 = 6 then (munimentlaw06_RolesOwn.j1 kj4 a0 a1 a2 a3 t105 a1 (a1 == 6)) else (munimentlaw06_RolesOwn.j1 kj4 a0 a1 a2 a3 t105 a1 (a1 == 9))))) = some r := H
        have A11 := Aside0.mk A110
        clear A110
        have HC12 := Aside0.mk H
        clear H
        go_upto_if 27 with (first | ((with_reducible refine gate_callee (f := 18) rfl ?_); refine goesL_ (some 25) rfl rfl Try.func18 (by kernel_rfl) rfl #[.int .u8 a0, .int .u8 a1, .bool true, .int .u8 a2, .int .u8 a3] rfl (by (try simp only [List.map_toArray, List.map_cons, List.map_nil]); first | done | rfl | (simp only [List.length_drop, List.length_take]; rfl)) ?_; (with_reducible refine (roles_May.calls kj4 a0 a1 true a2 a3 t105 _ A11.out).mono ?_); rintro e w' ⟨rfl, ⟨nd, rfl⟩⟩; refine ⟨_, rfl, ?_⟩))
        (try simp only [Act.put, List.setIfInBounds_toArray, List.set_cons_zero, List.set_cons_succ])
        go_cut [27] (fun v27 wc => ∃ (kq : Nat) (x27_11 : Bool), v27 = .bool x27_11 ∧ Aside0 (munimentlaw06_RolesOwn.j1 kq a0 a1 a2 a3 t105 a1 x27_11 = some r) ∧ Aside0 (kq ≤ kj4) ∧ Drawn0 w wc)
        case first =>
          have H := HC12.out
          clear HC12
          by_cases c13 : a1 = 4
          · rw [if_pos c13] at H
            have c13b0 : (a1 == 4) = true := beq_iff_eq.mpr c13
            have c13b1 : (a1 != 4) = false := bne_eq_false_iff_eq.mpr c13
            clear c13
            (first | rw [c13b0] | (simp only [i64_w, i32_w]; rw [c13b0]) | skip)
            have H' := Aside0.mk H
            clear H
            go_wp2
            go_meet
            case rel => exact ⟨_, ((a1 == 4)), (by first | rfl | (simp; done) | (simp [*]; done)), H', ⟨by have := HJ4.out; first | omega | exact Nat.le_refl _⟩, by repeat (first | exact Drawn0.refl _ | apply Drawn0.step)⟩
          · rw [if_neg c13] at H
            have c13b0 : (a1 == 4) = false := beq_eq_false_iff_ne.mpr c13
            have c13b1 : (a1 != 4) = true := bne_iff_ne.mpr c13
            (first | rw [c13b0] | (simp only [i64_w, i32_w]; rw [c13b0]) | skip)
            by_cases c14 : a1 = 5
            · rw [if_pos c14] at H
              have c14b0 : (a1 == 5) = true := beq_iff_eq.mpr c14
              have c14b1 : (a1 != 5) = false := bne_eq_false_iff_eq.mpr c14
              clear c14
              have H' := Aside0.mk H
              clear H
              go_wp2
              go_meet
              case rel => exact ⟨_, ((a1 == 5)), (by first | rfl | (simp; done) | (simp [*]; done)), H', ⟨by have := HJ4.out; first | omega | exact Nat.le_refl _⟩, by repeat (first | exact Drawn0.refl _ | apply Drawn0.step)⟩
            · rw [if_neg c14] at H
              have c14b0 : (a1 == 5) = false := beq_eq_false_iff_ne.mpr c14
              have c14b1 : (a1 != 5) = true := bne_iff_ne.mpr c14
              by_cases c15 : a1 = 6
              · rw [if_pos c15] at H
                have c15b0 : (a1 == 6) = true := beq_iff_eq.mpr c15
                have c15b1 : (a1 != 6) = false := bne_eq_false_iff_eq.mpr c15
                clear c15
                have H' := Aside0.mk H
                clear H
                go_wp2
                go_meet
                case rel => exact ⟨_, ((a1 == 6)), (by first | rfl | (simp; done) | (simp [*]; done)), H', ⟨by have := HJ4.out; first | omega | exact Nat.le_refl _⟩, by repeat (first | exact Drawn0.refl _ | apply Drawn0.step)⟩
              · rw [if_neg c15] at H
                have c15b0 : (a1 == 6) = false := beq_eq_false_iff_ne.mpr c15
                have c15b1 : (a1 != 6) = true := bne_iff_ne.mpr c15
                have H' := Aside0.mk H
                clear H
                go_wp2
                go_meet
                case rel => exact ⟨_, ((a1 == 9)), (by first | rfl | (simp; done) | (simp [*]; done)), H', ⟨by have := HJ4.out; first | omega | exact Nat.le_refl _⟩, by repeat (first | exact Drawn0.refl _ | apply Drawn0.step)⟩
        case rest =>
          clear HC12
          try clear c1
          try clear p2
          try clear c4
          try clear c7
          try clear c8
          try clear c8b0
          try clear c9
          try clear c13
          try clear c13b0
          try clear c13b1
          try clear c14
          try clear c14b0
          try clear c14b1
          try clear c15
          try clear c15b0
          try clear c15b1
          try clear p2
          obtain ⟨kq, x27_11, rfl, HA, HJ11, ⟨mc11, rfl⟩⟩ := hcut
          cases kq with
          | zero => exact absurd HA.out (by simp [munimentlaw06_RolesOwn.j1])
          | succ kj11 =>
            have H := HA.out
            clear HA
            simp only [munimentlaw06_RolesOwn.j1] at H
            by_cases c16 : x27_11 = true
            · subst c16
              have H1 : (some t105) = some r := by rw [if_pos rfl] at H; exact H
              clear H
              have H := H1
              clear H1
              obtain rfl := Option.some.inj H
              go_wp2
              go_ret
              exact ⟨by first | rfl | (simp; done) | (simp [*]; done), by repeat (first | exact Drawn0.refl _ | apply Drawn0.step)⟩
            · replace c16 := Bool.eq_false_iff.mpr c16
              subst c16
              have H1 : (if a1 = 2 then (some (!t105)) else (if a1 = 8 then (some (!t105)) else (if a1 = 7 then (some (!t105)) else (if a1 = 3 then (some (!t105)) else ((roles_May.f kj11 a0 a1 false a2 a3).bind fun t106 => (some (t105 == t106))))))) = some r := by rw [if_neg (show ¬ (false = true) by decide)] at H; exact H
              clear H
              have H := H1
              clear H1
              by_cases c17 : a1 = 2
              · rw [if_pos c17] at H
                have c17b0 : (a1 == 2) = true := beq_iff_eq.mpr c17
                have c17b1 : (a1 != 2) = false := bne_eq_false_iff_eq.mpr c17
                clear c17
                obtain rfl := Option.some.inj H
                go_wp2
                go_ret
                exact ⟨by first | rfl | (simp; done) | (simp [*]; done), by repeat (first | exact Drawn0.refl _ | apply Drawn0.step)⟩
              · rw [if_neg c17] at H
                have c17b0 : (a1 == 2) = false := beq_eq_false_iff_ne.mpr c17
                have c17b1 : (a1 != 2) = true := bne_iff_ne.mpr c17
                by_cases c18 : a1 = 8
                · rw [if_pos c18] at H
                  have c18b0 : (a1 == 8) = true := beq_iff_eq.mpr c18
                  have c18b1 : (a1 != 8) = false := bne_eq_false_iff_eq.mpr c18
                  clear c18
                  obtain rfl := Option.some.inj H
                  go_wp2
                  go_ret
                  exact ⟨by first | rfl | (simp; done) | (simp [*]; done), by repeat (first | exact Drawn0.refl _ | apply Drawn0.step)⟩
                · rw [if_neg c18] at H
                  have c18b0 : (a1 == 8) = false := beq_eq_false_iff_ne.mpr c18
                  have c18b1 : (a1 != 8) = true := bne_iff_ne.mpr c18
                  by_cases c19 : a1 = 7
                  · rw [if_pos c19] at H
                    have c19b0 : (a1 == 7) = true := beq_iff_eq.mpr c19
                    have c19b1 : (a1 != 7) = false := bne_eq_false_iff_eq.mpr c19
                    clear c19
                    obtain rfl := Option.some.inj H
                    go_wp2
                    go_ret
                    exact ⟨by first | rfl | (simp; done) | (simp [*]; done), by repeat (first | exact Drawn0.refl _ | apply Drawn0.step)⟩
                  · rw [if_neg c19] at H
                    have c19b0 : (a1 == 7) = false := beq_eq_false_iff_ne.mpr c19
                    have c19b1 : (a1 != 7) = true := bne_iff_ne.mpr c19
                    by_cases c20 : a1 = 3
                    · rw [if_pos c20] at H
                      have c20b0 : (a1 == 3) = true := beq_iff_eq.mpr c20
                      have c20b1 : (a1 != 3) = false := bne_eq_false_iff_eq.mpr c20
                      clear c20
                      obtain rfl := Option.some.inj H
                      go_wp2
                      go_ret
                      exact ⟨by first | rfl | (simp; done) | (simp [*]; done), by repeat (first | exact Drawn0.refl _ | apply Drawn0.step)⟩
                    · rw [if_neg c20] at H
                      have c20b0 : (a1 == 3) = false := beq_eq_false_iff_ne.mpr c20
                      have c20b1 : (a1 != 3) = true := bne_iff_ne.mpr c20
                      replace H := Option.bind_eq_some_iff.mp H
                      obtain ⟨t106, A210, H⟩ := H
                      replace H : (some (t105 == t106)) = some r := H
                      have A21 := Aside0.mk A210
                      clear A210
                      obtain rfl := Option.some.inj H
                      go_wp2_with (first | ((with_reducible refine gate_callee (f := 18) rfl ?_); refine goesL_ (some 45) rfl rfl Try.func18 (by kernel_rfl) rfl #[.int .u8 a0, .int .u8 a1, .bool false, .int .u8 a2, .int .u8 a3] rfl (by (try simp only [List.map_toArray, List.map_cons, List.map_nil]); first | done | rfl | (simp only [List.length_drop, List.length_take]; rfl)) ?_; (with_reducible refine (roles_May.calls kj11 a0 a1 false a2 a3 t106 _ A21.out).mono ?_); rintro e w' ⟨rfl, ⟨nd, rfl⟩⟩; refine ⟨_, rfl, ?_⟩))
                      go_ret
                      exact ⟨by first | rfl | (simp; done) | (simp [*]; done), by repeat (first | exact Drawn0.refl _ | apply Drawn0.step)⟩

/-- THE ONE PURE STATEMENT of munimentlaw06_RolesOwn: yours. -/
def munimentlaw06_RolesOwn.Pure : Prop := ∀ (a0 : Int) (a1 : Int) (a2 : Int) (a3 : Int), (Lit.int .u8 a0).wf = true → (Lit.int .u8 a1).wf = true → (Lit.int .u8 a2).wf = true → (Lit.int .u8 a3).wf = true → ∃ k, munimentlaw06_RolesOwn.f k a0 a1 a2 a3 = some true
theorem munimentlaw06_RolesOwn.walk (P : munimentlaw06_RolesOwn.Pure) (a0 : Int) (a1 : Int) (a2 : Int) (a3 : Int) (w : World) (w0 : (Lit.int .u8 a0).wf = true) (w1 : (Lit.int .u8 a1).wf = true) (w2 : (Lit.int .u8 a2).wf = true) (w3 : (Lit.int .u8 a3).wf = true) :
    Calls Try.prog 7 #[.int .u8 a0, .int .u8 a1, .int .u8 a2, .int .u8 a3] w fun e w' => e = .returned (.bool true) ∧ Below w.heap.size w w' := by
  obtain ⟨k, h⟩ := P a0 a1 a2 a3 w0 w1 w2 w3
  refine (munimentlaw06_RolesOwn.calls k a0 a1 a2 a3 true w h).mono ?_
  rintro e w' ⟨rfl, hd⟩
  exact ⟨rfl, hd.below⟩

end Go.Proofs.Ytbpdjcjhdjkinaa.PRolesOwn
