-- PRINTED BY print.sh 35421559b90ae4d0a3588c463048766b98c2df88dd9212a6774a882060cdf62d: not written by this session
import Derived.Test.YtbpdjcjhdjkinaaPRolesOwnx0
namespace Go.Proofs.Ytbpdjcjhdjkinaa.PRolesOwn
open Go.RowKit Go.Proofs.YtbpdjcjhdjkinaaW.PrintWords Go.Proofs.YtbpdjcjhdjkinaaW.PrintLast Go.Proofs.YtbpdjcjhdjkinaaW.PrintMore
attribute [local go_sem] max2_int min2_int max_two min_two max_three min_three max_four min_four   -- for this text's walks alone
set_option linter.unusedVariables false
set_option linter.unusedSimpArgs false

/-! ### roles_May: function 18 -/
mutual
def roles_May.j0 : Nat → Int → Int → Bool → Int → Int → Bool → Option (Bool)
  | 0, _, _, _, _, _, _ => none
  | k + 1, x0, x1, x2, x3, x4, x16 => if x16 = true then (some false) else (if x1 = 4 then (roles_May.j1 k x0 x2 x3 x4 x1 (x1 == 4)) else (if x1 = 5 then (roles_May.j1 k x0 x2 x3 x4 x1 (x1 == 5)) else (roles_May.j1 k x0 x2 x3 x4 x1 (x1 == 6))))
def roles_May.j1 : Nat → Int → Bool → Int → Int → Int → Bool → Option (Bool)
  | 0, _, _, _, _, _, _ => none
  | k + 1, x0, x2, x3, x4, x17, x18 => if x18 = true then (some x2) else (if x17 = 9 then (if x2 = true then (some true) else (some (decide (x0 ≥ 2)))) else (if x17 = 10 then (some (decide (x0 ≥ 2))) else (if x17 = 11 then (some (x0 == 3)) else (if x17 = 8 then (roles_May.j2 k x0 x2 x3 x4 x17 (x17 == 8)) else (roles_May.j2 k x0 x2 x3 x4 x17 (x17 == 2))))))
def roles_May.j2 : Nat → Int → Bool → Int → Int → Int → Bool → Option (Bool)
  | 0, _, _, _, _, _, _ => none
  | k + 1, x0, x2, x3, x4, x17, x38 => if x38 = true then (if x2 = true then (some false) else (if x0 ≥ 2 then (some (decide (x3 < x0))) else (some false))) else (if x17 = 1 then (if x0 ≥ 2 then (if x4 ≥ 1 then (if x4 < x0 then (some true) else (if x0 = 3 then (some (x4 == 3)) else (some false))) else (if x0 = 3 then (some (x4 == 3)) else (some false))) else (if x0 = 3 then (some (x4 == 3)) else (some false))) else (if x17 = 7 then (if x2 = true then (some false) else (if x0 = 3 then (if x3 < 3 then (if x4 ≥ 1 then (some (decide (x4 ≤ 3))) else (some false)) else (some false)) else (some false))) else (some false)))
end
def roles_May.f (k : Nat) (a0 : Int) (a1 : Int) (a2 : Bool) (a3 : Int) (a4 : Int) : Option (Bool) := if a0 < 1 then (roles_May.j0 k a0 a1 a2 a3 a4 true) else (roles_May.j0 k a0 a1 a2 a3 a4 (decide (a0 > 3)))
theorem roles_May.mono_l : ∀ k, (∀ y0 y1 y2 y3 y4 y5, LeO (roles_May.j0 k y0 y1 y2 y3 y4 y5) (roles_May.j0 (k + 1) y0 y1 y2 y3 y4 y5)) ∧ (∀ y0 y1 y2 y3 y4 y5, LeO (roles_May.j1 k y0 y1 y2 y3 y4 y5) (roles_May.j1 (k + 1) y0 y1 y2 y3 y4 y5)) ∧ (∀ y0 y1 y2 y3 y4 y5, LeO (roles_May.j2 k y0 y1 y2 y3 y4 y5) (roles_May.j2 (k + 1) y0 y1 y2 y3 y4 y5))
  | 0 => ⟨fun _ _ _ _ _ _ r h => by simp [roles_May.j0] at h, fun _ _ _ _ _ _ r h => by simp [roles_May.j1] at h, fun _ _ _ _ _ _ r h => by simp [roles_May.j2] at h⟩
  | k + 1 => by
    obtain ⟨ih0, ih1, ih2⟩ := roles_May.mono_l k
    refine ⟨?_, ?_, ?_⟩
    · intro y0 y1 y2 y3 y4 y5
      unfold roles_May.j0
      repeat' first
      | (with_reducible exact ih0 _ _ _ _ _ _)
      | (with_reducible exact ih1 _ _ _ _ _ _)
      | (with_reducible exact ih2 _ _ _ _ _ _)
      | (with_reducible exact LeO.refl _)
      | (with_reducible exact LeO.none _)
      | (with_reducible refine LeO.ite ?_ ?_)
      | (with_reducible refine LeO.bind ?_ (fun _ => ?_))
      | exact ih0 _ _ _ _ _ _
      | exact ih1 _ _ _ _ _ _
      | exact ih2 _ _ _ _ _ _
      | exact LeO.none _
      | refine LeO.ite ?_ ?_
      | refine LeO.bind ?_ (fun _ => ?_)
    · intro y0 y1 y2 y3 y4 y5
      unfold roles_May.j1
      repeat' first
      | (with_reducible exact ih0 _ _ _ _ _ _)
      | (with_reducible exact ih1 _ _ _ _ _ _)
      | (with_reducible exact ih2 _ _ _ _ _ _)
      | (with_reducible exact LeO.refl _)
      | (with_reducible exact LeO.none _)
      | (with_reducible refine LeO.ite ?_ ?_)
      | (with_reducible refine LeO.bind ?_ (fun _ => ?_))
      | exact ih0 _ _ _ _ _ _
      | exact ih1 _ _ _ _ _ _
      | exact ih2 _ _ _ _ _ _
      | exact LeO.none _
      | refine LeO.ite ?_ ?_
      | refine LeO.bind ?_ (fun _ => ?_)
    · intro y0 y1 y2 y3 y4 y5
      unfold roles_May.j2
      repeat' first
      | (with_reducible exact ih0 _ _ _ _ _ _)
      | (with_reducible exact ih1 _ _ _ _ _ _)
      | (with_reducible exact ih2 _ _ _ _ _ _)
      | (with_reducible exact LeO.refl _)
      | (with_reducible exact LeO.none _)
      | (with_reducible refine LeO.ite ?_ ?_)
      | (with_reducible refine LeO.bind ?_ (fun _ => ?_))
      | exact ih0 _ _ _ _ _ _
      | exact ih1 _ _ _ _ _ _
      | exact ih2 _ _ _ _ _ _
      | exact LeO.none _
      | refine LeO.ite ?_ ?_
      | refine LeO.bind ?_ (fun _ => ?_)
theorem roles_May.mono : ∀ a0 a1 a2 a3 a4 k, LeO (roles_May.f k a0 a1 a2 a3 a4) (roles_May.f (k + 1) a0 a1 a2 a3 a4) := by
  intro a0 a1 a2 a3 a4 k
  obtain ⟨ih0, ih1, ih2⟩ := roles_May.mono_l k
  unfold roles_May.f
  repeat' first
      | (with_reducible exact ih0 _ _ _ _ _ _)
      | (with_reducible exact ih1 _ _ _ _ _ _)
      | (with_reducible exact ih2 _ _ _ _ _ _)
      | (with_reducible exact LeO.refl _)
      | (with_reducible exact LeO.none _)
      | (with_reducible refine LeO.ite ?_ ?_)
      | (with_reducible refine LeO.bind ?_ (fun _ => ?_))
      | exact ih0 _ _ _ _ _ _
      | exact ih1 _ _ _ _ _ _
      | exact ih2 _ _ _ _ _ _
      | exact LeO.none _
      | refine LeO.ite ?_ ?_
      | refine LeO.bind ?_ (fun _ => ?_)
set_option maxHeartbeats 8000000 in
set_option maxRecDepth 100000 in
theorem roles_May.calls (k : Nat) (a0 : Int) (a1 : Int) (a2 : Bool) (a3 : Int) (a4 : Int) (r : Bool) (w : World) (h : roles_May.f k a0 a1 a2 a3 a4 = some r) :
    Calls Try.prog 18 #[.int .u8 a0, .int .u8 a1, .bool a2, .int .u8 a3, .int .u8 a4] w fun e w' => e = .returned (.bool r) ∧ Drawn0 w w' := by
  have H : (if a0 < 1 then (roles_May.j0 k a0 a1 a2 a3 a4 true) else (roles_May.j0 k a0 a1 a2 a3 a4 (decide (a0 > 3)))) = some r := h
  clear h
  have HC6 := Aside0.mk H
  clear H
  go_enter Try.func18, Try.ntmps18
  go_upto_region 1 with (fail)
  go_cut [16] (fun v16 wc => ∃ (kq : Nat) (x16_5 : Bool), v16 = .bool x16_5 ∧ Aside0 (roles_May.j0 kq a0 a1 a2 a3 a4 x16_5 = some r) ∧ Aside0 (kq ≤ k) ∧ Drawn0 w wc)
  case first =>
    have H := HC6.out
    clear HC6
    by_cases c7 : a0 < 1
    · rw [if_pos c7] at H
      have c7b0 : decide (a0 < 1) = true := decide_eq_true c7
      clear c7
      (first | rw [c7b0] | (simp only [i64_w, i32_w]; rw [c7b0]) | skip)
      have H' := Aside0.mk H
      clear H
      go_wp2
      go_meet
      case rel => exact ⟨_, (true), (by first | rfl | (simp; done) | (simp [*]; done)), H', ⟨by first | omega | exact Nat.le_refl _⟩, by repeat (first | exact Drawn0.refl _ | apply Drawn0.step)⟩
    · rw [if_neg c7] at H
      have c7b0 : decide (a0 < 1) = false := decide_eq_false c7
      clear c7
      (first | rw [c7b0] | (simp only [i64_w, i32_w]; rw [c7b0]) | skip)
      have H' := Aside0.mk H
      clear H
      go_wp2
      go_meet
      case rel => exact ⟨_, (decide (a0 > 3)), (by first | rfl | (simp; done) | (simp [*]; done)), H', ⟨by first | omega | exact Nat.le_refl _⟩, by repeat (first | exact Drawn0.refl _ | apply Drawn0.step)⟩
  case rest =>
    clear HC6
    try clear c1
    try clear p2
    try clear c7
    try clear c7b0
    obtain ⟨kq, x16_5, rfl, HA, HJ5, ⟨mc5, rfl⟩⟩ := hcut
    cases kq with
    | zero => exact absurd HA.out (by simp [roles_May.j0])
    | succ kj5 =>
      have H := HA.out
      clear HA
      simp only [roles_May.j0] at H
      by_cases c8 : x16_5 = true
      · subst c8
        have H1 : (some false) = some r := by rw [if_pos rfl] at H; exact H
        clear H
        have H := H1
        clear H1
        obtain rfl := Option.some.inj H
        go_wp2
        go_ret
        exact ⟨by first | rfl | (simp; done) | (simp [*]; done), by repeat (first | exact Drawn0.refl _ | apply Drawn0.step)⟩
      · replace c8 := Bool.eq_false_iff.mpr c8
        subst c8
        have H1 : (if a1 = 4 then (roles_May.j1 kj5 a0 a2 a3 a4 a1 (a1 == 4)) else (if a1 = 5 then (roles_May.j1 kj5 a0 a2 a3 a4 a1 (a1 == 5)) else (roles_May.j1 kj5 a0 a2 a3 a4 a1 (a1 == 6)))) = some r := by rw [if_neg (show ¬ (false = true) by decide)] at H; exact H
        clear H
        have H := H1
        clear H1
        have HC9 := Aside0.mk H
        clear H
        go_upto_if 18 with (fail)
        go_cut [18] (fun v18 wc => ∃ (kq : Nat) (x18_8 : Bool), v18 = .bool x18_8 ∧ Aside0 (roles_May.j1 kq a0 a2 a3 a4 a1 x18_8 = some r) ∧ Aside0 (kq ≤ kj5) ∧ Drawn0 w wc)
        case first =>
          have H := HC9.out
          clear HC9
          by_cases c10 : a1 = 4
          · rw [if_pos c10] at H
            have c10b0 : (a1 == 4) = true := beq_iff_eq.mpr c10
            have c10b1 : (a1 != 4) = false := bne_eq_false_iff_eq.mpr c10
            clear c10
            (first | rw [c10b0] | (simp only [i64_w, i32_w]; rw [c10b0]) | skip)
            have H' := Aside0.mk H
            clear H
            go_wp2
            go_meet
            case rel => exact ⟨_, ((a1 == 4)), (by first | rfl | (simp; done) | (simp [*]; done)), H', ⟨by have := HJ5.out; first | omega | exact Nat.le_refl _⟩, by repeat (first | exact Drawn0.refl _ | apply Drawn0.step)⟩
          · rw [if_neg c10] at H
            have c10b0 : (a1 == 4) = false := beq_eq_false_iff_ne.mpr c10
            have c10b1 : (a1 != 4) = true := bne_iff_ne.mpr c10
            (first | rw [c10b0] | (simp only [i64_w, i32_w]; rw [c10b0]) | skip)
            by_cases c11 : a1 = 5
            · rw [if_pos c11] at H
              have c11b0 : (a1 == 5) = true := beq_iff_eq.mpr c11
              have c11b1 : (a1 != 5) = false := bne_eq_false_iff_eq.mpr c11
              clear c11
              have H' := Aside0.mk H
              clear H
              go_wp2
              go_meet
              case rel => exact ⟨_, ((a1 == 5)), (by first | rfl | (simp; done) | (simp [*]; done)), H', ⟨by have := HJ5.out; first | omega | exact Nat.le_refl _⟩, by repeat (first | exact Drawn0.refl _ | apply Drawn0.step)⟩
            · rw [if_neg c11] at H
              have c11b0 : (a1 == 5) = false := beq_eq_false_iff_ne.mpr c11
              have c11b1 : (a1 != 5) = true := bne_iff_ne.mpr c11
              have H' := Aside0.mk H
              clear H
              go_wp2
              go_meet
              case rel => exact ⟨_, ((a1 == 6)), (by first | rfl | (simp; done) | (simp [*]; done)), H', ⟨by have := HJ5.out; first | omega | exact Nat.le_refl _⟩, by repeat (first | exact Drawn0.refl _ | apply Drawn0.step)⟩
        case rest =>
          clear HC9
          try clear c1
          try clear p2
          try clear c5
          try clear c7
          try clear c7b0
          try clear c8
          try clear c10
          try clear c10b0
          try clear c10b1
          try clear c11
          try clear c11b0
          try clear c11b1
          try clear p2
          obtain ⟨kq, x18_8, rfl, HA, HJ8, ⟨mc8, rfl⟩⟩ := hcut
          cases kq with
          | zero => exact absurd HA.out (by simp [roles_May.j1])
          | succ kj8 =>
            have H := HA.out
            clear HA
            simp only [roles_May.j1] at H
            by_cases c12 : x18_8 = true
            · subst c12
              have H1 : (some a2) = some r := by rw [if_pos rfl] at H; exact H
              clear H
              have H := H1
              clear H1
              obtain rfl := Option.some.inj H
              go_wp2
              go_ret
              exact ⟨by first | rfl | (simp; done) | (simp [*]; done), by repeat (first | exact Drawn0.refl _ | apply Drawn0.step)⟩
            · replace c12 := Bool.eq_false_iff.mpr c12
              subst c12
              have H1 : (if a1 = 9 then (if a2 = true then (some true) else (some (decide (a0 ≥ 2)))) else (if a1 = 10 then (some (decide (a0 ≥ 2))) else (if a1 = 11 then (some (a0 == 3)) else (if a1 = 8 then (roles_May.j2 kj8 a0 a2 a3 a4 a1 (a1 == 8)) else (roles_May.j2 kj8 a0 a2 a3 a4 a1 (a1 == 2)))))) = some r := by rw [if_neg (show ¬ (false = true) by decide)] at H; exact H
              clear H
              have H := H1
              clear H1
              by_cases c13 : a1 = 9
              · rw [if_pos c13] at H
                have c13b0 : (a1 == 9) = true := beq_iff_eq.mpr c13
                have c13b1 : (a1 != 9) = false := bne_eq_false_iff_eq.mpr c13
                clear c13
                by_cases c14 : a2 = true
                · subst c14
                  have H1 : (some true) = some r := by rw [if_pos rfl] at H; exact H
                  clear H
                  have H := H1
                  clear H1
                  obtain rfl := Option.some.inj H
                  go_wp2
                  go_ret
                  exact ⟨by first | rfl | (simp; done) | (simp [*]; done), by repeat (first | exact Drawn0.refl _ | apply Drawn0.step)⟩
                · replace c14 := Bool.eq_false_iff.mpr c14
                  subst c14
                  have H1 : (some (decide (a0 ≥ 2))) = some r := by rw [if_neg (show ¬ (false = true) by decide)] at H; exact H
                  clear H
                  have H := H1
                  clear H1
                  obtain rfl := Option.some.inj H
                  go_wp2
                  go_ret
                  exact ⟨by first | rfl | (simp; done) | (simp [*]; done), by repeat (first | exact Drawn0.refl _ | apply Drawn0.step)⟩
              · rw [if_neg c13] at H
                have c13b0 : (a1 == 9) = false := beq_eq_false_iff_ne.mpr c13
                have c13b1 : (a1 != 9) = true := bne_iff_ne.mpr c13
                by_cases c15 : a1 = 10
                · rw [if_pos c15] at H
                  have c15b0 : (a1 == 10) = true := beq_iff_eq.mpr c15
                  have c15b1 : (a1 != 10) = false := bne_eq_false_iff_eq.mpr c15
                  clear c15
                  obtain rfl := Option.some.inj H
                  go_wp2
                  go_ret
                  exact ⟨by first | rfl | (simp; done) | (simp [*]; done), by repeat (first | exact Drawn0.refl _ | apply Drawn0.step)⟩
                · rw [if_neg c15] at H
                  have c15b0 : (a1 == 10) = false := beq_eq_false_iff_ne.mpr c15
                  have c15b1 : (a1 != 10) = true := bne_iff_ne.mpr c15
                  by_cases c16 : a1 = 11
                  · rw [if_pos c16] at H
                    have c16b0 : (a1 == 11) = true := beq_iff_eq.mpr c16
                    have c16b1 : (a1 != 11) = false := bne_eq_false_iff_eq.mpr c16
                    clear c16
                    obtain rfl := Option.some.inj H
                    go_wp2
                    go_ret
                    exact ⟨by first | rfl | (simp; done) | (simp [*]; done), by repeat (first | exact Drawn0.refl _ | apply Drawn0.step)⟩
                  · rw [if_neg c16] at H
                    have c16b0 : (a1 == 11) = false := beq_eq_false_iff_ne.mpr c16
                    have c16b1 : (a1 != 11) = true := bne_iff_ne.mpr c16
                    have HC17 := Aside0.mk H
                    clear H
                    go_upto_if 38 with (fail)
                    go_cut [38] (fun v38 wc => ∃ (kq : Nat) (x38_16 : Bool), v38 = .bool x38_16 ∧ Aside0 (roles_May.j2 kq a0 a2 a3 a4 a1 x38_16 = some r) ∧ Aside0 (kq ≤ kj8) ∧ Drawn0 w wc)
                    case first =>
                      have H := HC17.out
                      clear HC17
                      by_cases c18 : a1 = 8
                      · rw [if_pos c18] at H
                        have c18b0 : (a1 == 8) = true := beq_iff_eq.mpr c18
                        have c18b1 : (a1 != 8) = false := bne_eq_false_iff_eq.mpr c18
                        clear c18
                        (first | rw [c18b0] | (simp only [i64_w, i32_w]; rw [c18b0]) | skip)
                        have H' := Aside0.mk H
                        clear H
                        go_wp2
                        go_meet
                        case rel => exact ⟨_, ((a1 == 8)), (by first | rfl | (simp; done) | (simp [*]; done)), H', ⟨by have := HJ5.out; have := HJ8.out; first | omega | exact Nat.le_refl _⟩, by repeat (first | exact Drawn0.refl _ | apply Drawn0.step)⟩
                      · rw [if_neg c18] at H
                        have c18b0 : (a1 == 8) = false := beq_eq_false_iff_ne.mpr c18
                        have c18b1 : (a1 != 8) = true := bne_iff_ne.mpr c18
                        (first | rw [c18b0] | (simp only [i64_w, i32_w]; rw [c18b0]) | skip)
                        have H' := Aside0.mk H
                        clear H
                        go_wp2
                        go_meet
                        case rel => exact ⟨_, ((a1 == 2)), (by first | rfl | (simp; done) | (simp [*]; done)), H', ⟨by have := HJ5.out; have := HJ8.out; first | omega | exact Nat.le_refl _⟩, by repeat (first | exact Drawn0.refl _ | apply Drawn0.step)⟩
                    case rest =>
                      clear HC17
                      try clear c1
                      try clear p2
                      try clear c5
                      try clear c7
                      try clear c7b0
                      try clear c8
                      try clear c10
                      try clear c10b0
                      try clear c10b1
                      try clear c11
                      try clear c11b0
                      try clear c11b1
                      try clear c12
                      try clear c13
                      try clear c13b0
                      try clear c13b1
                      try clear c14
                      try clear c15
                      try clear c15b0
                      try clear c15b1
                      try clear c16
                      try clear c16b0
                      try clear c16b1
                      try clear c18
                      try clear c18b0
                      try clear c18b1
                      try clear p2
                      obtain ⟨kq, x38_16, rfl, HA, HJ16, ⟨mc16, rfl⟩⟩ := hcut
                      cases kq with
                      | zero => exact absurd HA.out (by simp [roles_May.j2])
                      | succ kj16 =>
                        have H := HA.out
                        clear HA
                        simp only [roles_May.j2] at H
                        by_cases c19 : x38_16 = true
                        · subst c19
                          have H1 : (if a2 = true then (some false) else (if a0 ≥ 2 then (some (decide (a3 < a0))) else (some false))) = some r := by rw [if_pos rfl] at H; exact H
                          clear H
                          have H := H1
                          clear H1
                          by_cases c20 : a2 = true
                          · subst c20
                            have H1 : (some false) = some r := by rw [if_pos rfl] at H; exact H
                            clear H
                            have H := H1
                            clear H1
                            obtain rfl := Option.some.inj H
                            go_wp2
                            go_ret
                            exact ⟨by first | rfl | (simp; done) | (simp [*]; done), by repeat (first | exact Drawn0.refl _ | apply Drawn0.step)⟩
                          · replace c20 := Bool.eq_false_iff.mpr c20
                            subst c20
                            have H1 : (if a0 ≥ 2 then (some (decide (a3 < a0))) else (some false)) = some r := by rw [if_neg (show ¬ (false = true) by decide)] at H; exact H
                            clear H
                            have H := H1
                            clear H1
                            by_cases c21 : a0 ≥ 2
                            · rw [if_pos c21] at H
                              have c21b0 : decide (2 ≤ a0) = true := decide_eq_true c21
                              clear c21
                              obtain rfl := Option.some.inj H
                              go_wp2
                              go_ret
                              exact ⟨by first | rfl | (simp; done) | (simp [*]; done), by repeat (first | exact Drawn0.refl _ | apply Drawn0.step)⟩
                            · rw [if_neg c21] at H
                              have c21b0 : decide (2 ≤ a0) = false := decide_eq_false c21
                              clear c21
                              obtain rfl := Option.some.inj H
                              go_wp2
                              go_ret
                              exact ⟨by first | rfl | (simp; done) | (simp [*]; done), by repeat (first | exact Drawn0.refl _ | apply Drawn0.step)⟩
                        · replace c19 := Bool.eq_false_iff.mpr c19
                          subst c19
                          have H1 : (if a1 = 1 then (if a0 ≥ 2 then (if a4 ≥ 1 then (if a4 < a0 then (some true) else (if a0 = 3 then (some (a4 == 3)) else (some false))) else (if a0 = 3 then (some (a4 == 3)) else (some false))) else (if a0 = 3 then (some (a4 == 3)) else (some false))) else (if a1 = 7 then (if a2 = true then (some false) else (if a0 = 3 then (if a3 < 3 then (if a4 ≥ 1 then (some (decide (a4 ≤ 3))) else (some false)) else (some false)) else (some false))) else (some false))) = some r := by rw [if_neg (show ¬ (false = true) by decide)] at H; exact H
                          clear H
                          have H := H1
                          clear H1
                          by_cases c22 : a1 = 1
                          · rw [if_pos c22] at H
                            have c22b0 : (a1 == 1) = true := beq_iff_eq.mpr c22
                            have c22b1 : (a1 != 1) = false := bne_eq_false_iff_eq.mpr c22
                            clear c22
                            by_cases c23 : a0 ≥ 2
                            · rw [if_pos c23] at H
                              have c23b0 : decide (2 ≤ a0) = true := decide_eq_true c23
                              clear c23
                              by_cases c24 : a4 ≥ 1
                              · rw [if_pos c24] at H
                                have c24b0 : decide (1 ≤ a4) = true := decide_eq_true c24
                                clear c24
                                by_cases c25 : a4 < a0
                                · rw [if_pos c25] at H
                                  have c25b0 : decide (a4 < a0) = true := decide_eq_true c25
                                  clear c25
                                  obtain rfl := Option.some.inj H
                                  go_wp2
                                  go_ret
                                  exact ⟨by first | rfl | (simp; done) | (simp [*]; done), by repeat (first | exact Drawn0.refl _ | apply Drawn0.step)⟩
                                · rw [if_neg c25] at H
                                  have c25b0 : decide (a4 < a0) = false := decide_eq_false c25
                                  clear c25
                                  by_cases c26 : a0 = 3
                                  · rw [if_pos c26] at H
                                    have c26b0 : (a0 == 3) = true := beq_iff_eq.mpr c26
                                    have c26b1 : (a0 != 3) = false := bne_eq_false_iff_eq.mpr c26
                                    clear c26
                                    obtain rfl := Option.some.inj H
                                    go_wp2
                                    go_ret
                                    exact ⟨by first | rfl | (simp; done) | (simp [*]; done), by repeat (first | exact Drawn0.refl _ | apply Drawn0.step)⟩
                                  · rw [if_neg c26] at H
                                    have c26b0 : (a0 == 3) = false := beq_eq_false_iff_ne.mpr c26
                                    have c26b1 : (a0 != 3) = true := bne_iff_ne.mpr c26
                                    obtain rfl := Option.some.inj H
                                    go_wp2
                                    go_ret
                                    exact ⟨by first | rfl | (simp; done) | (simp [*]; done), by repeat (first | exact Drawn0.refl _ | apply Drawn0.step)⟩
                              · rw [if_neg c24] at H
                                have c24b0 : decide (1 ≤ a4) = false := decide_eq_false c24
                                clear c24
                                by_cases c27 : a0 = 3
                                · rw [if_pos c27] at H
                                  have c27b0 : (a0 == 3) = true := beq_iff_eq.mpr c27
                                  have c27b1 : (a0 != 3) = false := bne_eq_false_iff_eq.mpr c27
                                  clear c27
                                  obtain rfl := Option.some.inj H
                                  go_wp2
                                  go_ret
                                  exact ⟨by first | rfl | (simp; done) | (simp [*]; done), by repeat (first | exact Drawn0.refl _ | apply Drawn0.step)⟩
                                · rw [if_neg c27] at H
                                  have c27b0 : (a0 == 3) = false := beq_eq_false_iff_ne.mpr c27
                                  have c27b1 : (a0 != 3) = true := bne_iff_ne.mpr c27
                                  obtain rfl := Option.some.inj H
                                  go_wp2
                                  go_ret
                                  exact ⟨by first | rfl | (simp; done) | (simp [*]; done), by repeat (first | exact Drawn0.refl _ | apply Drawn0.step)⟩
                            · rw [if_neg c23] at H
                              have c23b0 : decide (2 ≤ a0) = false := decide_eq_false c23
                              clear c23
                              by_cases c28 : a0 = 3
                              · rw [if_pos c28] at H
                                have c28b0 : (a0 == 3) = true := beq_iff_eq.mpr c28
                                have c28b1 : (a0 != 3) = false := bne_eq_false_iff_eq.mpr c28
                                clear c28
                                obtain rfl := Option.some.inj H
                                go_wp2
                                go_ret
                                exact ⟨by first | rfl | (simp; done) | (simp [*]; done), by repeat (first | exact Drawn0.refl _ | apply Drawn0.step)⟩
                              · rw [if_neg c28] at H
                                have c28b0 : (a0 == 3) = false := beq_eq_false_iff_ne.mpr c28
                                have c28b1 : (a0 != 3) = true := bne_iff_ne.mpr c28
                                obtain rfl := Option.some.inj H
                                go_wp2
                                go_ret
                                exact ⟨by first | rfl | (simp; done) | (simp [*]; done), by repeat (first | exact Drawn0.refl _ | apply Drawn0.step)⟩
                          · rw [if_neg c22] at H
                            have c22b0 : (a1 == 1) = false := beq_eq_false_iff_ne.mpr c22
                            have c22b1 : (a1 != 1) = true := bne_iff_ne.mpr c22
                            by_cases c29 : a1 = 7
                            · rw [if_pos c29] at H
                              have c29b0 : (a1 == 7) = true := beq_iff_eq.mpr c29
                              have c29b1 : (a1 != 7) = false := bne_eq_false_iff_eq.mpr c29
                              clear c29
                              by_cases c30 : a2 = true
                              · subst c30
                                have H1 : (some false) = some r := by rw [if_pos rfl] at H; exact H
                                clear H
                                have H := H1
                                clear H1
                                obtain rfl := Option.some.inj H
                                go_wp2
                                go_ret
                                exact ⟨by first | rfl | (simp; done) | (simp [*]; done), by repeat (first | exact Drawn0.refl _ | apply Drawn0.step)⟩
                              · replace c30 := Bool.eq_false_iff.mpr c30
                                subst c30
                                have H1 : (if a0 = 3 then (if a3 < 3 then (if a4 ≥ 1 then (some (decide (a4 ≤ 3))) else (some false)) else (some false)) else (some false)) = some r := by rw [if_neg (show ¬ (false = true) by decide)] at H; exact H
                                clear H
                                have H := H1
                                clear H1
                                by_cases c31 : a0 = 3
                                · rw [if_pos c31] at H
                                  have c31b0 : (a0 == 3) = true := beq_iff_eq.mpr c31
                                  have c31b1 : (a0 != 3) = false := bne_eq_false_iff_eq.mpr c31
                                  clear c31
                                  by_cases c32 : a3 < 3
                                  · rw [if_pos c32] at H
                                    have c32b0 : decide (a3 < 3) = true := decide_eq_true c32
                                    clear c32
                                    by_cases c33 : a4 ≥ 1
                                    · rw [if_pos c33] at H
                                      have c33b0 : decide (1 ≤ a4) = true := decide_eq_true c33
                                      clear c33
                                      obtain rfl := Option.some.inj H
                                      go_wp2
                                      go_ret
                                      exact ⟨by first | rfl | (simp; done) | (simp [*]; done), by repeat (first | exact Drawn0.refl _ | apply Drawn0.step)⟩
                                    · rw [if_neg c33] at H
                                      have c33b0 : decide (1 ≤ a4) = false := decide_eq_false c33
                                      clear c33
                                      obtain rfl := Option.some.inj H
                                      go_wp2
                                      go_ret
                                      exact ⟨by first | rfl | (simp; done) | (simp [*]; done), by repeat (first | exact Drawn0.refl _ | apply Drawn0.step)⟩
                                  · rw [if_neg c32] at H
                                    have c32b0 : decide (a3 < 3) = false := decide_eq_false c32
                                    clear c32
                                    obtain rfl := Option.some.inj H
                                    go_wp2
                                    go_ret
                                    exact ⟨by first | rfl | (simp; done) | (simp [*]; done), by repeat (first | exact Drawn0.refl _ | apply Drawn0.step)⟩
                                · rw [if_neg c31] at H
                                  have c31b0 : (a0 == 3) = false := beq_eq_false_iff_ne.mpr c31
                                  have c31b1 : (a0 != 3) = true := bne_iff_ne.mpr c31
                                  obtain rfl := Option.some.inj H
                                  go_wp2
                                  go_ret
                                  exact ⟨by first | rfl | (simp; done) | (simp [*]; done), by repeat (first | exact Drawn0.refl _ | apply Drawn0.step)⟩
                            · rw [if_neg c29] at H
                              have c29b0 : (a1 == 7) = false := beq_eq_false_iff_ne.mpr c29
                              have c29b1 : (a1 != 7) = true := bne_iff_ne.mpr c29
                              obtain rfl := Option.some.inj H
                              go_wp2
                              go_ret
                              exact ⟨by first | rfl | (simp; done) | (simp [*]; done), by repeat (first | exact Drawn0.refl _ | apply Drawn0.step)⟩

/-! ### munimentlaw06_awake: function 17 -/
def munimentlaw06_awake.f (k : Nat)  : Option (Bool) := (roles_May.f k 2 1 false 0 1).bind fun t101 => (if t101 = true then ((roles_May.f k 2 1 false 0 2).bind fun t102 => (some (!t102))) else (some false))
theorem munimentlaw06_awake.mono : ∀ k, LeO (munimentlaw06_awake.f k ) (munimentlaw06_awake.f (k + 1) ) := by
  intro  k
  unfold munimentlaw06_awake.f
  repeat' first
      | (with_reducible exact roles_May.mono _ _ _ _ _ _)
      | (with_reducible exact LeO.refl _)
      | (with_reducible exact LeO.none _)
      | (with_reducible refine LeO.ite ?_ ?_)
      | (with_reducible refine LeO.bind ?_ (fun _ => ?_))
      | exact roles_May.mono _ _ _ _ _ _
      | exact LeO.none _
      | refine LeO.ite ?_ ?_
      | refine LeO.bind ?_ (fun _ => ?_)
set_option maxHeartbeats 8000000 in
set_option maxRecDepth 100000 in
theorem munimentlaw06_awake.calls (k : Nat)  (r : Bool) (w : World) (h : munimentlaw06_awake.f k  = some r) :
    Calls Try.prog 17 #[] w fun e w' => e = .returned (.bool r) ∧ Drawn0 w w' := by
  have H : ((roles_May.f k 2 1 false 0 1).bind fun t101 => (if t101 = true then ((roles_May.f k 2 1 false 0 2).bind fun t102 => (some (!t102))) else (some false))) = some r := h
  clear h
  replace H := Option.bind_eq_some_iff.mp H
  obtain ⟨t101, A10, H⟩ := H
  replace H : (if t101 = true then ((roles_May.f k 2 1 false 0 2).bind fun t102 => (some (!t102))) else (some false)) = some r := H
  have A1 := Aside0.mk A10
  clear A10
  by_cases c2 : t101 = true
  · subst c2
    have H1 : ((roles_May.f k 2 1 false 0 2).bind fun t102 => (some (!t102))) = some r := by rw [if_pos rfl] at H; exact H
    clear H
    have H := H1
    clear H1
    replace H := Option.bind_eq_some_iff.mp H
    obtain ⟨t102, A30, H⟩ := H
    replace H : (some (!t102)) = some r := H
    have A3 := Aside0.mk A30
    clear A30
    obtain rfl := Option.some.inj H
    go_enter Try.func17, Try.ntmps17
    go_wp2_with (first | ((with_reducible refine gate_callee (f := 18) rfl ?_); refine goesL_ (some 1) rfl rfl Try.func18 (by kernel_rfl) rfl #[.int .u8 2, .int .u8 1, .bool false, .int .u8 0, .int .u8 1] rfl (by (try simp only [List.map_toArray, List.map_cons, List.map_nil]); first | done | rfl | (simp only [List.length_drop, List.length_take]; rfl)) ?_; (with_reducible refine (roles_May.calls k 2 1 false 0 1 true _ A1.out).mono ?_); rintro e w' ⟨rfl, ⟨nd, rfl⟩⟩; refine ⟨_, rfl, ?_⟩) | (go_at_call 18; (with_reducible refine (roles_May.calls k 2 1 false 0 2 t102 _ A3.out).mono ?_); rintro e w' ⟨rfl, ⟨nd, rfl⟩⟩))
    go_ret
    exact ⟨by first | rfl | (simp; done) | (simp [*]; done), by repeat (first | exact Drawn0.refl _ | apply Drawn0.step)⟩
  · replace c2 := Bool.eq_false_iff.mpr c2
    subst c2
    have H1 : (some false) = some r := by rw [if_neg (show ¬ (false = true) by decide)] at H; exact H
    clear H
    have H := H1
    clear H1
    obtain rfl := Option.some.inj H
    go_enter Try.func17, Try.ntmps17
    go_wp2_with (first | ((with_reducible refine gate_callee (f := 18) rfl ?_); refine goesL_ (some 1) rfl rfl Try.func18 (by kernel_rfl) rfl #[.int .u8 2, .int .u8 1, .bool false, .int .u8 0, .int .u8 1] rfl (by (try simp only [List.map_toArray, List.map_cons, List.map_nil]); first | done | rfl | (simp only [List.length_drop, List.length_take]; rfl)) ?_; (with_reducible refine (roles_May.calls k 2 1 false 0 1 false _ A1.out).mono ?_); rintro e w' ⟨rfl, ⟨nd, rfl⟩⟩; refine ⟨_, rfl, ?_⟩))
    go_ret
    exact ⟨by first | rfl | (simp; done) | (simp [*]; done), by repeat (first | exact Drawn0.refl _ | apply Drawn0.step)⟩

end Go.Proofs.Ytbpdjcjhdjkinaa.PRolesOwn
