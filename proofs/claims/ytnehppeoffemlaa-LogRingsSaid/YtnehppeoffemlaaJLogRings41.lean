/- Joined texts: LogHeldM. -/
import Derived.Test.YtnehppeoffemlaaJLogRings36
/- LogHeld: the walk of the law. -/
namespace Go.Proofs.Ytnehppeoffemlaa
set_option linter.unusedVariables false
set_option linter.unusedSimpArgs false
open Go.RowKit
theorem below_up {B C : Nat} {w w' : World} (h : Below B w w') (hc : C ≤ B) : Below C w w' := h.mono hc
theorem grown_none {w w' : World} (h : w.grownBy w' none) : Below w.heap.size w w' := ((Mod.refl Nob w).grown h (fun _ h => by cases h)).below (Nat.le_refl _) (fun _ h => h.elim)
set_option maxRecDepth 100000 in
set_option maxHeartbeats 8000000 in
theorem logheld_calls (ct hd nn : Int) (h1 : 0 ≤ ct ∧ ct ≤ 255) (h2 : 0 ≤ hd ∧ hd ≤ 65535) (h3 : 0 ≤ nn ∧ nn ≤ 255) (w : World) :
    Calls Try.prog 3 #[.int .u8 ct, .int .u16 hd, .int .u8 nn] w fun e w' => e = .returned (.bool true) ∧ Below w.heap.size w w' := by
  obtain ⟨c, hc⟩ : ∃ c : Nat, (c : Int) = 4 + ct % 6 := ⟨(4 + ct % 6).toNat, by omega⟩
  have hc4 : 4 ≤ c ∧ c ≤ 9 := by omega
  have t1 : IntKind.i64.wrap (4 + ct.tmod 6) = (c : Int) := by rw [Int.tmod_eq_emod_of_nonneg h1.1, hc]; exact IntWalk.i64_in _ (by omega)
  obtain ⟨ho, hho⟩ : ∃ ho : Int, 3 + hd % 1000 = ho := ⟨_, rfl⟩
  have hh3 : 3 ≤ ho ∧ ho ≤ 1002 := by omega
  have t2 : IntKind.i64.wrap (3 + hd.tmod 1000) = ho := by rw [Int.tmod_eq_emod_of_nonneg h2.1, hho]; exact IntWalk.i64_in _ (by omega)
  obtain ⟨sz, hsz⟩ : ∃ sz : Nat, (sz : Int) = 1 + nn % 200 := ⟨(1 + nn % 200).toNat, by omega⟩
  have hs1 : 1 ≤ sz ∧ sz ≤ 200 := by omega
  have t3 : IntKind.i64.wrap (1 + nn.tmod 200) = (sz : Int) := by rw [Int.tmod_eq_emod_of_nonneg h3.1, hsz]; exact IntWalk.i64_in _ (by omega)
  have t4 : IntKind.i64.wrap ((sz : Int) + 2) = (sz : Int) + 2 := IntWalk.i64_in _ (by omega)
  have u1 : IntKind.i64.wrap ct = ct := IntWalk.i64_in _ (by omega)
  have u2 : IntKind.i64.wrap hd = hd := IntWalk.i64_in _ (by omega)
  have u3 : IntKind.i64.wrap nn = nn := IntWalk.i64_in _ (by omega)
  obtain ⟨i0, hi0, hz0, hz1, hz2⟩ := info_parts info8
  have q1 : i0.bytes * 50 ≤ 281474976710656 := by rw [hz2]; omega
  have q2 : (50 : Nat) ≤ maxLen := by unfold maxLen; omega
  have q3 : i0.bytes * sz ≤ 281474976710656 := by rw [hz2]; omega
  have q4 : sz ≤ maxLen := by unfold maxLen; omega
  have q1' := Lib.hid q1
  have q3' := Lib.hid q3
  have q4' := Lib.hid q4
  have hi0' := Lib.hid hi0
  have hz0' := Lib.hid hz0
  have hz1' := Lib.hid hz1
  clear hi0 hz0 hz1 hz2 q1 q3 q4 hc hho hsz h1 h2 h3
  go_enter Try.func3, Try.ntmps3
  go_wp2_with fail
  refine (log_awake w).mono ?_
  rintro e w1 ⟨rfl, hb1⟩
  go_wp2_with fail
  refine (fresh_calls c hc4.1 (by omega) w1).mono ?_
  rintro e w2 ⟨d, lb, g, bA, bc, F, rfl, hD2, hL2, hb2⟩
  have hln : (opnD (c + 3) 1 c).l.length = c + 3 := opnD_len (by omega) (by omega) (by omega)
  have hqt : Qt (opnD (c + 3) 1 c) := opnD_qt (by omega) (by omega) (by omega)
  have hops : (opnD (c + 3) 1 c).ops = 6 := opnD_ops (by omega) (by omega) (by omega)
  have hway : (opnD (c + 3) 1 c).way = [] := opnD_way (by omega) (by omega) (by omega)
  have hS2 : HSt w2 w1.heap.size d lb g F (opnD (c + 3) 1 c) c (newL 1 c) := ⟨⟨bA, bc, hL2⟩, hD2, newL_I (by omega) (by omega) (by omega) (by omega), rfl, rfl, rfl, rfl⟩
  have hB2 : Below w.heap.size w w2 := below_keep hb2 hb1
  have hw1 : w.heap.size ≤ w1.heap.size := hb1.size
  generalize opnD (c + 3) 1 c = D0 at *
  have h20 : (newL 1 c).held = 0 := rfl
  generalize newL 1 c = L2 at *
  clear hD2 hL2 hb2 hb1
  go_wp2_with fail
  go_loopw [6, 10, 11, 12] (fun _ v10 _ _ wr => ∃ (k : Nat) (L : Lg), v10 = .int .i64 (k : Int) ∧ HSt wr w1.heap.size d lb g F D0 c L ∧ Below w.heap.size w wr ∧ (k = 0 → L.held = 0) ∧ 52 * k ≤ L.buf.length) (fun _ v10 _ _ _ => 10000 - (intOf v10).toNat)
  case atStart => exact ⟨0, L2, rfl, hS2, hB2, fun _ => h20, by omega⟩
  case round =>
    obtain ⟨k, L, rfl, hS, hB, hk0, hk52⟩ := hrel
    have hrm := hS.room
    clear hS2 hB2
    by_cases hfit : (50 : Int) + 2 ≤ roomL L - ho
    · go_wp2_with (at_make; refine wpList_make_full wr rfl _ _ 32 rfl wr.heap.size 5 i0 (.int .u8 0) 1 Try.underlying32 hi0'.out hz0'.out hz1'.out .i64 .i64 _ _ 50 rfl rfl rfl rfl q1'.out q2 (Nat.le_refl _) ?_; intro w3 ho3 hg3)
      have hb3 := grown_none hg3
      have hz3 := zeros_bs ho3
      refine (h_app ho hS hb3 hz3 (by omega) (by omega) (by omega) hfit).mono ?_
      rintro e w4 ⟨rfl, hS4, hb4⟩
      have hB4 : Below w.heap.size w w4 := below_tr (below_keep hb3 hB) (below_up hb4 hw1)
      have hbl := appL_buf L ho (List.replicate 50 0)
      rw [List.length_replicate] at hbl
      have hrm4 := hS4.room
      clear ho3 hg3 hz3 hb3
      go_wp2
      go_roundw
      case rel => exact ⟨k + 1, _, by go_num, hS4, hB4, fun h => by omega, by omega⟩
      case measure => simp [intOf]; omega
    · go_wp2_with (at_make; refine wpList_make_full wr rfl _ _ 32 rfl wr.heap.size 5 i0 (.int .u8 0) 1 Try.underlying32 hi0'.out hz0'.out hz1'.out .i64 .i64 _ _ 50 rfl rfl rfl rfl q1'.out q2 (Nat.le_refl _) ?_; intro w3 hom hgm)
      have hb3 := grown_none hgm
      have hS3 := hS.later hb3
      have hB3 : Below w.heap.size w w3 := below_keep hb3 hB
      clear hom hgm
      refine (h_full ho hS3 (by omega) (by omega) (by omega) (by omega)).mono ?_
      rintro e w4 ⟨rfl, kd, rfl⟩
      have hS4 := hS3.later (below_drewN (Below.refl _ _) kd)
      have hB4 := below_drewN hB3 kd
      generalize w3.drewN kd = w4 at *
      clear hS hB hS3 hB3 hb3 hfit hrm
      obtain ⟨H, hH⟩ : ∃ H, L.held = H := ⟨_, rfl⟩
      rw [hH] at hk0
      have hk0x := Lib.hid hk0
      clear hk0
      go_wp2_with fail
      go_loopw [6, 13, 14] (fun _ _ _ wr => ∃ L', HSt wr w1.heap.size d lb g F D0 c L' ∧ Below w.heap.size w wr ∧ L'.held = H) (fun _ _ _ wr => 10000 - bufN wr g)
      case atStart => exact ⟨L, hS4, hB4, hH⟩
      case round =>
        clear hS4 hB4 hH hk52
        obtain ⟨L', hS, hB, hH⟩ := hrel
        have hrm := hS.room
        have hbn := hS.n
        obtain ⟨rm, hrmv⟩ : ∃ rm, roomL L' = rm := ⟨_, rfl⟩
        have hrmx := Lib.hid hrmv
        rw [hrmv] at hrm
        clear hrmv
        have hHx := Lib.hid hH
        clear hH
        go_wp2_with fail
        refine (h_room hS rm hrmx.out).mono ?_
        rintro e w5 ⟨rfl, kd, rfl⟩
        have hS5 := hS.later (below_drewN (Below.refl _ _) kd)
        have hB5 := below_drewN hB kd
        have hbn5 : bufN (wr.drewN kd) g = L'.buf.length := hS5.n
        by_cases hr3 : 3 ≤ rm
        · generalize wr.drewN kd = w6 at *
          go_wp2_with fail
          have hb7 := below_new w6 (.cells #[.int .u8 1] 5)
          refine (h_app (n := 1) (o := 0) (cap := 1) (p := [1]) 0 hS5 hb7 ((BsR.of_at (l := [1]) (At.new w6 #[.int .u8 1] 5) rfl (Byt.cons (by omega) (by omega) Byt.nil)).less (Nat.zero_le _) |>.more (At.new w6 #[.int .u8 1] 5).lt) (by omega) (by omega) (by omega) (by rw [hrmx.out]; omega)).mono ?_
          rintro e w8 ⟨rfl, hS8, hb8⟩
          have hB8 : Below w.heap.size w w8 := below_tr (below_keep hb7 hB5) (below_up hb8 hw1)
          have hbl : (appL L' 0 [1]).buf.length = L'.buf.length + 2 + 1 := appL_buf L' 0 [1]
          have hbn8 := hS8.n
          have hrm8 := hS8.room
          have hh8 : (appL L' 0 [1]).held = H := by rw [held_app, hHx.out]; omega
          go_wp2
          go_roundw
          case rel => exact ⟨_, hS8, hB8, hh8⟩
          case measure => omega
        · generalize wr.drewN kd = w6 at *
          have hrmz := Lib.hid hrm
          clear hS hB hrm hbn hbn5
          go_wp2_with fail
          go_loopw [6, 16, 17, 18] (fun _ _ _ _ wr => ∃ L'', HSt wr w1.heap.size d lb g F D0 c L'' ∧ Below w.heap.size w wr ∧ L''.held ≤ H) (fun _ _ _ _ wr => 10000 - bufN wr g)
          case atStart => exact ⟨L', hS5, hB5, Int.le_of_eq hHx.out⟩
          case round =>
            clear hS5 hB5
            obtain ⟨L'', hS, hB, hH⟩ := hrel
            have hrm := hS.room
            have hbn := hS.n
            obtain ⟨hv, hvv⟩ : ∃ hv, L''.held = hv := ⟨_, rfl⟩
            have hvx := Lib.hid hvv
            rw [hvv] at hrm hH
            clear hvv
            go_wp2_with fail
            refine (h_held hS hv hvx.out).mono ?_
            rintro e w' ⟨rfl, rfl⟩
            by_cases hmore : (sz : Int) + 2 ≤ hv
            · have t5 : IntKind.i64.wrap (hv - (sz : Int)) = hv - sz := IntWalk.i64_in _ (by omega)
              have t6 : IntKind.i64.wrap (hv - (sz : Int) - 2) = hv - sz - 2 := IntWalk.i64_in _ (by omega)
              have sz0 : (0 : Int) ≤ sz := by omega
              go_wp2_with fail
              refine (h_held hS hv hvx.out).mono ?_
              rintro e w' ⟨rfl, rfl⟩
              go_wp2_with (at_make; refine wpList_make_full wr rfl _ _ 32 rfl wr.heap.size 5 i0 (.int .u8 0) 1 Try.underlying32 hi0'.out hz0'.out hz1'.out .i64 .i64 _ _ sz rfl rfl rfl rfl q3'.out q4'.out (Nat.le_refl _) ?_; intro w7 hom hgm)
              have hb7 := grown_none hgm
              have hz7 := zeros_bs hom
              clear hom hgm
              refine (h_spend hS hb7 hz7 (by omega) (by omega) (by rw [hvx.out]; exact hmore)).mono ?_
              rintro e w8 ⟨rfl, hS8, hb8⟩
              have hB8 : Below w.heap.size w w8 := below_tr (below_keep hb7 hB) (below_up hb8 hw1)
              have hbl := spendL_buf L'' (List.replicate sz 0)
              rw [List.length_replicate] at hbl
              have hh8 : (spendL L'' (List.replicate sz 0)).held = hv - sz - 2 := by rw [held_spend, hvx.out, List.length_replicate]; omega
              have hbn8 := hS8.n
              have hrm8 := hS8.room
              clear hz7 hb7 hS
              go_wp2_with fail
              refine (h_held hS8 _ hh8).mono ?_
              rintro e w' ⟨rfl, rfl⟩
              go_wp2
              go_roundw
              case rel => exact ⟨_, hS8, hB8, by rw [hh8]; omega⟩
              case measure => omega
            · have sz0 : (0 : Int) ≤ sz := by omega
              go_wp2_with (at_make; refine wpList_make_full wr rfl _ _ 32 rfl wr.heap.size 5 i0 (.int .u8 0) 1 Try.underlying32 hi0'.out hz0'.out hz1'.out .i64 .i64 _ _ sz rfl rfl rfl rfl q3'.out q4'.out (Nat.le_refl _) ?_; intro w7 hom hgm)
              have hb7 := grown_none hgm
              have hS7 := hS.later hb7
              have hB7 : Below w.heap.size w w7 := below_keep hb7 hB
              clear hom hgm
              refine (h_sfull hS7 (by omega) (by omega) (by rw [hvx.out]; omega)).mono ?_
              rintro e w8 ⟨rfl, kd2, rfl⟩
              have hS8 := hS7.later (below_drewN (Below.refl _ _) kd2)
              have hB8 := below_drewN hB7 kd2
              generalize w7.drewN kd2 = w8 at *
              go_wp2_with fail
              refine (h_flush hS8 hqt (by omega) (by rw [hln]; omega) (by rw [hops]; omega) (by rw [hway]; simp)).mono ?_
              rintro e w9 ⟨rfl, hb9, L9, ⟨bA9, bc9, hL9⟩, hh9, hr9⟩
              have hB9 : Below w.heap.size w w9 := below_tr hB8 (below_up hb9 hw1)
              obtain ⟨rm9, hrm9⟩ : ∃ rm, roomL L9 = rm := ⟨_, rfl⟩
              have hrm9x := Lib.hid hrm9
              rw [hrm9] at hr9
              rw [hvx.out] at hh9
              have hh9x := Lib.hid hh9
              clear hrm9 hh9
              go_wp2_with fail
              refine (lroom_q w9 rm9 hL9 hrm9x.out).mono ?_
              rintro e w10 ⟨rfl, kd3, rfl⟩
              have hL10 := hL9.drewN kd3
              have hB10 := below_drewN hB9 kd3
              have hrn : ¬ (rm9 < 0) := by omega
              have hrn2 : (0 : Int) ≤ rm9 := hr9
              generalize w9.drewN kd3 = w11 at *
              by_cases hk0 : k = 0
              · have hv0 : hv = 0 := by
                  have e1 := hk0x.out hk0
                  omega
                have hh0 : Hid (L9.held = 0) := Lib.hid (by rw [hh9x.out, hv0])
                subst hk0
                clear hv0
                go_wp2_with fail
                refine (lheld_calls w11 hL10).mono ?_
                rw [hh0.out]
                rintro e w' ⟨rfl, rfl⟩
                go_wp2
                go_ret
                exact ⟨by first | rfl | simp, hB10⟩
              · have hkp : (0 : Int) < k := by omega
                go_wp2
                go_ret
                exact ⟨by first | rfl | simp, hB10⟩
end Go.Proofs.Ytnehppeoffemlaa
