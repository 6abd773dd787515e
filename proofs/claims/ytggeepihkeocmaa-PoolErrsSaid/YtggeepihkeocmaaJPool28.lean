/- Joined texts: PlU. -/
import Derived.Test.YtggeepihkeocmaaJPool27
/- PoolErrs: the walk of the law. -/
namespace Go.Proofs.Ytggeepihkeocmaa
set_option linter.unusedVariables false
set_option linter.unusedSimpArgs false
open Go.RowKit Go.Maps
def I64 (a : Int) : Prop := -9223372036854775808 ≤ a ∧ a ≤ 9223372036854775807
theorem fresh_get : getE (freshS 3 2) 1 = 0 := (getS_new (s := freshS 3 2) (i := 1) (by show ¬ ((1 : Int) < 0 ∨ (3 : Int) ≤ 1); omega) rfl (by show ((0 : Nat) : Int) < 2; omega)).1
set_option maxRecDepth 100000 in
set_option maxHeartbeats 16000000 in
theorem poolerrs_calls {m mc : Nat} {B : Option Addr} {b : List Int} (a pages most i off : Int) (w : World) (ha : I64 a) (hp : I64 pages) (hmo : I64 most) (hi : I64 i) (ho : I64 off) (hb : BsR w 0 w.heap.size B m b) (hm : m ≤ 140737488351232) :
    Calls Try.prog 5 #[.int .i64 a, .int .i64 pages, .int .i64 most, .int .i64 i, .int .i64 off, .slice B m mc] w fun e w' => e = .returned (.bool true) ∧ Below w.heap.size w w' := by
  have hbx := Lib.hid hb
  have hax := Lib.hid ha
  have hpx := Lib.hid hp
  have hmx := Lib.hid hmo
  have hox := Lib.hid ho
  have hmx9 := Lib.hid hm
  clear hb ha hp hmo hi ho
  go_enter Try.func5, Try.ntmps5
  go_wp2_with fail
  refine (plawake_calls w).mono ?_
  rintro e w1 ⟨rfl, hb1⟩
  have hw1 := hb1.size
  go_wp2_with fail
  refine (pfresh_calls 3 2 w1 (by omega) (by omega)).mono ?_
  rintro e w2 ⟨x, d, lb, g, pp, F, bA, bc, o, rfl, kx, hP, hx, hxl, hb2⟩
  have hB2 : Below w.heap.size w w2 := below_keep hb2 hb1
  have hlen : (freshS 3 2).D.l.length = 44 := opnD_len (by omega) (by omega) (by omega)
  have hlenx := Lib.hid hlen
  have d2 : Below w2.heap.size w2 w2.drew := below_dr (Below.refl _ _)
  have hPd := hP.later d2
  have kd := At.keep d2 kx
  have kdc := kd.c
  have hPx := Lib.hid hP
  have hxx := Lib.hid hx
  clear hP hx hlen hb2
  have kxc := kx.c; have kxf := kx.f; have kxl := kx.lt
  go_upto_region 6 with (fail)
  by_cases hr : NewNo a pages most 44
  · have hrx := Lib.hid hr
    clear hr
    go_region_held3 (fun w' => (∀ o9, w'.cell? ⟨x, o9, none⟩ = #[.pointer (some ⟨d, 0, none⟩), .pointer (some ⟨g, 0, none⟩), .pointer (some ⟨pp, 0, none⟩)][o9]?))
      (first
        | (exact kdc)
        | (exact f4))
      (first
        | (go_at_call 27; with_reducible refine (pnew_no (n := 44) (g := g) a pages most w2.drew hPd.d hlenx.out hrx.out (by omega)).mono ?_; rintro e w4 ⟨rfl, rfl⟩
           have f4 := kdc)
        | fail)
    have hPk := hPx.out.later d2
    have kk := At.keep d2 kx
    have hBk := below_keep d2 hB2
    clear kx kxc kxf kxl kd kdc hPd d2 f4
    generalize w2.drew = wK at *
    have hPkx := Lib.hid hPk
    clear hPk
    have kkc := kk.c; have kkf := kk.f; have kkl := kk.lt
    go_upto_region 7 with (fail)
    go_cut [16] (fun v16 wc => v16 = .bool false ∧ wc = wK)
    case first =>
      by_cases h1 : a < 0
      · have c1 : decide (0 ≤ a) = false := by simp; omega
        go_wp2_with fail
        go_meet
        case rel => exact ⟨rfl, rfl⟩
      have c1 : decide (0 ≤ a) = true := by simp; omega
      by_cases h2 : pages < 1
      · have c2 : decide (1 ≤ pages) = false := by simp; omega
        clear h1
        go_wp2_with fail
        go_meet
        case rel => exact ⟨rfl, rfl⟩
      have c2 : decide (1 ≤ pages) = true := by simp; omega
      by_cases h3 : 4096 < pages
      · have c3 : decide (pages ≤ 4096) = false := by simp; omega
        clear h1 h2
        go_wp2_with fail
        go_meet
        case rel => exact ⟨rfl, rfl⟩
      have c3 : decide (pages ≤ 4096) = true := by simp; omega
      have z1 : IntKind.i64.wrap (44 - pages) = 44 - pages := IntWalk.i64_in _ (by omega)
      by_cases h4 : (44 : Int) - pages < a
      · have c4 : decide (a ≤ 44 - pages) = false := by simp; omega
        clear h1 h2 h3
        go_wp2_with fail
        go_meet
        case rel => exact ⟨rfl, rfl⟩
      have c4 : decide (a ≤ 44 - pages) = true := by simp; omega
      by_cases h5 : most < 1
      · have c5 : decide (1 ≤ most) = false := by simp; omega
        clear h1 h2 h3 h4
        go_wp2_with fail
        go_meet
        case rel => exact ⟨rfl, rfl⟩
      have c5 : decide (1 ≤ most) = true := by simp; omega
      have h6 : 64 < most := by have := hrx.out; unfold NewNo at this; omega
      have c6 : decide (most ≤ 64) = false := by simp; omega
      clear h1 h2 h3 h4 h5
      go_wp2_with fail
      go_meet
      case rel => exact ⟨rfl, rfl⟩
    case rest =>
      obtain ⟨rfl, hwc⟩ := hcut
      have hwc2 := hwc.symm
      subst hwc2
      clear hrx
      go_wp2_with fail
      refine (pnew_nil1 _ a pages most wK).mono ?_
      rintro e w5 ⟨rfl, rfl⟩
      go_wp2_with fail
      refine (pnew_nil2 d a pages most wK).mono ?_
      rintro e w5 ⟨rfl, rfl⟩
      go_wp2_with fail
      by_cases hw : WrNo off m
      · refine (pwrite_arg 1 off 480 wK hw hox.out (by have := hmx9.out; omega)).mono ?_
        rintro e w6 ⟨rfl, rfl⟩
        have hwx := Lib.hid hw
        clear hw
        go_upto_region 13 with (fail)
        go_cut [130] (fun v130 wc => v130 = .bool false ∧ wc = wK)
        case first =>
          have ho1 := hox.out.1
          have ho2 := hox.out.2
          by_cases h1 : off < 0
          · have c1 : decide (off < 0) = true := by simp; exact h1
            go_wp2_with fail
            go_meet
            case rel => exact ⟨by first | rfl | simp, rfl⟩
          have c1 : decide (off < 0) = false := by simp; omega
          by_cases h2 : 504 < off
          · have c2 : decide (504 < off) = true := by simp; exact h2
            clear h1
            go_wp2_with fail
            go_meet
            case rel => exact ⟨by first | rfl | simp, rfl⟩
          have c2 : decide (504 < off) = false := by simp; omega
          have h3 : 504 - off < m := by have := hwx.out; unfold WrNo at this; omega
          have c3 : decide (504 - off < (m : Int)) = true := by simp; omega
          have z1 : IntKind.i64.wrap (504 - off) = 504 - off := IntWalk.i64_in _ (by omega)
          clear h1 h2
          go_wp2_with fail
          go_meet
          case rel => exact ⟨by first | rfl | simp, rfl⟩
        case rest =>
          obtain ⟨rfl, hwc⟩ := hcut
          have hwc2 := hwc.symm
          subst hwc2
          clear hwx kkc kkf kkl
          go_wp2_with fail
          refine (pread_nil i wK).mono ?_
          rintro e w9 ⟨rfl, rfl⟩
          go_wp2_with fail
          refine (pwrite_nil i wK).mono ?_
          rintro e w9 ⟨rfl, rfl⟩
          go_wp2_with fail
          refine (ppin_nil i wK).mono ?_
          rintro e w9 ⟨rfl, rfl⟩
          go_wp2_with fail
          refine (punpin_nil i wK).mono ?_
          rintro e w9 ⟨rfl, rfl⟩
          go_wp2_with fail
          refine (pflush_nil wK).mono ?_
          rintro e w9 ⟨rfl, rfl⟩
          go_wp2_with fail
          refine (pdirty_nil wK).mono ?_
          rintro e w9 ⟨rfl, rfl⟩
          go_wp2_with fail
          refine (plen_nil wK).mono ?_
          rintro e w9 ⟨rfl, rfl⟩
          go_wp2
          go_ret
          exact ⟨by first | rfl | simp, hBk⟩
      · have ho0 : 0 ≤ off := by unfold WrNo at hw; omega
        have ho4 : off ≤ 504 := by unfold WrNo at hw; omega
        have hmo : (m : Int) ≤ 504 - off := by unfold WrNo at hw; omega
        obtain ⟨offN, hoN⟩ : ∃ k : Nat, off = (k : Int) := ⟨off.toNat, by omega⟩
        subst hoN
        have hbK : BsR wK 0 wK.heap.size B m b := hbx.out.below hBk (Nat.le_refl _) |>.more hBk.size
        refine (pwrite_calls (b := b) 1 offN 480 wK hPkx.out (fresh_inv (by omega)) (by show (0 : Int) + 1 ≤ _; omega) (by omega) hbK (fun h0 k hk hf => by
          obtain ⟨gb, go', hB, -, hl, -⟩ := hbx.out.2.2 h0
          have e2 : gb = k := by rw [hB] at hk; simpa [ownBlk] using hk
          have := (hPkx.out.lts k hf).1
          omega) (by omega) (by omega)).mono ?_
        rw [fresh_get]
        rintro e w6 ⟨rfl, (⟨hne, -⟩ | ⟨-, o4, F4, bA4, bc4, hP4, hg4, hm4⟩)⟩
        · exact absurd fresh_get hne
        have hB6 : Below w.heap.size w w6 := below_tr hBk (hm4.below hBk.size (fun k hk => by have := (hPkx.out.lts k hk).1; omega))
        have c1 : decide ((offN : Int) < 0) = false := by simp
        have c2 : decide (504 < (offN : Int)) = false := by simp; omega
        have c3 : decide (504 - (offN : Int) < (m : Int)) = false := by simp; omega
        have z1 : IntKind.i64.wrap (504 - (offN : Int)) = 504 - offN := IntWalk.i64_in _ (by omega)
        have n1 : ¬ ((offN : Int) < 0) := by omega
        have n2 : ¬ ((504 : Int) < offN) := by omega
        have n3 : ¬ ((504 : Int) - offN < m) := by omega
        clear hw hP4 hg4 hm4 kk kkc kkf kkl hbK
        go_wp2_with fail
        refine (pread_nil i w6).mono ?_
        rintro e w9 ⟨rfl, rfl⟩
        go_wp2_with fail
        refine (pwrite_nil i w6).mono ?_
        rintro e w9 ⟨rfl, rfl⟩
        go_wp2_with fail
        refine (ppin_nil i w6).mono ?_
        rintro e w9 ⟨rfl, rfl⟩
        go_wp2_with fail
        refine (punpin_nil i w6).mono ?_
        rintro e w9 ⟨rfl, rfl⟩
        go_wp2_with fail
        refine (pflush_nil w6).mono ?_
        rintro e w9 ⟨rfl, rfl⟩
        go_wp2_with fail
        refine (pdirty_nil w6).mono ?_
        rintro e w9 ⟨rfl, rfl⟩
        go_wp2_with fail
        refine (plen_nil w6).mono ?_
        rintro e w9 ⟨rfl, rfl⟩
        go_wp2
        go_ret
        exact ⟨by first | rfl | simp, hB6⟩
  · obtain ⟨r1, r2, r3, r4, r5, r6⟩ : 0 ≤ a ∧ 1 ≤ pages ∧ pages ≤ 4096 ∧ a ≤ 44 - pages ∧ 1 ≤ most ∧ most ≤ 64 := by unfold NewNo at hr; omega
    have hfit : a + pages ≤ ((freshS 3 2).D.l.length : Int) := by rw [hlenx.out]; omega
    clear hr
    go_region_held3 (fun w' => (∀ o9, w'.cell? ⟨x, o9, none⟩ = #[.pointer (some ⟨d, 0, none⟩), .pointer (some ⟨g, 0, none⟩), .pointer (some ⟨pp, 0, none⟩)][o9]?))
      (first
        | (exact kdc)
        | (exact f4))
      (first
        | (go_at_call 27; with_reducible refine (pnew_calls a pages most w2.drew hPd.d hPd.l r1 ⟨r2, r3⟩ hfit ⟨r5, r6⟩).mono ?_; rintro e wK ⟨pp2, o2, rfl, hP2, hb4, hpp2⟩
           have kk := At.keep hb4 kd
           have f4 := kk.c)
        | fail)
    have hPkx := Lib.hid (hPd.later hb4)
    have hBk := below_keep hb4 (below_keep d2 hB2)
    have c1 : decide (0 ≤ a) = true := by simp; omega
    have c2 : decide (1 ≤ pages) = true := by simp; omega
    have c3 : decide (pages ≤ 4096) = true := by simp; omega
    have z1 : IntKind.i64.wrap (44 - pages) = 44 - pages := IntWalk.i64_in _ (by omega)
    have c4 : decide (a ≤ 44 - pages) = true := by simp; omega
    have c5 : decide (1 ≤ most) = true := by simp; omega
    have c6 : decide (most ≤ 64) = true := by simp; omega
    clear kx kxc kxf kxl kd kdc hPd d2 f4 hP2 hb4 hpp2 hfit
    have kkc := kk.c; have kkf := kk.f; have kkl := kk.lt
    go_upto_region 7 with (fail)
    go_cut [16] (fun v16 wc => v16 = .bool true ∧ wc = wK)
    case first =>
      go_wp2_with fail
      go_meet
      case rel => exact ⟨rfl, rfl⟩
    case rest =>
      obtain ⟨rfl, hwc⟩ := hcut
      have hwc2 := hwc.symm
      subst hwc2
      clear r1 r2 r3 r4 r5 r6 c1 c2 c3 c4 c5 c6 z1
      go_wp2_with fail
      refine (pnew_nil1 _ a pages most wK).mono ?_
      rintro e w5 ⟨rfl, rfl⟩
      go_wp2_with fail
      refine (pnew_nil2 d a pages most wK).mono ?_
      rintro e w5 ⟨rfl, rfl⟩
      go_wp2_with fail
      by_cases hw : WrNo off m
      · refine (pwrite_arg 1 off 480 wK hw hox.out (by have := hmx9.out; omega)).mono ?_
        rintro e w6 ⟨rfl, rfl⟩
        have hwx := Lib.hid hw
        clear hw
        go_upto_region 13 with (fail)
        go_cut [130] (fun v130 wc => v130 = .bool false ∧ wc = wK)
        case first =>
          have ho1 := hox.out.1
          have ho2 := hox.out.2
          by_cases h1 : off < 0
          · have c1 : decide (off < 0) = true := by simp; exact h1
            go_wp2_with fail
            go_meet
            case rel => exact ⟨by first | rfl | simp, rfl⟩
          have c1 : decide (off < 0) = false := by simp; omega
          by_cases h2 : 504 < off
          · have c2 : decide (504 < off) = true := by simp; exact h2
            clear h1
            go_wp2_with fail
            go_meet
            case rel => exact ⟨by first | rfl | simp, rfl⟩
          have c2 : decide (504 < off) = false := by simp; omega
          have h3 : 504 - off < m := by have := hwx.out; unfold WrNo at this; omega
          have c3 : decide (504 - off < (m : Int)) = true := by simp; omega
          have z1 : IntKind.i64.wrap (504 - off) = 504 - off := IntWalk.i64_in _ (by omega)
          clear h1 h2
          go_wp2_with fail
          go_meet
          case rel => exact ⟨by first | rfl | simp, rfl⟩
        case rest =>
          obtain ⟨rfl, hwc⟩ := hcut
          have hwc2 := hwc.symm
          subst hwc2
          clear hwx kkc kkf kkl
          go_wp2_with fail
          refine (pread_nil i wK).mono ?_
          rintro e w9 ⟨rfl, rfl⟩
          go_wp2_with fail
          refine (pwrite_nil i wK).mono ?_
          rintro e w9 ⟨rfl, rfl⟩
          go_wp2_with fail
          refine (ppin_nil i wK).mono ?_
          rintro e w9 ⟨rfl, rfl⟩
          go_wp2_with fail
          refine (punpin_nil i wK).mono ?_
          rintro e w9 ⟨rfl, rfl⟩
          go_wp2_with fail
          refine (pflush_nil wK).mono ?_
          rintro e w9 ⟨rfl, rfl⟩
          go_wp2_with fail
          refine (pdirty_nil wK).mono ?_
          rintro e w9 ⟨rfl, rfl⟩
          go_wp2_with fail
          refine (plen_nil wK).mono ?_
          rintro e w9 ⟨rfl, rfl⟩
          go_wp2
          go_ret
          exact ⟨by first | rfl | simp, hBk⟩
      · have ho0 : 0 ≤ off := by unfold WrNo at hw; omega
        have ho4 : off ≤ 504 := by unfold WrNo at hw; omega
        have hmo : (m : Int) ≤ 504 - off := by unfold WrNo at hw; omega
        obtain ⟨offN, hoN⟩ : ∃ k : Nat, off = (k : Int) := ⟨off.toNat, by omega⟩
        subst hoN
        have hbK : BsR wK 0 wK.heap.size B m b := hbx.out.below hBk (Nat.le_refl _) |>.more hBk.size
        refine (pwrite_calls (b := b) 1 offN 480 wK hPkx.out (fresh_inv (by omega)) (by show (0 : Int) + 1 ≤ _; omega) (by omega) hbK (fun h0 k hk hf => by
          obtain ⟨gb, go', hB, -, hl, -⟩ := hbx.out.2.2 h0
          have e2 : gb = k := by rw [hB] at hk; simpa [ownBlk] using hk
          have := (hPkx.out.lts k hf).1
          omega) (by omega) (by omega)).mono ?_
        rw [fresh_get]
        rintro e w6 ⟨rfl, (⟨hne, -⟩ | ⟨-, o4, F4, bA4, bc4, hP4, hg4, hm4⟩)⟩
        · exact absurd fresh_get hne
        have hB6 : Below w.heap.size w w6 := below_tr hBk (hm4.below hBk.size (fun k hk => by have := (hPkx.out.lts k hk).1; omega))
        have c1 : decide ((offN : Int) < 0) = false := by simp
        have c2 : decide (504 < (offN : Int)) = false := by simp; omega
        have c3 : decide (504 - (offN : Int) < (m : Int)) = false := by simp; omega
        have z1 : IntKind.i64.wrap (504 - (offN : Int)) = 504 - offN := IntWalk.i64_in _ (by omega)
        have n1 : ¬ ((offN : Int) < 0) := by omega
        have n2 : ¬ ((504 : Int) < offN) := by omega
        have n3 : ¬ ((504 : Int) - offN < m) := by omega
        clear hw hP4 hg4 hm4 kk kkc kkf kkl hbK
        go_wp2_with fail
        refine (pread_nil i w6).mono ?_
        rintro e w9 ⟨rfl, rfl⟩
        go_wp2_with fail
        refine (pwrite_nil i w6).mono ?_
        rintro e w9 ⟨rfl, rfl⟩
        go_wp2_with fail
        refine (ppin_nil i w6).mono ?_
        rintro e w9 ⟨rfl, rfl⟩
        go_wp2_with fail
        refine (punpin_nil i w6).mono ?_
        rintro e w9 ⟨rfl, rfl⟩
        go_wp2_with fail
        refine (pflush_nil w6).mono ?_
        rintro e w9 ⟨rfl, rfl⟩
        go_wp2_with fail
        refine (pdirty_nil w6).mono ?_
        rintro e w9 ⟨rfl, rfl⟩
        go_wp2_with fail
        refine (plen_nil w6).mono ?_
        rintro e w9 ⟨rfl, rfl⟩
        go_wp2
        go_ret
        exact ⟨by first | rfl | simp, hB6⟩
end Go.Proofs.Ytggeepihkeocmaa
