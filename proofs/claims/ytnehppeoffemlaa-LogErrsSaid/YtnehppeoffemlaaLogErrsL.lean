/- LogErrs: the walk of the law. -/
import Derived.Test.YtnehppeoffemlaaLogV
import Derived.Test.YtnehppeoffemlaaLogC
import Derived.Test.YtnehppeoffemlaaFull
import Derived.Deep.DeepCutAuto
namespace Go.Proofs.Ytnehppeoffemlaa
set_option linter.unusedVariables false
set_option linter.unusedSimpArgs false
open Go.RowKit
theorem grown_no {w w' : World} (h : w.grownBy w' none) : Below w.heap.size w w' := ((Mod.refl Nob w).grown h (fun _ h => by cases h)).below (Nat.le_refl _) (fun _ h => h.elim)
theorem lformat_nil (a c : Int) (w : World) : Calls Try.prog 27 #[.pointer none, .int .i64 a, .int .i64 c] w fun e w' => e = .returned (.int .i64 6) ∧ w = w' := by
  go_enter Try.func27, Try.ntmps27
  go_wp2_with fail
  refine (llook_nil a c w).mono ?_
  rintro e w' ⟨rfl, rfl⟩
  go_wp2
  go_ret
  exact ⟨by first | rfl | simp, rfl⟩
theorem lopen_nil (a c : Int) (w : World) : Calls Try.prog 23 #[.pointer none, .int .i64 a, .int .i64 c] w fun e w' => e = .returned (.tuple #[.pointer none, .int .i64 6]) ∧ w = w' := by
  go_enter Try.func23, Try.ntmps23
  go_wp2_with fail
  refine (llook_nil a c w).mono ?_
  rintro e w' ⟨rfl, rfl⟩
  go_wp2
  go_ret2
  exact ⟨by first | rfl | simp, rfl⟩
theorem zeros_own {w : World} {base b m : Nat} (ho : w.ownsRow base 5 1 (.slice (some ⟨b, 0, none⟩) m m) m (madeCells (Value.int .u8 0).cells (m * 1)).toList) : OwB w base (some ⟨b, 0, none⟩) m m (List.replicate m 0) := by
  rw [Nat.mul_one, show (Value.int .u8 0).cells = #[.int .u8 0] from rfl, toList_madeCells_one] at ho
  exact ⟨List.length_replicate, fun x hx => by rw [List.eq_of_mem_replicate hx]; omega, by rw [List.map_replicate]; exact ho⟩
theorem zero_mas : ¬ MasYes (List.replicate 512 0) := fun h => by
  have := h.1
  exact absurd this (by decide)
set_option maxRecDepth 100000 in
set_option maxHeartbeats 8000000 in
theorem logerrs_calls (n a c : Int) (A : Option Addr) (pn pc : Nat) (w : World) :
    Calls Try.prog 5 #[.int .i64 n, .int .i64 a, .int .i64 c, .slice A pn pc] w fun e w' => e = .returned (.bool true) ∧ Below w.heap.size w w' := by
  by_cases hn : n < 1 ∨ 100 < n
  · have hnx := Lib.hid hn
    clear hn
    rcases Bool.eq_false_or_eq_true (decide (n < 1)) with c1 | c1
    · clear hnx
      go_enter Try.func5, Try.ntmps5
      go_wp2_with fail
      refine (log_awake w).mono ?_
      rintro e w1 ⟨rfl, hb1⟩
      go_wp2_with fail
      refine (log_awake w1).mono ?_
      rintro e w2 ⟨rfl, hb2⟩
      go_wp2
      go_ret
      exact ⟨by first | rfl | simp, below_keep hb2 hb1⟩
    · have c2 : decide (100 < n) = true := by have := hnx.out; simp at c1 ⊢; omega
      clear hnx
      go_enter Try.func5, Try.ntmps5
      go_wp2_with fail
      refine (log_awake w).mono ?_
      rintro e w1 ⟨rfl, hb1⟩
      go_wp2_with fail
      refine (log_awake w1).mono ?_
      rintro e w2 ⟨rfl, hb2⟩
      go_wp2
      go_ret
      exact ⟨by first | rfl | simp, below_keep hb2 hb1⟩
  · have c1 : decide (n < 1) = false := by simp; omega
    have c2 : decide (100 < n) = false := by simp; omega
    obtain ⟨m, hm⟩ : ∃ m : Nat, (m : Int) = n := ⟨n.toNat, by omega⟩
    subst hm
    have hm1 : 1 ≤ m ∧ m ≤ 100 := by omega
    clear hn
    obtain ⟨i0, hi0, hz0, hz1, hz2⟩ := info_parts info8
    have q1 : i0.bytes * 512 ≤ 281474976710656 := by rw [hz2]; omega
    have q2 : (512 : Nat) ≤ maxLen := by unfold maxLen; omega
    have q1' := Lib.hid q1
    have hi0' := Lib.hid hi0
    have hz0' := Lib.hid hz0
    have hz1' := Lib.hid hz1
    clear hi0 hz0 hz1 hz2 q1
    have hnl : (newD m).l.length = m := List.length_replicate
    have w1n : IntKind.i64.wrap ((m : Int) - 1) = (m : Int) - 1 := IntWalk.i64_in _ (by omega)
    go_enter Try.func5, Try.ntmps5
    go_wp2_with fail
    refine (log_awake w).mono ?_
    rintro e w1 ⟨rfl, hb1⟩
    go_wp2_with fail
    refine (new_calls m hm1.1 (by omega) w1).mono ?_
    rintro e w2 ⟨d, lb, rfl, hd0, hb2, hdd, hlb⟩
    have hD2 : DD w2 w1.heap.size d lb (Foot d lb none) (newD m) := DD.of ⟨hd0, hdd, hlb, fun b hb => by cases hb⟩
    have hB2 : Below w.heap.size w w2 := below_keep hb2 hb1
    clear hd0
    go_wp2_with fail
    rcases llookE_range (newD m) a c with hok | hno
    · have hf := look_facts hok
      rw [hnl] at hf
      obtain ⟨i, hi⟩ : ∃ i : Nat, (i : Int) = a := ⟨a.toNat, by omega⟩
      have hll : Hid (0 ≤ a ∧ 4 ≤ c ∧ c ≤ 4096 ∧ a ≤ (m : Int) - 1 - c) := Lib.hid hf
      have hmk : Hid (mkD (newD m) i (masterL (fmtL a c)) = fmD m a c) := Lib.hid (by unfold fmD; rw [show a.toNat = i by omega])
      have hmE : Hid (mkE (newD m) i (masterL (fmtL a c)) = 0) := Lib.hid ((newD_qt m).mkE _ _)
      have hix := Lib.hid hi
      clear hi hf
      refine (lformat_ok a c i w2 hD2 hok hix.out (by show (0 : Int) + 1 < _; omega) (by show 0 < _; omega)).mono ?_
      rw [hmk.out, hmE.out]
      rintro e w3 ⟨rfl, ⟨F3, hD3, hg3⟩, hm3⟩
      have hB3 : Below w.heap.size w w3 := below_tr hB2 (hm3.below hB2.size (fun k hk => Nat.le_trans hb1.size (hD2.lts k hk).1))
      go_upto_region 5 with (fail)
      go_cut [12] (fun v12 wc => v12 = .bool false ∧ w3 = wc)
      case first =>
        have hx := hll.out
        go_wp2
        all_goals go_meet
        all_goals (case rel => exact ⟨by first | rfl | (simp; omega) | (exfalso; omega) | (rw [IntWalk.i64_in (m - 1 - c) (by omega)]; first | (simp; omega) | (exfalso; omega)), rfl⟩)
      case rest =>
        obtain ⟨rfl, rfl⟩ := hcut
        have hf := hll.out
        go_wp2_with fail
        refine (lopen_fm a c i w3 hD3 hix.out (by omega) (by omega) (by omega) (by omega)).mono ?_
        rintro e w4 ⟨F4, g, bA, bc, rfl, hD4, hg4, hm4, hgw, hL4, -⟩
        have hB4 : Below w.heap.size w w4 := below_tr hB3 (hm4.below hB3.size (fun k hk => Nat.le_trans hb1.size (hD3.lts k hk).1))
        have hln4 : (opnD m a c).l.length = m := opnD_len (by omega) (by omega) (by omega)
        have hq4 : Qt (opnD m a c) := opnD_qt (by omega) (by omega) (by omega)
        have ho4 : (opnD m a c).ops = 6 := opnD_ops (by omega) (by omega) (by omega)
        have hw4 : (opnD m a c).way = [] := opnD_way (by omega) (by omega) (by omega)
        generalize opnD m a c = D4 at *
        have hi := hix.out
        have hil : i < D4.l.length := by omega
        have hw4' : D4.way.length = 0 := by rw [hw4]; rfl
        clear hi hf hw4
        rw [← hix.out]
        rw [← hix.out] at hL4
        go_wp2_with (at_make; refine wpList_make_full w4 rfl _ _ 32 rfl w4.heap.size 5 i0 (.int .u8 0) 1 Try.underlying32 hi0'.out hz0'.out hz1'.out .i64 .i64 _ _ 512 rfl rfl rfl rfl q1'.out q2 (Nat.le_refl _) ?_; intro w5 hom hgm)
        have hb5 := grown_no hgm
        have hz5 := zeros_own hom
        have hD5 := hD4.later hb5
        have hL5 := hL4.later hb5
        have hB5 : Below w.heap.size w w5 := below_keep hb5 hB4
        clear hom hgm hD4 hL4
        refine (wr_dd i w5 hD5 hil (by omega) (by omega) hz5).mono ?_
        rw [hq4.wr1, hq4.wrE]
        rintro e w6 ⟨rfl, ⟨F6, hD6, hg6⟩, hm6⟩
        have hL6 := hL5.mod hm6 (hL5.w.noF hD5) (hD5.noB hL5.buf)
        have hB6 : Below w.heap.size w w6 := below_tr hB5 (hm6.below hB5.size (fun k hk => Nat.le_trans hb1.size (hD5.lts k hk).1))
        have hrd : readD (wrD D4 i (List.replicate 512 0)) i = List.replicate 512 0 := by rw [readD_wr, if_pos rfl]
        have hlk6 : llookE (wrD D4 i (List.replicate 512 0)) i c = 0 := by
          have hf := hll.out
          have e : (wrD D4 i (List.replicate 512 0)).l.length = m := hln4
          unfold llookE
          rw [e, hix.out]
          exact if_neg (by omega)
        have hop6 : (wrD D4 i (List.replicate 512 0)).ops = 7 := by show D4.ops + 1 = 7; omega
        have hwy6 : (wrD D4 i (List.replicate 512 0)).way.length = 1 := by show (D4.way ++ _).length = 1; rw [List.length_append, hw4']; rfl
        have hof6 : (wrD D4 i (List.replicate 512 0)).off = false := (hq4.wr _ _).2
        generalize wrD D4 i (List.replicate 512 0) = D6 at *
        have hrdx := Lib.hid hrd
        clear hrd
        go_wp2_with fail
        refine (lopen_w i c i w6 hD6 hlk6 rfl hof6 (by omega) (by omega) (fun h => absurd (hrdx.out ▸ h) zero_mas)).mono ?_
        rintro e w7 (⟨-, rfl, hb7⟩ | ⟨hy, -⟩ | ⟨hy, -⟩)
        · have hL7 := hL6.later hb7
          have hB7 := below_keep hb7 hB6
          go_wp2_with fail
          refine (lrel_arg 1 w7 hL7 (.inr (by show (0 : Int) < 1; omega))).mono ?_
          rintro e w8 ⟨rfl, kd, rfl⟩
          have hB8 := below_drewN hB7 kd
          generalize w7.drewN kd = w8 at *
          go_wp2_with fail
          refine (lappend_nil A pn pc 0 w8).mono ?_
          rintro e w' ⟨rfl, rfl⟩
          go_wp2_with fail
          refine (lspend_nil A pn pc w8).mono ?_
          rintro e w' ⟨rfl, rfl⟩
          go_wp2_with fail
          refine (lread_nil 480 w8).mono ?_
          rintro e w' ⟨rfl, rfl⟩
          go_wp2_with fail
          refine (lopen_nil i c w8).mono ?_
          rintro e w' ⟨rfl, rfl⟩
          go_wp2_with fail
          refine (lformat_nil i c w8).mono ?_
          rintro e w' ⟨rfl, rfl⟩
          go_wp2_with fail
          refine (lflush_nil w8).mono ?_
          rintro e w' ⟨rfl, rfl⟩
          go_wp2_with fail
          refine (lmark_nil 0 0 w8).mono ?_
          rintro e w' ⟨rfl, rfl⟩
          go_wp2_with fail
          refine (lrelease_nil 0 w8).mono ?_
          rintro e w' ⟨rfl, rfl⟩
          go_wp2_with fail
          refine (lend_nil w8).mono ?_
          rintro e w' ⟨rfl, rfl⟩
          go_wp2_with fail
          refine (lsure_nil w8).mono ?_
          rintro e w' ⟨rfl, rfl⟩
          go_wp2_with fail
          refine (lstart_nil w8).mono ?_
          rintro e w' ⟨rfl, rfl⟩
          go_wp2_with fail
          refine (lcheck_nil w8).mono ?_
          rintro e w' ⟨rfl, rfl⟩
          go_wp2_with fail
          refine (lroom_nil w8).mono ?_
          rintro e w' ⟨rfl, rfl⟩
          go_wp2_with fail
          refine (lheld_nil w8).mono ?_
          rintro e w' ⟨rfl, rfl⟩
          go_wp2
          go_ret
          exact ⟨by first | rfl | simp, hB8⟩
        · exact absurd (hrdx.out ▸ hy) zero_mas
        · exact absurd (hrdx.out ▸ hy) zero_mas
    · have hll : Hid (a < 0 ∨ c < 4 ∨ 4096 < c ∨ (m : Int) - 1 - c < a) := Lib.hid (by
        unfold llookE at hno
        rw [hnl] at hno
        by_cases h : a < 0 ∨ c < 4 ∨ 4096 < c ∨ (m : Int) - 1 - c < a
        · exact h
        · rw [if_neg h] at hno; omega)
      refine (lformat_no a c w2 hD2 hno).mono ?_
      rintro e w' ⟨rfl, rfl⟩
      go_upto_region 5 with (fail)
      go_cut [12] (fun v12 wc => v12 = .bool true ∧ w2 = wc)
      case first =>
        have hx := hll.out
        go_wp2
        all_goals go_meet
        all_goals (case rel => exact ⟨by first | rfl | (simp; omega) | (exfalso; omega) | (rw [IntWalk.i64_in (m - 1 - c) (by omega)]; first | (simp; omega) | (exfalso; omega)), rfl⟩)
      case rest =>
        obtain ⟨rfl, rfl⟩ := hcut
        go_wp2_with fail
        refine (lopen_no a c w2 hD2 hno).mono ?_
        rintro e w' ⟨rfl, rfl⟩
        go_wp2_with fail
        refine (lappend_nil A pn pc 0 w2).mono ?_
        rintro e w' ⟨rfl, rfl⟩
        go_wp2_with fail
        refine (lspend_nil A pn pc w2).mono ?_
        rintro e w' ⟨rfl, rfl⟩
        go_wp2_with fail
        refine (lread_nil 480 w2).mono ?_
        rintro e w' ⟨rfl, rfl⟩
        go_wp2_with fail
        refine (lopen_nil a c w2).mono ?_
        rintro e w' ⟨rfl, rfl⟩
        go_wp2_with fail
        refine (lformat_nil a c w2).mono ?_
        rintro e w' ⟨rfl, rfl⟩
        go_wp2_with fail
        refine (lflush_nil w2).mono ?_
        rintro e w' ⟨rfl, rfl⟩
        go_wp2_with fail
        refine (lmark_nil 0 0 w2).mono ?_
        rintro e w' ⟨rfl, rfl⟩
        go_wp2_with fail
        refine (lrelease_nil 0 w2).mono ?_
        rintro e w' ⟨rfl, rfl⟩
        go_wp2_with fail
        refine (lend_nil w2).mono ?_
        rintro e w' ⟨rfl, rfl⟩
        go_wp2_with fail
        refine (lsure_nil w2).mono ?_
        rintro e w' ⟨rfl, rfl⟩
        go_wp2_with fail
        refine (lstart_nil w2).mono ?_
        rintro e w' ⟨rfl, rfl⟩
        go_wp2_with fail
        refine (lcheck_nil w2).mono ?_
        rintro e w' ⟨rfl, rfl⟩
        go_wp2_with fail
        refine (lroom_nil w2).mono ?_
        rintro e w' ⟨rfl, rfl⟩
        go_wp2_with fail
        refine (lheld_nil w2).mono ?_
        rintro e w' ⟨rfl, rfl⟩
        go_wp2
        go_ret
        exact ⟨by first | rfl | simp, hB2⟩
end Go.Proofs.Ytnehppeoffemlaa
