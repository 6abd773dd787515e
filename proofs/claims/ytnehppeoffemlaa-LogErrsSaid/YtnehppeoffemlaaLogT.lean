/- The log laws' fresh. -/
import Derived.Test.YtnehppeoffemlaaLogS
namespace Go.Proofs.Ytnehppeoffemlaa
set_option linter.unusedVariables false
set_option linter.unusedSimpArgs false
open Go.RowKit
/-- Open on a disk that was just formatted. -/
theorem lopen_fm {base d lb n : Nat} {F : Nat → Prop} (a c : Int) (i : Nat) (w : World) (h : DD w base d lb F (fmD n a c)) (hi : (i : Int) = a) (hc : 4 ≤ c) (hc2 : c ≤ 4096) (hn : a ≤ n - 1 - c) (hn2 : n ≤ 4096) :
    Calls Try.prog 23 #[.pointer (some ⟨d, 0, none⟩), .int .i64 a, .int .i64 c] w fun e w' =>
      ∃ F' g bA bc, e = .returned (.tuple #[.pointer (some ⟨g, 0, none⟩), .int .i64 0]) ∧ DD w' base d lb F' (opnD n a c) ∧ Grew F F' w.heap.size ∧ Mod F w w' ∧ w.heap.size ≤ g ∧ LgH w' base d g bA bc (newL a c) ∧ (∀ b, ownBlk bA = some b → w.heap.size ≤ b) := by
  have hbw : base ≤ w.heap.size := by have := h.lts d h.d; omega
  have hin : a.toNat = i := by omega
  have hlk : llookE (fmD n a c) a c = 0 := by unfold llookE; rw [fmD_len]; exact if_neg (by omega)
  have hm := fm_mas (n := n) (a := a) (c := c) (by omega) (by omega)
  rw [hin] at hm
  have hmL := mas_L (fmtL a c) a c (by show (0 : Int) ≤ 1 ∧ (1 : Int) < _; omega) (by show (0 : Int) ≤ 480 ∧ (480 : Int) < _; omega) (by show (0 : Int) ≤ 0 ∧ (0 : Int) < _; omega)
  have hpt := mas_parts (fmtL a c)
  refine (lopen_w a c i w h hlk hi (fmD_qt n a c).2 (by rw [fmD_ops]; omega) (by rw [fmD_way]; simp) (fun _ => ?_)).mono ?_
  · rw [hm, hpt.2.1, hpt.2.2.1, num_u8L (by show (0 : Int) ≤ 1; omega) (by show (1 : Int) < _; omega), num_u8L (by show (0 : Int) ≤ 480; omega) (by show (480 : Int) < _; omega)]
    exact ⟨by show (1 : Int) < _; omega, by show (480 : Int) < _; omega⟩
  · rintro e w' (⟨hno, -⟩ | ⟨-, hsh, -⟩ | ⟨-, -, ⟨F', hD', hg'⟩, hm', (⟨hne, -⟩ | ⟨-, g, bA, bc, rfl, hgw, hW, hO⟩)⟩)
    · exact absurd (by rw [hm]; exact mas_yes _) hno
    · rw [hm, hmL] at hsh
      exact absurd hsh (by show ¬ (_ < ((480 : Int) % 480).toNat); simp)
    · exact absurd fm_E hne
    · rw [fm_opL (by omega) hc hn] at hW hO
      exact ⟨F', g, bA, bc, rfl, hD', hg', hm', hgw, ⟨hW.at_, hO.less hbw, Nat.le_trans hbw hgw, newL_ok (by omega) (by omega) hc hc2⟩, fun b hb => (hO.lt b hb).1⟩
set_option maxRecDepth 100000 in
set_option maxHeartbeats 2000000 in
theorem fresh_calls (c : Nat) (hc : 4 ≤ c) (hc2 : c ≤ 4093) (w : World) :
    Calls Try.prog 14 #[.int .i64 c] w fun e w' =>
      ∃ d lb g bA bc F, e = .returned (.tuple #[.pointer (some ⟨d, 0, none⟩), .pointer (some ⟨g, 0, none⟩)]) ∧ DD w' w.heap.size d lb F (opnD (c + 3) 1 c) ∧ LgH w' w.heap.size d g bA bc (newL 1 c) ∧ Below w.heap.size w w' := by
  have hw : IntKind.i64.wrap ((c : Int) + 3) = ((c + 3 : Nat) : Int) := by rw [IntWalk.i64_in _ (by omega)]; omega
  have hlk : llookE (newD (c + 3)) 1 c = 0 := by
    unfold llookE
    refine if_neg ?_
    have : (newD (c + 3)).l.length = c + 3 := List.length_replicate
    rw [this]
    omega
  have hmk : mkD (newD (c + 3)) 1 (masterL (fmtL 1 c)) = fmD (c + 3) 1 c := rfl
  have hmE : mkE (newD (c + 3)) 1 (masterL (fmtL 1 c)) = 0 := (newD_qt (c + 3)).mkE _ _
  have hmkx := Lib.hid hmk
  have hmEx := Lib.hid hmE
  clear hmk hmE
  go_enter Try.func14, Try.ntmps14
  go_wp2_with fail
  refine (new_calls (c + 3) (by omega) (by omega) w).mono ?_
  rintro e w1 ⟨d, lb, rfl, hd0, hb1, hdd, hlb⟩
  have hD1 : DD w1 w.heap.size d lb (Foot d lb none) (newD (c + 3)) := DD.of ⟨hd0, hdd, hlb, fun b hb => by cases hb⟩
  clear hd0
  go_wp2_with fail
  refine (lformat_ok 1 c 1 w1 hD1 hlk rfl (by show (0 : Int) + 1 < _; omega) (by show 0 < _; omega)).mono ?_
  rw [hmkx.out, hmEx.out]
  rintro e w2 ⟨rfl, ⟨F2, hD2, hg2⟩, hm2⟩
  have hB2 : Below w.heap.size w w2 := below_tr hb1 (hm2.below hb1.size (fun k hk => (hD1.lts k hk).1))
  go_wp2_with fail
  refine (lopen_fm 1 c 1 w2 hD2 rfl (by omega) (by omega) (by omega) (by omega)).mono ?_
  rintro e w3 ⟨F3, g, bA, bc, rfl, hD3, hg3, hm3, hgw, hL3, -⟩
  have hB3 : Below w.heap.size w w3 := below_tr hB2 (hm3.below hB2.size (fun k hk => (hD2.lts k hk).1))
  go_wp2
  go_ret2
  exact ⟨d, lb, g, bA, bc, F3, by first | rfl | simp, hD3, hL3, hB3⟩
end Go.Proofs.Ytnehppeoffemlaa
