/- The reference's Same: true of two records that read alike. -/
import Derived.Test.YtjgomebnlekddaaRfDec
import Derived.Deep.LoopGhost
namespace Go.Proofs.Ytjgomebnlekddaa
set_option linter.unusedVariables false
set_option linter.unusedSimpArgs false
open Go.RowKit
theorem RecRd.later {w w' : World} {R : Rc} {v : Value} (h : RecRd w R v) (hb : Below w.heap.size w w') : RecRd w' R v := by
  obtain ⟨bA, aA, dA, bC, aC, dC, hv, h1, h2, h3⟩ := h
  exact ⟨bA, aA, dA, bC, aC, dC, hv, (h1.below hb (Nat.le_refl _)).more hb.size, (h2.below hb (Nat.le_refl _)).more hb.size, ⟨h3.1, (h3.2.below hb (Nat.le_refl _)).more hb.size⟩⟩
set_option maxRecDepth 100000 in
set_option maxHeartbeats 8000000 in
theorem rsamer_yes {R : Rc} {v1 v2 : Value} (w : World) (h1 : RecRd w R v1) (h2 : RecRd w R v2) (hl64 : R.dl.length ≤ 1000) :
    Calls Try.prog 61 #[v1, v2] w fun e w' => e = .returned (.bool true) ∧ Below w.heap.size w w' := by
  obtain ⟨bA, aA, dA, bC, aC, dC, rfl, b1, a1, d1⟩ := h1
  obtain ⟨bB, aB, dB, bD, aD, dD, rfl, b2, a2, d2⟩ := h2
  obtain ⟨k, tx, prev, page, off, next, bl, al, dl, opn⟩ := R
  dsimp only at *
  generalize hlb : bl.length = lb at *
  generalize hla : al.length = la at *
  generalize hld : dl.length = ld at *
  have hldx := Lib.hid hld
  clear hlb hla hld
  go_enter Try.func61, Try.ntmps61
  go_upto_region 1 with (fail)
  have k1 := (At.new w #[.int .u8 k, .int .u64 tx, .int .u64 prev, .int .i64 page, .int .i64 off, .slice bA lb bC, .slice aA la aC, .int .u64 next, .slice dA ld dC, .bool opn] 26).alloc (.cells #[.int .u8 k, .int .u64 tx, .int .u64 prev, .int .i64 page, .int .i64 off, .slice bB lb bD, .slice aB la aD, .int .u64 next, .slice dB ld dD, .bool opn] 26)
  have k2 : At ((w.alloc (.cells #[.int .u8 k, .int .u64 tx, .int .u64 prev, .int .i64 page, .int .i64 off, .slice bA lb bC, .slice aA la aC, .int .u64 next, .slice dA ld dC, .bool opn] 26)).alloc (.cells #[.int .u8 k, .int .u64 tx, .int .u64 prev, .int .i64 page, .int .i64 off, .slice bB lb bD, .slice aB la aD, .int .u64 next, .slice dB ld dD, .bool opn] 26)) (w.heap.size + 1) #[.int .u8 k, .int .u64 tx, .int .u64 prev, .int .i64 page, .int .i64 off, .slice bB lb bD, .slice aB la aD, .int .u64 next, .slice dB ld dD, .bool opn] 26 := At.new' (by simp)
  have hB := below_al (O := .cells #[.int .u8 k, .int .u64 tx, .int .u64 prev, .int .i64 page, .int .i64 off, .slice bB lb bD, .slice aB la aD, .int .u64 next, .slice dB ld dD, .bool opn] 26) (below_new w (.cells #[.int .u8 k, .int .u64 tx, .int .u64 prev, .int .i64 page, .int .i64 off, .slice bA lb bC, .slice aA la aC, .int .u64 next, .slice dA ld dC, .bool opn] 26))
  generalize ((w.alloc (.cells #[.int .u8 k, .int .u64 tx, .int .u64 prev, .int .i64 page, .int .i64 off, .slice bA lb bC, .slice aA la aC, .int .u64 next, .slice dA ld dC, .bool opn] 26)).alloc (.cells #[.int .u8 k, .int .u64 tx, .int .u64 prev, .int .i64 page, .int .i64 off, .slice bB lb bD, .slice aB la aD, .int .u64 next, .slice dB ld dD, .bool opn] 26)) = w2 at *
  generalize w.heap.size + 1 = ρ2 at *
  have hne : 0 ≤ ρ2 := Nat.zero_le _
  have u1 := run_str bC w2 (b1.below hB (Nat.le_refl _))
  have u2 := run_str bD w2 (b2.below hB (Nat.le_refl _))
  have u3 := run_str aC w2 (a1.below hB (Nat.le_refl _))
  have u4 := run_str aD w2 (a2.below hB (Nat.le_refl _))
  have hd := Lib.hid (And.intro d1 d2)
  clear b1 b2 a1 a2 d1 d2
  have k1c := k1.c; have k1f := k1.f; have k1l := k1.lt
  have k2c := k2.c; have k2f := k2.f; have k2l := k2.lt
  go_upto_region 4 with (fail)
  clear k1c k1f k1l k2c k2f k2l
  go_loopw [5] (fun v5 wr => ∃ j : Nat, j ≤ ld ∧ v5 = .int .i64 j ∧ ∃ i, wr = w2.drewN i) (fun v5 _ => ld - (intOf v5).toNat)
  case atStart => exact ⟨0, Nat.zero_le _, rfl, 0, rfl⟩
  case round =>
    obtain ⟨j, hj, rfl, i, hi⟩ := hrel
    have q1 : At wr w.heap.size #[.int .u8 k, .int .u64 tx, .int .u64 prev, .int .i64 page, .int .i64 off, .slice bA lb bC, .slice aA la aC, .int .u64 next, .slice dA ld dC, .bool opn] 26 := by rw [hi]; exact k1.drewN i
    have q2 : At wr ρ2 #[.int .u8 k, .int .u64 tx, .int .u64 prev, .int .i64 page, .int .i64 off, .slice bB lb bD, .slice aB la aD, .int .u64 next, .slice dB ld dD, .bool opn] 26 := by rw [hi]; exact k2.drewN i
    have hBr : Below w.heap.size w wr := by rw [hi]; exact below_drewN hB i
    have hi' := Lib.hid hi
    clear hi
    have q1c := q1.c; have q1f := q1.f; have q1l := q1.lt
    have q2c := q2.c; have q2f := q2.f; have q2l := q2.lt
    by_cases hlt : j < ld
    · obtain ⟨ga, oa, rfl, -, la1, ca1, ca2⟩ := hd.out.1.at_ hlt
      obtain ⟨gb, ob, rfl, -, lb1, cb1, cb2⟩ := hd.out.2.at_ hlt
      replace ca1 := (hBr.cell (p := ⟨ga, oa + j * 2, none⟩) la1).trans ca1
      replace ca2 := (hBr.cell (p := ⟨ga, oa + j * 2 + 1, none⟩) la1).trans ca2
      replace cb1 := (hBr.cell (p := ⟨gb, ob + j * 2, none⟩) lb1).trans cb1
      replace cb2 := (hBr.cell (p := ⟨gb, ob + j * 2 + 1, none⟩) lb1).trans cb2
      generalize dl.getD j (0, 0) = d at *
      have j0 : (0 : Int) ≤ j := by omega
      have j1 : (j : Int) < ld := by omega
      go_upto_region 6 with (fail)
      go_quiet (fail)
      go_wp2
      go_roundw
      case rel => exact ⟨j + 1, by omega, by go_num, i + nq, by rw [hi'.out]; first | rfl | (simp only [World.drewN_drewN]; done) | (simp only [World.drewN_drewN]; rfl)⟩
      case measure => simp [intOf]; omega
    · obtain rfl : ld = j := by omega
      have j1 : ¬ (ld : Int) < (ld : Int) := by omega
      go_wp2
      go_ret
      exact ⟨by first | rfl | simp, hBr⟩
end Go.Proofs.Ytjgomebnlekddaa
