/- DiskPlays: do, by kind: Sync. -/
import Derived.Test.YtjgomebnlekddaaBoth
namespace Go.Proofs.Ytjgomebnlekddaa
set_option linter.unusedVariables false
set_option linter.unusedSimpArgs false
open Go.RowKit
/-- Both disks stand, with the same meaning. -/
def Bo (w : World) (base d lb x : Nat) (D : Dk) : Prop := ∃ (pA : Option Addr) (m mc : Nat) (lA : Option Addr) (lc : Nat) (wA : Option Addr) (wc : Nat), DskB w base d lb pA m mc D ∧ Rf w base x lA lc wA wc D
def Stp (D D' : Dk) : Prop := D'.ops ≤ D.ops + 1 ∧ D'.way.length ≤ D.way.length + 1 ∧ D'.l.length = D.l.length
theorem Stp.refl (D : Dk) : Stp D D := ⟨by omega, by omega, rfl⟩
theorem Stp.sync (D : Dk) : Stp D (syncD D) := ⟨Int.le_refl _, Nat.zero_le _, setTo_len _ _ _⟩
theorem Stp.op (D : Dk) : Stp D (opD D) := ⟨Int.le_refl _, Nat.le_succ _, rfl⟩
theorem Bo.later {w w' : World} {base d lb x : Nat} {D : Dk} (h : Bo w base d lb x D) (hb : Below w.heap.size w w') : Bo w' base d lb x D := by
  obtain ⟨pA, m, mc, lA, lc, wA, wc, h1, h2⟩ := h
  exact ⟨pA, m, mc, lA, lc, wA, wc, h1.later hb, h2.later hb⟩
set_option maxRecDepth 100000 in
set_option maxHeartbeats 4000000 in
theorem do_sync {base d lb x an ac kn kc : Nat} {aA kA : Option Addr} {D : Dk} (kd N : Int) (w : World) (h : Bo w base d lb x D) (hbw : base ≤ w.heap.size) (hk : Int.tmod kd 6 = 3) (h9 : D.ops < 1000000000) :
    Calls Try.prog 54 #[.pointer (some ⟨d, 0, none⟩), .pointer (some ⟨x, 0, none⟩), .agg #[.int .u8 kd, .int .i64 N, .slice aA an ac, .slice kA kn kc]] w fun e w' => e = .returned (.bool true) ∧ ∃ D', Bo w' base d lb x D' ∧ Stp D D' ∧ Below base w w' := by
  go_enter Try.func54, Try.ntmps54
  have h0 := Lib.hid (h.later (below_new w (.cells #[.int .u8 kd, .int .i64 N, .slice aA an ac, .slice kA kn kc] 76)))
  go_wp2_with fail
  obtain ⟨pA, m, mc, lA, lc, wA, wc, hD, hR⟩ := h0.out
  have hB1 : Below base w (w.alloc (.cells #[.int .u8 kd, .int .i64 N, .slice aA an ac, .slice kA kn kc] 76)) := (Below.refl base w).alloc hbw _
  have hs1 : base ≤ (w.alloc (.cells #[.int .u8 kd, .int .i64 N, .slice aA an ac, .slice kA kn kc] 76)).heap.size := Nat.le_trans hbw (ge_new w _)
  clear h h0
  generalize (w.alloc (.cells #[.int .u8 kd, .int .i64 N, .slice aA an ac, .slice kA kn kc] 76)) = w1 at *
  cases hoff : D.off
  · cases hl : (opD D).off
    · refine (sync_calls w1 hD.k hoff h9 hl).mono ?_
      rintro e w2 ⟨rfl, hd2, hm2⟩
      have hR2 := hR.over hD.k (hm2.mono (fun i hi => by rcases hi with e | e; exact .inl e; exact .inr (.inl e)))
      have hD2 : DskB w2 base d lb none 0 0 (syncD D) := ⟨hd2, hD.hd, hD.hl, fun b hb => by cases hb⟩
      have hB2 := below_tr hB1 (hm2.below hs1 hD.footL)
      have hs2 : base ≤ w2.heap.size := Nat.le_trans hs1 hm2.size
      clear hD hR hm2 hd2
      go_wp2_with fail
      refine (rsync_ok w2 hR2 hoff h9 hl).mono ?_
      rintro e w3 ⟨rfl, hR3, hm3⟩
      have hfin := Lib.hid (And.intro (hD2.over hR2 hm3) (And.intro hR3 (below_tr hB2 (hm3.below hs2 hR2.foot))))
      clear hD2 hR2 hR3 hm3 hB2
      go_wp2
      go_ret
      exact ⟨by first | rfl | simp, syncD D, ⟨none, 0, 0, lA, lc, none, 0, hfin.out.1, hfin.out.2.1⟩, Stp.sync D, hfin.out.2.2⟩
    · refine (sync_dies w1 hD.k hoff h9 hl).mono ?_
      rintro e w2 ⟨rfl, hd2, hm2⟩
      have hR2 := hR.over hD.k (hm2.mono (fun i hi => by rcases hi with e | e; exact .inl e; exact .inr (.inl e)))
      have hD2 : DskB w2 base d lb pA m mc (opD D) := ⟨hd2, hD.hd, hD.hl, hD.hp⟩
      have hB2 := below_tr hB1 (hm2.below hs1 hD.footL)
      have hs2 : base ≤ w2.heap.size := Nat.le_trans hs1 hm2.size
      clear hD hR hm2 hd2
      go_wp2_with fail
      refine (rsync_dies w2 hR2 hoff h9 hl).mono ?_
      rintro e w3 ⟨rfl, hR3, hm3⟩
      have hfin := Lib.hid (And.intro (hD2.over hR2 hm3) (And.intro hR3 (below_tr hB2 (hm3.below hs2 hR2.foot))))
      clear hD2 hR2 hR3 hm3 hB2
      go_wp2
      go_ret
      exact ⟨by first | rfl | simp, opD D, ⟨pA, m, mc, lA, lc, wA, wc, hfin.out.1, hfin.out.2.1⟩, Stp.op D, hfin.out.2.2⟩
  · refine (sync_off w1 hD.k hoff).mono ?_
    rintro e w2 ⟨rfl, rfl⟩
    go_wp2_with fail
    refine (rsync_off w1 hR hoff).mono ?_
    rintro e w3 ⟨rfl, rfl⟩
    have hfin := Lib.hid (And.intro hD (And.intro hR hB1))
    clear hD hR hB1
    go_wp2
    go_ret
    exact ⟨by first | rfl | simp, D, ⟨pA, m, mc, lA, lc, wA, wc, hfin.out.1, hfin.out.2.1⟩, Stp.refl D, hfin.out.2.2⟩
end Go.Proofs.Ytjgomebnlekddaa
