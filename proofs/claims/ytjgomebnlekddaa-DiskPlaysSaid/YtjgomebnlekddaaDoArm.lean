/- DiskPlays: do, by kind: Arm. -/
import Derived.Test.YtjgomebnlekddaaDoSync
namespace Go.Proofs.Ytjgomebnlekddaa
set_option linter.unusedVariables false
set_option linter.unusedSimpArgs false
open Go.RowKit
theorem Rf.arms {w : World} {base x lc wc : Nat} {lA wA : Option Addr} {D : Dk} (h : Rf w base x lA lc wA wc D) {i : Int} (h0 : 0 ≤ i) (h1 : i ≤ 9223372036854775807) : Rf (w.setCell ⟨x, 2, none⟩ (.int .i64 i)) base x lA lc wA wc (armD D i) :=
  have hm := (Mod.refl (fun k => k = x) w).set (k := x) (o := 2) (.inl rfl) (.int .i64 i)
  ⟨(h.at_.set (o := 2) (v := .int .i64 i)).to (by simp [armD]), owns_mod2 h.row hm (fun b hb e => h.ne1 (by rw [hb, e])), owns_mod2 h.way hm (fun b hb e => h.ne2 (by rw [hb, e])), ⟨h.ok.l, h.ok.way, h.ok.len, ⟨h0, h1⟩, h.ok.ops, h.ok.cnt⟩, h.hx⟩
set_option maxRecDepth 100000 in
set_option maxHeartbeats 4000000 in
theorem do_arm {base d lb x an ac kn kc : Nat} {aA kA : Option Addr} {D : Dk} (kd N : Int) (w : World) (h : Bo w base d lb x D) (hbw : base ≤ w.heap.size) (hk : Int.tmod kd 6 = 4) (hN : N ≤ 9223372036854775807) :
    Calls Try.prog 54 #[.pointer (some ⟨d, 0, none⟩), .pointer (some ⟨x, 0, none⟩), .agg #[.int .u8 kd, .int .i64 N, .slice aA an ac, .slice kA kn kc]] w fun e w' => e = .returned (.bool true) ∧ ∃ D', Bo w' base d lb x D' ∧ Stp D D' ∧ Below base w w' := by
  go_enter Try.func54, Try.ntmps54
  have h0 := Lib.hid (h.later (below_new w (.cells #[.int .u8 kd, .int .i64 N, .slice aA an ac, .slice kA kn kc] 76)))
  go_wp2_with fail
  obtain ⟨pA, m, mc, lA, lc, wA, wc, hD, hR⟩ := h0.out
  have hB1 : Below base w (w.alloc (.cells #[.int .u8 kd, .int .i64 N, .slice aA an ac, .slice kA kn kc] 76)) := (Below.refl base w).alloc hbw _
  have kb := At.new w #[.int .u8 kd, .int .i64 N, .slice aA an ac, .slice kA kn kc] 76
  have hs1 : base ≤ (w.alloc (.cells #[.int .u8 kd, .int .i64 N, .slice aA an ac, .slice kA kn kc] 76)).heap.size := Nat.le_trans hbw (ge_new w _)
  clear h h0
  generalize (w.alloc (.cells #[.int .u8 kd, .int .i64 N, .slice aA an ac, .slice kA kn kc] 76)) = w1 at *
  by_cases hneg : N < 0
  · refine (arm_arg N w1 hD.k hneg).mono ?_
    rintro e w2 ⟨rfl, rfl⟩
    have hfin := Lib.hid (And.intro hD (And.intro hR hB1))
    generalize w.heap.size = bb at kb ⊢
    have kbc := kb.c; have kbf := kb.f; have kbl := kb.lt
    clear hD hR hB1
    go_wp2
    go_ret
    exact ⟨by first | rfl | simp, D, ⟨pA, m, mc, lA, lc, wA, wc, hfin.out.1, hfin.out.2.1⟩, Stp.refl D, hfin.out.2.2⟩
  · refine (arm_calls N w1 hD.k (by omega) hN).mono ?_
    rintro e w2 ⟨rfl, hd2, hm2⟩
    have hR2 := hR.over hD.k (hm2.mono (fun i hi => .inl hi))
    have hD2 : DskB w2 base d lb pA m mc (armD D N) := ⟨hd2, hD.hd, hD.hl, hD.hp⟩
    have hB2 := below_tr hB1 (hm2.below hs1 (fun i hi => hi ▸ hD.hd))
    have kb2 := kb.mod hm2 (fun e => absurd ((e ▸ kb).inj hD.k.at_) (by decide))
    have hmx : Mod (RFoot x lA wA) w2 (w2.setCell ⟨x, 2, none⟩ (.int .i64 N)) := (Mod.refl (RFoot x lA wA) w2).set (.inl (.inl rfl)) _
    have hfin := Lib.hid (And.intro (hD2.over hR2 hmx) (And.intro (hR2.arms (show 0 ≤ N by omega) hN) (below_tr hB2 (hmx.below (Nat.le_trans hs1 hm2.size) hR2.foot))))
    have kx := hR2.at_
    generalize w.heap.size = bb at kb2 ⊢
    have kb2c := kb2.c; have kb2f := kb2.f; have kb2l := kb2.lt
    have kxc := kx.c; have kxf := kx.f; have kxl := kx.lt
    clear hD hR hB1 hD2 hR2 hd2 hm2 hB2 hmx kb
    go_wp2
    go_ret
    exact ⟨by first | rfl | simp, armD D N, ⟨pA, m, mc, lA, lc, wA, wc, hfin.out.1, hfin.out.2.1⟩, ⟨by show D.ops ≤ _; omega, Nat.le_succ _, rfl⟩, hfin.out.2.2⟩
end Go.Proofs.Ytjgomebnlekddaa
