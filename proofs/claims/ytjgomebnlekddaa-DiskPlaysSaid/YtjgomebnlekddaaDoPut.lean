/- DiskPlays: do, by kind: Write of just these bytes. -/
import Derived.Test.YtjgomebnlekddaaDoAny
namespace Go.Proofs.Ytjgomebnlekddaa
set_option linter.unusedVariables false
set_option linter.unusedSimpArgs false
open Go.RowKit
set_option maxRecDepth 100000 in
set_option maxHeartbeats 4000000 in
theorem do_put {base d lb x an ac kn kc : Nat} {aA kA : Option Addr} {p : List Int} {D : Dk} (kd N : Int) (w : World) (h : Bo w base d lb x D) (hbw : base ≤ w.heap.size) (hk : Int.tmod kd 6 = 1) (h9 : D.ops < 1000000000) (hm9 : D.way.length < 1000000000) (hp : BsR w 0 base aA an p) (hac : an ≤ ac) :
    Calls Try.prog 54 #[.pointer (some ⟨d, 0, none⟩), .pointer (some ⟨x, 0, none⟩), .agg #[.int .u8 kd, .int .i64 N, .slice aA an ac, .slice kA kn kc]] w fun e w' => e = .returned (.bool true) ∧ ∃ D', Bo w' base d lb x D' ∧ Stp D D' ∧ Below base w w' := by
  go_enter Try.func54, Try.ntmps54
  have h0 := Lib.hid (h.later (below_new w (.cells #[.int .u8 kd, .int .i64 N, .slice aA an ac, .slice kA kn kc] 76)))
  go_upto_region 5 with (fail)
  obtain ⟨pA, m, mc, lA, lc, wA, wc, hD, hR⟩ := h0.out
  have hB1 : Below base w (w.alloc (.cells #[.int .u8 kd, .int .i64 N, .slice aA an ac, .slice kA kn kc] 76)) := (Below.refl base w).alloc hbw _
  have kb := At.new w #[.int .u8 kd, .int .i64 N, .slice aA an ac, .slice kA kn kc] 76
  have hs1 : base ≤ (w.alloc (.cells #[.int .u8 kd, .int .i64 N, .slice aA an ac, .slice kA kn kc] 76)).heap.size := Nat.le_trans hbw (ge_new w _)
  clear h h0
  generalize (w.alloc (.cells #[.int .u8 kd, .int .i64 N, .slice aA an ac, .slice kA kn kc] 76)) = w1 at *
  have d0 : Below w1.heap.size w1 w1.drew := below_dr (Below.refl _ _)
  replace hD := hD.later d0
  replace hR := hR.later d0
  replace hB1 := below_tr hB1 (d0.mono hs1)
  replace kb := At.keep d0 kb
  replace hs1 : base ≤ w1.drew.heap.size := hs1
  have hp1 : BsR w1.drew 0 w1.drew.heap.size aA an p := ⟨hp.1, hp.2.1, (hp.2.2.below hB1 (Nat.le_refl _)).more hs1⟩
  have hpb : BsR w1.drew 0 base aA an p := ⟨hp.1, hp.2.1, hp.2.2.below hB1 (Nat.le_refl _)⟩
  have hnf := fun h0 => bs_noFoot hpb (Nat.le_refl _) hD h0
  have hbx := box_noD kb hD
  generalize w.heap.size = bb at *
  have f2 := kb.c
  go_region_held3 (fun w' => (∀ o, w'.cell? ⟨bb, o, none⟩ = #[.int .u8 kd, .int .i64 N, .slice aA an ac, .slice kA kn kc][o]?))
    (first
      | (exact f2)
      | (exact f3)
      | (exact f4))
    (first
      | (go_at_call 35; with_reducible refine (wri_any N w1.drew hD hs1 h9 hm9 hp1 hnf hac).mono ?_; rintro e w3 ⟨rfl, ⟨pA3, m3, mc3, hD3⟩, hm3⟩
         have hR3 := hR.over hD.k hm3
         have hB3 := below_tr hB1 (hm3.below hs1 hD.foot)
         have hs3 : base ≤ w3.heap.size := Nat.le_trans hs1 hm3.size
         have kb3 := kb.mod hm3 hbx
         have f3 := kb3.c
         have hp3 : BsR w3 0 w3.heap.size aA an p := ⟨hp.1, hp.2.1, (hp.2.2.below hB3 (Nat.le_refl _)).more hs3⟩
         have hpb3 : BsR w3 0 base aA an p := ⟨hp.1, hp.2.1, hp.2.2.below hB3 (Nat.le_refl _)⟩
         have hnf3 := fun h0 => bs_noRFoot hpb3 (Nat.le_refl _) hR3 h0)
      | (go_at_call 72; with_reducible refine (rput_any N w3 hR3 hs3 h9 hm9 hp3 hnf3).mono ?_; rintro e w4 ⟨rfl, ⟨wA4, wc4, hR4⟩, hm4⟩
         have hD4 := hD3.over hR3 hm4
         have hB4 := below_tr hB3 (hm4.below hs3 hR3.foot)
         have f4 := (kb3.mod hm4 (box_noR kb3 hR3)).c)
      | fail)
  have hfin := Lib.hid (And.intro hD4 (And.intro hR4 hB4))
  clear hD hR hD3 hR3 hD4 hR4 hB1 hB3 hB4
  go_wp2
  go_ret
  exact ⟨by first | rfl | simp, putD D N an p, ⟨pA3, m3, mc3, lA, lc, wA4, wc4, hfin.out.1, hfin.out.2.1⟩, Stp.put D N an p, hfin.out.2.2⟩
end Go.Proofs.Ytjgomebnlekddaa
