/- DiskPlays: do, by kind: Restart. -/
import Derived.Test.YtjgomebnlekddaaDoArm
namespace Go.Proofs.Ytjgomebnlekddaa
set_option linter.unusedVariables false
set_option linter.unusedSimpArgs false
open Go.RowKit
theorem BoR.noFoot {w : World} {base d lb m mc x lc wc hi n : Nat} {pA lA wA kA : Option Addr} {D D' : Dk} {kl : List Bool} (hk : BoR w 0 hi kA n kl) (hh : hi ≤ base) (h : DskB w base d lb pA m mc D) (r : Rf w base x lA lc wA wc D') (h0 : 0 < n) : ∀ b, ownBlk kA = some b → b ≠ d ∧ b ≠ lb ∧ ¬ RFoot x lA wA b := by
  intro b hb
  obtain ⟨gb, go', hA, -, g2, -⟩ := hk.2 h0
  rw [hA] at hb
  injection hb with hb
  have hgb : gb = b := hb
  have h1 := h.hd
  have h2 := h.hl
  exact ⟨by omega, by omega, fun hf => by have := r.foot b hf; omega⟩
set_option maxRecDepth 100000 in
set_option maxHeartbeats 4000000 in
theorem do_rest {base d lb x an ac kn kc : Nat} {aA kA : Option Addr} {kl : List Bool} {D : Dk} (kd N : Int) (w : World) (h : Bo w base d lb x D) (hbw : base ≤ w.heap.size) (hk : Int.tmod kd 6 = 5) (hkl : BoR w 0 base kA kn kl) :
    Calls Try.prog 54 #[.pointer (some ⟨d, 0, none⟩), .pointer (some ⟨x, 0, none⟩), .agg #[.int .u8 kd, .int .i64 N, .slice aA an ac, .slice kA kn kc]] w fun e w' => e = .returned (.bool true) ∧ ∃ D', Bo w' base d lb x D' ∧ Stp D D' ∧ Below base w w' := by
  go_enter Try.func54, Try.ntmps54
  have h0 := Lib.hid (h.later (below_new w (.cells #[.int .u8 kd, .int .i64 N, .slice aA an ac, .slice kA kn kc] 76)))
  go_wp2_with fail
  obtain ⟨pA, m, mc, lA, lc, wA, wc, hD, hR⟩ := h0.out
  have hB1 : Below base w (w.alloc (.cells #[.int .u8 kd, .int .i64 N, .slice aA an ac, .slice kA kn kc] 76)) := (Below.refl base w).alloc hbw _
  have kb := At.new w #[.int .u8 kd, .int .i64 N, .slice aA an ac, .slice kA kn kc] 76
  have hs1 : base ≤ (w.alloc (.cells #[.int .u8 kd, .int .i64 N, .slice aA an ac, .slice kA kn kc] 76)).heap.size := Nat.le_trans hbw (ge_new w _)
  clear h h0
  generalize (w.alloc (.cells #[.int .u8 kd, .int .i64 N, .slice aA an ac, .slice kA kn kc] 76)) = w1 at *
  have hk1 : BoR w1 0 base kA kn kl := ⟨hkl.1, hkl.2.below hB1 (Nat.le_refl _)⟩
  have hnf := fun h0 => hk1.noFoot (Nat.le_refl _) hD hR h0
  refine (rrest_calls (n := kn) (kl := kl) w1 hR ⟨hk1.1, hk1.2.more hs1⟩ (fun h0 b hb => (hnf h0 b hb).2.2)).mono ?_
  rintro e w2 ⟨rfl, hR2, hm2⟩
  have hD2 := hD.over hR hm2
  have hB2 := below_tr hB1 (hm2.below hs1 hR.foot)
  have hs2 : base ≤ w2.heap.size := Nat.le_trans hs1 hm2.size
  have hk2 : BoR w2 0 base kA kn kl := ⟨hkl.1, hkl.2.below hB2 (Nat.le_refl _)⟩
  have kb2 := kb.mod hm2 (fun hf => by
    rcases hf with e | e | e
    · exact absurd ((e ▸ kb).inj hR.at_) (by decide)
    · exact kb.ne_own hR.row (by decide) e
    · exact kb.ne_own hR.way (by decide) e)
  have hnf2 := Lib.hid hnf
  clear hD hR hm2 hB1 kb hk1 hnf
  generalize w.heap.size = bb at kb2 ⊢
  have kb2c := kb2.c; have kb2f := kb2.f; have kb2l := kb2.lt
  go_wp2_with fail
  refine (rest_calls (n := kn) (kl := kl) w2 hD2.k ⟨hk2.1, hk2.2.more hs2⟩ (fun h0 b hb => ⟨(hnf2.out h0 b hb).1, (hnf2.out h0 b hb).2.1⟩)).mono ?_
  rintro e w3 ⟨rfl, hd3, hm3⟩
  have hR3 := hR2.over hD2.k (hm3.mono (fun i hi => by rcases hi with e | e; exact .inl e; exact .inr (.inl e)))
  have hD3 : DskB w3 base d lb none 0 0 (restD D kn kl) := ⟨hd3, hD2.hd, hD2.hl, fun b hb => by cases hb⟩
  have hfin := Lib.hid (And.intro hD3 (And.intro hR3 (below_tr hB2 (hm3.below hs2 hD2.footL))))
  clear hD2 hR2 hR3 hD3 hm3 hd3 hB2 kb2 kb2c kb2f kb2l
  go_wp2
  go_ret
  exact ⟨by first | rfl | simp, restD D kn kl, ⟨none, 0, 0, lA, lc, none, 0, hfin.out.1, hfin.out.2.1⟩, ⟨by show D.ops ≤ _; omega, Nat.zero_le _, setTo_len _ _ _⟩, hfin.out.2.2⟩
end Go.Proofs.Ytjgomebnlekddaa
