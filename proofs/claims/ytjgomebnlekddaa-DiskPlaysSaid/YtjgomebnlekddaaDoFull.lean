/- DiskPlays: do, by kind: Write of these bytes and noughts. -/
import Derived.Test.YtjgomebnlekddaaDoPut
namespace Go.Proofs.Ytjgomebnlekddaa
set_option linter.unusedVariables false
set_option linter.unusedSimpArgs false
open Go.RowKit
theorem OwB.noRFoot {w : World} {base b0 n c x lc wc : Nat} {A lA wA : Option Addr} {l : List Int} {D : Dk} (h : OwB w b0 A n c l) (r : Rf w base x lA lc wA wc D) : ∀ b, ownBlk A = some b → ¬ RFoot x lA wA b := by
  intro b hb hf
  rcases hf with rfl | hf | hf
  · exact r.at_.ne_own h.2.2 (by decide) hb
  · rcases Go.Proofs.Ytjgomebnlekddaa.ne_ty h.2.2 r.row (by decide) with h1 | h1
    · rw [h1] at hb; cases hb
    · exact h1 (hb.trans hf.symm)
  · rcases Go.Proofs.Ytjgomebnlekddaa.ne_ty h.2.2 r.way (by decide) with h1 | h1
    · rw [h1] at hb; cases hb
    · exact h1 (hb.trans hf.symm)
set_option maxRecDepth 100000 in
set_option maxHeartbeats 4000000 in
theorem do_full {base d lb x an ac kn kc : Nat} {aA kA : Option Addr} {p : List Int} {D : Dk} (kd N : Int) (w : World) (h : Bo w base d lb x D) (hbw : base ≤ w.heap.size) (hk : Int.tmod kd 6 = 0) (h9 : D.ops < 1000000000) (hm9 : D.way.length < 1000000000) (hp : BsR w 0 base aA an p) :
    Calls Try.prog 54 #[.pointer (some ⟨d, 0, none⟩), .pointer (some ⟨x, 0, none⟩), .agg #[.int .u8 kd, .int .i64 N, .slice aA an ac, .slice kA kn kc]] w fun e w' => e = .returned (.bool true) ∧ ∃ D', Bo w' base d lb x D' ∧ Stp D D' ∧ Below base w w' := by
  go_enter Try.func54, Try.ntmps54
  have h0 := Lib.hid (h.later (below_new w (.cells #[.int .u8 kd, .int .i64 N, .slice aA an ac, .slice kA kn kc] 76)))
  go_upto_region 3 with (fail)
  obtain ⟨pA, m, mc, lA, lc, wA, wc, hD, hR⟩ := h0.out
  have hB1 : Below base w (w.alloc (.cells #[.int .u8 kd, .int .i64 N, .slice aA an ac, .slice kA kn kc] 76)) := (Below.refl base w).alloc hbw _
  have kb := At.new w #[.int .u8 kd, .int .i64 N, .slice aA an ac, .slice kA kn kc] 76
  have hs1 : base ≤ (w.alloc (.cells #[.int .u8 kd, .int .i64 N, .slice aA an ac, .slice kA kn kc] 76)).heap.size := Nat.le_trans hbw (ge_new w _)
  clear h h0
  generalize (w.alloc (.cells #[.int .u8 kd, .int .i64 N, .slice aA an ac, .slice kA kn kc] 76)) = w1 at *
  have d0 : Below w1.heap.size w1 w1.drew := below_dr (Below.refl _ _)
  replace hD := hD.later d0
  replace hR := hR.later d0
  replace hB1 := below_tr hB1 (d0.mono hs1)
  replace kb := At.keep d0 kb
  replace hs1 : base ≤ w1.drew.heap.size := hs1
  have hP : ∀ w', Below base w w' → base ≤ w'.heap.size → BsR w' 0 w'.heap.size aA an p := fun w' hb hs => ⟨hp.1, hp.2.1, (hp.2.2.below hb (Nat.le_refl _)).more hs⟩
  have hp1 := hP _ hB1 hs1
  generalize w.heap.size = bb at *
  have f2 := kb.c
  obtain ⟨F, hF⟩ : ∃ F, F = fullL p := ⟨_, rfl⟩
  go_region_held3 (fun w' => (∀ o, w'.cell? ⟨bb, o, none⟩ = #[.int .u8 kd, .int .i64 N, .slice aA an ac, .slice kA kn kc][o]?))
    (first
      | (exact f2)
      | (exact f3)
      | (exact f4)
      | (exact f5)
      | (exact f6))
    (first
      | (go_at_call 34; with_reducible refine (full_calls ac w1.drew hp1 (Nat.le_refl _)).mono ?_; rw [← hF]; rintro e w3 ⟨b3, rfl, ho3, hb3, hl3⟩
         have hD3 := hD.later hb3
         have hR3 := hR.later hb3
         have hs3 : base ≤ w3.heap.size := Nat.le_trans hs1 hb3.size
         have hB3 := below_tr hB1 (hb3.mono hs1)
         have kb3 := At.keep hb3 kb
         have f3 := kb3.c)
      | (go_at_call 35; with_reducible refine (wri_any N w3 hD3 hs3 h9 hm9 (ho3.reads.less (Nat.zero_le _)) (fun _ => ho3.noFoot hD3.k) (Nat.le_refl _)).mono ?_; rintro e w4 ⟨rfl, ⟨pA4, m4, mc4, hD4⟩, hm4⟩
         have hR4 := hR3.over hD3.k hm4
         have hB4 := below_tr hB3 (hm4.below hs3 hD3.foot)
         have hs4 : base ≤ w4.heap.size := Nat.le_trans hs3 hm4.size
         have kb4 := kb3.mod hm4 (box_noD kb3 hD3)
         have f4 := kb4.c
         have hp4 := hP _ hB4 hs4)
      | (go_at_call 34; with_reducible refine (full_calls ac w4 hp4 (Nat.le_refl _)).mono ?_; rw [← hF]; rintro e w5 ⟨b5, rfl, ho5, hb5, hl5⟩
         have hD5 := hD4.later hb5
         have hR5 := hR4.later hb5
         have hs5 : base ≤ w5.heap.size := Nat.le_trans hs4 hb5.size
         have hB5 := below_tr hB4 (hb5.mono hs4)
         have kb5 := At.keep hb5 kb4
         have f5 := kb5.c)
      | (go_at_call 72; with_reducible refine (rput_any N w5 hR5 hs5 h9 hm9 (ho5.reads.less (Nat.zero_le _)) (fun _ => ho5.noRFoot hR5)).mono ?_; rintro e w6 ⟨rfl, ⟨wA6, wc6, hR6⟩, hm6⟩
         have hD6 := hD5.over hR5 hm6
         have hB6 := below_tr hB5 (hm6.below hs5 hR5.foot)
         have f6 := (kb5.mod hm6 (box_noR kb5 hR5)).c)
      | fail)
  have hfin := Lib.hid (And.intro hD6 (And.intro hR6 hB6))
  clear hD hR hD3 hR3 hD4 hR4 hD5 hR5 hD6 hR6 hB1 hB3 hB4 hB5 hB6
  go_wp2
  go_ret
  exact ⟨by first | rfl | simp, putD D N 512 F, ⟨pA4, m4, mc4, lA, lc, wA6, wc6, hfin.out.1, hfin.out.2.1⟩, Stp.put D N 512 F, hfin.out.2.2⟩
end Go.Proofs.Ytjgomebnlekddaa
