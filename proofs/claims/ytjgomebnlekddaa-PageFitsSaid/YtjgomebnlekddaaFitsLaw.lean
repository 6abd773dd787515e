/- PageFits: the walk of the law. -/
import Derived.Test.YtjgomebnlekddaaSwapsLaw
import Derived.Test.YtjgomebnlekddaaFitsPlain
namespace Go.Proofs.Ytjgomebnlekddaa
set_option linter.unusedVariables false
set_option linter.unusedSimpArgs false
open Go.RowKit
theorem rform_yes {n : Nat} (k next : Int) (c : Nat) {A : Option Addr} {l : List Cl} (w : World) (h : CsR w 0 w.heap.size A n l) (hn : n ≤ 4096) (hb : PForm k next l) :
    Calls Try.prog 40 #[.agg #[.int .u8 k, .int .i64 next, .slice A n c]] w fun e w' => e = .returned (.bool true) ∧ Below w.heap.size w w' := rform_page k next c true w h hn (iff_of_true rfl hb)
set_option maxRecDepth 100000 in
set_option maxHeartbeats 2000000 in
theorem fits_calls {kd next : Int} {n c kN kC vN vC : Nat} {A kA vA : Option Addr} {l : List Cl} {k v : List Int} (w : World) (h : CsR w 0 w.heap.size A n l) (hc : n ≤ c) (hk : BsR w 0 w.heap.size kA kN k) (hv : BsR w 0 w.heap.size vA vN v) (m1 : kN ≤ 70368744177664 * 2) (m2 : vN ≤ 70368744177664 * 2) :
    Calls Try.prog 10 #[.agg #[.int .u8 kd, .int .i64 next, .slice A n c], .agg #[.slice kA kN kC, .slice vA vN vC]] w fun e w' => e = .returned (.bool true) ∧ Below w.heap.size w w' := by
  go_enter Try.func10, Try.ntmps10
  go_wp2_with fail
  have k0 := (At.new w #[.int .u8 kd, .int .i64 next, .slice A n c] 54).alloc (.cells #[.slice kA kN kC, .slice vA vN vC] 35)
  have k1 : At ((w.alloc (.cells #[.int .u8 kd, .int .i64 next, .slice A n c] 54)).alloc (.cells #[.slice kA kN kC, .slice vA vN vC] 35)) (w.heap.size + 1) #[.slice kA kN kC, .slice vA vN vC] 35 := At.new' (by simp)
  have hB := below_al (O := .cells #[.slice kA kN kC, .slice vA vN vC] 35) (below_new w (.cells #[.int .u8 kd, .int .i64 next, .slice A n c] 54))
  generalize ((w.alloc (.cells #[.int .u8 kd, .int .i64 next, .slice A n c] 54)).alloc (.cells #[.slice kA kN kC, .slice vA vN vC] 35)) = w0 at *
  refine (pawake_calls _).mono ?_
  rintro e w1 ⟨rfl, hb1⟩
  have hB1 := below_keep hb1 hB
  clear hB
  replace k0 := k0.below hb1 k0.lt; have k0c := k0.c; have k0f := k0.f; have k0l := k0.lt
  replace k1 := k1.below hb1 k1.lt; have k1c := k1.c; have k1f := k1.f; have k1l := k1.lt
  by_cases hn : n ≤ 300
  · have hn' : (n : Int) ≤ 300 := by omega
    have hln := h.1
    by_cases hp : PForm kd next l
    · go_wp2_with fail
      refine (rform_page kd next c true w1 ((h.below hB1 (Nat.le_refl _)).widen (Nat.le_refl _) hB1.size) (by omega) (by simp [hp])).mono ?_
      rintro e w2 ⟨rfl, hb2⟩
      have hB2 := below_keep hb2 hB1
      replace k0 := k0.below hb2 k0.lt; have k0c := k0.c; have k0f := k0.f; have k0l := k0.lt
      replace k1 := k1.below hb2 k1.lt; have k1c := k1.c; have k1f := k1.f; have k1l := k1.lt
      clear hb1 hB1
      by_cases q1 : kN ≤ 90
      · have q1' : (kN : Int) ≤ 90 := by omega
        by_cases q2 : vN ≤ 150
        · have q2' : (vN : Int) ≤ 150 := by omega
          have hrs := risB_rs (pform_ris hp)
          have hkl := hk.1
          have hvl := hv.1
          have hfp := Lib.hid (fits_plain (k := k) (v := v) hp (by omega) (by omega))
          have hp' := Lib.hid hp
          clear hp
          go_wp2_with fail
          refine (put_at c kC vC w2 ((h.below hB2 (Nat.le_refl _)).widen (Nat.le_refl _) hB2.size) hc ((hk.below hB2 (Nat.le_refl _)).more hB2.size) ((hv.below hB2 (Nat.le_refl _)).more hB2.size) m1 m2 (by omega) hrs rfl).mono ?_
          rintro e w3 ⟨A3, c3, n3, hs3, rfl, ho3, hb3⟩
          have hB3 := below_keep hb3 hB2
          replace k0 := k0.below hb3 k0.lt; have k0c := k0.c; have k0f := k0.f; have k0l := k0.lt
          replace k1 := k1.below hb3 k1.lt; have k1c := k1.c; have k1f := k1.f; have k1l := k1.lt
          clear hb2 hB2
          generalize hL : putL l k v = L at *
          have hl3 : L.length = n3 := ho3.arg.1
          have hcap := ho3.cap
          have hlp := len_put l k v
          have hld := len_drop l k
          rw [hL] at hlp
          have hL' := Lib.hid hL
          clear hL
          go_wp2_with fail
          refine (rsize_calls c3 w3 ho3.arg (by omega)).mono ?_
          rintro e w4 ⟨rfl, i4, rfl⟩
          replace ho3 := (show OwC (w3.drewN i4) w2.heap.size A3 n3 c3 L hs3 from ⟨ho3.row, ho3.hl, ho3.ll, ho3.el, ho3.inc⟩)
          have hB4 := below_drewN hB3 i4
          replace k0 := At.drewN k0 i4
          replace k1 := At.drewN k1 i4
          clear k0c k0f k0l k1c k1f k1l hB3 hb3
          generalize w3.drewN i4 = w4 at *
          have k0c := k0.c; have k0f := k0.f; have k0l := k0.lt
          have k1c := k1.c; have k1f := k1.f; have k1l := k1.lt
          by_cases r1 : sizeL L ≤ 498 ∧ L.length < 256
          · have s1 : sizeL L ≤ 498 := r1.1
            have s2 : (n3 : Int) < 256 := by omega
            have r1' := Lib.hid r1
            clear r1
            generalize sizeL L = sz at *
            go_wp2_with fail
            go_ret
            exact ⟨by first | rfl | simp, hB4⟩
          · obtain ⟨i, i1, i2, i3, f1, f2⟩ := hfp.out r1
            rw [hl3] at i2
            have hct := size_count L
            have s1 : (498 : Int) < sizeL L := by
              rcases Int.lt_or_le 498 (sizeL L) with h | h
              · exact h
              · exact absurd ⟨h, by omega⟩ r1
            have i3' := Lib.hid i3
            clear hct r1 i3
            generalize sizeL L = sz at *
            go_wp2_with fail
            refine (halves_calls w4 ho3.arg (Nat.le_refl _) (by omega) hcap).mono ?_
            rintro e w5 ⟨rfl, hb5⟩
            rw [i3'.out]
            have hB5 := below_keep hb5 hB4
            replace ho3 := ho3.later hb5
            replace k0 := k0.below hb5 k0.lt; have k0c := k0.c; have k0f := k0.f; have k0l := k0.lt
            replace k1 := k1.below hb5 k1.lt; have k1c := k1.c; have k1f := k1.f; have k1l := k1.lt
            clear hB4 hb5
            have i1' : (1 : Int) ≤ i := by omega
            have i2' : (i : Int) < n3 := by omega
            have i4' : (i : Int) ≤ c3 := by omega
            have i5' : (i : Int) ≤ n3 := by omega
            have i6' : (0 : Int) ≤ i := by omega
            have i7' : (n3 : Int) ≤ c3 := by omega
            have hfr := Lib.hid (show CsR w5.drew 0 w5.drew.heap.size A3 i (L.take i) from (ho3.arg.front i (by omega)).drew)
            have hbk := Lib.hid (show CsR w5.drew 0 w5.drew.heap.size (if c3 = i then A3 else Option.map (fun x => x.add (i * 2)) A3) (n3 - i) (L.drop i) from (ho3.arg.backA (c := c3) i (by omega) hcap).drew)
            have e1 : i ≤ 4096 := by omega
            have e2 : n3 - i ≤ 4096 := by omega
            have f1' := Lib.hid f1
            have f2' := Lib.hid f2
            have kd0 := k0.drew
            have kd0l := kd0.lt
            have c0 : Below w5.heap.size w5 w5.drew := below_dr (Below.refl _ _)
            clear f1 f2
            go_upto_region 7 with (fail)
            go_region_held3 (fun w' => At w' w.heap.size #[.int .u8 kd, .int .i64 next, .slice A n c] 54 ∧ (∀ o, w'.cell? ⟨w.heap.size, o, none⟩ = #[.int .u8 kd, .int .i64 next, .slice A n c][o]?))
              (first
                | (exact ⟨kd0, kd0.c⟩)
                | (exact ⟨At.keep hb6 kd0, (At.keep hb6 kd0).c⟩)
                | (exact ⟨At.keep hb7 (At.keep hb6 kd0), (At.keep hb7 (At.keep hb6 kd0)).c⟩))
              (first
                | (go_at_call 40; with_reducible refine (rform_yes kd 0 c3 w5.drew hfr.out e1 f1'.out).mono ?_; rintro e w6 ⟨rfl, hb6⟩)
                | (go_at_call 40; with_reducible refine (rform_yes kd 0 (c3 - i) w6 (hbk.out.later hb6) e2 f2'.out).mono ?_; rintro e w7 ⟨rfl, hb7⟩)
                | fail)
            go_wp2
            go_ret
            exact ⟨by first | rfl | simp, below_keep hb7 (below_keep hb6 (below_dr hB5))⟩
        · have q2' : ¬ (vN : Int) ≤ 150 := by omega
          have q2'' : (150 : Int) < vN := by omega
          clear q2
          go_wp2_with fail
          refine (pawake_calls _).mono ?_
          rintro e w3 ⟨rfl, hb3⟩
          go_wp2
          go_ret
          exact ⟨by first | rfl | simp, below_keep hb3 hB2⟩
      · have q1' : (90 : Int) < kN := by omega
        clear q1
        go_wp2_with fail
        refine (pawake_calls _).mono ?_
        rintro e w3 ⟨rfl, hb3⟩
        go_wp2
        go_ret
        exact ⟨by first | rfl | simp, below_keep hb3 hB2⟩
    · go_wp2_with fail
      refine (rform_page kd next c false w1 ((h.below hB1 (Nat.le_refl _)).widen (Nat.le_refl _) hB1.size) (by omega) (by simp [hp])).mono ?_
      rintro e w2 ⟨rfl, hb2⟩
      have hB2 := below_keep hb2 hB1
      replace k0 := k0.below hb2 k0.lt; have k0c := k0.c; have k0f := k0.f; have k0l := k0.lt
      replace k1 := k1.below hb2 k1.lt; have k1c := k1.c; have k1f := k1.f; have k1l := k1.lt
      go_wp2_with fail
      refine (pawake_calls _).mono ?_
      rintro e w3 ⟨rfl, hb3⟩
      go_wp2
      go_ret
      exact ⟨by first | rfl | simp, below_keep hb3 hB2⟩
  · have hn' : (300 : Int) < n := by omega
    go_wp2_with fail
    refine (pawake_calls _).mono ?_
    rintro e w3 ⟨rfl, hb3⟩
    go_wp2
    go_ret
    exact ⟨by first | rfl | simp, below_keep hb3 hB1⟩
end Go.Proofs.Ytjgomebnlekddaa
