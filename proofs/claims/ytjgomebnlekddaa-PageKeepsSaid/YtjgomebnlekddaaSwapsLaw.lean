/- PageSwaps: the walk of the law. -/
import Derived.Test.YtjgomebnlekddaaPAwake
import Derived.Test.YtjgomebnlekddaaOrd
namespace Go.Proofs.Ytjgomebnlekddaa
set_option linter.unusedVariables false
set_option linter.unusedSimpArgs false
open Go.RowKit
theorem put_at {n : Nat} (c kC vC : Nat) {kN vN : Nat} {A kA vA : Option Addr} {l q : List Cl} {k v : List Int} (w : World) (h : CsR w 0 w.heap.size A n l) (hc : n ≤ c) (hk : BsR w 0 w.heap.size kA kN k) (hv : BsR w 0 w.heap.size vA vN v) (m1 : kN ≤ 70368744177664 * 2) (m2 : vN ≤ 70368744177664 * 2) (hn : n ≤ 4090) (hr : Rs l) (hq : putL l k v = q) :
    Calls Try.prog 25 #[.slice A n c, .agg #[.slice kA kN kC, .slice vA vN vC]] w (CsPost q w) := hq ▸ put_calls c kC vC w h hc hk hv m1 m2 hn hr
theorem drop_at {n : Nat} (c kC : Nat) {kN : Nat} {A kA : Option Addr} {l q : List Cl} {k : List Int} (w : World) (h : CsR w 0 w.heap.size A n l) (hc : n ≤ c) (hk : BsR w 0 w.heap.size kA kN k) (hn : n ≤ 4090) (hr : Rs l) (hq : dropL l k = q) :
    Calls Try.prog 30 #[.slice A n c, .slice kA kN kC] w (CsPost q w) := hq ▸ drop_calls c kC w h hc hk hn hr
theorem OwC.cap {w : World} {base n c : Nat} {A : Option Addr} {l : List Cl} {hs : List Hc} (h : OwC w base A n c l hs) : n ≤ c := by
  rcases h.row.2 with ⟨hv, h0⟩ | ⟨g, cap, cur, hv, _, _, hnc, _⟩
  · injection hv with _ _ h3
    omega
  · injection hv with _ _ h3
    omega
theorem OwC.arg {w : World} {base n c : Nat} {A : Option Addr} {l : List Cl} {hs : List Hc} (h : OwC w base A n c l hs) : CsR w 0 w.heap.size A n l := h.reads.widen (Nat.zero_le _) (Nat.le_refl _)
set_option maxRecDepth 100000 in
set_option maxHeartbeats 2000000 in
theorem swaps_calls {n c kN kC vN vC : Nat} {A kA vA : Option Addr} {l : List Cl} {k v : List Int} (w : World) (h : CsR w 0 w.heap.size A n l) (hc : n ≤ c) (hk : BsR w 0 w.heap.size kA kN k) (hv : BsR w 0 w.heap.size vA vN v) (m1 : kN ≤ 70368744177664 * 2) (m2 : vN ≤ 70368744177664 * 2) (hn0 : n ≤ 140737488355328) :
    Calls Try.prog 7 #[.slice A n c, .agg #[.slice kA kN kC, .slice vA vN vC]] w fun e w' => e = .returned (.bool true) ∧ Below w.heap.size w w' := by
  go_enter Try.func7, Try.ntmps7
  go_wp2_with fail
  have k0 := At.new w #[.slice kA kN kC, .slice vA vN vC] 35
  have hB := below_new w (.cells #[.slice kA kN kC, .slice vA vN vC] 35)
  generalize (w.alloc (.cells #[.slice kA kN kC, .slice vA vN vC] 35)) = w0 at *
  refine (pawake_calls _).mono ?_
  rintro e w1 ⟨rfl, hb1⟩
  have hB1 := below_keep hb1 hB
  replace k0 := At.keep hb1 k0
  clear hB hb1
  go_wp2_with fail
  refine (rises_calls c w1 (h.below hB1 (Nat.le_refl _)) hn0).mono ?_
  rintro e w2 ⟨rfl, i2, rfl⟩
  have hB2 := below_drewN hB1 i2
  replace k0 := At.drewN k0 i2
  clear hB1
  generalize w1.drewN i2 = w2 at *
  cases hr : risB l
  · go_wp2_with fail
    refine (pawake_calls _).mono ?_
    rintro e w3 ⟨rfl, hb3⟩
    go_wp2
    go_ret
    exact ⟨by first | rfl | simp, below_keep hb3 hB2⟩
  · have hrs := risB_rs hr
    by_cases hn : n ≤ 200
    · have hn' : (n : Int) ≤ 200 := by omega
      have hln := h.1
      have hlp := len_put l k v
      have hld := len_drop l k
      go_upto_region 3 with (fail)
      have hP : CsR w2.drew 0 w2.drew.heap.size A n l := (h.below hB2 (Nat.le_refl _)).widen (Nat.le_refl _) hB2.size
      have hkP : BsR w2.drew 0 w2.drew.heap.size kA kN k := (hk.below hB2 (Nat.le_refl _)).more hB2.size
      have hvP : BsR w2.drew 0 w2.drew.heap.size vA vN v := (hv.below hB2 (Nat.le_refl _)).more hB2.size
      have q1 : n ≤ 4090 := by omega
      have hsz : w.heap.size < w2.drew.heap.size := k0.lt
      have kd := k0.drew
      go_region_held3 (fun w' => At w' w.heap.size #[.slice kA kN kC, .slice vA vN vC] 35 ∧ (∀ o, w'.cell? ⟨w.heap.size, o, none⟩ = #[.slice kA kN kC, .slice vA vN vC][o]?))
        (first
          | (exact ⟨kd, kd.c⟩)
          | (exact ⟨kd.below hb3 hsz, (kd.below hb3 hsz).c⟩)
          | (exact ⟨At.keep hb4 (kd.below hb3 hsz), (At.keep hb4 (kd.below hb3 hsz)).c⟩))
        (first
          | (go_at_call 25; refine (put_at c kC vC w2.drew hP hc hkP hvP m1 m2 q1 hrs rfl).mono ?_; rintro e w3 ⟨A3, c3, n3, hs3, rfl, ho3, hb3⟩)
          | (go_at_call 30; refine (drop_at c3 kC w3 ho3.arg ho3.cap ((hkP.below hb3 (Nat.le_refl _)).more hb3.size) (by have := ho3.arg.1; omega) (rs_put hrs) drop_put).mono ?_; rintro e w4 ⟨A4, c4, n4, hs4, rfl, ho4, hb4⟩)
          | fail)
      all_goals
        have k4 := At.keep hb4 (kd.below hb3 hsz)
        have hB4 := below_keep hb4 (below_tr (below_dr hB2) (hb3.mono (Nat.le_of_lt hsz)))
        have hk4 := (hk.below hB4 (Nat.le_refl _)).more hB4.size
        have hl4 : (dropL l k).length = n4 := ho4.arg.1
        have k4c := k4.c; have k4f := k4.f; have k4l := k4.lt
        go_wp2_with fail
        refine (find_calls c4 kC w4 ho4.arg hk4 (by omega) (dropL_rest l k ▸ rs_rest hrs)).mono ?_
        rintro e w4' ⟨rfl, rfl⟩
        rw [show fndB (dropL l k) k = false from dropL_rest l k ▸ fnd_rest hrs]
        go_wp2_with fail
        refine (drop_at c kC w4 ((h.below hB4 (Nat.le_refl _)).widen (Nat.le_refl _) hB4.size) hc hk4 q1 hrs rfl).mono ?_
        rintro e w5 ⟨A5, c5, n5, hs5, rfl, ho5, hb5⟩
        have hB5 := below_keep hb5 hB4
        replace k4 := At.keep hb5 k4
        have k4c := k4.c; have k4f := k4.f; have k4l := k4.lt
        go_wp2_with fail
        refine (same_calls c4 c5 w5 (ho4.later hb5).arg ho5.arg (by omega) (by have := ho5.arg.1; omega)).mono ?_
        rintro e w6 ⟨rfl, i6, rfl⟩
        rw [show sameB (dropL l k) (dropL l k) = true from decide_eq_true rfl]
        have hB6 := below_drewN hB5 i6
        replace k4 := At.drewN k4 i6
        generalize w5.drewN i6 = w6 at *
        have k4c := k4.c; have k4f := k4.f; have k4l := k4.lt
        go_wp2_with fail
        refine (put_at c kC vC w6 ((h.below hB6 (Nat.le_refl _)).widen (Nat.le_refl _) hB6.size) hc ((hk.below hB6 (Nat.le_refl _)).more hB6.size) ((hv.below hB6 (Nat.le_refl _)).more hB6.size) m1 m2 q1 hrs rfl).mono ?_
        rintro e w7 ⟨A7, c7, n7, hs7, rfl, ho7, hb7⟩
        have hn7 : (putL l k v).length = n7 := ho7.arg.1
        have hfin : ((n7 : Int) == (n4 : Int) + 1) = true := by simp; omega
        go_wp2
        go_ret
        exact ⟨by first | rfl | simp | (simp; omega), below_keep hb7 hB6⟩
    · have hn' : (200 : Int) < n := by omega
      go_wp2_with fail
      refine (pawake_calls _).mono ?_
      rintro e w3 ⟨rfl, hb3⟩
      go_wp2
      go_ret
      exact ⟨by first | rfl | simp, below_keep hb3 hB2⟩
end Go.Proofs.Ytjgomebnlekddaa
