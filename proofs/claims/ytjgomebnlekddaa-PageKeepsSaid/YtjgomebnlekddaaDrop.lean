/- page.Drop by its contract. -/
import Derived.Test.YtjgomebnlekddaaPut
namespace Go.Proofs.Ytjgomebnlekddaa
set_option linter.unusedVariables false
set_option linter.unusedSimpArgs false
open Go.RowKit
theorem CsR.drew {w : World} {lo hi n : Nat} {A : Option Addr} {l : List Cl} (h : CsR w lo hi A n l) : CsR w.drew lo hi A n l := h
theorem put_calls {n : Nat} (c kC vC : Nat) {kN vN : Nat} {A kA vA : Option Addr} {l : List Cl} {k v : List Int} (w : World) (h : CsR w 0 w.heap.size A n l) (hc : n ≤ c) (hk : BsR w 0 w.heap.size kA kN k) (hv : BsR w 0 w.heap.size vA vN v) (m1 : kN ≤ 70368744177664 * 2) (m2 : vN ≤ 70368744177664 * 2) (hn : n ≤ 4090) (hr : Rs l) :
    Calls Try.prog 25 #[.slice A n c, .agg #[.slice kA kN kC, .slice vA vN vC]] w (CsPost (putL l k v) w) := by
  cases hf : fndB l k
  · exact put_n c kC vC w h hc hk hv m1 m2 hn hr hf
  · exact put_y c kC vC w h hc hk hv m1 m2 hn hr hf
set_option maxRecDepth 100000 in
set_option maxHeartbeats 2000000 in
theorem drop_calls {n : Nat} (c kC : Nat) {kN : Nat} {A kA : Option Addr} {l : List Cl} {k : List Int} (w : World) (h : CsR w 0 w.heap.size A n l) (hc : n ≤ c) (hk : BsR w 0 w.heap.size kA kN k) (hn : n ≤ 4090) (hr : Rs l) :
    Calls Try.prog 30 #[.slice A n c, .slice kA kN kC] w (CsPost (dropL l k) w) := by
  have hln := Lib.hid h.1
  cases hf : fndB l k
  · have hd : dropL l k = l := by unfold dropL; rw [hf]; rfl
    have hf' := Lib.hid hf
    have hd' := Lib.hid hd
    clear hf hd
    go_enter Try.func30, Try.ntmps30
    go_wp2_with fail
    refine (find_calls c kC w h hk (by omega) hr).mono ?_
    rintro e w0' ⟨rfl, rfl⟩
    rw [hf'.out]
    go_wp2_with fail
    refine (copied_calls c w h (Nat.le_refl _) (by omega)).mono ?_
    rintro e w1 ⟨A1, c1, hs1, rfl, ho1, hb1⟩
    go_wp2
    go_ret
    exact ⟨A1, c1, n, hs1, rfl, by rw [hd'.out]; exact ho1, hb1⟩
  · have hil := fndB_lt hf
    rw [hln.out] at hil
    have hd : dropL l k = l.take (findI l k) ++ l.drop (findI l k + 1) := by unfold dropL; rw [hf]; rfl
    have hf' := Lib.hid hf
    have hd' := Lib.hid hd
    clear hf hd
    go_enter Try.func30, Try.ntmps30
    go_wp2_with fail
    refine (find_calls c kC w h hk (by omega) hr).mono ?_
    rintro e w0' ⟨rfl, rfl⟩
    rw [hf'.out]
    have hfr := Lib.hid (h.front (findI l k) (by omega))
    have hbk := Lib.hid (h.backA (c := c) (findI l k + 1) (by omega) hc)
    generalize hi : findI l k = i at *
    have hi' := Lib.hid hi
    clear hi
    have i0 : (0 : Int) ≤ i := by omega
    have i1 : (i : Int) ≤ n := by omega
    have i2 : (i : Int) ≤ c := by omega
    have i3 : (0 : Int) ≤ (i : Int) + 1 := by omega
    have i4 : (i : Int) + 1 ≤ n := by omega
    have i5 : (i : Int) + 1 ≤ c := by omega
    have i6 : IntKind.i64.wrap ((i : Int) + 1) = (i : Int) + 1 := IntWalk.i64_in _ (by omega)
    have i7 : ((i : Int) + 1).toNat = i + 1 := by omega
    have q1 : i + (n - (i + 1)) ≤ maxLen := by unfold maxLen; omega
    have q2 : (i + (n - (i + 1))) * 48 ≤ 140737488355328 := by omega
    have q3 : i ≤ 4096 := by omega
    have q4 : n - (i + 1) ≤ 4096 := by omega
    have hdr : w.heap.size ≤ w.drew.heap.size := Nat.le_refl _
    by_cases hcj : c = i + 1
    · have hbk2 := hbk.out
      rw [if_pos hcj] at hbk2
      have hbk' := Lib.hid hbk2
      clear hbk2
      obtain rfl : n = i + 1 := by omega
      subst hcj
      have hbk3 := hbk'.out
      rw [Nat.sub_self] at hbk3 q1 q2 q4
      replace hbk' := Lib.hid hbk3
      clear hbk3
      have i9 : (i : Int) ≤ (i : Int) + 1 := by omega
      go_upto_region 4 with (fail)
      go_region_held3 (fun _ => True) (trivial)
        (first
          | (go_at_call 65; with_reducible refine (copied_calls (n := i) _ w.drew (CsR.drew hfr.out) hdr q3).mono ?_; rintro e w1 ⟨A1, c1, hs1, rfl, ho1, hb1⟩)
          | (go_at_call 65; with_reducible refine (copied_calls (n := 0) 0 w1 ((CsR.drew hbk'.out).below hb1 hdr) (Nat.le_trans hdr hb1.size) q4).mono ?_; rintro e w2 ⟨A2, c2, hs2, rfl, ho2, hb2⟩)
          | (refine step_appG cellElt (by rfl) (.tmp 20) (.tmp 25) (by rfl) w.heap.size i c1 A1 _ (by rfl) (ho1.later hb2).row (0) c2 A2 _ (by rfl) ho2.src q1 q2 (Nat.le_trans hb1.size hb2.size) ?_; intro A3 c3 w3 ho3 hg3 hb3 hat3)
          | fail)
      go_wp2
      go_ret
      exact ⟨A3, c3, _, _, rfl, by rw [hd'.out]; exact OwC.join (ho1.later hb2) ho2 hb1.size (fun g hg => (blks_lt ho1 g hg).2) ho3 hg3, below_tr (below_keep hb2 (below_tr (below_dr (Below.refl _ _)) hb1)) hb3⟩
    · have hbk2 := hbk.out
      rw [if_neg hcj] at hbk2
      have hbk' := Lib.hid hbk2
      clear hbk2
      have i8 : ¬ (c : Int) = (i : Int) + 1 := by omega
      go_upto_region 4 with (fail)
      go_region_held3 (fun _ => True) (trivial)
        (first
          | (go_at_call 65; with_reducible refine (copied_calls (n := i) _ w.drew (CsR.drew hfr.out) hdr q3).mono ?_; rintro e w1 ⟨A1, c1, hs1, rfl, ho1, hb1⟩)
          | (go_at_call 65; with_reducible refine (copied_calls (n := n - (i + 1)) _ w1 ((CsR.drew hbk'.out).below hb1 hdr) (Nat.le_trans hdr hb1.size) q4).mono ?_; rintro e w2 ⟨A2, c2, hs2, rfl, ho2, hb2⟩)
          | (refine step_appG cellElt (by rfl) (.tmp 20) (.tmp 25) (by rfl) w.heap.size i c1 A1 _ (by rfl) (ho1.later hb2).row (n - (i + 1)) c2 A2 _ (by rfl) ho2.src q1 q2 (Nat.le_trans hb1.size hb2.size) ?_; intro A3 c3 w3 ho3 hg3 hb3 hat3)
          | fail)
      go_wp2
      go_ret
      exact ⟨A3, c3, _, _, rfl, by rw [hd'.out]; exact OwC.join (ho1.later hb2) ho2 hb1.size (fun g hg => (blks_lt ho1 g hg).2) ho3 hg3, below_tr (below_keep hb2 (below_tr (below_dr (Below.refl _ _)) hb1)) hb3⟩
end Go.Proofs.Ytjgomebnlekddaa
