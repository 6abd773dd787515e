/- PageSorts: the walk of the law. -/
import Derived.Test.YtjgomebnlekddaaSwapsLaw
import Derived.Test.YtjgomebnlekddaaRPut2
namespace Go.Proofs.Ytjgomebnlekddaa
set_option linter.unusedVariables false
set_option linter.unusedSimpArgs false
open Go.RowKit
def sortL (l : List Cl) : List Cl := l.foldl (fun a c => putL a c.1 c.2) []
theorem rs_nil : Rs [] := fun i j _ h => absurd h (by simp)
theorem sort_take (l : List Cl) (j : Nat) (h : j < l.length) : sortL (l.take (j + 1)) = putL (sortL (l.take j)) (clAt l j).1 (clAt l j).2 := by
  unfold sortL
  rw [take_one l j h, List.foldl_append]
  rfl
theorem rs_fold : ∀ (l a : List Cl), Rs a → Rs (l.foldl (fun a c => putL a c.1 c.2) a)
  | [], _, h => h
  | c :: l, _, h => rs_fold l _ (rs_put h)
theorem rs_sort (l : List Cl) : Rs (sortL l) := rs_fold l [] rs_nil
set_option maxRecDepth 100000 in
set_option maxHeartbeats 2000000 in
theorem sorts_calls {n c : Nat} {A : Option Addr} {l : List Cl} (w : World) (h : CsR w 0 w.heap.size A n l) :
    Calls Try.prog 4 #[.slice A n c] w fun e w' => e = .returned (.bool true) ∧ Below w.heap.size w w' := by
  have hln := Lib.hid h.1
  by_cases hn : n ≤ 60
  · have hn' : (n : Int) ≤ 60 := by omega
    go_enter Try.func4, Try.ntmps4
    go_wp2_with fail
    refine (pawake_calls _).mono ?_
    rintro e w1 ⟨rfl, hb1⟩
    go_upto_region 5 with (fail)
    go_loopw [3, 4, 5] (fun v3 v4 v5 wr => ∃ (j m c1 m2 c2 : Nat) (A1 A2 : Option Addr), j ≤ n ∧ m ≤ j ∧ v5 = .int .i64 j ∧ v3 = .slice A1 m c1 ∧ v4 = .slice A2 m2 c2 ∧ m ≤ c1 ∧ CsR wr 0 wr.heap.size A1 m (sortL (l.take j)) ∧ CsR wr 0 wr.heap.size A2 m2 (sortL (l.take j)) ∧ Below w.heap.size w wr) (fun _ _ v5 _ => n - (intOf v5).toNat)
    case atStart => exact ⟨0, 0, 0, 0, 0, none, none, by omega, by omega, rfl, rfl, rfl, by omega, CsR.nil _ _ _ _, CsR.nil _ _ _ _, hb1⟩
    case round =>
      obtain ⟨j, m, c1, m2, c2, A1, A2, hj, hm, rfl, rfl, rfl, hmc, h1, h2, hB⟩ := hrel
      have hrs := rs_sort (l.take j)
      have e1 := h1.1
      have e2 := h2.1
      obtain rfl : m2 = m := by omega
      by_cases hlt : j < n
      · have hst := Lib.hid (sort_take l j (by rw [hln.out]; exact hlt))
        obtain ⟨gb, go', kA, kN, kC, vA, vN, vC, rfl, g1, g2, d1, d2, b1, b2, x1, x2⟩ := h.2 j hlt
        have f1 := (hB.cell (p := ⟨gb, go' + j * 2, none⟩) g2).trans d1
        have f2 := (hB.cell (p := ⟨gb, go' + j * 2 + 1, none⟩) g2).trans d2
        have hj0 : (0 : Int) ≤ j := by omega
        have hj1 : (j : Int) < n := by omega
        go_wp2_with fail
        refine (put_at c1 kC vC wr h1 hmc ((b1.below hB (Nat.le_refl _)).more hB.size) ((b2.below hB (Nat.le_refl _)).more hB.size) x1 x2 (by omega) hrs hst.out.symm).mono ?_
        rintro e w3 ⟨A3, c3, n3, hs3, rfl, ho3, hb3⟩
        have hB3 := below_keep hb3 hB
        clear f1 f2
        have f1 := (hB3.cell (p := ⟨gb, go' + j * 2, none⟩) g2).trans d1
        have f2 := (hB3.cell (p := ⟨gb, go' + j * 2 + 1, none⟩) g2).trans d2
        go_wp2_with fail
        refine (rput_calls c2 kC vC w3 (h2.later hb3) ((b1.below hB3 (Nat.le_refl _)).more hB3.size) ((b2.below hB3 (Nat.le_refl _)).more hB3.size) x1 x2 (by omega) hrs).mono ?_
        rintro e w4 ⟨A4, c4, n4, hs4, rfl, ho4, hb4⟩
        have hB4 := below_keep hb4 hB3
        have hl3 := ho3.arg.1
        have hlp := len_put (sortL (l.take j)) (clAt l j).1 (clAt l j).2
        have hld := len_drop (sortL (l.take j)) (clAt l j).1
        rw [← hst.out] at hlp
        clear f1 f2
        go_wp2
        go_roundw
        case rel => exact ⟨j + 1, n3, c3, n4, c4, A3, A4, by omega, by omega, by go_num, rfl, rfl, ho3.cap, (ho3.later hb4).arg, by rw [hst.out]; exact ho4.reads hb4.size, hB4⟩
        case measure => simp [intOf]; omega
      · obtain rfl : j = n := by omega
        go_wp2_with fail
        refine (rises_calls c1 wr h1 (by omega)).mono ?_
        rintro e w3 ⟨rfl, i3, rfl⟩
        rw [rs_risB hrs]
        have hB3 := below_drewN hB i3
        have h1' := h1.drewN i3
        have h2' := h2.drewN i3
        generalize wr.drewN i3 = w3 at *
        go_wp2_with fail
        refine (same_calls c1 c2 w3 h1' h2' (by omega) (by omega)).mono ?_
        rintro e w4 ⟨rfl, i4, rfl⟩
        rw [show sameB (sortL (l.take j)) (sortL (l.take j)) = true from decide_eq_true rfl]
        go_wp2
        go_ret
        exact ⟨by first | rfl | simp, below_drewN hB3 _⟩
  · have hn' : (60 : Int) < n := by omega
    go_enter Try.func4, Try.ntmps4
    go_wp2_with fail
    refine (pawake_calls _).mono ?_
    rintro e w1 ⟨rfl, hb1⟩
    go_wp2_with fail
    refine (pawake_calls _).mono ?_
    rintro e w2 ⟨rfl, hb2⟩
    go_wp2
    go_ret
    exact ⟨by first | rfl | simp, below_keep hb2 hb1⟩
end Go.Proofs.Ytjgomebnlekddaa
