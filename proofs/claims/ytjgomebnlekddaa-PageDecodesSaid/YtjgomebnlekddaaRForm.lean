/- The reference's Form by its contract. -/
import Derived.Test.YtjgomebnlekddaaPForm
import Derived.Test.YtjgomebnlekddaaRHalves
namespace Go.Proofs.Ytjgomebnlekddaa
set_option linter.unusedVariables false
set_option linter.unusedSimpArgs false
open Go.RowKit
theorem pform_ris {k next : Int} {l : List Cl} (h : PForm k next l) : risB l = true := (risB_iff l).2 fun i hi => by
  have := (h.2.1 (i + 1) hi).2.2 (by omega)
  simpa using this
theorem cells_ok {l : List Cl} (hr : risB l = true) (h : ∀ i, i < l.length → (clAt l i).1.length ≤ 90 ∧ (clAt l i).2.length ≤ 150) : ∀ i, i < l.length → cellOk l i := fun i hi =>
  ⟨(h i hi).1, (h i hi).2, fun h0 => by
    have := (risB_iff l).1 hr (i - 1) (by omega)
    rw [show i - 1 + 1 = i by omega] at this
    exact this⟩
set_option maxRecDepth 100000 in
set_option maxHeartbeats 2000000 in
theorem rform_page {n : Nat} (k next : Int) (c : Nat) {A : Option Addr} {l : List Cl} (b : Bool) (w : World) (h : CsR w 0 w.heap.size A n l) (hn : n ≤ 4096) (hb : b = true ↔ PForm k next l) :
    Calls Try.prog 40 #[.agg #[.int .u8 k, .int .i64 next, .slice A n c]] w fun e w' => e = .returned (.bool b) ∧ Below w.heap.size w w' := by
  have hln := Lib.hid h.1
  have hbb := Lib.hid hb
  clear hb
  have k0 := At.new w #[.int .u8 k, .int .i64 next, .slice A n c] 54
  by_cases h0 : 3 < k ∨ next < 0 ∨ 4095 < next ∨ 255 < n
  · obtain rfl := b_no hbb.out (fun h => by have h1 := h.1; have h2 := h.2.2.1; rw [hln.out] at h2; omega)
    clear hbb
    have hB := below_new w (.cells #[.int .u8 k, .int .i64 next, .slice A n c] 54)
    by_cases h1 : 3 < k
    · go_enter Try.func40, Try.ntmps40
      go_wp2_with fail
      go_ret
      exact ⟨rfl, below_new _ _⟩
    by_cases h2 : next < 0
    · go_enter Try.func40, Try.ntmps40
      go_wp2_with fail
      go_ret
      exact ⟨rfl, below_new _ _⟩
    by_cases h3 : 4095 < next
    · go_enter Try.func40, Try.ntmps40
      go_wp2_with fail
      go_ret
      exact ⟨rfl, below_new _ _⟩
    have h4 : (255 : Int) < n := by omega
    go_enter Try.func40, Try.ntmps40
    go_wp2_with fail
    go_ret
    exact ⟨rfl, below_new _ _⟩
  · have h1 : ¬ 3 < k := by omega
    have h2 : ¬ next < 0 := by omega
    have h3 : ¬ 4095 < next := by omega
    have h4 : (n : Int) ≤ 255 := by omega
    clear h0
    go_enter Try.func40, Try.ntmps40
    go_wp2_with fail
    have hB := below_new w (.cells #[.int .u8 k, .int .i64 next, .slice A n c] 54)
    generalize (w.alloc (.cells #[.int .u8 k, .int .i64 next, .slice A n c] 54)) = w0 at *
    refine (rises_calls c w0 (h.below hB (Nat.le_refl _)) (by omega)).mono ?_
    rintro e w1 ⟨rfl, i1, rfl⟩
    have hB1 := below_drewN hB i1
    replace k0 := At.drewN k0 i1
    clear hB
    generalize w0.drewN i1 = w1 at *
    have hk0 := Lib.hid k0
    cases hr : risB l
    · obtain rfl := b_no hbb.out (fun h => by have := pform_ris h; rw [hr] at this; cases this)
      clear hbb
      go_wp2_with fail
      go_ret
      exact ⟨by first | rfl | simp, hB1⟩
    · go_upto_region 4 with (fail)
      go_loopw [3] (fun v3 wr => ∃ j : Nat, j ≤ n ∧ v3 = .int .i64 j ∧ (∀ i, i < j → (clAt l i).1.length ≤ 90 ∧ (clAt l i).2.length ≤ 150) ∧ wr = w1) (fun v3 _ => n - (intOf v3).toNat)
      case atStart => exact ⟨0, by omega, rfl, fun i hi => absurd hi (by omega), rfl⟩
      case round =>
        obtain ⟨j, hj, rfl, hok, rfl⟩ := hrel
        have hok' := Lib.hid hok
        clear hok
        have hcs := h.below hB1 (Nat.le_refl _)
        have k0c := k0.c; have k0f := k0.f; have k0l := k0.lt
        by_cases hlt : j < n
        · obtain ⟨gb, go', kA, kN, kC, vA, vN, vC, rfl, g1, g2, c1, c2, b1, b2, m1, m2⟩ := hcs.2 j hlt
          have e1 := b1.1
          have e2 := b2.1
          have hj0 : (0 : Int) ≤ j := by omega
          have hj1 : (j : Int) < n := by omega
          clear b1 b2
          by_cases q1 : 90 < kN
          · obtain rfl := b_no hbb.out (fun h => by have := (h.2.1 j (by rw [hln.out]; exact hlt)).1; omega)
            clear hbb
            have t1 : decide ((90 : Int) < kN) = true := by simp; omega
            go_wp2
            go_ret
            exact ⟨rfl, hB1⟩
          have t1 : decide ((90 : Int) < kN) = false := by simp; omega
          by_cases q2 : 150 < vN
          · obtain rfl := b_no hbb.out (fun h => by have := (h.2.1 j (by rw [hln.out]; exact hlt)).2.1; omega)
            clear hbb
            have t2 : decide ((150 : Int) < vN) = true := by simp; omega
            go_wp2
            go_ret
            exact ⟨rfl, hB1⟩
          have t2 : decide ((150 : Int) < vN) = false := by simp; omega
          go_wp2
          go_roundw
          case rel => exact ⟨j + 1, by omega, by go_num, fun i hi => by
            rcases Nat.lt_or_ge i j with hij | hij
            · exact hok'.out i hij
            · obtain rfl : i = j := by omega
              exact ⟨by omega, by omega⟩, trivial⟩
          case measure => simp [intOf]; omega
        · obtain rfl : j = n := by omega
          go_wp2_with fail
          refine (rsize_calls c wr hcs hn).mono ?_
          rintro e w2 ⟨rfl, i2, rfl⟩
          have hcell := Lib.hid (cells_ok hr (fun i hi => hok'.out i (by rw [← hln.out]; exact hi)))
          generalize hs : sizeL l = s at *
          by_cases q2 : s ≤ 498
          · obtain rfl : b = true := hbb.out.2 ⟨⟨by omega, by omega, by omega⟩, hcell.out, by rw [hln.out]; omega, by rw [hs]; exact q2⟩
            go_wp2
            go_ret
            exact ⟨by first | rfl | simp [q2], below_drewN hB1 _⟩
          · obtain rfl := b_no hbb.out (fun h => q2 (by have := h.2.2.2; rw [hs] at this; exact this))
            clear hbb
            go_wp2
            go_ret
            exact ⟨by first | rfl | simp [q2], below_drewN hB1 _⟩
end Go.Proofs.Ytjgomebnlekddaa
