/- page.Form by its contract. -/
import Derived.Test.YtjgomebnlekddaaRises
namespace Go.Proofs.Ytjgomebnlekddaa
set_option linter.unusedVariables false
set_option linter.unusedSimpArgs false
open Go.RowKit
def cellOk (l : List Cl) (i : Nat) : Prop := (clAt l i).1.length ≤ 90 ∧ (clAt l i).2.length ≤ 150 ∧ (0 < i → cmpI (clAt l (i - 1)).1 (clAt l i).1 < 0)
def PForm (k next : Int) (l : List Cl) : Prop := (k ≤ 3 ∧ 0 ≤ next ∧ next < 4096) ∧ (∀ i, i < l.length → cellOk l i) ∧ l.length < 256 ∧ sizeL l ≤ 498
theorem b_no {b : Bool} {p : Prop} (h : b = true ↔ p) (hn : ¬ p) : b = false := by
  cases b
  · rfl
  · exact absurd (h.1 rfl) hn
theorem BsR.drewK {w : World} {lo hi n : Nat} {A : Option Addr} {l : List Int} (h : BsR w lo hi A n l) (k : Nat) : BsR (w.drewN k) lo hi A n l := h
theorem compare_q {lo hi n lo' hi' m : Nat} (c d : Nat) {A B : Option Addr} {a b : List Int} (w : World) (v : Int) (ha : BsR w lo hi A n a) (hb : BsR w lo' hi' B m b) (hv : cmpI a b = v) :
    Calls Try.prog 66 #[.slice A n c, .slice B m d] w fun e w' => e = .returned (.int .i64 v) ∧ ∃ k, w' = w.drewN k :=
  (compare_calls c d w ha hb).mono fun e w' h => ⟨hv ▸ h.1, 0, by rw [← h.2]; simp [World.drewN]⟩
set_option maxRecDepth 100000 in
set_option maxHeartbeats 2000000 in
theorem pform_calls {n : Nat} (k next : Int) (c : Nat) {A : Option Addr} {l : List Cl} (b : Bool) (w : World) (h : CsR w 0 w.heap.size A n l) (hn : n ≤ 4096) (hb : b = true ↔ PForm k next l) :
    Calls Try.prog 44 #[.agg #[.int .u8 k, .int .i64 next, .slice A n c]] w fun e w' => e = .returned (.bool b) ∧ Below w.heap.size w w' := by
  have hln := Lib.hid h.1
  have hbb := Lib.hid hb
  clear hb
  have k0 := At.new w #[.int .u8 k, .int .i64 next, .slice A n c] 54
  by_cases h1 : 3 < k
  · obtain rfl := b_no hbb.out (fun h => by have := h.1; omega)
    clear hbb
    go_enter Try.func44, Try.ntmps44
    go_wp2_with fail
    go_ret
    exact ⟨rfl, below_new _ _⟩
  by_cases h2 : next < 0
  · obtain rfl := b_no hbb.out (fun h => by have := h.1; omega)
    clear hbb
    go_enter Try.func44, Try.ntmps44
    go_wp2_with fail
    go_ret
    exact ⟨rfl, below_new _ _⟩
  by_cases h3 : 4096 ≤ next
  · obtain rfl := b_no hbb.out (fun h => by have := h.1; omega)
    clear hbb
    go_enter Try.func44, Try.ntmps44
    go_wp2_with fail
    go_ret
    exact ⟨rfl, below_new _ _⟩
  go_enter Try.func44, Try.ntmps44
  go_upto_region 4 with (fail)
  have hB := below_new w (.cells #[.int .u8 k, .int .i64 next, .slice A n c] 54)
  generalize (w.alloc (.cells #[.int .u8 k, .int .i64 next, .slice A n c] 54)) = w0 at *
  have k0l := k0.lt
  go_loopw [21] (fun v21 wr => ∃ j : Nat, j ≤ n ∧ v21 = .int .i64 j ∧ (∀ i, i < j → cellOk l i) ∧ Below w0.heap.size w0 wr) (fun v21 _ => n - (intOf v21).toNat)
  case atStart => exact ⟨0, by omega, rfl, fun i hi => absurd hi (by omega), Below.refl _ _⟩
  case round =>
    obtain ⟨j, hj, rfl, hok, hBr⟩ := hrel
    have hok' := Lib.hid hok
    clear hok
    have hBw := below_tr hB (hBr.mono hB.size)
    have hcs := h.below hBw (Nat.le_refl _)
    by_cases hlt : j < n
    · obtain ⟨gb, go', kA, kN, kC, vA, vN, vC, rfl, g1, g2, c1, c2, b1, b2, m1, m2⟩ := hcs.2 j hlt
      have e1 := b1.1
      have e2 := b2.1
      have kd := At.new wr #[.slice kA kN kC, .slice vA vN vC] 35
      have hj0 : (0 : Int) ≤ j := by omega
      have hj1 : (j : Int) < n := by omega
      go_upto_region 6 with (fail)
      have hBn := below_new wr (.cells #[.slice kA kN kC, .slice vA vN vC] 35)
      have hB2 := below_keep hBn hBr
      have kb := At.below k0 hB2 k0l
      have hBw2 := below_keep hBn hBw
      replace b1 := b1.below hBn hBw.size
      have hgw : gb < wr.heap.size := Nat.lt_of_lt_of_le g2 hBw.size
      have hprev := fun (hj : 0 < j) => hcs.2 (j - 1) (by omega)
      generalize (wr.alloc (.cells #[.slice kA kN kC, .slice vA vN vC] 35)) = w2 at *
      have kbc := kb.c
      have kdc := kd.c
      by_cases q1 : 90 < kN
      · obtain rfl := b_no hbb.out (fun h => by have := (h.2.1 j (by rw [hln.out]; exact hlt)).1; omega)
        clear hbb
        have t1 : decide ((90 : Int) < kN) = true := by simp; omega
        go_quiet (fail)
        go_wp2
        go_ret
        exact ⟨rfl, below_drewN hBw2 _⟩
      have t1 : decide ((90 : Int) < kN) = false := by simp; omega
      by_cases q2 : 150 < vN
      · obtain rfl := b_no hbb.out (fun h => by have := (h.2.1 j (by rw [hln.out]; exact hlt)).2.1; omega)
        clear hbb
        have t2 : decide ((150 : Int) < vN) = true := by simp; omega
        go_quiet (fail)
        go_wp2
        go_ret
        exact ⟨rfl, below_drewN hBw2 _⟩
      have t2 : decide ((150 : Int) < vN) = false := by simp; omega
      by_cases q3 : j = 0
      · subst q3
        go_quiet (fail)
        go_wp2
        go_roundw
        case rel => exact ⟨1, by omega, by go_num, fun i hi => by
          obtain rfl : i = 0 := by omega
          exact ⟨by omega, by omega, fun h => absurd h (Nat.lt_irrefl _)⟩, below_drewN hB2 _⟩
        case measure => simp [intOf]; omega
      obtain ⟨gb0, go0, xA, xN, xC, -, -, -, hA0, g0, g20, p1, -, b0, -, -, -⟩ := hprev (by omega)
      injection hA0 with hA0
      injection hA0 with hA1 hA2 _
      subst hA1 hA2
      have q4 : decide ((0 : Int) < j) = true := by simp; omega
      have q40 : 0 < j := by omega
      replace b0 := b0.below hBn hBw.size
      have p1' : w2.cell? ⟨gb, go' + (j - 1) * 2, none⟩ = some (.slice xA xN xC) := (hBn.cell (p := ⟨gb, go' + (j - 1) * 2, none⟩) hgw).trans p1
      obtain ⟨p, hp⟩ : ∃ p, j - 1 = p := ⟨_, rfl⟩
      have s1 : IntKind.i64.wrap ((j : Int) - 1) = (p : Int) := by rw [show (j : Int) - 1 = (p : Int) by omega]; exact IntWalk.i64_in _ (by omega)
      have s3 : (0 : Int) ≤ (p : Int) := by omega
      have s4 : (p : Int) < n := by omega
      rw [hp] at p1' b0
      have hp' := Lib.hid hp
      clear hp
      have hcc := Lib.hid (rfl : cmpI (clAt l p).1 (clAt l j).1 = cmpI (clAt l p).1 (clAt l j).1)
      by_cases q5 : cmpI (clAt l p).1 (clAt l j).1 < 0
      · have q5' := Lib.hid q5
        generalize hv : cmpI (clAt l p).1 (clAt l j).1 = v at *
        have q6 : decide ((0 : Int) ≤ v) = false := by simp; omega
        go_quiet ((go_at_call 66; with_reducible exact Calls.quiet_of (compare_q _ _ _ v (BsR.drewK b0 _) (BsR.drewK b1 _) hv)))
        go_wp2
        go_roundw
        case rel => exact ⟨j + 1, by omega, by go_num, fun i hi => by
          rcases Nat.lt_or_ge i j with hij | hij
          · exact hok'.out i hij
          · obtain rfl : i = j := by omega
            exact ⟨by omega, by omega, fun _ => by rw [hp'.out, hv]; exact q5'.out⟩, below_drewN hB2 _⟩
        case measure => simp [intOf]; omega
      · obtain rfl := b_no hbb.out (fun h => q5 (hp'.out ▸ (h.2.1 j (by rw [hln.out]; exact hlt)).2.2 (by omega)))
        clear hbb
        generalize hv : cmpI (clAt l p).1 (clAt l j).1 = v at *
        have q6 : decide ((0 : Int) ≤ v) = true := by simp; omega
        go_quiet ((go_at_call 66; with_reducible exact Calls.quiet_of (compare_q _ _ _ v (BsR.drewK b0 _) (BsR.drewK b1 _) hv)))
        go_wp2
        go_ret
        exact ⟨rfl, below_drewN hBw2 _⟩
    · obtain rfl : j = n := by omega
      have hk := At.below k0 hBr k0l
      have hkc := hk.c; have hkf := hk.f; have hkl := hk.lt
      by_cases q1 : j < 256
      · have q1' : (j : Int) < 256 := by omega
        go_wp2_with fail
        refine (psize_calls c _ hcs hBw.size hn).mono ?_
        rintro e w1 ⟨rfl, hb1⟩
        generalize hs : sizeL l = s at *
        by_cases q2 : s ≤ 498
        · obtain rfl : b = true := hbb.out.2 ⟨⟨by omega, by omega, by omega⟩, fun i hi => hok'.out i (by rw [← hln.out]; exact hi), by rw [hln.out]; exact q1, by rw [hs]; exact q2⟩
          go_wp2
          go_ret
          exact ⟨by first | rfl | simp [q2], below_keep hb1 hBw⟩
        · obtain rfl := b_no hbb.out (fun h => q2 (by have := h.2.2.2; rw [hs] at this; exact this))
          clear hbb
          go_wp2
          go_ret
          exact ⟨by first | rfl | simp [q2], below_keep hb1 hBw⟩
      · obtain rfl := b_no hbb.out (fun h => q1 (by have := h.2.2.1; rw [hln.out] at this; exact this))
        have q1' : ¬ (j : Int) < 256 := by omega
        clear hbb
        go_wp2
        go_ret
        exact ⟨by first | rfl | simp [q1'], hBw⟩
end Go.Proofs.Ytjgomebnlekddaa
