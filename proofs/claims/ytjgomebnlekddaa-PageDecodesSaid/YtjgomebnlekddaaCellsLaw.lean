/- PageCells: the walk of the law. -/
import Derived.Test.YtjgomebnlekddaaSwapsLaw
import Derived.Test.YtjgomebnlekddaaRPut2
import Derived.Test.YtjgomebnlekddaaCellsPlain
namespace Go.Proofs.Ytjgomebnlekddaa
set_option linter.unusedVariables false
set_option linter.unusedSimpArgs false
open Go.RowKit
theorem same_yes {n m : Nat} (c d : Nat) {A B : Option Addr} {l l2 : List Cl} (w : World) (h : CsR w 0 w.heap.size A n l) (h2 : CsR w 0 w.heap.size B m l2) (e : l = l2) (hn : l.length ≤ 301) :
    Calls Try.prog 28 #[.slice A n c, .slice B m d] w fun e w' => e = .returned (.bool true) ∧ Below w.heap.size w w' :=
  (same_calls c d w h h2 (by have := h.1; omega) (by have := h2.1; rw [← e] at this; omega)).mono fun x w' hx => by
    obtain ⟨h1, k, h2⟩ := hx
    rw [show sameB l l2 = true from decide_eq_true e] at h1
    exact ⟨h1, h2 ▸ below_drewN (Below.refl _ _) k⟩
set_option maxRecDepth 100000 in
set_option maxHeartbeats 2000000 in
theorem cells_calls {n c kN kC vN vC : Nat} {A kA vA : Option Addr} {l : List Cl} {k v : List Int} (w : World) (h : CsR w 0 w.heap.size A n l) (hc : n ≤ c) (hk : BsR w 0 w.heap.size kA kN k) (hv : BsR w 0 w.heap.size vA vN v) (m1 : kN ≤ 70368744177664 * 2) (m2 : vN ≤ 70368744177664 * 2) (hn0 : n ≤ 140737488355328) :
    Calls Try.prog 5 #[.slice A n c, .agg #[.slice kA kN kC, .slice vA vN vC]] w fun e w' => e = .returned (.bool true) ∧ Below w.heap.size w w' := by
  go_enter Try.func5, Try.ntmps5
  go_wp2_with fail
  have k0 := At.new w #[.slice kA kN kC, .slice vA vN vC] 35
  have hB := below_new w (.cells #[.slice kA kN kC, .slice vA vN vC] 35)
  generalize (w.alloc (.cells #[.slice kA kN kC, .slice vA vN vC] 35)) = w0 at *
  refine (pawake_calls _).mono ?_
  rintro e w1 ⟨rfl, hb1⟩
  have hB1 := below_keep hb1 hB
  replace k0 := At.keep hb1 k0
  clear hB hb1
  go_wp2_with fail
  refine (rises_calls c w1 (h.below hB1 (Nat.le_refl _)) hn0).mono ?_
  rintro e w2 ⟨rfl, i2, rfl⟩
  have hB2 := below_drewN hB1 i2
  replace k0 := At.drewN k0 i2
  clear hB1
  generalize w1.drewN i2 = w2 at *
  cases hr : risB l
  · go_wp2_with fail
    refine (pawake_calls _).mono ?_
    rintro e w3 ⟨rfl, hb3⟩
    go_wp2
    go_ret
    exact ⟨by first | rfl | simp, below_keep hb3 hB2⟩
  · have hrs := risB_rs hr
    by_cases hn : n ≤ 300
    · have hn' : (n : Int) ≤ 300 := by omega
      have hln := Lib.hid h.1
      have k0c := k0.c; have k0f := k0.f; have k0l := k0.lt
      go_wp2_with fail
      refine (find_calls c kC w2 (h.below hB2 (Nat.le_refl _)) (hk.below hB2 (Nat.le_refl _)) (by omega) hrs).mono ?_
      rintro e w2' ⟨rfl, rfl⟩
      have hk0 := Lib.hid k0
      clear k0 k0c k0f k0l
      go_upto_region 7 with (fail)
      go_loopw [7, 8, 9] (fun v7 v8 v9 wr => ∃ j : Nat, j ≤ n ∧ v9 = .int .i64 j ∧ v7 = .int .i64 (belowTo l k j) ∧ v8 = .bool (thereTo l k j) ∧ ∃ i, wr = w2.drewN i) (fun _ _ v9 _ => n - (intOf v9).toNat)
      case atStart => exact ⟨0, by omega, rfl, by unfold belowTo; simp, by unfold thereTo; simp, 0, by simp [World.drewN]⟩
      case round =>
        obtain ⟨j, hj, rfl, rfl, rfl, i, hi⟩ := hrel
        have k0 : At wr w.heap.size #[.slice kA kN kC, .slice vA vN vC] 35 := by rw [hi]; exact hk0.out.drewN i
        have hBr : Below w.heap.size w wr := by rw [hi]; exact below_drewN hB2 i
        have hi' := Lib.hid hi
        clear hi
        by_cases hlt : j < n
        · have hjl : j < l.length := by rw [hln.out]; exact hlt
          obtain ⟨gb, go', xA, xN, xC, yA, yN, yC, rfl, g1, g2, d1, d2, b1, b2, x1, x2⟩ := (h.below hBr (Nat.le_refl _)).2 j hlt
          have e1 := str_eq b1.2.1 hk.2.1
          have e2 := str_less b1.2.1 hk.2.1
          have r1 := fun i => run_str xC (wr.drewN i) (show BsR (wr.drewN i) 0 w.heap.size xA xN (clAt l j).1 from b1)
          have r2 := fun i => run_str kC (wr.drewN i) (show BsR (wr.drewN i) 0 w.heap.size kA kN k from hk.below (below_drewN hBr i) (Nat.le_refl _))
          have k0c := k0.c
          have hj0 : (0 : Int) ≤ j := by omega
          have hj1 : (j : Int) < n := by omega
          have hbs := Lib.hid (below_step hrs (k := k) hjl)
          have hts := Lib.hid (there_step hrs (k := k) hjl)
          have hbl : belowTo l k j ≤ 300 := by unfold belowTo; split <;> omega
          generalize hbt : belowTo l k j = bt at *
          generalize htt : thereTo l k j = tt at *
          generalize hee : eqB (clAt l j).1 k = ee at *
          clear b1 b2 hjl d2
          by_cases q : cmpI (clAt l j).1 k < 0
          all_goals
            first
              | rw [decide_eq_true q] at e2
              | rw [decide_eq_false q] at e2
            have q' := Lib.hid q
            clear q
            go_upto_region 9 with (fail)
            go_quiet (fail)
            go_upto_region 11 with (fail)
            cases tt
            all_goals
              go_quiet (fail)
              go_wp2
              go_roundw
              case rel => exact ⟨j + 1, by omega, by go_num, by first | (rw [hbs.out, if_pos q'.out]; go_num) | (rw [hbs.out, if_neg q'.out]), by rw [hts.out]; simp, by rw [hi'.out]; exact ⟨_, by first | rfl | (simp only [World.drewN_drewN]; rfl)⟩⟩
              case measure => simp [intOf]; omega
        · obtain rfl : j = n := by omega
          rw [show belowTo l k j = findI l k by rw [← hln.out]; exact below_end, show thereTo l k j = fndB l k by rw [← hln.out]; exact there_end]
          have hlp := len_put l k v
          have hld := len_drop l k
          have hl := hln.out
          have hS : ∀ w', Below wr.heap.size wr w' → At w' w.heap.size #[.slice kA kN kC, .slice vA vN vC] 35 ∧ (∀ o, w'.cell? ⟨w.heap.size, o, none⟩ = #[.slice kA kN kC, .slice vA vN vC][o]?) ∧ (convert 23 9 (.slice kA kN kC)).run Try.prog w' = .ok (.string (strL k)) w' := fun w' hb =>
            ⟨At.keep hb k0, (At.keep hb k0).c, run_str kC w' ((hk.below hBr (Nat.le_refl _)).below hb hBr.size)⟩
          have hP : ∀ w', Below wr.heap.size wr w' → CsR w' 0 w'.heap.size A j l := fun w' hb => (h.below (below_keep hb hBr) (Nat.le_refl _)).widen (Nat.le_refl _) (below_keep hb hBr).size
          have hkP : ∀ w', Below wr.heap.size wr w' → BsR w' 0 w'.heap.size kA kN k := fun w' hb => (hk.below (below_keep hb hBr) (Nat.le_refl _)).more (below_keep hb hBr).size
          have hvP : ∀ w', Below wr.heap.size wr w' → BsR w' 0 w'.heap.size vA vN v := fun w' hb => (hv.below (below_keep hb hBr) (Nat.le_refl _)).more (below_keep hb hBr).size
          have c0 : Below wr.heap.size wr wr.drew := below_dr (Below.refl _ _)
          have q1 : j ≤ 4090 := by omega
          have q2 : j ≤ 4096 := by omega
          have q3 : (putL l k v).length ≤ 301 := by omega
          have q4 : (dropL l k).length ≤ 301 := by omega
          have hby := hk.2.1
          have hrd := rdrop_rs (k := k) hrs
          clear hlp hld hl
          go_upto_region 12 with (fail)
          go_region_held3 (fun w' => At w' w.heap.size #[.slice kA kN kC, .slice vA vN vC] 35 ∧ (∀ o, w'.cell? ⟨w.heap.size, o, none⟩ = #[.slice kA kN kC, .slice vA vN vC][o]?) ∧ (convert 23 9 (.slice kA kN kC)).run Try.prog w' = .ok (.string (strL k)) w')
            (first
              | (exact hS _ c0)
              | (exact hS _ c3)
              | (exact hS _ c4)
              | (exact hS _ c5)
              | (exact hS _ c6)
              | (exact hS _ c7)
              | (exact hS _ c8))
            (first
              | (go_at_call 25; refine (put_at c kC vC wr.drew (hP _ c0) hc (hkP _ c0) (hvP _ c0) m1 m2 q1 hrs rfl).mono ?_; rintro e w3 ⟨A3, c3', n3, hs3, rfl, ho3, hb3⟩; have c3 := below_tr c0 hb3)
              | (go_at_call 26; refine (rput_calls c kC vC w3 (hP _ c3) (hkP _ c3) (hvP _ c3) m1 m2 q2 hrs).mono ?_; rintro e w4 ⟨A4, c4', n4, hs4, rfl, ho4, hb4⟩; have c4 := below_keep hb4 c3)
              | (go_at_call 28; with_reducible refine (same_yes c3' c4' w4 (ho3.later hb4).arg (ho4.reads hb4.size) rfl q3).mono ?_; rintro e w5 ⟨rfl, hb5⟩; have c5 := below_keep hb5 c4)
              | (go_at_call 30; refine (drop_at c kC w5 (hP _ c5) hc (hkP _ c5) q1 hrs rfl).mono ?_; rintro e w6 ⟨A6, c6', n6, hs6, rfl, ho6, hb6⟩; have c6 := below_keep hb6 c5)
              | (go_at_call 31; refine (rdrop_calls c w6 (hP _ c6) hby q2).mono ?_; rintro e w7 ⟨A7, c7', n7, hs7, rfl, ho7, hb7⟩; have c7 := below_keep hb7 c6)
              | (go_at_call 28; with_reducible refine (same_yes c6' c7' w7 (ho6.later hb7).arg (ho7.reads hb7.size) hrd.symm q4).mono ?_; rintro e w8 ⟨rfl, hb8⟩; have c8 := below_keep hb8 c7)
              | fail)
          all_goals
            go_wp2
            go_ret
            exact ⟨by first | rfl | simp, below_keep c8 hBr⟩
    · have hn' : (300 : Int) < n := by omega
      go_wp2_with fail
      refine (pawake_calls _).mono ?_
      rintro e w3 ⟨rfl, hb3⟩
      go_wp2
      go_ret
      exact ⟨by first | rfl | simp, below_keep hb3 hB2⟩
end Go.Proofs.Ytjgomebnlekddaa
