/- PageEncodes: the walk of the law. -/
import Derived.Test.YtjgomebnlekddaaDecodesLaw
import Derived.Test.YtjgomebnlekddaaHeld
namespace Go.Proofs.Ytjgomebnlekddaa
set_option linter.unusedVariables false
set_option linter.unusedSimpArgs false
open Go.RowKit
theorem pform_ok {n : Nat} (k next : Int) (c : Nat) {A : Option Addr} {l : List Cl} (w : World) (h : CsR w 0 w.heap.size A n l) (hn : n ≤ 4096) (hb : PForm k next l) :
    Calls Try.prog 44 #[.agg #[.int .u8 k, .int .i64 next, .slice A n c]] w fun e w' => e = .returned (.bool true) ∧ Below w.heap.size w w' := pform_calls k next c true w h hn (iff_of_true rfl hb)
theorem pform_not {n : Nat} (k next : Int) (c : Nat) {A : Option Addr} {l : List Cl} (w : World) (h : CsR w 0 w.heap.size A n l) (hn : n ≤ 4096) (hb : ¬ PForm k next l) :
    Calls Try.prog 44 #[.agg #[.int .u8 k, .int .i64 next, .slice A n c]] w fun e w' => e = .returned (.bool false) ∧ Below w.heap.size w w' := pform_calls k next c false w h hn (by simp [hb])
theorem psize_at {n : Nat} (c : Nat) {A : Option Addr} {l : List Cl} (w : World) (s : Int) (h : CsR w 0 w.heap.size A n l) (hn : n ≤ 4096) (hs : sizeL l = s) :
    Calls Try.prog 45 #[.slice A n c] w fun e w' => e = .returned (.int .i64 s) ∧ Below w.heap.size w w' := hs ▸ psize_calls c w h (Nat.le_refl _) hn
theorem rsize_bel {n : Nat} (c : Nat) {A : Option Addr} {l : List Cl} (w : World) (s : Int) (h : CsR w 0 w.heap.size A n l) (hn : n ≤ 4096) (hs : sizeL l = s) :
    Calls Try.prog 41 #[.slice A n c] w fun e w' => e = .returned (.int .i64 s) ∧ Below w.heap.size w w' :=
  (rsize_at c w s h hs hn).mono fun e w' hx => ⟨hx.1, by obtain ⟨k, hk⟩ := hx.2; rw [hk]; exact below_drewN (Below.refl _ _) k⟩
set_option maxRecDepth 100000 in
set_option maxHeartbeats 4000000 in
theorem encodes_calls {kd next : Int} {n c : Nat} {A : Option Addr} {l : List Cl} (w : World) (h : CsR w 0 w.heap.size A n l) (k0' : 0 ≤ kd) :
    Calls Try.prog 12 #[.agg #[.int .u8 kd, .int .i64 next, .slice A n c]] w fun e w' => e = .returned (.bool true) ∧ Below w.heap.size w w' := by
  go_enter Try.func12, Try.ntmps12
  go_wp2_with fail
  have k0 := At.new w #[.int .u8 kd, .int .i64 next, .slice A n c] 54
  have hB := below_new w (.cells #[.int .u8 kd, .int .i64 next, .slice A n c] 54)
  generalize (w.alloc (.cells #[.int .u8 kd, .int .i64 next, .slice A n c] 54)) = w0 at *
  refine (pawake_calls _).mono ?_
  rintro e w1 ⟨rfl, hb1⟩
  have hB1 := below_keep hb1 hB
  replace k0 := k0.below hb1 k0.lt; have k0c := k0.c; have k0f := k0.f; have k0l := k0.lt
  clear hB hb1
  by_cases hn : n ≤ 600
  · have hn' : (n : Int) ≤ 600 := by omega
    have hn4 : n ≤ 4096 := by omega
    have hP : ∀ w', Below w1.heap.size w1 w' → CsR w' 0 w'.heap.size A n l := fun w' hb => (h.below (below_keep hb hB1) (Nat.le_refl _)).widen (Nat.le_refl _) (below_keep hb hB1).size
    have hS : ∀ w', Below w1.heap.size w1 w' → (∀ o, w'.cell? ⟨w.heap.size, o, none⟩ = #[.int .u8 kd, .int .i64 next, .slice A n c][o]?) := fun w' hb => (At.keep hb k0).c
    have c0 : Below w1.heap.size w1 w1.drew := below_dr (Below.refl _ _)
    obtain ⟨s, hs⟩ : ∃ s, sizeL l = s := ⟨_, rfl⟩
    have hs' := Lib.hid hs
    clear hs
    by_cases hp : PForm kd next l
    · have hp' := Lib.hid hp
      clear hp
      go_upto_region 3 with (fail)
      go_region_held3 (fun w' => (∀ o, w'.cell? ⟨w.heap.size, o, none⟩ = #[.int .u8 kd, .int .i64 next, .slice A n c][o]?))
        (first
          | (exact hS _ c0)
          | (exact hS _ c2)
          | (exact hS _ c3)
          | (exact hS _ c4)
          | (exact hS _ c5))
        (first
          | (go_at_call 44; with_reducible refine (pform_ok kd next c w1.drew (hP _ c0) hn4 hp'.out).mono ?_; rintro e w2 ⟨rfl, hb2⟩; have c2 := below_keep hb2 c0)
          | (go_at_call 40; with_reducible refine (rform_ok kd next c w2 (hP _ c2) hn4 hp'.out).mono ?_; rintro e w3 ⟨rfl, hb3⟩; have c3 := below_keep hb3 c2)
          | (go_at_call 45; with_reducible refine (psize_at c w3 s (hP _ c3) hn4 hs'.out).mono ?_; rintro e w4 ⟨rfl, hb4⟩; have c4 := below_keep hb4 c3)
          | (go_at_call 41; with_reducible refine (rsize_bel c w4 s (hP _ c4) hn4 hs'.out).mono ?_; rintro e w5 ⟨rfl, hb5⟩; have c5 := below_keep hb5 c4)
          | fail)
      have k5 := At.keep c5 k0
      have k5c := k5.c; have k5f := k5.f; have k5l := k5.lt
      go_wp2_with fail
      refine (penc_yes kd next c w5 (hP _ c5) k0' hp'.out).mono ?_
      rintro e w6 ⟨A2, c2', rfl, ho6, hb6⟩
      have c6 := below_keep hb6 c5
      replace k5 := k5.below hb6 k5.lt; have k5c := k5.c; have k5f := k5.f; have k5l := k5.lt
      go_wp2_with fail
      refine (rform_ok kd next c w6 (hP _ c6) hn4 hp'.out).mono ?_
      rintro e w7 ⟨rfl, hb7⟩
      have c7 := below_keep hb7 c6
      replace k5 := k5.below hb7 k5.lt; have k5c := k5.c; have k5f := k5.f; have k5l := k5.lt
      replace ho6 := ho6.later hb7
      have hde := Lib.hid (dec_enc hp'.out)
      go_wp2_with fail
      refine (pdec_calls w7 ho6.arg ho6.cap).mono ?_
      rw [hde.out]
      rintro e w8 ⟨hb8, A3, n3, k3, hs3, rfl, ho8⟩
      have c8 := below_keep hb8 c7
      replace k5 := k5.below hb8 k5.lt; have k5c := k5.c; have k5f := k5.f; have k5l := k5.lt
      replace ho6 := ho6.later hb8
      have hl : l.length ≤ 301 := by have := hp'.out.2.2.1; omega
      go_upto_region 9 with (fail)
      have kD := At.new w8 #[.int .u8 kd, .int .i64 next, .slice A3 n3 k3] 54
      have hD := At.keep (below_new w8 (.cells #[.int .u8 kd, .int .i64 next, .slice A3 n3 k3] 54)) k5
      have c9 := below_keep (below_new w8 (.cells #[.int .u8 kd, .int .i64 next, .slice A3 n3 k3] 54)) c8
      replace ho6 := ho6.alloc (.cells #[.int .u8 kd, .int .i64 next, .slice A3 n3 k3] 54)
      replace ho8 := ho8.alloc (.cells #[.int .u8 kd, .int .i64 next, .slice A3 n3 k3] 54)
      generalize (w8.alloc (.cells #[.int .u8 kd, .int .i64 next, .slice A3 n3 k3] 54)) = w9 at *
      clear k5 k5c k5f k5l
      generalize w8.heap.size = D at *
      have hF : ∀ w', Below w9.heap.size w9 w' → (∀ o, w'.cell? ⟨w.heap.size, o, none⟩ = #[.int .u8 kd, .int .i64 next, .slice A n c][o]?) ∧ (∀ o, w'.cell? ⟨D, o, none⟩ = #[.int .u8 kd, .int .i64 next, .slice A3 n3 k3][o]?) ∧ (convert 23 9 (.slice A2 504 c2')).run Try.prog w' = .ok (.string (strL (pageB kd next l))) w' := fun w' hb => ⟨(At.keep hb hD).c, (At.keep hb kD).c, run_str c2' w' (ho6.later hb).arg⟩
      have d0 : Below w9.heap.size w9 w9.drew := below_dr (Below.refl _ _)
      have f0 := hF _ d0
      have hF' := Lib.hid hF
      have hPd := hP _ (below_keep d0 c9)
      have hfin := Lib.hid (fun w' (hb : Below w9.heap.size w9 w') => below_keep (below_keep hb c9) hB1)
      have hcs := Lib.hid (fun w' (hb : Below w9.heap.size w9 w') => hP _ (below_keep hb c9))
      have hrs := Lib.hid (fun w' (hb : Below w9.heap.size w9 w') => (ho8.later hb).arg)
      clear hP hS h hB1 c0 c2 c3 c4 c5 c6 c7 c8 c9 hb2 hb3 hb4 hb5 hb6 hb7 hb8 ho6 ho8 kD hD hF hs' hde
      refine wp_region_held_drew (S := fun w' => (∀ o, w'.cell? ⟨w.heap.size, o, none⟩ = #[.int .u8 kd, .int .i64 next, .slice A n c][o]?) ∧ (∀ o, w'.cell? ⟨D, o, none⟩ = #[.int .u8 kd, .int .i64 next, .slice A3 n3 k3][o]?) ∧ (convert 23 9 (.slice A2 504 c2')).run Try.prog w' = .ok (.string (strL (pageB kd next l))) w') (by kernel_rfl) f0 (fun hHeld => ?_)
      (refine wpAnyH_takeL (i := 0) (v := ?_) rfl (by kernel_rfl) (by kernel_rfl) (by kernel_rfl) (fun _ _ _ h => h) (by rfl) hHeld ?_ ?_; rotate_left; (intro w hSw; (try dsimp only at hSw); go_simp; try with_reducible rfl); (try simp only [Act.put, List.setIfInBounds_toArray, List.set_cons_zero, List.set_cons_succ]))
      (refine wpAnyH_takeL (i := 1) (v := ?_) rfl (by kernel_rfl) (by kernel_rfl) (by kernel_rfl) (fun _ _ _ h => h) (by rfl) hHeld ?_ ?_; rotate_left; (intro w hSw; (try dsimp only at hSw); go_simp; try with_reducible rfl); (try simp only [Act.put, List.setIfInBounds_toArray, List.set_cons_zero, List.set_cons_succ]))
      (refine wpAnyH_takeL (i := 2) (v := ?_) rfl (by kernel_rfl) (by kernel_rfl) (by kernel_rfl) (fun _ _ _ h => h) (by rfl) hHeld ?_ ?_; rotate_left; (intro w hSw; (try dsimp only at hSw); go_simp; try with_reducible rfl); (try simp only [Act.put, List.setIfInBounds_toArray, List.set_cons_zero, List.set_cons_succ]))
      (refine wpAnyH_takeL (i := 3) (v := ?_) rfl (by kernel_rfl) (by kernel_rfl) (by kernel_rfl) (fun _ _ _ h => h) (by rfl) hHeld ?_ ?_; rotate_left; (intro w hSw; (try dsimp only at hSw); go_simp; try with_reducible rfl); (try simp only [Act.put, List.setIfInBounds_toArray, List.set_cons_zero, List.set_cons_succ]))
      (refine wpAnyH_takeL (i := 4) (v := ?_) rfl (by kernel_rfl) (by kernel_rfl) (by kernel_rfl) (fun _ _ _ h => h) (by rfl) hHeld ?_ ?_; rotate_left; (intro w hSw; (try dsimp only at hSw); go_simp; try with_reducible rfl); (try simp only [Act.put, List.setIfInBounds_toArray, List.set_cons_zero, List.set_cons_succ]))
      (refine wpAnyH_takeL (i := 5) (v := ?_) rfl (by kernel_rfl) (by kernel_rfl) (by kernel_rfl) (fun _ _ _ h => h) (by rfl) hHeld ?_ ?_; rotate_left; (intro w hSw; (try dsimp only at hSw); go_simp; try with_reducible rfl); (try simp only [Act.put, List.setIfInBounds_toArray, List.set_cons_zero, List.set_cons_succ]))
      (refine wpAnyH_callL (i := 6) rfl (by kernel_rfl) (by rfl) (fun K hK => ?_); go_simp)
      go_at_call 48
      refine (renc_yes kd next c w9.drew hPd k0' hp'.out).mono ?_
      rintro e wA ⟨A4, c4', rfl, ho4, hb4⟩
      have d4 := below_keep hb4 d0
      have f4 := hF'.out _ d4
      clear hHeld
      refine hK.out _ _ f4 (fun hHeld => ?_)
      (clear hK K; (try simp only [Act.put, List.setIfInBounds_toArray, List.set_cons_zero, List.set_cons_succ]))
      refine wpAnyH_mono (S' := fun w' => (∀ o, w'.cell? ⟨w.heap.size, o, none⟩ = #[.int .u8 kd, .int .i64 next, .slice A n c][o]?) ∧ (∀ o, w'.cell? ⟨D, o, none⟩ = #[.int .u8 kd, .int .i64 next, .slice A3 n3 k3][o]?) ∧ (convert 23 9 (.slice A2 504 c2')).run Try.prog w' = .ok (.string (strL (pageB kd next l))) w' ∧ (convert 23 9 (.slice A4 504 c4')).run Try.prog w' = .ok (.string (strL (pageB kd next l))) w') (fun w' h => ⟨h.1, h.2.1, h.2.2.1⟩) _ _ _ _ ?_
      replace hHeld := And.intro f4.1 (And.intro f4.2.1 (And.intro f4.2.2 (run_str c4' wA ho4.reads)))
      (refine wpAnyH_takeL (i := 7) (v := ?_) rfl (by kernel_rfl) (by kernel_rfl) (by kernel_rfl) (fun _ _ _ h => h) (by rfl) hHeld ?_ ?_; rotate_left; (intro w hSw; (try dsimp only at hSw); go_simp; try with_reducible rfl); (try simp only [Act.put, List.setIfInBounds_toArray, List.set_cons_zero, List.set_cons_succ]))
      (refine wpAnyH_takeL (i := 8) (v := ?_) rfl (by kernel_rfl) (by kernel_rfl) (by kernel_rfl) (fun _ _ _ h => h) (by rfl) hHeld ?_ ?_; rotate_left; (intro w hSw; (try dsimp only at hSw); go_simp; try with_reducible rfl); (try simp only [Act.put, List.setIfInBounds_toArray, List.set_cons_zero, List.set_cons_succ]))
      (refine wpAnyH_takeL (i := 9) (v := ?_) rfl (by kernel_rfl) (by kernel_rfl) (by kernel_rfl) (fun _ _ _ h => h) (by rfl) hHeld ?_ ?_; rotate_left; (intro w hSw; (try dsimp only at hSw); go_simp; try with_reducible rfl); (try simp only [Act.put, List.setIfInBounds_toArray, List.set_cons_zero, List.set_cons_succ]))
      (refine wpAnyH_takeL (i := 10) (v := ?_) rfl (by kernel_rfl) (by kernel_rfl) (by kernel_rfl) (fun _ _ _ h => h) (by rfl) hHeld ?_ ?_; rotate_left; (intro w hSw; (try dsimp only at hSw); go_simp; try with_reducible rfl); (try simp only [Act.put, List.setIfInBounds_toArray, List.set_cons_zero, List.set_cons_succ]))
      (refine wpAnyH_takeL (i := 11) (v := ?_) rfl (by kernel_rfl) (by kernel_rfl) (by kernel_rfl) (fun _ _ _ h => h) (by rfl) hHeld ?_ ?_; rotate_left; (intro w hSw; (try dsimp only at hSw); go_simp; try with_reducible rfl); (try simp only [Act.put, List.setIfInBounds_toArray, List.set_cons_zero, List.set_cons_succ]))
      (refine wpAnyH_takeL (i := 12) (v := ?_) rfl (by kernel_rfl) (by kernel_rfl) (by kernel_rfl) (fun _ _ _ h => h) (by rfl) hHeld ?_ ?_; rotate_left; (intro w hSw; (try dsimp only at hSw); go_simp; try with_reducible rfl); (try simp only [Act.put, List.setIfInBounds_toArray, List.set_cons_zero, List.set_cons_succ]))
      (refine wpAnyH_takeL (i := 13) (v := ?_) rfl (by kernel_rfl) (by kernel_rfl) (by kernel_rfl) (fun _ _ _ h => h) (by rfl) hHeld ?_ ?_; rotate_left; (intro w hSw; (try dsimp only at hSw); go_simp; try with_reducible rfl); (try simp only [Act.put, List.setIfInBounds_toArray, List.set_cons_zero, List.set_cons_succ]))
      (refine wpAnyH_takeL (i := 14) (v := ?_) rfl (by kernel_rfl) (by kernel_rfl) (by kernel_rfl) (fun _ _ _ h => h) (by rfl) hHeld ?_ ?_; rotate_left; (intro w hSw; (try dsimp only at hSw); go_simp; try with_reducible rfl); (try simp only [Act.put, List.setIfInBounds_toArray, List.set_cons_zero, List.set_cons_succ]))
      (refine wpAnyH_takeL (i := 15) (v := ?_) rfl (by kernel_rfl) (by kernel_rfl) (by kernel_rfl) (fun _ _ _ h => h) (by rfl) hHeld ?_ ?_; rotate_left; (intro w hSw; (try dsimp only at hSw); go_simp; try with_reducible rfl); (try simp only [Act.put, List.setIfInBounds_toArray, List.set_cons_zero, List.set_cons_succ]))
      (refine wpAnyH_takeL (i := 16) (v := ?_) rfl (by kernel_rfl) (by kernel_rfl) (by kernel_rfl) (fun _ _ _ h => h) (by rfl) hHeld ?_ ?_; rotate_left; (intro w hSw; (try dsimp only at hSw); go_simp; try with_reducible rfl); (try simp only [Act.put, List.setIfInBounds_toArray, List.set_cons_zero, List.set_cons_succ]))
      (refine wpAnyH_takeL (i := 17) (v := ?_) rfl (by kernel_rfl) (by kernel_rfl) (by kernel_rfl) (fun _ _ _ h => h) (by rfl) hHeld ?_ ?_; rotate_left; (intro w hSw; (try dsimp only at hSw); go_simp; try with_reducible rfl); (try simp only [Act.put, List.setIfInBounds_toArray, List.set_cons_zero, List.set_cons_succ]))
      (refine wpAnyH_takeL (i := 18) (v := ?_) rfl (by kernel_rfl) (by kernel_rfl) (by kernel_rfl) (fun _ _ _ h => h) (by rfl) hHeld ?_ ?_; rotate_left; (intro w hSw; (try dsimp only at hSw); go_simp; try with_reducible rfl); (try simp only [Act.put, List.setIfInBounds_toArray, List.set_cons_zero, List.set_cons_succ]))
      (refine wpAnyH_takeL (i := 19) (v := ?_) rfl (by kernel_rfl) (by kernel_rfl) (by kernel_rfl) (fun _ _ _ h => h) (by rfl) hHeld ?_ ?_; rotate_left; (intro w hSw; (try dsimp only at hSw); go_simp; try with_reducible rfl); (try simp only [Act.put, List.setIfInBounds_toArray, List.set_cons_zero, List.set_cons_succ]))
      (refine wpAnyH_takeL (i := 20) (v := ?_) rfl (by kernel_rfl) (by kernel_rfl) (by kernel_rfl) (fun _ _ _ h => h) (by rfl) hHeld ?_ ?_; rotate_left; (intro w hSw; (try dsimp only at hSw); go_simp; try with_reducible rfl); (try simp only [Act.put, List.setIfInBounds_toArray, List.set_cons_zero, List.set_cons_succ]))
      (refine wpAnyH_takeL (i := 21) (v := ?_) rfl (by kernel_rfl) (by kernel_rfl) (by kernel_rfl) (fun _ _ _ h => h) (by rfl) hHeld ?_ ?_; rotate_left; (intro w hSw; (try dsimp only at hSw); go_simp; try with_reducible rfl); (try simp only [Act.put, List.setIfInBounds_toArray, List.set_cons_zero, List.set_cons_succ]))
      (refine wpAnyH_takeL (i := 22) (v := ?_) rfl (by kernel_rfl) (by kernel_rfl) (by kernel_rfl) (fun _ _ _ h => h) (by rfl) hHeld ?_ ?_; rotate_left; (intro w hSw; (try dsimp only at hSw); go_simp; try with_reducible rfl); (try simp only [Act.put, List.setIfInBounds_toArray, List.set_cons_zero, List.set_cons_succ]))
      (refine wpAnyH_takeL (i := 23) (v := ?_) rfl (by kernel_rfl) (by kernel_rfl) (by kernel_rfl) (fun _ _ _ h => h) (by rfl) hHeld ?_ ?_; rotate_left; (intro w hSw; (try dsimp only at hSw); go_simp; try with_reducible rfl); (try simp only [Act.put, List.setIfInBounds_toArray, List.set_cons_zero, List.set_cons_succ]))
      (refine wpAnyH_takeL (i := 24) (v := ?_) rfl (by kernel_rfl) (by kernel_rfl) (by kernel_rfl) (fun _ _ _ h => h) (by rfl) hHeld ?_ ?_; rotate_left; (intro w hSw; (try dsimp only at hSw); go_simp; try with_reducible rfl); (try simp only [Act.put, List.setIfInBounds_toArray, List.set_cons_zero, List.set_cons_succ]))
      (refine wpAnyH_takeL (i := 25) (v := ?_) rfl (by kernel_rfl) (by kernel_rfl) (by kernel_rfl) (fun _ _ _ h => h) (by rfl) hHeld ?_ ?_; rotate_left; (intro w hSw; (try dsimp only at hSw); go_simp; try with_reducible rfl); (try simp only [Act.put, List.setIfInBounds_toArray, List.set_cons_zero, List.set_cons_succ]))
      (refine wpAnyH_takeL (i := 26) (v := ?_) rfl (by kernel_rfl) (by kernel_rfl) (by kernel_rfl) (fun _ _ _ h => h) (by rfl) hHeld ?_ ?_; rotate_left; (intro w hSw; (try dsimp only at hSw); go_simp; try with_reducible rfl); (try simp only [Act.put, List.setIfInBounds_toArray, List.set_cons_zero, List.set_cons_succ]))
      (refine wpAnyH_takeL (i := 27) (v := ?_) rfl (by kernel_rfl) (by kernel_rfl) (by kernel_rfl) (fun _ _ _ h => h) (by rfl) hHeld ?_ ?_; rotate_left; (intro w hSw; (try dsimp only at hSw); go_simp; try with_reducible rfl); (try simp only [Act.put, List.setIfInBounds_toArray, List.set_cons_zero, List.set_cons_succ]))
      (refine wpAnyH_takeL (i := 28) (v := ?_) rfl (by kernel_rfl) (by kernel_rfl) (by kernel_rfl) (fun _ _ _ h => h) (by rfl) hHeld ?_ ?_; rotate_left; (intro w hSw; (try dsimp only at hSw); go_simp; try with_reducible rfl); (try simp only [Act.put, List.setIfInBounds_toArray, List.set_cons_zero, List.set_cons_succ]))
      (refine wpAnyH_takeL (i := 29) (v := ?_) rfl (by kernel_rfl) (by kernel_rfl) (by kernel_rfl) (fun _ _ _ h => h) (by rfl) hHeld ?_ ?_; rotate_left; (intro w hSw; (try dsimp only at hSw); go_simp; try with_reducible rfl); (try simp only [Act.put, List.setIfInBounds_toArray, List.set_cons_zero, List.set_cons_succ]))
      (refine wpAnyH_takeL (i := 30) (v := ?_) rfl (by kernel_rfl) (by kernel_rfl) (by kernel_rfl) (fun _ _ _ h => h) (by rfl) hHeld ?_ ?_; rotate_left; (intro w hSw; (try dsimp only at hSw); go_simp; try with_reducible rfl); (try simp only [Act.put, List.setIfInBounds_toArray, List.set_cons_zero, List.set_cons_succ]))
      (refine wpAnyH_takeL (i := 31) (v := ?_) rfl (by kernel_rfl) (by kernel_rfl) (by kernel_rfl) (fun _ _ _ h => h) (by rfl) hHeld ?_ ?_; rotate_left; (intro w hSw; (try dsimp only at hSw); go_simp; try with_reducible rfl); (try simp only [Act.put, List.setIfInBounds_toArray, List.set_cons_zero, List.set_cons_succ]))
      (refine wpAnyH_takeL (i := 32) (v := ?_) rfl (by kernel_rfl) (by kernel_rfl) (by kernel_rfl) (fun _ _ _ h => h) (by rfl) hHeld ?_ ?_; rotate_left; (intro w hSw; (try dsimp only at hSw); go_simp; try with_reducible rfl); (try simp only [Act.put, List.setIfInBounds_toArray, List.set_cons_zero, List.set_cons_succ]))
      (refine wpAnyH_callL (i := 33) rfl (by kernel_rfl) (by rfl) (fun K hK => ?_); go_simp)
      go_at_call 28
      refine (same_yes k3 c wA (hrs.out _ d4) (hcs.out _ d4) rfl hl).mono ?_
      rintro e wB ⟨rfl, hb5⟩
      have d5 := below_keep hb5 d4
      have f5 := hF'.out _ d5
      refine hK.out _ _ ⟨f5.1, f5.2.1, f5.2.2, run_str c4' wB (ho4.later hb5).reads⟩ (fun hHeld => ?_)
      (clear hK K; (try simp only [Act.put, List.setIfInBounds_toArray, List.set_cons_zero, List.set_cons_succ]))
      (refine wpAnyH_takeL (i := 34) (v := ?_) rfl (by kernel_rfl) (by kernel_rfl) (by kernel_rfl) (fun _ _ _ h => h) (by rfl) hHeld ?_ ?_; rotate_left; (intro w hSw; (try dsimp only at hSw); go_simp; try with_reducible rfl); (try simp only [Act.put, List.setIfInBounds_toArray, List.set_cons_zero, List.set_cons_succ]))
      (refine wpAnyH_takeL (i := 35) (v := ?_) rfl (by kernel_rfl) (by kernel_rfl) (by kernel_rfl) (fun _ _ _ h => h) (by rfl) hHeld ?_ ?_; rotate_left; (intro w hSw; (try dsimp only at hSw); go_simp; try with_reducible rfl); (try simp only [Act.put, List.setIfInBounds_toArray, List.set_cons_zero, List.set_cons_succ]))
      (refine wpAnyH_done (by kernel_rfl) ?_ _)
      go_wp2
      go_ret
      exact ⟨by first | rfl | simp, hfin.out _ d5⟩
    · have hp' := Lib.hid hp
      clear hp
      go_upto_region 3 with (fail)
      go_region_held3 (fun w' => (∀ o, w'.cell? ⟨w.heap.size, o, none⟩ = #[.int .u8 kd, .int .i64 next, .slice A n c][o]?))
        (first
          | (exact hS _ c0)
          | (exact hS _ c2)
          | (exact hS _ c3)
          | (exact hS _ c4)
          | (exact hS _ c5))
        (first
          | (go_at_call 44; with_reducible refine (pform_not kd next c w1.drew (hP _ c0) hn4 hp'.out).mono ?_; rintro e w2 ⟨rfl, hb2⟩; have c2 := below_keep hb2 c0)
          | (go_at_call 40; with_reducible refine (rform_not kd next c w2 (hP _ c2) hn4 hp'.out).mono ?_; rintro e w3 ⟨rfl, hb3⟩; have c3 := below_keep hb3 c2)
          | (go_at_call 45; with_reducible refine (psize_at c w3 s (hP _ c3) hn4 hs'.out).mono ?_; rintro e w4 ⟨rfl, hb4⟩; have c4 := below_keep hb4 c3)
          | (go_at_call 41; with_reducible refine (rsize_bel c w4 s (hP _ c4) hn4 hs'.out).mono ?_; rintro e w5 ⟨rfl, hb5⟩; have c5 := below_keep hb5 c4)
          | fail)
      have k5 := At.keep c5 k0
      have k5c := k5.c; have k5f := k5.f; have k5l := k5.lt
      go_wp2_with fail
      refine (penc_no kd next c w5 (hP _ c5) hn4 hp'.out).mono ?_
      rintro e w6 ⟨rfl, hb6⟩
      have c6 := below_keep hb6 c5
      replace k5 := k5.below hb6 k5.lt; have k5c := k5.c; have k5f := k5.f; have k5l := k5.lt
      go_wp2_with fail
      refine (rform_not kd next c w6 (hP _ c6) hn4 hp'.out).mono ?_
      rintro e w7 ⟨rfl, hb7⟩
      go_wp2
      go_ret
      exact ⟨by first | rfl | simp, below_keep (below_keep hb7 c6) hB1⟩
  · have hn' : (600 : Int) < n := by omega
    go_wp2_with fail
    refine (pawake_calls _).mono ?_
    rintro e w2 ⟨rfl, hb2⟩
    go_wp2
    go_ret
    exact ⟨by first | rfl | simp, below_keep hb2 hB1⟩
end Go.Proofs.Ytjgomebnlekddaa
