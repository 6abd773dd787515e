/- The reference's Decode of a record by its contract: Update. -/
import Derived.Test.YtjgomebnlekddaaRfDec
namespace Go.Proofs.Ytjgomebnlekddaa
set_option linter.unusedVariables false
set_option linter.unusedSimpArgs false
open Go.RowKit
theorem BsR.back {w w' : World} {B n : Nat} {A : Option Addr} {l : List Int} (h : BsR w' 0 B A n l) (hb : Below B w w') : BsR w 0 B A n l :=
  ⟨h.1, h.2.1, h.2.2.keep fun b o _ hlt => (hb.cell (p := ⟨b, o, none⟩) hlt).symm⟩
theorem rcut_at {hi m c : Nat} {A : Option Addr} {l X : List Int} (z zn : Int) (i n : Nat) (w : World) (h : BsR w 0 hi A m l) (hz : z = (i : Int)) (hzn : zn = (n : Int)) (h0 : 0 < m) (hmc : m ≤ c) (hi4 : i ≤ 1125899906842624) (hn4 : n ≤ 1125899906842624) (hm : m ≤ 140737488355328) (hX : cutL l i n = X) :
    Calls Try.prog 81 #[.slice A m c, .int .i64 z, .int .i64 zn] w (CutPost w hi X) := by
  subst hz hzn hX
  exact rcut_calls i n w h h0 hmc hi4 hn4 hm
theorem cut_len (l : List Int) (i n : Nat) : (cutL l i n).length ≤ n := by unfold cutL; rw [List.length_take]; omega
set_option maxRecDepth 100000 in
set_option maxHeartbeats 40000000 in
theorem rdc_2 {n c : Nat} {A : Option Addr} {l : List Int} (w : World) (h : BsR w 0 w.heap.size A n l) (h5 : 5 ≤ n) (hc : n ≤ c) (hn : n ≤ 140737488355328) {ss K T : Int} (hs : atN l (n - 4) 4 = ss) (hss : sumL (l.take (n - 4)) = ss) (hK : l.getD 0 0 = K) (hT : atN l 1 8 = T) {P G O : Int} {m : Nat} {X Y : List Int} (hP : atN l 9 8 = P) (hG : atN l 17 2 = G) (hO : atN l 19 2 = O) (hN : atN l 21 2 = (m : Int)) (hX : cutL l 23 m = X) (hY : cutL l (23 + m) m = Y) (h2 : K = 2) (f : Bool) (hf : formR ⟨2, T, P, G, O, 0, X, Y, [], false⟩ = f) :
    Calls Try.prog 62 #[.slice A n c] w (DecPostC (finC ⟨2, T, P, G, O, 0, X, Y, [], false⟩ l f) w) := by
  subst h2
  have hfx := Lib.hid (show formB 2 P G O 0 X.length Y.length 0 false (dirtyOk (-1) []) = f from hf)
  have hTr : 0 ≤ T ∧ T < 18446744073709551616 := by rw [← hT]; exact atN_r8 h.2.1 1
  have hPr : 0 ≤ P ∧ P < 18446744073709551616 := by rw [← hP]; exact atN_r8 h.2.1 9
  have hGr : 0 ≤ G ∧ G < 65536 := by rw [← hG]; exact atN_r2 h.2.1 17
  have hOr : 0 ≤ O ∧ O < 65536 := by rw [← hO]; exact atN_r2 h.2.1 19
  have hNr : 0 ≤ (m : Int) ∧ (m : Int) < 65536 := by rw [← hN]; exact atN_r2 h.2.1 21
  have hXl : X.length ≤ m := by rw [← hX]; exact cut_len _ _ _
  have hYl : Y.length ≤ m := by rw [← hY]; exact cut_len _ _ _
  have hPx := Lib.hid hP
  have hGx := Lib.hid hG
  have hOx := Lib.hid hO
  have hNx := Lib.hid hN
  have hXx := Lib.hid hX
  have hYx := Lib.hid hY
  have hXYl := Lib.hid (And.intro hXl hYl)
  clear hf hP hG hO hN hX hY hXl hYl
  obtain ⟨K, hKe⟩ : ∃ K : Int, K = 2 := ⟨_, rfl⟩
  rw [← hKe] at hK
  have hKx := Lib.hid hKe
  clear hKe
  have hby := Lib.hid h.2.1
  obtain ⟨gb, go', rfl, -, g2, hcl⟩ := h.2.2 (by omega)
  have hx0 := hcl 0 (by omega)
  simp only [bsF, Nat.add_zero] at hx0
  rw [hK] at hx0
  have hKr := hby.out.getD 0
  rw [hK] at hKr
  clear hcl hK
  have i1 : ¬ (n : Int) < 5 := by omega
  have i2 : (5 : Int) ≤ n := by omega
  have i3 : (n : Int) ≤ c := by omega
  have i4 : (n : Int) ≤ 140737488355328 := by omega
  have i5 : (4 : Int) ≤ n := by omega
  have i6 : (n : Int) - 4 ≤ c := by omega
  have i7 : 0 < n := by omega
  have i8 : ((n : Int) - 4).toNat = n - 4 := by omega
  have i9 : (ss != ss) = false := by simp
  have hb1 := below_new w (.cells #[.int .u8 0, .int .u64 0, .int .u64 0, .int .i64 0, .int .i64 0, .slice none 0 0, .slice none 0 0, .int .u64 0, .slice none 0 0, .bool false] 26)
  have k0 := At.new w #[.int .u8 0, .int .u64 0, .int .u64 0, .int .i64 0, .int .i64 0, .slice none 0 0, .slice none 0 0, .int .u64 0, .slice none 0 0, .bool false] 26
  have hp0 := Lib.hid h
  have hsr : 0 ≤ ss ∧ ss < 4294967296 := by rw [← hss]; exact sumL_range _
  have hsw : IntKind.u64.wrap ss = ss := IntWalk.u64_in _ (by omega)
  have hsx := Lib.hid hs
  have hssx := Lib.hid hss
  have hTx := Lib.hid hT
  clear h hs hss hT
  go_enter Try.func62, Try.ntmps62
  go_upto_region 4 with (fail)
  have hb2 := below_dr hb1
  have hx2 := (hb2.cell (p := ⟨gb, go', none⟩) g2).trans hx0
  have k2 := k0.drew
  clear k0 hx0
  generalize (w.alloc (.cells #[.int .u8 0, .int .u64 0, .int .u64 0, .int .i64 0, .int .i64 0, .slice none 0 0, .slice none 0 0, .int .u64 0, .slice none 0 0, .bool false] 26)) = w1 at *
  have hp1 : BsR w1.drew 0 w1.drew.heap.size (some ⟨gb, go', none⟩) n l := (hp0.out.below hb2 (Nat.le_refl _)).more hb2.size
  have hp2 : BsR w1.drew 0 w1.drew.heap.size (some ⟨gb, go', none⟩) (n - 4) (l.take (n - 4)) := sub_read0 hp1 (by omega)
  go_region_held3 (fun w' => w' = w1.drew)
    (first
      | (exact rfl))
    (first
      | (go_at_call 80; with_reducible refine (rat_at ((n : Int) - 4) 4 (n - 4) 4 w1.drew hp1 (by omega) rfl (by omega) (by omega) (by omega) hsx.out).mono ?_; rintro e w' ⟨rfl, rfl⟩)
      | (go_at_call 79; with_reducible refine (rsum_at w1.drew hp2 (by omega) hssx.out).mono ?_; rintro e w' ⟨rfl, rfl⟩)
      | fail)
  go_upto_region 6 with (fail)
  have hx3 : w1.drew.drew.cell? ⟨gb, go', none⟩ = some (.int .u8 K) := hx2
  have hbz : Below w.heap.size w (w1.alloc (.cells #[.int .u8 0, .int .u64 0, .int .u64 0, .int .i64 0, .int .i64 0, .slice none 0 0, .slice none 0 0, .int .u64 0, .slice none 0 0, .bool false] 26)).drew.drew := below_dr (below_dr (hb1.alloc hb1.size _))
  have hx4 : (w1.alloc (.cells #[.int .u8 0, .int .u64 0, .int .u64 0, .int .i64 0, .int .i64 0, .slice none 0 0, .slice none 0 0, .int .u64 0, .slice none 0 0, .bool false] 26)).drew.drew.cell? ⟨gb, go', none⟩ = some (.int .u8 K) := ((below_dr (below_dr (below_new w1 (.cells #[.int .u8 0, .int .u64 0, .int .u64 0, .int .i64 0, .int .i64 0, .slice none 0 0, .slice none 0 0, .int .u64 0, .slice none 0 0, .bool false] 26)))).cell (p := ⟨gb, go', none⟩) (Nat.lt_of_lt_of_le g2 hb1.size)).trans hx2
  have hp3 : BsR w1.drew.drew 0 w1.drew.heap.size (some ⟨gb, go', none⟩) n l := hp1
  have hp4 : BsR (w1.alloc (.cells #[.int .u8 0, .int .u64 0, .int .u64 0, .int .i64 0, .int .i64 0, .slice none 0 0, .slice none 0 0, .int .u64 0, .slice none 0 0, .bool false] 26)).drew.drew 0 w.heap.size (some ⟨gb, go', none⟩) n l := hp0.out.below hbz (Nat.le_refl _)
  apply dedupe
  · intro hK
    go_region_law
      (first
        | (go_simp; go_at_call 80; with_reducible refine (rat_at 1 8 1 8 w1.drew.drew hp3 rfl rfl (by omega) (by omega) (by omega) hTx.out).mono ?_; rintro e w' ⟨rfl, rfl⟩)
        | (go_simp; go_at_call 80; with_reducible refine (rat_at 1 8 1 8 (w1.alloc (.cells #[.int .u8 0, .int .u64 0, .int .u64 0, .int .i64 0, .int .i64 0, .slice none 0 0, .slice none 0 0, .int .u64 0, .slice none 0 0, .bool false] 26)).drew.drew hp4 rfl rfl (by omega) (by omega) (by omega) hTx.out).mono ?_; rintro e w' ⟨rfl, rfl⟩))
    all_goals exact hK.out
  have hS5 : DrS w (w1.alloc (.cells #[.int .u8 K, .int .u64 T, .int .u64 0, .int .i64 0, .int .i64 0, .slice none 0 0, .slice none 0 0, .int .u64 0, .slice none 0 0, .bool false] 26)).drew.drew w1.heap.size w.heap.size #[.int .u8 K, .int .u64 T, .int .u64 0, .int .i64 0, .int .i64 0, .slice none 0 0, .slice none 0 0, .int .u64 0, .slice none 0 0, .bool false] :=
    ⟨(At.new w1 _ _).drew.drew, (k2.alloc _).drew, below_dr (below_dr (hb1.alloc hb1.size _)), hb1.size, Nat.le_refl _, fun e => by have h9 : w.heap.size < w1.heap.size := k2.lt; omega⟩
  clear hb1 hb2 hbz hx2 hx3 hx4 hp1 hp2 hp3 hp4 k2 hsw i9 i8
  generalize (w1.alloc (.cells #[.int .u8 K, .int .u64 T, .int .u64 0, .int .i64 0, .int .i64 0, .slice none 0 0, .slice none 0 0, .int .u64 0, .slice none 0 0, .bool false] 26)).drew.drew = w5 at *
  generalize w1.heap.size = ρ at *
  obtain ⟨σ, hσe⟩ : ∃ σ, σ = w.heap.size := ⟨_, rfl⟩
  rw [← hσe] at hS5 ⊢
  have hSx := hS5
  rw [hσe] at hSx
  have hσ := Nat.le_of_eq hσe.symm
  have hS5 : DrS w w5 ρ σ #[.int .u8 K, .int .u64 T, .int .u64 0, .int .i64 0, .int .i64 0, .slice none 0 0, .slice none 0 0, .int .u64 0, .slice none 0 0, .bool false] := by rw [hσe]; exact hSx
  clear hσe hSx
  have kr := hS5.rec_
  have krc := kr.c; have krf := kr.f; have krl := kr.lt
  rw [hKx.out] at hS5 kr krc
  go_wp2_with fail
  refine (rat_at 9 8 9 8 w5 (hp0.out.below hS5.bel (Nat.le_refl _)) (by first | rfl | omega) rfl (by omega) (by omega) (by omega) hPx.out).mono ?_
  rintro e w' ⟨rfl, rfl⟩
  go_upto_region 9 with (fail)
  have hS6 := hS5.set 2 (.int .u64 P)
  simp only [List.setIfInBounds_toArray, List.set_cons_zero, List.set_cons_succ] at hS6
  clear hS5 kr krc krf krl
  generalize (World.setCell w5 ⟨ρ, 2, none⟩ (.int .u64 P)) = w6 at *
  have kr := hS6.rec_
  have krc := kr.c; have krf := kr.f; have krl := kr.lt
  go_wp2_with fail
  refine (rat_at 17 2 17 2 w6 (hp0.out.below hS6.bel (Nat.le_refl _)) (by first | rfl | omega) rfl (by omega) (by omega) (by omega) hGx.out).mono ?_
  rintro e w' ⟨rfl, rfl⟩
  go_upto_region 11 with (fail)
  have hS7 := hS6.set 3 (.int .i64 G)
  simp only [List.setIfInBounds_toArray, List.set_cons_zero, List.set_cons_succ] at hS7
  clear hS6 kr krc krf krl
  generalize (World.setCell w6 ⟨ρ, 3, none⟩ (.int .i64 G)) = w7 at *
  have kr := hS7.rec_
  have krc := kr.c; have krf := kr.f; have krl := kr.lt
  go_wp2_with fail
  refine (rat_at 19 2 19 2 w7 (hp0.out.below hS7.bel (Nat.le_refl _)) (by first | rfl | omega) rfl (by omega) (by omega) (by omega) hOx.out).mono ?_
  rintro e w' ⟨rfl, rfl⟩
  go_upto_region 12 with (fail)
  have hS8 := hS7.set 4 (.int .i64 O)
  simp only [List.setIfInBounds_toArray, List.set_cons_zero, List.set_cons_succ] at hS8
  clear hS7 kr krc krf krl
  generalize (World.setCell w7 ⟨ρ, 4, none⟩ (.int .i64 O)) = w8 at *
  have kr := hS8.rec_
  have krc := kr.c; have krf := kr.f; have krl := kr.lt
  go_wp2_with fail
  refine (rat_at 21 2 21 2 w8 (hp0.out.below hS8.bel (Nat.le_refl _)) (by first | rfl | omega) rfl (by omega) (by omega) (by omega) hNx.out).mono ?_
  rintro e w' ⟨rfl, rfl⟩
  go_wp2_with fail
  refine (rcut_at 23 m 23 m w8 (hp0.out.below hS8.bel (Nat.le_refl _)) rfl rfl (by omega) (by omega) (by omega) (by omega) (by omega) hXx.out).mono ?_
  rintro e w' ⟨BX, kX, cX, rfl, hbX, rfl⟩
  have hX0 := hbX.back hS8.bel
  have hkX := hbX.1
  subst hkX
  clear hbX
  go_upto_region 16 with (fail)
  have hS9 := hS8.set 5 (.slice BX X.length cX)
  simp only [List.setIfInBounds_toArray, List.set_cons_zero, List.set_cons_succ] at hS9
  clear hS8 kr krc krf krl
  generalize (World.setCell w8 ⟨ρ, 5, none⟩ (.slice BX X.length cX)) = w9 at *
  have kr := hS9.rec_
  have krc := kr.c; have krf := kr.f; have krl := kr.lt
  go_wp2_with fail
  refine (rcut_at (23 + (m : Int)) m (23 + m) m w9 (hp0.out.below hS9.bel (Nat.le_refl _)) (by omega) rfl (by omega) (by omega) (by omega) (by omega) (by omega) hYx.out).mono ?_
  rintro e w' ⟨BY, kY, cY, rfl, hbY, rfl⟩
  have hY0 := hbY.back hS9.bel
  have hkY := hbY.1
  subst hkY
  clear hbY
  go_upto_region 26 with (fail)
  have hSa := hS9.set 6 (.slice BY Y.length cY)
  simp only [List.setIfInBounds_toArray, List.set_cons_zero, List.set_cons_succ] at hSa
  clear hS9 kr krc krf krl
  generalize (World.setCell w9 ⟨ρ, 6, none⟩ (.slice BY Y.length cY)) = wa at *
  have kr := hSa.rec_
  have krc := kr.c; have krf := kr.f; have krl := kr.lt
  have hXs := (hX0.below hSa.bel (Nat.le_refl _)).more hSa.bel.size
  have hYs := (hY0.below hSa.bel (Nat.le_refl _)).more hSa.bel.size
  have hI : RecIn wa 2 T P G O 0 BX BY none X.length cX Y.length cY 0 0 false X Y [] :=
    ⟨by omega, by omega, hTr.1, hTr.2, hPr.1, hPr.2, by omega, by omega, hXs, hYs, ⟨rfl, Rd.nil _ _ _ _ _⟩, by have := hXYl.out; omega, by have := hXYl.out; omega, by omega, fun _ h => nomatch h⟩
  have hX0x := Lib.hid hX0
  have hY0x := Lib.hid hY0
  clear hXs hYs hX0 hY0
  have hIx := Lib.hid hI
  clear hI
  have d0 : Below wa.heap.size wa wa.drew := below_dr (Below.refl _ _)
  cases f
  · have hz := Lib.hid (show finC ⟨2, T, P, G, O, 0, X, Y, [], false⟩ l false = (zeroR, 3) from if_neg (fun h => by cases h.1))
    have f0 := (hSa.later d0).rec_.c
    refine wp_region_held_drew (S := fun w' => (∀ o, w'.cell? ⟨ρ, o, none⟩ = #[.int .u8 2, .int .u64 T, .int .u64 P, .int .i64 G, .int .i64 O, .slice BX X.length cX, .slice BY Y.length cY, .int .u64 0, .slice none 0 0, .bool false][o]?)) (by kernel_rfl) f0 (fun hHeld => ?_)
    (refine wpAnyH_takeL (i := 0) (v := ?_) rfl (by kernel_rfl) (by kernel_rfl) (by kernel_rfl) (fun _ _ _ h => h) (by rfl) hHeld ?_ ?_; rotate_left; (focus (intro w hSw; (try dsimp only at hSw); go_simp; (try with_reducible rfl); done)); (try simp only [Act.put, List.setIfInBounds_toArray, List.set_cons_zero, List.set_cons_succ]))
    (refine wpAnyH_callL (i := 1) rfl (by kernel_rfl) (by rfl) (fun K hK => ?_); go_simp)
    go_at_call 22
    refine (rform_at (hIx.out.later d0) false hfx.out).mono ?_
    rintro e w3 ⟨rfl, hb3⟩
    have f1 := ((hSa.later d0).later hb3).rec_.c
    clear hHeld
    refine hK.out _ _ f1 (fun hHeld => ?_)
    (clear hK K; (try simp only [Act.put, List.setIfInBounds_toArray, List.set_cons_zero, List.set_cons_succ]))
    (refine wpAnyH_takeL (i := 2) (v := ?_) rfl (by kernel_rfl) (by kernel_rfl) (by kernel_rfl) (fun _ _ _ h => h) (by rfl) hHeld ?_ ?_; rotate_left; (focus (intro w hSw; (try dsimp only at hSw); go_simp; (try with_reducible rfl); done)); (try simp only [Act.put, List.setIfInBounds_toArray, List.set_cons_zero, List.set_cons_succ]))
    (refine wpAnyH_takeL (i := 3) (v := ?_) rfl (by kernel_rfl) (by kernel_rfl) (by kernel_rfl) (fun _ _ _ h => h) (by rfl) hHeld ?_ ?_; rotate_left; (focus (intro w hSw; (try dsimp only at hSw); go_simp; (try with_reducible rfl); done)); (try simp only [Act.put, List.setIfInBounds_toArray, List.set_cons_zero, List.set_cons_succ]))
    (refine wpAnyH_skipL (i := 4) rfl (by kernel_rfl) (by kernel_rfl) (by kernel_rfl) (fun _ _ _ h => h) (by rfl) hHeld ?_; (try simp only [Act.put, List.setIfInBounds_toArray, List.set_cons_zero, List.set_cons_succ]))
    (refine wpAnyH_skipL (i := 7) rfl (by kernel_rfl) (by kernel_rfl) (by kernel_rfl) (fun _ _ _ h => h) (by rfl) hHeld ?_; (try simp only [Act.put, List.setIfInBounds_toArray, List.set_cons_zero, List.set_cons_succ]))
    (refine wpAnyH_skipL (i := 8) rfl (by kernel_rfl) (by kernel_rfl) (by kernel_rfl) (fun _ _ _ h => h) (by rfl) hHeld ?_; (try simp only [Act.put, List.setIfInBounds_toArray, List.set_cons_zero, List.set_cons_succ]))
    (refine wpAnyH_callSkipL (i := 5) rfl (by kernel_rfl) (by rfl) hHeld ?_; (try simp only [Act.put, List.setIfInBounds_toArray, List.set_cons_zero, List.set_cons_succ]))
    (refine wpAnyH_skipL (i := 6) rfl (by kernel_rfl) (by kernel_rfl) (by kernel_rfl) (fun _ _ _ h => h) (by rfl) hHeld ?_; (try simp only [Act.put, List.setIfInBounds_toArray, List.set_cons_zero, List.set_cons_succ]))
    (refine wpAnyH_skipL (i := 9) rfl (by kernel_rfl) (by kernel_rfl) (by kernel_rfl) (fun _ _ _ h => h) (by rfl) hHeld ?_; (try simp only [Act.put, List.setIfInBounds_toArray, List.set_cons_zero, List.set_cons_succ]))
    (refine wpAnyH_takeL (i := 10) (v := ?_) rfl (by kernel_rfl) (by kernel_rfl) (by kernel_rfl) (fun _ _ _ h => h) (by rfl) hHeld ?_ ?_; rotate_left; (focus (intro w hSw; (try dsimp only at hSw); go_simp; (try with_reducible rfl); done)); (try simp only [Act.put, List.setIfInBounds_toArray, List.set_cons_zero, List.set_cons_succ]))
    (refine wpAnyH_done (by kernel_rfl) ?_ _)
    have hSz := (hSa.later d0).later hb3
    clear f0 f1 hHeld hSa kr krc krf krl hb3 d0
    have ks := hSz.res
    have hBz := hSz.bel
    have ksc := ks.c; have ksf := ks.f; have ksl := ks.lt
    go_wp2
    have ht := ks.ten (.int .u8 0) (.int .u64 0) (.int .u64 0) (.int .i64 0) (.int .i64 0) (.slice none 0 0) (.slice none 0 0) (.int .u64 0) (.slice none 0 0) (.bool false)
    have hB2 := hBz.trans (ht.2.below hBz.size (fun i hi => by subst hi; exact hσ))
    have kz := ht.1.c
    clear ht ks ksc ksf ksl
    generalize World.setCell _ _ _ = wz at *
    refine bodyPost_ret (v := .tuple #[.agg zCells, .int .i64 3]) (by simp [results, Try.results62, go_sem, zCells, kz]) rfl ?_
    exact ⟨hB2, .inr ⟨by rw [hz.out]; decide, by rw [hz.out]⟩⟩
  · have hse : ((strL (encR ⟨2, T, P, G, O, 0, X, Y, [], false⟩)).toList == (strL l).toList) = eqB (encR ⟨2, T, P, G, O, 0, X, Y, [], false⟩) l := str_eq (hIx.out.encB hfx.out) hby.out
    have hcp := fun w' (hb : Below w.heap.size w w') => run_str c w' (hp0.out.below hb (Nat.le_refl _))
    have hcp' := Lib.hid hcp
    have f0 := And.intro (hSa.later d0).rec_.c (hcp _ (hSa.later d0).bel)
    clear hcp
    refine wp_region_held_drew (S := fun w' => (∀ o, w'.cell? ⟨ρ, o, none⟩ = #[.int .u8 2, .int .u64 T, .int .u64 P, .int .i64 G, .int .i64 O, .slice BX X.length cX, .slice BY Y.length cY, .int .u64 0, .slice none 0 0, .bool false][o]?) ∧ (convert 23 9 (.slice (some ⟨gb, go', none⟩) n c)).run Try.prog w' = .ok (.string (strL l)) w') (by kernel_rfl) f0 (fun hHeld => ?_)
    (refine wpAnyH_takeL (i := 0) (v := ?_) rfl (by kernel_rfl) (by kernel_rfl) (by kernel_rfl) (fun _ _ _ h => h) (by rfl) hHeld ?_ ?_; rotate_left; (focus (intro w hSw; (try dsimp only at hSw); go_simp; (try with_reducible rfl); done)); (try simp only [Act.put, List.setIfInBounds_toArray, List.set_cons_zero, List.set_cons_succ]))
    (refine wpAnyH_callL (i := 1) rfl (by kernel_rfl) (by rfl) (fun K hK => ?_); go_simp)
    go_at_call 22
    refine (rform_at (hIx.out.later d0) true hfx.out).mono ?_
    rintro e w3 ⟨rfl, hb3⟩
    have hS3 := (hSa.later d0).later hb3
    have f1 := And.intro hS3.rec_.c (hcp'.out _ hS3.bel)
    clear hHeld
    refine hK.out _ _ f1 (fun hHeld => ?_)
    (clear hK K; (try simp only [Act.put, List.setIfInBounds_toArray, List.set_cons_zero, List.set_cons_succ]))
    (refine wpAnyH_takeL (i := 2) (v := ?_) rfl (by kernel_rfl) (by kernel_rfl) (by kernel_rfl) (fun _ _ _ h => h) (by rfl) hHeld ?_ ?_; rotate_left; (focus (intro w hSw; (try dsimp only at hSw); go_simp; (try with_reducible rfl); done)); (try simp only [Act.put, List.setIfInBounds_toArray, List.set_cons_zero, List.set_cons_succ]))
    (refine wpAnyH_takeL (i := 3) (v := ?_) rfl (by kernel_rfl) (by kernel_rfl) (by kernel_rfl) (fun _ _ _ h => h) (by rfl) hHeld ?_ ?_; rotate_left; (focus (intro w hSw; (try dsimp only at hSw); go_simp; (try with_reducible rfl); done)); (try simp only [Act.put, List.setIfInBounds_toArray, List.set_cons_zero, List.set_cons_succ]))
    (refine wpAnyH_takeL (i := 4) (v := ?_) rfl (by kernel_rfl) (by kernel_rfl) (by kernel_rfl) (fun _ _ _ h => h) (by rfl) hHeld ?_ ?_; rotate_left; (focus (intro w hSw; (try dsimp only at hSw); go_simp; (try with_reducible rfl); done)); (try simp only [Act.put, List.setIfInBounds_toArray, List.set_cons_zero, List.set_cons_succ]))
    (refine wpAnyH_takeL (i := 7) (v := ?_) rfl (by kernel_rfl) (by kernel_rfl) (by kernel_rfl) (fun _ _ _ h => h) (by rfl) hHeld ?_ ?_; rotate_left; (focus (intro w hSw; (try dsimp only at hSw); go_simp; (try with_reducible rfl); done)); (try simp only [Act.put, List.setIfInBounds_toArray, List.set_cons_zero, List.set_cons_succ]))
    (refine wpAnyH_takeL (i := 8) (v := ?_) rfl (by kernel_rfl) (by kernel_rfl) (by kernel_rfl) (fun _ _ _ h => h) (by rfl) hHeld ?_ ?_; rotate_left; (focus (intro w hSw; (try dsimp only at hSw); go_simp; (try with_reducible rfl); done)); (try simp only [Act.put, List.setIfInBounds_toArray, List.set_cons_zero, List.set_cons_succ]))
    (refine wpAnyH_callL (i := 5) rfl (by kernel_rfl) (by rfl) (fun K hK => ?_); go_simp)
    go_at_call 60
    refine (renc_rec ((hIx.out.later d0).later hb3) hfx.out).mono ?_
    rintro e w4 ⟨A9, c9, n9, rfl, ho9, hb9⟩
    have hS4 := hS3.later hb9
    have f2 := And.intro hS4.rec_.c (hcp'.out _ hS4.bel)
    clear hHeld
    refine hK.out _ _ f2 (fun hHeld => ?_)
    (clear hK K; (try simp only [Act.put, List.setIfInBounds_toArray, List.set_cons_zero, List.set_cons_succ]))
    refine wpAnyH_mono (S' := fun w' => (∀ o, w'.cell? ⟨ρ, o, none⟩ = #[.int .u8 2, .int .u64 T, .int .u64 P, .int .i64 G, .int .i64 O, .slice BX X.length cX, .slice BY Y.length cY, .int .u64 0, .slice none 0 0, .bool false][o]?) ∧ (convert 23 9 (.slice (some ⟨gb, go', none⟩) n c)).run Try.prog w' = .ok (.string (strL l)) w' ∧ (convert 23 9 (.slice A9 n9 c9)).run Try.prog w' = .ok (.string (strL (encR ⟨2, T, P, G, O, 0, X, Y, [], false⟩))) w') (fun w' h => ⟨h.1, h.2.1⟩) _ _ _ _ ?_
    replace hHeld := And.intro f2.1 (And.intro f2.2 (run_str c9 w4 ho9.reads))
    clear f0 f1 f2
    (refine wpAnyH_takeL (i := 6) (v := ?_) rfl (by kernel_rfl) (by kernel_rfl) (by kernel_rfl) (fun _ _ _ h => h) (by rfl) hHeld ?_ ?_; rotate_left; (focus (intro w hSw; (try dsimp only at hSw); go_simp; (try with_reducible rfl); done)); (try simp only [Act.put, List.setIfInBounds_toArray, List.set_cons_zero, List.set_cons_succ]))
    (refine wpAnyH_takeL (i := 9) (v := ?_) rfl (by kernel_rfl) (by kernel_rfl) (by kernel_rfl) (fun _ _ _ h => h) (by rfl) hHeld ?_ ?_; rotate_left; (focus (intro w hSw; (try dsimp only at hSw); go_simp; (try with_reducible rfl); done)); (try simp only [Act.put, List.setIfInBounds_toArray, List.set_cons_zero, List.set_cons_succ]))
    (refine wpAnyH_takeL (i := 10) (v := ?_) rfl (by kernel_rfl) (by kernel_rfl) (by kernel_rfl) (fun _ _ _ h => h) (by rfl) hHeld ?_ ?_; rotate_left; (focus (intro w hSw; (try dsimp only at hSw); go_simp; (try with_reducible rfl); done)); (try simp only [Act.put, List.setIfInBounds_toArray, List.set_cons_zero, List.set_cons_succ]))
    (refine wpAnyH_done (by kernel_rfl) ?_ _)
    have hSz := hS4
    have hBd : Below wa.heap.size wa w4 := below_keep hb9 (below_keep hb3 d0)
    clear hS3 hS4 hSa kr krc krf krl hb3 d0 hb9 ho9 hHeld
    by_cases heq : encR ⟨2, T, P, G, O, 0, X, Y, [], false⟩ = l
    · have hz := Lib.hid (show finC ⟨2, T, P, G, O, 0, X, Y, [], false⟩ l true = (⟨2, T, P, G, O, 0, X, Y, [], false⟩, 0) from if_pos ⟨rfl, heq⟩)
      have hcond : eqB (encR ⟨2, T, P, G, O, 0, X, Y, [], false⟩) l = true := decide_eq_true heq
      rw [hcond]
      have heqx := Lib.hid heq
      clear heq hcond hse
      have ks := hSz.res
      have kr := hSz.rec_
      have hBz := hSz.bel
      have ksc := ks.c; have ksf := ks.f; have ksl := ks.lt
      have krc := kr.c; have krf := kr.f; have krl := kr.lt
      go_wp2
      have ht := ks.ten (.int .u8 2) (.int .u64 T) (.int .u64 P) (.int .i64 G) (.int .i64 O) (.slice BX X.length cX) (.slice BY Y.length cY) (.int .u64 0) (.slice none 0 0) (.bool false)
      have hB2 := hBz.trans (ht.2.below hBz.size (fun i hi => by subst hi; exact hσ))
      have kz := ht.1.c
      have hmz := ht.2
      clear ht ks ksc ksf ksl kr krc krf krl
      generalize World.setCell _ _ _ = wz at *
      refine bodyPost_ret (v := .tuple #[.agg #[.int .u8 2, .int .u64 T, .int .u64 P, .int .i64 G, .int .i64 O, .slice BX X.length cX, .slice BY Y.length cY, .int .u64 0, .slice none 0 0, .bool false], .int .i64 0]) (by simp [results, Try.results62, go_sem, kz]) rfl ?_
      refine ⟨hB2, .inl ⟨by rw [hz.out], ?_⟩⟩
      rw [hz.out]
      refine ⟨_, rfl, ?_⟩
      exact ⟨BX, BY, none, cX, cY, 0, rfl, (hX0x.out.below hB2 (Nat.le_refl _)).more hB2.size, (hY0x.out.below hB2 (Nat.le_refl _)).more hB2.size, rfl, Rd.nil _ _ _ _ _⟩
    · have hz := Lib.hid (show finC ⟨2, T, P, G, O, 0, X, Y, [], false⟩ l true = (zeroR, 3) from if_neg (fun h => heq h.2))
      have hcond : eqB (encR ⟨2, T, P, G, O, 0, X, Y, [], false⟩) l = false := decide_eq_false heq
      rw [hcond]
      clear heq hcond hBd hse
      have ks := hSz.res
      have hBz := hSz.bel
      have ksc := ks.c; have ksf := ks.f; have ksl := ks.lt
      go_wp2
      have ht := ks.ten (.int .u8 0) (.int .u64 0) (.int .u64 0) (.int .i64 0) (.int .i64 0) (.slice none 0 0) (.slice none 0 0) (.int .u64 0) (.slice none 0 0) (.bool false)
      have hB2 := hBz.trans (ht.2.below hBz.size (fun i hi => by subst hi; exact hσ))
      have kz := ht.1.c
      clear ht ks ksc ksf ksl
      generalize World.setCell _ _ _ = wz at *
      refine bodyPost_ret (v := .tuple #[.agg zCells, .int .i64 3]) (by simp [results, Try.results62, go_sem, zCells, kz]) rfl ?_
      exact ⟨hB2, .inr ⟨by rw [hz.out]; decide, by rw [hz.out]⟩⟩
end Go.Proofs.Ytjgomebnlekddaa
