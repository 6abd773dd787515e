/- The reference's Decode of a record by its contract: Check. -/
import Derived.Test.YtjgomebnlekddaaRfDec2
import Derived.Test.YtjgomebnlekddaaDiskT
namespace Go.Proofs.Ytjgomebnlekddaa
set_option linter.unusedVariables false
set_option linter.unusedSimpArgs false
open Go.RowKit
theorem cDl_succ (l : List Int) (j : Nat) : cDl l (j + 1) = cDl l j ++ [(atN l (18 + 10 * j) 2, atN l (20 + 10 * j) 8)] := by
  unfold cDl
  rw [List.range_succ, List.map_append, List.map_singleton]
theorem cDl_len (l : List Int) (j : Nat) : (cDl l j).length = j := by simp [cDl]
set_option maxHeartbeats 80000000
set_option maxRecDepth 100000 in
set_option maxHeartbeats 40000000 in
theorem rdc_6 {n c : Nat} {A : Option Addr} {l : List Int} (w : World) (h : BsR w 0 w.heap.size A n l) (h5 : 5 ≤ n) (hc : n ≤ c) (hn : n ≤ 140737488355328) {ss K T : Int} (hs : atN l (n - 4) 4 = ss) (hss : sumL (l.take (n - 4)) = ss) (hK : l.getD 0 0 = K) (hT : atN l 1 8 = T) {P M : Int} {cnt : Nat} {ob : Bool} {D : List (Int × Int)} (hP : atN l 9 8 = P) (hM : atN l 17 1 = M) (hMc : M / 2 = cnt) (hMo : decide (M % 2 = 1) = ob) (hD : cDl l cnt = D) (h2 : K = 6) (f : Bool) (hf : formR ⟨6, T, P, 0, 0, 0, [], [], D, ob⟩ = f) :
    Calls Try.prog 62 #[.slice A n c] w (DecPostC (finC ⟨6, T, P, 0, 0, 0, [], [], D, ob⟩ l f) w) := by
  subst h2
  have hTr : 0 ≤ T ∧ T < 18446744073709551616 := by rw [← hT]; exact atN_r8 h.2.1 1
  have hPr : 0 ≤ P ∧ P < 18446744073709551616 := by rw [← hP]; exact atN_r8 h.2.1 9
  have hMr : 0 ≤ M ∧ M ≤ 255 := by rw [← hM]; exact atN_r1 h.2.1 17
  have lD : D.length = cnt := by rw [← hD]; exact cDl_len _ _
  have hDr : ∀ x ∈ D, 0 ≤ x.2 ∧ x.2 < 18446744073709551616 := fun x hx => by
    rw [← hD] at hx
    obtain ⟨j, _, rfl⟩ := List.mem_map.1 hx
    exact atN_r8 h.2.1 _
  have hfx := Lib.hid (show formB 6 P 0 0 0 0 0 cnt ob (dirtyOk (-1) D) = f from by rw [← lD]; exact hf)
  have hc128 : cnt ≤ 127 := by omega
  have hPx := Lib.hid hP
  have hMx := Lib.hid hM
  have hMcx := Lib.hid hMc
  have hMox := Lib.hid hMo
  have hDx := Lib.hid hD
  have hlDx := Lib.hid lD
  have hDrx := Lib.hid hDr
  clear hf hP hM hMc hMo hD lD hDr
  obtain ⟨K, hKe⟩ : ∃ K : Int, K = 6 := ⟨_, rfl⟩
  rw [← hKe] at hK
  have hKx := Lib.hid hKe
  clear hKe
  have hby := Lib.hid h.2.1
  obtain ⟨gb, go', rfl, -, g2, hcl⟩ := h.2.2 (by omega)
  have hx0 := hcl 0 (by omega)
  simp only [bsF, Nat.add_zero] at hx0
  rw [hK] at hx0
  have hKr := hby.out.getD 0
  rw [hK] at hKr
  clear hcl hK
  have i1 : ¬ (n : Int) < 5 := by omega
  have i2 : (5 : Int) ≤ n := by omega
  have i3 : (n : Int) ≤ c := by omega
  have i4 : (n : Int) ≤ 140737488355328 := by omega
  have i5 : (4 : Int) ≤ n := by omega
  have i6 : (n : Int) - 4 ≤ c := by omega
  have i7 : 0 < n := by omega
  have i8 : ((n : Int) - 4).toNat = n - 4 := by omega
  have i9 : (ss != ss) = false := by simp
  have hb1 := below_new w (.cells #[.int .u8 0, .int .u64 0, .int .u64 0, .int .i64 0, .int .i64 0, .slice none 0 0, .slice none 0 0, .int .u64 0, .slice none 0 0, .bool false] 26)
  have k0 := At.new w #[.int .u8 0, .int .u64 0, .int .u64 0, .int .i64 0, .int .i64 0, .slice none 0 0, .slice none 0 0, .int .u64 0, .slice none 0 0, .bool false] 26
  have hp0 := Lib.hid h
  have hsr : 0 ≤ ss ∧ ss < 4294967296 := by rw [← hss]; exact sumL_range _
  have hsw : IntKind.u64.wrap ss = ss := IntWalk.u64_in _ (by omega)
  have hsx := Lib.hid hs
  have hssx := Lib.hid hss
  have hTx := Lib.hid hT
  clear h hs hss hT
  go_enter Try.func62, Try.ntmps62
  go_upto_region 4 with (fail)
  have hb2 := below_dr hb1
  have hx2 := (hb2.cell (p := ⟨gb, go', none⟩) g2).trans hx0
  have k2 := k0.drew
  clear k0 hx0
  generalize (w.alloc (.cells #[.int .u8 0, .int .u64 0, .int .u64 0, .int .i64 0, .int .i64 0, .slice none 0 0, .slice none 0 0, .int .u64 0, .slice none 0 0, .bool false] 26)) = w1 at *
  have hp1 : BsR w1.drew 0 w1.drew.heap.size (some ⟨gb, go', none⟩) n l := (hp0.out.below hb2 (Nat.le_refl _)).more hb2.size
  have hp2 : BsR w1.drew 0 w1.drew.heap.size (some ⟨gb, go', none⟩) (n - 4) (l.take (n - 4)) := sub_read0 hp1 (by omega)
  go_region_held3 (fun w' => w' = w1.drew)
    (first
      | (exact rfl))
    (first
      | (go_at_call 80; with_reducible refine (rat_at ((n : Int) - 4) 4 (n - 4) 4 w1.drew hp1 (by omega) rfl (by omega) (by omega) (by omega) hsx.out).mono ?_; rintro e w' ⟨rfl, rfl⟩)
      | (go_at_call 79; with_reducible refine (rsum_at w1.drew hp2 (by omega) hssx.out).mono ?_; rintro e w' ⟨rfl, rfl⟩)
      | fail)
  go_upto_region 6 with (fail)
  have hx3 : w1.drew.drew.cell? ⟨gb, go', none⟩ = some (.int .u8 K) := hx2
  have hbz : Below w.heap.size w (w1.alloc (.cells #[.int .u8 0, .int .u64 0, .int .u64 0, .int .i64 0, .int .i64 0, .slice none 0 0, .slice none 0 0, .int .u64 0, .slice none 0 0, .bool false] 26)).drew.drew := below_dr (below_dr (hb1.alloc hb1.size _))
  have hx4 : (w1.alloc (.cells #[.int .u8 0, .int .u64 0, .int .u64 0, .int .i64 0, .int .i64 0, .slice none 0 0, .slice none 0 0, .int .u64 0, .slice none 0 0, .bool false] 26)).drew.drew.cell? ⟨gb, go', none⟩ = some (.int .u8 K) := ((below_dr (below_dr (below_new w1 (.cells #[.int .u8 0, .int .u64 0, .int .u64 0, .int .i64 0, .int .i64 0, .slice none 0 0, .slice none 0 0, .int .u64 0, .slice none 0 0, .bool false] 26)))).cell (p := ⟨gb, go', none⟩) (Nat.lt_of_lt_of_le g2 hb1.size)).trans hx2
  have hp3 : BsR w1.drew.drew 0 w1.drew.heap.size (some ⟨gb, go', none⟩) n l := hp1
  have hp4 : BsR (w1.alloc (.cells #[.int .u8 0, .int .u64 0, .int .u64 0, .int .i64 0, .int .i64 0, .slice none 0 0, .slice none 0 0, .int .u64 0, .slice none 0 0, .bool false] 26)).drew.drew 0 w.heap.size (some ⟨gb, go', none⟩) n l := hp0.out.below hbz (Nat.le_refl _)
  apply dedupe
  · intro hK
    go_region_law
      (first
        | (go_simp; go_at_call 80; with_reducible refine (rat_at 1 8 1 8 w1.drew.drew hp3 rfl rfl (by omega) (by omega) (by omega) hTx.out).mono ?_; rintro e w' ⟨rfl, rfl⟩)
        | (go_simp; go_at_call 80; with_reducible refine (rat_at 1 8 1 8 (w1.alloc (.cells #[.int .u8 0, .int .u64 0, .int .u64 0, .int .i64 0, .int .i64 0, .slice none 0 0, .slice none 0 0, .int .u64 0, .slice none 0 0, .bool false] 26)).drew.drew hp4 rfl rfl (by omega) (by omega) (by omega) hTx.out).mono ?_; rintro e w' ⟨rfl, rfl⟩))
    all_goals exact hK.out
  have hS5 : DrS w (w1.alloc (.cells #[.int .u8 K, .int .u64 T, .int .u64 0, .int .i64 0, .int .i64 0, .slice none 0 0, .slice none 0 0, .int .u64 0, .slice none 0 0, .bool false] 26)).drew.drew w1.heap.size w.heap.size #[.int .u8 K, .int .u64 T, .int .u64 0, .int .i64 0, .int .i64 0, .slice none 0 0, .slice none 0 0, .int .u64 0, .slice none 0 0, .bool false] :=
    ⟨(At.new w1 _ _).drew.drew, (k2.alloc _).drew, below_dr (below_dr (hb1.alloc hb1.size _)), hb1.size, Nat.le_refl _, fun e => by have h9 : w.heap.size < w1.heap.size := k2.lt; omega⟩
  clear hb1 hb2 hbz hx2 hx3 hx4 hp1 hp2 hp3 hp4 k2 hsw i9 i8
  generalize (w1.alloc (.cells #[.int .u8 K, .int .u64 T, .int .u64 0, .int .i64 0, .int .i64 0, .slice none 0 0, .slice none 0 0, .int .u64 0, .slice none 0 0, .bool false] 26)).drew.drew = w5 at *
  generalize w1.heap.size = ρ at *
  obtain ⟨σ, hσe⟩ : ∃ σ, σ = w.heap.size := ⟨_, rfl⟩
  rw [← hσe] at hS5 ⊢
  have hSx := hS5
  rw [hσe] at hSx
  have hσ := Nat.le_of_eq hσe.symm
  have hS5 : DrS w w5 ρ σ #[.int .u8 K, .int .u64 T, .int .u64 0, .int .i64 0, .int .i64 0, .slice none 0 0, .slice none 0 0, .int .u64 0, .slice none 0 0, .bool false] := by rw [hσe]; exact hSx
  clear hσe hSx
  have kr := hS5.rec_
  have krc := kr.c; have krf := kr.f; have krl := kr.lt
  rw [hKx.out] at hS5 kr krc
  go_wp2_with fail
  refine (rat_at 9 8 9 8 w5 (hp0.out.below hS5.bel (Nat.le_refl _)) (by first | rfl | omega) rfl (by omega) (by omega) (by omega) hPx.out).mono ?_
  rintro e w' ⟨rfl, rfl⟩
  go_upto_region 9 with (fail)
  have hS6 := hS5.set 2 (.int .u64 P)
  simp only [List.setIfInBounds_toArray, List.set_cons_zero, List.set_cons_succ] at hS6
  clear hS5 kr krc krf krl
  generalize (World.setCell w5 ⟨ρ, 2, none⟩ (.int .u64 P)) = w6 at *
  have kr := hS6.rec_
  have krc := kr.c; have krf := kr.f; have krl := kr.lt
  go_wp2_with fail
  refine (rat_at 17 1 17 1 w6 (hp0.out.below hS6.bel (Nat.le_refl _)) (by first | rfl | omega) rfl (by omega) (by omega) (by omega) hMx.out).mono ?_
  rintro e w' ⟨rfl, rfl⟩
  have m2 : (M % 2 == 1) = ob := hMox.out
  have m3 : M.tmod 2 = M % 2 := Int.tmod_eq_emod_of_nonneg hMr.1
  have m4 : M.tdiv 2 = M / 2 := Int.tdiv_eq_ediv_of_nonneg hMr.1
  go_upto_region 22 with (fail)
  have hS7 := hS6.set 9 (.bool ob)
  simp only [List.setIfInBounds_toArray, List.set_cons_zero, List.set_cons_succ] at hS7
  clear hS6 kr krc krf krl m2 m3
  generalize (World.setCell w6 ⟨ρ, 9, none⟩ (.bool ob)) = wb at *
  have hMc2 := hMcx.out
  rw [hMc2] at m4
  go_upto_region 23 with (fail)
  have sb : ρ < wb.heap.size ∧ σ < wb.heap.size := ⟨hS7.rec_.lt, hS7.res.lt⟩
  have lb := hS7.bel.size
  have hr0 := World.ownsRow_nil wb wb.heap.size 94 2
  go_loopw [9] (fun v9 wr => ∃ (j : Nat) (dA : Option Addr) (dC : Nat), j ≤ cnt ∧ v9 = .int .i64 j ∧ DrS w wr ρ σ #[.int .u8 6, .int .u64 T, .int .u64 P, .int .i64 0, .int .i64 0, .slice none 0 0, .slice none 0 0, .int .u64 0, .slice dA j dC, .bool ob] ∧ wr.ownsRow wb.heap.size 94 2 (.slice dA j dC) j ((cDl l j).flatMap drV) ∧ wb.heap.size ≤ wr.heap.size) (fun v9 _ => 128 - (intOf v9).toNat)
  case atStart => exact ⟨0, none, 0, Nat.zero_le _, rfl, hS7, hr0, Nat.le_refl _⟩
  case round =>
    clear hS7 hr0
    obtain ⟨j, dA, dC, hj, rfl, hS, hrow, hsz⟩ := hrel
    obtain ⟨wA, hwA⟩ : ∃ wA, wA = wr := ⟨_, rfl⟩
    subst hwA
    by_cases hlt : j < cnt
    · have hstep := cDl_succ l j
      obtain ⟨G, hG⟩ : ∃ G, atN l (18 + 10 * j) 2 = G := ⟨_, rfl⟩
      obtain ⟨U, hU⟩ : ∃ U, atN l (20 + 10 * j) 8 = U := ⟨_, rfl⟩
      have hGr : 0 ≤ G ∧ G < 65536 := by rw [← hG]; exact atN_r2 hby.out _
      rw [hG, hU] at hstep
      have hGx := Lib.hid hG
      have hUx := Lib.hid hU
      have hst := Lib.hid hstep
      generalize cDl l j = L at *
      clear hG hU hstep
      have j1 : (j : Int) < cnt := by omega
      have j2 : (j : Int) < 128 := by omega
      have z1 : IntKind.i64.wrap (10 * (j : Int)) = 10 * (j : Int) := IntWalk.i64_in _ (by omega)
      have z2 : IntKind.i64.wrap (18 + 10 * (j : Int)) = 18 + 10 * (j : Int) := IntWalk.i64_in _ (by omega)
      have z3 : IntKind.i64.wrap (20 + 10 * (j : Int)) = 20 + 10 * (j : Int) := IntWalk.i64_in _ (by omega)
      have z4 : IntKind.i64.wrap G = G := IntWalk.i64_in _ (by omega)
      have d0 : Below wA.heap.size wA wA.drew := below_dr (Below.refl _ _)
      have hSd := hS.later d0
      have hrd := owns_aft hrow d0
      have hszd : wb.heap.size ≤ wA.drew.heap.size := hsz
      have hpA := hp0.out.below hSd.bel (Nat.le_refl _)
      have kdc := hSd.rec_.c
      have kdb : ∀ i, (wA.alloc (.cells #[.int .i64 G, .int .u64 U] 94)).cell? ⟨ρ, i, none⟩ = _ := (hS.later (below_new wA (.cells #[.int .i64 G, .int .u64 U] 94))).rec_.c
      have kda := (hSd.later (below_new wA.drew (.cells #[.int .i64 G, .int .u64 U] 94))).rec_.c
      have q1 : j + 1 ≤ maxLen := by unfold maxLen; omega
      have q2 : (j + 1) * 16 ≤ 140737488355328 := by omega
      clear hS hrow d0
      go_upto_region 25 with (fail)
      refine wp_region_held_drew (S := fun _ => True) (by kernel_rfl) trivial (fun hHeld => ?_)
      (refine wpAnyH_takeL (i := 0) (v := ?_) rfl (by kernel_rfl) (by kernel_rfl) (by kernel_rfl) (fun _ _ _ h => h) (by rfl) hHeld ?_ ?_; rotate_left; (focus (intro w hSw; (try dsimp only at hSw); go_simp; (try with_reducible rfl); done)); (try simp only [Act.put, List.setIfInBounds_toArray, List.set_cons_zero, List.set_cons_succ]))
      (refine wpAnyH_takeL (i := 2) (v := ?_) rfl (by kernel_rfl) (by kernel_rfl) (by kernel_rfl) (fun _ _ _ h => h) (by rfl) hHeld ?_ ?_; rotate_left; (focus (intro w hSw; (try dsimp only at hSw); go_simp; (try with_reducible rfl); done)); (try simp only [Act.put, List.setIfInBounds_toArray, List.set_cons_zero, List.set_cons_succ]))
      (refine wpAnyH_takeL (i := 3) (v := ?_) rfl (by kernel_rfl) (by kernel_rfl) (by kernel_rfl) (fun _ _ _ h => h) (by rfl) hHeld ?_ ?_; rotate_left; (focus (intro w hSw; (try dsimp only at hSw); go_simp; (try with_reducible rfl); done)); (try simp only [Act.put, List.setIfInBounds_toArray, List.set_cons_zero, List.set_cons_succ]))
      (refine wpAnyH_takeL (i := 4) (v := ?_) rfl (by kernel_rfl) (by kernel_rfl) (by kernel_rfl) (fun _ _ _ h => h) (by rfl) hHeld ?_ ?_; rotate_left; (focus (intro w hSw; (try dsimp only at hSw); go_simp; (try with_reducible rfl); done)); (try simp only [Act.put, List.setIfInBounds_toArray, List.set_cons_zero, List.set_cons_succ]))
      (refine wpAnyH_takeL (i := 5) (v := ?_) rfl (by kernel_rfl) (by kernel_rfl) (by kernel_rfl) (fun _ _ _ h => h) (by rfl) hHeld ?_ ?_; rotate_left; (focus (intro w hSw; (try dsimp only at hSw); go_simp; (try with_reducible rfl); done)); (try simp only [Act.put, List.setIfInBounds_toArray, List.set_cons_zero, List.set_cons_succ]))
      (refine wpAnyH_takeL (i := 8) (v := ?_) rfl (by kernel_rfl) (by kernel_rfl) (by kernel_rfl) (fun _ _ _ h => h) (by rfl) hHeld ?_ ?_; rotate_left; (focus (intro w hSw; (try dsimp only at hSw); go_simp; (try with_reducible rfl); done)); (try simp only [Act.put, List.setIfInBounds_toArray, List.set_cons_zero, List.set_cons_succ]))
      (refine wpAnyH_takeL (i := 9) (v := ?_) rfl (by kernel_rfl) (by kernel_rfl) (by kernel_rfl) (fun _ _ _ h => h) (by rfl) hHeld ?_ ?_; rotate_left; (focus (intro w hSw; (try dsimp only at hSw); go_simp; (try with_reducible rfl); done)); (try simp only [Act.put, List.setIfInBounds_toArray, List.set_cons_zero, List.set_cons_succ]))
      (refine wpAnyH_takeL (i := 10) (v := ?_) rfl (by kernel_rfl) (by kernel_rfl) (by kernel_rfl) (fun _ _ _ h => h) (by rfl) hHeld ?_ ?_; rotate_left; (focus (intro w hSw; (try dsimp only at hSw); go_simp; (try with_reducible rfl); done)); (try simp only [Act.put, List.setIfInBounds_toArray, List.set_cons_zero, List.set_cons_succ]))
      (refine wpAnyH_takeL (i := 11) (v := ?_) rfl (by kernel_rfl) (by kernel_rfl) (by kernel_rfl) (fun _ _ _ h => h) (by rfl) hHeld ?_ ?_; rotate_left; (focus (intro w hSw; (try dsimp only at hSw); go_simp; (try with_reducible rfl); done)); (try simp only [Act.put, List.setIfInBounds_toArray, List.set_cons_zero, List.set_cons_succ]))
      refine wpAnyH_two (i := 1) (j := 6) rfl rfl (by kernel_rfl) (by rfl) (by rfl) (fun K hK => ?_) (fun K hK => ?_)
      · (go_simp; refine hK.out _ _ trivial (fun hHeld => ?_); (clear hK K; (try simp only [Act.put, List.setIfInBounds_toArray, List.set_cons_zero, List.set_cons_succ])))
        (refine wpAnyH_callL (i := 6) rfl (by kernel_rfl) (by rfl) (fun K hK => ?_); go_simp)
        (go_at_call 80; refine (rat_at (18 + 10 * (j : Int)) 2 (18 + 10 * j) 2 wA.drew hpA (by omega) rfl (by omega) (by omega) (by omega) hGx.out).mono ?_; rintro e w' ⟨rfl, rfl⟩; refine hK.out _ _ trivial (fun hHeld => ?_); (clear hK K; (try simp only [Act.put, List.setIfInBounds_toArray, List.set_cons_zero, List.set_cons_succ])))
        (refine wpAnyH_takeL (i := 7) (v := ?_) rfl (by kernel_rfl) (by kernel_rfl) (by kernel_rfl) (fun _ _ _ h => h) (by rfl) hHeld ?_ ?_; rotate_left; (focus (intro w hSw; (try dsimp only at hSw); go_simp; (try with_reducible rfl); done)); (try simp only [Act.put, List.setIfInBounds_toArray, List.set_cons_zero, List.set_cons_succ]))
        (refine wpAnyH_callL (i := 12) rfl (by kernel_rfl) (by rfl) (fun K hK => ?_); go_simp)
        (go_at_call 80; refine (rat_at (20 + 10 * (j : Int)) 8 (20 + 10 * j) 8 wA.drew hpA (by omega) rfl (by omega) (by omega) (by omega) hUx.out).mono ?_; rintro e w' ⟨rfl, rfl⟩; refine hK.out _ _ trivial (fun hHeld => ?_); (clear hK K; (try simp only [Act.put, List.setIfInBounds_toArray, List.set_cons_zero, List.set_cons_succ])))
        (refine wpAnyH_takeL (i := 13) (v := ?_) rfl (by kernel_rfl) (by kernel_rfl) (by kernel_rfl) (fun _ _ _ h => h) (by rfl) hHeld ?_ ?_; rotate_left; (focus (intro w hSw; (try dsimp only at hSw); go_simp; (try with_reducible rfl); done)); (try simp only [Act.put, List.setIfInBounds_toArray, List.set_cons_zero, List.set_cons_succ]))
        refine wpAnyH_callL (i := 14) rfl (by kernel_rfl) (by rfl) (fun K hK => ?_)
        (go_simp; refine hK.out _ _ trivial (fun hHeld => ?_); (clear hK K; (try simp only [Act.put, List.setIfInBounds_toArray, List.set_cons_zero, List.set_cons_succ])))
        refine wpAnyH_callL (i := 15) rfl (by kernel_rfl) (by rfl) (fun K hK => ?_)
        refine wp_appG dirtyElt (.tmp 94) (.tmp 107) (by rfl) wb.heap.size j dC dA _ (by rfl) (owns_aft hrd (below_new wA.drew (.cells #[.int .i64 G, .int .u64 U] 94))) 1 1 (some ⟨wA.drew.heap.size, 0, none⟩) [.int .i64 G, .int .u64 U] (by rfl) (Src.of_at (At.new wA.drew #[.int .i64 G, .int .u64 U] 94) rfl (drV_one _ _)) q1 q2 (Nat.le_trans hszd (ge_new _ _)) ?_
        intro A7 c7 w7 ho7 hg7 hb7 hat7
        have hS7 := (hSd.later (below_new wA.drew (.cells #[.int .i64 G, .int .u64 U] 94))).upto hb7 sb.1 sb.2
        have k7 := hS7.rec_
        have k7c := k7.c
        have k7f := k7.f
        refine hK.out _ _ trivial (fun hHeld => ?_)
        (clear hK K; (try simp only [Act.put, List.setIfInBounds_toArray, List.set_cons_zero, List.set_cons_succ]))
        (refine wpAnyH_takeL (i := 16) (v := ?_) rfl (by kernel_rfl) (by kernel_rfl) (by kernel_rfl) (fun _ _ _ h => h) (by rfl) hHeld ?_ ?_; rotate_left; (focus (intro w hSw; (try dsimp only at hSw); go_simp; (try with_reducible rfl); done)); (try simp only [Act.put, List.setIfInBounds_toArray, List.set_cons_zero, List.set_cons_succ]))
        refine wpAnyH_callL (i := 17) rfl (by kernel_rfl) (by rfl) (fun K hK => ?_)
        (go_simp; refine hK.out _ _ trivial (fun hHeld => ?_); (clear hK K; (try simp only [Act.put, List.setIfInBounds_toArray, List.set_cons_zero, List.set_cons_succ])))
        (refine wpAnyH_done (by kernel_rfl) ?_ _)
        have hS8 := hS7.set 8 (.slice A7 (j + 1) c7)
        simp only [List.setIfInBounds_toArray, List.set_cons_zero, List.set_cons_succ] at hS8
        have hr8 := owns_past ho7 sb.1 (setMod w7 ρ 8 (.slice A7 (j + 1) c7))
        have hs8 : wb.heap.size ≤ (w7.setCell ⟨ρ, 8, none⟩ (.slice A7 (j + 1) c7)).heap.size := Nat.le_trans hszd (Nat.le_trans (ge_new wA.drew _) (Nat.le_trans hg7.size (setMod w7 ρ 8 (.slice A7 (j + 1) c7)).size))
        have hfin : (w7.setCell ⟨ρ, 8, none⟩ (.slice A7 (j + 1) c7)).ownsRow wb.heap.size 94 2 (.slice A7 (j + 1) c7) (j + 1) ((cDl l (j + 1)).flatMap drV) := by
          rw [hst.out]
          have e : (L ++ [(G, U)]).flatMap drV = L.flatMap drV ++ [.int .i64 G, .int .u64 U] := by rw [List.flatMap_append]; rfl
          rw [e]
          exact hr8
        clear hr8 hS7 k7 k7c k7f hSd kdc kda hrd
        generalize (w7.setCell ⟨ρ, 8, none⟩ (.slice A7 (j + 1) c7)) = w8 at *
        go_wp2
        go_roundw
        case rel => exact ⟨j + 1, A7, c7, by omega, by go_num, hS8, hfin, hs8⟩
        case measure => simp [intOf]; omega
      · go_simp
        (go_at_call 80; refine (rat_at (18 + 10 * (j : Int)) 2 (18 + 10 * j) 2 wA.drew hpA (by omega) rfl (by omega) (by omega) (by omega) hGx.out).mono ?_; rintro e w' ⟨rfl, rfl⟩; refine hK.out _ _ trivial (fun hHeld => ?_); (clear hK K; (try simp only [Act.put, List.setIfInBounds_toArray, List.set_cons_zero, List.set_cons_succ])))
        (refine wpAnyH_takeL (i := 7) (v := ?_) rfl (by kernel_rfl) (by kernel_rfl) (by kernel_rfl) (fun _ _ _ h => h) (by rfl) hHeld ?_ ?_; rotate_left; (focus (intro w hSw; (try dsimp only at hSw); go_simp; (try with_reducible rfl); done)); (try simp only [Act.put, List.setIfInBounds_toArray, List.set_cons_zero, List.set_cons_succ]))
        refine wpAnyH_two (i := 1) (j := 12) rfl rfl (by kernel_rfl) (by rfl) (by rfl) (fun K hK => ?_) (fun K hK => ?_)
        · (go_simp; refine hK.out _ _ trivial (fun hHeld => ?_); (clear hK K; (try simp only [Act.put, List.setIfInBounds_toArray, List.set_cons_zero, List.set_cons_succ])))
          (refine wpAnyH_callL (i := 12) rfl (by kernel_rfl) (by rfl) (fun K hK => ?_); go_simp)
          (go_at_call 80; refine (rat_at (20 + 10 * (j : Int)) 8 (20 + 10 * j) 8 wA.drew hpA (by omega) rfl (by omega) (by omega) (by omega) hUx.out).mono ?_; rintro e w' ⟨rfl, rfl⟩; refine hK.out _ _ trivial (fun hHeld => ?_); (clear hK K; (try simp only [Act.put, List.setIfInBounds_toArray, List.set_cons_zero, List.set_cons_succ])))
          (refine wpAnyH_takeL (i := 13) (v := ?_) rfl (by kernel_rfl) (by kernel_rfl) (by kernel_rfl) (fun _ _ _ h => h) (by rfl) hHeld ?_ ?_; rotate_left; (focus (intro w hSw; (try dsimp only at hSw); go_simp; (try with_reducible rfl); done)); (try simp only [Act.put, List.setIfInBounds_toArray, List.set_cons_zero, List.set_cons_succ]))
          refine wpAnyH_callL (i := 14) rfl (by kernel_rfl) (by rfl) (fun K hK => ?_)
          (go_simp; refine hK.out _ _ trivial (fun hHeld => ?_); (clear hK K; (try simp only [Act.put, List.setIfInBounds_toArray, List.set_cons_zero, List.set_cons_succ])))
          refine wpAnyH_callL (i := 15) rfl (by kernel_rfl) (by rfl) (fun K hK => ?_)
          refine wp_appG dirtyElt (.tmp 94) (.tmp 107) (by rfl) wb.heap.size j dC dA _ (by rfl) (owns_aft hrd (below_new wA.drew (.cells #[.int .i64 G, .int .u64 U] 94))) 1 1 (some ⟨wA.drew.heap.size, 0, none⟩) [.int .i64 G, .int .u64 U] (by rfl) (Src.of_at (At.new wA.drew #[.int .i64 G, .int .u64 U] 94) rfl (drV_one _ _)) q1 q2 (Nat.le_trans hszd (ge_new _ _)) ?_
          intro A7 c7 w7 ho7 hg7 hb7 hat7
          have hS7 := (hSd.later (below_new wA.drew (.cells #[.int .i64 G, .int .u64 U] 94))).upto hb7 sb.1 sb.2
          have k7 := hS7.rec_
          have k7c := k7.c
          have k7f := k7.f
          refine hK.out _ _ trivial (fun hHeld => ?_)
          (clear hK K; (try simp only [Act.put, List.setIfInBounds_toArray, List.set_cons_zero, List.set_cons_succ]))
          (refine wpAnyH_takeL (i := 16) (v := ?_) rfl (by kernel_rfl) (by kernel_rfl) (by kernel_rfl) (fun _ _ _ h => h) (by rfl) hHeld ?_ ?_; rotate_left; (focus (intro w hSw; (try dsimp only at hSw); go_simp; (try with_reducible rfl); done)); (try simp only [Act.put, List.setIfInBounds_toArray, List.set_cons_zero, List.set_cons_succ]))
          refine wpAnyH_callL (i := 17) rfl (by kernel_rfl) (by rfl) (fun K hK => ?_)
          (go_simp; refine hK.out _ _ trivial (fun hHeld => ?_); (clear hK K; (try simp only [Act.put, List.setIfInBounds_toArray, List.set_cons_zero, List.set_cons_succ])))
          (refine wpAnyH_done (by kernel_rfl) ?_ _)
          have hS8 := hS7.set 8 (.slice A7 (j + 1) c7)
          simp only [List.setIfInBounds_toArray, List.set_cons_zero, List.set_cons_succ] at hS8
          have hr8 := owns_past ho7 sb.1 (setMod w7 ρ 8 (.slice A7 (j + 1) c7))
          have hs8 : wb.heap.size ≤ (w7.setCell ⟨ρ, 8, none⟩ (.slice A7 (j + 1) c7)).heap.size := Nat.le_trans hszd (Nat.le_trans (ge_new wA.drew _) (Nat.le_trans hg7.size (setMod w7 ρ 8 (.slice A7 (j + 1) c7)).size))
          have hfin : (w7.setCell ⟨ρ, 8, none⟩ (.slice A7 (j + 1) c7)).ownsRow wb.heap.size 94 2 (.slice A7 (j + 1) c7) (j + 1) ((cDl l (j + 1)).flatMap drV) := by
            rw [hst.out]
            have e : (L ++ [(G, U)]).flatMap drV = L.flatMap drV ++ [.int .i64 G, .int .u64 U] := by rw [List.flatMap_append]; rfl
            rw [e]
            exact hr8
          clear hr8 hS7 k7 k7c k7f hSd kdc kda hrd
          generalize (w7.setCell ⟨ρ, 8, none⟩ (.slice A7 (j + 1) c7)) = w8 at *
          go_wp2
          go_roundw
          case rel => exact ⟨j + 1, A7, c7, by omega, by go_num, hS8, hfin, hs8⟩
          case measure => simp [intOf]; omega
        · go_simp
          (go_at_call 80; refine (rat_at (20 + 10 * (j : Int)) 8 (20 + 10 * j) 8 wA.drew hpA (by omega) rfl (by omega) (by omega) (by omega) hUx.out).mono ?_; rintro e w' ⟨rfl, rfl⟩; refine hK.out _ _ trivial (fun hHeld => ?_); (clear hK K; (try simp only [Act.put, List.setIfInBounds_toArray, List.set_cons_zero, List.set_cons_succ])))
          (refine wpAnyH_takeL (i := 13) (v := ?_) rfl (by kernel_rfl) (by kernel_rfl) (by kernel_rfl) (fun _ _ _ h => h) (by rfl) hHeld ?_ ?_; rotate_left; (focus (intro w hSw; (try dsimp only at hSw); go_simp; (try with_reducible rfl); done)); (try simp only [Act.put, List.setIfInBounds_toArray, List.set_cons_zero, List.set_cons_succ]))
          refine wpAnyH_two (i := 1) (j := 14) rfl rfl (by kernel_rfl) (by rfl) (by rfl) (fun K hK => ?_) (fun K hK => ?_)
          · (go_simp; refine hK.out _ _ trivial (fun hHeld => ?_); (clear hK K; (try simp only [Act.put, List.setIfInBounds_toArray, List.set_cons_zero, List.set_cons_succ])))
            refine wpAnyH_callL (i := 14) rfl (by kernel_rfl) (by rfl) (fun K hK => ?_)
            (go_simp; refine hK.out _ _ trivial (fun hHeld => ?_); (clear hK K; (try simp only [Act.put, List.setIfInBounds_toArray, List.set_cons_zero, List.set_cons_succ])))
            refine wpAnyH_callL (i := 15) rfl (by kernel_rfl) (by rfl) (fun K hK => ?_)
            refine wp_appG dirtyElt (.tmp 94) (.tmp 107) (by rfl) wb.heap.size j dC dA _ (by rfl) (owns_aft hrd (below_new wA.drew (.cells #[.int .i64 G, .int .u64 U] 94))) 1 1 (some ⟨wA.drew.heap.size, 0, none⟩) [.int .i64 G, .int .u64 U] (by rfl) (Src.of_at (At.new wA.drew #[.int .i64 G, .int .u64 U] 94) rfl (drV_one _ _)) q1 q2 (Nat.le_trans hszd (ge_new _ _)) ?_
            intro A7 c7 w7 ho7 hg7 hb7 hat7
            have hS7 := (hSd.later (below_new wA.drew (.cells #[.int .i64 G, .int .u64 U] 94))).upto hb7 sb.1 sb.2
            have k7 := hS7.rec_
            have k7c := k7.c
            have k7f := k7.f
            refine hK.out _ _ trivial (fun hHeld => ?_)
            (clear hK K; (try simp only [Act.put, List.setIfInBounds_toArray, List.set_cons_zero, List.set_cons_succ]))
            (refine wpAnyH_takeL (i := 16) (v := ?_) rfl (by kernel_rfl) (by kernel_rfl) (by kernel_rfl) (fun _ _ _ h => h) (by rfl) hHeld ?_ ?_; rotate_left; (focus (intro w hSw; (try dsimp only at hSw); go_simp; (try with_reducible rfl); done)); (try simp only [Act.put, List.setIfInBounds_toArray, List.set_cons_zero, List.set_cons_succ]))
            refine wpAnyH_callL (i := 17) rfl (by kernel_rfl) (by rfl) (fun K hK => ?_)
            (go_simp; refine hK.out _ _ trivial (fun hHeld => ?_); (clear hK K; (try simp only [Act.put, List.setIfInBounds_toArray, List.set_cons_zero, List.set_cons_succ])))
            (refine wpAnyH_done (by kernel_rfl) ?_ _)
            have hS8 := hS7.set 8 (.slice A7 (j + 1) c7)
            simp only [List.setIfInBounds_toArray, List.set_cons_zero, List.set_cons_succ] at hS8
            have hr8 := owns_past ho7 sb.1 (setMod w7 ρ 8 (.slice A7 (j + 1) c7))
            have hs8 : wb.heap.size ≤ (w7.setCell ⟨ρ, 8, none⟩ (.slice A7 (j + 1) c7)).heap.size := Nat.le_trans hszd (Nat.le_trans (ge_new wA.drew _) (Nat.le_trans hg7.size (setMod w7 ρ 8 (.slice A7 (j + 1) c7)).size))
            have hfin : (w7.setCell ⟨ρ, 8, none⟩ (.slice A7 (j + 1) c7)).ownsRow wb.heap.size 94 2 (.slice A7 (j + 1) c7) (j + 1) ((cDl l (j + 1)).flatMap drV) := by
              rw [hst.out]
              have e : (L ++ [(G, U)]).flatMap drV = L.flatMap drV ++ [.int .i64 G, .int .u64 U] := by rw [List.flatMap_append]; rfl
              rw [e]
              exact hr8
            clear hr8 hS7 k7 k7c k7f hSd kdc kda hrd
            generalize (w7.setCell ⟨ρ, 8, none⟩ (.slice A7 (j + 1) c7)) = w8 at *
            go_wp2
            go_roundw
            case rel => exact ⟨j + 1, A7, c7, by omega, by go_num, hS8, hfin, hs8⟩
            case measure => simp [intOf]; omega
          · (go_simp; refine hK.out _ _ trivial (fun hHeld => ?_); (clear hK K; (try simp only [Act.put, List.setIfInBounds_toArray, List.set_cons_zero, List.set_cons_succ])))
            refine wpAnyH_callL (i := 1) rfl (by kernel_rfl) (by rfl) (fun K hK => ?_)
            (go_simp; refine hK.out _ _ trivial (fun hHeld => ?_); (clear hK K; (try simp only [Act.put, List.setIfInBounds_toArray, List.set_cons_zero, List.set_cons_succ])))
            refine wpAnyH_callL (i := 15) rfl (by kernel_rfl) (by rfl) (fun K hK => ?_)
            refine wp_appG dirtyElt (.tmp 94) (.tmp 107) (by rfl) wb.heap.size j dC dA _ (by rfl) (owns_aft hrd (below_new wA.drew (.cells #[.int .i64 G, .int .u64 U] 94))) 1 1 (some ⟨wA.drew.heap.size, 0, none⟩) [.int .i64 G, .int .u64 U] (by rfl) (Src.of_at (At.new wA.drew #[.int .i64 G, .int .u64 U] 94) rfl (drV_one _ _)) q1 q2 (Nat.le_trans hszd (ge_new _ _)) ?_
            intro A7 c7 w7 ho7 hg7 hb7 hat7
            have hS7 := (hSd.later (below_new wA.drew (.cells #[.int .i64 G, .int .u64 U] 94))).upto hb7 sb.1 sb.2
            have k7 := hS7.rec_
            have k7c := k7.c
            have k7f := k7.f
            refine hK.out _ _ trivial (fun hHeld => ?_)
            (clear hK K; (try simp only [Act.put, List.setIfInBounds_toArray, List.set_cons_zero, List.set_cons_succ]))
            (refine wpAnyH_takeL (i := 16) (v := ?_) rfl (by kernel_rfl) (by kernel_rfl) (by kernel_rfl) (fun _ _ _ h => h) (by rfl) hHeld ?_ ?_; rotate_left; (focus (intro w hSw; (try dsimp only at hSw); go_simp; (try with_reducible rfl); done)); (try simp only [Act.put, List.setIfInBounds_toArray, List.set_cons_zero, List.set_cons_succ]))
            refine wpAnyH_callL (i := 17) rfl (by kernel_rfl) (by rfl) (fun K hK => ?_)
            (go_simp; refine hK.out _ _ trivial (fun hHeld => ?_); (clear hK K; (try simp only [Act.put, List.setIfInBounds_toArray, List.set_cons_zero, List.set_cons_succ])))
            (refine wpAnyH_done (by kernel_rfl) ?_ _)
            have hS8 := hS7.set 8 (.slice A7 (j + 1) c7)
            simp only [List.setIfInBounds_toArray, List.set_cons_zero, List.set_cons_succ] at hS8
            have hr8 := owns_past ho7 sb.1 (setMod w7 ρ 8 (.slice A7 (j + 1) c7))
            have hs8 : wb.heap.size ≤ (w7.setCell ⟨ρ, 8, none⟩ (.slice A7 (j + 1) c7)).heap.size := Nat.le_trans hszd (Nat.le_trans (ge_new wA.drew _) (Nat.le_trans hg7.size (setMod w7 ρ 8 (.slice A7 (j + 1) c7)).size))
            have hfin : (w7.setCell ⟨ρ, 8, none⟩ (.slice A7 (j + 1) c7)).ownsRow wb.heap.size 94 2 (.slice A7 (j + 1) c7) (j + 1) ((cDl l (j + 1)).flatMap drV) := by
              rw [hst.out]
              have e : (L ++ [(G, U)]).flatMap drV = L.flatMap drV ++ [.int .i64 G, .int .u64 U] := by rw [List.flatMap_append]; rfl
              rw [e]
              exact hr8
            clear hr8 hS7 k7 k7c k7f hSd kdc kda hrd
            generalize (w7.setCell ⟨ρ, 8, none⟩ (.slice A7 (j + 1) c7)) = w8 at *
            go_wp2
            go_roundw
            case rel => exact ⟨j + 1, A7, c7, by omega, by go_num, hS8, hfin, hs8⟩
            case measure => simp [intOf]; omega
    · obtain rfl : cnt = j := by omega
      have j1 : ¬ (cnt : Int) < (cnt : Int) := by omega
      rw [hDx.out] at hrow
      have kr := hS.rec_
      have krc := kr.c; have krf := kr.f; have krl := kr.lt
      have hPr2 := PrR.of_owns hrow hlDx.out
      have hI : RecIn wA 6 T P 0 0 0 none none dA 0 0 0 0 cnt dC ob [] [] D :=
        ⟨by omega, by omega, hTr.1, hTr.2, hPr.1, hPr.2, by omega, by omega, ⟨rfl, Byt.nil, Rd.nil _ _ _ _ _⟩, ⟨rfl, Byt.nil, Rd.nil _ _ _ _ _⟩, hPr2, by omega, by omega, by omega, hDrx.out⟩
      have hrx := Lib.hid hrow
      clear hrow hPr2
      go_upto_region 26 with (fail)
      have hIx := Lib.hid hI
      clear hI
      have d0 : Below wA.heap.size wA wA.drew := below_dr (Below.refl _ _)
      cases f
      · have hz := Lib.hid (show finC ⟨6, T, P, 0, 0, 0, [], [], D, ob⟩ l false = (zeroR, 3) from if_neg (fun h => by cases h.1))
        have f0 := (hS.later d0).rec_.c
        refine wp_region_held_drew (S := fun w' => (∀ o, w'.cell? ⟨ρ, o, none⟩ = #[.int .u8 6, .int .u64 T, .int .u64 P, .int .i64 0, .int .i64 0, .slice none 0 0, .slice none 0 0, .int .u64 0, .slice dA cnt dC, .bool ob][o]?)) (by kernel_rfl) f0 (fun hHeld => ?_)
        (refine wpAnyH_takeL (i := 0) (v := ?_) rfl (by kernel_rfl) (by kernel_rfl) (by kernel_rfl) (fun _ _ _ h => h) (by rfl) hHeld ?_ ?_; rotate_left; (focus (intro w hSw; (try dsimp only at hSw); go_simp; (try with_reducible rfl); done)); (try simp only [Act.put, List.setIfInBounds_toArray, List.set_cons_zero, List.set_cons_succ]))
        (refine wpAnyH_callL (i := 1) rfl (by kernel_rfl) (by rfl) (fun K hK => ?_); go_simp)
        go_at_call 22
        refine (rform_at (hIx.out.later d0) false hfx.out).mono ?_
        rintro e w3 ⟨rfl, hb3⟩
        have f1 := ((hS.later d0).later hb3).rec_.c
        clear hHeld
        refine hK.out _ _ f1 (fun hHeld => ?_)
        (clear hK K; (try simp only [Act.put, List.setIfInBounds_toArray, List.set_cons_zero, List.set_cons_succ]))
        (refine wpAnyH_takeL (i := 2) (v := ?_) rfl (by kernel_rfl) (by kernel_rfl) (by kernel_rfl) (fun _ _ _ h => h) (by rfl) hHeld ?_ ?_; rotate_left; (focus (intro w hSw; (try dsimp only at hSw); go_simp; (try with_reducible rfl); done)); (try simp only [Act.put, List.setIfInBounds_toArray, List.set_cons_zero, List.set_cons_succ]))
        (refine wpAnyH_takeL (i := 3) (v := ?_) rfl (by kernel_rfl) (by kernel_rfl) (by kernel_rfl) (fun _ _ _ h => h) (by rfl) hHeld ?_ ?_; rotate_left; (focus (intro w hSw; (try dsimp only at hSw); go_simp; (try with_reducible rfl); done)); (try simp only [Act.put, List.setIfInBounds_toArray, List.set_cons_zero, List.set_cons_succ]))
        (refine wpAnyH_skipL (i := 4) rfl (by kernel_rfl) (by kernel_rfl) (by kernel_rfl) (fun _ _ _ h => h) (by rfl) hHeld ?_; (try simp only [Act.put, List.setIfInBounds_toArray, List.set_cons_zero, List.set_cons_succ]))
        (refine wpAnyH_skipL (i := 7) rfl (by kernel_rfl) (by kernel_rfl) (by kernel_rfl) (fun _ _ _ h => h) (by rfl) hHeld ?_; (try simp only [Act.put, List.setIfInBounds_toArray, List.set_cons_zero, List.set_cons_succ]))
        (refine wpAnyH_skipL (i := 8) rfl (by kernel_rfl) (by kernel_rfl) (by kernel_rfl) (fun _ _ _ h => h) (by rfl) hHeld ?_; (try simp only [Act.put, List.setIfInBounds_toArray, List.set_cons_zero, List.set_cons_succ]))
        (refine wpAnyH_callSkipL (i := 5) rfl (by kernel_rfl) (by rfl) hHeld ?_; (try simp only [Act.put, List.setIfInBounds_toArray, List.set_cons_zero, List.set_cons_succ]))
        (refine wpAnyH_skipL (i := 6) rfl (by kernel_rfl) (by kernel_rfl) (by kernel_rfl) (fun _ _ _ h => h) (by rfl) hHeld ?_; (try simp only [Act.put, List.setIfInBounds_toArray, List.set_cons_zero, List.set_cons_succ]))
        (refine wpAnyH_skipL (i := 9) rfl (by kernel_rfl) (by kernel_rfl) (by kernel_rfl) (fun _ _ _ h => h) (by rfl) hHeld ?_; (try simp only [Act.put, List.setIfInBounds_toArray, List.set_cons_zero, List.set_cons_succ]))
        (refine wpAnyH_takeL (i := 10) (v := ?_) rfl (by kernel_rfl) (by kernel_rfl) (by kernel_rfl) (fun _ _ _ h => h) (by rfl) hHeld ?_ ?_; rotate_left; (focus (intro w hSw; (try dsimp only at hSw); go_simp; (try with_reducible rfl); done)); (try simp only [Act.put, List.setIfInBounds_toArray, List.set_cons_zero, List.set_cons_succ]))
        (refine wpAnyH_done (by kernel_rfl) ?_ _)
        have hSz := (hS.later d0).later hb3
        clear f0 f1 hHeld hS kr krc krf krl hb3 d0
        have ks := hSz.res
        have hBz := hSz.bel
        have ksc := ks.c; have ksf := ks.f; have ksl := ks.lt
        go_wp2
        have ht := ks.ten (.int .u8 0) (.int .u64 0) (.int .u64 0) (.int .i64 0) (.int .i64 0) (.slice none 0 0) (.slice none 0 0) (.int .u64 0) (.slice none 0 0) (.bool false)
        have hB2 := hBz.trans (ht.2.below hBz.size (fun i hi => by subst hi; exact hσ))
        have kz := ht.1.c
        clear ht ks ksc ksf ksl
        generalize World.setCell _ _ _ = wz at *
        refine bodyPost_ret (v := .tuple #[.agg zCells, .int .i64 3]) (by simp [results, Try.results62, go_sem, zCells, kz]) rfl ?_
        exact ⟨hB2, .inr ⟨by rw [hz.out]; decide, by rw [hz.out]⟩⟩
      · have hse : ((strL (encR ⟨6, T, P, 0, 0, 0, [], [], D, ob⟩)).toList == (strL l).toList) = eqB (encR ⟨6, T, P, 0, 0, 0, [], [], D, ob⟩) l := str_eq (hIx.out.encB hfx.out) hby.out
        have hcp := fun w' (hb : Below w.heap.size w w') => run_str c w' (hp0.out.below hb (Nat.le_refl _))
        have hcp' := Lib.hid hcp
        have f0 := And.intro (hS.later d0).rec_.c (hcp _ (hS.later d0).bel)
        clear hcp
        refine wp_region_held_drew (S := fun w' => (∀ o, w'.cell? ⟨ρ, o, none⟩ = #[.int .u8 6, .int .u64 T, .int .u64 P, .int .i64 0, .int .i64 0, .slice none 0 0, .slice none 0 0, .int .u64 0, .slice dA cnt dC, .bool ob][o]?) ∧ (convert 23 9 (.slice (some ⟨gb, go', none⟩) n c)).run Try.prog w' = .ok (.string (strL l)) w') (by kernel_rfl) f0 (fun hHeld => ?_)
        (refine wpAnyH_takeL (i := 0) (v := ?_) rfl (by kernel_rfl) (by kernel_rfl) (by kernel_rfl) (fun _ _ _ h => h) (by rfl) hHeld ?_ ?_; rotate_left; (focus (intro w hSw; (try dsimp only at hSw); go_simp; (try with_reducible rfl); done)); (try simp only [Act.put, List.setIfInBounds_toArray, List.set_cons_zero, List.set_cons_succ]))
        (refine wpAnyH_callL (i := 1) rfl (by kernel_rfl) (by rfl) (fun K hK => ?_); go_simp)
        go_at_call 22
        refine (rform_at (hIx.out.later d0) true hfx.out).mono ?_
        rintro e w3 ⟨rfl, hb3⟩
        have hS3 := (hS.later d0).later hb3
        have f1 := And.intro hS3.rec_.c (hcp'.out _ hS3.bel)
        clear hHeld
        refine hK.out _ _ f1 (fun hHeld => ?_)
        (clear hK K; (try simp only [Act.put, List.setIfInBounds_toArray, List.set_cons_zero, List.set_cons_succ]))
        (refine wpAnyH_takeL (i := 2) (v := ?_) rfl (by kernel_rfl) (by kernel_rfl) (by kernel_rfl) (fun _ _ _ h => h) (by rfl) hHeld ?_ ?_; rotate_left; (focus (intro w hSw; (try dsimp only at hSw); go_simp; (try with_reducible rfl); done)); (try simp only [Act.put, List.setIfInBounds_toArray, List.set_cons_zero, List.set_cons_succ]))
        (refine wpAnyH_takeL (i := 3) (v := ?_) rfl (by kernel_rfl) (by kernel_rfl) (by kernel_rfl) (fun _ _ _ h => h) (by rfl) hHeld ?_ ?_; rotate_left; (focus (intro w hSw; (try dsimp only at hSw); go_simp; (try with_reducible rfl); done)); (try simp only [Act.put, List.setIfInBounds_toArray, List.set_cons_zero, List.set_cons_succ]))
        (refine wpAnyH_takeL (i := 4) (v := ?_) rfl (by kernel_rfl) (by kernel_rfl) (by kernel_rfl) (fun _ _ _ h => h) (by rfl) hHeld ?_ ?_; rotate_left; (focus (intro w hSw; (try dsimp only at hSw); go_simp; (try with_reducible rfl); done)); (try simp only [Act.put, List.setIfInBounds_toArray, List.set_cons_zero, List.set_cons_succ]))
        (refine wpAnyH_takeL (i := 7) (v := ?_) rfl (by kernel_rfl) (by kernel_rfl) (by kernel_rfl) (fun _ _ _ h => h) (by rfl) hHeld ?_ ?_; rotate_left; (focus (intro w hSw; (try dsimp only at hSw); go_simp; (try with_reducible rfl); done)); (try simp only [Act.put, List.setIfInBounds_toArray, List.set_cons_zero, List.set_cons_succ]))
        (refine wpAnyH_takeL (i := 8) (v := ?_) rfl (by kernel_rfl) (by kernel_rfl) (by kernel_rfl) (fun _ _ _ h => h) (by rfl) hHeld ?_ ?_; rotate_left; (focus (intro w hSw; (try dsimp only at hSw); go_simp; (try with_reducible rfl); done)); (try simp only [Act.put, List.setIfInBounds_toArray, List.set_cons_zero, List.set_cons_succ]))
        (refine wpAnyH_callL (i := 5) rfl (by kernel_rfl) (by rfl) (fun K hK => ?_); go_simp)
        go_at_call 60
        refine (renc_rec ((hIx.out.later d0).later hb3) hfx.out).mono ?_
        rintro e w4 ⟨A9, c9, n9, rfl, ho9, hb9⟩
        have hS4 := hS3.later hb9
        have f2 := And.intro hS4.rec_.c (hcp'.out _ hS4.bel)
        clear hHeld
        refine hK.out _ _ f2 (fun hHeld => ?_)
        (clear hK K; (try simp only [Act.put, List.setIfInBounds_toArray, List.set_cons_zero, List.set_cons_succ]))
        refine wpAnyH_mono (S' := fun w' => (∀ o, w'.cell? ⟨ρ, o, none⟩ = #[.int .u8 6, .int .u64 T, .int .u64 P, .int .i64 0, .int .i64 0, .slice none 0 0, .slice none 0 0, .int .u64 0, .slice dA cnt dC, .bool ob][o]?) ∧ (convert 23 9 (.slice (some ⟨gb, go', none⟩) n c)).run Try.prog w' = .ok (.string (strL l)) w' ∧ (convert 23 9 (.slice A9 n9 c9)).run Try.prog w' = .ok (.string (strL (encR ⟨6, T, P, 0, 0, 0, [], [], D, ob⟩))) w') (fun w' h => ⟨h.1, h.2.1⟩) _ _ _ _ ?_
        replace hHeld := And.intro f2.1 (And.intro f2.2 (run_str c9 w4 ho9.reads))
        clear f0 f1 f2
        (refine wpAnyH_takeL (i := 6) (v := ?_) rfl (by kernel_rfl) (by kernel_rfl) (by kernel_rfl) (fun _ _ _ h => h) (by rfl) hHeld ?_ ?_; rotate_left; (focus (intro w hSw; (try dsimp only at hSw); go_simp; (try with_reducible rfl); done)); (try simp only [Act.put, List.setIfInBounds_toArray, List.set_cons_zero, List.set_cons_succ]))
        (refine wpAnyH_takeL (i := 9) (v := ?_) rfl (by kernel_rfl) (by kernel_rfl) (by kernel_rfl) (fun _ _ _ h => h) (by rfl) hHeld ?_ ?_; rotate_left; (focus (intro w hSw; (try dsimp only at hSw); go_simp; (try with_reducible rfl); done)); (try simp only [Act.put, List.setIfInBounds_toArray, List.set_cons_zero, List.set_cons_succ]))
        (refine wpAnyH_takeL (i := 10) (v := ?_) rfl (by kernel_rfl) (by kernel_rfl) (by kernel_rfl) (fun _ _ _ h => h) (by rfl) hHeld ?_ ?_; rotate_left; (focus (intro w hSw; (try dsimp only at hSw); go_simp; (try with_reducible rfl); done)); (try simp only [Act.put, List.setIfInBounds_toArray, List.set_cons_zero, List.set_cons_succ]))
        (refine wpAnyH_done (by kernel_rfl) ?_ _)
        have hSz := hS4
        have hBd : Below wA.heap.size wA w4 := below_keep hb9 (below_keep hb3 d0)
        clear hS3 hS4 hS kr krc krf krl hb3 d0 hb9 ho9 hHeld
        by_cases heq : encR ⟨6, T, P, 0, 0, 0, [], [], D, ob⟩ = l
        · have hz := Lib.hid (show finC ⟨6, T, P, 0, 0, 0, [], [], D, ob⟩ l true = (⟨6, T, P, 0, 0, 0, [], [], D, ob⟩, 0) from if_pos ⟨rfl, heq⟩)
          have hcond : eqB (encR ⟨6, T, P, 0, 0, 0, [], [], D, ob⟩) l = true := decide_eq_true heq
          rw [hcond]
          have heqx := Lib.hid heq
          clear heq hcond hse
          have ks := hSz.res
          have kr := hSz.rec_
          have hBz := hSz.bel
          have ksc := ks.c; have ksf := ks.f; have ksl := ks.lt
          have krc := kr.c; have krf := kr.f; have krl := kr.lt
          go_wp2
          have ht := ks.ten (.int .u8 6) (.int .u64 T) (.int .u64 P) (.int .i64 0) (.int .i64 0) (.slice none 0 0) (.slice none 0 0) (.int .u64 0) (.slice dA cnt dC) (.bool ob)
          have hB2 := hBz.trans (ht.2.below hBz.size (fun i hi => by subst hi; exact hσ))
          have kz := ht.1.c
          have hmz := ht.2
          clear ht ks ksc ksf ksl kr krc krf krl
          generalize World.setCell _ _ _ = wz at *
          refine bodyPost_ret (v := .tuple #[.agg #[.int .u8 6, .int .u64 T, .int .u64 P, .int .i64 0, .int .i64 0, .slice none 0 0, .slice none 0 0, .int .u64 0, .slice dA cnt dC, .bool ob], .int .i64 0]) (by simp [results, Try.results62, go_sem, kz]) rfl ?_
          refine ⟨hB2, .inl ⟨by rw [hz.out], ?_⟩⟩
          rw [hz.out]
          refine ⟨_, rfl, ?_⟩
          refine ⟨none, none, dA, 0, 0, dC, ?_, ⟨rfl, Byt.nil, Rd.nil _ _ _ _ _⟩, ⟨rfl, Byt.nil, Rd.nil _ _ _ _ _⟩, ?_⟩
          · dsimp only; rw [hlDx.out]; rfl
          · dsimp only
            rw [hlDx.out]
            exact PrR.of_owns (owns_past (owns_aft hrx.out hBd) sb.2 hmz) hlDx.out
        · have hz := Lib.hid (show finC ⟨6, T, P, 0, 0, 0, [], [], D, ob⟩ l true = (zeroR, 3) from if_neg (fun h => heq h.2))
          have hcond : eqB (encR ⟨6, T, P, 0, 0, 0, [], [], D, ob⟩) l = false := decide_eq_false heq
          rw [hcond]
          clear heq hcond hBd hse
          have ks := hSz.res
          have hBz := hSz.bel
          have ksc := ks.c; have ksf := ks.f; have ksl := ks.lt
          go_wp2
          have ht := ks.ten (.int .u8 0) (.int .u64 0) (.int .u64 0) (.int .i64 0) (.int .i64 0) (.slice none 0 0) (.slice none 0 0) (.int .u64 0) (.slice none 0 0) (.bool false)
          have hB2 := hBz.trans (ht.2.below hBz.size (fun i hi => by subst hi; exact hσ))
          have kz := ht.1.c
          clear ht ks ksc ksf ksl
          generalize World.setCell _ _ _ = wz at *
          refine bodyPost_ret (v := .tuple #[.agg zCells, .int .i64 3]) (by simp [results, Try.results62, go_sem, zCells, kz]) rfl ?_
          exact ⟨hB2, .inr ⟨by rw [hz.out]; decide, by rw [hz.out]⟩⟩
end Go.Proofs.Ytjgomebnlekddaa
