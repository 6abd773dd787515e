/- DiskPlays: the walk of the law. -/
import Derived.Test.YtjgomebnlekddaaDoCalls
import Derived.Test.YtjgomebnlekddaaActs
import Derived.Test.YtjgomebnlekddaaHeld
namespace Go.Proofs.Ytjgomebnlekddaa
set_option linter.unusedVariables false
set_option linter.unusedSimpArgs false
open Go.RowKit
theorem newD_len (n : Nat) : (newD n).l.length = n := by show (List.replicate n zeroS).length = n; simp
theorem restD_len (D : Dk) (n : Nat) (kl : List Bool) : (restD D n kl).l.length = D.l.length := setTo_len _ _ _
theorem not_self (b : Bool) : ((!b) == b) = false := by cases b <;> rfl
set_option maxRecDepth 100000 in
set_option maxHeartbeats 40000000 in
theorem dplays_calls {sn sc : Nat} {sA : Option Addr} (n : Int) (w : World) (h : AcR w sA sn) :
    Calls Try.prog 15 #[.int .i64 n, .slice sA sn sc] w fun e w' => e = .returned (.bool true) ∧ Below w.heap.size w w' := by
  go_enter Try.func15, Try.ntmps15
  go_wp2_with fail
  refine (dawake_calls w).mono ?_
  rintro e w1 ⟨rfl, hb1⟩
  by_cases hn : 1 ≤ n ∧ n ≤ 4096
  · obtain ⟨n, rfl⟩ := Int.eq_ofNat_of_zero_le (show 0 ≤ n by omega)
    have hn1 : ¬ ((n : Int) < 1) := by omega
    have hn2 : ¬ ((4096 : Int) < n) := by omega
    go_wp2_with fail
    refine (new_calls n (by omega) (by omega) w1).mono ?_
    rintro e w2 ⟨d, lb, rfl, hd0, hb2, hdd, hlb⟩
    have hs1 := hb1.size
    have hD2 : DskB w2 w.heap.size d lb none 0 0 (newD n) := ⟨hd0, by omega, by omega, fun b hb => by cases hb⟩
    have hB2 := below_keep hb2 hb1
    have hnl := newD_len n
    clear hd0 hb2 hb1
    go_wp2_with fail
    refine (len_calls w2 hD2.k).mono ?_
    rintro e w2' ⟨rfl, rfl⟩
    rw [hnl]
    go_wp2_with fail
    refine (rnew_calls n (by omega) (by omega) w2).mono ?_
    rintro e w3 ⟨x, lc, lA, rfl, hR3, hb3⟩
    have hBo : Bo w3 w.heap.size d lb x (newD n) := ⟨none, 0, 0, lA, lc, none, 0, hD2.later hb3, hR3.less hB2.size⟩
    have hB3 := below_keep hb3 hB2
    clear hD2 hB2 hR3 hb3 hs1
    go_upto_region 10 with (fail)
    go_loopw [8] (fun v8 wr => ∃ (i : Nat) (D : Dk), i ≤ sn ∧ i ≤ 80 ∧ v8 = .int .i64 i ∧ Bo wr w.heap.size d lb x D ∧ D.ops ≤ i ∧ D.way.length ≤ i ∧ D.l.length = n ∧ Below w.heap.size w wr) (fun v8 _ => 80 - (intOf v8).toNat)
    case atStart => exact ⟨0, newD n, Nat.zero_le _, Nat.zero_le _, rfl, hBo, Int.le_refl _, Nat.le_refl _, hnl, hB3⟩
    case round =>
      clear hBo hB3 hnl
      obtain ⟨i, D, hi, hi8, rfl, hBo, ho, hwy, hnl, hB⟩ := hrel
      obtain ⟨wA, hwA⟩ : ∃ wA, wA = wr := ⟨_, rfl⟩
      subst hwA
      by_cases hlt : i < sn ∧ i < 80
      · obtain ⟨gb, go', kd, N, aA, an, ac, kA, kn, kc, p, kl, rfl, hgb, h0, h1, h2, h3, k0, k1, hN, hp, hac, hkl⟩ := h i hlt.1
        have l0 : (0 : Int) ≤ i := by omega
        have l1 : (i : Int) < sn := by omega
        have l2 : (i : Int) < 80 := by omega
        have l3 : (i : Int) < 4611686018427387904 := by omega
        have hF : ∀ w', Below w.heap.size w w' → w'.cell? ⟨gb, go' + i * 4, none⟩ = some (.int .u8 kd) ∧ w'.cell? ⟨gb, go' + i * 4 + 1, none⟩ = some (.int .i64 N) ∧ w'.cell? ⟨gb, go' + i * 4 + 2, none⟩ = some (.slice aA an ac) ∧ w'.cell? ⟨gb, go' + i * 4 + 3, none⟩ = some (.slice kA kn kc) := fun w' hb =>
          ⟨(hb.cell (p := ⟨gb, go' + i * 4, none⟩) hgb).trans h0, (hb.cell (p := ⟨gb, go' + i * 4 + 1, none⟩) hgb).trans h1, (hb.cell (p := ⟨gb, go' + i * 4 + 2, none⟩) hgb).trans h2, (hb.cell (p := ⟨gb, go' + i * 4 + 3, none⟩) hgb).trans h3⟩
        have d0 : Below wA.heap.size wA wA.drew := below_dr (Below.refl _ _)
        replace hBo := hBo.later d0
        replace hB := below_keep d0 hB
        have f0 := hF _ hB
        have hp0 : BsR wA.drew 0 w.heap.size aA an p := ⟨hp.1, hp.2.1, hp.2.2.below hB (Nat.le_refl _)⟩
        have hk0 : BoR wA.drew 0 w.heap.size kA kn kl := ⟨hkl.1, hkl.2.below hB (Nat.le_refl _)⟩
        have hF' := Lib.hid hF
        have h' := Lib.hid h
        clear h0 h1 h2 h3 hF h
        go_upto_region 12 with (fail)
        refine wp_region_held_drew (S := fun w' => w'.cell? ⟨gb, go' + i * 4, none⟩ = some (.int .u8 kd) ∧ w'.cell? ⟨gb, go' + i * 4 + 1, none⟩ = some (.int .i64 N) ∧ w'.cell? ⟨gb, go' + i * 4 + 2, none⟩ = some (.slice aA an ac) ∧ w'.cell? ⟨gb, go' + i * 4 + 3, none⟩ = some (.slice kA kn kc)) (by kernel_rfl) f0 (fun hHeld => ?_)
        (refine wpAnyH_takeL (i := 0) (v := ?_) rfl (by kernel_rfl) (by kernel_rfl) (by kernel_rfl) (fun _ _ _ h => h) (by rfl) hHeld ?_ ?_; rotate_left; (focus (intro w hSw; (try dsimp only at hSw); go_simp; (try with_reducible rfl); done)); (try simp only [Act.put, List.setIfInBounds_toArray, List.set_cons_zero, List.set_cons_succ]))
        (refine wpAnyH_takeL (i := 1) (v := ?_) rfl (by kernel_rfl) (by kernel_rfl) (by kernel_rfl) (fun _ _ _ h => h) (by rfl) hHeld ?_ ?_; rotate_left; (focus (intro w hSw; (try dsimp only at hSw); go_simp; (try with_reducible rfl); done)); (try simp only [Act.put, List.setIfInBounds_toArray, List.set_cons_zero, List.set_cons_succ]))
        (refine wpAnyH_takeL (i := 2) (v := ?_) rfl (by kernel_rfl) (by kernel_rfl) (by kernel_rfl) (fun _ _ _ h => h) (by rfl) hHeld ?_ ?_; rotate_left; (focus (intro w hSw; (try dsimp only at hSw); go_simp; (try with_reducible rfl); done)); (try simp only [Act.put, List.setIfInBounds_toArray, List.set_cons_zero, List.set_cons_succ]))
        (refine wpAnyH_takeL (i := 3) (v := ?_) rfl (by kernel_rfl) (by kernel_rfl) (by kernel_rfl) (fun _ _ _ h => h) (by rfl) hHeld ?_ ?_; rotate_left; (focus (intro w hSw; (try dsimp only at hSw); go_simp; (try with_reducible rfl); done)); (try simp only [Act.put, List.setIfInBounds_toArray, List.set_cons_zero, List.set_cons_succ]))
        (refine wpAnyH_takeL (i := 4) (v := ?_) rfl (by kernel_rfl) (by kernel_rfl) (by kernel_rfl) (fun _ _ _ h => h) (by rfl) hHeld ?_ ?_; rotate_left; (focus (intro w hSw; (try dsimp only at hSw); go_simp; (try with_reducible rfl); done)); (try simp only [Act.put, List.setIfInBounds_toArray, List.set_cons_zero, List.set_cons_succ]))
        (refine wpAnyH_takeL (i := 5) (v := ?_) rfl (by kernel_rfl) (by kernel_rfl) (by kernel_rfl) (fun _ _ _ h => h) (by rfl) hHeld ?_ ?_; rotate_left; (focus (intro w hSw; (try dsimp only at hSw); go_simp; (try with_reducible rfl); done)); (try simp only [Act.put, List.setIfInBounds_toArray, List.set_cons_zero, List.set_cons_succ]))
        (refine wpAnyH_callL (i := 6) rfl (by kernel_rfl) (by rfl) (fun K hK => ?_); go_simp)
        go_at_call 54
        refine (do_calls kd N wA.drew hBo hB.size k0 (by omega) (by omega) hN hp0 hac hk0).mono ?_
        rintro e w4 ⟨rfl, D', hBo', hst, hb4⟩
        have hB4 := below_tr hB hb4
        have f4 := hF'.out _ hB4
        obtain ⟨pA, m, mc, lA, lc, wAA, wc, hD, hR⟩ := hBo'
        have hfin := Lib.hid (And.intro hst hB4)
        have kx := hR.at_.c
        have hml := hD.k.wl
        subst hml
        have hns := not_self D'.off
        refine hK.out _ _ f4 (fun hHeld => ?_)
        (clear hK K; (try simp only [Act.put, List.setIfInBounds_toArray, List.set_cons_zero, List.set_cons_succ]))
        refine wpAnyH_mono (S' := fun w' => w'.cell? ⟨gb, go' + i * 4, none⟩ = some (.int .u8 kd) ∧ w'.cell? ⟨gb, go' + i * 4 + 1, none⟩ = some (.int .i64 N) ∧ w'.cell? ⟨gb, go' + i * 4 + 2, none⟩ = some (.slice aA an ac) ∧ w'.cell? ⟨gb, go' + i * 4 + 3, none⟩ = some (.slice kA kn kc) ∧ (∀ o, w'.cell? ⟨x, o, none⟩ = #[.slice lA D'.l.length lc, .slice wAA D'.way.length wc, .int .i64 D'.arm, .bool D'.off, .int .i64 D'.ops][o]?)) (fun w' h => ⟨h.1, h.2.1, h.2.2.1, h.2.2.2.1⟩) _ _ _ _ ?_
        have f5 := And.intro f4.1 (And.intro f4.2.1 (And.intro f4.2.2.1 (And.intro f4.2.2.2 kx)))
        clear hHeld
        have hHeld := f5
        (refine wpAnyH_takeL (i := 7) (v := ?_) rfl (by kernel_rfl) (by kernel_rfl) (by kernel_rfl) (fun _ _ _ h => h) (by rfl) hHeld ?_ ?_; rotate_left; (focus (intro w hSw; (try dsimp only at hSw); go_simp; (try with_reducible rfl); done)); (try simp only [Act.put, List.setIfInBounds_toArray, List.set_cons_zero, List.set_cons_succ]))
        (refine wpAnyH_takeL (i := 8) (v := ?_) rfl (by kernel_rfl) (by kernel_rfl) (by kernel_rfl) (fun _ _ _ h => h) (by rfl) hHeld ?_ ?_; rotate_left; (focus (intro w hSw; (try dsimp only at hSw); go_simp; (try with_reducible rfl); done)); (try simp only [Act.put, List.setIfInBounds_toArray, List.set_cons_zero, List.set_cons_succ]))
        (refine wpAnyH_takeL (i := 9) (v := ?_) rfl (by kernel_rfl) (by kernel_rfl) (by kernel_rfl) (fun _ _ _ h => h) (by rfl) hHeld ?_ ?_; rotate_left; (focus (intro w hSw; (try dsimp only at hSw); go_simp; (try with_reducible rfl); done)); (try simp only [Act.put, List.setIfInBounds_toArray, List.set_cons_zero, List.set_cons_succ]))
        (refine wpAnyH_takeL (i := 11) (v := ?_) rfl (by kernel_rfl) (by kernel_rfl) (by kernel_rfl) (fun _ _ _ h => h) (by rfl) hHeld ?_ ?_; rotate_left; (focus (intro w hSw; (try dsimp only at hSw); go_simp; (try with_reducible rfl); done)); (try simp only [Act.put, List.setIfInBounds_toArray, List.set_cons_zero, List.set_cons_succ]))
        (refine wpAnyH_takeL (i := 12) (v := ?_) rfl (by kernel_rfl) (by kernel_rfl) (by kernel_rfl) (fun _ _ _ h => h) (by rfl) hHeld ?_ ?_; rotate_left; (focus (intro w hSw; (try dsimp only at hSw); go_simp; (try with_reducible rfl); done)); (try simp only [Act.put, List.setIfInBounds_toArray, List.set_cons_zero, List.set_cons_succ]))
        (refine wpAnyH_takeL (i := 13) (v := ?_) rfl (by kernel_rfl) (by kernel_rfl) (by kernel_rfl) (fun _ _ _ h => h) (by rfl) hHeld ?_ ?_; rotate_left; (focus (intro w hSw; (try dsimp only at hSw); go_simp; (try with_reducible rfl); done)); (try simp only [Act.put, List.setIfInBounds_toArray, List.set_cons_zero, List.set_cons_succ]))
        (refine wpAnyH_takeL (i := 14) (v := ?_) rfl (by kernel_rfl) (by kernel_rfl) (by kernel_rfl) (fun _ _ _ h => h) (by rfl) hHeld ?_ ?_; rotate_left; (focus (intro w hSw; (try dsimp only at hSw); go_simp; (try with_reducible rfl); done)); (try simp only [Act.put, List.setIfInBounds_toArray, List.set_cons_zero, List.set_cons_succ]))
        (refine wpAnyH_takeL (i := 15) (v := ?_) rfl (by kernel_rfl) (by kernel_rfl) (by kernel_rfl) (fun _ _ _ h => h) (by rfl) hHeld ?_ ?_; rotate_left; (focus (intro w hSw; (try dsimp only at hSw); go_simp; (try with_reducible rfl); done)); (try simp only [Act.put, List.setIfInBounds_toArray, List.set_cons_zero, List.set_cons_succ]))
        (refine wpAnyH_callL (i := 10) rfl (by kernel_rfl) (by rfl) (fun K hK => ?_); go_simp)
        go_at_call 42
        refine (pending_calls w4 hD.k).mono ?_
        rintro e w4' ⟨rfl, rfl⟩
        refine hK.out _ _ f5 (fun hHeld => ?_)
        (clear hK K; (try simp only [Act.put, List.setIfInBounds_toArray, List.set_cons_zero, List.set_cons_succ]))
        (refine wpAnyH_takeL (i := 16) (v := ?_) rfl (by kernel_rfl) (by kernel_rfl) (by kernel_rfl) (fun _ _ _ h => h) (by rfl) hHeld ?_ ?_; rotate_left; (focus (intro w hSw; (try dsimp only at hSw); go_simp; (try with_reducible rfl); done)); (try simp only [Act.put, List.setIfInBounds_toArray, List.set_cons_zero, List.set_cons_succ]))
        (refine wpAnyH_takeL (i := 17) (v := ?_) rfl (by kernel_rfl) (by kernel_rfl) (by kernel_rfl) (fun _ _ _ h => h) (by rfl) hHeld ?_ ?_; rotate_left; (focus (intro w hSw; (try dsimp only at hSw); go_simp; (try with_reducible rfl); done)); (try simp only [Act.put, List.setIfInBounds_toArray, List.set_cons_zero, List.set_cons_succ]))
        (refine wpAnyH_takeL (i := 18) (v := ?_) rfl (by kernel_rfl) (by kernel_rfl) (by kernel_rfl) (fun _ _ _ h => h) (by rfl) hHeld ?_ ?_; rotate_left; (focus (intro w hSw; (try dsimp only at hSw); go_simp; (try with_reducible rfl); done)); (try simp only [Act.put, List.setIfInBounds_toArray, List.set_cons_zero, List.set_cons_succ]))
        (refine wpAnyH_takeL (i := 19) (v := ?_) rfl (by kernel_rfl) (by kernel_rfl) (by kernel_rfl) (fun _ _ _ h => h) (by rfl) hHeld ?_ ?_; rotate_left; (focus (intro w hSw; (try dsimp only at hSw); go_simp; (try with_reducible rfl); done)); (try simp only [Act.put, List.setIfInBounds_toArray, List.set_cons_zero, List.set_cons_succ]))
        (refine wpAnyH_takeL (i := 21) (v := ?_) rfl (by kernel_rfl) (by kernel_rfl) (by kernel_rfl) (fun _ _ _ h => h) (by rfl) hHeld ?_ ?_; rotate_left; (focus (intro w hSw; (try dsimp only at hSw); go_simp; (try with_reducible rfl); done)); (try simp only [Act.put, List.setIfInBounds_toArray, List.set_cons_zero, List.set_cons_succ]))
        (refine wpAnyH_takeL (i := 22) (v := ?_) rfl (by kernel_rfl) (by kernel_rfl) (by kernel_rfl) (fun _ _ _ h => h) (by rfl) hHeld ?_ ?_; rotate_left; (focus (intro w hSw; (try dsimp only at hSw); go_simp; (try with_reducible rfl); done)); (try simp only [Act.put, List.setIfInBounds_toArray, List.set_cons_zero, List.set_cons_succ]))
        (refine wpAnyH_takeL (i := 23) (v := ?_) rfl (by kernel_rfl) (by kernel_rfl) (by kernel_rfl) (fun _ _ _ h => h) (by rfl) hHeld ?_ ?_; rotate_left; (focus (intro w hSw; (try dsimp only at hSw); go_simp; (try with_reducible rfl); done)); (try simp only [Act.put, List.setIfInBounds_toArray, List.set_cons_zero, List.set_cons_succ]))
        (refine wpAnyH_takeL (i := 24) (v := ?_) rfl (by kernel_rfl) (by kernel_rfl) (by kernel_rfl) (fun _ _ _ h => h) (by rfl) hHeld ?_ ?_; rotate_left; (focus (intro w hSw; (try dsimp only at hSw); go_simp; (try with_reducible rfl); done)); (try simp only [Act.put, List.setIfInBounds_toArray, List.set_cons_zero, List.set_cons_succ]))
        (refine wpAnyH_callL (i := 20) rfl (by kernel_rfl) (by rfl) (fun K hK => ?_); go_simp)
        go_at_call 55
        refine (ops_calls w4 hD.k).mono ?_
        rintro e w4' ⟨rfl, rfl⟩
        refine hK.out _ _ f5 (fun hHeld => ?_)
        (clear hK K; (try simp only [Act.put, List.setIfInBounds_toArray, List.set_cons_zero, List.set_cons_succ]))
        (refine wpAnyH_takeL (i := 25) (v := ?_) rfl (by kernel_rfl) (by kernel_rfl) (by kernel_rfl) (fun _ _ _ h => h) (by rfl) hHeld ?_ ?_; rotate_left; (focus (intro w hSw; (try dsimp only at hSw); go_simp; (try with_reducible rfl); done)); (try simp only [Act.put, List.setIfInBounds_toArray, List.set_cons_zero, List.set_cons_succ]))
        (refine wpAnyH_takeL (i := 26) (v := ?_) rfl (by kernel_rfl) (by kernel_rfl) (by kernel_rfl) (fun _ _ _ h => h) (by rfl) hHeld ?_ ?_; rotate_left; (focus (intro w hSw; (try dsimp only at hSw); go_simp; (try with_reducible rfl); done)); (try simp only [Act.put, List.setIfInBounds_toArray, List.set_cons_zero, List.set_cons_succ]))
        (refine wpAnyH_takeL (i := 27) (v := ?_) rfl (by kernel_rfl) (by kernel_rfl) (by kernel_rfl) (fun _ _ _ h => h) (by rfl) hHeld ?_ ?_; rotate_left; (focus (intro w hSw; (try dsimp only at hSw); go_simp; (try with_reducible rfl); done)); (try simp only [Act.put, List.setIfInBounds_toArray, List.set_cons_zero, List.set_cons_succ]))
        (refine wpAnyH_takeL (i := 28) (v := ?_) rfl (by kernel_rfl) (by kernel_rfl) (by kernel_rfl) (fun _ _ _ h => h) (by rfl) hHeld ?_ ?_; rotate_left; (focus (intro w hSw; (try dsimp only at hSw); go_simp; (try with_reducible rfl); done)); (try simp only [Act.put, List.setIfInBounds_toArray, List.set_cons_zero, List.set_cons_succ]))
        (refine wpAnyH_takeL (i := 30) (v := ?_) rfl (by kernel_rfl) (by kernel_rfl) (by kernel_rfl) (fun _ _ _ h => h) (by rfl) hHeld ?_ ?_; rotate_left; (focus (intro w hSw; (try dsimp only at hSw); go_simp; (try with_reducible rfl); done)); (try simp only [Act.put, List.setIfInBounds_toArray, List.set_cons_zero, List.set_cons_succ]))
        (refine wpAnyH_takeL (i := 31) (v := ?_) rfl (by kernel_rfl) (by kernel_rfl) (by kernel_rfl) (fun _ _ _ h => h) (by rfl) hHeld ?_ ?_; rotate_left; (focus (intro w hSw; (try dsimp only at hSw); go_simp; (try with_reducible rfl); done)); (try simp only [Act.put, List.setIfInBounds_toArray, List.set_cons_zero, List.set_cons_succ]))
        (refine wpAnyH_takeL (i := 32) (v := ?_) rfl (by kernel_rfl) (by kernel_rfl) (by kernel_rfl) (fun _ _ _ h => h) (by rfl) hHeld ?_ ?_; rotate_left; (focus (intro w hSw; (try dsimp only at hSw); go_simp; (try with_reducible rfl); done)); (try simp only [Act.put, List.setIfInBounds_toArray, List.set_cons_zero, List.set_cons_succ]))
        (refine wpAnyH_takeL (i := 33) (v := ?_) rfl (by kernel_rfl) (by kernel_rfl) (by kernel_rfl) (fun _ _ _ h => h) (by rfl) hHeld ?_ ?_; rotate_left; (focus (intro w hSw; (try dsimp only at hSw); go_simp; (try with_reducible rfl); done)); (try simp only [Act.put, List.setIfInBounds_toArray, List.set_cons_zero, List.set_cons_succ]))
        (refine wpAnyH_callL (i := 29) rfl (by kernel_rfl) (by rfl) (fun K hK => ?_); go_simp)
        go_at_call 51
        refine (on_calls w4 hD.k).mono ?_
        rintro e w4' ⟨rfl, rfl⟩
        refine hK.out _ _ f5 (fun hHeld => ?_)
        (clear hK K; (try simp only [Act.put, List.setIfInBounds_toArray, List.set_cons_zero, List.set_cons_succ]))
        (refine wpAnyH_takeL (i := 34) (v := ?_) rfl (by kernel_rfl) (by kernel_rfl) (by kernel_rfl) (fun _ _ _ h => h) (by rfl) hHeld ?_ ?_; rotate_left; (focus (intro w hSw; (try dsimp only at hSw); go_simp; (try with_reducible rfl); done)); (try simp only [Act.put, List.setIfInBounds_toArray, List.set_cons_zero, List.set_cons_succ]))
        (refine wpAnyH_takeL (i := 35) (v := ?_) rfl (by kernel_rfl) (by kernel_rfl) (by kernel_rfl) (fun _ _ _ h => h) (by rfl) hHeld ?_ ?_; rotate_left; (focus (intro w hSw; (try dsimp only at hSw); go_simp; (try with_reducible rfl); done)); (try simp only [Act.put, List.setIfInBounds_toArray, List.set_cons_zero, List.set_cons_succ]))
        (refine wpAnyH_done (by kernel_rfl) ?_ _)
        have hBo4 : Bo w4 w.heap.size d lb x D' := ⟨pA, _, mc, lA, lc, wAA, wc, hD, hR⟩
        clear hHeld f5 f4 f0 hns kx hD hR hBo
        go_wp2
        go_roundw
        case rel => exact ⟨i + 1, D', by omega, by omega, by go_num, hBo4, by have := hfin.out.1.1; omega, by have := hfin.out.1.2.1; omega, hfin.out.1.2.2.trans hnl, hfin.out.2⟩
        case measure => simp [intOf]; omega
      · have hcs : ¬ ((i : Int) < sn) ∨ ((i : Int) < sn ∧ ¬ (i : Int) < 80) := by omega
        obtain ⟨pA, m, mc, lA, lc, wAA, wc, hD, hR⟩ := hBo
        clear h hlt
        rcases hcs with l1 | ⟨l1, l2⟩
        all_goals
          go_wp2_with fail
          refine (rest_calls (n := 0) (kl := []) wA hD.k ⟨rfl, Rd.nil _ _ _ _ _⟩ (fun h0 => absurd h0 (by omega))).mono ?_
          rintro e w4 ⟨rfl, hd4, hm4⟩
          have hR4 := hR.over hD.k (hm4.mono (fun i hi => by rcases hi with e | e; exact .inl e; exact .inr (.inl e)))
          have hD4 : DskB w4 w.heap.size d lb none 0 0 (restD D 0 []) := ⟨hd4, hD.hd, hD.hl, fun b hb => by cases hb⟩
          have hB4 := below_tr hB (hm4.below hB.size hD.footL)
          clear hm4 hd4
          go_wp2_with fail
          refine (rrest_calls (n := 0) (kl := []) w4 hR4 ⟨rfl, Rd.nil _ _ _ _ _⟩ (fun h0 => absurd h0 (by omega))).mono ?_
          rintro e w5 ⟨rfl, hR5, hm5⟩
          have hD5 := hD4.over hR4 hm5
          have hB5 := below_tr hB4 (hm5.below hB4.size hR4.foot)
          have hL : (restD D 0 []).l.length = n := (restD_len D 0 []).trans hnl
          have hO : (restD D 0 []).off = false := rfl
          generalize restD D 0 [] = E at *
          clear hD4 hR4 hm5 hB4 hD hR hB
          go_upto_region 17 with (fail)
          go_loopw [9] (fun v9 wr => ∃ j : Nat, j ≤ n ∧ j ≤ 40 ∧ v9 = .int .i64 j ∧ DskB wr w.heap.size d lb none 0 0 E ∧ Rf wr w.heap.size x lA lc none 0 E ∧ Below w.heap.size w wr) (fun v9 _ => 40 - (intOf v9).toNat)
          case atStart => exact ⟨0, Nat.zero_le _, Nat.zero_le _, rfl, hD5, hR5, hB5⟩
          case round =>
            clear hD5 hR5 hB5
            obtain ⟨j, hj, hj4, rfl, hD, hR, hB⟩ := hrel
            obtain ⟨wB, hwB⟩ : ∃ wB, wB = wr := ⟨_, rfl⟩
            subst hwB
            by_cases hlt : j < n ∧ j < 40
            · have q0 : (0 : Int) ≤ j := by omega
              have q1 : (j : Int) < n := by omega
              have q2 : (j : Int) < 40 := by omega
              go_wp2_with fail
              refine (read_calls j wB hD.k (by omega) hO).mono ?_
              rintro e w6 ⟨b6, rfl, hs6, hb6, hl6⟩
              have hD6 := hD.later hb6
              have hR6 := hR.later hb6
              have hB6 := below_keep hb6 hB
              have hcv := run_str 512 w6 hs6.bs2
              have hse := str_eq hs6.2.2 hs6.2.2
              have heq : eqB (readD E j) (readD E j) = true := by simp [eqB]
              rw [heq] at hse
              clear hD hR hB hb6 heq
              go_wp2_with fail
              refine (rget_ok j w6 hR6 (by omega) hO).mono ?_
              rintro e w6' ⟨rfl, rfl⟩
              go_wp2
              go_roundw
              case rel => exact ⟨j + 1, by omega, by omega, by go_num, hD6, hR6, hB6⟩
              case measure => simp [intOf]; omega
            · have hcs : ¬ ((j : Int) < n) ∨ ((j : Int) < n ∧ ¬ (j : Int) < 40) := by omega
              rcases hcs with q1 | ⟨q1, q2⟩
              all_goals
                go_wp2
                go_ret
                exact ⟨by first | rfl | simp, hB⟩
  · by_cases hn1 : n < 1
    · go_wp2_with fail
      refine (new_arg n (.inl hn1) w1).mono ?_
      rintro e w2 ⟨rfl, rfl⟩
      go_wp2
      go_ret
      exact ⟨by first | rfl | simp, hb1⟩
    · have hn2 : (4096 : Int) < n := by omega
      go_wp2_with fail
      refine (new_arg n (.inr hn2) w1).mono ?_
      rintro e w2 ⟨rfl, rfl⟩
      go_wp2
      go_ret
      exact ⟨by first | rfl | simp, hb1⟩
end Go.Proofs.Ytjgomebnlekddaa
