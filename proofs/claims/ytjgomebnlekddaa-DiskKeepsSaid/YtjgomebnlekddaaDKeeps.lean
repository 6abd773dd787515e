/- DiskKeeps: the walk of the law. -/
import Derived.Test.YtjgomebnlekddaaDAwake
import Derived.Test.YtjgomebnlekddaaBits
namespace Go.Proofs.Ytjgomebnlekddaa
set_option linter.unusedVariables false
set_option linter.unusedSimpArgs false
open Go.RowKit
theorem xorN {x : Int} (c : Nat) (hc : c < 256) (h0 : 0 ≤ x) (h1 : x ≤ 255) : 0 ≤ bits .xor .u8 x (c : Int) ∧ bits .xor .u8 x (c : Int) ≤ 255 := by
  obtain ⟨n, rfl⟩ := Int.eq_ofNat_of_zero_le h0
  have h := u8_xor_nat n c (by omega) hc
  have hx : n ^^^ c < 2 ^ 8 := Nat.xor_lt_two_pow (by omega) (by omega)
  rw [h]
  omega
theorem DskB.set {w : World} {base d lb m mc b o : Nat} {pA : Option Addr} {D : Dk} (h : DskB w base d lb pA m mc D) (hb : ¬ Foot d lb pA b) (v : Value) : DskB (w.setCell ⟨b, o, none⟩ v) base d lb pA m mc D := by
  have hm : Mod (fun k => k = b) w (w.setCell ⟨b, o, none⟩ v) := (Mod.refl (fun k => k = b) w).set (.inl rfl) _
  exact ⟨h.k.mod hm (fun e => hb (.inl e.symm)) (fun e => hb (.inr (.inl e.symm))) (fun k hk e => hb (.inr (.inr (e ▸ hk)))), h.hd, h.hl, h.hp⟩
theorem SecB.bs {w : World} {b : Nat} {s : List Int} (h : SecB w b s) : BsR w 0 w.heap.size (some ⟨b, 0, none⟩) 512 s :=
  ⟨h.2.1, h.2.2, fun _ => ⟨b, 0, rfl, Nat.zero_le _, h.1.lt, fun j hj => by
    have := h.range j (.int .u8 (s.getD j 0)) (map_at (by rw [h.2.1]; exact hj))
    simpa [bsF] using this⟩⟩
theorem SecB.set {w : World} {b k : Nat} {s : List Int} {x : Int} (h : SecB w b s) (h0 : 0 ≤ x) (h1 : x ≤ 255) : SecB (w.setCell ⟨b, k, none⟩ (.int .u8 x)) b (s.set k x) := by
  refine ⟨h.1.set.to ?_, by rw [List.length_set]; exact h.2.1, fun y hy => ?_⟩
  · unfold secV
    rw [List.map_set]
    simp
  · rcases List.mem_or_eq_of_mem_set hy with h2 | h2
    · exact h.2.2 y h2
    · omega
theorem SecB.noFoot {w : World} {b d lb m mc : Nat} {pA : Option Addr} {D : Dk} {s : List Int} (h : SecB w b s) (hd : Dsk w d lb pA m mc D) (hl : b ≠ lb) : ¬ Foot d lb pA b := by
  intro hf
  rcases hf with rfl | rfl | hf
  · exact absurd (h.1.inj hd.at_) (by decide)
  · exact hl rfl
  · exact h.1.ne_own hd.way (by decide) hf
theorem SecB.mod {w w' : World} {b : Nat} {s : List Int} {S : Nat → Prop} (h : SecB w b s) (hm : Mod S w w') (hs : ¬ S b) : SecB w' b s := ⟨h.1.mod hm hs, h.2⟩
set_option maxRecDepth 100000 in
set_option maxHeartbeats 40000000 in
theorem dkeeps_calls {n c : Nat} {A : Option Addr} {l : List Int} (w : World) (h : BsR w 0 w.heap.size A n l) : Calls Try.prog 8 #[.slice A n c] w fun e w' => e = .returned (.bool true) ∧ Below w.heap.size w w' := by
  have hbyt := Lib.hid h.2.1
  have hsec := Lib.hid (fullL_sec h.2.1)
  go_enter Try.func8, Try.ntmps8
  go_wp2_with fail
  refine (dawake_calls w).mono ?_
  rintro e w1 ⟨rfl, hb1⟩
  go_wp2_with fail
  refine (new_calls 1 (by omega) (by omega) w1).mono ?_
  rintro e w2 ⟨d, lb, rfl, hd0, hb2, hdd, hlb⟩
  have hs1 := hb1.size
  have hD2 : DskB w2 w.heap.size d lb none 0 0 (newD 1) := ⟨hd0, by omega, by omega, fun b hb => by cases hb⟩
  have hB2 := below_keep hb2 hb1
  have hs2 := hB2.size
  clear hd0 hb2 hb1
  go_wp2_with fail
  refine (full_calls c w2 (h.below hB2 (Nat.le_refl _)) hB2.size).mono ?_
  rintro e w3 ⟨b5, rfl, ho3, hb3, hl3⟩
  have hD3 := hD2.later hb3
  have hB3 := below_keep hb3 hB2
  generalize hF : fullL l = F at *
  have hF' := Lib.hid hF
  clear hF
  go_wp2_with fail
  refine (wri_own 0 w3 hD3 (by show 0 < 1; omega) rfl (by show (0 : Int) < 1000000000; omega) (by omega) ho3 hB3.size).mono ?_
  rintro e w4 ⟨rfl, ⟨pA, mc, hD4⟩, hb4, ho4, -⟩
  rw [show wrE (newD 1) = 0 from rfl]
  have hB4 := below_tr hB3 hb4
  obtain ⟨D1, hD1⟩ : ∃ D1, D1 = wrD (newD 1) 0 F := ⟨_, rfl⟩
  rw [← hD1] at hD4
  have hr1 : readD D1 0 = F := by rw [hD1]; rfl
  have hr2 : readD (syncD D1) 0 = F := by rw [hD1]; rfl
  have hlen : 0 < D1.l.length := by rw [hD1]; show 0 < 1; omega
  have hlen2 : 0 < (syncD D1).l.length := by rw [hD1]; show 0 < 1; omega
  have hoff : D1.off = false := by rw [hD1]; rfl
  have hoff2 : (syncD D1).off = false := by rw [hD1]; rfl
  have hop : (opD D1).off = false := by rw [hD1]; rfl
  have hops : D1.ops < 1000000000 := by rw [hD1]; show (1 : Int) < 1000000000; omega
  have hall := Lib.hid (And.intro hr1 (And.intro hr2 (And.intro hlen (And.intro hlen2 (And.intro hoff (And.intro hoff2 (And.intro hop hops)))))))
  clear hD1 hr1 hr2 hlen hlen2 hoff hoff2 hop hops hb4 hD3 ho3
  -- the caller's bytes are written over
  go_upto_region 8 with (fail)
  go_loopw [6] (fun v6 wr => ∃ (t : Nat) (q : List Int), t ≤ 512 ∧ v6 = .int .i64 t ∧ OwB wr w2.heap.size (some ⟨b5, 0, none⟩) 512 512 q ∧ DskB wr w.heap.size d lb pA (0 + 1) mc D1 ∧ Below w.heap.size w wr) (fun v6 _ => 512 - (intOf v6).toNat)
  case atStart => exact ⟨0, F, by omega, rfl, ho4, hD4, hB4⟩
  case round =>
    clear ho4 hD4 hB4
    obtain ⟨t, q, ht, rfl, ho, hD, hB⟩ := hrel
    by_cases hlt : t < 512
    · obtain ⟨cur, hat, -, -, -⟩ := ho.at_
      obtain ⟨gx, gy, hAx, -, -, hcell⟩ := ho.reads.at_ hlt
      injection hAx with hAx
      injection hAx with e1 e2
      subst e1; subst e2
      rw [Nat.zero_add] at hcell
      have hxr := ho.2.1.getD t
      have hfro := hat.f t
      have ht0 : (0 : Int) ≤ t := by omega
      have ht1 : (t : Int) < 512 := by omega
      have hnf := ho.noFoot hD.k _ rfl
      have hb5 : w.heap.size ≤ b5 := by omega
      generalize q.getD t 0 = x at *
      have hxx := xorN 1 (by omega) hxr.1 hxr.2
      obtain ⟨y, hy⟩ : ∃ y, bits .xor .u8 x 1 = y := ⟨_, rfl⟩
      rw [show ((1 : Nat) : Int) = 1 from rfl, hy] at hxx
      clear hat
      go_wp2
      go_roundw
      case rel => exact ⟨t + 1, _, by omega, by go_num, ho.set hlt hxx.1 hxx.2, hD.set hnf _, hB.setCell hb5 _⟩
      case measure => simp [intOf]; omega
    · obtain rfl : t = 512 := by omega
      obtain ⟨wA, hwA⟩ : ∃ wA, wA = wr := ⟨_, rfl⟩
      subst hwA
      clear ho hlt ht
      go_wp2_with fail
      refine (read_calls 0 wA hD.k hall.out.2.2.1 hall.out.2.2.2.2.1).mono ?_
      rintro e w5 ⟨b7, rfl, hs5, hb5, hl5⟩
      rw [hall.out.1] at hs5
      have hB5 := below_keep hb5 hB
      have h7 : w.heap.size ≤ b7 := Nat.le_trans hB.size hl5
      have h7l : b7 ≠ lb := fun e => by have := hD.lts; omega
      have hD5 := hD.later hb5
      clear hD hB hb5 hl5
      go_upto_region 13 with (fail)
      go_loopw [9] (fun v9 wr => ∃ (t : Nat) (q : List Int), t ≤ 512 ∧ v9 = .int .i64 t ∧ SecB wr b7 q ∧ DskB wr w.heap.size d lb pA (0 + 1) mc D1 ∧ Below w.heap.size w wr) (fun v9 _ => 512 - (intOf v9).toNat)
      case atStart => exact ⟨0, F, by omega, rfl, hs5, hD5, hB5⟩
      case round =>
        clear hs5 hD5 hB5
        obtain ⟨t, q, ht, rfl, hs, hD, hB⟩ := hrel
        by_cases hlt : t < 512
        · obtain ⟨gx, gy, hAx, -, -, hcell⟩ := hs.bs.at_ hlt
          injection hAx with hAx
          injection hAx with e1 e2
          subst e1; subst e2
          rw [Nat.zero_add] at hcell
          have hxr := hs.2.2.getD t
          have hfro := hs.1.f t
          have ht0 : (0 : Int) ≤ t := by omega
          have ht1 : (t : Int) < 512 := by omega
          have hnf := hs.noFoot hD.k h7l
          generalize q.getD t 0 = x at *
          have hxx := xorN 2 (by omega) hxr.1 hxr.2
          obtain ⟨y, hy⟩ : ∃ y, bits .xor .u8 x 2 = y := ⟨_, rfl⟩
          rw [show ((2 : Nat) : Int) = 2 from rfl, hy] at hxx
          go_wp2
          go_roundw
          case rel => exact ⟨t + 1, _, by omega, by go_num, hs.set hxx.1 hxx.2, hD.set hnf _, hB.setCell h7 _⟩
          case measure => simp [intOf]; omega
        · obtain rfl : t = 512 := by omega
          obtain ⟨wB, hwB⟩ : ∃ wB, wB = wr := ⟨_, rfl⟩
          subst hwB
          clear hs hlt ht
          go_wp2_with fail
          refine (read_calls 0 wB hD.k hall.out.2.2.1 hall.out.2.2.2.2.1).mono ?_
          rintro e w6 ⟨b10, rfl, hs6, hb6, hl6⟩
          rw [hall.out.1] at hs6
          have hB6 := below_keep hb6 hB
          have h10l : b10 ≠ lb := fun e => by have := hD.lts; omega
          have h10d : b10 ≠ d := fun e => by have := hD.lts; omega
          have hD6 := hD.later hb6
          clear hD hB hb6 hl6
          go_wp2_with fail
          refine (sync_calls w6 hD6.k hall.out.2.2.2.2.1 hall.out.2.2.2.2.2.2.2 hall.out.2.2.2.2.2.2.1).mono ?_
          rintro e w7 ⟨rfl, hd7, hm7⟩
          have hD7 : DskB w7 w.heap.size d lb none 0 0 (syncD D1) := ⟨hd7, hD6.hd, hD6.hl, fun b hb => by cases hb⟩
          have hs7 := hs6.mod hm7 (fun e => by rcases e with e | e; exact h10d e; exact h10l e)
          have hB7 := below_tr hB6 (hm7.below hB6.size hD6.footL)
          clear hD6 hs6 hB6 hd7 hm7
          go_wp2_with fail
          refine (read_calls 0 w7 hD7.k hall.out.2.2.2.1 hall.out.2.2.2.2.2.1).mono ?_
          rintro e w8 ⟨b13, rfl, hs8, hb8, hl8⟩
          rw [hall.out.2.1] at hs8
          have hB8 := below_keep hb8 hB7
          have h13 : w.heap.size ≤ b13 := Nat.le_trans hB7.size hl8
          have h13l : b13 ≠ lb := fun e => by have := hD7.lts; omega
          have hne := Lib.hid (show b10 ≠ b13 from fun e => by have := hs7.1.lt; omega)
          have hD8 := hD7.later hb8
          have hs7' := hs7.keep hb8
          clear hD7 hB7 hb8 hl8 hs7
          go_upto_region 20 with (fail)
          go_loopw [15] (fun v9 wr => ∃ (t : Nat) (q : List Int), t ≤ 512 ∧ v9 = .int .i64 t ∧ SecB wr b13 q ∧ DskB wr w.heap.size d lb none 0 0 (syncD D1) ∧ Below w.heap.size w wr ∧ SecB wr b10 F) (fun v9 _ => 512 - (intOf v9).toNat)
          case atStart => exact ⟨0, F, by omega, rfl, hs8, hD8, hB8, hs7'⟩
          case round =>
            clear hs8 hD8 hB8
            obtain ⟨t, q, ht, rfl, hs, hD, hB, hs10⟩ := hrel
            by_cases hlt : t < 512
            · obtain ⟨gx, gy, hAx, -, -, hcell⟩ := hs.bs.at_ hlt
              injection hAx with hAx
              injection hAx with e1 e2
              subst e1; subst e2
              rw [Nat.zero_add] at hcell
              have hxr := hs.2.2.getD t
              have hfro := hs.1.f t
              have ht0 : (0 : Int) ≤ t := by omega
              have ht1 : (t : Int) < 512 := by omega
              have hnf := hs.noFoot hD.k h13l
              generalize q.getD t 0 = x at *
              have hxx := xorN 4 (by omega) hxr.1 hxr.2
              obtain ⟨y, hy⟩ : ∃ y, bits .xor .u8 x 4 = y := ⟨_, rfl⟩
              rw [show ((4 : Nat) : Int) = 4 from rfl, hy] at hxx
              go_wp2
              go_roundw
              case rel => exact ⟨t + 1, _, by omega, by go_num, hs.set hxx.1 hxx.2, hD.set hnf _, hB.setCell h13 _, ⟨hs10.1.set_ne hne.out, hs10.2⟩⟩
              case measure => simp [intOf]; omega
            · obtain rfl : t = 512 := by omega
              obtain ⟨wB, hwB⟩ : ∃ wB, wB = wr := ⟨_, rfl⟩
              subst hwB
              clear hs hlt ht
              go_wp2_with fail
              refine (read_calls 0 wB hD.k hall.out.2.2.2.1 hall.out.2.2.2.2.2.1).mono ?_
              rintro e w9 ⟨b16, rfl, hs9, hb9, -⟩
              rw [hall.out.2.1] at hs9
              have hB9 := below_keep hb9 hB
              have hs10' := hs10.keep hb9
              clear hD hB hb9 hs10
              go_upto_region 24 with (fail)
              have hcv := Lib.hid (fun w' (hb : Below w9.heap.size w9 w') => And.intro (run_str 512 w' (hs10'.keep hb).bs) (run_str 512 w' (hs9.keep hb).bs))
              have hfin := Lib.hid (fun w' (hb : Below w9.heap.size w9 w') => below_keep hb hB9)
              have hh := Lib.hid (fun w' (hb : Below w9.heap.size w9 w') => h.below (below_keep hb hB9) (Nat.le_refl _))
              have hsz := Lib.hid (fun w' (hb : Below w9.heap.size w9 w') => (below_keep hb hB9).size)
              have d0 : Below w9.heap.size w9 w9.drew := below_dr (Below.refl _ _)
              have f0 := hcv.out _ d0
              clear hs9 hs10' hB9 h hall
              refine wp_region_held_drew (S := fun w' => (convert 23 9 (.slice (some ⟨b10, 0, none⟩) 512 512)).run Try.prog w' = .ok (.string (strL F)) w' ∧ (convert 23 9 (.slice (some ⟨b16, 0, none⟩) 512 512)).run Try.prog w' = .ok (.string (strL F)) w') (by kernel_rfl) f0 (fun hHeld => ?_)
              (refine wpAnyH_takeL (i := 0) (v := ?_) rfl (by kernel_rfl) (by kernel_rfl) (by kernel_rfl) (fun _ _ _ h => h) (by rfl) hHeld ?_ ?_; rotate_left; (focus (intro w hSw; (try dsimp only at hSw); go_simp; (try with_reducible rfl); done)); (try simp only [Act.put, List.setIfInBounds_toArray, List.set_cons_zero, List.set_cons_succ]))
              (refine wpAnyH_takeL (i := 1) (v := ?_) rfl (by kernel_rfl) (by kernel_rfl) (by kernel_rfl) (fun _ _ _ h => h) (by rfl) hHeld ?_ ?_; rotate_left; (focus (intro w hSw; (try dsimp only at hSw); go_simp; (try with_reducible rfl); done)); (try simp only [Act.put, List.setIfInBounds_toArray, List.set_cons_zero, List.set_cons_succ]))
              (refine wpAnyH_takeL (i := 2) (v := ?_) rfl (by kernel_rfl) (by kernel_rfl) (by kernel_rfl) (fun _ _ _ h => h) (by rfl) hHeld ?_ ?_; rotate_left; (focus (intro w hSw; (try dsimp only at hSw); go_simp; (try with_reducible rfl); done)); (try simp only [Act.put, List.setIfInBounds_toArray, List.set_cons_zero, List.set_cons_succ]))
              (refine wpAnyH_takeL (i := 3) (v := ?_) rfl (by kernel_rfl) (by kernel_rfl) (by kernel_rfl) (fun _ _ _ h => h) (by rfl) hHeld ?_ ?_; rotate_left; (focus (intro w hSw; (try dsimp only at hSw); go_simp; (try with_reducible rfl); done)); (try simp only [Act.put, List.setIfInBounds_toArray, List.set_cons_zero, List.set_cons_succ]))
              (refine wpAnyH_takeL (i := 4) (v := ?_) rfl (by kernel_rfl) (by kernel_rfl) (by kernel_rfl) (fun _ _ _ h => h) (by rfl) hHeld ?_ ?_; rotate_left; (focus (intro w hSw; (try dsimp only at hSw); go_simp; (try with_reducible rfl); done)); (try simp only [Act.put, List.setIfInBounds_toArray, List.set_cons_zero, List.set_cons_succ]))
              (refine wpAnyH_takeL (i := 5) (v := ?_) rfl (by kernel_rfl) (by kernel_rfl) (by kernel_rfl) (fun _ _ _ h => h) (by rfl) hHeld ?_ ?_; rotate_left; (focus (intro w hSw; (try dsimp only at hSw); go_simp; (try with_reducible rfl); done)); (try simp only [Act.put, List.setIfInBounds_toArray, List.set_cons_zero, List.set_cons_succ]))
              (refine wpAnyH_takeL (i := 6) (v := ?_) rfl (by kernel_rfl) (by kernel_rfl) (by kernel_rfl) (fun _ _ _ h => h) (by rfl) hHeld ?_ ?_; rotate_left; (focus (intro w hSw; (try dsimp only at hSw); go_simp; (try with_reducible rfl); done)); (try simp only [Act.put, List.setIfInBounds_toArray, List.set_cons_zero, List.set_cons_succ]))
              (refine wpAnyH_takeL (i := 7) (v := ?_) rfl (by kernel_rfl) (by kernel_rfl) (by kernel_rfl) (fun _ _ _ h => h) (by rfl) hHeld ?_ ?_; rotate_left; (focus (intro w hSw; (try dsimp only at hSw); go_simp; (try with_reducible rfl); done)); (try simp only [Act.put, List.setIfInBounds_toArray, List.set_cons_zero, List.set_cons_succ]))
              (refine wpAnyH_takeL (i := 8) (v := ?_) rfl (by kernel_rfl) (by kernel_rfl) (by kernel_rfl) (fun _ _ _ h => h) (by rfl) hHeld ?_ ?_; rotate_left; (focus (intro w hSw; (try dsimp only at hSw); go_simp; (try with_reducible rfl); done)); (try simp only [Act.put, List.setIfInBounds_toArray, List.set_cons_zero, List.set_cons_succ]))
              (refine wpAnyH_takeL (i := 9) (v := ?_) rfl (by kernel_rfl) (by kernel_rfl) (by kernel_rfl) (fun _ _ _ h => h) (by rfl) hHeld ?_ ?_; rotate_left; (focus (intro w hSw; (try dsimp only at hSw); go_simp; (try with_reducible rfl); done)); (try simp only [Act.put, List.setIfInBounds_toArray, List.set_cons_zero, List.set_cons_succ]))
              (refine wpAnyH_takeL (i := 10) (v := ?_) rfl (by kernel_rfl) (by kernel_rfl) (by kernel_rfl) (fun _ _ _ h => h) (by rfl) hHeld ?_ ?_; rotate_left; (focus (intro w hSw; (try dsimp only at hSw); go_simp; (try with_reducible rfl); done)); (try simp only [Act.put, List.setIfInBounds_toArray, List.set_cons_zero, List.set_cons_succ]))
              (refine wpAnyH_takeL (i := 11) (v := ?_) rfl (by kernel_rfl) (by kernel_rfl) (by kernel_rfl) (fun _ _ _ h => h) (by rfl) hHeld ?_ ?_; rotate_left; (focus (intro w hSw; (try dsimp only at hSw); go_simp; (try with_reducible rfl); done)); (try simp only [Act.put, List.setIfInBounds_toArray, List.set_cons_zero, List.set_cons_succ]))
              (refine wpAnyH_takeL (i := 12) (v := ?_) rfl (by kernel_rfl) (by kernel_rfl) (by kernel_rfl) (fun _ _ _ h => h) (by rfl) hHeld ?_ ?_; rotate_left; (focus (intro w hSw; (try dsimp only at hSw); go_simp; (try with_reducible rfl); done)); (try simp only [Act.put, List.setIfInBounds_toArray, List.set_cons_zero, List.set_cons_succ]))
              (refine wpAnyH_takeL (i := 13) (v := ?_) rfl (by kernel_rfl) (by kernel_rfl) (by kernel_rfl) (fun _ _ _ h => h) (by rfl) hHeld ?_ ?_; rotate_left; (focus (intro w hSw; (try dsimp only at hSw); go_simp; (try with_reducible rfl); done)); (try simp only [Act.put, List.setIfInBounds_toArray, List.set_cons_zero, List.set_cons_succ]))
              (refine wpAnyH_takeL (i := 14) (v := ?_) rfl (by kernel_rfl) (by kernel_rfl) (by kernel_rfl) (fun _ _ _ h => h) (by rfl) hHeld ?_ ?_; rotate_left; (focus (intro w hSw; (try dsimp only at hSw); go_simp; (try with_reducible rfl); done)); (try simp only [Act.put, List.setIfInBounds_toArray, List.set_cons_zero, List.set_cons_succ]))
              (refine wpAnyH_takeL (i := 15) (v := ?_) rfl (by kernel_rfl) (by kernel_rfl) (by kernel_rfl) (fun _ _ _ h => h) (by rfl) hHeld ?_ ?_; rotate_left; (focus (intro w hSw; (try dsimp only at hSw); go_simp; (try with_reducible rfl); done)); (try simp only [Act.put, List.setIfInBounds_toArray, List.set_cons_zero, List.set_cons_succ]))
              (refine wpAnyH_takeL (i := 16) (v := ?_) rfl (by kernel_rfl) (by kernel_rfl) (by kernel_rfl) (fun _ _ _ h => h) (by rfl) hHeld ?_ ?_; rotate_left; (focus (intro w hSw; (try dsimp only at hSw); go_simp; (try with_reducible rfl); done)); (try simp only [Act.put, List.setIfInBounds_toArray, List.set_cons_zero, List.set_cons_succ]))
              (refine wpAnyH_takeL (i := 17) (v := ?_) rfl (by kernel_rfl) (by kernel_rfl) (by kernel_rfl) (fun _ _ _ h => h) (by rfl) hHeld ?_ ?_; rotate_left; (focus (intro w hSw; (try dsimp only at hSw); go_simp; (try with_reducible rfl); done)); (try simp only [Act.put, List.setIfInBounds_toArray, List.set_cons_zero, List.set_cons_succ]))
              (refine wpAnyH_takeL (i := 18) (v := ?_) rfl (by kernel_rfl) (by kernel_rfl) (by kernel_rfl) (fun _ _ _ h => h) (by rfl) hHeld ?_ ?_; rotate_left; (focus (intro w hSw; (try dsimp only at hSw); go_simp; (try with_reducible rfl); done)); (try simp only [Act.put, List.setIfInBounds_toArray, List.set_cons_zero, List.set_cons_succ]))
              (refine wpAnyH_takeL (i := 19) (v := ?_) rfl (by kernel_rfl) (by kernel_rfl) (by kernel_rfl) (fun _ _ _ h => h) (by rfl) hHeld ?_ ?_; rotate_left; (focus (intro w hSw; (try dsimp only at hSw); go_simp; (try with_reducible rfl); done)); (try simp only [Act.put, List.setIfInBounds_toArray, List.set_cons_zero, List.set_cons_succ]))
              (refine wpAnyH_takeL (i := 20) (v := ?_) rfl (by kernel_rfl) (by kernel_rfl) (by kernel_rfl) (fun _ _ _ h => h) (by rfl) hHeld ?_ ?_; rotate_left; (focus (intro w hSw; (try dsimp only at hSw); go_simp; (try with_reducible rfl); done)); (try simp only [Act.put, List.setIfInBounds_toArray, List.set_cons_zero, List.set_cons_succ]))
              (refine wpAnyH_takeL (i := 21) (v := ?_) rfl (by kernel_rfl) (by kernel_rfl) (by kernel_rfl) (fun _ _ _ h => h) (by rfl) hHeld ?_ ?_; rotate_left; (focus (intro w hSw; (try dsimp only at hSw); go_simp; (try with_reducible rfl); done)); (try simp only [Act.put, List.setIfInBounds_toArray, List.set_cons_zero, List.set_cons_succ]))
              (refine wpAnyH_callL (i := 22) rfl (by kernel_rfl) (by rfl) (fun K hK => ?_); go_simp)
              go_at_call 34
              refine (full_calls c w9.drew (hh.out _ d0) (hsz.out _ d0)).mono ?_
              rintro e wC ⟨bC, rfl, hoC, hbC, -⟩
              rw [hF'.out] at hoC
              have d1 := below_keep hbC d0
              have f1 := hcv.out _ d1
              clear hHeld f0
              refine hK.out _ _ f1 (fun hHeld => ?_)
              (clear hK K; (try simp only [Act.put, List.setIfInBounds_toArray, List.set_cons_zero, List.set_cons_succ]))
              refine wpAnyH_mono (S' := fun w' => (convert 23 9 (.slice (some ⟨b10, 0, none⟩) 512 512)).run Try.prog w' = .ok (.string (strL F)) w' ∧ (convert 23 9 (.slice (some ⟨b16, 0, none⟩) 512 512)).run Try.prog w' = .ok (.string (strL F)) w' ∧ (convert 23 9 (.slice (some ⟨bC, 0, none⟩) 512 512)).run Try.prog w' = .ok (.string (strL F)) w') (fun w' h => ⟨h.1, h.2.1⟩) _ _ _ _ ?_
              replace hHeld := And.intro f1.1 (And.intro f1.2 (run_str 512 wC hoC.reads))
              clear f1
              (refine wpAnyH_takeL (i := 23) (v := ?_) rfl (by kernel_rfl) (by kernel_rfl) (by kernel_rfl) (fun _ _ _ h => h) (by rfl) hHeld ?_ ?_; rotate_left; (focus (intro w hSw; (try dsimp only at hSw); go_simp; (try with_reducible rfl); done)); (try simp only [Act.put, List.setIfInBounds_toArray, List.set_cons_zero, List.set_cons_succ]))
              (refine wpAnyH_takeL (i := 24) (v := ?_) rfl (by kernel_rfl) (by kernel_rfl) (by kernel_rfl) (fun _ _ _ h => h) (by rfl) hHeld ?_ ?_; rotate_left; (focus (intro w hSw; (try dsimp only at hSw); go_simp; (try with_reducible rfl); done)); (try simp only [Act.put, List.setIfInBounds_toArray, List.set_cons_zero, List.set_cons_succ]))
              (refine wpAnyH_takeL (i := 25) (v := ?_) rfl (by kernel_rfl) (by kernel_rfl) (by kernel_rfl) (fun _ _ _ h => h) (by rfl) hHeld ?_ ?_; rotate_left; (focus (intro w hSw; (try dsimp only at hSw); go_simp; (try with_reducible rfl); done)); (try simp only [Act.put, List.setIfInBounds_toArray, List.set_cons_zero, List.set_cons_succ]))
              (refine wpAnyH_takeL (i := 26) (v := ?_) rfl (by kernel_rfl) (by kernel_rfl) (by kernel_rfl) (fun _ _ _ h => h) (by rfl) hHeld ?_ ?_; rotate_left; (focus (intro w hSw; (try dsimp only at hSw); go_simp; (try with_reducible rfl); done)); (try simp only [Act.put, List.setIfInBounds_toArray, List.set_cons_zero, List.set_cons_succ]))
              (refine wpAnyH_takeL (i := 27) (v := ?_) rfl (by kernel_rfl) (by kernel_rfl) (by kernel_rfl) (fun _ _ _ h => h) (by rfl) hHeld ?_ ?_; rotate_left; (focus (intro w hSw; (try dsimp only at hSw); go_simp; (try with_reducible rfl); done)); (try simp only [Act.put, List.setIfInBounds_toArray, List.set_cons_zero, List.set_cons_succ]))
              (refine wpAnyH_takeL (i := 28) (v := ?_) rfl (by kernel_rfl) (by kernel_rfl) (by kernel_rfl) (fun _ _ _ h => h) (by rfl) hHeld ?_ ?_; rotate_left; (focus (intro w hSw; (try dsimp only at hSw); go_simp; (try with_reducible rfl); done)); (try simp only [Act.put, List.setIfInBounds_toArray, List.set_cons_zero, List.set_cons_succ]))
              (refine wpAnyH_takeL (i := 29) (v := ?_) rfl (by kernel_rfl) (by kernel_rfl) (by kernel_rfl) (fun _ _ _ h => h) (by rfl) hHeld ?_ ?_; rotate_left; (focus (intro w hSw; (try dsimp only at hSw); go_simp; (try with_reducible rfl); done)); (try simp only [Act.put, List.setIfInBounds_toArray, List.set_cons_zero, List.set_cons_succ]))
              (refine wpAnyH_callL (i := 30) rfl (by kernel_rfl) (by rfl) (fun K hK => ?_); go_simp)
              go_at_call 34
              refine (full_calls c wC (hh.out _ d1) (hsz.out _ d1)).mono ?_
              rintro e wE ⟨bE, rfl, hoE, hbE, -⟩
              rw [hF'.out] at hoE
              have d2 := below_keep hbE d1
              have f2 := hcv.out _ d2
              have f3 := run_str 512 wE (hoC.later hbE).reads
              clear hHeld
              refine hK.out _ _ ⟨f2.1, f2.2, f3⟩ (fun hHeld => ?_)
              (clear hK K; (try simp only [Act.put, List.setIfInBounds_toArray, List.set_cons_zero, List.set_cons_succ]))
              refine wpAnyH_mono (S' := fun w' => (convert 23 9 (.slice (some ⟨b10, 0, none⟩) 512 512)).run Try.prog w' = .ok (.string (strL F)) w' ∧ (convert 23 9 (.slice (some ⟨b16, 0, none⟩) 512 512)).run Try.prog w' = .ok (.string (strL F)) w' ∧ (convert 23 9 (.slice (some ⟨bC, 0, none⟩) 512 512)).run Try.prog w' = .ok (.string (strL F)) w' ∧ (convert 23 9 (.slice (some ⟨bE, 0, none⟩) 512 512)).run Try.prog w' = .ok (.string (strL F)) w') (fun w' h => ⟨h.1, h.2.1, h.2.2.1⟩) _ _ _ _ ?_
              replace hHeld := And.intro f2.1 (And.intro f2.2 (And.intro f3 (run_str 512 wE hoE.reads)))
              clear f2 f3
              (refine wpAnyH_takeL (i := 31) (v := ?_) rfl (by kernel_rfl) (by kernel_rfl) (by kernel_rfl) (fun _ _ _ h => h) (by rfl) hHeld ?_ ?_; rotate_left; (focus (intro w hSw; (try dsimp only at hSw); go_simp; (try with_reducible rfl); done)); (try simp only [Act.put, List.setIfInBounds_toArray, List.set_cons_zero, List.set_cons_succ]))
              (refine wpAnyH_takeL (i := 32) (v := ?_) rfl (by kernel_rfl) (by kernel_rfl) (by kernel_rfl) (fun _ _ _ h => h) (by rfl) hHeld ?_ ?_; rotate_left; (focus (intro w hSw; (try dsimp only at hSw); go_simp; (try with_reducible rfl); done)); (try simp only [Act.put, List.setIfInBounds_toArray, List.set_cons_zero, List.set_cons_succ]))
              (refine wpAnyH_takeL (i := 33) (v := ?_) rfl (by kernel_rfl) (by kernel_rfl) (by kernel_rfl) (fun _ _ _ h => h) (by rfl) hHeld ?_ ?_; rotate_left; (focus (intro w hSw; (try dsimp only at hSw); go_simp; (try with_reducible rfl); done)); (try simp only [Act.put, List.setIfInBounds_toArray, List.set_cons_zero, List.set_cons_succ]))
              (refine wpAnyH_takeL (i := 34) (v := ?_) rfl (by kernel_rfl) (by kernel_rfl) (by kernel_rfl) (fun _ _ _ h => h) (by rfl) hHeld ?_ ?_; rotate_left; (focus (intro w hSw; (try dsimp only at hSw); go_simp; (try with_reducible rfl); done)); (try simp only [Act.put, List.setIfInBounds_toArray, List.set_cons_zero, List.set_cons_succ]))
              (refine wpAnyH_done (by kernel_rfl) ?_ _)
              go_wp2
              go_ret
              exact ⟨by first | rfl | simp, hfin.out _ d2⟩
end Go.Proofs.Ytjgomebnlekddaa
