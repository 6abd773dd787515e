/- The reference disk's New by its contract. -/
import Derived.Test.YtjgomebnlekddaaRefRest
import Derived.Test.YtjgomebnlekddaaDAwake
import Derived.Test.YtjgomebnlekddaaDLastsL
namespace Go.Proofs.Ytjgomebnlekddaa
set_option linter.unusedVariables false
set_option linter.unusedSimpArgs false
open Go.RowKit
theorem strV_snoc (j : Nat) : strV (List.replicate j zeroS) ++ [.string (strL zeroS)] = strV (List.replicate (j + 1) zeroS) := by
  unfold strV
  rw [List.replicate_succ', List.map_append]
  rfl
theorem zero_str {w : World} {base b : Nat} (h : w.ownsRow base 5 1 (.slice (some ⟨b, 0, none⟩) 512 512) 512 (madeCells (Value.int .u8 0).cells (512 * 1)).toList) : (convert 23 9 (.slice (some ⟨b, 0, none⟩) 512 512)).run Try.prog w = .ok (.string (strL zeroS)) w := by
  have ho : OwB w base (some ⟨b, 0, none⟩) 512 512 zeroS := by
    refine ⟨by unfold zeroS; rw [List.length_replicate], fun x hx => ?_, ?_⟩
    · rw [List.eq_of_mem_replicate (show x ∈ List.replicate 512 0 from hx)]; omega
    · have h1 := h
      rw [show (512 : Nat) * 1 = 512 from rfl, show (Value.int .u8 0).cells = #[.int .u8 0] from rfl, toList_madeCells_one] at h1
      have h2 : zeroS.map (Value.int .u8) = List.replicate 512 (Value.int .u8 0) := by unfold zeroS; rw [List.map_replicate]
      rw [h2]; exact h1
  exact run_str 512 w ho.reads
set_option maxRecDepth 100000 in
set_option maxHeartbeats 4000000 in
theorem rnew_calls (n : Nat) (h1 : 1 ≤ n) (h2 : n ≤ 4096) (w : World) : Calls Try.prog 53 #[.int .i64 n] w fun e w' => ∃ (x lc : Nat) (lA : Option Addr), e = .returned (.pointer (some ⟨x, 0, none⟩)) ∧ Rf w' w.heap.size x lA lc none 0 (newD n) ∧ Below w.heap.size w w' := by
  obtain ⟨i0, hi0, hz0, hz1, hz2⟩ := info_parts info8
  have q1 : i0.bytes * 512 ≤ 281474976710656 := by rw [hz2]; omega
  have q2 : (512 : Nat) ≤ maxLen := by unfold maxLen; omega
  have q1' := Lib.hid q1
  have hi0' := Lib.hid hi0
  have hz0' := Lib.hid hz0
  have hz1' := Lib.hid hz1
  clear hi0 hz0 hz1 hz2 q1
  go_enter Try.func53, Try.ntmps53
  go_upto_region 2 with (fail)
  have k0 := At.new w #[.slice none 0 0, .slice none 0 0, .int .i64 0, .bool false, .int .i64 0] 79
  have hB0 := below_new w (.cells #[.slice none 0 0, .slice none 0 0, .int .i64 0, .bool false, .int .i64 0] 79)
  generalize (w.alloc (.cells #[.slice none 0 0, .slice none 0 0, .int .i64 0, .bool false, .int .i64 0] 79)) = w1 at *
  obtain ⟨x, hx⟩ : ∃ x, x = w.heap.size := ⟨_, rfl⟩
  rw [← hx] at k0 ⊢
  have hx' := Lib.hid hx
  clear hx
  go_upto_region 3 with (at_make; refine wpList_make_full w1 rfl _ _ 23 rfl w1.heap.size 5 i0 (.int .u8 0) 1 Try.underlying23 hi0'.out hz0'.out hz1'.out .i64 .i64 _ _ 512 rfl rfl rfl rfl q1'.out q2 (Nat.le_refl _) ?_; intro w2 ho1 hg1; have hcv := zero_str ho1)
  have hb2 : Below w1.heap.size w1 w2 := ⟨hg1.os, hg1.tape, hg1.output, hg1.size, fun k hk => hg1.block k hk (by simp)⟩
  have hB2 := below_keep hb2 hB0
  have k2 := At.keep hb2 k0
  clear hcv ho1 hg1 hb2 hB0 k0
  go_upto_region 4 with (fail)
  go_loopw [5] (fun v5 wr => ∃ (j c : Nat) (A : Option Addr), j ≤ n ∧ v5 = .int .i64 j ∧ At wr x #[.slice A j c, .slice none 0 0, .int .i64 0, .bool false, .int .i64 0] 79 ∧ wr.ownsRow w.heap.size 9 1 (.slice A j c) j (strV (List.replicate j zeroS)) ∧ Below w.heap.size w wr) (fun v5 _ => n - (intOf v5).toNat)
  case atStart => exact ⟨0, 0, none, by omega, rfl, k2, World.ownsRow_nil _ _ _ _, hB2⟩
  case round =>
    clear k2 hB2
    obtain ⟨j, c, A, hj, rfl, kx, hrow, hB⟩ := hrel
    by_cases hlt : j < n
    · have hj1 : (j : Int) < n := by omega
      have kxc := kx.c; have kxf := kx.f; have kxl := kx.lt
      have q1 : j + 1 ≤ maxLen := by unfold maxLen; omega
      have q2 : (j + 1) * 16 ≤ 140737488355328 := by omega
      have hne : some x ≠ ownBlk A := fun e => kx.ne_own hrow (by decide) e.symm
      have hrel9 := Lib.hid (fun (A9 : Option Addr) (c9 : Nat) (w9 : World) (ho9 : w9.ownsRow w.heap.size 9 1 (.slice A9 (j + 1) c9) (j + 1) (strV (List.replicate j zeroS) ++ [.string (strL zeroS)])) (kd : At w9 x #[.slice A j c, .slice none 0 0, .int .i64 0, .bool false, .int .i64 0] 79) => show w9.ownsRow w.heap.size 9 1 (.slice A9 (j + 1) c9) (j + 1) (strV (List.replicate (j + 1) zeroS)) ∧ ownBlk A9 ≠ some x from by
        rw [strV_snoc] at ho9
        exact ⟨ho9, kd.ne_own ho9 (by decide)⟩)
      have hxs := Lib.hid (show w.heap.size ≤ x from Nat.le_of_eq hx'.out.symm)
      go_wp2_with (at_builtin; refine wpList_appG strElt7 rfl (.tmp 19) (.tmp 21) rfl w.heap.size j c A _ rfl (owns_bel hrow (below_new wr (.cells #[.string (strL zeroS)] 9))) 1 1 (some ⟨wr.heap.size, 0, none⟩) [.string (strL zeroS)] rfl (Src.of_at (At.new wr #[.string (strL zeroS)] 9) rfl (one_str7 _)) q1 q2 (Nat.le_trans hB.size (ge_new wr _)) ?_; intro A9 c9 w9 ho9 hg9 hb9 hat9; have kd := At.grown (kx.alloc (.cells #[.string (strL zeroS)] 9)) hg9 hne; have kdc := kd.c; have kdf := kd.f)
      go_roundw
      case rel => exact ⟨j + 1, c9, A9, hlt, by go_num, (kd.set (o := 0) (v := .slice A9 (j + 1) c9)).to (by simp), owns_mod2 (hrel9.out A9 c9 w9 ho9 kd).1 ((Mod.refl (fun k => k = x) w9).set (.inl rfl) _) (fun b hb e => (hrel9.out A9 c9 w9 ho9 kd).2 (by rw [hb, e])), (below_tr (below_al hB) hb9).setCell hxs.out _⟩
      case measure => simp [intOf]; omega
    · obtain rfl : j = n := by omega
      have hres := Lib.hid (show Rf wr w.heap.size x A c none 0 (newD j) from ⟨kx.to (by simp [newD]), by simpa [newD] using hrow, World.ownsRow_nil _ _ _ _, newD_ok j h1 h2, Nat.le_of_eq hx'.out.symm⟩)
      clear kx hrow
      go_wp2
      go_ret
      exact ⟨x, c, A, by first | rfl | simp, hres.out, hB⟩
end Go.Proofs.Ytjgomebnlekddaa
