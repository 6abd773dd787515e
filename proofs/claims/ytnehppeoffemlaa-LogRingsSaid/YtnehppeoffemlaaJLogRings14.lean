/- Joined texts: DiskB. -/
import Derived.Test.YtnehppeoffemlaaJLogRings13
/- disk.New, Arm, and a look at a sector: by their contracts. -/
namespace Go.Proofs.Ytnehppeoffemlaa
set_option linter.unusedVariables false
set_option linter.unusedSimpArgs false
open Go.RowKit
theorem made_zero (n : Nat) : (madeCells zS.cells (n * 512)).toList = (List.replicate n zeroS).flatMap secV := by
  have h1 : (madeCells zS.cells (n * 512)).toList = List.replicate (n * 512) (Value.int .u8 0) := by
    refine List.eq_replicate_iff.2 ⟨by rw [Array.length_toList, size_madeCells], fun v hv => ?_⟩
    unfold madeCells at hv
    rw [Array.toList_map] at hv
    obtain ⟨x, -, rfl⟩ := List.mem_map.1 hv
    have hs := zS_size
    have hlt : x % zS.cells.size < zS.cells.size := Nat.mod_lt _ (by omega)
    rw [getElem!_pos zS.cells _ hlt]
    have hm : zS.cells[x % zS.cells.size] ∈ zS.cells := Array.getElem_mem hlt
    generalize zS.cells[x % zS.cells.size] = v at *
    have hm' : v ∈ List.replicate 512 (Value.int .u8 0) := List.mem_toArray.1 (show v ∈ (List.replicate 512 (Value.int .u8 0)).toArray from hm)
    exact List.eq_of_mem_replicate hm'
  have h2 : (List.replicate n zeroS).flatMap secV = List.replicate (n * 512) (Value.int .u8 0) := by
    refine List.eq_replicate_iff.2 ⟨?_, fun v hv => ?_⟩
    · rw [flat_len_m (sz := 512) _ (fun x hx => by rw [List.eq_of_mem_replicate hx]; exact secZ_len), List.length_replicate]
    · obtain ⟨x, hx, hv⟩ := List.mem_flatMap.1 hv
      rw [List.eq_of_mem_replicate hx, secV_zero] at hv
      exact List.eq_of_mem_replicate hv
  rw [h1, h2]
theorem newD_ok (n : Nat) (h1 : 1 ≤ n) (h2 : n ≤ 4096) : DkOk ⟨List.replicate n zeroS, [], 0, false, 0⟩ :=
  ⟨fun s hs => by rw [List.eq_of_mem_replicate hs]; exact zeroS_sec, fun x hx => absurd hx (by simp), by simp only [List.length_replicate]; omega, by simp only; omega, by simp only; omega, by simp⟩
theorem z107b : (Try.prog.info? 107).map (fun i => (i.zero, i.size, i.bytes)) = some (some zS, 512, 512) := by kernel_rfl
theorem new_no (i : Int) (h : i < 1 ∨ 4096 < i) (w : World) : Calls Try.prog 26 #[.int .i64 i] w fun e w' => e = .returned (.tuple #[.pointer none, .int .i64 1]) ∧ w = w' := by
  by_cases h1 : i < 1
  · go_enter Try.func26, Try.ntmps26
    go_wp2
    go_ret2
    exact ⟨rfl, rfl⟩
  · have h2 : 4096 < i := by omega
    go_enter Try.func26, Try.ntmps26
    go_wp2
    go_ret2
    exact ⟨rfl, rfl⟩
set_option maxRecDepth 100000 in
theorem new_calls (n : Nat) (h1 : 1 ≤ n) (h2 : n ≤ 4096) (w : World) : Calls Try.prog 26 #[.int .i64 n] w fun e w' => ∃ d lb, e = .returned (.tuple #[.pointer (some ⟨d, 0, none⟩), .int .i64 0]) ∧ Dsk w' d lb none 0 0 ⟨List.replicate n zeroS, [], 0, false, 0⟩ ∧ Below w.heap.size w w' ∧ w.heap.size ≤ d ∧ w.heap.size ≤ lb := by
  have i1 : ¬ (n : Int) < 1 := by omega
  have i2 : ¬ (4096 : Int) < n := by omega
  obtain ⟨it, hi, hz, hs, hb⟩ := info_parts z107b
  have hbb : it.bytes * n ≤ 281474976710656 := by rw [hb]; omega
  have hmx : n ≤ maxLen := by unfold maxLen; omega
  have hbb' := Lib.hid hbb
  have hi' := Lib.hid hi
  have hz' := Lib.hid hz
  have hs' := Lib.hid hs
  clear hi hz hs hb hbb
  go_enter Try.func26, Try.ntmps26
  go_wp2_with (at_make; refine wpList_make_full w rfl (.tmp 10) (.tmp 10) 98 rfl w.heap.size 107 it zS 512 Try.underlying98 hi'.out hz'.out hs'.out .i64 .i64 _ _ n rfl rfl rfl rfl hbb'.out hmx (Nat.le_refl _) ?_; intro w1 ho1 hg1)
  go_ret2
  obtain ⟨g, cap, cur, hv, -, hat, -, -, hcs, htk⟩ : ∃ g cap cur, Value.slice (some ⟨w.heap.size, 0, none⟩) n n = .slice (some ⟨g, 0, none⟩) n cap ∧ w.heap.size ≤ g ∧ At w1 g cur 107 ∧ n ≤ cap ∧ cap ≤ maxLen ∧ cur.size = cap * 512 ∧ cur.toList.take (n * 512) = (madeCells zS.cells (n * 512)).toList := by
    rcases ho1.2 with ⟨hv, h0⟩ | ⟨g, cap, cur, hv, h3, h4, h5, h6, h7, h8⟩
    · cases hv
    · exact ⟨g, cap, cur, hv, h3, h4, h5, h6, h7, h8⟩
  injection hv with e1 _ e3
  injection e1 with e1
  injection e1 with e1
  subst e1; subst e3
  rw [List.take_of_length_le (by rw [Array.length_toList, hcs]; exact Nat.le_refl _), made_zero] at htk
  have hrow : At w1 w.heap.size ((List.replicate n zeroS).flatMap secV).toArray 107 := by
    rw [← htk]; exact hat
  have hlt := hrow.lt
  refine ⟨w1.heap.size, rfl, w.heap.size, ⟨?_, hrow.alloc _, World.ownsRow_nil _ _ _ _, rfl, newD_ok n h1 h2⟩, below_tr ⟨hg1.os, hg1.tape, hg1.output, hg1.size, fun k hk => hg1.block k hk (by simp)⟩ ((below_new w1 _).mono hg1.size), by omega, Nat.le_refl _⟩
  have := At.new w1 #[.slice (some ⟨w.heap.size, 0, none⟩) n n, .slice none 0 0, .int .i64 0, .bool false, .int .i64 0] 101
  simpa using this
def armD (D : Dk) (i : Int) : Dk := { D with arm := i }
theorem Dsk.arms {w : World} {d lb m mc : Nat} {pA : Option Addr} {D : Dk} (h : Dsk w d lb pA m mc D) {i : Int} (h0 : 0 ≤ i) (h1 : i ≤ 9223372036854775807) : Dsk (w.setCell ⟨d, 2, none⟩ (.int .i64 i)) d lb pA m mc (armD D i) :=
  ⟨(h.at_.set (o := 2) (v := .int .i64 i)).to (by simp [armD]), h.row.set_ne h.ne1.symm, owns_heap h.way (fun b hb => by
      rw [ownBlk_eq] at hb
      exact Below.heap_setCell _ _ _ _ (fun e => h.ne2 (by rw [hb, e]))), h.wl, ⟨h.ok.l, h.ok.way, h.ok.len, ⟨h0, h1⟩, h.ok.ops, h.ok.cnt⟩⟩
theorem arm_no {d lb m mc : Nat} {pA : Option Addr} {D : Dk} (i : Int) (w : World) (h : Dsk w d lb pA m mc D) (h0 : i < 0) : Calls Try.prog 37 #[.pointer (some ⟨d, 0, none⟩), .int .i64 i] w fun e w' => e = .returned (.int .i64 1) ∧ w = w' := by
  go_enter Try.func37, Try.ntmps37
  go_wp2
  go_ret
  exact ⟨rfl, rfl⟩
theorem arm_calls {d lb m mc : Nat} {pA : Option Addr} {D : Dk} (i : Int) (w : World) (h : Dsk w d lb pA m mc D) (h0 : 0 ≤ i) (h1 : i ≤ 9223372036854775807) : Calls Try.prog 37 #[.pointer (some ⟨d, 0, none⟩), .int .i64 i] w fun e w' => e = .returned (.int .i64 0) ∧ Dsk w' d lb pA m mc (armD D i) ∧ Mod (fun k => k = d) w w' := by
  have k0 := h.at_
  have hn : ¬ i < 0 := by omega
  have k0c := k0.c; have k0f := k0.f; have k0l := k0.lt
  have hd := Lib.hid (h.arms h0 h1)
  go_enter Try.func37, Try.ntmps37
  go_wp2
  go_ret
  exact ⟨rfl, hd.out, (Mod.refl (fun k => k = d) w).set (.inl rfl) _⟩
end Go.Proofs.Ytnehppeoffemlaa
