/- munimentlaw07.full by its contract. -/
import Derived.Test.YtnehppeoffemlaaDiskX
import Derived.Laws.OwnMore
namespace Go.Proofs.Ytnehppeoffemlaa
set_option linter.unusedVariables false
set_option linter.unusedSimpArgs false
open Go.RowKit
def fillTo (p : List Int) (j : Nat) : List Int := p.take j ++ List.replicate (512 - j) 0
def fullL (p : List Int) : List Int := fillTo p (min p.length 512)
theorem fillTo_len (p : List Int) (j : Nat) (h : j ≤ p.length) (h2 : j ≤ 512) : (fillTo p j).length = 512 := by
  unfold fillTo
  rw [List.length_append, List.length_take, List.length_replicate]
  omega
theorem fillTo_set (p : List Int) (j : Nat) (h : j < p.length) (h2 : j < 512) : (fillTo p j).set j (p.getD j 0) = fillTo p (j + 1) := by
  unfold fillTo
  rw [show 512 - j = (512 - (j + 1)) + 1 by omega, List.replicate_succ]
  have hl : (p.take j).length = j := by rw [List.length_take]; omega
  rw [List.set_append_right _ _ (by omega), hl, Nat.sub_self, List.set_cons_zero, List.take_succ_eq_append_getElem h, List.append_assoc, show p.getD j 0 = p[j] by simp [List.getD, h]]
  rfl
theorem fullL_sec {p : List Int} (h : Byt p) : Sec (fullL p) := by
  refine ⟨fillTo_len p _ (by omega) (by omega), fun x hx => ?_⟩
  rcases List.mem_append.1 hx with h1 | h1
  · exact h x (List.mem_of_mem_take h1)
  · rw [List.eq_of_mem_replicate h1]; omega
set_option maxRecDepth 100000 in
set_option maxHeartbeats 1000000 in
theorem full_calls {n lo hi : Nat} (c : Nat) {A : Option Addr} {p : List Int} (w : World) (h : BsR w lo hi A n p) (hhi : hi ≤ w.heap.size) :
    Calls Try.prog 49 #[.slice A n c] w fun e w' => ∃ b, e = .returned (.slice (some ⟨b, 0, none⟩) 512 512) ∧ OwB w' w.heap.size (some ⟨b, 0, none⟩) 512 512 (fullL p) ∧ Below w.heap.size w w' ∧ w.heap.size ≤ b := by
  have hln := Lib.hid h.1
  have hbyt := Lib.hid h.2.1
  have hh := Lib.hid h
  obtain ⟨i0, hi0, hz0, hz1, hz2⟩ := info_parts info8
  have q1 : i0.bytes * 512 ≤ 281474976710656 := by rw [hz2]; omega
  have q2 : (512 : Nat) ≤ maxLen := by unfold maxLen; omega
  have q1' := Lib.hid q1
  have hi0' := Lib.hid hi0
  have hz0' := Lib.hid hz0
  have hz1' := Lib.hid hz1
  clear h hi0 hz0 hz1 hz2 q1
  go_enter Try.func49, Try.ntmps49
  go_upto_region 3 with (at_make; refine wpList_make_full w rfl _ _ 32 rfl w.heap.size 5 i0 (.int .u8 0) 1 Try.underlying32 hi0'.out hz0'.out hz1'.out .i64 .i64 _ _ 512 rfl rfl rfl rfl q1'.out q2 (Nat.le_refl _) ?_; intro w1 ho1 hg1)
  have ho : OwB w1 w.heap.size (some ⟨w.heap.size, 0, none⟩) 512 512 (fillTo p 0) := by
    refine ⟨fillTo_len p 0 (by omega) (by omega), fun x hx => ?_, ?_⟩
    · rw [List.eq_of_mem_replicate (show x ∈ List.replicate 512 0 from by simpa [fillTo] using hx)]; omega
    · have h1 := ho1
      rw [show (512 : Nat) * 1 = 512 from rfl, show (Value.int .u8 0).cells = #[.int .u8 0] from rfl, toList_madeCells_one] at h1
      have h2 : (fillTo p 0).map (Value.int .u8) = List.replicate 512 (Value.int .u8 0) := by
        show (p.take 0 ++ List.replicate 512 0).map _ = _
        rw [List.take_zero, List.nil_append, List.map_replicate]
      rw [h2]; exact h1
  have hB : Below w.heap.size w w1 := ⟨hg1.os, hg1.tape, hg1.output, hg1.size, fun k hk => hg1.block k hk (by simp)⟩
  clear ho1 hg1
  go_loopw [4] (fun v4 wr => ∃ j : Nat, j ≤ n ∧ j ≤ 512 ∧ v4 = .int .i64 j ∧ OwB wr w.heap.size (some ⟨w.heap.size, 0, none⟩) 512 512 (fillTo p j) ∧ Below w.heap.size w wr) (fun v4 _ => n - (intOf v4).toNat)
  case atStart => exact ⟨0, by omega, by omega, rfl, ho, hB⟩
  case round =>
    clear ho hB
    obtain ⟨j, hj, hj5, rfl, ho, hB⟩ := hrel
    by_cases hlt : j < n ∧ j < 512
    · obtain ⟨l1, l2⟩ := hlt
      obtain ⟨gb, go', rfl, -, g2, hcl⟩ := (hh.out.below hB hhi).at_ l1
      have hst := Lib.hid (fillTo_set p j (by rw [hln.out]; exact l1) l2)
      have hx := hbyt.out.getD j
      generalize p.getD j 0 = x at *
      obtain ⟨cur, hat, -, -, -⟩ := ho.at_
      have hcc := ho.reads.at_ l2
      obtain ⟨gx, gy, hAx, -, -, hcell⟩ := hcc
      injection hAx with hAx
      injection hAx with e1 e2
      subst e1; subst e2
      rw [Nat.zero_add] at hcell
      have hfro := hat.f j
      have ht0 : (0 : Int) ≤ j := by omega
      have ht1 : (j : Int) < n := by omega
      have ht2 : (j : Int) < 512 := by omega
      clear hat
      go_wp2
      go_roundw
      case rel => exact ⟨j + 1, by omega, by omega, by go_num, by rw [← hst.out]; exact ho.set l2 hx.1 hx.2, hB.setCell (Nat.le_refl _) _⟩
      case measure => simp [intOf]; omega
    · have hq : ((n : Int) ≤ j) ∨ ((j : Int) < n ∧ (512 : Int) ≤ j) := by omega
      have hf : fillTo p j = fullL p := by
        unfold fullL
        congr 1
        rw [hln.out]; omega
      have hf' := Lib.hid hf
      clear hf hlt
      rcases hq with hq | ⟨hq1, hq2⟩
      all_goals
        go_wp2
        go_ret
        exact ⟨w.heap.size, rfl, by rw [← hf'.out]; exact ho, hB, Nat.le_refl _⟩
end Go.Proofs.Ytnehppeoffemlaa
