/- append of zeros (append(b, make([]byte, n)...)) to a row of bytes that the call owns. -/
import Derived.Test.YtnehppeoffemlaaApp
import Derived.Lib.AppendZerosOnto
namespace Go.Proofs.Ytnehppeoffemlaa
set_option linter.unusedVariables false
set_option linter.unusedSimpArgs false
open Go.RowKit
theorem zero_list (m : Nat) : Builtin.zeroCells (Value.int .u8 0).cells m = ((List.replicate m (0 : Int)).map (Value.int .u8)).toArray := by
  apply Array.ext
  · simp [Builtin.zeroCells, Value.cells]
  · intro i h1 h2
    simp [Builtin.zeroCells, Value.cells, Nat.mod_one]
theorem byt_zero (m : Nat) : Byt (List.replicate m (0 : Int)) := fun x hx => by
  rw [List.eq_of_mem_replicate hx]; omega
theorem run_appZ_gen {P : Program} (t8 tn : TypeId) (kn : IntKind) (i0 : TypeInfo) (ht : P.underlying t8 = some (.slice 5)) (htn : P.underlying tn = some (.int kn)) (hi0 : P.info? 5 = some i0) (hz0 : i0.zero = some (.int .u8 0)) (hz1 : i0.size = 1) (hz2 : i0.bytes = 1) (w : World) (ty : TypeId) (base n c : Nat) (A : Option Addr) (xs : List Int) (hown : OwB w base A n c xs) (m : Nat)
    (hsz : n + m ≤ 70368744177664) (hbase : base ≤ w.heap.size) :
    ∃ A' c'' w', (Builtin.append_ #[t8, tn] ty #[.slice A n c, .int .i64 m]).run P w = .ok (.slice A' (n + m) c'') w' ∧ OwB w' base A' (n + m) c'' (xs ++ List.replicate m 0) ∧ w.grownBy w' (ownBlk A) ∧ Below base w w' ∧ (ownBlk A' = ownBlk A ∨ ownBlk A' = some w.heap.size) := by
  have hbel : ∀ w', w.grownBy w' (ownBlk A) → Below base w w' := fun w' hg => (Below.refl _ _).grown (by rw [← ownBlk_eq A n c] at hg; exact hg) hbase (fun k hk => (hown.2.2.lt k hk).1)
  have hw : IntKind.i64.wrap (m : Int) = m := by rw [IntKind.wrap_i64]; omega
  have hw0 : IntKind.i64.wrap 0 = 0 := by decide
  have h48i : ¬ (281474976710656 < (m : Int)) := by omega
  have hmn : ¬ ((m : Int) < 0) := by omega
  have hxl : (xs.map (Value.int .u8)).length = n := by simpa using hown.1
  have hmk : ∀ (w' : World) (A' : Option Addr) (c'' : Nat), w'.ownsRow base 5 1 (.slice A' (n + m) c'') (n + m) (xs.map (Value.int .u8) ++ (List.replicate m (0 : Int)).map (Value.int .u8)) → OwB w' base A' (n + m) c'' (xs ++ List.replicate m 0) := fun w' A' c'' h =>
    ⟨by simp [hown.1], hown.2.1.app (byt_zero m), by rw [List.map_append]; exact h⟩
  have grown : ∀ (old : Nat), old < n + m → ∀ (row : Option Nat),
      (w.drew.alloc (.cells ((xs.map (Value.int .u8)).toArray ++ ((List.replicate m (0 : Int)).map (Value.int .u8)).toArray ++ Builtin.zeroCells (Value.int .u8 0).cells (grownCap w (n + m) old 5 - (n + m))) 5)).ownsRow base 5 1
        (.slice (some ⟨w.heap.size, 0, none⟩) (n + m) (grownCap w (n + m) old 5)) (n + m) (xs.map (Value.int .u8) ++ (List.replicate m (0 : Int)).map (Value.int .u8)) ∧
      w.grownBy (w.drew.alloc (.cells ((xs.map (Value.int .u8)).toArray ++ ((List.replicate m (0 : Int)).map (Value.int .u8)).toArray ++ Builtin.zeroCells (Value.int .u8 0).cells (grownCap w (n + m) old 5 - (n + m))) 5)) row := by
    intro old ho row
    have hge := grownCap_ge w (n + m) old 5
    have hcm : grownCap w (n + m) old 5 ≤ maxLen := grownCap_le_maxLen w (n + m) old 5 (by simp only [maxLen]; omega)
    have hlen : (xs.map (Value.int .u8) ++ (List.replicate m (0 : Int)).map (Value.int .u8)).length = n + m := by simp [hown.1]
    refine ⟨⟨by rw [hlen]; omega, .inr ⟨w.heap.size, _, _, rfl, hbase, heap_alloc_new w.drew _, hge, hcm, ?_, ?_⟩⟩, ⟨rfl, rfl, rfl, by simp, fun k hk _ => heap_alloc_old w.drew _ hk⟩⟩
    · simp only [Array.size_append, List.size_toArray, size_zeroCells, List.length_map, List.length_replicate, hown.1, Value.cells, List.size_toArray, List.length_singleton]
      omega
    · simp only [Array.toList_append, List.append_assoc]
      rw [← List.append_assoc]
      have : (n + m) * 1 = (xs.map (Value.int .u8) ++ (List.replicate m (0 : Int)).map (Value.int .u8)).length := by rw [hlen]; omega
      rw [this]
      exact List.take_left
  rcases hown.2.2.2 with ⟨hv, h0⟩ | ⟨g, cap, cur, hv, hbg, hg, hnc, hcm, hcs, htake⟩
  · injection hv with h1 _ h3
    subst h1; subst h3; subst h0
    obtain rfl : xs = [] := List.eq_nil_of_length_eq_zero hown.1
    by_cases hm : m = 0
    · subst hm
      refine ⟨none, 0, w, ?_, by simpa using hown, World.grownBy.refl w _, hbel w (World.grownBy.refl w _), .inl rfl⟩
      simp [Builtin.append_, run_underlying ht, run_underlying htn, sizeOf, typeInfo, hi0, asInt, asIntOf, hw0]
    · have hr := Lib.run_append_nil_zeros (P := P) w t8 tn ty 5 i0 (.int .u8 0) .i64 kn ht htn hi0 hz0 m (by omega) (by omega) (by omega) (by rw [hz2]; omega)
      have hgr := grown 0 (by omega) (ownBlk none)
      simp only [List.map_nil, Nat.zero_add, List.nil_append, Array.empty_append] at hgr hmk ⊢
      rw [zero_list m] at hr
      exact ⟨_, _, _, hr, hmk _ _ _ hgr.1, hgr.2, hbel _ hgr.2, .inr rfl⟩
  · injection hv with h1 _ h3
    subst h1; subst h3
    by_cases hroom : n + m ≤ c
    · by_cases hm : m = 0
      · subst hm
        refine ⟨some ⟨g, 0, none⟩, c, w, ?_, by simpa using hown, World.grownBy.refl w _, hbel w (World.grownBy.refl w _), .inl rfl⟩
        simp [Builtin.append_, run_underlying ht, run_underlying htn, sizeOf, typeInfo, hi0, asInt, asIntOf, hw0, hnc, storeCells]
      · have hst := run_storeCells_at P g (n * 1) 5 ((List.replicate m (0 : Int)).map (Value.int .u8)) 0 cur w hg (by simp; omega) (u8_oneCell _)
        simp only [Nat.add_zero] at hst
        have hr : (Builtin.append_ #[t8, tn] ty #[.slice (some ⟨g, 0, none⟩) n c, .int .i64 m]).run P w =
            .ok (.slice (some ⟨g, 0, none⟩) (n + m) c) (w.setRow g (cur.toList.take (n * 1) ++ (List.replicate m (0 : Int)).map (Value.int .u8) ++ cur.toList.drop (n * 1 + ((List.replicate m (0 : Int)).map (Value.int .u8)).length)).toArray) := by
          have hz := zero_list m
          simp only [Nat.mul_one] at hst ⊢
          simp [Builtin.append_, run_underlying ht, run_underlying htn, sizeOf, typeInfo, zeroValue, hi0, hz0, hz1, hz2, asInt, asIntOf, hw, h48i, hmn, hm, hroom, Addr.add_lit, hz]
          simp at hst
          rw [hst]
          rfl
        have hgr : w.grownBy (w.setRow g (cur.toList.take (n * 1) ++ (List.replicate m (0 : Int)).map (Value.int .u8) ++ cur.toList.drop (n * 1 + ((List.replicate m (0 : Int)).map (Value.int .u8)).length)).toArray) (ownBlk (some ⟨g, 0, none⟩)) :=
          ⟨rfl, rfl, rfl, by simp, fun k _ hk => setRow_other w g k _ (fun e => hk (by simp [ownBlk, e]))⟩
        refine ⟨_, _, _, hr, hmk _ _ _ ⟨by simp [hown.1], .inr ⟨g, c, _, rfl, hbg, setRow_heap w g cur _ 5 _ hg, hroom, hcm, ?_, ?_⟩⟩, hgr, hbel _ hgr, .inl rfl⟩
        · simp only [List.size_toArray, List.length_append, List.length_take, List.length_drop, Array.length_toList, List.length_map, List.length_replicate]
          omega
        · have : (n + m) * 1 = (cur.toList.take (n * 1) ++ (List.replicate m (0 : Int)).map (Value.int .u8)).length := by
            simp only [List.length_append, List.length_take, Array.length_toList, List.length_map, List.length_replicate]
            omega
          rw [htake, this]
          rw [htake]
          exact List.take_left
    · have holds : ∀ j u, (xs.map (Value.int .u8))[j]? = some u → w.drew.cell? ((⟨g, 0, none⟩ : Addr).add j) = some u := hown.2.2.cells (g := g) rfl
      have hr := Lib.run_append_grow_zeros (P := P) w t8 tn ty 5 i0 (.int .u8 0) .i64 kn ht htn hi0 hz0 (some ⟨g, 0, none⟩) n c (xs.map (Value.int .u8)) (run_firstCells_some (P := P) w.drew i0.size n ⟨g, 0, none⟩ n c (xs.map (Value.int .u8)) (by rw [hz1]; omega) holds) m (by omega) (by omega) (by omega) (by omega) (by rw [hz2]; omega) (growslice_fits (by omega) (by rw [hz2]; omega))
      have hgr := grown c (by omega) (ownBlk (some ⟨g, 0, none⟩))
      rw [zero_list m] at hr
      exact ⟨_, _, _, hr, hmk _ _ _ hgr.1, hgr.2, hbel _ hgr.2, .inr rfl⟩
theorem run_appZ (w : World) (ty : TypeId) (base n c : Nat) (A : Option Addr) (xs : List Int) (hown : OwB w base A n c xs) (m : Nat) (hsz : n + m ≤ 70368744177664) (hbase : base ≤ w.heap.size) :
    ∃ A' c'' w', (Builtin.append_ #[32, 3] ty #[.slice A n c, .int .i64 m]).run Try.prog w = .ok (.slice A' (n + m) c'') w' ∧ OwB w' base A' (n + m) c'' (xs ++ List.replicate m 0) ∧ w.grownBy w' (ownBlk A) ∧ Below base w w' ∧ (ownBlk A' = ownBlk A ∨ ownBlk A' = some w.heap.size) := by
  obtain ⟨i0, hi0, hz0, hz1, hz2⟩ := info_parts info8
  exact run_appZ_gen 32 3 .i64 i0 Try.underlying32 Try.underlying3 hi0 hz0 hz1 hz2 w ty base n c A xs hown m hsz hbase
section
variable {w : World} {ops : Array Oper} {rest : List Oper} {o : Oper} {a : Act} {Q : Exit → Act → World → Prop}
theorem wpList_appZ (hgd : o.guard = none) (s x : Operand) (ho : o.op = .call { callee := .builtin .append, args := #[s, x], argTypes := #[32, 3] })
    (base n c : Nat) (A : Option Addr) (xs : List Int) (hs : a.eval s = .slice A n c) (hown : OwB w base A n c xs) (m : Nat) (mi : Int) (hmi : mi = m) (hx : a.eval x = .int .i64 mi)
    (hsz : n + m ≤ 70368744177664) (hbase : base ≤ w.heap.size)
    (h : ∀ A' c'' w', OwB w' base A' (n + m) c'' (xs ++ List.replicate m 0) → w.grownBy w' (ownBlk A) → Below base w w' → (ownBlk A' = ownBlk A ∨ ownBlk A' = some w.heap.size) → wpList Try.prog ops Q rest (a.put o.dst (.slice A' (n + m) c'')) w') : wpList Try.prog ops Q (o :: rest) a w := by
  subst hmi
  obtain ⟨A', c'', w', hrun, h2, h3, h4, h5⟩ := run_appZ w o.type base n c A xs hown m hsz hbase
  exact Lib.wpList_append_run w hgd s x _ _ ho _ _ hs hx _ _ hrun (h A' c'' w' h2 h3 h4 h5)
end
end Go.Proofs.Ytnehppeoffemlaa
