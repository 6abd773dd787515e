/- append to a full row that is only read (a literal's block, marked at its end). -/
import Derived.Test.YtnehppeoffemlaaLogA
import Derived.Lib.AppendZeros
namespace Go.Proofs.Ytnehppeoffemlaa
set_option linter.unusedVariables false
set_option linter.unusedSimpArgs false
open Go.RowKit
theorem cells_add {w : World} {lo hi m : Nat} {ad : Addr} {ys : List Int} (hr : BsR w lo hi (some ad) m ys) : ∀ j u, (ys.map (Value.int .u8))[j]? = some u → w.cell? (ad.add j) = some u := by
  intro j u hu
  have hj : j < ys.length := by
    rcases Nat.lt_or_ge j ys.length with h | h
    · exact h
    · simp [h] at hu
  obtain ⟨gb, go', hA, _, _, hc⟩ := hr.2.2 (by rw [← hr.1]; omega)
  injection hA with hA
  subst hA
  rw [map_get hu]
  have := hc j (by rw [← hr.1]; exact hj)
  unfold Addr.add
  by_cases hj0 : j = 0
  · subst hj0; simpa [bsF] using this
  · rw [if_neg hj0]; simpa [bsF] using this
theorem run_appR_gen {P : Program} (t8 : TypeId) (i0 : TypeInfo) (ht : P.underlying t8 = some (.slice 5)) (hi0 : P.info? 5 = some i0) (hz0 : i0.zero = some (.int .u8 0)) (hz1 : i0.size = 1) (hz2 : i0.bytes = 1) (w : World) (ty : TypeId) (base n c : Nat) (ad bd : Addr) (xs : List Int) (lo1 hi1 lo hi m c' : Nat) (hs : BsR w lo1 hi1 (some ad) n xs) (ys : List Int) (hr : BsR w lo hi (some bd) m ys)
    (hfull : c < n + m) (hsz : n + m ≤ 70368744177664) (hbase : base ≤ w.heap.size) :
    ∃ c'' w', (Builtin.append_ #[t8, t8] ty #[.slice (some ad) n c, .slice (some bd) m c']).run P w = .ok (.slice (some ⟨w.heap.size, 0, none⟩) (n + m) c'') w' ∧ OwB w' base (some ⟨w.heap.size, 0, none⟩) (n + m) c'' (xs ++ ys) ∧ Below w.heap.size w w' := by
  have hrun := run_append_grow (P := P) w t8 ty 5 i0 (.int .u8 0) ht hi0 hz0 ad n c (xs.map (Value.int .u8)) (by simp [hs.1, hz1]) (cells_add hs) bd m c' (ys.map (Value.int .u8)) (by simp [hr.1, hz1]) (cells_add hr) hfull (by omega) (growslice_fits (by omega) (by rw [hz2]; omega))
  have hge := grownCap_ge w (n + m) c 5
  have hcm : grownCap w (n + m) c 5 ≤ maxLen := grownCap_le_maxLen w (n + m) c 5 (by simp only [maxLen]; omega)
  refine ⟨_, _, hrun, ⟨by simp [hs.1, hr.1], hs.2.1.app hr.2.1, ⟨by simp [hs.1, hr.1], .inr ⟨w.heap.size, _, _, rfl, hbase, heap_alloc_new w.drew _, hge, hcm, ?_, ?_⟩⟩⟩, ⟨rfl, rfl, rfl, by simp, fun k hk => heap_alloc_old w.drew _ hk⟩⟩
  · simp [size_zeroCells, Value.cells, hs.1, hr.1]
    omega
  · simp only [Array.toList_append]
    rw [show (n + m) * 1 = (xs.map (Value.int .u8) ++ ys.map (Value.int .u8)).length by simp [hs.1, hr.1], List.map_append]
    exact List.take_left
theorem run_appR (w : World) (ty : TypeId) (base n c : Nat) (ad bd : Addr) (xs : List Int) (lo1 hi1 lo hi m c' : Nat) (hs : BsR w lo1 hi1 (some ad) n xs) (ys : List Int) (hr : BsR w lo hi (some bd) m ys)
    (hfull : c < n + m) (hsz : n + m ≤ 70368744177664) (hbase : base ≤ w.heap.size) :
    ∃ c'' w', (Builtin.append_ #[32, 32] ty #[.slice (some ad) n c, .slice (some bd) m c']).run Try.prog w = .ok (.slice (some ⟨w.heap.size, 0, none⟩) (n + m) c'') w' ∧ OwB w' base (some ⟨w.heap.size, 0, none⟩) (n + m) c'' (xs ++ ys) ∧ Below w.heap.size w w' := by
  obtain ⟨i0, hi0, hz0, hz1, hz2⟩ := info_parts info8
  exact run_appR_gen 32 i0 Try.underlying32 hi0 hz0 hz1 hz2 w ty base n c ad bd xs lo1 hi1 lo hi m c' hs ys hr hfull hsz hbase
theorem wpList_appR {w : World} {ops : Array Oper} {rest : List Oper} {o : Oper} {a : Act} {Q : Exit → Act → World → Prop} (hgd : o.guard = none) (s x : Operand) (ho : o.op = .call { callee := .builtin .append, args := #[s, x], argTypes := #[32, 32] })
    (base n c : Nat) (ad bd : Addr) (xs : List Int) (lo1 hi1 lo hi m c' : Nat) (he : a.eval s = .slice (some ad) n c) (hs : BsR w lo1 hi1 (some ad) n xs) (ys : List Int) (hx : a.eval x = .slice (some bd) m c') (hr : BsR w lo hi (some bd) m ys)
    (hfull : c < n + m) (hsz : n + m ≤ 70368744177664) (hbase : base ≤ w.heap.size)
    (h : ∀ c'' w', OwB w' base (some ⟨w.heap.size, 0, none⟩) (n + m) c'' (xs ++ ys) → Below w.heap.size w w' → wpList Try.prog ops Q rest (a.put o.dst (.slice (some ⟨w.heap.size, 0, none⟩) (n + m) c'')) w') : wpList Try.prog ops Q (o :: rest) a w := by
  obtain ⟨c'', w', hrun, h2, h3⟩ := run_appR w o.type base n c ad bd xs lo1 hi1 lo hi m c' hs ys hr hfull hsz hbase
  exact Lib.wpList_append_run w hgd s x _ _ ho _ _ he hx _ _ hrun (h c'' w' h2 h3)
/-- A literal's block, converted to its own type: its end is marked, its bytes stay. -/
theorem lits_gen {P : Program} (t e : TypeId) (ht : P.underlying t = some (.slice e)) (he : P.underlying e = some (.int .u8)) (w : World) (l : Array Value) (n : Nat) (hn : l.size = n) : ∃ wf, (convert t t (.slice (some ⟨w.heap.size, 0, none⟩) n n)).run P (w.alloc (.cells l e)) = .ok (.slice (some ⟨w.heap.size, 0, none⟩) n n) wf ∧ Below w.heap.size w wf ∧ w.heap.size < wf.heap.size ∧ ∀ o, wf.cell? ⟨w.heap.size, o, none⟩ = l[o]? := by
  have hb : (w.alloc (.cells l e)).heap[w.heap.size]? = some (.cells l e (0, 0)) := At.new w l e
  refine ⟨(w.alloc (.cells l e)).freeze ⟨w.heap.size, n, none⟩ 1, ?_, ?_, ?_, ?_⟩
  · have hs : (w.alloc (.cells l e)).shape? w.heap.size = some (e, n) := by
      unfold World.shape?; rw [hb]; simp [hn]
    simp [convert, run_underlying ht, run_underlying he, markStringish, hs]
  · have hB := below_new w (.cells l e)
    refine ⟨hB.os, hB.tape, hB.output, ?_, fun k hk => ?_⟩
    · simp [World.freeze]
    · rw [← hB.block k hk]
      simp only [World.freeze]
      rw [if_neg (by decide)]
      simp only [Array.getElem?_modify]
      rw [if_neg (by omega)]
  · simp [World.freeze]
  · intro o
    unfold World.cell? World.freeze
    rw [if_neg (by decide)]
    simp only [Array.getElem?_modify]
    rw [if_pos trivial, hb]
    simp
end Go.Proofs.Ytnehppeoffemlaa
