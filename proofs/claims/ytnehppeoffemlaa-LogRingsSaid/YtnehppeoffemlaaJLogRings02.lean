/- Joined texts: App, Share. -/
import Derived.Test.YtnehppeoffemlaaJLogRings00
import Derived.Deep.AppendLies
import Derived.OwnWalk
/- Rows of bytes that a call owns, and what append makes of them. -/
namespace Go.Proofs.Ytnehppeoffemlaa
set_option linter.unusedVariables false
set_option linter.unusedSimpArgs false
open Go.RowKit
theorem info8 : (Try.prog.info? 5).map (fun i => (i.zero, i.size, i.bytes)) = some (some (.int .u8 0), 1, 1) := by kernel_rfl
/-- The slice's cells are the call's own, in a block from base on, and read as the bytes l. -/
def OwB (w : World) (base : Nat) (A : Option Addr) (n c : Nat) (l : List Int) : Prop := l.length = n ∧ Byt l ∧ w.ownsRow base 5 1 (.slice A n c) n (l.map (Value.int .u8))
def ownBlk (A : Option Addr) : Option Nat := A.map (·.block)
theorem ownBlk_eq (A : Option Addr) (n c : Nat) : (Value.slice A n c).ownBlock = ownBlk A := by cases A <;> rfl
theorem map_get {l : List Int} {j : Nat} {u : Value} (h : (l.map (Value.int .u8))[j]? = some u) : u = .int .u8 (l.getD j 0) := by
  simp [List.getElem?_map] at h
  obtain ⟨x, hx, rfl⟩ := h
  simp [hx]
theorem map_at {l : List Int} {j : Nat} (h : j < l.length) : (l.map (Value.int .u8))[j]? = some (.int .u8 (l.getD j 0)) := by
  simp [h]
theorem OwB.reads {w : World} {base n c : Nat} {A : Option Addr} {l : List Int} (h : OwB w base A n c l) : BsR w base w.heap.size A n l := by
  refine ⟨h.1, h.2.1, fun hm => ?_⟩
  obtain ⟨g, cap, hv, hb, hlt⟩ := h.2.2.form hm
  injection hv with hA _ _
  subst hA
  refine ⟨g, 0, rfl, hb, hlt, fun j hj => ?_⟩
  have := h.2.2.cells (g := g) rfl j _ (map_at (by rw [h.1]; exact hj))
  unfold Addr.add at this
  by_cases h0 : j = 0
  · subst h0; simpa [bsF] using this
  · rw [if_neg h0] at this; simpa [bsF] using this
theorem OwB.kept {w w' : World} {base n c : Nat} {A : Option Addr} {l : List Int} {row : Option Nat} (h : OwB w base A n c l) (hg : w.grownBy w' row) (hne : ownBlk A = none ∨ ownBlk A ≠ row) : OwB w' base A n c l :=
  ⟨h.1, h.2.1, h.2.2.kept hg (by rw [ownBlk_eq]; exact hne)⟩
theorem OwB.lt {w : World} {base n c : Nat} {A : Option Addr} {l : List Int} (h : OwB w base A n c l) : ∀ k, ownBlk A = some k → base ≤ k ∧ k < w.heap.size := by
  intro k hk; exact h.2.2.lt k (by rw [ownBlk_eq]; exact hk)
theorem grown_of_below {w w' : World} (hb : Below w.heap.size w w') (row : Option Nat) : w.grownBy w' row := ⟨hb.os, hb.tape, hb.output, hb.size, fun k hk _ => hb.block k hk⟩
theorem OwB.later {w w' : World} {base n c : Nat} {A : Option Addr} {l : List Int} (h : OwB w base A n c l) (hb : Below w.heap.size w w') : OwB w' base A n c l := by
  refine h.kept (grown_of_below hb (some w.heap.size)) ?_
  right
  intro e
  have := (h.lt _ e).2
  omega
theorem OwB.alloc {w : World} {base n c : Nat} {A : Option Addr} {l : List Int} (h : OwB w base A n c l) (o : Obj) : OwB (w.alloc o) base A n c l :=
  h.later ((Below.refl _ _).alloc (Nat.le_refl _) _)
theorem OwB.drewN {w : World} {base n c : Nat} {A : Option Addr} {l : List Int} (h : OwB w base A n c l) (k : Nat) : OwB (w.drewN k) base A n c l := h
theorem OwB.less {w : World} {base base' n c : Nat} {A : Option Addr} {l : List Int} (h : OwB w base A n c l) (hb : base' ≤ base) : OwB w base' A n c l := by
  refine ⟨h.1, h.2.1, h.2.2.1, ?_⟩
  rcases h.2.2.2 with h0 | ⟨g, cap, cur, h1, h2, h3⟩
  · exact .inl h0
  · exact .inr ⟨g, cap, cur, h1, by omega, h3⟩
theorem OwB.nil (w : World) (base : Nat) : OwB w base none 0 0 [] := ⟨rfl, Byt.nil, World.ownsRow_nil _ _ _ _⟩
/-- A block that was just made of the bytes l. -/
theorem OwB.made {w : World} {base b : Nat} {l : List Int} {n : Nat} (h : At w b (l.map (Value.int .u8)).toArray 5) (hl : l.length = n) (hb : Byt l) (hbase : base ≤ b) (hm : n ≤ maxLen) : OwB w base (some ⟨b, 0, none⟩) n n l := by
  refine ⟨hl, hb, by simp [hl], .inr ⟨b, n, _, rfl, hbase, h, Nat.le_refl _, hm, by simp [hl], ?_⟩⟩
  rw [Nat.mul_one, ← hl, List.take_of_length_le (by simp)]
theorem BsR.of_at {w : World} {b T : Nat} {l : List Int} {n : Nat} (h : At w b (l.map (Value.int .u8)).toArray T) (hl : l.length = n) (hb : Byt l) : BsR w b (b + 1) (some ⟨b, 0, none⟩) n l := by
  refine ⟨hl, hb, fun _ => ⟨b, 0, rfl, Nat.le_refl _, Nat.lt_succ_self _, fun j hj => ?_⟩⟩
  rw [Nat.zero_add, h.c j]
  have := map_at (l := l) (j := j) (by omega)
  simpa [bsF] using this
theorem BsR.below {w w' : World} {lo hi n B : Nat} {A : Option Addr} {l : List Int} (h : BsR w lo hi A n l) (hb : Below B w w') (hB : hi ≤ B) : BsR w' lo hi A n l := ⟨h.1, h.2.1, h.2.2.below hb hB⟩
theorem BsR.more {w : World} {lo hi hi' n : Nat} {A : Option Addr} {l : List Int} (h : BsR w lo hi A n l) (hh : hi ≤ hi') : BsR w lo hi' A n l := ⟨h.1, h.2.1, h.2.2.more hh⟩
theorem BsR.less {w : World} {lo lo' hi n : Nat} {A : Option Addr} {l : List Int} (h : BsR w lo hi A n l) (hh : lo' ≤ lo) : BsR w lo' hi A n l := ⟨h.1, h.2.1, h.2.2.less hh⟩
theorem u8_oneCell (ys : List Int) : ∀ u ∈ ys.map (Value.int .u8), u.oneCell' = true := ints_oneCell .u8 ys
/-- append of bytes to a row of the call's own. -/
theorem run_app_gen {P : Program} (t8 : TypeId) (i0 : TypeInfo) (ht : P.underlying t8 = some (.slice 5)) (hi0 : P.info? 5 = some i0) (hz0 : i0.zero = some (.int .u8 0)) (hz1 : i0.size = 1) (hz2 : i0.bytes = 1) (w : World) (ty : TypeId) (base n c : Nat) (A : Option Addr) (xs : List Int) (hown : OwB w base A n c xs) (lo hi m c' : Nat) (B : Option Addr) (ys : List Int) (hr : BsR w lo hi B m ys)
    (hsz : n + m ≤ 70368744177664) (hbase : base ≤ w.heap.size) :
    ∃ A' c'' w', (Builtin.append_ #[t8, t8] ty #[.slice A n c, .slice B m c']).run P w = .ok (.slice A' (n + m) c'') w' ∧ OwB w' base A' (n + m) c'' (xs ++ ys) ∧ w.grownBy w' (ownBlk A) ∧ Below base w w' ∧ (ownBlk A' = ownBlk A ∨ ownBlk A' = some w.heap.size) := by
  have hbel : ∀ w', w.grownBy w' (ownBlk A) → Below base w w' := fun w' hg => (Below.refl _ _).grown (by rw [← ownBlk_eq A n c] at hg; exact hg) hbase (fun k hk => (hown.2.2.lt k hk).1)
  rcases B with _ | ad
  · have h0 : m = 0 := by
      rcases Nat.eq_zero_or_pos m with h0 | h0
      · exact h0
      · obtain ⟨gb, go', h, _⟩ := hr.2.2 h0
        cases h
    subst h0
    have hy : ys = [] := List.eq_nil_of_length_eq_zero hr.1
    subst hy
    refine ⟨A, c, w, ?_, by simpa using hown, World.grownBy.refl w _, hbel w (World.grownBy.refl w _), .inl rfl⟩
    rcases hown.2.2.2 with ⟨hv, rfl⟩ | ⟨g, cap, cur, hv, _, _, hnc, _⟩
    · injection hv with h1 _ h3
      subst h1; subst h3
      simp [Builtin.append_, run_underlying ht, sizeOf, typeInfo, hi0, Builtin.lenOf, Builtin.firstCells]
    · injection hv with h1 _ h3
      subst h1; subst h3
      simp [Builtin.append_, run_underlying ht, sizeOf, typeInfo, hi0, Builtin.lenOf, Builtin.firstCells, hnc, storeCells]
  · have hnews : ∀ j u, (ys.map (Value.int .u8))[j]? = some u → w.cell? (ad.add j) = some u := by
      intro j u hu
      have hj : j < ys.length := by
        rcases Nat.lt_or_ge j ys.length with h | h
        · exact h
        · simp [h] at hu
      obtain ⟨gb, go', hA, _, _, hc⟩ := hr.2.2 (by rw [← hr.1]; omega)
      injection hA with hA
      subst hA
      rw [map_get hu]
      have := hc j (by rw [← hr.1]; exact hj)
      unfold Addr.add
      by_cases hj0 : j = 0
      · subst hj0; simpa [bsF] using this
      · rw [if_neg hj0]; simpa [bsF] using this
    obtain ⟨v', w', hrun, h2, h3, _, h5⟩ := run_append_own_at (P := P) w base t8 ty 5 i0 (.int .u8 0) 1 1 ht hi0 hz0 hz1 hz2 rfl (by decide) (.slice A n c) n (xs.map (Value.int .u8)) hown.2.2 ad m c' (ys.map (Value.int .u8)) (by simp [hr.1]) hnews (u8_oneCell _) (by simp only [maxLen]; omega) (by omega) hbase
    rw [ownBlk_eq] at h3
    have hform : ∃ A' c'', v' = .slice A' (n + m) c'' := by
      rcases h2.2 with ⟨h, h0⟩ | ⟨g, cap, cur, h, _⟩
      · exact ⟨none, 0, by rw [h, h0]⟩
      · exact ⟨_, _, h⟩
    obtain ⟨A', c'', rfl⟩ := hform
    rw [ownBlk_eq, ownBlk_eq] at h5
    exact ⟨A', c'', w', hrun, ⟨by simp [hown.1, hr.1], hown.2.1.app hr.2.1, by simpa using h2⟩, h3, hbel w' h3, h5⟩
theorem run_app (w : World) (ty : TypeId) (base n c : Nat) (A : Option Addr) (xs : List Int) (hown : OwB w base A n c xs) (lo hi m c' : Nat) (B : Option Addr) (ys : List Int) (hr : BsR w lo hi B m ys)
    (hsz : n + m ≤ 70368744177664) (hbase : base ≤ w.heap.size) :
    ∃ A' c'' w', (Builtin.append_ #[32, 32] ty #[.slice A n c, .slice B m c']).run Try.prog w = .ok (.slice A' (n + m) c'') w' ∧ OwB w' base A' (n + m) c'' (xs ++ ys) ∧ w.grownBy w' (ownBlk A) ∧ Below base w w' ∧ (ownBlk A' = ownBlk A ∨ ownBlk A' = some w.heap.size) := by
  obtain ⟨i0, hi0, hz0, hz1, hz2⟩ := info_parts info8
  exact run_app_gen 32 i0 Try.underlying32 hi0 hz0 hz1 hz2 w ty base n c A xs hown lo hi m c' B ys hr hsz hbase
section
variable {w : World} {ops : Array Oper} {rest : List Oper} {o : Oper} {a : Act} {Q : Exit → Act → World → Prop}
theorem wp_app {K : Act → World → Prop} (s x : Operand) (ho : o.op = .call { callee := .builtin .append, args := #[s, x], argTypes := #[32, 32] })
    (base n c : Nat) (A : Option Addr) (xs : List Int) (hs : a.eval s = .slice A n c) (hown : OwB w base A n c xs) (lo hi m c' : Nat) (B : Option Addr) (ys : List Int) (hx : a.eval x = .slice B m c') (hr : BsR w lo hi B m ys)
    (hsz : n + m ≤ 70368744177664) (hbase : base ≤ w.heap.size)
    (h : ∀ A' c'' w', OwB w' base A' (n + m) c'' (xs ++ ys) → w.grownBy w' (ownBlk A) → Below base w w' → (ownBlk A' = ownBlk A ∨ ownBlk A' = some w.heap.size) → K (a.put o.dst (.slice A' (n + m) c'')) w') : o.wp Try.prog a w K Q := by
  obtain ⟨A', c'', w', hrun, h2, h3, h4, h5⟩ := run_app w o.type base n c A xs hown lo hi m c' B ys hr hsz hbase
  unfold Oper.wp execOp
  simp only [ho, resolve, invoke, builtin, Sem.run_bind, Sem.run_pure, Result.andThen_ok, List.map_toArray, List.map_cons, List.map_nil, hs, hx, hrun]
  exact h A' c'' w' h2 h3 h4 h5
theorem wpList_app (hgd : o.guard = none) (s x : Operand) (ho : o.op = .call { callee := .builtin .append, args := #[s, x], argTypes := #[32, 32] })
    (base n c : Nat) (A : Option Addr) (xs : List Int) (hs : a.eval s = .slice A n c) (hown : OwB w base A n c xs) (lo hi m c' : Nat) (B : Option Addr) (ys : List Int) (hx : a.eval x = .slice B m c') (hr : BsR w lo hi B m ys)
    (hsz : n + m ≤ 70368744177664) (hbase : base ≤ w.heap.size)
    (h : ∀ A' c'' w', OwB w' base A' (n + m) c'' (xs ++ ys) → w.grownBy w' (ownBlk A) → Below base w w' → (ownBlk A' = ownBlk A ∨ ownBlk A' = some w.heap.size) → wpList Try.prog ops Q rest (a.put o.dst (.slice A' (n + m) c'')) w') : wpList Try.prog ops Q (o :: rest) a w :=
  wpList_plain hgd fun _ hK => wp_app s x ho base n c A xs hs hown lo hi m c' B ys hx hr hsz hbase fun A' c'' w' h2 h3 h4 h5 => hK _ _ (h A' c'' w' h2 h3 h4 h5)
theorem step_app {K : Act → World → Prop} {E : Prop} (hgd : o.guard = none) (s x : Operand) (ho : o.op = .call { callee := .builtin .append, args := #[s, x], argTypes := #[32, 32] })
    (base n c : Nat) (A : Option Addr) (xs : List Int) (hs : a.eval s = .slice A n c) (hown : OwB w base A n c xs) (lo hi m c' : Nat) (B : Option Addr) (ys : List Int) (hx : a.eval x = .slice B m c') (hr : BsR w lo hi B m ys)
    (hsz : n + m ≤ 70368744177664) (hbase : base ≤ w.heap.size)
    (h : ∀ A' c'' w', OwB w' base A' (n + m) c'' (xs ++ ys) → w.grownBy w' (ownBlk A) → Below base w w' → (ownBlk A' = ownBlk A ∨ ownBlk A' = some w.heap.size) → K (a.put o.dst (.slice A' (n + m) c'')) w') :
    if Region.wanted o (yielded ops a.tmps) = true then Oper.wp Try.prog o a w K Q else E := by
  have hw : Region.wanted o (yielded ops a.tmps) = true := by simp [Region.wanted, hgd]
  rw [if_pos hw]
  exact wp_app s x ho base n c A xs hs hown lo hi m c' B ys hx hr hsz hbase h
end
end Go.Proofs.Ytnehppeoffemlaa
/- Small words on what a call keeps, shared by the records and the pages. -/
namespace Go.Proofs.Ytnehppeoffemlaa
set_option linter.unusedVariables false
set_option linter.unusedSimpArgs false
open Go.RowKit
theorem BsR.grown {w w' : World} {lo hi n : Nat} {A : Option Addr} {l : List Int} {row : Option Nat} (h : BsR w lo hi A n l) (hg : w.grownBy w' row) (hne : ∀ k, row = some k → k < lo ∨ hi ≤ k) (hh : hi ≤ w.heap.size) : BsR w' lo hi A n l :=
  ⟨h.1, h.2.1, h.2.2.keep fun b o h1 h2 => World.cell?_of_block (a := ⟨b, o, none⟩) (hg.block b (by omega) (fun e => by rcases hne b e.symm with h | h <;> omega))⟩
theorem At.grown {w w' : World} {b T : Nat} {c : Array Value} {row : Option Nat} (h : At w b c T) (hg : w.grownBy w' row) (hne : some b ≠ row) : At w' b c T := h.of_heap (hg.block b h.lt hne)
theorem ne_next {A A' : Option Addr} {D H : Nat} (hat : ownBlk A' = ownBlk A ∨ ownBlk A' = some H) (h1 : some D ≠ ownBlk A) (h2 : D < H) : some D ≠ ownBlk A' := by
  rcases hat with h | h
  · rw [h]; exact h1
  · rw [h]; intro e; injection e with e; omega
theorem OwB.drew {w : World} {base n c : Nat} {A : Option Addr} {l : List Int} (h : OwB w base A n c l) : OwB w.drew base A n c l := h
theorem BsR.drew {w : World} {lo hi n : Nat} {A : Option Addr} {l : List Int} (h : BsR w lo hi A n l) : BsR w.drew lo hi A n l := h
end Go.Proofs.Ytnehppeoffemlaa
