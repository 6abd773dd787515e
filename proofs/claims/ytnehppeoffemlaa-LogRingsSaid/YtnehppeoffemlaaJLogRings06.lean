/- Joined texts: LogG, AppG. -/
import Derived.Test.YtnehppeoffemlaaJLogRings05
import Derived.Test.YtnehppeoffemlaaJLogRings02
/- A sector of the log, as bytes (plain). -/
namespace Go.Proofs.Ytnehppeoffemlaa
set_option linter.unusedVariables false
set_option linter.unusedSimpArgs false
open Go.RowKit
/-- Ahead of the noughts: the sector's number, the epoch, the part's length, the part. -/
def layH (k ep : Int) (p : List Int) : List Int := u8L k ++ u8L ep ++ two2 p.length ++ p
def layB (k ep : Int) (p : List Int) : List Int := layH k ep p ++ List.replicate (486 - p.length) 0
def layL (k ep : Int) (p : List Int) : List Int := layB k ep p ++ u8L (sumL (layB k ep p))
theorem layH_len (k ep : Int) (p : List Int) : (layH k ep p).length = 18 + p.length := by unfold layH two2; simp [u8L_len]; omega
theorem layB_len {k ep : Int} {p : List Int} (hp : p.length ≤ 480) : (layB k ep p).length = 504 := by unfold layB; rw [List.length_append, layH_len, List.length_replicate]; omega
theorem layL_len {k ep : Int} {p : List Int} (hp : p.length ≤ 480) : (layL k ep p).length = 512 := by unfold layL; rw [List.length_append, layB_len hp, u8L_len]
end Go.Proofs.Ytnehppeoffemlaa
/- append to a row that the call owns, of elements of any type. -/
namespace Go.Proofs.Ytnehppeoffemlaa
set_option linter.unusedVariables false
set_option linter.unusedSimpArgs false
open Go.RowKit
/-- Slices of type t have elements of type e, of so many cells and bytes. -/
structure EltOk (P : Program) (t e : TypeId) (size bytes : Nat) (z : Value) : Prop where
  ht : P.underlying t = some (.slice e)
  hi : ∃ i, P.info? e = some i ∧ i.zero = some z ∧ i.size = size ∧ i.bytes = bytes
  hzs : z.cells.size = size
  hsz : 0 < size
/-- What is appended: m elements that read as the cells xs. -/
def Src (w : World) (size : Nat) (B : Option Addr) (m : Nat) (xs : List Value) : Prop := xs.length = m * size ∧ ∀ j u, xs[j]? = some u → u.oneCell' = true ∧ ∃ gb go' : Nat, B = some ⟨gb, go', none⟩ ∧ w.cell? ⟨gb, go' + j, none⟩ = some u
theorem Src.nil (w : World) (size : Nat) (B : Option Addr) : Src w size B 0 [] := ⟨by simp, fun j u h => by simp at h⟩
theorem Src.of_at {w : World} {b T size m : Nat} {c : Array Value} (h : At w b c T) (hl : c.size = m * size) (h1 : ∀ u ∈ c.toList, u.oneCell' = true) : Src w size (some ⟨b, 0, none⟩) m c.toList :=
  ⟨by simpa using hl, fun j u hu => ⟨h1 u (List.mem_of_getElem? hu), b, 0, rfl, by rw [Nat.zero_add, h.c j]; simpa using hu⟩⟩
theorem Src.keep {w w' : World} {size m lo hi : Nat} {B : Option Addr} {xs : List Value} (h : Src w size B m xs) (hB : ∀ ad, B = some ad → lo ≤ ad.block ∧ ad.block < hi) (hk : ∀ b o, lo ≤ b → b < hi → w'.cell? ⟨b, o, none⟩ = w.cell? ⟨b, o, none⟩) : Src w' size B m xs :=
  ⟨h.1, fun j u hu => by
    obtain ⟨h1, gb, go', hA, hc⟩ := h.2 j u hu
    have := hB _ hA
    exact ⟨h1, gb, go', hA, (hk _ _ this.1 this.2).trans hc⟩⟩
theorem run_appG {P : Program} {t e : TypeId} {size bytes : Nat} {z : Value} (E : EltOk P t e size bytes z) (w : World) (ty : TypeId) (base n c : Nat) (A : Option Addr) (xs : List Value) (hown : w.ownsRow base e size (.slice A n c) n xs)
    (m c' : Nat) (B : Option Addr) (ys : List Value) (hr : Src w size B m ys) (h63 : n + m ≤ maxLen) (hb : (n + m) * bytes ≤ 140737488355328) (hbase : base ≤ w.heap.size) :
    ∃ A' c'' w', (Builtin.append_ #[t, t] ty #[.slice A n c, .slice B m c']).run P w = .ok (.slice A' (n + m) c'') w' ∧ w'.ownsRow base e size (.slice A' (n + m) c'') (n + m) (xs ++ ys) ∧ w.grownBy w' (ownBlk A) ∧ Below base w w' ∧ (ownBlk A' = ownBlk A ∨ ownBlk A' = some w.heap.size) := by
  obtain ⟨i0, hi0, hz0, hz1, hz2⟩ := E.hi
  have ht := E.ht
  have hbel : ∀ w', w.grownBy w' (ownBlk A) → Below base w w' := fun w' hg => (Below.refl _ _).grown (by rw [← ownBlk_eq A n c] at hg; exact hg) hbase (fun k hk => (hown.lt k hk).1)
  rcases B with _ | ad
  · have hy : ys = [] := by
      rcases ys with _ | ⟨u, ys⟩
      · rfl
      · obtain ⟨_, _, _, h, _⟩ := hr.2 0 u rfl
        cases h
    subst hy
    have h0 : m = 0 := by
      have h1 := hr.1
      have := E.hsz
      rcases Nat.eq_zero_or_pos m with h0 | h0
      · exact h0
      · have := Nat.mul_pos h0 E.hsz
        simp only [List.length_nil] at h1
        omega
    subst h0
    refine ⟨A, c, w, ?_, by simpa using hown, World.grownBy.refl w _, hbel w (World.grownBy.refl w _), .inl rfl⟩
    rcases hown.2 with ⟨hv, rfl⟩ | ⟨g, cap, cur, hv, _, _, hnc, _⟩
    · injection hv with h1 _ h3
      subst h1; subst h3
      simp [Builtin.append_, run_underlying ht, sizeOf, typeInfo, hi0, Builtin.lenOf, Builtin.firstCells]
    · injection hv with h1 _ h3
      subst h1; subst h3
      simp [Builtin.append_, run_underlying ht, sizeOf, typeInfo, hi0, Builtin.lenOf, Builtin.firstCells, hnc, storeCells]
  · have hnews : ∀ j u, ys[j]? = some u → w.cell? (ad.add j) = some u := by
      intro j u hu
      obtain ⟨_, gb, go', hA, hc⟩ := hr.2 j u hu
      injection hA with hA
      subst hA
      rw [Go.WideShapes.add_plain]
      exact hc
    obtain ⟨v', w', hrun, h2, h3, _, h5⟩ := run_append_own_at (P := P) w base t ty e i0 z size bytes ht hi0 hz0 hz1 hz2 E.hzs E.hsz (.slice A n c) n xs hown ad m c' ys hr.1 hnews (fun u hu => by
      obtain ⟨j, hj⟩ := List.getElem?_of_mem hu
      exact (hr.2 j u hj).1) h63 hb hbase
    rw [ownBlk_eq] at h3
    have hform : ∃ A' c'', v' = .slice A' (n + m) c'' := by
      rcases h2.2 with ⟨h, h0⟩ | ⟨g, cap, cur, h, _⟩
      · exact ⟨none, 0, by rw [h, h0]⟩
      · exact ⟨_, _, h⟩
    obtain ⟨A', c'', rfl⟩ := hform
    rw [ownBlk_eq, ownBlk_eq] at h5
    exact ⟨A', c'', w', hrun, h2, h3, hbel w' h3, h5⟩
section
variable {P : Program} {t e : TypeId} {size bytes : Nat} {z : Value} {w : World} {ops : Array Oper} {rest : List Oper} {o : Oper} {a : Act} {Q : Exit → Act → World → Prop}
theorem wp_appG (E : EltOk P t e size bytes z) {K : Act → World → Prop} (s x : Operand) (ho : o.op = .call { callee := .builtin .append, args := #[s, x], argTypes := #[t, t] })
    (base n c : Nat) (A : Option Addr) (xs : List Value) (hs : a.eval s = .slice A n c) (hown : w.ownsRow base e size (.slice A n c) n xs) (m c' : Nat) (B : Option Addr) (ys : List Value) (hx : a.eval x = .slice B m c') (hr : Src w size B m ys)
    (h63 : n + m ≤ maxLen) (hb : (n + m) * bytes ≤ 140737488355328) (hbase : base ≤ w.heap.size)
    (h : ∀ A' c'' w', w'.ownsRow base e size (.slice A' (n + m) c'') (n + m) (xs ++ ys) → w.grownBy w' (ownBlk A) → Below base w w' → (ownBlk A' = ownBlk A ∨ ownBlk A' = some w.heap.size) → K (a.put o.dst (.slice A' (n + m) c'')) w') : o.wp P a w K Q := by
  obtain ⟨A', c'', w', hrun, h2, h3, h4, h5⟩ := run_appG E w o.type base n c A xs hown m c' B ys hr h63 hb hbase
  unfold Oper.wp execOp
  simp only [ho, resolve, invoke, builtin, Sem.run_bind, Sem.run_pure, Result.andThen_ok, List.map_toArray, List.map_cons, List.map_nil, hs, hx, hrun]
  exact h A' c'' w' h2 h3 h4 h5
theorem wpList_appG (E : EltOk P t e size bytes z) (hgd : o.guard = none) (s x : Operand) (ho : o.op = .call { callee := .builtin .append, args := #[s, x], argTypes := #[t, t] })
    (base n c : Nat) (A : Option Addr) (xs : List Value) (hs : a.eval s = .slice A n c) (hown : w.ownsRow base e size (.slice A n c) n xs) (m c' : Nat) (B : Option Addr) (ys : List Value) (hx : a.eval x = .slice B m c') (hr : Src w size B m ys)
    (h63 : n + m ≤ maxLen) (hb : (n + m) * bytes ≤ 140737488355328) (hbase : base ≤ w.heap.size)
    (h : ∀ A' c'' w', w'.ownsRow base e size (.slice A' (n + m) c'') (n + m) (xs ++ ys) → w.grownBy w' (ownBlk A) → Below base w w' → (ownBlk A' = ownBlk A ∨ ownBlk A' = some w.heap.size) → wpList P ops Q rest (a.put o.dst (.slice A' (n + m) c'')) w') : wpList P ops Q (o :: rest) a w :=
  wpList_plain hgd fun _ hK => wp_appG E s x ho base n c A xs hs hown m c' B ys hx hr h63 hb hbase fun A' c'' w' h2 h3 h4 h5 => hK _ _ (h A' c'' w' h2 h3 h4 h5)
theorem step_appG (E : EltOk P t e size bytes z) {K : Act → World → Prop} {X : Prop} (hgd : o.guard = none) (s x : Operand) (ho : o.op = .call { callee := .builtin .append, args := #[s, x], argTypes := #[t, t] })
    (base n c : Nat) (A : Option Addr) (xs : List Value) (hs : a.eval s = .slice A n c) (hown : w.ownsRow base e size (.slice A n c) n xs) (m c' : Nat) (B : Option Addr) (ys : List Value) (hx : a.eval x = .slice B m c') (hr : Src w size B m ys)
    (h63 : n + m ≤ maxLen) (hb : (n + m) * bytes ≤ 140737488355328) (hbase : base ≤ w.heap.size)
    (h : ∀ A' c'' w', w'.ownsRow base e size (.slice A' (n + m) c'') (n + m) (xs ++ ys) → w.grownBy w' (ownBlk A) → Below base w w' → (ownBlk A' = ownBlk A ∨ ownBlk A' = some w.heap.size) → K (a.put o.dst (.slice A' (n + m) c'')) w') :
    if Region.wanted o (yielded ops a.tmps) = true then Oper.wp P o a w K Q else X := by
  have hw : Region.wanted o (yielded ops a.tmps) = true := by simp [Region.wanted, hgd]
  rw [if_pos hw]
  exact wp_appG E s x ho base n c A xs hs hown m c' B ys hx hr h63 hb hbase h
end
end Go.Proofs.Ytnehppeoffemlaa
