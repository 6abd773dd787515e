/- Joined texts: Base, Mem, App, Share. -/
import Derived.Test.YtggeepihkeocmaaProg
import Derived.WalkKit
import Derived.WalkSpells
import Derived.BigQuiet
import Derived.Lib.Hide
import Derived.Deep.Cut
import Derived.Deep.RegionHeld3
import Derived.Deep.AppendLies
import Derived.OwnWalk
/- Words of our own on worlds: a block known whole (At), a call that changes only the blocks of S and what is new (Mod). -/
namespace Go.Proofs.Ytggeepihkeocmaa
set_option linter.unusedVariables false
set_option linter.unusedSimpArgs false
open Go.RowKit

theorem bcell {W w1 : World} (hb : Below W.heap.size W w1) : (∀ b o, b < W.heap.size → w1.cell? ⟨b, o, none⟩ = W.cell? ⟨b, o, none⟩) ∧ (∀ b o, b < W.heap.size → w1.frozen? ⟨b, o, none⟩ = W.frozen? ⟨b, o, none⟩) :=
  ⟨fun b o h => hb.cell (p := ⟨b, o, none⟩) h, fun b o h => hb.frozen (p := ⟨b, o, none⟩) h⟩
theorem ret_bool {a b : Bool} (h : a = b) : Ending.returned (.bool a) = Ending.returned (.bool b) := by rw [h]
theorem ret_int {k : IntKind} {a b : Int} (h : a = b) : Ending.returned (.int k a) = Ending.returned (.int k b) := by rw [h]

/-- Block b is these cells, none of them frozen. -/
def At (w : World) (b : Nat) (c : Array Value) (T : Nat) : Prop := w.heap[b]? = some (.cells c T (0, 0))
theorem At.lt {w : World} {b T : Nat} {c : Array Value} (h : At w b c T) : b < w.heap.size := by
  unfold At at h; exact (Array.getElem?_eq_some_iff.1 h).1
theorem At.c {w : World} {b T : Nat} {c : Array Value} (h : At w b c T) : ∀ o, w.cell? ⟨b, o, none⟩ = c[o]? := by
  intro o; unfold At at h; simp [World.cell?, h]
theorem At.f {w : World} {b T : Nat} {c : Array Value} (h : At w b c T) : ∀ o, w.frozen? ⟨b, o, none⟩ = false := by
  intro o; unfold At at h; simp [World.frozen?, h]
theorem At.of_heap {w w' : World} {b T : Nat} {c : Array Value} (h : At w b c T) (e : w'.heap[b]? = w.heap[b]?) : At w' b c T := by
  unfold At at h ⊢; rw [e]; exact h
theorem At.below {w w' : World} {b B T : Nat} {c : Array Value} (h : At w b c T) (hb : Below B w w') (hlt : b < B) : At w' b c T := h.of_heap (hb.block b hlt)
theorem At.alloc {w : World} {b T : Nat} {c : Array Value} (h : At w b c T) (o : Obj) : At (w.alloc o) b c T := h.of_heap (Below.heap_alloc _ _ _ h.lt)
theorem At.new (w : World) (c : Array Value) (T : Nat) : At (w.alloc (.cells c T)) w.heap.size c T := by
  show (w.heap.push _)[w.heap.size]? = _
  simp
theorem At.new' {w : World} {b T : Nat} {c : Array Value} (e : b = w.heap.size) : At (w.alloc (.cells c T)) b c T := by subst e; exact At.new w c T
theorem At.drew {w : World} {b T : Nat} {c : Array Value} (h : At w b c T) : At w.drew b c T := h
theorem At.drewN {w : World} {b T : Nat} {c : Array Value} (h : At w b c T) (n : Nat) : At (w.drewN n) b c T := h
theorem At.set_ne {w : World} {b b' o T : Nat} {c : Array Value} {v : Value} (h : At w b c T) (hne : b ≠ b') : At (w.setCell ⟨b', o, none⟩ v) b c T := h.of_heap (Below.heap_setCell _ _ _ _ hne)
theorem At.set {w : World} {b o T : Nat} {c : Array Value} {v : Value} (h : At w b c T) : At (w.setCell ⟨b, o, none⟩ v) b (c.setIfInBounds o v) T := by
  unfold At at h ⊢
  simp [World.setCell, Array.getElem?_modify, h]
theorem At.to {w : World} {b T : Nat} {c c' : Array Value} (h : At w b c T) (e : c = c') : At w b c' T := e ▸ h

theorem below_drewN {B : Nat} {a w : World} (h : Below B a w) (n : Nat) : Below B a (w.drewN n) := ⟨h.os, h.tape, h.output, h.size, h.block⟩

theorem ge_alloc {w w' : World} {O : Obj} {B : Nat} (h : Below B (w.alloc O).drew w') : w.heap.size ≤ w'.heap.size := Nat.le_trans (by simp) h.size
theorem ge_drew {w w' : World} {B : Nat} (h : Below B w.drew w') : w.heap.size ≤ w'.heap.size := h.size
theorem ge_new (w : World) (O : Obj) : w.heap.size ≤ (w.alloc O).heap.size := by simp
theorem below_new (w : World) (O : Obj) : Below w.heap.size w (w.alloc O) := (Below.refl _ _).alloc (Nat.le_refl _) _

/-- What a call keeps: all blocks that were there but those of S; the streams. -/
structure Mod (S : Nat → Prop) (w w' : World) : Prop where
  os : w'.os = w.os
  tape : w'.tape = w.tape
  output : w'.output = w.output
  size : w.heap.size ≤ w'.heap.size
  block : ∀ k, k < w.heap.size → ¬ S k → w'.heap[k]? = w.heap[k]?
def Nob : Nat → Prop := fun _ => False
theorem Mod.refl (S : Nat → Prop) (w : World) : Mod S w w := ⟨rfl, rfl, rfl, Nat.le_refl _, fun _ _ _ => rfl⟩
theorem Mod.trans {S T : Nat → Prop} {a b c : World} (h : Mod S a b) (k : Mod T b c) (hs : ∀ i, i < a.heap.size → T i → S i) : Mod S a c :=
  ⟨k.os.trans h.os, k.tape.trans h.tape, k.output.trans h.output, Nat.le_trans h.size k.size,
   fun i hi hn => (k.block i (Nat.lt_of_lt_of_le hi h.size) (fun ht => hn (hs i hi ht))).trans (h.block i hi hn)⟩
theorem Mod.mono {S T : Nat → Prop} {a b : World} (h : Mod S a b) (hs : ∀ i, S i → T i) : Mod T a b :=
  ⟨h.os, h.tape, h.output, h.size, fun i hi hn => h.block i hi (fun hh => hn (hs i hh))⟩
theorem Mod.of_below {S : Nat → Prop} {a b : World} (h : Below a.heap.size a b) : Mod S a b := ⟨h.os, h.tape, h.output, h.size, fun i hi _ => h.block i hi⟩
theorem Mod.below {a b : World} {S : Nat → Prop} {B : Nat} (h : Mod S a b) (hB : B ≤ a.heap.size) (hs : ∀ i, S i → B ≤ i) : Below B a b :=
  ⟨h.os, h.tape, h.output, h.size, fun i hi => h.block i (by omega) (fun hh => by have := hs i hh; omega)⟩
theorem Mod.drew {S : Nat → Prop} {a b : World} (h : Mod S a b) : Mod S a b.drew := ⟨h.os, h.tape, h.output, h.size, h.block⟩
theorem Mod.drewN {S : Nat → Prop} {a b : World} (h : Mod S a b) (n : Nat) : Mod S a (b.drewN n) := ⟨h.os, h.tape, h.output, h.size, h.block⟩
theorem Mod.alloc {S : Nat → Prop} {a b : World} (h : Mod S a b) (o : Obj) : Mod S a (b.alloc o) :=
  h.trans (T := Nob) ⟨rfl, rfl, rfl, by simp, fun k hk _ => Below.heap_alloc _ _ _ hk⟩ (fun _ _ hf => hf.elim)
theorem Mod.set {S : Nat → Prop} {a b : World} (h : Mod S a b) {k o : Nat} (hk : S k ∨ a.heap.size ≤ k) (v : Value) : Mod S a (b.setCell ⟨k, o, none⟩ v) :=
  ⟨h.os, h.tape, h.output, by simpa [World.setCell] using h.size, fun i hi hn => (Below.heap_setCell _ _ _ _ (by
    intro e; rcases hk with hk | hk
    · exact hn (e ▸ hk)
    · simp only at e; omega)).trans (h.block i hi hn)⟩
theorem Mod.grown {S : Nat → Prop} {a b c : World} {row : Option Nat} (h : Mod S a b) (hg : b.grownBy c row) (hr : ∀ k, row = some k → S k ∨ a.heap.size ≤ k) : Mod S a c :=
  ⟨hg.os.trans h.os, hg.tape.trans h.tape, hg.output.trans h.output, Nat.le_trans h.size hg.size, fun i hi hn => (hg.block i (Nat.lt_of_lt_of_le hi h.size) (by
    intro e; rcases hr i e.symm with h1 | h1
    · exact hn h1
    · omega)).trans (h.block i hi hn)⟩
theorem At.mod {S : Nat → Prop} {w w' : World} {b T : Nat} {c : Array Value} (h : At w b c T) (hm : Mod S w w') (hs : ¬ S b) : At w' b c T := h.of_heap (hm.block b h.lt hs)

theorem cell_keep {w w' : World} {a : Addr} {v : Value} (hb : Below w.heap.size w w') (h : w.cell? a = some v) : w'.cell? a = some v :=
  (hb.cell (World.block_lt_of_cell? w a h)).trans h
theorem below_keep {w0 w w' : World} (hb : Below w.heap.size w w') (h : Below w0.heap.size w0 w) : Below w0.heap.size w0 w' := h.trans (hb.mono h.size)
theorem At.keep {w w' : World} {b T : Nat} {c : Array Value} (hb : Below w.heap.size w w') (h : At w b c T) : At w' b c T := h.below hb h.lt

theorem below_al {w0 w1 : World} {O : Obj} (h : Below w0.heap.size w0 w1) : Below w0.heap.size w0 (w1.alloc O) := h.alloc h.size _
theorem below_dr {B : Nat} {w0 w1 : World} (h : Below B w0 w1) : Below B w0 w1.drew := ⟨h.os, h.tape, h.output, h.size, h.block⟩
theorem below_tr {B : Nat} {w0 w1 w2 : World} (h : Below B w0 w1) (k : Below B w1 w2) : Below B w0 w2 := h.trans k
theorem le_blk {a b g : Nat} (h : a ≤ b) (k : b ≤ g) : a ≤ g := Nat.le_trans h k
end Go.Proofs.Ytggeepihkeocmaa
/- Words of our own on slices in memory: bytes, pairs of numbers. -/
namespace Go.Proofs.Ytggeepihkeocmaa
set_option linter.unusedVariables false
set_option linter.unusedSimpArgs false
open Go.RowKit
/-- The m cells from A on, in a block from lo on and below hi, are f 0, f 1, .. -/
def Rd (w : World) (lo hi : Nat) (A : Option Addr) (m : Nat) (f : Nat → Value) : Prop :=
  0 < m → ∃ gb go : Nat, A = some ⟨gb, go, none⟩ ∧ lo ≤ gb ∧ gb < hi ∧ ∀ j, j < m → w.cell? ⟨gb, go + j, none⟩ = some (f j)
theorem Rd.keep {w w' : World} {lo hi m : Nat} {A : Option Addr} {f : Nat → Value} (h : Rd w lo hi A m f) (hk : ∀ b o, lo ≤ b → b < hi → w'.cell? ⟨b, o, none⟩ = w.cell? ⟨b, o, none⟩) : Rd w' lo hi A m f := by
  intro hm
  obtain ⟨gb, go', rfl, h1, h2, h3⟩ := h hm
  exact ⟨gb, go', rfl, h1, h2, fun j hj => (hk _ _ h1 h2).trans (h3 j hj)⟩
theorem Rd.below {w w' : World} {lo hi m B : Nat} {A : Option Addr} {f : Nat → Value} (h : Rd w lo hi A m f) (hb : Below B w w') (hB : hi ≤ B) : Rd w' lo hi A m f :=
  h.keep fun b o _ h2 => hb.cell (p := ⟨b, o, none⟩) (Nat.lt_of_lt_of_le h2 hB)
theorem Rd.more {w : World} {lo hi hi' m : Nat} {A : Option Addr} {f : Nat → Value} (h : Rd w lo hi A m f) (hh : hi ≤ hi') : Rd w lo hi' A m f := by
  intro hm
  obtain ⟨gb, go', rfl, h1, h2, h3⟩ := h hm
  exact ⟨gb, go', rfl, h1, by omega, h3⟩
theorem Rd.less {w : World} {lo lo' hi m : Nat} {A : Option Addr} {f : Nat → Value} (h : Rd w lo hi A m f) (hh : lo' ≤ lo) : Rd w lo' hi A m f := by
  intro hm
  obtain ⟨gb, go', rfl, h1, h2, h3⟩ := h hm
  exact ⟨gb, go', rfl, by omega, h2, h3⟩
theorem Rd.nil (w : World) (lo hi : Nat) (A : Option Addr) (f : Nat → Value) : Rd w lo hi A 0 f := fun h => absurd h (by omega)
/-- Bytes. -/
def Byt (l : List Int) : Prop := ∀ x ∈ l, 0 ≤ x ∧ x ≤ 255
def bsF (l : List Int) : Nat → Value := fun j => .int .u8 (l.getD j 0)
def BsR (w : World) (lo hi : Nat) (A : Option Addr) (n : Nat) (l : List Int) : Prop := l.length = n ∧ Byt l ∧ Rd w lo hi A n (bsF l)
theorem Byt.getD {l : List Int} (h : Byt l) (j : Nat) : 0 ≤ l.getD j 0 ∧ l.getD j 0 ≤ 255 := by
  rcases Nat.lt_or_ge j l.length with hj | hj
  · have := h l[j] (List.getElem_mem hj); simpa [hj] using this
  · simp [hj]
theorem Byt.app {a b : List Int} (ha : Byt a) (hb : Byt b) : Byt (a ++ b) := by
  intro x hx
  rcases List.mem_append.1 hx with h | h
  · exact ha x h
  · exact hb x h
theorem Byt.take {a : List Int} (ha : Byt a) (k : Nat) : Byt (a.take k) := fun x hx => ha x (List.mem_of_mem_take hx)
theorem Byt.drop {a : List Int} (ha : Byt a) (k : Nat) : Byt (a.drop k) := fun x hx => ha x (List.mem_of_mem_drop hx)
theorem Byt.nil : Byt [] := fun _ h => nomatch h
theorem Byt.cons {x : Int} {l : List Int} (h0 : 0 ≤ x) (h1 : x ≤ 255) (h : Byt l) : Byt (x :: l) := by
  intro y hy
  rcases List.mem_cons.1 hy with rfl | hy
  · exact ⟨h0, h1⟩
  · exact h y hy
/-- Pairs of a number and one that is not signed. -/
def prF (l : List (Int × Int)) : Nat → Value := fun j => if j % 2 = 0 then .int .i64 (l.getD (j / 2) (0, 0)).1 else .int .u64 (l.getD (j / 2) (0, 0)).2
def PrR (w : World) (lo hi : Nat) (A : Option Addr) (n : Nat) (l : List (Int × Int)) : Prop := l.length = n ∧ Rd w lo hi A (n * 2) (prF l)
theorem PrR.at_ {w : World} {lo hi n k : Nat} {A : Option Addr} {l : List (Int × Int)} (h : PrR w lo hi A n l) (hk : k < n) :
    ∃ gb go : Nat, A = some ⟨gb, go, none⟩ ∧ lo ≤ gb ∧ gb < hi ∧ w.cell? ⟨gb, go + k * 2, none⟩ = some (.int .i64 (l.getD k (0, 0)).1) ∧ w.cell? ⟨gb, go + k * 2 + 1, none⟩ = some (.int .u64 (l.getD k (0, 0)).2) := by
  obtain ⟨gb, go', rfl, h1, h2, h3⟩ := h.2 (by omega)
  refine ⟨gb, go', rfl, h1, h2, ?_, ?_⟩
  · have := h3 (k * 2) (by omega)
    rw [this]; simp [prF]
  · have := h3 (k * 2 + 1) (by omega)
    rw [Nat.add_assoc, this]; unfold prF
    rw [if_neg (by omega), show (k * 2 + 1) / 2 = k from by omega]
theorem BsR.at_ {w : World} {lo hi n k : Nat} {A : Option Addr} {l : List Int} (h : BsR w lo hi A n l) (hk : k < n) :
    ∃ gb go : Nat, A = some ⟨gb, go, none⟩ ∧ lo ≤ gb ∧ gb < hi ∧ w.cell? ⟨gb, go + k, none⟩ = some (.int .u8 (l.getD k 0)) := by
  obtain ⟨gb, go', rfl, h1, h2, h3⟩ := h.2.2 (by omega)
  exact ⟨gb, go', rfl, h1, h2, h3 k hk⟩
end Go.Proofs.Ytggeepihkeocmaa
/- Rows of bytes that a call owns, and what append makes of them. -/
namespace Go.Proofs.Ytggeepihkeocmaa
set_option linter.unusedVariables false
set_option linter.unusedSimpArgs false
open Go.RowKit
theorem info8 : (Try.prog.info? 5).map (fun i => (i.zero, i.size, i.bytes)) = some (some (.int .u8 0), 1, 1) := by kernel_rfl
/-- The slice's cells are the call's own, in a block from base on, and read as the bytes l. -/
def OwB (w : World) (base : Nat) (A : Option Addr) (n c : Nat) (l : List Int) : Prop := l.length = n ∧ Byt l ∧ w.ownsRow base 5 1 (.slice A n c) n (l.map (Value.int .u8))
def ownBlk (A : Option Addr) : Option Nat := A.map (·.block)
theorem ownBlk_eq (A : Option Addr) (n c : Nat) : (Value.slice A n c).ownBlock = ownBlk A := by cases A <;> rfl
theorem map_get {l : List Int} {j : Nat} {u : Value} (h : (l.map (Value.int .u8))[j]? = some u) : u = .int .u8 (l.getD j 0) := by
  simp [List.getElem?_map] at h
  obtain ⟨x, hx, rfl⟩ := h
  simp [hx]
theorem map_at {l : List Int} {j : Nat} (h : j < l.length) : (l.map (Value.int .u8))[j]? = some (.int .u8 (l.getD j 0)) := by
  simp [h]
theorem OwB.reads {w : World} {base n c : Nat} {A : Option Addr} {l : List Int} (h : OwB w base A n c l) : BsR w base w.heap.size A n l := by
  refine ⟨h.1, h.2.1, fun hm => ?_⟩
  obtain ⟨g, cap, hv, hb, hlt⟩ := h.2.2.form hm
  injection hv with hA _ _
  subst hA
  refine ⟨g, 0, rfl, hb, hlt, fun j hj => ?_⟩
  have := h.2.2.cells (g := g) rfl j _ (map_at (by rw [h.1]; exact hj))
  unfold Addr.add at this
  by_cases h0 : j = 0
  · subst h0; simpa [bsF] using this
  · rw [if_neg h0] at this; simpa [bsF] using this
theorem OwB.kept {w w' : World} {base n c : Nat} {A : Option Addr} {l : List Int} {row : Option Nat} (h : OwB w base A n c l) (hg : w.grownBy w' row) (hne : ownBlk A = none ∨ ownBlk A ≠ row) : OwB w' base A n c l :=
  ⟨h.1, h.2.1, h.2.2.kept hg (by rw [ownBlk_eq]; exact hne)⟩
theorem OwB.lt {w : World} {base n c : Nat} {A : Option Addr} {l : List Int} (h : OwB w base A n c l) : ∀ k, ownBlk A = some k → base ≤ k ∧ k < w.heap.size := by
  intro k hk; exact h.2.2.lt k (by rw [ownBlk_eq]; exact hk)
theorem grown_of_below {w w' : World} (hb : Below w.heap.size w w') (row : Option Nat) : w.grownBy w' row := ⟨hb.os, hb.tape, hb.output, hb.size, fun k hk _ => hb.block k hk⟩
theorem OwB.later {w w' : World} {base n c : Nat} {A : Option Addr} {l : List Int} (h : OwB w base A n c l) (hb : Below w.heap.size w w') : OwB w' base A n c l := by
  refine h.kept (grown_of_below hb (some w.heap.size)) ?_
  right
  intro e
  have := (h.lt _ e).2
  omega
theorem OwB.alloc {w : World} {base n c : Nat} {A : Option Addr} {l : List Int} (h : OwB w base A n c l) (o : Obj) : OwB (w.alloc o) base A n c l :=
  h.later ((Below.refl _ _).alloc (Nat.le_refl _) _)
theorem OwB.drewN {w : World} {base n c : Nat} {A : Option Addr} {l : List Int} (h : OwB w base A n c l) (k : Nat) : OwB (w.drewN k) base A n c l := h
theorem OwB.less {w : World} {base base' n c : Nat} {A : Option Addr} {l : List Int} (h : OwB w base A n c l) (hb : base' ≤ base) : OwB w base' A n c l := by
  refine ⟨h.1, h.2.1, h.2.2.1, ?_⟩
  rcases h.2.2.2 with h0 | ⟨g, cap, cur, h1, h2, h3⟩
  · exact .inl h0
  · exact .inr ⟨g, cap, cur, h1, by omega, h3⟩
theorem OwB.nil (w : World) (base : Nat) : OwB w base none 0 0 [] := ⟨rfl, Byt.nil, World.ownsRow_nil _ _ _ _⟩
/-- A block that was just made of the bytes l. -/
theorem OwB.made {w : World} {base b : Nat} {l : List Int} {n : Nat} (h : At w b (l.map (Value.int .u8)).toArray 5) (hl : l.length = n) (hb : Byt l) (hbase : base ≤ b) (hm : n ≤ maxLen) : OwB w base (some ⟨b, 0, none⟩) n n l := by
  refine ⟨hl, hb, by simp [hl], .inr ⟨b, n, _, rfl, hbase, h, Nat.le_refl _, hm, by simp [hl], ?_⟩⟩
  rw [Nat.mul_one, ← hl, List.take_of_length_le (by simp)]
theorem BsR.of_at {w : World} {b T : Nat} {l : List Int} {n : Nat} (h : At w b (l.map (Value.int .u8)).toArray T) (hl : l.length = n) (hb : Byt l) : BsR w b (b + 1) (some ⟨b, 0, none⟩) n l := by
  refine ⟨hl, hb, fun _ => ⟨b, 0, rfl, Nat.le_refl _, Nat.lt_succ_self _, fun j hj => ?_⟩⟩
  rw [Nat.zero_add, h.c j]
  have := map_at (l := l) (j := j) (by omega)
  simpa [bsF] using this
theorem BsR.below {w w' : World} {lo hi n B : Nat} {A : Option Addr} {l : List Int} (h : BsR w lo hi A n l) (hb : Below B w w') (hB : hi ≤ B) : BsR w' lo hi A n l := ⟨h.1, h.2.1, h.2.2.below hb hB⟩
theorem BsR.more {w : World} {lo hi hi' n : Nat} {A : Option Addr} {l : List Int} (h : BsR w lo hi A n l) (hh : hi ≤ hi') : BsR w lo hi' A n l := ⟨h.1, h.2.1, h.2.2.more hh⟩
theorem BsR.less {w : World} {lo lo' hi n : Nat} {A : Option Addr} {l : List Int} (h : BsR w lo hi A n l) (hh : lo' ≤ lo) : BsR w lo' hi A n l := ⟨h.1, h.2.1, h.2.2.less hh⟩
theorem u8_oneCell (ys : List Int) : ∀ u ∈ ys.map (Value.int .u8), u.oneCell' = true := ints_oneCell .u8 ys
/-- append of bytes to a row of the call's own. -/
theorem run_app_gen {P : Program} (t8 : TypeId) (i0 : TypeInfo) (ht : P.underlying t8 = some (.slice 5)) (hi0 : P.info? 5 = some i0) (hz0 : i0.zero = some (.int .u8 0)) (hz1 : i0.size = 1) (hz2 : i0.bytes = 1) (w : World) (ty : TypeId) (base n c : Nat) (A : Option Addr) (xs : List Int) (hown : OwB w base A n c xs) (lo hi m c' : Nat) (B : Option Addr) (ys : List Int) (hr : BsR w lo hi B m ys)
    (hsz : n + m ≤ 70368744177664) (hbase : base ≤ w.heap.size) :
    ∃ A' c'' w', (Builtin.append_ #[t8, t8] ty #[.slice A n c, .slice B m c']).run P w = .ok (.slice A' (n + m) c'') w' ∧ OwB w' base A' (n + m) c'' (xs ++ ys) ∧ w.grownBy w' (ownBlk A) ∧ Below base w w' ∧ (ownBlk A' = ownBlk A ∨ ownBlk A' = some w.heap.size) := by
  have hbel : ∀ w', w.grownBy w' (ownBlk A) → Below base w w' := fun w' hg => (Below.refl _ _).grown (by rw [← ownBlk_eq A n c] at hg; exact hg) hbase (fun k hk => (hown.2.2.lt k hk).1)
  rcases B with _ | ad
  · have h0 : m = 0 := by
      rcases Nat.eq_zero_or_pos m with h0 | h0
      · exact h0
      · obtain ⟨gb, go', h, _⟩ := hr.2.2 h0
        cases h
    subst h0
    have hy : ys = [] := List.eq_nil_of_length_eq_zero hr.1
    subst hy
    refine ⟨A, c, w, ?_, by simpa using hown, World.grownBy.refl w _, hbel w (World.grownBy.refl w _), .inl rfl⟩
    rcases hown.2.2.2 with ⟨hv, rfl⟩ | ⟨g, cap, cur, hv, _, _, hnc, _⟩
    · injection hv with h1 _ h3
      subst h1; subst h3
      simp [Builtin.append_, run_underlying ht, sizeOf, typeInfo, hi0, Builtin.lenOf, Builtin.firstCells]
    · injection hv with h1 _ h3
      subst h1; subst h3
      simp [Builtin.append_, run_underlying ht, sizeOf, typeInfo, hi0, Builtin.lenOf, Builtin.firstCells, hnc, storeCells]
  · have hnews : ∀ j u, (ys.map (Value.int .u8))[j]? = some u → w.cell? (ad.add j) = some u := by
      intro j u hu
      have hj : j < ys.length := by
        rcases Nat.lt_or_ge j ys.length with h | h
        · exact h
        · simp [h] at hu
      obtain ⟨gb, go', hA, _, _, hc⟩ := hr.2.2 (by rw [← hr.1]; omega)
      injection hA with hA
      subst hA
      rw [map_get hu]
      have := hc j (by rw [← hr.1]; exact hj)
      unfold Addr.add
      by_cases hj0 : j = 0
      · subst hj0; simpa [bsF] using this
      · rw [if_neg hj0]; simpa [bsF] using this
    obtain ⟨v', w', hrun, h2, h3, _, h5⟩ := run_append_own_at (P := P) w base t8 ty 5 i0 (.int .u8 0) 1 1 ht hi0 hz0 hz1 hz2 rfl (by decide) (.slice A n c) n (xs.map (Value.int .u8)) hown.2.2 ad m c' (ys.map (Value.int .u8)) (by simp [hr.1]) hnews (u8_oneCell _) (by simp only [maxLen]; omega) (by omega) hbase
    rw [ownBlk_eq] at h3
    have hform : ∃ A' c'', v' = .slice A' (n + m) c'' := by
      rcases h2.2 with ⟨h, h0⟩ | ⟨g, cap, cur, h, _⟩
      · exact ⟨none, 0, by rw [h, h0]⟩
      · exact ⟨_, _, h⟩
    obtain ⟨A', c'', rfl⟩ := hform
    rw [ownBlk_eq, ownBlk_eq] at h5
    exact ⟨A', c'', w', hrun, ⟨by simp [hown.1, hr.1], hown.2.1.app hr.2.1, by simpa using h2⟩, h3, hbel w' h3, h5⟩
theorem run_app (w : World) (ty : TypeId) (base n c : Nat) (A : Option Addr) (xs : List Int) (hown : OwB w base A n c xs) (lo hi m c' : Nat) (B : Option Addr) (ys : List Int) (hr : BsR w lo hi B m ys)
    (hsz : n + m ≤ 70368744177664) (hbase : base ≤ w.heap.size) :
    ∃ A' c'' w', (Builtin.append_ #[32, 32] ty #[.slice A n c, .slice B m c']).run Try.prog w = .ok (.slice A' (n + m) c'') w' ∧ OwB w' base A' (n + m) c'' (xs ++ ys) ∧ w.grownBy w' (ownBlk A) ∧ Below base w w' ∧ (ownBlk A' = ownBlk A ∨ ownBlk A' = some w.heap.size) := by
  obtain ⟨i0, hi0, hz0, hz1, hz2⟩ := info_parts info8
  exact run_app_gen 32 i0 Try.underlying32 hi0 hz0 hz1 hz2 w ty base n c A xs hown lo hi m c' B ys hr hsz hbase
section
variable {w : World} {ops : Array Oper} {rest : List Oper} {o : Oper} {a : Act} {Q : Exit → Act → World → Prop}
theorem wp_app {K : Act → World → Prop} (s x : Operand) (ho : o.op = .call { callee := .builtin .append, args := #[s, x], argTypes := #[32, 32] })
    (base n c : Nat) (A : Option Addr) (xs : List Int) (hs : a.eval s = .slice A n c) (hown : OwB w base A n c xs) (lo hi m c' : Nat) (B : Option Addr) (ys : List Int) (hx : a.eval x = .slice B m c') (hr : BsR w lo hi B m ys)
    (hsz : n + m ≤ 70368744177664) (hbase : base ≤ w.heap.size)
    (h : ∀ A' c'' w', OwB w' base A' (n + m) c'' (xs ++ ys) → w.grownBy w' (ownBlk A) → Below base w w' → (ownBlk A' = ownBlk A ∨ ownBlk A' = some w.heap.size) → K (a.put o.dst (.slice A' (n + m) c'')) w') : o.wp Try.prog a w K Q := by
  obtain ⟨A', c'', w', hrun, h2, h3, h4, h5⟩ := run_app w o.type base n c A xs hown lo hi m c' B ys hr hsz hbase
  unfold Oper.wp execOp
  simp only [ho, resolve, invoke, builtin, Sem.run_bind, Sem.run_pure, Result.andThen_ok, List.map_toArray, List.map_cons, List.map_nil, hs, hx, hrun]
  exact h A' c'' w' h2 h3 h4 h5
theorem wpList_app (hgd : o.guard = none) (s x : Operand) (ho : o.op = .call { callee := .builtin .append, args := #[s, x], argTypes := #[32, 32] })
    (base n c : Nat) (A : Option Addr) (xs : List Int) (hs : a.eval s = .slice A n c) (hown : OwB w base A n c xs) (lo hi m c' : Nat) (B : Option Addr) (ys : List Int) (hx : a.eval x = .slice B m c') (hr : BsR w lo hi B m ys)
    (hsz : n + m ≤ 70368744177664) (hbase : base ≤ w.heap.size)
    (h : ∀ A' c'' w', OwB w' base A' (n + m) c'' (xs ++ ys) → w.grownBy w' (ownBlk A) → Below base w w' → (ownBlk A' = ownBlk A ∨ ownBlk A' = some w.heap.size) → wpList Try.prog ops Q rest (a.put o.dst (.slice A' (n + m) c'')) w') : wpList Try.prog ops Q (o :: rest) a w :=
  wpList_plain hgd fun _ hK => wp_app s x ho base n c A xs hs hown lo hi m c' B ys hx hr hsz hbase fun A' c'' w' h2 h3 h4 h5 => hK _ _ (h A' c'' w' h2 h3 h4 h5)
theorem step_app {K : Act → World → Prop} {E : Prop} (hgd : o.guard = none) (s x : Operand) (ho : o.op = .call { callee := .builtin .append, args := #[s, x], argTypes := #[32, 32] })
    (base n c : Nat) (A : Option Addr) (xs : List Int) (hs : a.eval s = .slice A n c) (hown : OwB w base A n c xs) (lo hi m c' : Nat) (B : Option Addr) (ys : List Int) (hx : a.eval x = .slice B m c') (hr : BsR w lo hi B m ys)
    (hsz : n + m ≤ 70368744177664) (hbase : base ≤ w.heap.size)
    (h : ∀ A' c'' w', OwB w' base A' (n + m) c'' (xs ++ ys) → w.grownBy w' (ownBlk A) → Below base w w' → (ownBlk A' = ownBlk A ∨ ownBlk A' = some w.heap.size) → K (a.put o.dst (.slice A' (n + m) c'')) w') :
    if Region.wanted o (yielded ops a.tmps) = true then Oper.wp Try.prog o a w K Q else E := by
  have hw : Region.wanted o (yielded ops a.tmps) = true := by simp [Region.wanted, hgd]
  rw [if_pos hw]
  exact wp_app s x ho base n c A xs hs hown lo hi m c' B ys hx hr hsz hbase h
end
end Go.Proofs.Ytggeepihkeocmaa
/- Small words on what a call keeps, shared by the records and the pages. -/
namespace Go.Proofs.Ytggeepihkeocmaa
set_option linter.unusedVariables false
set_option linter.unusedSimpArgs false
open Go.RowKit
theorem BsR.grown {w w' : World} {lo hi n : Nat} {A : Option Addr} {l : List Int} {row : Option Nat} (h : BsR w lo hi A n l) (hg : w.grownBy w' row) (hne : ∀ k, row = some k → k < lo ∨ hi ≤ k) (hh : hi ≤ w.heap.size) : BsR w' lo hi A n l :=
  ⟨h.1, h.2.1, h.2.2.keep fun b o h1 h2 => World.cell?_of_block (a := ⟨b, o, none⟩) (hg.block b (by omega) (fun e => by rcases hne b e.symm with h | h <;> omega))⟩
theorem At.grown {w w' : World} {b T : Nat} {c : Array Value} {row : Option Nat} (h : At w b c T) (hg : w.grownBy w' row) (hne : some b ≠ row) : At w' b c T := h.of_heap (hg.block b h.lt hne)
theorem ne_next {A A' : Option Addr} {D H : Nat} (hat : ownBlk A' = ownBlk A ∨ ownBlk A' = some H) (h1 : some D ≠ ownBlk A) (h2 : D < H) : some D ≠ ownBlk A' := by
  rcases hat with h | h
  · rw [h]; exact h1
  · rw [h]; intro e; injection e with e; omega
theorem OwB.drew {w : World} {base n c : Nat} {A : Option Addr} {l : List Int} (h : OwB w base A n c l) : OwB w.drew base A n c l := h
theorem BsR.drew {w : World} {lo hi n : Nat} {A : Option Addr} {l : List Int} (h : BsR w lo hi A n l) : BsR w.drew lo hi A n l := h
end Go.Proofs.Ytggeepihkeocmaa
