/- Words of our own on worlds: a block known whole (At), a call that changes only the blocks of S and what is new (Mod). -/
import Derived.Test.YtnehppeoffemlaaProg
import Derived.WalkKit
import Derived.WalkSpells
import Derived.BigQuiet
import Derived.Lib.Hide
import Derived.Deep.Cut
import Derived.Deep.RegionHeld3
namespace Go.Proofs.Ytnehppeoffemlaa
set_option linter.unusedVariables false
set_option linter.unusedSimpArgs false
open Go.RowKit

theorem bcell {W w1 : World} (hb : Below W.heap.size W w1) : (∀ b o, b < W.heap.size → w1.cell? ⟨b, o, none⟩ = W.cell? ⟨b, o, none⟩) ∧ (∀ b o, b < W.heap.size → w1.frozen? ⟨b, o, none⟩ = W.frozen? ⟨b, o, none⟩) :=
  ⟨fun b o h => hb.cell (p := ⟨b, o, none⟩) h, fun b o h => hb.frozen (p := ⟨b, o, none⟩) h⟩
theorem ret_bool {a b : Bool} (h : a = b) : Ending.returned (.bool a) = Ending.returned (.bool b) := by rw [h]
theorem ret_int {k : IntKind} {a b : Int} (h : a = b) : Ending.returned (.int k a) = Ending.returned (.int k b) := by rw [h]

/-- Block b is these cells, none of them frozen. -/
def At (w : World) (b : Nat) (c : Array Value) (T : Nat) : Prop := w.heap[b]? = some (.cells c T (0, 0))
theorem At.lt {w : World} {b T : Nat} {c : Array Value} (h : At w b c T) : b < w.heap.size := by
  unfold At at h; exact (Array.getElem?_eq_some_iff.1 h).1
theorem At.c {w : World} {b T : Nat} {c : Array Value} (h : At w b c T) : ∀ o, w.cell? ⟨b, o, none⟩ = c[o]? := by
  intro o; unfold At at h; simp [World.cell?, h]
theorem At.f {w : World} {b T : Nat} {c : Array Value} (h : At w b c T) : ∀ o, w.frozen? ⟨b, o, none⟩ = false := by
  intro o; unfold At at h; simp [World.frozen?, h]
theorem At.of_heap {w w' : World} {b T : Nat} {c : Array Value} (h : At w b c T) (e : w'.heap[b]? = w.heap[b]?) : At w' b c T := by
  unfold At at h ⊢; rw [e]; exact h
theorem At.below {w w' : World} {b B T : Nat} {c : Array Value} (h : At w b c T) (hb : Below B w w') (hlt : b < B) : At w' b c T := h.of_heap (hb.block b hlt)
theorem At.alloc {w : World} {b T : Nat} {c : Array Value} (h : At w b c T) (o : Obj) : At (w.alloc o) b c T := h.of_heap (Below.heap_alloc _ _ _ h.lt)
theorem At.new (w : World) (c : Array Value) (T : Nat) : At (w.alloc (.cells c T)) w.heap.size c T := by
  show (w.heap.push _)[w.heap.size]? = _
  simp
theorem At.new' {w : World} {b T : Nat} {c : Array Value} (e : b = w.heap.size) : At (w.alloc (.cells c T)) b c T := by subst e; exact At.new w c T
theorem At.drew {w : World} {b T : Nat} {c : Array Value} (h : At w b c T) : At w.drew b c T := h
theorem At.drewN {w : World} {b T : Nat} {c : Array Value} (h : At w b c T) (n : Nat) : At (w.drewN n) b c T := h
theorem At.set_ne {w : World} {b b' o T : Nat} {c : Array Value} {v : Value} (h : At w b c T) (hne : b ≠ b') : At (w.setCell ⟨b', o, none⟩ v) b c T := h.of_heap (Below.heap_setCell _ _ _ _ hne)
theorem At.set {w : World} {b o T : Nat} {c : Array Value} {v : Value} (h : At w b c T) : At (w.setCell ⟨b, o, none⟩ v) b (c.setIfInBounds o v) T := by
  unfold At at h ⊢
  simp [World.setCell, Array.getElem?_modify, h]
theorem At.to {w : World} {b T : Nat} {c c' : Array Value} (h : At w b c T) (e : c = c') : At w b c' T := e ▸ h

theorem below_drewN {B : Nat} {a w : World} (h : Below B a w) (n : Nat) : Below B a (w.drewN n) := ⟨h.os, h.tape, h.output, h.size, h.block⟩

theorem ge_alloc {w w' : World} {O : Obj} {B : Nat} (h : Below B (w.alloc O).drew w') : w.heap.size ≤ w'.heap.size := Nat.le_trans (by simp) h.size
theorem ge_drew {w w' : World} {B : Nat} (h : Below B w.drew w') : w.heap.size ≤ w'.heap.size := h.size
theorem ge_new (w : World) (O : Obj) : w.heap.size ≤ (w.alloc O).heap.size := by simp
theorem below_new (w : World) (O : Obj) : Below w.heap.size w (w.alloc O) := (Below.refl _ _).alloc (Nat.le_refl _) _

/-- What a call keeps: all blocks that were there but those of S; the streams. -/
structure Mod (S : Nat → Prop) (w w' : World) : Prop where
  os : w'.os = w.os
  tape : w'.tape = w.tape
  output : w'.output = w.output
  size : w.heap.size ≤ w'.heap.size
  block : ∀ k, k < w.heap.size → ¬ S k → w'.heap[k]? = w.heap[k]?
def Nob : Nat → Prop := fun _ => False
theorem Mod.refl (S : Nat → Prop) (w : World) : Mod S w w := ⟨rfl, rfl, rfl, Nat.le_refl _, fun _ _ _ => rfl⟩
theorem Mod.trans {S T : Nat → Prop} {a b c : World} (h : Mod S a b) (k : Mod T b c) (hs : ∀ i, i < a.heap.size → T i → S i) : Mod S a c :=
  ⟨k.os.trans h.os, k.tape.trans h.tape, k.output.trans h.output, Nat.le_trans h.size k.size,
   fun i hi hn => (k.block i (Nat.lt_of_lt_of_le hi h.size) (fun ht => hn (hs i hi ht))).trans (h.block i hi hn)⟩
theorem Mod.mono {S T : Nat → Prop} {a b : World} (h : Mod S a b) (hs : ∀ i, S i → T i) : Mod T a b :=
  ⟨h.os, h.tape, h.output, h.size, fun i hi hn => h.block i hi (fun hh => hn (hs i hh))⟩
theorem Mod.of_below {S : Nat → Prop} {a b : World} (h : Below a.heap.size a b) : Mod S a b := ⟨h.os, h.tape, h.output, h.size, fun i hi _ => h.block i hi⟩
theorem Mod.below {a b : World} {S : Nat → Prop} {B : Nat} (h : Mod S a b) (hB : B ≤ a.heap.size) (hs : ∀ i, S i → B ≤ i) : Below B a b :=
  ⟨h.os, h.tape, h.output, h.size, fun i hi => h.block i (by omega) (fun hh => by have := hs i hh; omega)⟩
theorem Mod.drew {S : Nat → Prop} {a b : World} (h : Mod S a b) : Mod S a b.drew := ⟨h.os, h.tape, h.output, h.size, h.block⟩
theorem Mod.drewN {S : Nat → Prop} {a b : World} (h : Mod S a b) (n : Nat) : Mod S a (b.drewN n) := ⟨h.os, h.tape, h.output, h.size, h.block⟩
theorem Mod.alloc {S : Nat → Prop} {a b : World} (h : Mod S a b) (o : Obj) : Mod S a (b.alloc o) :=
  h.trans (T := Nob) ⟨rfl, rfl, rfl, by simp, fun k hk _ => Below.heap_alloc _ _ _ hk⟩ (fun _ _ hf => hf.elim)
theorem Mod.set {S : Nat → Prop} {a b : World} (h : Mod S a b) {k o : Nat} (hk : S k ∨ a.heap.size ≤ k) (v : Value) : Mod S a (b.setCell ⟨k, o, none⟩ v) :=
  ⟨h.os, h.tape, h.output, by simpa [World.setCell] using h.size, fun i hi hn => (Below.heap_setCell _ _ _ _ (by
    intro e; rcases hk with hk | hk
    · exact hn (e ▸ hk)
    · simp only at e; omega)).trans (h.block i hi hn)⟩
theorem Mod.grown {S : Nat → Prop} {a b c : World} {row : Option Nat} (h : Mod S a b) (hg : b.grownBy c row) (hr : ∀ k, row = some k → S k ∨ a.heap.size ≤ k) : Mod S a c :=
  ⟨hg.os.trans h.os, hg.tape.trans h.tape, hg.output.trans h.output, Nat.le_trans h.size hg.size, fun i hi hn => (hg.block i (Nat.lt_of_lt_of_le hi h.size) (by
    intro e; rcases hr i e.symm with h1 | h1
    · exact hn h1
    · omega)).trans (h.block i hi hn)⟩
theorem At.mod {S : Nat → Prop} {w w' : World} {b T : Nat} {c : Array Value} (h : At w b c T) (hm : Mod S w w') (hs : ¬ S b) : At w' b c T := h.of_heap (hm.block b h.lt hs)

theorem cell_keep {w w' : World} {a : Addr} {v : Value} (hb : Below w.heap.size w w') (h : w.cell? a = some v) : w'.cell? a = some v :=
  (hb.cell (World.block_lt_of_cell? w a h)).trans h
theorem below_keep {w0 w w' : World} (hb : Below w.heap.size w w') (h : Below w0.heap.size w0 w) : Below w0.heap.size w0 w' := h.trans (hb.mono h.size)
theorem At.keep {w w' : World} {b T : Nat} {c : Array Value} (hb : Below w.heap.size w w') (h : At w b c T) : At w' b c T := h.below hb h.lt

theorem below_al {w0 w1 : World} {O : Obj} (h : Below w0.heap.size w0 w1) : Below w0.heap.size w0 (w1.alloc O) := h.alloc h.size _
theorem below_dr {B : Nat} {w0 w1 : World} (h : Below B w0 w1) : Below B w0 w1.drew := ⟨h.os, h.tape, h.output, h.size, h.block⟩
theorem below_tr {B : Nat} {w0 w1 w2 : World} (h : Below B w0 w1) (k : Below B w1 w2) : Below B w0 w2 := h.trans k
theorem le_blk {a b g : Nat} (h : a ≤ b) (k : b ≤ g) : a ≤ g := Nat.le_trans h k
end Go.Proofs.Ytnehppeoffemlaa
