/- Joined texts: Base, RowKit, Mem. -/
import Derived.Test.YtnehppeoffemlaaProg
import Derived.WalkKit
import Derived.WalkSpells
import Derived.BigQuiet
import Derived.Lib.Hide
import Derived.Deep.Cut
import Derived.Deep.RegionHeld3
import Derived.Test.YtnehppeoffemlaaRows
import Derived.ProofKit
import Derived.OpenShut
import Derived.ShutString
import Derived.ChangeOld
import Derived.SizedLaws
import Derived.Lib.SmallJoins
/- Words of our own on worlds: a block known whole (At), a call that changes only the blocks of S and what is new (Mod). -/
namespace Go.Proofs.Ytnehppeoffemlaa
set_option linter.unusedVariables false
set_option linter.unusedSimpArgs false
open Go.RowKit

theorem bcell {W w1 : World} (hb : Below W.heap.size W w1) : (∀ b o, b < W.heap.size → w1.cell? ⟨b, o, none⟩ = W.cell? ⟨b, o, none⟩) ∧ (∀ b o, b < W.heap.size → w1.frozen? ⟨b, o, none⟩ = W.frozen? ⟨b, o, none⟩) :=
  ⟨fun b o h => hb.cell (p := ⟨b, o, none⟩) h, fun b o h => hb.frozen (p := ⟨b, o, none⟩) h⟩
theorem ret_bool {a b : Bool} (h : a = b) : Ending.returned (.bool a) = Ending.returned (.bool b) := by rw [h]
theorem ret_int {k : IntKind} {a b : Int} (h : a = b) : Ending.returned (.int k a) = Ending.returned (.int k b) := by rw [h]

/-- Block b is these cells, none of them frozen. -/
def At (w : World) (b : Nat) (c : Array Value) (T : Nat) : Prop := w.heap[b]? = some (.cells c T (0, 0))
theorem At.lt {w : World} {b T : Nat} {c : Array Value} (h : At w b c T) : b < w.heap.size := by
  unfold At at h; exact (Array.getElem?_eq_some_iff.1 h).1
theorem At.c {w : World} {b T : Nat} {c : Array Value} (h : At w b c T) : ∀ o, w.cell? ⟨b, o, none⟩ = c[o]? := by
  intro o; unfold At at h; simp [World.cell?, h]
theorem At.f {w : World} {b T : Nat} {c : Array Value} (h : At w b c T) : ∀ o, w.frozen? ⟨b, o, none⟩ = false := by
  intro o; unfold At at h; simp [World.frozen?, h]
theorem At.of_heap {w w' : World} {b T : Nat} {c : Array Value} (h : At w b c T) (e : w'.heap[b]? = w.heap[b]?) : At w' b c T := by
  unfold At at h ⊢; rw [e]; exact h
theorem At.below {w w' : World} {b B T : Nat} {c : Array Value} (h : At w b c T) (hb : Below B w w') (hlt : b < B) : At w' b c T := h.of_heap (hb.block b hlt)
theorem At.alloc {w : World} {b T : Nat} {c : Array Value} (h : At w b c T) (o : Obj) : At (w.alloc o) b c T := h.of_heap (Below.heap_alloc _ _ _ h.lt)
theorem At.new (w : World) (c : Array Value) (T : Nat) : At (w.alloc (.cells c T)) w.heap.size c T := by
  show (w.heap.push _)[w.heap.size]? = _
  simp
theorem At.new' {w : World} {b T : Nat} {c : Array Value} (e : b = w.heap.size) : At (w.alloc (.cells c T)) b c T := by subst e; exact At.new w c T
theorem At.drew {w : World} {b T : Nat} {c : Array Value} (h : At w b c T) : At w.drew b c T := h
theorem At.drewN {w : World} {b T : Nat} {c : Array Value} (h : At w b c T) (n : Nat) : At (w.drewN n) b c T := h
theorem At.set_ne {w : World} {b b' o T : Nat} {c : Array Value} {v : Value} (h : At w b c T) (hne : b ≠ b') : At (w.setCell ⟨b', o, none⟩ v) b c T := h.of_heap (Below.heap_setCell _ _ _ _ hne)
theorem At.set {w : World} {b o T : Nat} {c : Array Value} {v : Value} (h : At w b c T) : At (w.setCell ⟨b, o, none⟩ v) b (c.setIfInBounds o v) T := by
  unfold At at h ⊢
  simp [World.setCell, Array.getElem?_modify, h]
theorem At.to {w : World} {b T : Nat} {c c' : Array Value} (h : At w b c T) (e : c = c') : At w b c' T := e ▸ h

theorem below_drewN {B : Nat} {a w : World} (h : Below B a w) (n : Nat) : Below B a (w.drewN n) := ⟨h.os, h.tape, h.output, h.size, h.block⟩

theorem ge_alloc {w w' : World} {O : Obj} {B : Nat} (h : Below B (w.alloc O).drew w') : w.heap.size ≤ w'.heap.size := Nat.le_trans (by simp) h.size
theorem ge_drew {w w' : World} {B : Nat} (h : Below B w.drew w') : w.heap.size ≤ w'.heap.size := h.size
theorem ge_new (w : World) (O : Obj) : w.heap.size ≤ (w.alloc O).heap.size := by simp
theorem below_new (w : World) (O : Obj) : Below w.heap.size w (w.alloc O) := (Below.refl _ _).alloc (Nat.le_refl _) _

/-- What a call keeps: all blocks that were there but those of S; the streams. -/
structure Mod (S : Nat → Prop) (w w' : World) : Prop where
  os : w'.os = w.os
  tape : w'.tape = w.tape
  output : w'.output = w.output
  size : w.heap.size ≤ w'.heap.size
  block : ∀ k, k < w.heap.size → ¬ S k → w'.heap[k]? = w.heap[k]?
def Nob : Nat → Prop := fun _ => False
theorem Mod.refl (S : Nat → Prop) (w : World) : Mod S w w := ⟨rfl, rfl, rfl, Nat.le_refl _, fun _ _ _ => rfl⟩
theorem Mod.trans {S T : Nat → Prop} {a b c : World} (h : Mod S a b) (k : Mod T b c) (hs : ∀ i, i < a.heap.size → T i → S i) : Mod S a c :=
  ⟨k.os.trans h.os, k.tape.trans h.tape, k.output.trans h.output, Nat.le_trans h.size k.size,
   fun i hi hn => (k.block i (Nat.lt_of_lt_of_le hi h.size) (fun ht => hn (hs i hi ht))).trans (h.block i hi hn)⟩
theorem Mod.mono {S T : Nat → Prop} {a b : World} (h : Mod S a b) (hs : ∀ i, S i → T i) : Mod T a b :=
  ⟨h.os, h.tape, h.output, h.size, fun i hi hn => h.block i hi (fun hh => hn (hs i hh))⟩
theorem Mod.of_below {S : Nat → Prop} {a b : World} (h : Below a.heap.size a b) : Mod S a b := ⟨h.os, h.tape, h.output, h.size, fun i hi _ => h.block i hi⟩
theorem Mod.below {a b : World} {S : Nat → Prop} {B : Nat} (h : Mod S a b) (hB : B ≤ a.heap.size) (hs : ∀ i, S i → B ≤ i) : Below B a b :=
  ⟨h.os, h.tape, h.output, h.size, fun i hi => h.block i (by omega) (fun hh => by have := hs i hh; omega)⟩
theorem Mod.drew {S : Nat → Prop} {a b : World} (h : Mod S a b) : Mod S a b.drew := ⟨h.os, h.tape, h.output, h.size, h.block⟩
theorem Mod.drewN {S : Nat → Prop} {a b : World} (h : Mod S a b) (n : Nat) : Mod S a (b.drewN n) := ⟨h.os, h.tape, h.output, h.size, h.block⟩
theorem Mod.alloc {S : Nat → Prop} {a b : World} (h : Mod S a b) (o : Obj) : Mod S a (b.alloc o) :=
  h.trans (T := Nob) ⟨rfl, rfl, rfl, by simp, fun k hk _ => Below.heap_alloc _ _ _ hk⟩ (fun _ _ hf => hf.elim)
theorem Mod.set {S : Nat → Prop} {a b : World} (h : Mod S a b) {k o : Nat} (hk : S k ∨ a.heap.size ≤ k) (v : Value) : Mod S a (b.setCell ⟨k, o, none⟩ v) :=
  ⟨h.os, h.tape, h.output, by simpa [World.setCell] using h.size, fun i hi hn => (Below.heap_setCell _ _ _ _ (by
    intro e; rcases hk with hk | hk
    · exact hn (e ▸ hk)
    · simp only at e; omega)).trans (h.block i hi hn)⟩
theorem Mod.grown {S : Nat → Prop} {a b c : World} {row : Option Nat} (h : Mod S a b) (hg : b.grownBy c row) (hr : ∀ k, row = some k → S k ∨ a.heap.size ≤ k) : Mod S a c :=
  ⟨hg.os.trans h.os, hg.tape.trans h.tape, hg.output.trans h.output, Nat.le_trans h.size hg.size, fun i hi hn => (hg.block i (Nat.lt_of_lt_of_le hi h.size) (by
    intro e; rcases hr i e.symm with h1 | h1
    · exact hn h1
    · omega)).trans (h.block i hi hn)⟩
theorem At.mod {S : Nat → Prop} {w w' : World} {b T : Nat} {c : Array Value} (h : At w b c T) (hm : Mod S w w') (hs : ¬ S b) : At w' b c T := h.of_heap (hm.block b h.lt hs)

theorem cell_keep {w w' : World} {a : Addr} {v : Value} (hb : Below w.heap.size w w') (h : w.cell? a = some v) : w'.cell? a = some v :=
  (hb.cell (World.block_lt_of_cell? w a h)).trans h
theorem below_keep {w0 w w' : World} (hb : Below w.heap.size w w') (h : Below w0.heap.size w0 w) : Below w0.heap.size w0 w' := h.trans (hb.mono h.size)
theorem At.keep {w w' : World} {b T : Nat} {c : Array Value} (hb : Below w.heap.size w w') (h : At w b c T) : At w' b c T := h.below hb h.lt

theorem below_al {w0 w1 : World} {O : Obj} (h : Below w0.heap.size w0 w1) : Below w0.heap.size w0 (w1.alloc O) := h.alloc h.size _
theorem below_dr {B : Nat} {w0 w1 : World} (h : Below B w0 w1) : Below B w0 w1.drew := ⟨h.os, h.tape, h.output, h.size, h.block⟩
theorem below_tr {B : Nat} {w0 w1 w2 : World} (h : Below B w0 w1) (k : Below B w1 w2) : Below B w0 w2 := h.trans k
theorem le_blk {a b g : Nat} (h : a ≤ b) (k : b ≤ g) : a ≤ g := Nat.le_trans h k
end Go.Proofs.Ytnehppeoffemlaa
/- Words of our own for the rows of laws: all arguments read as they did where nothing below the heap's size has changed. -/
namespace Go.Proofs.Ytnehppeoffemlaa
set_option linter.unusedVariables false
set_option linter.unusedSimpArgs false
open Go.ChangeShapes Go.WideShapes Go.ChangeAt Go.RowKit
theorem trodAll_below {H : Type} {enc : TypeId × Value → H} {P : Program} (hl : laidOutB P = true) {W W' : World} (hb : Below W.heap.size W W') :
    ∀ {ts : List TypeId} {vs : List Value} {ds : List (DataW H)} {ps : List MemPlace}, (ts.all fun t => P.readableRec t && decide (t < P.types.size)) = true →
      DataW.TrodAll enc P W 0 (fun _ => true) true ts vs ds ps → (∀ x ∈ ps, x.block < W.heap.size) → DataW.TrodAll enc P W' 0 (fun b => decide (b < W.heap.size)) true ts vs ds ps
  | [], _, _, _, _, h, _ => by
    obtain ⟨rfl, rfl, rfl⟩ := trodAll_nil h
    exact trodAll_mk0
  | t :: ts, _, _, _, hr, h, hlt => by
    obtain ⟨v, vs', d, ds', p, q, rfl, rfl, rfl, h0, h1⟩ := trodAll_cons h
    simp only [List.all_cons, Bool.and_eq_true, decide_eq_true_eq] at hr
    exact trodAll_cons_mk (Below.trod hl hr.1.1 hr.1.2 h0 hb (fun x hx => hlt x (by simp [hx]))) (trodAll_below hl hb hr.2 h1 (fun x hx => hlt x (by simp [hx])))
theorem laidOut : laidOutB Try.prog = true := by kernel_rfl
theorem ownk : ownKnob Try.prog.godebug = none := by kernel_rfl
end Go.Proofs.Ytnehppeoffemlaa
/- Words of our own on slices in memory: bytes, pairs of numbers. -/
namespace Go.Proofs.Ytnehppeoffemlaa
set_option linter.unusedVariables false
set_option linter.unusedSimpArgs false
open Go.RowKit
/-- The m cells from A on, in a block from lo on and below hi, are f 0, f 1, .. -/
def Rd (w : World) (lo hi : Nat) (A : Option Addr) (m : Nat) (f : Nat → Value) : Prop :=
  0 < m → ∃ gb go : Nat, A = some ⟨gb, go, none⟩ ∧ lo ≤ gb ∧ gb < hi ∧ ∀ j, j < m → w.cell? ⟨gb, go + j, none⟩ = some (f j)
theorem Rd.keep {w w' : World} {lo hi m : Nat} {A : Option Addr} {f : Nat → Value} (h : Rd w lo hi A m f) (hk : ∀ b o, lo ≤ b → b < hi → w'.cell? ⟨b, o, none⟩ = w.cell? ⟨b, o, none⟩) : Rd w' lo hi A m f := by
  intro hm
  obtain ⟨gb, go', rfl, h1, h2, h3⟩ := h hm
  exact ⟨gb, go', rfl, h1, h2, fun j hj => (hk _ _ h1 h2).trans (h3 j hj)⟩
theorem Rd.below {w w' : World} {lo hi m B : Nat} {A : Option Addr} {f : Nat → Value} (h : Rd w lo hi A m f) (hb : Below B w w') (hB : hi ≤ B) : Rd w' lo hi A m f :=
  h.keep fun b o _ h2 => hb.cell (p := ⟨b, o, none⟩) (Nat.lt_of_lt_of_le h2 hB)
theorem Rd.more {w : World} {lo hi hi' m : Nat} {A : Option Addr} {f : Nat → Value} (h : Rd w lo hi A m f) (hh : hi ≤ hi') : Rd w lo hi' A m f := by
  intro hm
  obtain ⟨gb, go', rfl, h1, h2, h3⟩ := h hm
  exact ⟨gb, go', rfl, h1, by omega, h3⟩
theorem Rd.less {w : World} {lo lo' hi m : Nat} {A : Option Addr} {f : Nat → Value} (h : Rd w lo hi A m f) (hh : lo' ≤ lo) : Rd w lo' hi A m f := by
  intro hm
  obtain ⟨gb, go', rfl, h1, h2, h3⟩ := h hm
  exact ⟨gb, go', rfl, by omega, h2, h3⟩
theorem Rd.nil (w : World) (lo hi : Nat) (A : Option Addr) (f : Nat → Value) : Rd w lo hi A 0 f := fun h => absurd h (by omega)
/-- Bytes. -/
def Byt (l : List Int) : Prop := ∀ x ∈ l, 0 ≤ x ∧ x ≤ 255
def bsF (l : List Int) : Nat → Value := fun j => .int .u8 (l.getD j 0)
def BsR (w : World) (lo hi : Nat) (A : Option Addr) (n : Nat) (l : List Int) : Prop := l.length = n ∧ Byt l ∧ Rd w lo hi A n (bsF l)
theorem Byt.getD {l : List Int} (h : Byt l) (j : Nat) : 0 ≤ l.getD j 0 ∧ l.getD j 0 ≤ 255 := by
  rcases Nat.lt_or_ge j l.length with hj | hj
  · have := h l[j] (List.getElem_mem hj); simpa [hj] using this
  · simp [hj]
theorem Byt.app {a b : List Int} (ha : Byt a) (hb : Byt b) : Byt (a ++ b) := by
  intro x hx
  rcases List.mem_append.1 hx with h | h
  · exact ha x h
  · exact hb x h
theorem Byt.take {a : List Int} (ha : Byt a) (k : Nat) : Byt (a.take k) := fun x hx => ha x (List.mem_of_mem_take hx)
theorem Byt.drop {a : List Int} (ha : Byt a) (k : Nat) : Byt (a.drop k) := fun x hx => ha x (List.mem_of_mem_drop hx)
theorem Byt.nil : Byt [] := fun _ h => nomatch h
theorem Byt.cons {x : Int} {l : List Int} (h0 : 0 ≤ x) (h1 : x ≤ 255) (h : Byt l) : Byt (x :: l) := by
  intro y hy
  rcases List.mem_cons.1 hy with rfl | hy
  · exact ⟨h0, h1⟩
  · exact h y hy
/-- Pairs of a number and one that is not signed. -/
def prF (l : List (Int × Int)) : Nat → Value := fun j => if j % 2 = 0 then .int .i64 (l.getD (j / 2) (0, 0)).1 else .int .u64 (l.getD (j / 2) (0, 0)).2
def PrR (w : World) (lo hi : Nat) (A : Option Addr) (n : Nat) (l : List (Int × Int)) : Prop := l.length = n ∧ Rd w lo hi A (n * 2) (prF l)
theorem PrR.at_ {w : World} {lo hi n k : Nat} {A : Option Addr} {l : List (Int × Int)} (h : PrR w lo hi A n l) (hk : k < n) :
    ∃ gb go : Nat, A = some ⟨gb, go, none⟩ ∧ lo ≤ gb ∧ gb < hi ∧ w.cell? ⟨gb, go + k * 2, none⟩ = some (.int .i64 (l.getD k (0, 0)).1) ∧ w.cell? ⟨gb, go + k * 2 + 1, none⟩ = some (.int .u64 (l.getD k (0, 0)).2) := by
  obtain ⟨gb, go', rfl, h1, h2, h3⟩ := h.2 (by omega)
  refine ⟨gb, go', rfl, h1, h2, ?_, ?_⟩
  · have := h3 (k * 2) (by omega)
    rw [this]; simp [prF]
  · have := h3 (k * 2 + 1) (by omega)
    rw [Nat.add_assoc, this]; unfold prF
    rw [if_neg (by omega), show (k * 2 + 1) / 2 = k from by omega]
theorem BsR.at_ {w : World} {lo hi n k : Nat} {A : Option Addr} {l : List Int} (h : BsR w lo hi A n l) (hk : k < n) :
    ∃ gb go : Nat, A = some ⟨gb, go, none⟩ ∧ lo ≤ gb ∧ gb < hi ∧ w.cell? ⟨gb, go + k, none⟩ = some (.int .u8 (l.getD k 0)) := by
  obtain ⟨gb, go', rfl, h1, h2, h3⟩ := h.2.2 (by omega)
  exact ⟨gb, go', rfl, h1, h2, h3 k hk⟩
end Go.Proofs.Ytnehppeoffemlaa
