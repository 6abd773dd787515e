/- DiskOrder: the walk of the law. -/
import Derived.Test.YtjgomebnlekddaaDAwake
namespace Go.Proofs.Ytjgomebnlekddaa
set_option linter.unusedVariables false
set_option linter.unusedSimpArgs false
open Go.RowKit
/-- Of a disk of one sector: what stands there when the first k writes are settled. -/
def oneTo (D : Dk) (f : Nat → Bool) : Nat → List Int
  | 0 => D.l.getD 0 []
  | k + 1 => if f k then (wayAt D k).2 else oneTo D f k
theorem setTo_one {D : Dk} (h1 : D.l.length = 1) (h0 : ∀ k, k < D.way.length → (wayAt D k).1 = 0) (f : Nat → Bool) : ∀ k, k ≤ D.way.length → (setTo D f k).getD 0 [] = oneTo D f k
  | 0, _ => rfl
  | k + 1, hk => by
    unfold setTo oneTo
    split
    · rw [h0 k (by omega)]
      have hl := setTo_len D f k
      rw [h1] at hl
      match hm : setTo D f k, hl with
      | [a], _ => rfl
    · exact setTo_one h1 h0 f k (by omega)
/-- The disk in the law's first loop: the writes behind the last Sync. -/
structure Ord1 (D : Dk) (from_ j : Nat) (want : Int) : Prop where
  l1 : D.l.length = 1
  w0 : (D.l.getD 0 []).getD 0 0 = want
  way : D.way = (List.range (j - from_)).map fun t => (0, fullL [((from_ + t + 1 : Nat) : Int)])
  arm : D.arm = 0
  off : D.off = false
  ops : 0 ≤ D.ops ∧ D.ops ≤ 2 * j
theorem Ord1.start : Ord1 (newD 1) 0 0 0 := ⟨rfl, rfl, rfl, rfl, rfl, by decide⟩
theorem Ord1.wayLen {D : Dk} {f j : Nat} {want : Int} (h : Ord1 D f j want) : D.way.length = j - f := by rw [h.way]; simp
theorem Ord1.at_ {D : Dk} {f j t : Nat} {want : Int} (h : Ord1 D f j want) (ht : t < j - f) : wayAt D t = (0, fullL [((f + t + 1 : Nat) : Int)]) := by
  unfold wayAt; rw [h.way]; simp [ht]
theorem Ord1.op {D : Dk} {f j : Nat} {want : Int} (h : Ord1 D f j want) : (opD D).arm = 0 ∧ (opD D).off = false ∧ (opD D).ops = D.ops + 1 := by
  unfold opD
  simp [h.arm, h.off]
theorem Ord1.wr {D : Dk} {f j : Nat} {want : Int} (h : Ord1 D f j want) (hf : f ≤ j) : (wrD D 0 (fullL [((j + 1 : Nat) : Int)])).ops ≤ 2 * j + 1 ∧ wrE D = 0 ∧ ((wrD D 0 (fullL [((j + 1 : Nat) : Int)])).ops ≤ 2 * ((j + 1 : Nat) : Int) → Ord1 (wrD D 0 (fullL [((j + 1 : Nat) : Int)])) f (j + 1) want) := by
  obtain ⟨h1, h2, h3⟩ := h.op
  have ho := h.ops
  refine ⟨by show (opD D).ops ≤ _; omega, by unfold wrE; rw [h2]; rfl, fun h9 => ⟨h.l1, h.w0, ?_, h1, h2, ⟨by show 0 ≤ (opD D).ops; omega, h9⟩⟩⟩
  show D.way ++ _ = _
  rw [h.way, show j + 1 - f = (j - f) + 1 by omega, List.range_succ, List.map_append]
  have e : (f : Int) + ((j - f : Nat) : Int) + 1 = (j : Int) + 1 := by omega
  simp [e]
theorem Ord1.sync {D : Dk} {f j : Nat} {want : Int} (h : Ord1 D f (j + 1) want) (hf : f ≤ j) (h9 : (opD D).ops ≤ 2 * ((j + 1 : Nat) : Int)) : Ord1 (syncD D) (j + 1) (j + 1) ((j + 1 : Nat) : Int) := by
  obtain ⟨h1, h2, h3⟩ := h.op
  have ho := h.ops
  have hw := h.wayLen
  refine ⟨?_, ?_, by rw [Nat.sub_self]; rfl, h1, h2, ⟨by show 0 ≤ (opD D).ops; omega, h9⟩⟩
  · show (setTo D (fun _ => true) D.way.length).length = 1
    rw [setTo_len, h.l1]
  · show ((setTo D (fun _ => true) D.way.length).getD 0 []).getD 0 0 = _
    rw [setTo_one h.l1 (fun k hk => by rw [h.at_ (by omega)]) _ _ (Nat.le_refl _), hw, show j + 1 - f = (j - f) + 1 by omega]
    unfold oneTo
    rw [if_pos rfl, h.at_ (by omega), show f + (j - f) + 1 = j + 1 by omega]
    rfl
def wantTo (D : Dk) (fl : Nat → Bool) (t : Nat) : Int := (oneTo D fl t).getD 0 0
theorem wantTo_zero {D : Dk} {f j : Nat} {want : Int} (h : Ord1 D f j want) (fl : Nat → Bool) : wantTo D fl 0 = want := h.w0
theorem wantTo_yes {D : Dk} {f j t : Nat} {want : Int} (h : Ord1 D f j want) (fl : Nat → Bool) (ht : t < j - f) (hf : fl t = true) : wantTo D fl (t + 1) = ((f + t + 1 : Nat) : Int) := by
  unfold wantTo oneTo
  rw [if_pos hf, h.at_ ht]
  rfl
theorem wantTo_no {D : Dk} {t : Nat} (fl : Nat → Bool) (hf : fl t = false) : wantTo D fl (t + 1) = wantTo D fl t := by
  show (if fl t then _ else _ : List Int).getD 0 0 = _
  rw [hf]; rfl
theorem wantTo_bd {D : Dk} {f j : Nat} {want : Int} (h : Ord1 D f j want) (hj : j ≤ 20) (hw : 0 ≤ want ∧ want ≤ 255) (fl : Nat → Bool) : ∀ t, t ≤ j - f → 0 ≤ wantTo D fl t ∧ wantTo D fl t ≤ 255
  | 0, _ => by rw [wantTo_zero h]; exact hw
  | t + 1, ht => by
    cases hf : fl t
    · rw [wantTo_no fl hf]; exact wantTo_bd h hj hw fl t (by omega)
    · rw [wantTo_yes h fl (by omega) hf]; omega
/-- What is read behind the Restart. -/
theorem Ord1.read {D : Dk} {f j : Nat} {want : Int} (h : Ord1 D f j want) (n : Nat) (kl : List Bool) : (readD (restD D n kl) 0).getD 0 0 = wantTo D (keepF n kl) (j - f) := by
  show ((setTo D (keepF n kl) D.way.length).getD 0 []).getD 0 0 = _
  rw [setTo_one h.l1 (fun k hk => by rw [h.at_ (by have := h.wayLen; omega)]) _ _ (Nat.le_refl _), h.wayLen]
  rfl
end Go.Proofs.Ytjgomebnlekddaa
