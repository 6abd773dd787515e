/- Joined texts: RowKit, Open. -/
import Derived.Test.YtggeepihkeocmaaRows
import Derived.Test.YtggeepihkeocmaaJPlays00
import Derived.ProofKit
import Derived.OpenShut
import Derived.ShutString
import Derived.ChangeOld
import Derived.SizedLaws
import Derived.Lib.SmallJoins
import Derived.Deep.Slices
import Derived.Deep.Fields
/- Words of our own for the rows of laws: all arguments read as they did where nothing below the heap's size has changed. -/
namespace Go.Proofs.Ytggeepihkeocmaa
set_option linter.unusedVariables false
set_option linter.unusedSimpArgs false
open Go.ChangeShapes Go.WideShapes Go.ChangeAt Go.RowKit
theorem trodAll_below {H : Type} {enc : TypeId × Value → H} {P : Program} (hl : laidOutB P = true) {W W' : World} (hb : Below W.heap.size W W') :
    ∀ {ts : List TypeId} {vs : List Value} {ds : List (DataW H)} {ps : List MemPlace}, (ts.all fun t => P.readableRec t && decide (t < P.types.size)) = true →
      DataW.TrodAll enc P W 0 (fun _ => true) true ts vs ds ps → (∀ x ∈ ps, x.block < W.heap.size) → DataW.TrodAll enc P W' 0 (fun b => decide (b < W.heap.size)) true ts vs ds ps
  | [], _, _, _, _, h, _ => by
    obtain ⟨rfl, rfl, rfl⟩ := trodAll_nil h
    exact trodAll_mk0
  | t :: ts, _, _, _, hr, h, hlt => by
    obtain ⟨v, vs', d, ds', p, q, rfl, rfl, rfl, h0, h1⟩ := trodAll_cons h
    simp only [List.all_cons, Bool.and_eq_true, decide_eq_true_eq] at hr
    exact trodAll_cons_mk (Below.trod hl hr.1.1 hr.1.2 h0 hb (fun x hx => hlt x (by simp [hx]))) (trodAll_below hl hb hr.2 h1 (fun x hx => hlt x (by simp [hx])))
theorem laidOut : laidOutB Try.prog = true := by kernel_rfl
theorem ownk : ownKnob Try.prog.godebug = none := by kernel_rfl
end Go.Proofs.Ytggeepihkeocmaa
/- Arguments opened: bytes, structs of one-cell fields, slices of structs of two fields. -/
namespace Go.Proofs.Ytggeepihkeocmaa
set_option linter.unusedVariables false
set_option linter.unusedSimpArgs false
open Go.ChangeShapes Go.WideShapes Go.ChangeAt Go.RowKit Go.Joins Go.Deep
section
variable {H : Type} {enc : TypeId × Value → H} {w : World} {spare : Nat → Bool} {held : Bool}
theorem cells_u8 : Try.prog.cellsOf 5 = 1 := by kernel_rfl
theorem bytes_u8 : Try.prog.bytesOf 5 = 1 := by kernel_rfl
theorem open_bytes {fuel : Nat} {cs : List Value} {x : DataW H × List MemPlace} (h : DataW.trod enc Try.prog w 0 spare held fuel 32 cs = some x) :
    ∃ (A : Option Addr) (n c : Nat) (l : List Int), cs = [.slice A n c] ∧ BsR w 0 w.heap.size A n l ∧ n ≤ c ∧ c ≤ maxLen ∧ ((∀ k ∈ x.1.weights Try.prog 32, k ≤ reachBytes) → n ≤ 140737488351232) := by
  rcases open_ints Try.underlying32 Try.underlying5 cells_u8 h with ⟨rfl, _⟩ | ⟨a, len, cap, zs, rfl, _, hl, hm, hz, hx, hcell, hwz⟩
  · exact ⟨none, 0, 0, [], rfl, ⟨rfl, Byt.nil, Rd.nil _ _ _ _ _⟩, Nat.le_refl _, by decide, fun _ => by omega⟩
  · have hzl : len ≤ zs.length := by rw [hz]; split <;> omega
    have hr := range_u8 hwz
    refine ⟨some a, len, cap, zs.take len, rfl, ⟨by simp; omega, fun y hy => ?_, fun h0 => ?_⟩, hl, hm, fun hs => ?_⟩
    · have := bounds_u8 (hwz y (List.mem_of_mem_take hy)); omega
    · obtain ⟨b, off, rfl, hc⟩ := ints_at hcell (by omega)
      have h00 := hc 0 (by omega)
      refine ⟨b, off, rfl, Nat.zero_le _, World.block_lt_of_cell? w ⟨b, off, none⟩ (by simpa using h00), fun j hj => ?_⟩
      rw [hc j (by omega)]
      simp [bsF, hj]
    · have := hs ((lits (H := H) .u8 (zs.take len)).length * 1 + (lits (H := H) .u8 (zs.drop len)).length * 1) (by rw [hx]; simp [DataW.weights, Try.underlying32, bytes_u8, lits])
      simp [lits, reachBytes] at this
      omega
/-- A struct of one-cell fields: a value and a datum a field. -/
theorem open_fields {t : TypeId} {fs : Array Field} {fuel : Nat} {cs : List Value} {x : DataW H × List MemPlace} (ht : Try.prog.underlying t = some (.struct fs)) (hone : oneCellFields Try.prog fs = true) (hC : Try.prog.cellsOf t = fs.size) (h : DataW.trod enc Try.prog w 0 spare held fuel t cs = some x) :
    ∃ (ys : List (DataW H × List MemPlace)) (n : Nat), cs.length = fs.size ∧ ys.length = fs.size ∧ x = (.agg (ys.map (·.1)), ys.flatMap (·.2)) ∧
      ∀ (i : Nat) (f : Field), fs[i]? = some f → ∃ v y, cs[i]? = some v ∧ ys[i]? = some y ∧ DataW.trod enc Try.prog w 0 spare held n f.type [v] = some y := by
  obtain ⟨ys, n, _, hx, hcl, hyl, hf⟩ := DataW.trod_struct ht h
  refine ⟨ys, n, by omega, hyl, hx, fun i f hi => ?_⟩
  obtain ⟨ho, hk⟩ := hone_of hone i f hi
  have hil : i < fs.size := (Array.getElem?_eq_some_iff.1 hi).1
  have h1 := hf i f hi
  rw [ho, hk] at h1
  have hcut : (cs.drop i).take 1 = [cs[i]'(by omega)] := by rw [List.drop_eq_getElem_cons (by omega)]; rfl
  rw [hcut] at h1
  have hy : ys[i]? = some (ys[i]'(by omega)) := List.getElem?_eq_getElem (by omega)
  exact ⟨_, _, List.getElem?_eq_getElem (by omega), hy, h1.trans hy⟩
/-- .. behind a slice: the cells of element i from i times the number of fields on. -/
theorem open_rows {t e : TypeId} {fs : Array Field} {fuel : Nat} {cs : List Value} {x : DataW H × List MemPlace} (ht : Try.prog.underlying t = some (.slice e)) (he : Try.prog.underlying e = some (.struct fs)) (hone : oneCellFields Try.prog fs = true) (hC : Try.prog.cellsOf e = fs.size) (hfs : 0 < fs.size)
    (h : DataW.trod enc Try.prog w 0 spare held fuel t cs = some x) :
    ∃ (A : Option Addr) (n c : Nat) (D : Nat → DataW H), cs = [.slice A n c] ∧ n ≤ c ∧ c ≤ maxLen ∧ (∀ k, (∀ j ∈ x.1.weights Try.prog t, j ≤ reachBytes) → n * Try.prog.bytesOf e ≤ reachBytes ∧ (k < n → ∀ j ∈ (D k).weights Try.prog e, j ≤ reachBytes)) ∧
      (0 < n → ∃ gb go', A = some ⟨gb, go', none⟩ ∧ gb < w.heap.size ∧ ∀ i, i < n → ∃ (ys : List (DataW H × List MemPlace)) (m : Nat), D i = .agg (ys.map (·.1)) ∧ ys.length = fs.size ∧
        ∀ (j : Nat) (f : Field), fs[j]? = some f → ∃ v y, w.cell? ⟨gb, go' + (i * fs.size + j), none⟩ = some v ∧ ys[j]? = some y ∧ DataW.trod enc Try.prog w 0 spare held m f.type [v] = some y) := by
  rcases open_slice ht h with ⟨rfl, rfl⟩ | ⟨a, len, cap, m, n, D, Pl, rfl, _, hl, hm, hmm, rfl, hi⟩
  · exact ⟨none, 0, 0, fun _ => .nil, rfl, Nat.le_refl _, by decide, fun k _ => ⟨by simp [reachBytes], fun h => absurd h (by omega)⟩, fun h => absurd h (by omega)⟩
  · have hml : len ≤ m := by rw [hmm]; split <;> omega
    refine ⟨some a, len, cap, D, rfl, hl, hm, fun k hs => ⟨?_, fun hk j hj => ?_⟩, fun h0 => ?_⟩
    · have := hs (len * Try.prog.bytesOf e + (m - len) * Try.prog.bytesOf e) (by simp [DataW.weights, ht, Nat.add_mul])
      exact Nat.le_trans (Nat.le_add_right _ _) this
    · refine hs j ?_
      have hin : ∀ (l : List (DataW H)) (d : DataW H), d ∈ l → ∀ j ∈ d.weights Try.prog e, j ∈ DataW.weightsAll Try.prog e l := by
        intro l
        induction l with
        | nil => intro d hd; cases hd
        | cons d0 l ih =>
          intro d hd j hj
          simp only [DataW.weightsAll, List.mem_append]
          rcases List.mem_cons.1 hd with rfl | hd
          · exact .inl hj
          · exact .inr (ih d hd j hj)
      simp only [DataW.weights, ht, List.mem_cons, List.mem_append]
      exact .inr (.inl (hin _ (D k) (List.mem_map.2 ⟨k, by simpa using hk, rfl⟩) j hj))
    · obtain ⟨cs0, hc0, _⟩ := hi 0 (by omega)
      rw [hC] at hc0
      obtain ⟨_, hcl0, hat0⟩ := World.cells?_some hc0
      obtain ⟨b, off, spot⟩ := a
      have hv0 : w.cell? ((⟨b, off, spot⟩ : Addr).add (0 * fs.size)) = some (cs0[0]'(by omega)) := by
        have := hat0 0 hfs
        rw [List.getElem?_eq_getElem (by omega)] at this
        simpa [Addr.add] using this
      have hspot : spot = none := by simpa [Addr.add] using World.cell?_spot hv0
      subst hspot
      refine ⟨b, off, rfl, World.block_lt_of_cell? w ⟨b, off, none⟩ (by simpa [Addr.add] using hv0), fun i hin => ?_⟩
      obtain ⟨cs', hc, ht'⟩ := hi i (by omega)
      rw [hC] at hc
      obtain ⟨_, hcl, hat⟩ := World.cells?_some hc
      obtain ⟨ys, n', _, hyl, hx, hf⟩ := open_fields he hone hC ht'
      simp only [Prod.mk.injEq] at hx
      refine ⟨ys, n', hx.1, hyl, fun j f hj => ?_⟩
      have hjl : j < fs.size := (Array.getElem?_eq_some_iff.1 hj).1
      obtain ⟨v, y, hv, hy, hr⟩ := hf j f hj
      refine ⟨v, y, ?_, hy, hr⟩
      have := (hat j hjl).trans hv
      rw [Go.WideShapes.add_plain, Go.WideShapes.add_plain] at this
      rw [← Nat.add_assoc]; exact this
end
end Go.Proofs.Ytggeepihkeocmaa
