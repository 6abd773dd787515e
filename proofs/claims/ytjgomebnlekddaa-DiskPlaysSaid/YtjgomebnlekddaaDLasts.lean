/- DiskLasts: the walk of the law. -/
import Derived.Test.YtjgomebnlekddaaDOrder
import Derived.Test.YtjgomebnlekddaaOpenBool
namespace Go.Proofs.Ytjgomebnlekddaa
set_option linter.unusedVariables false
set_option linter.unusedSimpArgs false
open Go.RowKit
/-- A slice of slices of bytes. -/
def LtR (w : World) (A : Option Addr) (n : Nat) (L : Nat → List Int) : Prop := ∀ i, i < n → ∃ (gb go' : Nat) (bA : Option Addr) (bN bC : Nat), A = some ⟨gb, go', none⟩ ∧ gb < w.heap.size ∧ w.cell? ⟨gb, go' + i, none⟩ = some (.slice bA bN bC) ∧ BsR w 0 w.heap.size bA bN (L i)
theorem strElt7 : EltOk Try.prog 43 9 1 16 (.string ByteArray.empty) := ⟨Try.underlying43, info_parts (by kernel_rfl), rfl, by decide⟩
def mayV (F0 : List Int) (L : Nat → List Int) (j : Nat) : List (List Int) := F0 :: (List.range j).map fun t => fullL (L t)
theorem mayV_succ (F0 : List Int) (L : Nat → List Int) (j : Nat) : mayV F0 L (j + 1) = mayV F0 L j ++ [fullL (L j)] := by
  unfold mayV; rw [List.range_succ]; simp
def strV (l : List (List Int)) : List Value := l.map fun s => .string (strL s)
structure Las (D : Dk) (F0 : List Int) (L : Nat → List Int) (j : Nat) : Prop where
  l : D.l = [F0]
  way : D.way = (List.range j).map fun t => (0, fullL (L t))
  ops : 0 ≤ D.ops ∧ D.ops ≤ 2 + j
theorem Las.wr {D : Dk} {F0 : List Int} {L : Nat → List Int} {j : Nat} (h : Las D F0 L j) : Las (wrD D 0 (fullL (L j))) F0 L (j + 1) := by
  have ho := h.ops
  refine ⟨h.l, ?_, ⟨by show 0 ≤ D.ops + 1; omega, by show D.ops + 1 ≤ _; omega⟩⟩
  show D.way ++ _ = _
  rw [h.way, List.range_succ, List.map_append]; rfl
theorem Las.len {D : Dk} {F0 : List Int} {L : Nat → List Int} {j : Nat} (h : Las D F0 L j) : D.way.length = j := by rw [h.way]; simp
theorem Las.one {D : Dk} {F0 : List Int} {L : Nat → List Int} {j : Nat} (h : Las D F0 L j) (f : Nat → Bool) : ∀ k, k ≤ j → oneTo D f k ∈ mayV F0 L j
  | 0, _ => by unfold oneTo; rw [h.l]; simp [mayV]
  | k + 1, hk => by
    unfold oneTo
    split
    · unfold wayAt mayV
      rw [h.way]
      refine List.mem_cons_of_mem _ ?_
      simp only [List.getD_eq_getElem?_getD, List.getElem?_map, List.getElem?_range (show k < j by omega), Option.map_some, Option.getD_some]
      exact List.mem_map.2 ⟨k, List.mem_range.2 (by omega), rfl⟩
    · exact h.one f k (by omega)
theorem Las.read {D : Dk} {F0 : List Int} {L : Nat → List Int} {j : Nat} (h : Las D F0 L j) (n : Nat) (kl : List Bool) : readD (restD D n kl) 0 ∈ mayV F0 L j := by
  have e : readD (restD D n kl) 0 = (setTo D (keepF n kl) D.way.length).getD 0 [] := rfl
  rw [e, setTo_one (by rw [h.l]; rfl) (fun k hk => ?_) _ _ (Nat.le_refl _), h.len]
  · exact h.one _ j (Nat.le_refl _)
  · rw [h.len] at hk
    unfold wayAt
    rw [h.way]
    simp [hk]
def okTo (M : List (List Int)) (p : List Int) (t : Nat) : Bool := (M.take t).any fun s => eqB s p
theorem okTo_succ {M : List (List Int)} {p : List Int} {t : Nat} (h : t < M.length) : okTo M p (t + 1) = (okTo M p t || eqB (M.getD t []) p) := by
  unfold okTo
  rw [List.take_succ_eq_append_getElem h, List.any_append]
  simp [List.getD, h]
theorem okTo_all {M : List (List Int)} {p : List Int} (h : p ∈ M) : okTo M p M.length = true := by
  unfold okTo
  rw [List.take_length, List.any_eq_true]
  exact ⟨p, h, decide_eq_true rfl⟩
theorem SecB.bs2 {w : World} {b : Nat} {s : List Int} (h : SecB w b s) : BsR w 0 w.heap.size (some ⟨b, 0, none⟩) 512 s :=
  ⟨h.2.1, h.2.2, fun _ => ⟨b, 0, rfl, Nat.zero_le _, h.1.lt, fun j hj => by
    have := h.range j (.int .u8 (s.getD j 0)) (map_at (by rw [h.2.1]; exact hj))
    simpa [bsF] using this⟩⟩
theorem mayV_len (F0 : List Int) (L : Nat → List Int) (j : Nat) : (mayV F0 L j).length = j + 1 := by simp [mayV]
theorem mayV_byt {F0 : List Int} {L : Nat → List Int} {j : Nat} (h0 : Byt F0) (h : ∀ t, t < j → Byt (L t)) (i : Nat) : Byt ((mayV F0 L j).getD i []) := by
  by_cases hi : i < (mayV F0 L j).length
  · have e : (mayV F0 L j).getD i [] = (mayV F0 L j)[i] := by simp [List.getD, hi]
    rw [e]
    have hm : (mayV F0 L j)[i] ∈ mayV F0 L j := List.getElem_mem hi
    generalize (mayV F0 L j)[i] = q at hm
    rcases List.mem_cons.1 hm with rfl | h1
    · exact h0
    · obtain ⟨t, ht, rfl⟩ := List.mem_map.1 h1
      exact (fullL_sec (h t (List.mem_range.1 ht))).2
  · have e : (mayV F0 L j).getD i [] = [] := by simp [List.getD, Nat.le_of_not_lt hi]
    rw [e]
    exact Byt.nil
theorem row_str {w : World} {base n c : Nat} {A : Option Addr} {M : List (List Int)} {T : Nat} (h : w.ownsRow base T 1 (.slice A n c) n (strV M)) (hn : 0 < n) : ∃ g, A = some ⟨g, 0, none⟩ ∧ ∀ t, t < n → w.cell? ⟨g, t, none⟩ = some (.string (strL (M.getD t []))) := by
  obtain ⟨hl, ⟨_, h0⟩ | ⟨g, cap, cur, hA, _, hat, _, _, _, hx⟩⟩ := h
  · omega
  · injection hA with e1 e2 e3
    refine ⟨g, e1, fun t ht => ?_⟩
    have hat' : At w g cur T := hat
    rw [hat'.c t]
    have h1 : (cur.toList.take (n * 1))[t]? = (strV M)[t]? := by rw [hx]
    rw [List.getElem?_take_of_lt (by omega), Array.getElem?_toList] at h1
    rw [h1]
    have hM : t < M.length := by simp [strV] at hl; omega
    simp [strV, hM]
end Go.Proofs.Ytjgomebnlekddaa
