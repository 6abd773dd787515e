/- The reference's Put and Drop by their contracts. -/
import Derived.Test.YtjgomebnlekddaaCopied
import Derived.Test.YtjgomebnlekddaaRises
namespace Go.Proofs.Ytjgomebnlekddaa
set_option linter.unusedVariables false
set_option linter.unusedSimpArgs false
open Go.RowKit
/-- A row of cells of the call's own whose bytes lie below hi, wherever. -/
def RowR (w : World) (base hi : Nat) (A : Option Addr) (n c : Nat) (l : List Cl) (hs : List Hc) : Prop :=
  w.ownsRow base 35 2 (.slice A n c) n (hs.flatMap hcV) ∧ hs.length = n ∧ l.length = n ∧ ∀ i, i < n → BsR w 0 hi (hcAt hs i).1.A (hcAt hs i).1.n (clAt l i).1 ∧ BsR w 0 hi (hcAt hs i).2.A (hcAt hs i).2.n (clAt l i).2 ∧ (hcAt hs i).1.n ≤ 140737488355328 ∧ (hcAt hs i).2.n ≤ 140737488355328
theorem RowR.nil (w : World) (base hi : Nat) : RowR w base hi none 0 0 [] [] := ⟨World.ownsRow_nil _ _ _ _, rfl, rfl, fun _ h => absurd h (by omega)⟩
theorem RowR.later {w w' : World} {base hi n c : Nat} {A : Option Addr} {l : List Cl} {hs : List Hc} (h : RowR w base hi A n c l hs) (hb : Below w.heap.size w w') (hh : hi ≤ w.heap.size) : RowR w' base hi A n c l hs :=
  ⟨h.1.kept (grown_of_below hb (some w.heap.size)) (by rw [ownBlk_eq]; exact ne_of_lt_size fun k hk => (h.1.lt k (by rw [ownBlk_eq]; exact hk)).2), h.2.1, h.2.2.1, fun i hi' => by
    obtain ⟨a, b, q⟩ := h.2.2.2 i hi'
    exact ⟨a.below hb hh, b.below hb hh, q⟩⟩
theorem RowR.snoc {w w' : World} {base hi n c c'' xN yN : Nat} (xC yC : Nat) {A A' xA yA : Option Addr} {l : List Cl} {hs : List Hc} {k v : List Int} (h : RowR w base hi A n c l hs) (hk : BsR w 0 hi xA xN k) (hv : BsR w 0 hi yA yN v) (b1 : xN ≤ 140737488355328) (b2 : yN ≤ 140737488355328) (hhi : hi ≤ base)
    (hrow : w'.ownsRow base 35 2 (.slice A' (n + 1) c'') (n + 1) (hs.flatMap hcV ++ [.slice xA xN xC, .slice yA yN yC])) (hb : Below base w w') : RowR w' base hi A' (n + 1) c'' (l ++ [(k, v)]) (hs ++ [(⟨xA, xN, xC⟩, ⟨yA, yN, yC⟩)]) := by
  refine ⟨by rw [List.flatMap_append]; exact hrow, by simp [h.2.1], by simp [h.2.2.1], fun i hi' => ?_⟩
  by_cases hin : i < n
  · rw [hcAt_app_l (by rw [h.2.1]; exact hin), clAt_app_l (by rw [h.2.2.1]; exact hin)]
    obtain ⟨a, b, q⟩ := h.2.2.2 i hin
    exact ⟨a.below hb hhi, b.below hb hhi, q⟩
  · obtain rfl : i = n := by omega
    rw [hcAt_app_r (by rw [h.2.1]; exact Nat.le_refl _), clAt_app_r (by rw [h.2.2.1]; exact Nat.le_refl _), h.2.1, h.2.2.1, Nat.sub_self]
    exact ⟨hk.below hb hhi, hv.below hb hhi, b1, b2⟩
theorem RowR.reads {w : World} {base hi n c : Nat} {A : Option Addr} {l : List Cl} {hs : List Hc} (h : RowR w base hi A n c l hs) (hh : hi ≤ w.heap.size) : CsR w 0 w.heap.size A n l := by
  refine ⟨h.2.2.1, fun i hi' => ?_⟩
  obtain ⟨g, cap, hv, hb, hlt⟩ := h.1.form (by omega)
  injection hv with hA hn hc
  subst hA
  obtain ⟨a, b, m1, m2⟩ := h.2.2.2 i hi'
  have hf := flat_get hs i (by rw [h.2.1]; exact hi')
  have h1 := h.1.cells (g := g) rfl (i * 2) _ hf.1
  have h2 := h.1.cells (g := g) rfl (i * 2 + 1) _ hf.2
  rw [Go.WideShapes.add_plain] at h1 h2
  exact ⟨g, 0, _, _, _, _, _, _, rfl, Nat.zero_le _, hlt, h1, by rw [Nat.add_assoc]; exact h2, a.more hh, b.more hh, m1, m2⟩
def rdropL (l : List Cl) (k : List Int) : List Cl := l.filter fun c => decide (c.1 ≠ k)
def RPost (l : List Cl) (w : World) (e : Ending) (w' : World) : Prop := ∃ A c n hs, e = .returned (.slice A n c) ∧ RowR w' w.heap.size w.heap.size A n c l hs ∧ Below w.heap.size w w'
theorem rdrop_take (l : List Cl) (k : List Int) (j : Nat) (h : j < l.length) : rdropL (l.take (j + 1)) k = rdropL (l.take j) k ++ (if (clAt l j).1 = k then [] else [clAt l j]) := by
  rw [take_one l j h]
  unfold rdropL
  rw [List.filter_append]
  by_cases e : (clAt l j).1 = k <;> simp [e]
theorem rdrop_len (l : List Cl) (k : List Int) : (rdropL l k).length ≤ l.length := List.length_filter_le _ _
set_option maxRecDepth 100000 in
set_option maxHeartbeats 2000000 in
theorem rdrop_calls {n : Nat} (c : Nat) {A : Option Addr} {l : List Cl} {k : List Int} (w : World) (h : CsR w 0 w.heap.size A n l) (hk : Byt k) (hn : n ≤ 4096) :
    Calls Try.prog 31 #[.slice A n c, .string (strL k)] w (RPost (rdropL l k) w) := by
  have hln := Lib.hid h.1
  go_enter Try.func31, Try.ntmps31
  go_wp2
  go_loopw [5, 6] (fun v5 v6 wr => ∃ (j m : Nat) (A' : Option Addr) (c' : Nat) (hs : List Hc), j ≤ n ∧ m ≤ j ∧ v6 = .int .i64 j ∧ v5 = .slice A' m c' ∧ RowR wr w.heap.size w.heap.size A' m c' (rdropL (l.take j) k) hs ∧ Below w.heap.size w wr) (fun _ v6 _ => n - (intOf v6).toNat)
  case atStart => exact ⟨0, 0, none, 0, [], by omega, by omega, rfl, rfl, RowR.nil _ _ _, Below.refl _ _⟩
  case round =>
    obtain ⟨j, m, A', c', hs, hj, hmj, rfl, rfl, ho, hB⟩ := hrel
    by_cases hlt : j < n
    · have h' := h.below hB (Nat.le_refl _)
      obtain ⟨gb, go', kA, kN, kC, vA, vN, vC, rfl, g1, g2, c1, c2, b1, b2, m1, m2⟩ := h'.2 j hlt
      replace m1 : kN ≤ 140737488355328 := m1
      replace m2 : vN ≤ 140737488355328 := m2
      have r1 := run_str kC wr b1
      have e1 := str_eq b1.2.1 hk
      have hst := Lib.hid (rdrop_take l k j (by rw [hln.out]; exact hlt))
      have b1' := Lib.hid b1
      have b2' := Lib.hid b2
      have hj0 : (0 : Int) ≤ j := by omega
      have hj1 : (j : Int) < n := by omega
      clear b1 b2 h'
      by_cases p1 : (clAt l j).1 = k
      · rw [show eqB (clAt l j).1 k = true from decide_eq_true p1] at e1
        have e3 : ((strL (clAt l j).1).toList != (strL k).toList) = false := by rw [bne, e1]; rfl
        have p1' := Lib.hid p1
        clear p1
        go_wp2
        go_roundw
        case rel => exact ⟨j + 1, m, A', c', hs, by omega, by omega, by go_num, rfl, by rw [hst.out, if_pos p1'.out, List.append_nil]; exact ho, hB⟩
        case measure => simp [intOf]; omega
      · rw [show eqB (clAt l j).1 k = false from decide_eq_false p1] at e1
        have e3 : ((strL (clAt l j).1).toList != (strL k).toList) = true := by rw [bne, e1]; rfl
        have p1' := Lib.hid p1
        have q1 : m + 1 ≤ maxLen := by unfold maxLen; omega
        have q2 : (m + 1) * 48 ≤ 140737488355328 := by omega
        clear p1
        go_wp2_with (at_builtin; refine wpList_appG cellElt rfl (.tmp 21) (.tmp 26) rfl w.heap.size m c' A' _ rfl (ho.later (below_new wr _) hB.size).1 1 1 (some ⟨wr.heap.size, 0, none⟩) [.slice kA kN kC, .slice vA vN vC] rfl (Src.of_at (At.new wr #[.slice kA kN kC, .slice vA vN vC] 35) rfl (two_one _ _ _ _ _ _)) q1 q2 (Nat.le_trans hB.size (ge_new _ _)) ?_; intro A3 c3 w3 ho3 hg3 hb3 hat3)
        go_roundw
        case rel => exact ⟨j + 1, m + 1, A3, c3, _, by omega, by omega, by go_num, rfl, by
          rw [hst.out, if_neg p1'.out]
          exact RowR.snoc kC vC (ho.later (below_new wr _) hB.size) (b1'.out.below (below_new wr _) hB.size) (b2'.out.below (below_new wr _) hB.size) m1 m2 (Nat.le_refl _) ho3 hb3, below_tr (below_al hB) hb3⟩
        case measure => simp [intOf]; omega
    · obtain rfl : j = n := by omega
      go_wp2
      go_ret
      exact ⟨A', c', m, hs, rfl, by have := ho; rwa [List.take_of_length_le (by rw [hln.out]; exact Nat.le_refl _)] at this, hB⟩
end Go.Proofs.Ytjgomebnlekddaa
