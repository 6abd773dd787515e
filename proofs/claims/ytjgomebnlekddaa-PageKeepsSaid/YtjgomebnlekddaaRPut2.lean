/- The reference's Put by its contract. -/
import Derived.Test.YtjgomebnlekddaaRPut
import Derived.Test.YtjgomebnlekddaaOrd
namespace Go.Proofs.Ytjgomebnlekddaa
set_option linter.unusedVariables false
set_option linter.unusedSimpArgs false
open Go.RowKit
def rputTo (l : List Cl) (k v : List Int) (j : Nat) : List Cl := if j ≤ findI l k then l.take j else l.take (findI l k) ++ [(k, v)] ++ (l.take j).drop (if fndB l k then findI l k + 1 else findI l k)
theorem rputTo_low {l : List Cl} {k v : List Int} {j : Nat} (h : j < findI l k) (hl : j < l.length) : rputTo l k v (j + 1) = rputTo l k v j ++ [clAt l j] := by
  unfold rputTo
  rw [if_pos (by omega), if_pos (by omega), take_one l j hl]
theorem drop_take_one {l : List Cl} {j f : Nat} (hl : j < l.length) (hf : f ≤ j) : (l.take (j + 1)).drop f = (l.take j).drop f ++ [clAt l j] := by
  rw [take_one l j hl, List.drop_append_of_le_length (by simp; omega)]
theorem rputTo_high {l : List Cl} {k v : List Int} {j : Nat} (h : findI l k < j) (hl : j < l.length) : rputTo l k v (j + 1) = rputTo l k v j ++ [clAt l j] := by
  unfold rputTo
  have hf : (if fndB l k = true then findI l k + 1 else findI l k) ≤ j := by split <;> omega
  rw [if_neg (show ¬ j + 1 ≤ findI l k from by omega), if_neg (show ¬ j ≤ findI l k from by omega), drop_take_one hl hf, ← List.append_assoc]
theorem rputTo_at {l : List Cl} {k v : List Int} {j : Nat} (h : findI l k = j) (hl : j < l.length) : rputTo l k v (j + 1) = rputTo l k v j ++ [(k, v)] ++ (if fndB l k then [] else [clAt l j]) := by
  subst h
  unfold rputTo
  rw [if_neg (by omega), if_pos (Nat.le_refl _)]
  congr 1
  split
  · rw [List.drop_of_length_le (by simp; omega)]
  · rw [drop_take_one hl (Nat.le_refl _), List.drop_of_length_le (by simp; omega)]; rfl
theorem rputTo_end {l : List Cl} {k v : List Int} (h : findI l k < l.length) : rputTo l k v l.length = putL l k v := by
  unfold rputTo putL
  rw [if_neg (by omega), List.take_length]
theorem rputTo_end' {l : List Cl} {k v : List Int} (h : findI l k = l.length) : rputTo l k v l.length ++ [(k, v)] = putL l k v := by
  have hf : fndB l k = false := by unfold fndB; rw [h]; simp
  unfold rputTo putL
  rw [if_pos (by omega), h, hf]
  simp
theorem RowR.drawn {w w2 : World} {base hi n c : Nat} {A : Option Addr} {l : List Cl} {hs : List Hc} (h : RowR w base hi A n c l hs) {a b : Nat} (e : (w.drewN a).drewN b = w2) : RowR w2 base hi A n c l hs := e ▸ h
theorem RowR.drawn1 {w w2 : World} {base hi n c : Nat} {A : Option Addr} {l : List Cl} {hs : List Hc} (h : RowR w base hi A n c l hs) {a : Nat} (e : w.drewN a = w2) : RowR w2 base hi A n c l hs := e ▸ h
theorem RowR.less {w : World} {base base' hi n c : Nat} {A : Option Addr} {l : List Cl} {hs : List Hc} (h : RowR w base hi A n c l hs) (hb : base' ≤ base) : RowR w base' hi A n c l hs := by
  refine ⟨⟨h.1.1, ?_⟩, h.2⟩
  rcases h.1.2 with h0 | ⟨g, cap, cur, a, b, d⟩
  · exact .inl h0
  · exact .inr ⟨g, cap, cur, a, Nat.le_trans hb b, d⟩
set_option maxRecDepth 100000 in
set_option maxHeartbeats 2000000 in
theorem rput_calls {n : Nat} (c kC vC : Nat) {kN vN : Nat} {A kA vA : Option Addr} {l : List Cl} {k v : List Int} (w : World) (h : CsR w 0 w.heap.size A n l) (hk : BsR w 0 w.heap.size kA kN k) (hv : BsR w 0 w.heap.size vA vN v) (m1 : kN ≤ 140737488355328) (m2 : vN ≤ 140737488355328) (hn : n ≤ 4096) (hr : Rs l) :
    Calls Try.prog 26 #[.slice A n c, .agg #[.slice kA kN kC, .slice vA vN vC]] w (RPost (putL l k v) w) := by
  have hln := Lib.hid h.1
  go_enter Try.func26, Try.ntmps26
  go_wp2
  have k0 := At.new w #[.slice kA kN kC, .slice vA vN vC] 35
  have hB0 := below_new w (.cells #[.slice kA kN kC, .slice vA vN vC] 35)
  generalize (w.alloc (.cells #[.slice kA kN kC, .slice vA vN vC] 35)) = w0 at *
  have k0l := k0.lt
  have k0' := Lib.hid k0
  clear k0
  go_loopw [5, 6, 7] (fun v5 v6 v7 wr => ∃ (j m : Nat) (d : Bool) (A' : Option Addr) (c' : Nat) (hs : List Hc), j ≤ n ∧ m ≤ j + 1 ∧ v7 = .int .i64 j ∧ v6 = .bool d ∧ (d = true ↔ findI l k < j) ∧ v5 = .slice A' m c' ∧ RowR wr w0.heap.size w.heap.size A' m c' (rputTo l k v j) hs ∧ Below w0.heap.size w0 wr) (fun _ _ v7 _ => n - (intOf v7).toNat)
  case atStart => exact ⟨0, 0, false, none, 0, [], by omega, by omega, rfl, rfl, by simp, rfl, by unfold rputTo; rw [if_pos (Nat.zero_le _)]; exact RowR.nil _ _ _, Below.refl _ _⟩
  case round =>
    obtain ⟨j, m, d, A', c', hs, hj, hmj, rfl, rfl, hd, rfl, ho, hB⟩ := hrel
    have hW := below_tr hB0 (hB.mono hB0.size)
    by_cases hlt : j < n
    · obtain ⟨gb, go', xA, xN, xC, yA, yN, yC, rfl, g1, g2, c1, c2, b1, b2, x1, x2⟩ := h.2 j hlt
      replace x1 : xN ≤ 140737488355328 := x1
      replace x2 : yN ≤ 140737488355328 := x2
      have hjl : j < l.length := by rw [hln.out]; exact hlt
      have hj0 : (0 : Int) ≤ j := by omega
      have hj1 : (j : Int) < n := by omega
      have hm5 : m + 1 + 1 ≤ 5000 := by omega
      have q2 := Lib.hid (show (m + 1) * 48 ≤ 140737488355328 from Nat.le_trans (Nat.mul_le_mul_right 48 (Nat.le_trans (Nat.le_succ _) hm5)) (by decide))
      have q4 := Lib.hid (show (m + 1 + 1) * 48 ≤ 140737488355328 from Nat.le_trans (Nat.mul_le_mul_right 48 hm5) (by decide))
      have q1 := Lib.hid (show m + 1 ≤ maxLen from Nat.le_trans (Nat.le_trans (Nat.le_succ _) hm5) (by decide))
      have q3 := Lib.hid (show m + 1 + 1 ≤ maxLen from Nat.le_trans hm5 (by decide))
      have e1 := str_eq b1.2.1 hk.2.1
      have e2 := str_less b1.2.1 hk.2.1
      have c1' := Lib.hid c1
      have c2' := Lib.hid c2
      have b1' := Lib.hid b1
      have b2' := Lib.hid b2
      clear c1 c2 b1 b2
      rcases Nat.lt_trichotomy j (findI l k) with hf | hf | hf
      · have hd' : d = false := by cases d <;> simp_all; omega
        subst hd'
        have hlow := findI_low hf
        rw [decide_eq_true hlow] at e2
        rw [show eqB (clAt l j).1 k = false from decide_eq_false fun e => by rw [e] at hlow; have := (cmpI_zero k k).2 rfl; omega] at e1
        have e3 : ((strL (clAt l j).1).toList != (strL k).toList) = true := by rw [bne, e1]; rfl
        have hst := Lib.hid (rputTo_low (v := v) hf hjl)
        have hf' := Lib.hid hf
        clear hf hlow hjl hd
        have c1 := (hW.cell (p := ⟨gb, go' + j * 2, none⟩) g2).trans c1'.out
        have c2 := (hW.cell (p := ⟨gb, go' + j * 2 + 1, none⟩) g2).trans c2'.out
        have r1 := fun i => run_str xC (wr.drewN i) (b1'.out.below (below_drewN hW i) (Nat.le_refl _))
        have r2 := fun i => run_str kC (wr.drewN i) (hk.below (below_drewN hW i) (Nat.le_refl _))
        have k0c := (At.below k0'.out hB k0l).c
        go_upto_region 6 with (fail)
        go_quiet (fail)
        go_upto_region 9 with (fail)
        go_quiet (fail)
        generalize hw2 : World.drewN _ _ = w2
        have ho2 := RowR.drawn ho hw2
        have hB2 : Below w0.heap.size w0 w2 := by rw [← hw2]; first | exact below_drewN (below_drewN hB _) _ | exact below_drewN hB _
        have hW2 := below_tr hB0 (hB2.mono hB0.size)
        clear hw2 r1 r2 c1 c2 k0c
        have c1 := (hW2.cell (p := ⟨gb, go' + j * 2, none⟩) g2).trans c1'.out
        have c2 := (hW2.cell (p := ⟨gb, go' + j * 2 + 1, none⟩) g2).trans c2'.out
        have k0c := (At.below k0'.out hB2 k0l).c
        go_wp2_with (at_builtin; refine wpList_appG cellElt rfl (.tmp 42) (.tmp 47) rfl w0.heap.size (m) c' A' _ rfl (ho2.later (below_new w2 _) hW2.size).1 1 1 (some ⟨w2.heap.size, 0, none⟩) [.slice xA xN xC, .slice yA yN yC] rfl (Src.of_at (At.new w2 #[.slice xA xN xC, .slice yA yN yC] 35) rfl (two_one _ _ _ _ _ _)) (by first | with_reducible exact q1.out | with_reducible exact q3.out) (by first | with_reducible exact q2.out | with_reducible exact q4.out) (Nat.le_trans hB2.size (ge_new _ _)) ?_; intro A3 c3 w3 ho3 hg3 hb3 hat3)
        have hB3 := below_tr (below_al hB2) hb3
        have hW3 := below_tr hB0 (hB3.mono hB0.size)
        clear c1 c2 k0c
        go_roundw
        case rel => exact ⟨j + 1, m + 1, false, A3, c3, _, by omega, by omega, by go_num, rfl, by have := hf'.out; simp; omega, rfl, by
          rw [hst.out]
          exact RowR.snoc xC yC (ho2.later (below_new w2 _) hW2.size) (b1'.out.below (below_al hW2) (Nat.le_refl _)) (b2'.out.below (below_al hW2) (Nat.le_refl _)) x1 x2 hB0.size ho3 hb3, hB3⟩
        case measure => simp [intOf]; omega
      · have hcases : fndB l k = true ∨ fndB l k = false := by cases fndB l k <;> simp
        have hd' : d = false := by cases d <;> simp_all
        subst hd'
        have hge : ¬ cmpI (clAt l j).1 k < 0 := by have := findI_at (l := l) (k := k) (by omega); rw [← hf] at this; omega
        rw [decide_eq_false hge] at e2
        have hst := Lib.hid (rputTo_at (v := v) hf.symm hjl)
        have hf' := Lib.hid hf
        have hmj2 : m ≤ j := by
          have h3 := ho.2.2.1
          unfold rputTo at h3
          rw [if_pos (by omega), List.length_take] at h3
          omega
        rcases hcases with hfn | hfn
        · have hk1 := fndB_yes hfn
          rw [← hf] at hk1
          rw [show eqB (clAt l j).1 k = true from decide_eq_true hk1] at e1
          have e3 : ((strL (clAt l j).1).toList != (strL k).toList) = false := by rw [bne, e1]; rfl
          have hst2 := hst.out
          rw [if_pos hfn, List.append_nil] at hst2
          have hst' := Lib.hid hst2
          clear hst2 hst hf hge hjl hd hfn hk1
          have c1 := (hW.cell (p := ⟨gb, go' + j * 2, none⟩) g2).trans c1'.out
          have c2 := (hW.cell (p := ⟨gb, go' + j * 2 + 1, none⟩) g2).trans c2'.out
          have r1 := fun i => run_str xC (wr.drewN i) (b1'.out.below (below_drewN hW i) (Nat.le_refl _))
          have r2 := fun i => run_str kC (wr.drewN i) (hk.below (below_drewN hW i) (Nat.le_refl _))
          have k0c := (At.below k0'.out hB k0l).c
          go_upto_region 6 with (fail)
          go_quiet (fail)
          generalize hw2 : World.drewN _ _ = w2
          have ho2 := RowR.drawn1 ho hw2
          have hB2 : Below w0.heap.size w0 w2 := by rw [← hw2]; first | exact below_drewN (below_drewN hB _) _ | exact below_drewN hB _
          have hW2 := below_tr hB0 (hB2.mono hB0.size)
          clear hw2 r1 r2 c1 c2 k0c
          have c1 := (hW2.cell (p := ⟨gb, go' + j * 2, none⟩) g2).trans c1'.out
          have c2 := (hW2.cell (p := ⟨gb, go' + j * 2 + 1, none⟩) g2).trans c2'.out
          have k0c := (At.below k0'.out hB2 k0l).c
          go_upto_region 9 with (at_builtin; refine wpList_appG cellElt rfl (.tmp 28) (.tmp 30) rfl w0.heap.size (m) c' A' _ rfl (ho2.later (below_new w2 _) hW2.size).1 1 1 (some ⟨w2.heap.size, 0, none⟩) [.slice kA kN kC, .slice vA vN vC] rfl (Src.of_at (At.new w2 #[.slice kA kN kC, .slice vA vN vC] 35) rfl (two_one _ _ _ _ _ _)) (by first | with_reducible exact q1.out | with_reducible exact q3.out) (by first | with_reducible exact q2.out | with_reducible exact q4.out) (Nat.le_trans hB2.size (ge_new _ _)) ?_; intro A3 c3 w3 ho3 hg3 hb3 hat3)
          have hB3 := below_tr (below_al hB2) hb3
          have hW3 := below_tr hB0 (hB3.mono hB0.size)
          clear c1 c2 k0c
          have hoM := RowR.snoc kC vC (ho2.later (below_new w2 _) hW2.size) (hk.below (below_al hW2) (Nat.le_refl _)) (hv.below (below_al hW2) (Nat.le_refl _)) m1 m2 hB0.size ho3 hb3
          have c1 := (hW3.cell (p := ⟨gb, go' + j * 2, none⟩) g2).trans c1'.out
          have c2 := (hW3.cell (p := ⟨gb, go' + j * 2 + 1, none⟩) g2).trans c2'.out
          have r1 := fun i => run_str xC (w3.drewN i) (b1'.out.below (below_drewN hW3 i) (Nat.le_refl _))
          have r2 := fun i => run_str kC (w3.drewN i) (hk.below (below_drewN hW3 i) (Nat.le_refl _))
          have k0c := (At.below k0'.out hB3 k0l).c
          go_quiet (fail)
          go_wp2
          go_roundw
          case rel => exact ⟨j + 1, m + 1, true, A3, c3, _, by omega, by omega, by go_num, rfl, by have := hf'.out; simp; omega, rfl, by
            rw [hst'.out]
            exact hoM, below_drewN hB3 _⟩
          case measure => simp [intOf]; omega
        · have hk1 := fndB_no hfn (by omega)
          rw [← hf] at hk1
          rw [show eqB (clAt l j).1 k = false from decide_eq_false hk1] at e1
          have e3 : ((strL (clAt l j).1).toList != (strL k).toList) = true := by rw [bne, e1]; rfl
          have hst2 := hst.out
          rw [if_neg (by rw [hfn]; decide)] at hst2
          have hst' := Lib.hid hst2
          clear hst2 hst hf hge hjl hd hfn hk1
          have c1 := (hW.cell (p := ⟨gb, go' + j * 2, none⟩) g2).trans c1'.out
          have c2 := (hW.cell (p := ⟨gb, go' + j * 2 + 1, none⟩) g2).trans c2'.out
          have r1 := fun i => run_str xC (wr.drewN i) (b1'.out.below (below_drewN hW i) (Nat.le_refl _))
          have r2 := fun i => run_str kC (wr.drewN i) (hk.below (below_drewN hW i) (Nat.le_refl _))
          have k0c := (At.below k0'.out hB k0l).c
          go_upto_region 6 with (fail)
          go_quiet (fail)
          generalize hw2 : World.drewN _ _ = w2
          have ho2 := RowR.drawn1 ho hw2
          have hB2 : Below w0.heap.size w0 w2 := by rw [← hw2]; first | exact below_drewN (below_drewN hB _) _ | exact below_drewN hB _
          have hW2 := below_tr hB0 (hB2.mono hB0.size)
          clear hw2 r1 r2 c1 c2 k0c
          have c1 := (hW2.cell (p := ⟨gb, go' + j * 2, none⟩) g2).trans c1'.out
          have c2 := (hW2.cell (p := ⟨gb, go' + j * 2 + 1, none⟩) g2).trans c2'.out
          have k0c := (At.below k0'.out hB2 k0l).c
          go_upto_region 9 with (at_builtin; refine wpList_appG cellElt rfl (.tmp 28) (.tmp 30) rfl w0.heap.size (m) c' A' _ rfl (ho2.later (below_new w2 _) hW2.size).1 1 1 (some ⟨w2.heap.size, 0, none⟩) [.slice kA kN kC, .slice vA vN vC] rfl (Src.of_at (At.new w2 #[.slice kA kN kC, .slice vA vN vC] 35) rfl (two_one _ _ _ _ _ _)) (by first | with_reducible exact q1.out | with_reducible exact q3.out) (by first | with_reducible exact q2.out | with_reducible exact q4.out) (Nat.le_trans hB2.size (ge_new _ _)) ?_; intro A3 c3 w3 ho3 hg3 hb3 hat3)
          have hB3 := below_tr (below_al hB2) hb3
          have hW3 := below_tr hB0 (hB3.mono hB0.size)
          clear c1 c2 k0c
          have hoM := RowR.snoc kC vC (ho2.later (below_new w2 _) hW2.size) (hk.below (below_al hW2) (Nat.le_refl _)) (hv.below (below_al hW2) (Nat.le_refl _)) m1 m2 hB0.size ho3 hb3
          have c1 := (hW3.cell (p := ⟨gb, go' + j * 2, none⟩) g2).trans c1'.out
          have c2 := (hW3.cell (p := ⟨gb, go' + j * 2 + 1, none⟩) g2).trans c2'.out
          have r1 := fun i => run_str xC (w3.drewN i) (b1'.out.below (below_drewN hW3 i) (Nat.le_refl _))
          have r2 := fun i => run_str kC (w3.drewN i) (hk.below (below_drewN hW3 i) (Nat.le_refl _))
          have k0c := (At.below k0'.out hB3 k0l).c
          go_quiet (fail)
          generalize hw2 : World.drewN _ _ = w2
          have ho2 := RowR.drawn1 hoM hw2
          have hB2 : Below w0.heap.size w0 w2 := by rw [← hw2]; first | exact below_drewN (below_drewN hB3 _) _ | exact below_drewN hB3 _
          have hW2 := below_tr hB0 (hB2.mono hB0.size)
          clear hw2 r1 r2 c1 c2 k0c
          have c1 := (hW2.cell (p := ⟨gb, go' + j * 2, none⟩) g2).trans c1'.out
          have c2 := (hW2.cell (p := ⟨gb, go' + j * 2 + 1, none⟩) g2).trans c2'.out
          have k0c := (At.below k0'.out hB2 k0l).c
          go_wp2_with (at_builtin; refine wpList_appG cellElt rfl (.tmp 42) (.tmp 47) rfl w0.heap.size (m + 1) c3 A3 _ rfl (ho2.later (below_new w2 _) hW2.size).1 1 1 (some ⟨w2.heap.size, 0, none⟩) [.slice xA xN xC, .slice yA yN yC] rfl (Src.of_at (At.new w2 #[.slice xA xN xC, .slice yA yN yC] 35) rfl (two_one _ _ _ _ _ _)) (by first | with_reducible exact q1.out | with_reducible exact q3.out) (by first | with_reducible exact q2.out | with_reducible exact q4.out) (Nat.le_trans hB2.size (ge_new _ _)) ?_; intro A3 c3 w3 ho3 hg3 hb3 hat3)
          have hB3 := below_tr (below_al hB2) hb3
          have hW3 := below_tr hB0 (hB3.mono hB0.size)
          clear c1 c2 k0c
          go_roundw
          case rel => exact ⟨j + 1, m + 1 + 1, true, A3, c3, _, by omega, by omega, by go_num, rfl, by have := hf'.out; simp; omega, rfl, by
            rw [hst'.out]
            exact RowR.snoc xC yC (ho2.later (below_new w2 _) hW2.size) (b1'.out.below (below_al hW2) (Nat.le_refl _)) (b2'.out.below (below_al hW2) (Nat.le_refl _)) x1 x2 hB0.size ho3 hb3, hB3⟩
          case measure => simp [intOf]; omega
      · have hd' : d = true := hd.2 hf
        subst hd'
        have hgt := findI_gt hr hf hjl
        rw [decide_eq_false (show ¬ cmpI (clAt l j).1 k < 0 by omega)] at e2
        rw [show eqB (clAt l j).1 k = false from decide_eq_false fun e => by rw [e] at hgt; have := (cmpI_zero k k).2 rfl; omega] at e1
        have e3 : ((strL (clAt l j).1).toList != (strL k).toList) = true := by rw [bne, e1]; rfl
        have hst := Lib.hid (rputTo_high (v := v) hf hjl)
        have hf' := Lib.hid hf
        clear hf hgt hjl hd
        have c1 := (hW.cell (p := ⟨gb, go' + j * 2, none⟩) g2).trans c1'.out
        have c2 := (hW.cell (p := ⟨gb, go' + j * 2 + 1, none⟩) g2).trans c2'.out
        have r1 := fun i => run_str xC (wr.drewN i) (b1'.out.below (below_drewN hW i) (Nat.le_refl _))
        have r2 := fun i => run_str kC (wr.drewN i) (hk.below (below_drewN hW i) (Nat.le_refl _))
        have k0c := (At.below k0'.out hB k0l).c
        go_upto_region 6 with (fail)
        go_quiet (fail)
        go_upto_region 9 with (fail)
        go_quiet (fail)
        generalize hw2 : World.drewN _ _ = w2
        have ho2 := RowR.drawn ho hw2
        have hB2 : Below w0.heap.size w0 w2 := by rw [← hw2]; first | exact below_drewN (below_drewN hB _) _ | exact below_drewN hB _
        have hW2 := below_tr hB0 (hB2.mono hB0.size)
        clear hw2 r1 r2 c1 c2 k0c
        have c1 := (hW2.cell (p := ⟨gb, go' + j * 2, none⟩) g2).trans c1'.out
        have c2 := (hW2.cell (p := ⟨gb, go' + j * 2 + 1, none⟩) g2).trans c2'.out
        have k0c := (At.below k0'.out hB2 k0l).c
        go_wp2_with (at_builtin; refine wpList_appG cellElt rfl (.tmp 42) (.tmp 47) rfl w0.heap.size (m) c' A' _ rfl (ho2.later (below_new w2 _) hW2.size).1 1 1 (some ⟨w2.heap.size, 0, none⟩) [.slice xA xN xC, .slice yA yN yC] rfl (Src.of_at (At.new w2 #[.slice xA xN xC, .slice yA yN yC] 35) rfl (two_one _ _ _ _ _ _)) (by first | with_reducible exact q1.out | with_reducible exact q3.out) (by first | with_reducible exact q2.out | with_reducible exact q4.out) (Nat.le_trans hB2.size (ge_new _ _)) ?_; intro A3 c3 w3 ho3 hg3 hb3 hat3)
        have hB3 := below_tr (below_al hB2) hb3
        have hW3 := below_tr hB0 (hB3.mono hB0.size)
        clear c1 c2 k0c
        go_roundw
        case rel => exact ⟨j + 1, m + 1, true, A3, c3, _, by omega, by omega, by go_num, rfl, by have := hf'.out; simp; omega, rfl, by
          rw [hst.out]
          exact RowR.snoc xC yC (ho2.later (below_new w2 _) hW2.size) (b1'.out.below (below_al hW2) (Nat.le_refl _)) (b2'.out.below (below_al hW2) (Nat.le_refl _)) x1 x2 hB0.size ho3 hb3, hB3⟩
        case measure => simp [intOf]; omega
    · obtain rfl : j = n := by omega
      have hle := findI_le l k
      rw [hln.out] at hle
      have k0c := (At.below k0'.out hB k0l).c
      cases d
      · have hfe : findI l k = l.length := by rw [hln.out]; have := mt hd.2 (by decide); omega
        have hend := rputTo_end' (v := v) hfe
        rw [hln.out] at hend
        have hend' := Lib.hid hend
        have hm5 : m + 1 ≤ 5000 := by omega
        have q2 := Lib.hid (show (m + 1) * 48 ≤ 140737488355328 from Nat.le_trans (Nat.mul_le_mul_right 48 hm5) (by decide))
        have q1 := Lib.hid (show m + 1 ≤ maxLen from Nat.le_trans hm5 (by decide))
        clear hend hfe hd hle hm5
        go_wp2_with (at_builtin; refine wpList_appG cellElt rfl (.tmp 51) (.tmp 53) rfl w0.heap.size m c' A' _ rfl (ho.later (below_new wr _) hW.size).1 1 1 (some ⟨wr.heap.size, 0, none⟩) [.slice kA kN kC, .slice vA vN vC] rfl (Src.of_at (At.new wr #[.slice kA kN kC, .slice vA vN vC] 35) rfl (two_one _ _ _ _ _ _)) q1.out q2.out (Nat.le_trans hB.size (ge_new _ _)) ?_; intro A3 c3 w3 ho3 hg3 hb3 hat3)
        go_ret
        have hoM := RowR.snoc kC vC (ho.later (below_new wr _) hW.size) (hk.below (below_al hW) (Nat.le_refl _)) (hv.below (below_al hW) (Nat.le_refl _)) m1 m2 hB0.size ho3 hb3
        exact ⟨A3, c3, m + 1, _, rfl, by rw [← hend'.out]; exact hoM.less hB0.size, below_tr hB0 ((below_tr (below_al hB) hb3).mono hB0.size)⟩
      · have hfe : findI l k < l.length := by rw [hln.out]; exact hd.1 rfl
        have hend := rputTo_end (v := v) hfe
        rw [hln.out] at hend
        have hend' := Lib.hid hend
        clear hend hfe hd hle
        go_wp2
        go_ret
        exact ⟨A', c', m, _, rfl, by rw [← hend'.out]; exact ho.less hB0.size, hW⟩
end Go.Proofs.Ytjgomebnlekddaa
