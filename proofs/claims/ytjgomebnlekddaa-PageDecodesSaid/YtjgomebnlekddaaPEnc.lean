/- page.Encode by its contract. -/
import Derived.Test.YtjgomebnlekddaaPForm
import Derived.Test.YtjgomebnlekddaaAppZ
import Derived.Test.YtjgomebnlekddaaShare
namespace Go.Proofs.Ytjgomebnlekddaa
set_option linter.unusedVariables false
set_option linter.unusedSimpArgs false
open Go.RowKit
def cellB (c : Cl) : List Int := [(c.1.length : Int), (c.2.length : Int)] ++ c.1 ++ c.2
def headB (k next : Int) (l : List Cl) : List Int := [k, next / 65536, next / 256, next % 256, (l.length : Int), 0]
def cellsB (l : List Cl) : List Int := l.flatMap cellB
def pageB (k next : Int) (l : List Cl) : List Int := headB k next l ++ cellsB l ++ List.replicate (504 - (6 + (cellsB l).length)) 0
theorem cellsB_len (l : List Cl) : ((cellsB l).length : Int) = sizeL l := by
  induction l with
  | nil => rfl
  | cons c l ih =>
    rw [sizeL_cons]
    unfold cellsB at ih ⊢
    rw [List.flatMap_cons, List.length_append, Int.natCast_add, ih]
    simp [cellB, clSize]
    omega
set_option maxRecDepth 100000 in
set_option maxHeartbeats 2000000 in
theorem penc_no {n : Nat} (k next : Int) (c : Nat) {A : Option Addr} {l : List Cl} (w : World) (h : CsR w 0 w.heap.size A n l) (hn : n ≤ 4096) (hb : ¬ PForm k next l) :
    Calls Try.prog 46 #[.agg #[.int .u8 k, .int .i64 next, .slice A n c]] w fun e w' => e = .returned (.tuple #[.slice none 0 0, .int .i64 3]) ∧ Below w.heap.size w w' := by
  go_enter Try.func46, Try.ntmps46
  go_wp2_with fail
  have hB := below_new w (.cells #[.int .u8 k, .int .i64 next, .slice A n c] 54)
  generalize (w.alloc (.cells #[.int .u8 k, .int .i64 next, .slice A n c] 54)) = w0 at *
  refine (pform_calls k next c false w0 (h.later hB) hn (by simp [hb])).mono ?_
  rintro e w1 ⟨rfl, hb1⟩
  go_wp2
  go_ret2
  exact ⟨rfl, below_keep hb1 hB⟩
theorem cellsB_take (l : List Cl) (j : Nat) (h : j < l.length) : cellsB (l.take (j + 1)) = cellsB (l.take j) ++ [((clAt l j).1.length : Int), ((clAt l j).2.length : Int)] ++ (clAt l j).1 ++ (clAt l j).2 := by
  rw [take_one l j h]
  simp [cellsB, cellB]
theorem cellsB_le {k next : Int} {l : List Cl} (h : PForm k next l) (j : Nat) : (cellsB (l.take j)).length ≤ 498 := by
  have h1 := cellsB_len (l.take j)
  have h2 := sizeL_split l j
  have h3 := sizeL_nn (l.drop j)
  have := h.2.2.2
  omega
set_option maxRecDepth 100000 in
set_option maxHeartbeats 2000000 in
theorem penc_yes {n : Nat} (k next : Int) (c : Nat) {A : Option Addr} {l : List Cl} (w : World) (h : CsR w 0 w.heap.size A n l) (k0' : 0 ≤ k) (hb : PForm k next l) :
    Calls Try.prog 46 #[.agg #[.int .u8 k, .int .i64 next, .slice A n c]] w fun e w' => ∃ A c, e = .returned (.tuple #[.slice A 504 c, .int .i64 0]) ∧ OwB w' w.heap.size A 504 c (pageB k next l) ∧ Below w.heap.size w w' := by
  have hln := Lib.hid h.1
  have hbb := Lib.hid hb
  have hn : n ≤ 255 := by have := hb.2.2.1; rw [hln.out] at this; omega
  obtain ⟨p1, p2, p3⟩ := hb.1
  clear hb
  go_enter Try.func46, Try.ntmps46
  go_wp2_with fail
  have k0 := At.new w #[.int .u8 k, .int .i64 next, .slice A n c] 54
  have hB := below_new w (.cells #[.int .u8 k, .int .i64 next, .slice A n c] 54)
  generalize (w.alloc (.cells #[.int .u8 k, .int .i64 next, .slice A n c] 54)) = w0 at *
  refine (pform_calls k next c true w0 (h.later hB) (by omega) (by simp [hbb.out])).mono ?_
  rintro e w1 ⟨rfl, hb1⟩
  have hB1 := below_keep hb1 hB
  replace k0 := k0.below hb1 k0.lt; have k0c := k0.c; have k0f := k0.f; have k0l := k0.lt
  have n1 : (0 : Int) ≤ n := by omega
  have w0' : next / 65536 = 0 := by omega
  have s1 : IntKind.u8.wrap (next / 65536) = next / 65536 := IntWalk.u8_in _ (by omega)
  have s2 : IntKind.u8.wrap (next / 256) = next / 256 := IntWalk.u8_in _ (by omega)
  have s3 : IntKind.u8.wrap next = next % 256 := IntKind.wrap_u8 next
  have s4 : IntKind.u8.wrap (n : Int) = n := IntWalk.u8_in _ (by omega)
  go_upto_region 5 with (fail)
  clear w0' s1 s2 s3 s4
  generalize hw2 : (w1.alloc _) = w2
  have ho2 : OwB w2 w0.heap.size (some ⟨w1.heap.size, 0, none⟩) 6 6 (headB k next l ++ cellsB (l.take 0)) := by
    rw [← hw2]
    have e : headB k next l ++ cellsB (l.take 0) = [k, 0, next / 256, next % 256, (n : Int), 0] := by
      unfold headB
      rw [hln.out, show next / 65536 = 0 by omega]; rfl
    rw [e]
    exact OwB.made (l := [k, 0, next / 256, next % 256, (n : Int), 0]) (At.new w1 _ _) rfl (by intro x hx; simp at hx; omega) hb1.size (by decide)
  have hB2 : Below w0.heap.size w0 w2 := by rw [← hw2]; exact below_al hb1
  clear hw2 hb1 hB1 k0 k0c k0f k0l
  go_loopw [4, 31] (fun v4 v31 wr => ∃ (j m : Nat) (A' : Option Addr) (c' : Nat), j ≤ n ∧ v31 = .int .i64 j ∧ v4 = .slice A' m c' ∧ OwB wr w0.heap.size A' m c' (headB k next l ++ cellsB (l.take j)) ∧ Below w0.heap.size w0 wr) (fun _ v31 _ => n - (intOf v31).toNat)
  case atStart => exact ⟨0, 6, _, _, by omega, rfl, rfl, ho2, hB2⟩
  case round =>
    clear ho2 hB2
    obtain ⟨j, m, A', c', hj, rfl, rfl, ho, hBr⟩ := hrel
    have hcl := cellsB_le hbb.out j
    have hm : m = 6 + (cellsB (l.take j)).length := by rw [← ho.1]; simp [headB]; omega
    have hm' := Lib.hid hm
    have hm5 : m ≤ 504 := by omega
    clear hm hcl
    by_cases hlt : j < n
    · obtain ⟨gb, go', kA, kN, kC, vA, vN, vC, rfl, g1, g2, c1, c2, b1, b2, m1, m2⟩ := h.2 j hlt
      have hok := hbb.out.2.1 j (by rw [hln.out]; exact hlt)
      have hs := Lib.hid (cellsB_take l j (by rw [hln.out]; exact hlt))
      have hk90 : kN ≤ 90 := by rw [← b1.1]; exact hok.1
      have hv150 : vN ≤ 150 := by rw [← b2.1]; exact hok.2.1
      have hw1 := below_tr hB (hBr.mono hB.size)
      replace c1 := (hw1.cell (p := ⟨gb, go' + j * 2, none⟩) g2).trans c1
      replace c2 := (hw1.cell (p := ⟨gb, go' + j * 2 + 1, none⟩) g2).trans c2
      have hkl := Lib.hid b1.1
      have hvl := Lib.hid b2.1
      have hk := Lib.hid b1
      have hv := Lib.hid b2
      have hj0 : (0 : Int) ≤ j := by omega
      have hj1 : (j : Int) < n := by omega
      have t1 : IntKind.u8.wrap (kN : Int) = kN := IntWalk.u8_in _ (by omega)
      have t2 : IntKind.u8.wrap (vN : Int) = vN := IntWalk.u8_in _ (by omega)
      clear b1 b2 m1 m2 hok h
      go_upto_region 7 with (fail)
      have kd : At (wr.alloc (.cells #[.slice kA kN kC, .slice vA vN vC] 35)) wr.heap.size #[.slice kA kN kC, .slice vA vN vC] 35 := At.new _ _ _
      have hod := ho.alloc (.cells #[.slice kA kN kC, .slice vA vN vC] 35)
      have hBd := below_al (O := .cells #[.slice kA kN kC, .slice vA vN vC] 35) hBr
      have hDlt := ho.lt
      have hneD : some wr.heap.size ≠ ownBlk A' := fun e => by have := (hDlt _ e.symm).2; omega
      clear hDlt c1 c2 ho hw1
      generalize (wr.alloc (.cells #[.slice kA kN kC, .slice vA vN vC] 35)) = wd at *
      have hDl := kd.lt
      generalize wr.heap.size = D at *
      have kdc := kd.c
      go_upto_region 8 with (at_builtin; refine wpList_app rfl (.tmp 35) (.tmp 44) rfl w0.heap.size m c' A' _ rfl (hod.alloc _) _ _ 2 2 _ [(kN : Int), (vN : Int)] rfl (BsR.of_at (l := [(kN : Int), (vN : Int)]) (At.new wd _ _) rfl (Byt.cons (by omega) (by omega) (Byt.cons (by omega) (by omega) Byt.nil))) (by omega) (Nat.le_trans hBd.size (ge_new _ _)) ?_; intro A5 c5 w5 ho5 hg5 hb5 hat5)
      have kd5 := Lib.hid (At.grown (kd.alloc _) hg5 hneD).drew
      have hneD5 := Lib.hid (ne_next hat5 hneD (Nat.lt_of_lt_of_le hDl (ge_new _ _)))
      have hlt5 : D < w5.drew.heap.size := kd5.out.lt
      have hB5 := below_tr (below_al hBd) hb5
      have hs5 : w0.heap.size ≤ w5.drew.heap.size := hB5.size
      have hw5 := below_tr hB (hB5.mono hB.size)
      have hk5 := Lib.hid (show BsR w5.drew 0 w.heap.size kA kN (clAt l j).1 from hk.out.below (below_dr hw5) (Nat.le_refl _))
      have hv5 := Lib.hid (show BsR w5.drew 0 w.heap.size vA vN (clAt l j).2 from hv.out.below (below_dr hw5) (Nat.le_refl _))
      have q1 : m + 2 + kN ≤ 70368744177664 := by omega
      have q2 : m + 2 + kN + vN ≤ 70368744177664 := by omega
      clear kd hod hat5 hg5 kdc t1 t2
      replace ho5 := ho5.drew
      have kdc := kd5.out.c
      go_region_held3 (fun w' => At w' D #[.slice kA kN kC, .slice vA vN vC] 35 ∧ (∀ o, w'.cell? ⟨D, o, none⟩ = #[.slice kA kN kC, .slice vA vN vC][o]?))
        (first
          | (exact ⟨kd5.out, kd5.out.c⟩)
          | (have s := At.grown kd5.out hg6 hneD5.out; exact ⟨s, s.c⟩)
          | (have s := At.grown (At.grown kd5.out hg6 hneD5.out) hg7 (ne_next hat6 hneD5.out hlt5); exact ⟨s, s.c⟩))
        (first
          | (refine step_app (by rfl) (.tmp 46) (.tmp 48) (by rfl) w0.heap.size (m + 2) c5 A5 _ (by rfl) ho5 0 w.heap.size kN kC kA _ (by rfl) hk5.out q1 hs5 ?_; intro A6 c6 w6 ho6 hg6 hb6 hat6)
          | (refine step_app (by rfl) (.tmp 49) (.tmp 51) (by rfl) w0.heap.size (m + 2 + kN) c6 A6 _ (by rfl) ho6 0 w.heap.size vN vC vA _ (by rfl) (hv5.out.below hb6 hB.size) q2 (Nat.le_trans hs5 hb6.size) ?_; intro A7 c7 w7 ho7 hg7 hb7 hat7)
          | fail)
      clear kdc
      go_wp2
      go_roundw
      case rel => exact ⟨j + 1, m + 2 + kN + vN, A7, c7, by omega, by go_num, rfl, by rw [hs.out, hkl.out, hvl.out]; simpa [List.append_assoc] using ho7, below_tr (below_tr (below_dr hB5) hb6) hb7⟩
      case measure => simp [intOf]; omega
    · obtain rfl : j = n := by omega
      obtain ⟨z, hz⟩ : ∃ z, m + z = 504 := ⟨504 - m, by omega⟩
      have hz' := Lib.hid hz
      have t1 : IntKind.i64.wrap (504 - (m : Int)) = (z : Int) := by rw [show (504 : Int) - m = z by omega]; exact IntWalk.i64_in _ (by omega)
      have ht : l.take j = l := List.take_of_length_le (by rw [hln.out]; exact Nat.le_refl _)
      rw [ht] at ho hm'
      have hz5 : z ≤ 504 := by omega
      clear hz ht
      go_wp2_with (at_builtin; refine wpList_appZ rfl (.tmp 54) (.tmp 57) rfl w0.heap.size m c' A' _ rfl ho z _ rfl rfl (by omega) hBr.size ?_; intro A3 c3 w3 ho3 hg3 hb3 hat3)
      go_ret2
      rw [hz'.out] at ho3 ⊢
      have hzz : 504 - (6 + (cellsB l).length) = z := by have := hz'.out; have := hm'.out; omega
      exact ⟨A3, c3, rfl, by unfold pageB; rw [hzz]; exact ho3.less hB.size, below_tr hB ((below_tr hBr hb3).mono hB.size)⟩
end Go.Proofs.Ytjgomebnlekddaa
