/- page.Put and page.Drop by their contracts. -/
import Derived.Test.YtjgomebnlekddaaCopied
import Derived.Test.YtjgomebnlekddaaRHalves
import Derived.Test.YtjgomebnlekddaaFind
namespace Go.Proofs.Ytjgomebnlekddaa
set_option linter.unusedVariables false
set_option linter.unusedSimpArgs false
open Go.RowKit
theorem OwC.join {w w' : World} {base mid n c m c' c'' : Nat} {A B A' : Option Addr} {l l2 : List Cl} {hs hs2 : List Hc} (h : OwC w base A n c l hs) (h2 : OwC w mid B m c' l2 hs2) (hmid : base ≤ mid) (hord : ∀ g ∈ blks hs, g < mid)
    (hrow : w'.ownsRow base 35 2 (.slice A' (n + m) c'') (n + m) (hs.flatMap hcV ++ hs2.flatMap hcV)) (hg : w.grownBy w' (ownBlk A)) : OwC w' base A' (n + m) c'' (l ++ l2) (hs ++ hs2) :=
  h.app h2.el h2.hl h2.ll h2.inc hmid hord (fun i hi => ⟨ne_ty (h.el i hi).1.2.2 h.row (by decide), ne_ty (h.el i hi).2.1.2.2 h.row (by decide)⟩) (fun i hi => ⟨ne_ty (h2.el i hi).1.2.2 h.row (by decide), ne_ty (h2.el i hi).2.1.2.2 h.row (by decide)⟩) hrow hg
def putL (l : List Cl) (k v : List Int) : List Cl := l.take (findI l k) ++ [(k, v)] ++ l.drop (if fndB l k then findI l k + 1 else findI l k)
def dropL (l : List Cl) (k : List Int) : List Cl := if fndB l k then l.take (findI l k) ++ l.drop (findI l k + 1) else l
theorem findI_le (l : List Cl) (k : List Int) : findI l k ≤ l.length := by
  unfold findI
  exact (List.takeWhile_prefix _).length_le
theorem fndB_lt {l : List Cl} {k : List Int} (h : fndB l k = true) : findI l k < l.length := by
  unfold fndB at h
  simp at h
  exact h.1
/-- One cell in a block of its own. -/
theorem CsR.one {w : World} {b hi kN kC vN vC : Nat} {kA vA : Option Addr} {k v : List Int} (h : At w b #[.slice kA kN kC, .slice vA vN vC] 35) (hb : b < hi) (hk : BsR w 0 hi kA kN k) (hv : BsR w 0 hi vA vN v) (m1 : kN ≤ 70368744177664 * 2) (m2 : vN ≤ 70368744177664 * 2) : CsR w 0 hi (some ⟨b, 0, none⟩) 1 [(k, v)] := by
  refine ⟨rfl, fun i hi' => ?_⟩
  obtain rfl : i = 0 := by omega
  exact ⟨b, 0, kA, kN, kC, vA, vN, vC, rfl, Nat.zero_le _, hb, by rw [h.c]; rfl, by rw [h.c]; rfl, hk, hv, m1, m2⟩
theorem CsR.backA {w : World} {lo hi n c : Nat} {A : Option Addr} {l : List Cl} (h : CsR w lo hi A n l) (k : Nat) (hk : k ≤ n) (hc : n ≤ c) : CsR w lo hi (if c = k then A else Option.map (fun x => x.add (k * 2)) A) (n - k) (l.drop k) := by
  have := h.cut (c := c) k n hk (Nat.le_refl _) hc
  rwa [List.take_of_length_le (by rw [h.1]; exact Nat.le_refl _)] at this
def CsPost (l : List Cl) (w : World) (e : Ending) (w' : World) : Prop := ∃ A c n hs, e = .returned (.slice A n c) ∧ OwC w' w.heap.size A n c l hs ∧ Below w.heap.size w w'
set_option maxRecDepth 100000 in
set_option maxHeartbeats 2000000 in
theorem put_n {n : Nat} (c kC vC : Nat) {kN vN : Nat} {A kA vA : Option Addr} {l : List Cl} {k v : List Int} (w : World) (h : CsR w 0 w.heap.size A n l) (hc : n ≤ c) (hk : BsR w 0 w.heap.size kA kN k) (hv : BsR w 0 w.heap.size vA vN v) (m1 : kN ≤ 70368744177664 * 2) (m2 : vN ≤ 70368744177664 * 2) (hn : n ≤ 4090) (hr : Rs l) (hf : fndB l k = false) :
    Calls Try.prog 25 #[.slice A n c, .agg #[.slice kA kN kC, .slice vA vN vC]] w (CsPost (putL l k v) w) := by
  have hln := Lib.hid h.1
  have hil := findI_le l k
  have hfl : false = true → findI l k < l.length := fun e => fndB_lt (hf.trans e)
  rw [hln.out] at hil hfl
  simp only [Bool.false_eq_true, false_implies, true_implies] at hfl
  have hput : putL l k v = l.take (findI l k) ++ [(k, v)] ++ l.drop (findI l k) := by unfold putL; rw [hf]; rfl
  have hf' := Lib.hid hf
  have hput' := Lib.hid hput
  clear hput hf
  go_enter Try.func25, Try.ntmps25
  go_wp2_with fail
  have k0 := At.new w #[.slice kA kN kC, .slice vA vN vC] 35
  have hB := below_new w (.cells #[.slice kA kN kC, .slice vA vN vC] 35)
  generalize (w.alloc (.cells #[.slice kA kN kC, .slice vA vN vC] 35)) = w0 at *
  refine (find_calls c kC w0 (h.later hB) (hk.below hB (Nat.le_refl _)) (by omega) hr).mono ?_
  rintro e w0' ⟨rfl, rfl⟩
  rw [hf'.out]
  have hfr := Lib.hid ((h.later hB).front (findI l k) hil)
  have hbk := Lib.hid ((h.later hB).backA (c := c) (findI l k) (by omega) hc)
  generalize hi : findI l k = i at *
  have hi' := Lib.hid hi
  clear hi
  have i0 : (0 : Int) ≤ i := by omega
  have i1 : (i : Int) ≤ n := by omega
  have i2 : (i : Int) ≤ c := by omega
  have k0c := k0.c; have k0f := k0.f; have k0l := k0.lt
  go_wp2_with fail
  refine (copied_calls c w0 hfr.out (Nat.le_refl _) (by omega)).mono ?_
  rintro e w1 ⟨A1, c1, hs1, rfl, ho1, hb1⟩
  have hB1 := below_keep hb1 hB
  replace k0 := k0.below hb1 k0.lt; have k0c := k0.c; have k0f := k0.f; have k0l := k0.lt
  go_wp2_with fail
  have k2 := At.new w1 #[.slice kA kN kC, .slice vA vN vC] 35
  have hB1' := below_al (O := .cells #[.slice kA kN kC, .slice vA vN vC] 35) hB1
  have hb1' := below_al (O := .cells #[.slice kA kN kC, .slice vA vN vC] 35) hb1
  have ho1' := ho1.alloc (.cells #[.slice kA kN kC, .slice vA vN vC] 35)
  have hord := Lib.hid (fun g hg => (blks_lt ho1 g hg).2)
  have hsz := ge_new w1 (.cells #[.slice kA kN kC, .slice vA vN vC] 35)
  generalize (w1.alloc (.cells #[.slice kA kN kC, .slice vA vN vC] 35)) = w1' at *
  refine (copied_calls 1 w1' (CsR.one k2 k2.lt ((hk.below hB1' (Nat.le_refl _)).more hB1'.size) ((hv.below hB1' (Nat.le_refl _)).more hB1'.size) m1 m2) (Nat.le_refl _) (by omega)).mono ?_
  rintro e w2 ⟨A2, c2, hs2, rfl, ho2, hb2⟩
  have hB2 := below_keep hb2 hB1'
  have ho1'' := ho1'.later hb2
  have q1 : i + 1 ≤ maxLen := by unfold maxLen; omega
  have q2 : (i + 1) * 48 ≤ 140737488355328 := by omega
  clear k0 k0c k0f k0l k2
  have i3 : (0 : Int) ≤ (((i : Nat)) : Int) := by omega
  have i4 : (((i : Nat)) : Int) ≤ n := by omega
  have i5 : (((i : Nat)) : Int) ≤ c := by omega
  go_wp2_with (at_builtin; refine wpList_appG cellElt rfl (.tmp 19) (.tmp 22) rfl w0.heap.size i c1 A1 _ rfl ho1''.row 1 c2 A2 _ rfl ho2.src q1 q2 (Nat.le_trans hb1'.size hb2.size) ?_; intro A3 c3 w3 ho3 hg3 hb3 hat3)
  all_goals
    have hb03 := below_tr (below_keep hb2 hb1') hb3
    have ho3' := OwC.join ho1'' ho2 hb1'.size (fun g hg => Nat.lt_of_lt_of_le (hord.out g hg) hsz) ho3 hg3
    have hbk3 := Lib.hid (hbk.out.below hb03 (Nat.le_refl _))
    refine (copied_calls _ w3 (show CsR w3 0 w0.heap.size _ (n - (i)) (l.drop (i)) from by have hz := hbk3.out; first | (rw [if_neg (by omega)] at hz; exact hz) | (rw [if_pos (by omega)] at hz; exact hz)) hb03.size (by omega)).mono ?_
    rintro e w4 ⟨A4, c4, hs4, rfl, ho4, hb4⟩
    have ho3'' := ho3'.later hb4
    have hord3 := Lib.hid (fun g hg => (blks_lt ho3' g hg).2)
    have q3 : i + 1 + (n - (i)) ≤ maxLen := by unfold maxLen; omega
    have q4 : (i + 1 + (n - (i))) * 48 ≤ 140737488355328 := by omega
    have hb04 := below_keep hb4 hb03
    clear ho3 ho1 ho1' ho1'' ho2
    go_wp2_with (at_builtin; refine wpList_appG cellElt rfl (.tmp 27) (.tmp 31) rfl w0.heap.size (i + 1) c3 A3 _ rfl ho3''.row (n - (i)) c4 A4 _ rfl ho4.src q3 q4 hb04.size ?_; intro A5 c5 w5 ho5 hg5 hb5 hat5)
    go_ret
    exact ⟨A5, c5, _, _, rfl, by rw [hput'.out]; exact (OwC.join ho3'' ho4 hb03.size hord3.out ho5 hg5).less hB.size, below_tr hB ((below_tr hb04 hb5).mono hB.size)⟩
set_option maxRecDepth 100000 in
set_option maxHeartbeats 2000000 in
theorem put_y {n : Nat} (c kC vC : Nat) {kN vN : Nat} {A kA vA : Option Addr} {l : List Cl} {k v : List Int} (w : World) (h : CsR w 0 w.heap.size A n l) (hc : n ≤ c) (hk : BsR w 0 w.heap.size kA kN k) (hv : BsR w 0 w.heap.size vA vN v) (m1 : kN ≤ 70368744177664 * 2) (m2 : vN ≤ 70368744177664 * 2) (hn : n ≤ 4090) (hr : Rs l) (hf : fndB l k = true) :
    Calls Try.prog 25 #[.slice A n c, .agg #[.slice kA kN kC, .slice vA vN vC]] w (CsPost (putL l k v) w) := by
  have hln := Lib.hid h.1
  have hil := findI_le l k
  have hfl : true = true → findI l k < l.length := fun e => fndB_lt (hf.trans e)
  rw [hln.out] at hil hfl
  simp only [Bool.false_eq_true, false_implies, true_implies] at hfl
  have hput : putL l k v = l.take (findI l k) ++ [(k, v)] ++ l.drop (findI l k + 1) := by unfold putL; rw [hf]; rfl
  have hf' := Lib.hid hf
  have hput' := Lib.hid hput
  clear hput hf
  go_enter Try.func25, Try.ntmps25
  go_wp2_with fail
  have k0 := At.new w #[.slice kA kN kC, .slice vA vN vC] 35
  have hB := below_new w (.cells #[.slice kA kN kC, .slice vA vN vC] 35)
  generalize (w.alloc (.cells #[.slice kA kN kC, .slice vA vN vC] 35)) = w0 at *
  refine (find_calls c kC w0 (h.later hB) (hk.below hB (Nat.le_refl _)) (by omega) hr).mono ?_
  rintro e w0' ⟨rfl, rfl⟩
  rw [hf'.out]
  have hfr := Lib.hid ((h.later hB).front (findI l k) hil)
  have hbk := Lib.hid ((h.later hB).backA (c := c) (findI l k + 1) (by omega) hc)
  generalize hi : findI l k = i at *
  have hi' := Lib.hid hi
  clear hi
  have i0 : (0 : Int) ≤ i := by omega
  have i1 : (i : Int) ≤ n := by omega
  have i2 : (i : Int) ≤ c := by omega
  have k0c := k0.c; have k0f := k0.f; have k0l := k0.lt
  go_wp2_with fail
  refine (copied_calls c w0 hfr.out (Nat.le_refl _) (by omega)).mono ?_
  rintro e w1 ⟨A1, c1, hs1, rfl, ho1, hb1⟩
  have hB1 := below_keep hb1 hB
  replace k0 := k0.below hb1 k0.lt; have k0c := k0.c; have k0f := k0.f; have k0l := k0.lt
  go_wp2_with fail
  have k2 := At.new w1 #[.slice kA kN kC, .slice vA vN vC] 35
  have hB1' := below_al (O := .cells #[.slice kA kN kC, .slice vA vN vC] 35) hB1
  have hb1' := below_al (O := .cells #[.slice kA kN kC, .slice vA vN vC] 35) hb1
  have ho1' := ho1.alloc (.cells #[.slice kA kN kC, .slice vA vN vC] 35)
  have hord := Lib.hid (fun g hg => (blks_lt ho1 g hg).2)
  have hsz := ge_new w1 (.cells #[.slice kA kN kC, .slice vA vN vC] 35)
  generalize (w1.alloc (.cells #[.slice kA kN kC, .slice vA vN vC] 35)) = w1' at *
  refine (copied_calls 1 w1' (CsR.one k2 k2.lt ((hk.below hB1' (Nat.le_refl _)).more hB1'.size) ((hv.below hB1' (Nat.le_refl _)).more hB1'.size) m1 m2) (Nat.le_refl _) (by omega)).mono ?_
  rintro e w2 ⟨A2, c2, hs2, rfl, ho2, hb2⟩
  have hB2 := below_keep hb2 hB1'
  have ho1'' := ho1'.later hb2
  have q1 : i + 1 ≤ maxLen := by unfold maxLen; omega
  have q2 : (i + 1) * 48 ≤ 140737488355328 := by omega
  clear k0 k0c k0f k0l k2
  have i3 : (0 : Int) ≤ (((i + 1 : Nat)) : Int) := by omega
  have i4 : (((i + 1 : Nat)) : Int) ≤ n := by omega
  have i5 : (((i + 1 : Nat)) : Int) ≤ c := by omega
  go_wp2_with (at_builtin; refine wpList_appG cellElt rfl (.tmp 19) (.tmp 22) rfl w0.heap.size i c1 A1 _ rfl ho1''.row 1 c2 A2 _ rfl ho2.src q1 q2 (Nat.le_trans hb1'.size hb2.size) ?_; intro A3 c3 w3 ho3 hg3 hb3 hat3)
  all_goals
    have hb03 := below_tr (below_keep hb2 hb1') hb3
    have ho3' := OwC.join ho1'' ho2 hb1'.size (fun g hg => Nat.lt_of_lt_of_le (hord.out g hg) hsz) ho3 hg3
    have hbk3 := Lib.hid (hbk.out.below hb03 (Nat.le_refl _))
    refine (copied_calls _ w3 (show CsR w3 0 w0.heap.size _ (n - (i + 1)) (l.drop (i + 1)) from by have hz := hbk3.out; first | (rw [if_neg (by omega)] at hz; exact hz) | (rw [if_pos (by omega)] at hz; exact hz)) hb03.size (by omega)).mono ?_
    rintro e w4 ⟨A4, c4, hs4, rfl, ho4, hb4⟩
    have ho3'' := ho3'.later hb4
    have hord3 := Lib.hid (fun g hg => (blks_lt ho3' g hg).2)
    have q3 : i + 1 + (n - (i + 1)) ≤ maxLen := by unfold maxLen; omega
    have q4 : (i + 1 + (n - (i + 1))) * 48 ≤ 140737488355328 := by omega
    have hb04 := below_keep hb4 hb03
    clear ho3 ho1 ho1' ho1'' ho2
    go_wp2_with (at_builtin; refine wpList_appG cellElt rfl (.tmp 27) (.tmp 31) rfl w0.heap.size (i + 1) c3 A3 _ rfl ho3''.row (n - (i + 1)) c4 A4 _ rfl ho4.src q3 q4 hb04.size ?_; intro A5 c5 w5 ho5 hg5 hb5 hat5)
    go_ret
    exact ⟨A5, c5, _, _, rfl, by rw [hput'.out]; exact (OwC.join ho3'' ho4 hb03.size hord3.out ho5 hg5).less hB.size, below_tr hB ((below_tr hb04 hb5).mono hB.size)⟩
end Go.Proofs.Ytjgomebnlekddaa
