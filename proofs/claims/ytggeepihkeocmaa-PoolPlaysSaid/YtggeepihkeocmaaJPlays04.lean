/- Joined texts: Copied, Store. -/
import Derived.Test.YtggeepihkeocmaaJPlays02
import Derived.Test.YtggeepihkeocmaaJPlays00
import Derived.Deep.RegionHeld3
import Derived.Test.YtggeepihkeocmaaJPlays03
/- Rows of cells that a call owns; page.copied by its contract. -/
namespace Go.Proofs.Ytggeepihkeocmaa
set_option linter.unusedVariables false
set_option linter.unusedSimpArgs false
open Go.RowKit
/-- A slice's header. -/
structure Hd where
  A : Option Addr
  n : Nat
  c : Nat
def Hd.v (h : Hd) : Value := .slice h.A h.n h.c
abbrev Hc := Hd × Hd
def hcV (h : Hc) : List Value := [h.1.v, h.2.v]
def hcAt (hs : List Hc) (i : Nat) : Hc := hs.getD i (⟨none, 0, 0⟩, ⟨none, 0, 0⟩)
def blks (hs : List Hc) : List Nat := hs.flatMap fun h => (ownBlk h.1.A).toList ++ (ownBlk h.2.A).toList
/-- A row of cells of the call's own, all of its bytes the call's own too, no two in one block. -/
structure OwC (w : World) (base : Nat) (A : Option Addr) (n c : Nat) (l : List Cl) (hs : List Hc) : Prop where
  row : w.ownsRow base 77 2 (.slice A n c) n (hs.flatMap hcV)
  hl : hs.length = n
  ll : l.length = n
  el : ∀ i, i < n → OwB w base (hcAt hs i).1.A (hcAt hs i).1.n (hcAt hs i).1.c (clAt l i).1 ∧ OwB w base (hcAt hs i).2.A (hcAt hs i).2.n (hcAt hs i).2.c (clAt l i).2 ∧ (hcAt hs i).1.n ≤ 140737488355328 ∧ (hcAt hs i).2.n ≤ 140737488355328
  inc : (blks hs).Pairwise (· < ·)
theorem OwC.nil (w : World) (base : Nat) : OwC w base none 0 0 [] [] := ⟨World.ownsRow_nil _ _ _ _, rfl, rfl, fun _ h => absurd h (by omega), List.Pairwise.nil⟩
theorem flat_get (hs : List Hc) : ∀ i, i < hs.length → (hs.flatMap hcV)[i * 2]? = some (hcAt hs i).1.v ∧ (hs.flatMap hcV)[i * 2 + 1]? = some (hcAt hs i).2.v := by
  induction hs with
  | nil => intro i h; simp at h
  | cons h hs ih =>
    intro i hi
    rcases i with _ | i
    · simp [hcV, hcAt]
    · have := ih i (by simpa using hi)
      rw [List.flatMap_cons, show hcV h = [h.1.v, h.2.v] from rfl, show (i + 1) * 2 = i * 2 + 1 + 1 from by omega]
      simpa [hcAt] using this
theorem flat_len (hs : List Hc) : (hs.flatMap hcV).length = hs.length * 2 := by
  induction hs with
  | nil => rfl
  | cons h hs ih => rw [List.flatMap_cons, List.length_append, ih]; simp [hcV]; omega
theorem OwC.kept {w w' : World} {base n c : Nat} {A : Option Addr} {l : List Cl} {hs : List Hc} {row : Option Nat} (h : OwC w base A n c l hs) (hg : w.grownBy w' row) (h1 : ownBlk A = none ∨ ownBlk A ≠ row) (h2 : ∀ i, i < n → (ownBlk (hcAt hs i).1.A = none ∨ ownBlk (hcAt hs i).1.A ≠ row) ∧ (ownBlk (hcAt hs i).2.A = none ∨ ownBlk (hcAt hs i).2.A ≠ row)) : OwC w' base A n c l hs :=
  ⟨h.row.kept hg (by rw [ownBlk_eq]; exact h1), h.hl, h.ll, fun i hi => by
    obtain ⟨a, b, m⟩ := h.el i hi
    exact ⟨a.kept hg (h2 i hi).1, b.kept hg (h2 i hi).2, m⟩, h.inc⟩
theorem ne_of_lt_size {A : Option Addr} {H : Nat} (h : ∀ k, ownBlk A = some k → k < H) : ownBlk A = none ∨ ownBlk A ≠ some H := by
  right
  intro e
  exact absurd (h _ e) (Nat.lt_irrefl _)
theorem OwC.later {w w' : World} {base n c : Nat} {A : Option Addr} {l : List Cl} {hs : List Hc} (h : OwC w base A n c l hs) (hb : Below w.heap.size w w') : OwC w' base A n c l hs := by
  refine h.kept (grown_of_below hb (some w.heap.size)) (ne_of_lt_size fun k hk => (h.row.lt k (by rw [ownBlk_eq]; exact hk)).2) (fun i hi => ?_)
  obtain ⟨a, b, _⟩ := h.el i hi
  exact ⟨ne_of_lt_size fun k hk => (a.lt k hk).2, ne_of_lt_size fun k hk => (b.lt k hk).2⟩
theorem OwC.alloc {w : World} {base n c : Nat} {A : Option Addr} {l : List Cl} {hs : List Hc} (h : OwC w base A n c l hs) (o : Obj) : OwC (w.alloc o) base A n c l hs := h.later (below_new w o)
theorem OwC.drew {w : World} {base n c : Nat} {A : Option Addr} {l : List Cl} {hs : List Hc} (h : OwC w base A n c l hs) : OwC w.drew base A n c l hs := ⟨h.row, h.hl, h.ll, h.el, h.inc⟩
theorem OwC.less {w : World} {base base' n c : Nat} {A : Option Addr} {l : List Cl} {hs : List Hc} (h : OwC w base A n c l hs) (hb : base' ≤ base) : OwC w base' A n c l hs := by
  refine ⟨⟨h.row.1, ?_⟩, h.hl, h.ll, fun i hi => ⟨(h.el i hi).1.less hb, (h.el i hi).2.1.less hb, (h.el i hi).2.2⟩, h.inc⟩
  rcases h.row.2 with h0 | ⟨g, cap, cur, h1, h2, h3⟩
  · exact .inl h0
  · exact .inr ⟨g, cap, cur, h1, by omega, h3⟩
theorem blks_lt {w : World} {base n c : Nat} {A : Option Addr} {l : List Cl} {hs : List Hc} (h : OwC w base A n c l hs) : ∀ g ∈ blks hs, base ≤ g ∧ g < w.heap.size := by
  intro g hg
  obtain ⟨x, hx, hgx⟩ := List.mem_flatMap.1 hg
  obtain ⟨i, hi⟩ := List.getElem?_of_mem hx
  have hin : i < n := by rw [← h.hl]; exact (List.getElem?_eq_some_iff.1 hi).1
  have hxe : hcAt hs i = x := by simp [hcAt, List.getD, hi]
  obtain ⟨a, b, _⟩ := h.el i hin
  rw [hxe] at a b
  rcases List.mem_append.1 hgx with h1 | h1
  · exact a.lt g (by simpa using h1)
  · exact b.lt g (by simpa using h1)
theorem OwC.reads {w : World} {base n c : Nat} {A : Option Addr} {l : List Cl} {hs : List Hc} (h : OwC w base A n c l hs) : CsR w base w.heap.size A n l := by
  refine ⟨h.ll, fun i hi => ?_⟩
  obtain ⟨g, cap, hv, hb, hlt⟩ := h.row.form (by omega)
  injection hv with hA hn hc
  subst hA
  obtain ⟨a, b, m1, m2⟩ := h.el i hi
  have hf := flat_get hs i (by rw [h.hl]; exact hi)
  have h1 := h.row.cells (g := g) rfl (i * 2) _ hf.1
  have h2 := h.row.cells (g := g) rfl (i * 2 + 1) _ hf.2
  rw [Go.WideShapes.add_plain] at h1 h2
  exact ⟨g, 0, _, _, _, _, _, _, rfl, hb, hlt, h1, by rw [Nat.add_assoc]; exact h2, a.reads, b.reads, by omega, by omega⟩
theorem OwC.src {w : World} {base n c : Nat} {A : Option Addr} {l : List Cl} {hs : List Hc} (h : OwC w base A n c l hs) : Src w 2 A n (hs.flatMap hcV) := by
  refine ⟨by rw [flat_len, h.hl], fun j u hu => ?_⟩
  have hj : j < hs.length * 2 := by rw [← flat_len]; exact (List.getElem?_eq_some_iff.1 hu).1
  obtain ⟨g, cap, hv, hb, hlt⟩ := h.row.form (by have := h.hl; omega)
  injection hv with hA hn hc
  subst hA
  have h1 := h.row.cells (g := g) rfl j _ hu
  rw [Go.WideShapes.add_plain] at h1
  refine ⟨?_, g, 0, rfl, h1⟩
  obtain ⟨x, hx, hux⟩ := List.mem_flatMap.1 (List.mem_of_getElem? hu)
  simp only [hcV, List.mem_cons, List.not_mem_nil, or_false] at hux
  rcases hux with rfl | rfl <;> rfl
theorem cellElt : EltOk Try.prog 75 77 2 48 (.agg #[.slice none 0 0, .slice none 0 0]) :=
  ⟨Try.underlying75, info_parts (by kernel_rfl), rfl, by decide⟩
theorem hcAt_app_l {a b : List Hc} {i : Nat} (h : i < a.length) : hcAt (a ++ b) i = hcAt a i := by simp [hcAt, List.getD, List.getElem?_append_left h]
theorem hcAt_app_r {a b : List Hc} {i : Nat} (h : a.length ≤ i) : hcAt (a ++ b) i = hcAt b (i - a.length) := by simp [hcAt, List.getD, List.getElem?_append_right h]
theorem clAt_app_l {a b : List Cl} {i : Nat} (h : i < a.length) : clAt (a ++ b) i = clAt a i := by simp [clAt, List.getD, List.getElem?_append_left h]
theorem clAt_app_r {a b : List Cl} {i : Nat} (h : a.length ≤ i) : clAt (a ++ b) i = clAt b (i - a.length) := by simp [clAt, List.getD, List.getElem?_append_right h]
/-- What append makes of two rows of the call's own, the second one newer. -/
theorem OwC.app {w w' : World} {base mid n c m c'' : Nat} {A A' : Option Addr} {l l2 : List Cl} {hs hs2 : List Hc} (h : OwC w base A n c l hs) (k2 : ∀ i, i < m → OwB w mid (hcAt hs2 i).1.A (hcAt hs2 i).1.n (hcAt hs2 i).1.c (clAt l2 i).1 ∧ OwB w mid (hcAt hs2 i).2.A (hcAt hs2 i).2.n (hcAt hs2 i).2.c (clAt l2 i).2 ∧ (hcAt hs2 i).1.n ≤ 140737488355328 ∧ (hcAt hs2 i).2.n ≤ 140737488355328)
    (hl2 : hs2.length = m) (ll2 : l2.length = m) (inc2 : (blks hs2).Pairwise (· < ·)) (hmid : base ≤ mid) (hord : ∀ g ∈ blks hs, g < mid) (hne1 : ∀ i, i < n → (ownBlk (hcAt hs i).1.A = none ∨ ownBlk (hcAt hs i).1.A ≠ ownBlk A) ∧ (ownBlk (hcAt hs i).2.A = none ∨ ownBlk (hcAt hs i).2.A ≠ ownBlk A))
    (hne2 : ∀ i, i < m → (ownBlk (hcAt hs2 i).1.A = none ∨ ownBlk (hcAt hs2 i).1.A ≠ ownBlk A) ∧ (ownBlk (hcAt hs2 i).2.A = none ∨ ownBlk (hcAt hs2 i).2.A ≠ ownBlk A))
    (hrow : w'.ownsRow base 77 2 (.slice A' (n + m) c'') (n + m) (hs.flatMap hcV ++ hs2.flatMap hcV)) (hg : w.grownBy w' (ownBlk A)) : OwC w' base A' (n + m) c'' (l ++ l2) (hs ++ hs2) := by
  refine ⟨by rw [List.flatMap_append]; exact hrow, by rw [List.length_append, h.hl, hl2], by rw [List.length_append, h.ll, ll2], fun i hi => ?_, ?_⟩
  · by_cases hin : i < n
    · rw [hcAt_app_l (by rw [h.hl]; exact hin), clAt_app_l (by rw [h.ll]; exact hin)]
      obtain ⟨a, b, q⟩ := h.el i hin
      exact ⟨a.kept hg (hne1 i hin).1, b.kept hg (hne1 i hin).2, q⟩
    · rw [hcAt_app_r (by rw [h.hl]; omega), clAt_app_r (by rw [h.ll]; omega), h.hl, h.ll]
      obtain ⟨a, b, q⟩ := k2 (i - n) (by omega)
      exact ⟨(a.kept hg (hne2 _ (by omega)).1).less hmid, (b.kept hg (hne2 _ (by omega)).2).less hmid, q⟩
  · unfold blks at *
    rw [List.flatMap_append]
    refine List.pairwise_append.2 ⟨h.inc, inc2, fun x hx y hy => ?_⟩
    obtain ⟨z, hz, hyz⟩ := List.mem_flatMap.1 hy
    obtain ⟨i, hi⟩ := List.getElem?_of_mem hz
    have hin : i < m := by rw [← hl2]; exact (List.getElem?_eq_some_iff.1 hi).1
    have hxe : hcAt hs2 i = z := by simp [hcAt, List.getD, hi]
    obtain ⟨a, b, _⟩ := k2 i hin
    rw [hxe] at a b
    have := hord x hx
    rcases List.mem_append.1 hyz with h1 | h1
    · have := (a.lt y (by simpa using h1)).1; omega
    · have := (b.lt y (by simpa using h1)).1; omega
theorem ne_ty {w : World} {b b' e e' sz sz' n c n' c' : Nat} {A A' : Option Addr} {xs xs' : List Value} (h : w.ownsRow b e sz (.slice A n c) n xs) (h' : w.ownsRow b' e' sz' (.slice A' n' c') n' xs') (hne : e ≠ e') : ownBlk A = none ∨ ownBlk A ≠ ownBlk A' := by
  rcases h.2 with ⟨hv, _⟩ | ⟨g, cap, cur, hv, _, hh, _⟩
  · injection hv with h1; subst h1; exact .inl rfl
  · injection hv with h1; subst h1
    right
    intro he
    rcases h'.2 with ⟨hv', _⟩ | ⟨g', cap', cur', hv', _, hh', _⟩
    · injection hv' with h1'; subst h1'; cases he
    · injection hv' with h1'; subst h1'
      have : g = g' := by simpa [ownBlk] using he
      subst this
      rw [hh] at hh'
      injection hh' with hh'
      injection hh' with _ ht
      exact hne ht
theorem u8Elt : EltOk Try.prog 32 5 1 1 (.int .u8 0) := ⟨Try.underlying32, info_parts info8, rfl, by decide⟩
theorem BsR.src {w : World} {lo hi n : Nat} {A : Option Addr} {l : List Int} (h : BsR w lo hi A n l) : Src w 1 A n (l.map (Value.int .u8)) := by
  refine ⟨by simp [h.1], fun j u hu => ?_⟩
  have hj : j < n := by rw [← h.1]; simpa using (List.getElem?_eq_some_iff.1 hu).1
  obtain ⟨gb, go', hA, _, _, hc⟩ := h.at_ hj
  rw [map_get hu]
  exact ⟨rfl, gb, go', hA, hc⟩
set_option maxRecDepth 100000 in
theorem clone_big {lo hi n : Nat} (c : Nat) {A : Option Addr} {l : List Int} (w : World) (h : BsR w lo hi A n l) (hhi : hi ≤ w.heap.size) (hn : n ≤ 140737488355328) :
    Calls Try.prog 88 #[.slice A n c] w fun e w' => ∃ A' c', e = .returned (.slice A' n c') ∧ OwB w' w.heap.size A' n c' l ∧ Below w.heap.size w w' := by
  by_cases hs : n ≤ 70368744177664
  · exact clone_calls c w h hhi hs
  rcases A with _ | ad
  · obtain ⟨_, _, hA, _⟩ := h.2.2 (by omega); cases hA
  · have h' := Lib.hid h
    clear h
    have hnil : ∀ w : World, (binOp .eql 32 (.slice (some ad) n c) (.slice none 0 0)).run Try.prog w = .ok (.bool false) w := fun w => Lib.run_eql_slice_nil w _ _ (some ad) n c 0 0 Try.underlying32
    go_enter Try.func88, Try.ntmps88
    go_wp2_with (at_builtin; refine wpList_appG u8Elt rfl (.tmp 5) (.tmp 6) rfl w.heap.size 0 0 (some ⟨w.heap.size, 0, none⟩) [] rfl (OwB.made (l := []) (At.new w _ _) rfl Byt.nil (Nat.le_refl _) (by decide)).2.2 n c (some ad) (l.map (Value.int .u8)) rfl (h'.out.below (below_new w _) hhi).src (by simp only [maxLen]; omega) (by omega) (ge_new _ _) ?_; intro A1 c1 w1 ho1 hg1 hb1 hat1)
    go_ret
    exact ⟨A1, c1, by first | rfl | simp, ⟨h'.out.1, h'.out.2.1, by simpa using ho1⟩, below_tr (below_new w _) hb1⟩
theorem two_one (a b : Option Addr) (m n c d : Nat) : ∀ u ∈ (#[.slice a m c, .slice b n d] : Array Value).toList, u.oneCell' = true := by
  intro u hu
  simp at hu
  rcases hu with rfl | rfl <;> rfl
theorem OwC.snoc {w w' : World} {base mid mid2 n c xN xC yN yC c'' : Nat} {A A' xA yA : Option Addr} {l : List Cl} {hs : List Hc} {k v : List Int} (h : OwC w base A n c l hs) (hx : OwB w mid xA xN xC k) (hy : OwB w mid2 yA yN yC v) (hmid : base ≤ mid) (hm2 : mid ≤ mid2) (hord : ∀ g ∈ blks hs, g < mid) (hxl : ∀ g, ownBlk xA = some g → g < mid2)
    (b1 : xN ≤ 140737488355328) (b2 : yN ≤ 140737488355328) (hrow : w'.ownsRow base 77 2 (.slice A' (n + 1) c'') (n + 1) (hs.flatMap hcV ++ [.slice xA xN xC, .slice yA yN yC])) (hg : w.grownBy w' (ownBlk A)) :
    OwC w' base A' (n + 1) c'' (l ++ [(k, v)]) (hs ++ [(⟨xA, xN, xC⟩, ⟨yA, yN, yC⟩)]) := by
  refine h.app (mid := mid) (m := 1) (hs2 := [(⟨xA, xN, xC⟩, ⟨yA, yN, yC⟩)]) (l2 := [(k, v)]) (fun i hi => ?_) rfl rfl ?_ hmid hord (fun i hi => ⟨ne_ty (h.el i hi).1.2.2 h.row (by decide), ne_ty (h.el i hi).2.1.2.2 h.row (by decide)⟩) (fun i hi => ?_) hrow hg
  · obtain rfl : i = 0 := by omega
    exact ⟨hx, hy.less hm2, b1, b2⟩
  · show ((ownBlk xA).toList ++ (ownBlk yA).toList ++ []).Pairwise (· < ·)
    rw [List.append_nil]
    refine List.pairwise_append.2 ⟨by cases ownBlk xA <;> simp, by cases ownBlk yA <;> simp, fun a ha b hb => ?_⟩
    have h1 := hxl a (by simpa using ha)
    have h2 := (hy.lt b (by simpa using hb)).1
    omega
  · obtain rfl : i = 0 := by omega
    exact ⟨ne_ty hx.2.2 h.row (by decide), ne_ty hy.2.2 h.row (by decide)⟩
set_option maxRecDepth 100000 in
set_option maxHeartbeats 2000000 in
theorem copied_calls {lo hi n : Nat} (c : Nat) {A : Option Addr} {l : List Cl} (w : World) (h : CsR w lo hi A n l) (hhi : hi ≤ w.heap.size) (hn : n ≤ 4096) :
    Calls Try.prog 84 #[.slice A n c] w fun e w' => ∃ A' c' hs, e = .returned (.slice A' n c') ∧ OwC w' w.heap.size A' n c' l hs ∧ Below w.heap.size w w' := by
  have hln := Lib.hid h.1
  go_enter Try.func84, Try.ntmps84
  go_wp2
  go_loopw [3, 8] (fun v3 v8 wr => ∃ (j : Nat) (A' : Option Addr) (c' : Nat) (hs : List Hc), j ≤ n ∧ v8 = .int .i64 j ∧ v3 = .slice A' j c' ∧ OwC wr w.heap.size A' j c' (l.take j) hs ∧ Below w.heap.size w wr) (fun _ v8 _ => n - (intOf v8).toNat)
  case atStart => exact ⟨0, none, 0, [], by omega, rfl, rfl, OwC.nil _ _, Below.refl _ _⟩
  case round =>
    obtain ⟨j, A', c', hs, hj, rfl, rfl, ho, hB⟩ := hrel
    by_cases hlt : j < n
    · obtain ⟨gb, go', kA, kN, kC, vA, vN, vC, rfl, g1, g2, c1, c2, b1, b2, m1, m2⟩ := h.2 j hlt
      replace m1 : kN ≤ 140737488355328 := m1
      replace m2 : vN ≤ 140737488355328 := m2
      have htk := Lib.hid (take_one l j (by rw [hln.out]; exact hlt))
      have hgw : gb < wr.heap.size := by have := hB.size; omega
      replace c1 := (hB.cell (p := ⟨gb, go' + j * 2, none⟩) (Nat.lt_of_lt_of_le g2 hhi)).trans c1
      replace c2 := (hB.cell (p := ⟨gb, go' + j * 2 + 1, none⟩) (Nat.lt_of_lt_of_le g2 hhi)).trans c2
      have hk := Lib.hid (b1.below hB hhi)
      have hv := Lib.hid (b2.below hB hhi)
      have hhr : hi ≤ wr.heap.size := Nat.le_trans hhi hB.size
      have hj0 : (0 : Int) ≤ j := by omega
      have hj1 : (j : Int) < n := by omega
      clear b1 b2
      go_upto_region 5 with (fail)
      have kd : At (wr.alloc (.cells #[.slice kA kN kC, .slice vA vN vC] 77)) wr.heap.size #[.slice kA kN kC, .slice vA vN vC] 77 := At.new _ _ _
      have hod := ho.alloc (.cells #[.slice kA kN kC, .slice vA vN vC] 77)
      have hBd := below_al (O := .cells #[.slice kA kN kC, .slice vA vN vC] 77) hB
      have hkd := Lib.hid (hk.out.below (below_new wr (.cells #[.slice kA kN kC, .slice vA vN vC] 77)) hhr)
      have hvd := Lib.hid (hv.out.below (below_new wr (.cells #[.slice kA kN kC, .slice vA vN vC] 77)) hhr)
      have hbl := Lib.hid (fun g hg => (blks_lt ho g hg).2)
      have hneD : some wr.heap.size ≠ ownBlk A' := fun e => by have := (ho.row.lt _ (by rw [ownBlk_eq]; exact e.symm)).2; omega
      generalize (wr.alloc (.cells #[.slice kA kN kC, .slice vA vN vC] 77)) = wd at *
      have hDl := kd.lt
      have hid : hi ≤ wd.heap.size := by omega
      clear hk hv hB ho c1 c2
      generalize wr.heap.size = D at *
      have hid2 : hi ≤ wd.drew.heap.size := hid
      have kdc := kd.c
      have q1 : j + 1 ≤ maxLen := by unfold maxLen; omega
      have q2 : (j + 1) * 48 ≤ 140737488355328 := by omega
      go_region_held3 (fun w' => At w' D #[.slice kA kN kC, .slice vA vN vC] 77 ∧ (∀ o, w'.cell? ⟨D, o, none⟩ = #[.slice kA kN kC, .slice vA vN vC][o]?))
        (first
          | (exact ⟨kd.drew, kd.drew.c⟩)
          | (have s := At.keep hb5 kd.drew; exact ⟨s, s.c⟩)
          | (have s := At.keep hb6 (At.keep hb5 kd.drew); exact ⟨s, s.c⟩)
          | (have s := (At.keep hb6 (At.keep hb5 kd.drew)).alloc (.cells #[.slice A5 kN c5, .slice A6 vN c6] 77); exact ⟨s, s.c⟩)
          | (have s := At.grown ((At.keep hb6 (At.keep hb5 kd.drew)).alloc _) hg7 hneD; exact ⟨s, s.c⟩))
        (first
          | (go_at_call 88; with_reducible refine (clone_big kC wd.drew hkd.out.drew hid2 m1).mono ?_; rintro e w5 ⟨A5, c5, rfl, ho5, hb5⟩)
          | (go_at_call 88; with_reducible refine (clone_big vC w5 (hvd.out.drew.below hb5 hid2) (Nat.le_trans hid2 hb5.size) m2).mono ?_; rintro e w6 ⟨A6, c6, rfl, ho6, hb6⟩)
          | (refine step_appG cellElt (by rfl) (.tmp 12) (.tmp 20) (by rfl) w.heap.size j c' A' _ (by rfl) (((hod.drew.later hb5).later hb6).alloc _).row 1 1 (some ⟨w6.heap.size, 0, none⟩) [.slice A5 kN c5, .slice A6 vN c6] (by rfl) (Src.of_at (At.new w6 #[.slice A5 kN c5, .slice A6 vN c6] 77) rfl (two_one _ _ _ _ _ _)) q1 q2 (Nat.le_trans hBd.size (Nat.le_trans hb5.size (Nat.le_trans hb6.size (ge_new _ _)))) ?_; intro A7 c7 w7 ho7 hg7 hb7 hat7)
          | fail)
      clear kdc
      go_wp2
      go_roundw
      case rel => exact ⟨j + 1, A7, c7, hs ++ [(⟨A5, kN, c5⟩, ⟨A6, vN, c6⟩)], by omega, by go_num, rfl, by
        rw [htk.out]
        exact OwC.snoc (((hod.drew.later hb5).later hb6).alloc _) ((ho5.later hb6).alloc _) (ho6.alloc _) hBd.size hb5.size (fun g hg => Nat.lt_trans (hbl.out g hg) hDl) (fun g hg => (ho5.lt g hg).2) m1 m2 ho7 hg7, below_tr (below_al (below_keep hb6 (below_keep hb5 (below_dr hBd)))) hb7⟩
      case measure => simp [intOf]; omega
    · obtain rfl : j = n := by omega
      go_wp2
      go_ret
      refine ⟨A', c', hs, rfl, ?_, hB⟩
      have := ho
      rwa [List.take_of_length_le (by rw [hln.out]; exact Nat.le_refl _)] at this
end Go.Proofs.Ytggeepihkeocmaa
/- A byte of one value stored, in a row of cells that the call owns. -/
namespace Go.Proofs.Ytggeepihkeocmaa
set_option linter.unusedVariables false
set_option linter.unusedSimpArgs false
open Go.RowKit
theorem grown_set (w : World) (g o : Nat) (v : Value) : w.grownBy (w.setCell ⟨g, o, none⟩ v) (some g) :=
  ⟨rfl, rfl, rfl, by simp [World.setCell], fun k _ hk => Below.heap_setCell _ _ _ _ (fun e => hk (by simp at e; rw [e]))⟩
theorem OwB.addr {w : World} {base n c : Nat} {A : Option Addr} {l : List Int} (h : OwB w base A n c l) (hn : 0 < n) : ∃ g, A = some ⟨g, 0, none⟩ ∧ base ≤ g ∧ g < w.heap.size := by
  obtain ⟨g, cap, hv, hb, hlt⟩ := h.2.2.form hn
  injection hv with hA _ _
  exact ⟨g, hA, hb, hlt⟩
theorem OwB.at_ {w : World} {base n c g : Nat} {l : List Int} (h : OwB w base (some ⟨g, 0, none⟩) n c l) : ∃ cur : Array Value, At w g cur 5 ∧ cur.size = c ∧ n ≤ c ∧ cur.toList.take n = l.map (Value.int .u8) := by
  rcases h.2.2.2 with ⟨hv, _⟩ | ⟨g', cap, cur, hv, _, hat, hnc, _, hcs, htk⟩
  · injection hv with h1; cases h1
  · injection hv with h1 _ h3
    injection h1 with h1
    injection h1 with h1
    subst h1; subst h3
    exact ⟨cur, hat, by omega, hnc, by simpa using htk⟩
theorem OwB.set {w : World} {base n c g k : Nat} {l : List Int} (h : OwB w base (some ⟨g, 0, none⟩) n c l) (hk : k < n) {x : Int} (h0 : 0 ≤ x) (h1 : x ≤ 255) : OwB (w.setCell ⟨g, k, none⟩ (.int .u8 x)) base (some ⟨g, 0, none⟩) n c (l.set k x) := by
  refine ⟨by simp [h.1], fun y hy => ?_, ?_⟩
  · rcases List.mem_or_eq_of_mem_set hy with h2 | h2
    · exact h.2.1 y h2
    · omega
  · rcases h.2.2.2 with ⟨hv, _⟩ | ⟨g', cap, cur, hv, hb, hat, hnc, hcm, hcs, htk⟩
    · injection hv with e; cases e
    · injection hv with e1 _ e3
      injection e1 with e1
      injection e1 with e1
      subst e1; subst e3
      have hat' : At w g cur 5 := hat
      refine ⟨by simp [h.1], .inr ⟨g, c, cur.setIfInBounds k (.int .u8 x), rfl, hb, hat'.set, hnc, hcm, by simpa using hcs, ?_⟩⟩
      rw [Array.toList_setIfInBounds, List.take_set, htk, List.map_set]
theorem blks_pair {hs : List Hc} (h : (blks hs).Pairwise (· < ·)) {i j : Nat} (hij : i < j) (hj : j < hs.length) {a b : Nat} (ha : ownBlk (hcAt hs i).1.A = some a ∨ ownBlk (hcAt hs i).2.A = some a) (hb : ownBlk (hcAt hs j).1.A = some b ∨ ownBlk (hcAt hs j).2.A = some b) : a < b := by
  unfold blks at h
  rw [List.pairwise_flatMap] at h
  have h2 := (List.pairwise_iff_getElem.1 h.2) i j (by omega) hj hij
  have e1 : hcAt hs i = hs[i] := by simp [hcAt, List.getD, show i < hs.length by omega]
  have e2 : hcAt hs j = hs[j] := by simp [hcAt, List.getD, hj]
  rw [e1] at ha
  rw [e2] at hb
  refine h2 a ?_ b ?_
  · rcases ha with h | h <;> simp [h]
  · rcases hb with h | h <;> simp [h]
theorem blks_one {hs : List Hc} (h : (blks hs).Pairwise (· < ·)) {i : Nat} (hi : i < hs.length) {a b : Nat} (ha : ownBlk (hcAt hs i).1.A = some a) (hb : ownBlk (hcAt hs i).2.A = some b) : a < b := by
  unfold blks at h
  rw [List.pairwise_flatMap] at h
  have e1 : hcAt hs i = hs[i] := by simp [hcAt, List.getD, hi]
  have h2 := h.1 hs[i] (List.getElem_mem hi)
  rw [e1] at ha hb
  rw [ha, hb] at h2
  simpa using h2
def setV (l : List Cl) (i k : Nat) (x : Int) : List Cl := l.set i ((clAt l i).1, (clAt l i).2.set k x)
theorem setV_same {l : List Cl} {i k : Nat} {x : Int} (hi : i < l.length) : clAt (setV l i k x) i = ((clAt l i).1, (clAt l i).2.set k x) := by
  unfold setV; simp [clAt, hi]
theorem setV_ne {l : List Cl} {i j k : Nat} {x : Int} (h : i ≠ j) : clAt (setV l i k x) j = clAt l j := by
  unfold setV; simp [clAt, List.getD, List.getElem?_set_ne h]
theorem setV_len (l : List Cl) (i k : Nat) (x : Int) : (setV l i k x).length = l.length := by simp [setV]
theorem OwC.store {w : World} {base n c g i k : Nat} {A : Option Addr} {l : List Cl} {hs : List Hc} (h : OwC w base A n c l hs) (hi : i < n) (hA : (hcAt hs i).2.A = some ⟨g, 0, none⟩) (hk : k < (hcAt hs i).2.n) {x : Int} (h0 : 0 ≤ x) (h1 : x ≤ 255) :
    OwC (w.setCell ⟨g, k, none⟩ (.int .u8 x)) base A n c (setV l i k x) hs := by
  have hg := grown_set w g k (.int .u8 x)
  have hvb : ownBlk (hcAt hs i).2.A = some g := by rw [hA]; rfl
  have hhl := h.hl
  have hrow : ownBlk A = none ∨ ownBlk A ≠ some g := by
    rcases ne_ty h.row (h.el i hi).2.1.2.2 (by decide) with h | h
    · exact .inl h
    · right; rw [← hvb]; exact h
  refine ⟨h.row.kept hg (by rw [ownBlk_eq]; exact hrow), h.hl, by rw [setV_len]; exact h.ll, fun j hj => ?_, h.inc⟩
  obtain ⟨a, b, m⟩ := h.el j hj
  have hne : ∀ B : Option Addr, (∀ b, ownBlk B = some b → b ≠ g) → (ownBlk B = none ∨ ownBlk B ≠ some g) := fun B hB => by
    cases e : ownBlk B with
    | none => exact .inl rfl
    | some b => right; intro e'; injection e' with e'; exact hB b e e'
  by_cases hij : i = j
  · subst hij
    rw [setV_same (by rw [h.ll]; exact hi)]
    refine ⟨a.kept hg (hne _ fun b' hb' => ?_), ?_, m⟩
    · have := blks_one h.inc (by omega) hb' hvb; omega
    · rw [hA] at b ⊢
      exact b.set hk h0 h1
  · rw [setV_ne hij]
    refine ⟨a.kept hg (hne _ fun b' hb' => ?_), b.kept hg (hne _ fun b' hb' => ?_), m⟩
    · rcases Nat.lt_or_ge i j with h2 | h2
      · have := blks_pair h.inc h2 (by omega) (.inr hvb) (.inl hb'); omega
      · have := blks_pair h.inc (show j < i by omega) (by omega) (.inl hb') (.inr hvb); omega
    · rcases Nat.lt_or_ge i j with h2 | h2
      · have := blks_pair h.inc h2 (by omega) (.inr hvb) (.inr hb'); omega
      · have := blks_pair h.inc (show j < i by omega) (by omega) (.inr hb') (.inr hvb); omega
theorem OwC.cells {w : World} {base n c i : Nat} {A : Option Addr} {l : List Cl} {hs : List Hc} (h : OwC w base A n c l hs) (hi : i < n) : ∃ r : Nat, A = some ⟨r, 0, none⟩ ∧ base ≤ r ∧ r < w.heap.size ∧ w.cell? ⟨r, i * 2, none⟩ = some (hcAt hs i).1.v ∧ w.cell? ⟨r, i * 2 + 1, none⟩ = some (hcAt hs i).2.v := by
  obtain ⟨g, cap, hv, hb, hlt⟩ := h.row.form (by omega)
  injection hv with hA hn hc
  subst hA
  have hf := flat_get hs i (by rw [h.hl]; exact hi)
  have h1 := h.row.cells (g := g) rfl (i * 2) _ hf.1
  have h2 := h.row.cells (g := g) rfl (i * 2 + 1) _ hf.2
  rw [Go.WideShapes.add_plain] at h1 h2
  exact ⟨g, rfl, hb, hlt, by simpa using h1, by simpa using h2⟩
end Go.Proofs.Ytggeepihkeocmaa
