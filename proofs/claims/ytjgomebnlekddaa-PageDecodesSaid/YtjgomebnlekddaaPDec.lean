/- page.Decode by its contract. -/
import Derived.Test.YtjgomebnlekddaaDecPlain
import Derived.Test.YtjgomebnlekddaaStore
import Derived.Test.YtjgomebnlekddaaBits
import Derived.Test.YtjgomebnlekddaaDrop
import Derived.Deep.RegionLaw
namespace Go.Proofs.Ytjgomebnlekddaa
set_option linter.unusedVariables false
set_option linter.unusedSimpArgs false
open Go.RowKit
theorem getD_cut (l : List Int) (k m i : Nat) (h : i < m - k) (hm : m ≤ l.length) : (cutL l k m).getD i 0 = l.getD (k + i) 0 := by
  unfold cutL
  simp [List.getD, List.getElem?_drop, List.getElem?_take]
  rw [if_pos (by omega)]
theorem BsR.cut {w : World} {lo hi n c : Nat} {A : Option Addr} {l : List Int} (h : BsR w lo hi A n l) (k m : Nat) (hk : k ≤ m) (hm : m ≤ n) (hc : n ≤ c) :
    BsR w lo hi (if c = k then A else A.map (·.add k)) (m - k) (cutL l k m) := by
  refine ⟨by unfold cutL; simp [h.1]; omega, (h.2.1.take m).drop k, fun h0 => ?_⟩
  obtain ⟨gb, go', rfl, a1, a2, hc'⟩ := h.2.2 (by omega)
  refine ⟨gb, go' + k, ?_, a1, a2, fun j hj => ?_⟩
  · rw [if_neg (by omega)]
    exact congrArg some (Go.WideShapes.add_plain _ _ _)
  · rw [show go' + k + j = go' + (k + j) by omega, hc' (k + j) (by omega)]
    unfold bsF
    rw [getD_cut l k m j hj (by rw [h.1]; exact hm)]
theorem OwC.setLow {w : World} {base n c g o : Nat} {A : Option Addr} {l : List Cl} {hs : List Hc} (h : OwC w base A n c l hs) (hg : g < base) (v : Value) : OwC (w.setCell ⟨g, o, none⟩ v) base A n c l hs := by
  have hne : ∀ B : Option Addr, (∀ b, ownBlk B = some b → base ≤ b) → (ownBlk B = none ∨ ownBlk B ≠ some g) := fun B hB => by
    cases e : ownBlk B with
    | none => exact .inl rfl
    | some b => right; intro e'; injection e' with e'; have := hB b e; omega
  refine h.kept (grown_set w g o v) (hne _ fun b hb => (h.row.lt b (by rw [ownBlk_eq]; exact hb)).1) fun i hi => ?_
  obtain ⟨a, b, -⟩ := h.el i hi
  exact ⟨hne _ fun g' hg' => (a.lt g' hg').1, hne _ fun g' hg' => (b.lt g' hg').1⟩
def DecPost (r : Option Pg) (w : World) (e : Ending) (w' : World) : Prop :=
  Below w.heap.size w w' ∧ match r with
  | none => e = .returned (.tuple #[.agg #[.int .u8 0, .int .i64 0, .slice none 0 0], .int .i64 3])
  | some p => ∃ A n c hs, e = .returned (.tuple #[.agg #[.int .u8 p.1, .int .i64 p.2.1, .slice A n c], .int .i64 0]) ∧ OwC w' w.heap.size A n c p.2.2 hs
theorem DecPost.no {w w' : World} {r : Option Pg} (hr : r = none) (h : Below w.heap.size w w') : DecPost r w (.returned (.tuple #[.agg #[.int .u8 0, .int .i64 0, .slice none 0 0], .int .i64 3])) w' := by
  subst hr; exact ⟨h, rfl⟩
theorem DecPost.yes {w w' : World} {r : Option Pg} {k next : Int} {l : List Cl} {A : Option Addr} {n c : Nat} {hs : List Hc} (hr : r = some (k, next, l)) (h : Below w.heap.size w w') (ho : OwC w' w.heap.size A n c l hs) : DecPost r w (.returned (.tuple #[.agg #[.int .u8 k, .int .i64 next, .slice A n c], .int .i64 0])) w' := by
  subst hr; exact ⟨h, A, n, c, hs, rfl, ho⟩
set_option maxRecDepth 100000 in
set_option maxHeartbeats 4000000 in
theorem pdec_calls {n c : Nat} {A : Option Addr} {b : List Int} (w : World) (h : BsR w 0 w.heap.size A n b) (hc : n ≤ c) :
    Calls Try.prog 47 #[.slice A n c] w (DecPost (decP b) w) := by
  have hln := h.1
  by_cases hn : n = 504
  · subst hn
    obtain ⟨gb, go', rfl, -, g2, y0⟩ := h.at_ (k := 0) (by omega)
    have hcell : ∀ k, k < 504 → w.cell? ⟨gb, go' + k, none⟩ = some (.int .u8 (b.getD k 0)) := fun k hk => by
      obtain ⟨gb', go'', hA, -, -, y⟩ := h.at_ hk
      injection hA with hA
      injection hA with h1 h2
      subst h1; subst h2
      exact y
    have hcell' := Lib.hid hcell
    replace y0 : w.cell? ⟨gb, go', none⟩ = some (.int .u8 (b.getD 0 0)) := y0
    have y1 := hcell 1 (by omega)
    have y2 := hcell 2 (by omega)
    have y3 := hcell 3 (by omega)
    have y4 := hcell 4 (by omega)
    have r0 := h.2.1.getD 0
    have r1 := h.2.1.getD 1
    have r2 := h.2.1.getD 2
    have r3 := h.2.1.getD 3
    have r4 := h.2.1.getD 4
    have hdN := Lib.hid (fun (cnt : Nat) h4 hd => decP_none (b := b) (cnt := cnt) h4 hd)
    have hdO := Lib.hid (fun (cnt at_ : Nat) (k next : Int) (l : List Cl) h4 h0 hx hd hno => decP_no (b := b) (cnt := cnt) (at_ := at_) (k := k) (next := next) (l := l) h4 h0 hx hd hno)
    have hdY := Lib.hid (fun (cnt at_ : Nat) (k next : Int) (l : List Cl) h4 h0 hx hd h1 h2 => decP_yes (b := b) (cnt := cnt) (at_ := at_) (k := k) (next := next) (l := l) hln h4 h0 hx hd h1 h2)
    have e24 := be24 r1.1 r1.2 r2.1 r2.2 r3.1 r3.2
    have hh := Lib.hid h
    have hln' := Lib.hid hln
    have hbyt := Lib.hid h.2.1
    clear h hcell hln
    generalize hx0 : b.getD 0 0 = x0 at *
    generalize hx1 : b.getD 1 0 = x1 at *
    generalize hx2 : b.getD 2 0 = x2 at *
    generalize hx3 : b.getD 3 0 = x3 at *
    generalize hx4 : b.getD 4 0 = x4 at *
    obtain ⟨cnt, rfl⟩ := Int.eq_ofNat_of_zero_le r4.1
    replace hdN := Lib.hid (hdN.out cnt rfl)
    replace hdO := Lib.hid (fun at_ l => hdO.out cnt at_ x0 _ l rfl rfl rfl)
    replace hdY := Lib.hid (fun at_ l => hdY.out cnt at_ x0 _ l rfl rfl rfl)
    clear hx0 hx1 hx2 hx3 hx4
    have w1 : IntKind.i64.wrap x1 = x1 := IntWalk.i64_in _ (by omega)
    have w2 : IntKind.i64.wrap x2 = x2 := IntWalk.i64_in _ (by omega)
    have w3 : IntKind.i64.wrap x3 = x3 := IntWalk.i64_in _ (by omega)
    have w4 : IntKind.i64.wrap (x1 * 65536) = x1 * 65536 := IntWalk.i64_in _ (by omega)
    have w5 : IntKind.i64.wrap (x2 * 256) = x2 * 256 := IntWalk.i64_in _ (by omega)
    generalize hnx : x1 * 65536 + x2 * 256 + x3 = nx at *
    have hnx0 : 0 ≤ nx := by omega
    have hnx' := Lib.hid hnx
    clear hnx
    go_enter Try.func47, Try.ntmps47
    go_upto_region 3 with (fail)
    have kR0 := At.new w #[.int .u8 0, .int .i64 0, .slice none 0 0] 54
    have hBa := below_new w (.cells #[.int .u8 0, .int .i64 0, .slice none 0 0] 54)
    have hz : ∀ k x, w.cell? ⟨gb, go' + k, none⟩ = some x → (w.alloc (.cells #[.int .u8 0, .int .i64 0, .slice none 0 0] 54)).cell? ⟨gb, go' + k, none⟩ = some x := fun k x hx => (hBa.cell (p := ⟨gb, go' + k, none⟩) g2).trans hx
    replace y0 := (hBa.cell (p := ⟨gb, go', none⟩) g2).trans y0
    replace y1 := hz _ _ y1
    replace y2 := hz _ _ y2
    replace y3 := hz _ _ y3
    replace y4 := hz _ _ y4
    generalize (w.alloc (.cells #[.int .u8 0, .int .i64 0, .slice none 0 0] 54)) = wa at *
    go_region_held3 (fun w' => w'.cell? ⟨gb, go', none⟩ = some (.int .u8 x0) ∧ w'.cell? ⟨gb, go' + 1, none⟩ = some (.int .u8 x1) ∧ w'.cell? ⟨gb, go' + 2, none⟩ = some (.int .u8 x2) ∧ w'.cell? ⟨gb, go' + 3, none⟩ = some (.int .u8 x3)) (go_keep) (fail)
    clear w1 w2 w3 w4 w5 e24 y0 y1 y2 y3 hz
    have kD0 := (At.new wa #[.int .u8 x0, .int .i64 nx, .slice none 0 0] 54).drew
    have kR1 := (kR0.alloc (.cells #[.int .u8 x0, .int .i64 nx, .slice none 0 0] 54)).drew
    have hBb := below_dr (below_al (O := .cells #[.int .u8 x0, .int .i64 nx, .slice none 0 0] 54) hBa)
    have hRD : w.heap.size ≠ wa.heap.size := fun e => by have := kR0.lt; omega
    have hDs := kD0.lt
    have hRs := kR0.lt
    replace y4 : (wa.alloc (.cells #[.int .u8 x0, .int .i64 nx, .slice none 0 0] 54)).drew.cell? ⟨gb, go' + 4, none⟩ = some (.int .u8 (cnt : Int)) := by
      rw [← y4]
      exact (below_dr (below_new wa _)).cell (p := ⟨gb, go' + 4, none⟩) (Nat.lt_of_lt_of_le g2 hBa.size)
    generalize (wa.alloc (.cells #[.int .u8 x0, .int .i64 nx, .slice none 0 0] 54)).drew = wb at *
    generalize wa.heap.size = D at *
    have hcn : (cnt : Int) ≤ 255 := r4.2
    have hsz2 : w.heap.size ≤ wb.heap.size := hBb.size
    go_upto_region 6 with (fail)
    go_loopw [5, 37] (fun v5 v37 wr => ∃ (j p : Nat) (A' : Option Addr) (c' : Nat) (hs : List Hc) (l : List Cl), j ≤ cnt ∧ p ≤ 504 ∧ v5 = .int .i64 p ∧ v37 = .int .u8 j ∧ decTo b j = some (p, l) ∧ OwC wr wb.heap.size A' j c' l hs ∧ At wr D #[.int .u8 x0, .int .i64 nx, .slice A' j c'] 54 ∧ At wr w.heap.size #[.int .u8 0, .int .i64 0, .slice none 0 0] 54 ∧ Below w.heap.size w wr ∧ wb.heap.size ≤ wr.heap.size) (fun _ v37 _ => cnt - (intOf v37).toNat)
    case atStart => exact ⟨0, 6, none, 0, [], [], by omega, by omega, rfl, rfl, rfl, OwC.nil _ _, kD0, kR1, hBb, Nat.le_refl _⟩
    case round =>
      clear kD0 kR1 y4 hBb kR0 hBa
      obtain ⟨j, p, A', c', hs, l, hj, hp, rfl, rfl, hde, ho, kD, kR, hB, hsr⟩ := hrel
      by_cases hlt : j < cnt
      · have hj0 : (0 : Int) ≤ j := by omega
        have hj1 : (j : Int) < cnt := by omega
        have hn1 := Lib.hid (decTo_no1 hde)
        have hcw : ∀ k, k < 504 → wr.cell? ⟨gb, go' + k, none⟩ = some (.int .u8 (b.getD k 0)) := fun k hk => (hB.cell (p := ⟨gb, go' + k, none⟩) g2).trans (hcell'.out k hk)
        obtain ⟨q, hq⟩ : ∃ q, q = p + 2 := ⟨_, rfl⟩
        have s1 : IntKind.i64.wrap ((p : Int) + 2) = (q : Int) := by rw [hq]; exact IntWalk.i64_in _ (by omega)
        have hq' := Lib.hid hq
        have hq2 : (q : Int) ≤ 506 := by omega
        have hp2 : (p : Int) + 2 = q := by omega
        have hp2' := Lib.hid hp2
        clear hq hp2
        by_cases h2 : 504 < q
        · have hno := Lib.hid (hn1.out (by rw [hln'.out]; have := hq'.out; omega))
          have hz := hdN.out (decTo_none hno.out (by omega))
          have hz' := Lib.hid hz
          clear hz hno hcw
          have t1 : decide ((504 : Int) < (q : Int)) = true := by simp; omega
          go_upto_region 7 with (fail)
          go_quiet (fail)
          generalize hwq : World.drewN _ _ = wq
          have kRq : At wq w.heap.size #[.int .u8 0, .int .i64 0, .slice none 0 0] 54 := by rw [← hwq]; exact kR.drewN _
          have hBq : Below w.heap.size w wq := by rw [← hwq]; exact below_drewN hB _
          clear hwq
          have kRqc := kRq.c; have kRqf := kRq.f; have kRql := kRq.lt
          go_wp2
          refine bodyPost_ret (v := .tuple #[.agg #[.int .u8 0, .int .i64 0, .slice none 0 0], .int .i64 3]) (by simp [results, Try.results47, go_sem, kRqc]) rfl (DecPost.no hz'.out ?_)
          exact ((hBq.setCell (Nat.le_refl _) _).setCell (Nat.le_refl _) _).setCell (Nat.le_refl _) _
        · obtain ⟨x, hx⟩ : ∃ x : Nat, b.getD p 0 = x := ⟨_, (Int.toNat_of_nonneg (hbyt.out.getD p).1).symm⟩
          obtain ⟨y, hy⟩ : ∃ y : Nat, b.getD (p + 1) 0 = y := ⟨_, (Int.toNat_of_nonneg (hbyt.out.getD (p + 1)).1).symm⟩
          have hx5 := (hbyt.out.getD p).2
          have hy5 := (hbyt.out.getD (p + 1)).2
          rw [hx] at hx5
          rw [hy] at hy5
          obtain ⟨q1, hq1⟩ : ∃ q1, q1 = p + 1 := ⟨_, rfl⟩
          obtain ⟨k, hk⟩ : ∃ k, k = q + x := ⟨_, rfl⟩
          obtain ⟨v, hv⟩ : ∃ v, v = k + y := ⟨_, rfl⟩
          have yx := hcw p (by have := hq'.out; omega)
          have yy := hcw q1 (by have := hq'.out; omega)
          rw [hx] at yx
          rw [hq1, hy, ← hq1] at yy
          have hn2 := Lib.hid (decTo_no2 hde hx hy)
          have hn3 := Lib.hid (decTo_yes hde hx hy)
          have hvv : v = p + 2 + x + y := by have := hq'.out; omega
          have i0 : (0 : Int) ≤ p := by omega
          have i1 : (p : Int) < 504 := by have := hq'.out; omega
          have i2 : (0 : Int) ≤ q1 := by omega
          have i3 : (q1 : Int) < 504 := by have := hq'.out; omega
          have s2 : IntKind.i64.wrap ((q : Int) + x) = (k : Int) := by rw [hk]; exact IntWalk.i64_in _ (by omega)
          have s3 : IntKind.i64.wrap ((k : Int) + y) = (v : Int) := by rw [hv]; exact IntWalk.i64_in _ (by omega)
          have s4 : IntKind.i64.wrap ((p : Int) + 1) = (q1 : Int) := by rw [hq1]; exact IntWalk.i64_in _ (by omega)
          have s5 : IntKind.i64.wrap (x : Int) = x := IntWalk.i64_in _ (by omega)
          have s6 : IntKind.i64.wrap (y : Int) = y := IntWalk.i64_in _ (by omega)
          have t1 : decide ((504 : Int) < (q : Int)) = false := by simp; omega
          have hqk : (q : Int) ≤ k := by omega
          have hkv : (k : Int) ≤ v := by omega
          have hqk' : q ≤ k := by omega
          have hkv' : k ≤ v := by omega
          have hk' := Lib.hid hk
          have hv' := Lib.hid hv
          have hvv' := Lib.hid hvv
          have hx' := Lib.hid hx
          have hy' := Lib.hid hy
          have hq1' := Lib.hid hq1
          clear hcw hk hv hvv hx hy hq1
          by_cases h3 : 504 < v
          · have hno := Lib.hid (hn2.out (by rw [hln'.out]; have := hvv'.out; omega))
            have hz := hdN.out (decTo_none hno.out (by omega))
            have hz' := Lib.hid hz
            clear hz hno
            have t2 : decide ((504 : Int) < (v : Int)) = true := by simp; omega
            go_upto_region 7 with (fail)
            go_quiet (fail)
            generalize hwq : World.drewN _ _ = wq
            have kRq : At wq w.heap.size #[.int .u8 0, .int .i64 0, .slice none 0 0] 54 := by rw [← hwq]; exact kR.drewN _
            have hBq : Below w.heap.size w wq := by rw [← hwq]; exact below_drewN hB _
            clear hwq
            have kRqc := kRq.c; have kRqf := kRq.f; have kRql := kRq.lt
            go_wp2
            refine bodyPost_ret (v := .tuple #[.agg #[.int .u8 0, .int .i64 0, .slice none 0 0], .int .i64 3]) (by simp [results, Try.results47, go_sem, kRqc]) rfl (DecPost.no hz'.out ?_)
            exact ((hBq.setCell (Nat.le_refl _) _).setCell (Nat.le_refl _) _).setCell (Nat.le_refl _) _
          · have t2 : decide ((504 : Int) < (v : Int)) = false := by simp; omega
            go_upto_region 7 with (fail)
            go_quiet (fail)
            generalize hwq : World.drewN _ _ = wq
            have kRq : At wq w.heap.size #[.int .u8 0, .int .i64 0, .slice none 0 0] 54 := by rw [← hwq]; exact kR.drewN _
            have kDq : At wq D #[.int .u8 x0, .int .i64 nx, .slice A' j c'] 54 := by rw [← hwq]; exact kD.drewN _
            have hBq : Below w.heap.size w wq := by rw [← hwq]; exact below_drewN hB _
            have hoq : OwC wq wb.heap.size A' j c' l hs := by rw [← hwq]; exact ⟨ho.row, ho.hl, ho.ll, ho.el, ho.inc⟩
            have hsq : wb.heap.size ≤ wq.heap.size := by rw [← hwq]; exact hsr
            have yxq : wq.cell? ⟨gb, go' + p, none⟩ = some (.int .u8 (x : Int)) := by rw [← hwq]; exact yx
            have yyq : wq.cell? ⟨gb, go' + q1, none⟩ = some (.int .u8 (y : Int)) := by rw [← hwq]; exact yy
            have u1 : (v : Int) ≤ 504 := by omega
            have u2 : (k : Int) ≤ 504 := by omega
            have u3 : (q : Int) ≤ 504 := by omega
            have u4 : (v : Int) ≤ c := by omega
            have u5 : (k : Int) ≤ c := by omega
            clear hwq kR kD hB ho yx yy
            have kDd := kDq.drew
            have kDdc := kDd.c
            have kDdf := kDd.f
            clear kDq
            have hwd : w.heap.size ≤ wq.drew.heap.size := hBq.size
            have hod := hoq.drew
            have hbd := below_dr hBq
            have hkc := Lib.hid (show BsR wq.drew 0 w.heap.size (if c = q then some ⟨gb, go', none⟩ else some ⟨gb, go' + q, none⟩) (k - q) (cutL b q k) from by
              have h1 := (hh.out.cut (c := c) q k hqk' (by omega) hc).below hbd (Nat.le_refl _)
              simpa [Go.WideShapes.add_plain] using h1)
            have hvc := Lib.hid (show BsR wq.drew 0 w.heap.size (if c = k then some ⟨gb, go', none⟩ else some ⟨gb, go' + k, none⟩) (v - k) (cutL b k v) from by
              have h1 := (hh.out.cut (c := c) k v hkv' (by omega) hc).below hbd (Nat.le_refl _)
              simpa [Go.WideShapes.add_plain] using h1)
            have m1 : k - q ≤ 140737488355328 := by omega
            have m2 : v - k ≤ 140737488355328 := by omega
            have e1 : j + 1 ≤ maxLen := by unfold maxLen; omega
            have e2 : (j + 1) * 48 ≤ 140737488355328 := by omega
            have hsqd : wb.heap.size ≤ wq.drew.heap.size := hsq
            have hDne : some D ≠ ownBlk A' := fun e => by have := (hod.row.lt _ (by rw [ownBlk_eq]; exact e.symm)).1; omega
            have hRne : some w.heap.size ≠ ownBlk A' := fun e => by have := (hod.row.lt _ (by rw [ownBlk_eq]; exact e.symm)).1; omega
            have hbl := Lib.hid (fun g hg => (blks_lt hod g hg).2)
            go_upto_region 11 with (fail)
            go_region_law
              (first
                | (refine step_appG cellElt (by rfl) (.tmp 82) (.tmp 95) (by rfl) wb.heap.size j c' A' _ (by rfl) (((hod.later hb5).later hb6).alloc _).row 1 1 (some ⟨w6.heap.size, 0, none⟩) [.slice A5 (k - q) c5, .slice A6 (v - k) c6] (by rfl) (Src.of_at (At.new w6 #[.slice A5 (k - q) c5, .slice A6 (v - k) c6] 35) rfl (two_one _ _ _ _ _ _)) e1 e2 (Nat.le_trans hsqd (Nat.le_trans hb5.size (Nat.le_trans hb6.size (ge_new _ _)))) ?_; intro A7 c7 w7 ho7 hg7 hb7 hat7; have kD7 := At.grown ((At.keep hb6 (At.keep hb5 kDd)).alloc _) hg7 hDne; have kD7c := kD7.c; have kD7f := kD7.f)
                | (go_simp; go_at_call 71; with_reducible refine (clone_big _ wq.drew hkc.out hwd m1).mono ?_; rintro e w5 ⟨A5, c5, rfl, ho5, hb5⟩; have kD5c := (At.keep hb5 kDd).c)
                | (go_simp; go_at_call 71; with_reducible refine (clone_big _ w5 (hvc.out.below hb5 hwd) (Nat.le_trans hwd hb5.size) m2).mono ?_; rintro e w6 ⟨A6, c6, rfl, ho6, hb6⟩; have kD6c := (At.keep hb6 (At.keep hb5 kDd)).c; have kD6a := ((At.keep hb6 (At.keep hb5 kDd)).alloc (.cells #[.slice A5 (k - q) c5, .slice A6 (v - k) c6] 35)).c))
            all_goals
              generalize hw8 : World.setCell w7 _ _ = w8
              have kD8 : At w8 D #[.int .u8 x0, .int .i64 nx, .slice A7 (j + 1) c7] 54 := by rw [← hw8]; exact kD7.set.to rfl
              have kR8 : At w8 w.heap.size #[.int .u8 0, .int .i64 0, .slice none 0 0] 54 := by rw [← hw8]; exact (At.grown ((At.keep hb6 (At.keep hb5 kRq.drew)).alloc _) hg7 hRne).set_ne hRD
              have ho8 : OwC w8 wb.heap.size A7 (j + 1) c7 (l ++ [(cutL b q k, cutL b k v)]) (hs ++ [(⟨A5, k - q, c5⟩, ⟨A6, v - k, c6⟩)]) := by
                rw [← hw8]
                exact (OwC.snoc (((hod.later hb5).later hb6).alloc _) ((ho5.later hb6).alloc _) (ho6.alloc _) hsqd hb5.size hbl.out (fun g hg => (ho5.lt g hg).2) m1 m2 ho7 hg7).setLow hDs _
              have hB8 : Below w.heap.size w w8 := by
                rw [← hw8]
                exact (below_tr (below_al (below_keep hb6 (below_keep hb5 hbd))) (hb7.mono hsz2)).setCell (Nat.le_of_lt hRs) _
              have hs8 : wb.heap.size ≤ w8.heap.size := by
                rw [← hw8]
                have := hg7.size
                have := hb6.size
                have := hb5.size
                simp [World.setCell] at *
                omega
              have hd8 : decTo b (j + 1) = some (v, l ++ [(cutL b q k, cutL b k v)]) := by
                have := hn3.out (by rw [hln'.out, ← hvv'.out]; omega)
                rw [← hvv'.out, ← hq'.out, ← hk'.out] at this
                exact this
              clear hw8 kD7 kD7c kD7f kD6c kD6a kD5c
              go_wp2
              go_roundw
              case rel => exact ⟨j + 1, v, A7, c7, _, _, by omega, by omega, rfl, by go_num, hd8, ho8, kD8, kR8, hB8, hs8⟩
              case measure => simp [intOf]; omega
      · obtain rfl : j = cnt := by omega
        have hln4 := ho.ll
        by_cases hf : PForm x0 nx l
        · by_cases he : pageB x0 nx l = b
          · have hy := Lib.hid (hdY.out p l hde hf he)
            have he' := Lib.hid (show eqB (pageB x0 nx l) b = true from decide_eq_true he)
            have hf' := Lib.hid hf
            clear hf he
            have kDc := kD.c; have kDf := kD.f; have kDl := kD.lt
            go_wp2_with fail
            refine (penc_yes x0 nx c' wr (ho.reads.widen (Nat.zero_le _) (Nat.le_refl _)) r0.1 hf'.out).mono ?_
            rintro e w2 ⟨A2, c2, rfl, ho2, hb2⟩
            have hB2 := below_keep hb2 hB
            go_wp2_with fail
            refine (equal_calls c2 c w2 ho2.reads (hh.out.below hB2 (Nat.le_refl _))).mono ?_
            rintro e w2' ⟨rfl, rfl⟩
            rw [he'.out]
            replace kD := At.keep hb2 kD
            replace kR := At.keep hb2 kR
            have kDc := kD.c; have kDf := kD.f; have kDl := kD.lt
            have kRc := kR.c; have kRf := kR.f; have kRl := kR.lt
            go_wp2
            have hfin := ((ho.later hb2).setLow (o := 0) (Nat.lt_trans hRs hDs) (.int .u8 x0)).setLow (o := 1) (Nat.lt_trans hRs hDs) (.int .i64 nx)
            refine bodyPost_ret (v := .tuple #[.agg #[.int .u8 x0, .int .i64 nx, .slice A' j c'], .int .i64 0]) (by simp [results, Try.results47, go_sem, kRc]) rfl (DecPost.yes hy.out (((hB2.setCell (Nat.le_refl _) _).setCell (Nat.le_refl _) _).setCell (Nat.le_refl _) _) ((hfin.setLow (Nat.lt_trans hRs hDs) _).less hsz2))
          · have hz' := Lib.hid (hdO.out p l hde (fun h => he h.2))
            have he' := Lib.hid (show eqB (pageB x0 nx l) b = false from decide_eq_false he)
            have hf' := Lib.hid hf
            clear hf he
            have kDc := kD.c; have kDf := kD.f; have kDl := kD.lt
            go_wp2_with fail
            refine (penc_yes x0 nx c' wr (ho.reads.widen (Nat.zero_le _) (Nat.le_refl _)) r0.1 hf'.out).mono ?_
            rintro e w2 ⟨A2, c2, rfl, ho2, hb2⟩
            have hB2 := below_keep hb2 hB
            go_wp2_with fail
            refine (equal_calls c2 c w2 ho2.reads (hh.out.below hB2 (Nat.le_refl _))).mono ?_
            rintro e w2' ⟨rfl, rfl⟩
            rw [he'.out]
            replace kR := At.keep hb2 kR
            have kRc := kR.c; have kRf := kR.f; have kRl := kR.lt
            go_wp2
            refine bodyPost_ret (v := .tuple #[.agg #[.int .u8 0, .int .i64 0, .slice none 0 0], .int .i64 3]) (by simp [results, Try.results47, go_sem, kRc]) rfl (DecPost.no hz'.out (((hB2.setCell (Nat.le_refl _) _).setCell (Nat.le_refl _) _).setCell (Nat.le_refl _) _))
        · have hz' := Lib.hid (hdO.out p l hde (fun h => hf h.1))
          have hf' := Lib.hid hf
          clear hf
          have kDc := kD.c; have kDf := kD.f; have kDl := kD.lt
          go_wp2_with fail
          refine (penc_no x0 nx c' wr (ho.reads.widen (Nat.zero_le _) (Nat.le_refl _)) (by omega) hf'.out).mono ?_
          rintro e w2 ⟨rfl, hb2⟩
          have hB2 := below_keep hb2 hB
          replace kR := At.keep hb2 kR
          have kRc := kR.c; have kRf := kR.f; have kRl := kR.lt
          go_wp2
          refine bodyPost_ret (v := .tuple #[.agg #[.int .u8 0, .int .i64 0, .slice none 0 0], .int .i64 3]) (by simp [results, Try.results47, go_sem, kRc]) rfl (DecPost.no hz'.out (((hB2.setCell (Nat.le_refl _) _).setCell (Nat.le_refl _) _).setCell (Nat.le_refl _) _))
  · have hd : decP b = none := by unfold decP; rw [if_neg (by omega)]
    have hd' := Lib.hid hd
    clear hd
    have hn' : ¬ (n : Int) = 504 := by omega
    go_enter Try.func47, Try.ntmps47
    go_wp2
    have k0 := At.new w #[.int .u8 0, .int .i64 0, .slice none 0 0] 54
    have k0c := k0.c; have k0f := k0.f; have k0l := k0.lt
    refine bodyPost_ret (v := .tuple #[.agg #[.int .u8 0, .int .i64 0, .slice none 0 0], .int .i64 3]) (by simp [results, Try.results47, go_sem, k0c]) rfl (DecPost.no hd'.out (below_new _ _))
end Go.Proofs.Ytjgomebnlekddaa
