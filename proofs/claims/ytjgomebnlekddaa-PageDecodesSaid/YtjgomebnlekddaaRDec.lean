/- The reference's Decode by its contract. -/
import Derived.Test.YtjgomebnlekddaaPDec
import Derived.Test.YtjgomebnlekddaaREnc
import Derived.Test.YtjgomebnlekddaaRForm
import Derived.Test.YtjgomebnlekddaaRPut
import Derived.Test.YtjgomebnlekddaaHeld
namespace Go.Proofs.Ytjgomebnlekddaa
set_option linter.unusedVariables false
set_option linter.unusedSimpArgs false
open Go.RowKit
theorem RowR.setLow {w : World} {base hi n c g o : Nat} {A : Option Addr} {l : List Cl} {hs : List Hc} (h : RowR w base hi A n c l hs) (hg : g < base) (hh : hi ≤ g) (v : Value) : RowR (w.setCell ⟨g, o, none⟩ v) base hi A n c l hs := by
  have hb : Below hi w (w.setCell ⟨g, o, none⟩ v) := (Below.refl _ _).setCell hh _
  refine ⟨h.1.kept (grown_set w g o v) ?_, h.2.1, h.2.2.1, fun i hi' => ?_⟩
  · rw [ownBlk_eq]
    cases e : ownBlk A with
    | none => exact .inl rfl
    | some b =>
      right
      intro e'
      injection e' with e'
      have := (h.1.lt b (by rw [ownBlk_eq]; exact e)).1
      omega
  · obtain ⟨a, b, q⟩ := h.2.2.2 i hi'
    exact ⟨a.below hb (Nat.le_refl _), b.below hb (Nat.le_refl _), q⟩
theorem RowR.drew {w : World} {base hi n c : Nat} {A : Option Addr} {l : List Cl} {hs : List Hc} (h : RowR w base hi A n c l hs) : RowR w.drew base hi A n c l hs := h
theorem rform_ok {n : Nat} (k next : Int) (c : Nat) {A : Option Addr} {l : List Cl} (w : World) (h : CsR w 0 w.heap.size A n l) (hn : n ≤ 4096) (hb : PForm k next l) :
    Calls Try.prog 40 #[.agg #[.int .u8 k, .int .i64 next, .slice A n c]] w fun e w' => e = .returned (.bool true) ∧ Below w.heap.size w w' := rform_page k next c true w h hn (iff_of_true rfl hb)
theorem rform_not {n : Nat} (k next : Int) (c : Nat) {A : Option Addr} {l : List Cl} (w : World) (h : CsR w 0 w.heap.size A n l) (hn : n ≤ 4096) (hb : ¬ PForm k next l) :
    Calls Try.prog 40 #[.agg #[.int .u8 k, .int .i64 next, .slice A n c]] w fun e w' => e = .returned (.bool false) ∧ Below w.heap.size w w' := rform_page k next c false w h hn (by simp [hb])
def RDecPost (r : Option Pg) (w : World) (e : Ending) (w' : World) : Prop :=
  Below w.heap.size w w' ∧ match r with
  | none => e = .returned (.tuple #[.agg #[.int .u8 0, .int .i64 0, .slice none 0 0], .bool false])
  | some p => ∃ A n c, e = .returned (.tuple #[.agg #[.int .u8 p.1, .int .i64 p.2.1, .slice A n c], .bool true]) ∧ CsR w' 0 w'.heap.size A n p.2.2
theorem RDecPost.no {w w' : World} {r : Option Pg} (hr : r = none) (h : Below w.heap.size w w') : RDecPost r w (.returned (.tuple #[.agg #[.int .u8 0, .int .i64 0, .slice none 0 0], .bool false])) w' := by
  subst hr; exact ⟨h, rfl⟩
theorem RDecPost.yes {w w' : World} {r : Option Pg} {k next : Int} {l : List Cl} {A : Option Addr} {n c : Nat} (hr : r = some (k, next, l)) (h : Below w.heap.size w w') (ho : CsR w' 0 w'.heap.size A n l) : RDecPost r w (.returned (.tuple #[.agg #[.int .u8 k, .int .i64 next, .slice A n c], .bool true])) w' := by
  subst hr; exact ⟨h, A, n, c, rfl, ho⟩
set_option maxRecDepth 100000 in
set_option maxHeartbeats 4000000 in
theorem rdec_calls {n c : Nat} {A : Option Addr} {b : List Int} (w : World) (h : BsR w 0 w.heap.size A n b) (hc : n ≤ c) :
    Calls Try.prog 49 #[.slice A n c] w (RDecPost (decP b) w) := by
  have hln := h.1
  by_cases hn : n = 504
  · subst hn
    obtain ⟨gb, go', rfl, -, g2, y0⟩ := h.at_ (k := 0) (by omega)
    have hcell : ∀ k, k < 504 → w.cell? ⟨gb, go' + k, none⟩ = some (.int .u8 (b.getD k 0)) := fun k hk => by
      obtain ⟨gb', go'', hA, -, -, y⟩ := h.at_ hk
      injection hA with hA
      injection hA with h1 h2
      subst h1; subst h2
      exact y
    have hcell' := Lib.hid hcell
    replace y0 : w.cell? ⟨gb, go', none⟩ = some (.int .u8 (b.getD 0 0)) := y0
    have y1 := hcell 1 (by omega)
    have y2 := hcell 2 (by omega)
    have y3 := hcell 3 (by omega)
    have y4 := hcell 4 (by omega)
    have r0 := h.2.1.getD 0
    have r1 := h.2.1.getD 1
    have r2 := h.2.1.getD 2
    have r3 := h.2.1.getD 3
    have r4 := h.2.1.getD 4
    have hdN := Lib.hid (fun (cnt : Nat) h4 hd => decP_none (b := b) (cnt := cnt) h4 hd)
    have hdO := Lib.hid (fun (cnt at_ : Nat) (k next : Int) (l : List Cl) h4 h0 hx hd hno => decP_no (b := b) (cnt := cnt) (at_ := at_) (k := k) (next := next) (l := l) h4 h0 hx hd hno)
    have hdY := Lib.hid (fun (cnt at_ : Nat) (k next : Int) (l : List Cl) h4 h0 hx hd h1 h2 => decP_yes (b := b) (cnt := cnt) (at_ := at_) (k := k) (next := next) (l := l) hln h4 h0 hx hd h1 h2)
    have hh := Lib.hid h
    have hln' := Lib.hid hln
    have hbyt := Lib.hid h.2.1
    clear h hcell hln
    generalize hx0 : b.getD 0 0 = x0 at *
    generalize hx1 : b.getD 1 0 = x1 at *
    generalize hx2 : b.getD 2 0 = x2 at *
    generalize hx3 : b.getD 3 0 = x3 at *
    generalize hx4 : b.getD 4 0 = x4 at *
    obtain ⟨cnt, rfl⟩ := Int.eq_ofNat_of_zero_le r4.1
    replace hdN := Lib.hid (hdN.out cnt rfl)
    replace hdO := Lib.hid (fun at_ l => hdO.out cnt at_ x0 _ l rfl rfl rfl)
    replace hdY := Lib.hid (fun at_ l => hdY.out cnt at_ x0 _ l rfl rfl rfl)
    have hx4' := Lib.hid hx4
    clear hx0 hx1 hx2 hx3 hx4
    have w1 : IntKind.i64.wrap x1 = x1 := IntWalk.i64_in _ (by omega)
    have w2 : IntKind.i64.wrap x2 = x2 := IntWalk.i64_in _ (by omega)
    have w3 : IntKind.i64.wrap x3 = x3 := IntWalk.i64_in _ (by omega)
    have w4 : IntKind.i64.wrap (x1 * 65536) = x1 * 65536 := IntWalk.i64_in _ (by omega)
    have w5 : IntKind.i64.wrap (x2 * 256) = x2 * 256 := IntWalk.i64_in _ (by omega)
    obtain ⟨nx, hnx⟩ : ∃ nx, x1 * 65536 + x2 * 256 + x3 = nx := ⟨_, rfl⟩
    rw [hnx] at hdO hdY
    have w6 : IntKind.i64.wrap (x1 * 65536 + x2 * 256) = x1 * 65536 + x2 * 256 := IntWalk.i64_in _ (by omega)
    have w7 : IntKind.i64.wrap (x1 * 65536 + x2 * 256 + x3) = nx := by rw [hnx]; exact IntWalk.i64_in _ (by omega)
    have w8 : IntKind.i64.wrap (cnt : Int) = cnt := IntWalk.i64_in _ (by omega)
    clear hnx
    go_enter Try.func49, Try.ntmps49
    go_upto_region 3 with (fail)
    have kR0 := At.new w #[.int .u8 0, .int .i64 0, .slice none 0 0] 54
    have hBa := below_new w (.cells #[.int .u8 0, .int .i64 0, .slice none 0 0] 54)
    have hz : ∀ k x, w.cell? ⟨gb, go' + k, none⟩ = some x → (w.alloc (.cells #[.int .u8 0, .int .i64 0, .slice none 0 0] 54)).cell? ⟨gb, go' + k, none⟩ = some x := fun k x hx => (hBa.cell (p := ⟨gb, go' + k, none⟩) g2).trans hx
    replace y0 := (hBa.cell (p := ⟨gb, go', none⟩) g2).trans y0
    replace y1 := hz _ _ y1
    replace y2 := hz _ _ y2
    replace y3 := hz _ _ y3
    replace y4 := hz _ _ y4
    generalize (w.alloc (.cells #[.int .u8 0, .int .i64 0, .slice none 0 0] 54)) = wa at *
    go_region_held3 (fun w' => w'.cell? ⟨gb, go', none⟩ = some (.int .u8 x0) ∧ w'.cell? ⟨gb, go' + 1, none⟩ = some (.int .u8 x1) ∧ w'.cell? ⟨gb, go' + 2, none⟩ = some (.int .u8 x2) ∧ w'.cell? ⟨gb, go' + 3, none⟩ = some (.int .u8 x3)) (go_keep) (fail)
    clear w1 w2 w3 w4 w5 w6 w7 y0 y1 y2 y3 hz
    have kD0 := (At.new wa #[.int .u8 x0, .int .i64 nx, .slice none 0 0] 54).drew
    have kR1 := (kR0.alloc (.cells #[.int .u8 x0, .int .i64 nx, .slice none 0 0] 54)).drew
    have hBb := below_dr (below_al (O := .cells #[.int .u8 x0, .int .i64 nx, .slice none 0 0] 54) hBa)
    have hRD : w.heap.size ≠ wa.heap.size := fun e => by have := kR0.lt; omega
    have hDs := kD0.lt
    have hRs := kR0.lt
    replace y4 : (wa.alloc (.cells #[.int .u8 x0, .int .i64 nx, .slice none 0 0] 54)).drew.cell? ⟨gb, go' + 4, none⟩ = some (.int .u8 (cnt : Int)) := by
      rw [← y4]
      exact (below_dr (below_new wa _)).cell (p := ⟨gb, go' + 4, none⟩) (Nat.lt_of_lt_of_le g2 hBa.size)
    generalize (wa.alloc (.cells #[.int .u8 x0, .int .i64 nx, .slice none 0 0] 54)).drew = wb at *
    generalize wa.heap.size = D at *
    have hcn : (cnt : Int) ≤ 255 := r4.2
    have hsz2 : w.heap.size ≤ wb.heap.size := hBb.size
    go_upto_region 6 with (fail)
    go_loopw [5, 6] (fun v5 v6 wr => ∃ (j p : Nat) (A' : Option Addr) (c' : Nat) (hs : List Hc) (l : List Cl), j ≤ cnt ∧ p ≤ 504 ∧ v5 = .int .i64 p ∧ v6 = .int .i64 j ∧ decTo b j = some (p, l) ∧ RowR wr wb.heap.size w.heap.size A' j c' l hs ∧ At wr D #[.int .u8 x0, .int .i64 nx, .slice A' j c'] 54 ∧ At wr w.heap.size #[.int .u8 0, .int .i64 0, .slice none 0 0] 54 ∧ Below w.heap.size w wr ∧ wb.heap.size ≤ wr.heap.size) (fun _ v6 _ => cnt - (intOf v6).toNat)
    case atStart => exact ⟨0, 6, none, 0, [], [], by omega, by omega, rfl, rfl, rfl, RowR.nil _ _ _, kD0, kR1, hBb, Nat.le_refl _⟩
    case round =>
      clear kD0 kR1 y4 hBb kR0 hBa
      obtain ⟨j, p, A', c', hs, l, hj, hp, rfl, rfl, hde, ho, kD, kR, hB, hsr⟩ := hrel
      have yc : wr.cell? ⟨gb, go' + 4, none⟩ = some (.int .u8 (cnt : Int)) := by
        rw [← hx4'.out]
        exact (hB.cell (p := ⟨gb, go' + 4, none⟩) g2).trans (hcell'.out 4 (by omega))
      by_cases hlt : j < cnt
      · have hj0 : (0 : Int) ≤ j := by omega
        have hj1 : (j : Int) < cnt := by omega
        have hn1 := Lib.hid (decTo_no1 hde)
        have hcw : ∀ k, k < 504 → wr.cell? ⟨gb, go' + k, none⟩ = some (.int .u8 (b.getD k 0)) := fun k hk => (hB.cell (p := ⟨gb, go' + k, none⟩) g2).trans (hcell'.out k hk)
        obtain ⟨q, hq⟩ : ∃ q, q = p + 2 := ⟨_, rfl⟩
        have s1 : IntKind.i64.wrap ((p : Int) + 2) = (q : Int) := by rw [hq]; exact IntWalk.i64_in _ (by omega)
        have hq' := Lib.hid hq
        have hq2 : (q : Int) ≤ 506 := by omega
        have hp2 : (p : Int) + 2 = q := by omega
        have hp2' := Lib.hid hp2
        clear hq hp2
        have kRc := kR.c; have kRf := kR.f; have kRl := kR.lt
        by_cases h2 : 504 < q
        · have hno := Lib.hid (hn1.out (by rw [hln'.out]; have := hq'.out; omega))
          have hz := hdN.out (decTo_none hno.out (by omega))
          have hz' := Lib.hid hz
          have t1 : (504 : Int) < q := by omega
          clear hz hno hcw
          go_wp2
          refine bodyPost_ret (v := .tuple #[.agg #[.int .u8 0, .int .i64 0, .slice none 0 0], .bool false]) (by simp [results, Try.results49, go_sem, kRc]) rfl (RDecPost.no hz'.out ?_)
          exact ((hB.setCell (Nat.le_refl _) _).setCell (Nat.le_refl _) _).setCell (Nat.le_refl _) _
        · obtain ⟨x, hx⟩ : ∃ x : Nat, b.getD p 0 = x := ⟨_, (Int.toNat_of_nonneg (hbyt.out.getD p).1).symm⟩
          obtain ⟨y, hy⟩ : ∃ y : Nat, b.getD (p + 1) 0 = y := ⟨_, (Int.toNat_of_nonneg (hbyt.out.getD (p + 1)).1).symm⟩
          have hx5 := (hbyt.out.getD p).2
          have hy5 := (hbyt.out.getD (p + 1)).2
          rw [hx] at hx5
          rw [hy] at hy5
          obtain ⟨q1, hq1⟩ : ∃ q1, q1 = p + 1 := ⟨_, rfl⟩
          obtain ⟨k, hk⟩ : ∃ k, k = q + x := ⟨_, rfl⟩
          obtain ⟨v, hv⟩ : ∃ v, v = k + y := ⟨_, rfl⟩
          have yx := hcw p (by have := hq'.out; omega)
          have yy := hcw q1 (by have := hq'.out; omega)
          rw [hx] at yx
          rw [hq1, hy, ← hq1] at yy
          have hn2 := Lib.hid (decTo_no2 hde hx hy)
          have hn3 := Lib.hid (decTo_yes hde hx hy)
          have hvv : v = p + 2 + x + y := by have := hq'.out; omega
          have i0 : (0 : Int) ≤ p := by omega
          have i1 : (p : Int) < 504 := by have := hq'.out; omega
          have i2 : (0 : Int) ≤ q1 := by omega
          have i3 : (q1 : Int) < 504 := by have := hq'.out; omega
          have s2 : IntKind.i64.wrap ((q : Int) + x) = (k : Int) := by rw [hk]; exact IntWalk.i64_in _ (by omega)
          have s3 : IntKind.i64.wrap ((k : Int) + y) = (v : Int) := by rw [hv]; exact IntWalk.i64_in _ (by omega)
          have s4 : IntKind.i64.wrap ((p : Int) + 1) = (q1 : Int) := by rw [hq1]; exact IntWalk.i64_in _ (by omega)
          have s5 : IntKind.i64.wrap (x : Int) = x := IntWalk.i64_in _ (by omega)
          have s6 : IntKind.i64.wrap (y : Int) = y := IntWalk.i64_in _ (by omega)
          have t1 : (q : Int) ≤ 504 := by omega
          have hqk : (q : Int) ≤ k := by omega
          have hkv : (k : Int) ≤ v := by omega
          have hqk' : q ≤ k := by omega
          have hkv' : k ≤ v := by omega
          have hk' := Lib.hid hk
          have hv' := Lib.hid hv
          have hvv' := Lib.hid hvv
          have hx' := Lib.hid hx
          have hy' := Lib.hid hy
          have hq1' := Lib.hid hq1
          clear hcw hk hv hvv hx hy hq1
          by_cases h3 : 504 < v
          · have hno := Lib.hid (hn2.out (by rw [hln'.out]; have := hvv'.out; omega))
            have hz := hdN.out (decTo_none hno.out (by omega))
            have hz' := Lib.hid hz
            have t2 : (504 : Int) < v := by omega
            clear hz hno
            go_wp2
            refine bodyPost_ret (v := .tuple #[.agg #[.int .u8 0, .int .i64 0, .slice none 0 0], .bool false]) (by simp [results, Try.results49, go_sem, kRc]) rfl (RDecPost.no hz'.out ?_)
            exact ((hB.setCell (Nat.le_refl _) _).setCell (Nat.le_refl _) _).setCell (Nat.le_refl _) _
          · have u1 : (v : Int) ≤ 504 := by omega
            have u2 : (k : Int) ≤ 504 := by omega
            have u4 : (v : Int) ≤ c := by omega
            have u5 : (k : Int) ≤ c := by omega
            go_upto_region 14 with (fail)
            have kDd := kD.drew
            have kDdc := kDd.c
            have kDdf := kDd.f
            have hwd : w.heap.size ≤ wr.drew.heap.size := hB.size
            have hod := ho.drew
            have hbd := below_dr hB
            have hkc := Lib.hid (show BsR wr.drew 0 w.heap.size (if c = q then some ⟨gb, go', none⟩ else some ⟨gb, go' + q, none⟩) (k - q) (cutL b q k) from by
              have h1 := (hh.out.cut (c := c) q k hqk' (by omega) hc).below hbd (Nat.le_refl _)
              simpa [Go.WideShapes.add_plain] using h1)
            have hvc := Lib.hid (show BsR wr.drew 0 w.heap.size (if c = k then some ⟨gb, go', none⟩ else some ⟨gb, go' + k, none⟩) (v - k) (cutL b k v) from by
              have h1 := (hh.out.cut (c := c) k v hkv' (by omega) hc).below hbd (Nat.le_refl _)
              simpa [Go.WideShapes.add_plain] using h1)
            have m1 : k - q ≤ 140737488355328 := by omega
            have m2 : v - k ≤ 140737488355328 := by omega
            have e1 : j + 1 ≤ maxLen := by unfold maxLen; omega
            have e2 : (j + 1) * 48 ≤ 140737488355328 := by omega
            have hsqd : wb.heap.size ≤ wr.drew.heap.size := hsr
            have hDne : some D ≠ ownBlk A' := fun e => by have := (hod.1.lt _ (by rw [ownBlk_eq]; exact e.symm)).1; omega
            have hRne : some w.heap.size ≠ ownBlk A' := fun e => by have := (hod.1.lt _ (by rw [ownBlk_eq]; exact e.symm)).1; omega
            have kDa := (kD.alloc (.cells #[.slice (if c = q then some ⟨gb, go', none⟩ else some ⟨gb, go' + q, none⟩) (k - q) (c - q), .slice (if c = k then some ⟨gb, go', none⟩ else some ⟨gb, go' + k, none⟩) (v - k) (c - k)] 35)).c
            go_region_law
              (first
                | (refine step_appG cellElt (by rfl) (.tmp 65) (.tmp 76) (by rfl) wb.heap.size j c' A' _ (by rfl) (hod.later (below_new wr.drew _) hwd).1 1 1 (some ⟨wr.heap.size, 0, none⟩) [.slice (if c = q then some ⟨gb, go', none⟩ else some ⟨gb, go' + q, none⟩) (k - q) (c - q), .slice (if c = k then some ⟨gb, go', none⟩ else some ⟨gb, go' + k, none⟩) (v - k) (c - k)] (by rfl) (Src.of_at (At.new wr.drew #[.slice (if c = q then some ⟨gb, go', none⟩ else some ⟨gb, go' + q, none⟩) (k - q) (c - q), .slice (if c = k then some ⟨gb, go', none⟩ else some ⟨gb, go' + k, none⟩) (v - k) (c - k)] 35) rfl (two_one _ _ _ _ _ _)) e1 e2 (Nat.le_trans hsqd (ge_new _ _)) ?_; intro A7 c7 w7 ho7 hg7 hb7 hat7; have kD7 := At.grown (kDd.alloc _) hg7 hDne; have kD7c := kD7.c; have kD7f := kD7.f))
            all_goals
              generalize hw8 : World.setCell w7 _ _ = w8
              have kD8 : At w8 D #[.int .u8 x0, .int .i64 nx, .slice A7 (j + 1) c7] 54 := by rw [← hw8]; exact kD7.set.to rfl
              have kR8 : At w8 w.heap.size #[.int .u8 0, .int .i64 0, .slice none 0 0] 54 := by rw [← hw8]; exact (At.grown (kR.drew.alloc _) hg7 hRne).set_ne hRD
              have hbw : ∀ O, Below w.heap.size w (wr.drew.alloc O) := fun O => below_al hbd
              obtain ⟨hs8, ho8⟩ : ∃ hs8, RowR w8 wb.heap.size w.heap.size A7 (j + 1) c7 (l ++ [(cutL b q k, cutL b k v)]) hs8 := by
                rw [← hw8]
                exact ⟨_, (RowR.snoc (c - q) (c - k) (hod.later (below_new wr.drew _) hwd) (hkc.out.below (below_new wr.drew _) hwd) (hvc.out.below (below_new wr.drew _) hwd) m1 m2 hsz2 ho7 hb7).setLow hDs (Nat.le_of_lt hRs) _⟩
              have hB8 : Below w.heap.size w w8 := by
                rw [← hw8]
                exact (below_tr (hbw _) (hb7.mono hsz2)).setCell (Nat.le_of_lt hRs) _
              have hs8 : wb.heap.size ≤ w8.heap.size := by
                rw [← hw8]
                have := hg7.size
                simp [World.setCell] at *
                omega
              have hd8 : decTo b (j + 1) = some (v, l ++ [(cutL b q k, cutL b k v)]) := by
                have := hn3.out (by rw [hln'.out, ← hvv'.out]; omega)
                rw [← hvv'.out, ← hq'.out, ← hk'.out] at this
                exact this
              clear hw8 kD7 kD7c kD7f kDa kDdc
              go_wp2
              go_roundw
              case rel => exact ⟨j + 1, v, A7, c7, _, _, by omega, by omega, rfl, by go_num, hd8, ho8, kD8, kR8, hB8, hs8⟩
              case measure => simp [intOf]; omega
      · obtain rfl : j = cnt := by omega
        have hj4 : j ≤ 4096 := by omega
        have hwr : w.heap.size ≤ wr.drew.heap.size := hB.size
        have hcs := Lib.hid (show CsR wr.drew 0 wr.drew.heap.size A' j l from (ho.reads hB.size).drew)
        have hby := fun h1 h2 => pageB_byt (k := x0) (next := nx) (l := l) hcs.out.byt h1 h2
        have hrb := fun (w' : World) (hb : Below wr.heap.size wr w') => run_str c w' (hh.out.below (below_keep hb hB) (Nat.le_refl _))
        have hS : ∀ w', Below wr.heap.size wr w' → (∀ o, w'.cell? ⟨D, o, none⟩ = #[.int .u8 x0, .int .i64 nx, .slice A' j c'][o]?) ∧ (convert 23 9 (.slice (some ⟨gb, go', none⟩) 504 c)).run Try.prog w' = .ok (.string (strL b)) w' := fun w' hb => ⟨(At.keep hb kD).c, hrb w' hb⟩
        have c0 : Below wr.heap.size wr wr.drew := below_dr (Below.refl _ _)
        by_cases hf : PForm x0 nx l
        · have hf' := Lib.hid hf
          clear hrb
          by_cases he : pageB x0 nx l = b
          · have hy := Lib.hid (hdY.out p l hde hf he)
            have e3 : ((strL (pageB x0 nx l)).toList == (strL b).toList) = true := by rw [he]; simp
            clear hf he
            go_upto_region 16 with (fail)
            refine wp_region_held_drew (S := fun w' => (∀ o, w'.cell? ⟨D, o, none⟩ = #[.int .u8 x0, .int .i64 nx, .slice A' j c'][o]?) ∧ (convert 23 9 (.slice (some ⟨gb, go', none⟩) 504 c)).run Try.prog w' = .ok (.string (strL b)) w') (by kernel_rfl) (hS _ c0) (fun hHeld => ?_)
            (refine wpAnyH_takeL (i := 0) (v := ?_) rfl (by kernel_rfl) (by kernel_rfl) (by kernel_rfl) (fun _ _ _ h => h) (by rfl) hHeld ?_ ?_; rotate_left; (intro w hSw; (try dsimp only at hSw); go_simp; try with_reducible rfl); (try simp only [Act.put, List.setIfInBounds_toArray, List.set_cons_zero, List.set_cons_succ]))
            (refine wpAnyH_callL (i := 1) rfl (by kernel_rfl) (by rfl) (fun K hK => ?_); go_simp)
            go_at_call 40
            refine (rform_ok x0 nx c' wr.drew hcs.out hj4 hf'.out).mono ?_
            rintro e w3 ⟨rfl, hb3⟩
            have c3 := below_keep hb3 c0
            clear hHeld
            refine hK.out _ _ (hS _ c3) (fun hHeld => ?_)
            (clear hK K; (try simp only [Act.put, List.setIfInBounds_toArray, List.set_cons_zero, List.set_cons_succ]))
            (refine wpAnyH_takeL (i := 2) (v := ?_) rfl (by kernel_rfl) (by kernel_rfl) (by kernel_rfl) (fun _ _ _ h => h) (by rfl) hHeld ?_ ?_; rotate_left; (intro w hSw; (try dsimp only at hSw); go_simp; try with_reducible rfl); (try simp only [Act.put, List.setIfInBounds_toArray, List.set_cons_zero, List.set_cons_succ]))
            (refine wpAnyH_takeL (i := 3) (v := ?_) rfl (by kernel_rfl) (by kernel_rfl) (by kernel_rfl) (fun _ _ _ h => h) (by rfl) hHeld ?_ ?_; rotate_left; (intro w hSw; (try dsimp only at hSw); go_simp; try with_reducible rfl); (try simp only [Act.put, List.setIfInBounds_toArray, List.set_cons_zero, List.set_cons_succ]))
            (refine wpAnyH_takeL (i := 4) (v := ?_) rfl (by kernel_rfl) (by kernel_rfl) (by kernel_rfl) (fun _ _ _ h => h) (by rfl) hHeld ?_ ?_; rotate_left; (intro w hSw; (try dsimp only at hSw); go_simp; try with_reducible rfl); (try simp only [Act.put, List.setIfInBounds_toArray, List.set_cons_zero, List.set_cons_succ]))
            (refine wpAnyH_takeL (i := 7) (v := ?_) rfl (by kernel_rfl) (by kernel_rfl) (by kernel_rfl) (fun _ _ _ h => h) (by rfl) hHeld ?_ ?_; rotate_left; (intro w hSw; (try dsimp only at hSw); go_simp; try with_reducible rfl); (try simp only [Act.put, List.setIfInBounds_toArray, List.set_cons_zero, List.set_cons_succ]))
            (refine wpAnyH_takeL (i := 8) (v := ?_) rfl (by kernel_rfl) (by kernel_rfl) (by kernel_rfl) (fun _ _ _ h => h) (by rfl) hHeld ?_ ?_; rotate_left; (intro w hSw; (try dsimp only at hSw); go_simp; try with_reducible rfl); (try simp only [Act.put, List.setIfInBounds_toArray, List.set_cons_zero, List.set_cons_succ]))
            (refine wpAnyH_callL (i := 5) rfl (by kernel_rfl) (by rfl) (fun K hK => ?_); go_simp)
            go_at_call 48
            refine (renc_yes x0 nx c' w3 (hcs.out.later hb3) r0.1 hf'.out).mono ?_
            rintro e w4 ⟨A4, c4', rfl, ho4, hb4⟩
            have c4 := below_keep hb4 c3
            have f4 := hS _ c4
            clear hHeld
            refine hK.out _ _ f4 (fun hHeld => ?_)
            (clear hK K; (try simp only [Act.put, List.setIfInBounds_toArray, List.set_cons_zero, List.set_cons_succ]))
            refine wpAnyH_mono (S' := fun w' => (∀ o, w'.cell? ⟨D, o, none⟩ = #[.int .u8 x0, .int .i64 nx, .slice A' j c'][o]?) ∧ (convert 23 9 (.slice (some ⟨gb, go', none⟩) 504 c)).run Try.prog w' = .ok (.string (strL b)) w' ∧ (convert 23 9 (.slice A4 504 c4')).run Try.prog w' = .ok (.string (strL (pageB x0 nx l))) w') (fun w' h => ⟨h.1, h.2.1⟩) _ _ _ _ ?_
            replace hHeld := And.intro f4.1 (And.intro f4.2 (run_str c4' w4 ho4.reads))
            (refine wpAnyH_takeL (i := 6) (v := ?_) rfl (by kernel_rfl) (by kernel_rfl) (by kernel_rfl) (fun _ _ _ h => h) (by rfl) hHeld ?_ ?_; rotate_left; (intro w hSw; (try dsimp only at hSw); go_simp; try with_reducible rfl); (try simp only [Act.put, List.setIfInBounds_toArray, List.set_cons_zero, List.set_cons_succ]))
            (refine wpAnyH_takeL (i := 9) (v := ?_) rfl (by kernel_rfl) (by kernel_rfl) (by kernel_rfl) (fun _ _ _ h => h) (by rfl) hHeld ?_ ?_; rotate_left; (intro w hSw; (try dsimp only at hSw); go_simp; try with_reducible rfl); (try simp only [Act.put, List.setIfInBounds_toArray, List.set_cons_zero, List.set_cons_succ]))
            (refine wpAnyH_takeL (i := 10) (v := ?_) rfl (by kernel_rfl) (by kernel_rfl) (by kernel_rfl) (fun _ _ _ h => h) (by rfl) hHeld ?_ ?_; rotate_left; (intro w hSw; (try dsimp only at hSw); go_simp; try with_reducible rfl); (try simp only [Act.put, List.setIfInBounds_toArray, List.set_cons_zero, List.set_cons_succ]))
            (refine wpAnyH_done (by kernel_rfl) ?_ _)
            have hB4 := below_keep c4 hB
            have kR4 := At.keep c4 kR
            have kD4 := At.keep c4 kD
            clear f4 hHeld
            have kR4c := kR4.c; have kR4f := kR4.f; have kR4l := kR4.lt
            have kD4c := kD4.c
            go_wp2
            refine bodyPost_ret (v := .tuple #[.agg #[.int .u8 x0, .int .i64 nx, .slice A' j c'], .bool true]) (by simp [results, Try.results49, go_sem, kR4c]) rfl (RDecPost.yes hy.out (((hB4.setCell (Nat.le_refl _) _).setCell (Nat.le_refl _) _).setCell (Nat.le_refl _) _) ?_)
            have hfin := ((ho.later c4 hB.size).setLow (o := 0) (Nat.lt_trans hRs hDs) (Nat.le_refl _) (.int .u8 x0)).setLow (o := 1) (Nat.lt_trans hRs hDs) (Nat.le_refl _) (.int .i64 nx)
            refine (hfin.setLow (o := 2) (Nat.lt_trans hRs hDs) (Nat.le_refl _) (.slice A' j c')).reads ?_
            simp [World.setCell]
            exact hB4.size
          · have hz' := Lib.hid (hdO.out p l hde (fun h => he h.2))
            have e3 : ((strL (pageB x0 nx l)).toList == (strL b).toList) = false := by
              rw [str_eq (hby hf'.out r0.1) hbyt.out]; exact decide_eq_false he
            clear hf he
            go_upto_region 16 with (fail)
            refine wp_region_held_drew (S := fun w' => (∀ o, w'.cell? ⟨D, o, none⟩ = #[.int .u8 x0, .int .i64 nx, .slice A' j c'][o]?) ∧ (convert 23 9 (.slice (some ⟨gb, go', none⟩) 504 c)).run Try.prog w' = .ok (.string (strL b)) w') (by kernel_rfl) (hS _ c0) (fun hHeld => ?_)
            (refine wpAnyH_takeL (i := 0) (v := ?_) rfl (by kernel_rfl) (by kernel_rfl) (by kernel_rfl) (fun _ _ _ h => h) (by rfl) hHeld ?_ ?_; rotate_left; (intro w hSw; (try dsimp only at hSw); go_simp; try with_reducible rfl); (try simp only [Act.put, List.setIfInBounds_toArray, List.set_cons_zero, List.set_cons_succ]))
            (refine wpAnyH_callL (i := 1) rfl (by kernel_rfl) (by rfl) (fun K hK => ?_); go_simp)
            go_at_call 40
            refine (rform_ok x0 nx c' wr.drew hcs.out hj4 hf'.out).mono ?_
            rintro e w3 ⟨rfl, hb3⟩
            have c3 := below_keep hb3 c0
            clear hHeld
            refine hK.out _ _ (hS _ c3) (fun hHeld => ?_)
            (clear hK K; (try simp only [Act.put, List.setIfInBounds_toArray, List.set_cons_zero, List.set_cons_succ]))
            (refine wpAnyH_takeL (i := 2) (v := ?_) rfl (by kernel_rfl) (by kernel_rfl) (by kernel_rfl) (fun _ _ _ h => h) (by rfl) hHeld ?_ ?_; rotate_left; (intro w hSw; (try dsimp only at hSw); go_simp; try with_reducible rfl); (try simp only [Act.put, List.setIfInBounds_toArray, List.set_cons_zero, List.set_cons_succ]))
            (refine wpAnyH_takeL (i := 3) (v := ?_) rfl (by kernel_rfl) (by kernel_rfl) (by kernel_rfl) (fun _ _ _ h => h) (by rfl) hHeld ?_ ?_; rotate_left; (intro w hSw; (try dsimp only at hSw); go_simp; try with_reducible rfl); (try simp only [Act.put, List.setIfInBounds_toArray, List.set_cons_zero, List.set_cons_succ]))
            (refine wpAnyH_takeL (i := 4) (v := ?_) rfl (by kernel_rfl) (by kernel_rfl) (by kernel_rfl) (fun _ _ _ h => h) (by rfl) hHeld ?_ ?_; rotate_left; (intro w hSw; (try dsimp only at hSw); go_simp; try with_reducible rfl); (try simp only [Act.put, List.setIfInBounds_toArray, List.set_cons_zero, List.set_cons_succ]))
            (refine wpAnyH_takeL (i := 7) (v := ?_) rfl (by kernel_rfl) (by kernel_rfl) (by kernel_rfl) (fun _ _ _ h => h) (by rfl) hHeld ?_ ?_; rotate_left; (intro w hSw; (try dsimp only at hSw); go_simp; try with_reducible rfl); (try simp only [Act.put, List.setIfInBounds_toArray, List.set_cons_zero, List.set_cons_succ]))
            (refine wpAnyH_takeL (i := 8) (v := ?_) rfl (by kernel_rfl) (by kernel_rfl) (by kernel_rfl) (fun _ _ _ h => h) (by rfl) hHeld ?_ ?_; rotate_left; (intro w hSw; (try dsimp only at hSw); go_simp; try with_reducible rfl); (try simp only [Act.put, List.setIfInBounds_toArray, List.set_cons_zero, List.set_cons_succ]))
            (refine wpAnyH_callL (i := 5) rfl (by kernel_rfl) (by rfl) (fun K hK => ?_); go_simp)
            go_at_call 48
            refine (renc_yes x0 nx c' w3 (hcs.out.later hb3) r0.1 hf'.out).mono ?_
            rintro e w4 ⟨A4, c4', rfl, ho4, hb4⟩
            have c4 := below_keep hb4 c3
            have f4 := hS _ c4
            clear hHeld
            refine hK.out _ _ f4 (fun hHeld => ?_)
            (clear hK K; (try simp only [Act.put, List.setIfInBounds_toArray, List.set_cons_zero, List.set_cons_succ]))
            refine wpAnyH_mono (S' := fun w' => (∀ o, w'.cell? ⟨D, o, none⟩ = #[.int .u8 x0, .int .i64 nx, .slice A' j c'][o]?) ∧ (convert 23 9 (.slice (some ⟨gb, go', none⟩) 504 c)).run Try.prog w' = .ok (.string (strL b)) w' ∧ (convert 23 9 (.slice A4 504 c4')).run Try.prog w' = .ok (.string (strL (pageB x0 nx l))) w') (fun w' h => ⟨h.1, h.2.1⟩) _ _ _ _ ?_
            replace hHeld := And.intro f4.1 (And.intro f4.2 (run_str c4' w4 ho4.reads))
            (refine wpAnyH_takeL (i := 6) (v := ?_) rfl (by kernel_rfl) (by kernel_rfl) (by kernel_rfl) (fun _ _ _ h => h) (by rfl) hHeld ?_ ?_; rotate_left; (intro w hSw; (try dsimp only at hSw); go_simp; try with_reducible rfl); (try simp only [Act.put, List.setIfInBounds_toArray, List.set_cons_zero, List.set_cons_succ]))
            (refine wpAnyH_takeL (i := 9) (v := ?_) rfl (by kernel_rfl) (by kernel_rfl) (by kernel_rfl) (fun _ _ _ h => h) (by rfl) hHeld ?_ ?_; rotate_left; (intro w hSw; (try dsimp only at hSw); go_simp; try with_reducible rfl); (try simp only [Act.put, List.setIfInBounds_toArray, List.set_cons_zero, List.set_cons_succ]))
            (refine wpAnyH_takeL (i := 10) (v := ?_) rfl (by kernel_rfl) (by kernel_rfl) (by kernel_rfl) (fun _ _ _ h => h) (by rfl) hHeld ?_ ?_; rotate_left; (intro w hSw; (try dsimp only at hSw); go_simp; try with_reducible rfl); (try simp only [Act.put, List.setIfInBounds_toArray, List.set_cons_zero, List.set_cons_succ]))
            (refine wpAnyH_done (by kernel_rfl) ?_ _)
            have hB4 := below_keep c4 hB
            have kR4 := At.keep c4 kR
            have kD4 := At.keep c4 kD
            clear f4 hHeld
            have kR4c := kR4.c; have kR4f := kR4.f; have kR4l := kR4.lt
            go_wp2
            refine bodyPost_ret (v := .tuple #[.agg #[.int .u8 0, .int .i64 0, .slice none 0 0], .bool false]) (by simp [results, Try.results49, go_sem, kR4c]) rfl (RDecPost.no hz'.out ?_)
            exact ((hB4.setCell (Nat.le_refl _) _).setCell (Nat.le_refl _) _).setCell (Nat.le_refl _) _
        · have hz' := Lib.hid (hdO.out p l hde (fun h => hf h.1))
          have hf' := Lib.hid hf
          clear hf hrb
          go_upto_region 16 with (fail)
          first
            | go_region_with (go_at_call 40; refine (rform_not x0 nx c' wr.drew hcs.out hj4 hf'.out).mono ?_; rintro e w3 ⟨rfl, hb3⟩; have c3 := below_keep hb3 c0; have kD3 := hS _ c3)
            | fail
          all_goals
            have hB4 := below_keep c3 hB
            have kR4 := At.keep c3 kR
            have kR4c := kR4.c; have kR4f := kR4.f; have kR4l := kR4.lt
            go_wp2
            refine bodyPost_ret (v := .tuple #[.agg #[.int .u8 0, .int .i64 0, .slice none 0 0], .bool false]) (by simp [results, Try.results49, go_sem, kR4c]) rfl (RDecPost.no hz'.out ?_)
            exact ((hB4.setCell (Nat.le_refl _) _).setCell (Nat.le_refl _) _).setCell (Nat.le_refl _) _
  · have hd : decP b = none := by unfold decP; rw [if_neg (by omega)]
    have hd' := Lib.hid hd
    clear hd
    have hn' : ¬ (n : Int) = 504 := by omega
    go_enter Try.func49, Try.ntmps49
    go_wp2
    have k0 := At.new w #[.int .u8 0, .int .i64 0, .slice none 0 0] 54
    have k0c := k0.c; have k0f := k0.f; have k0l := k0.lt
    refine bodyPost_ret (v := .tuple #[.agg #[.int .u8 0, .int .i64 0, .slice none 0 0], .bool false]) (by simp [results, Try.results49, go_sem, k0c]) rfl (RDecPost.no hd'.out (below_new _ _))
end Go.Proofs.Ytjgomebnlekddaa
