/- The reference's Decode of a record by its contract, by kind. -/
import Derived.Test.YtjgomebnlekddaaRfAt
import Derived.Test.YtjgomebnlekddaaRfEnc6
import Derived.Test.YtjgomebnlekddaaRdDec6
namespace Go.Proofs.Ytjgomebnlekddaa
set_option linter.unusedVariables false
set_option linter.unusedSimpArgs false
open Go.RowKit
/-- A record that reads as R. -/
def RecRd (w : World) (R : Rc) (v : Value) : Prop :=
  ∃ (bA aA dA : Option Addr) (bC aC dC : Nat), v = .agg #[.int .u8 R.k, .int .u64 R.tx, .int .u64 R.prev, .int .i64 R.page, .int .i64 R.off, .slice bA R.bl.length bC, .slice aA R.al.length aC, .int .u64 R.next, .slice dA R.dl.length dC, .bool R.opn] ∧
    BsR w 0 w.heap.size bA R.bl.length R.bl ∧ BsR w 0 w.heap.size aA R.al.length R.al ∧ PrR w 0 w.heap.size dA R.dl.length R.dl
def DecPostC (res : Rc × Int) (w : World) (e : Ending) (w' : World) : Prop :=
  Below w.heap.size w w' ∧ ((res.2 = 0 ∧ ∃ v, e = .returned (.tuple #[v, .int .i64 0]) ∧ RecRd w' res.1 v) ∨ (res.2 ≠ 0 ∧ e = .returned (.tuple #[.agg zCells, .int .i64 res.2])))
structure DrS (w0 w : World) (ρ σ : Nat) (cs : Array Value) : Prop where
  rec_ : At w ρ cs 26
  res : At w σ #[.int .u8 0, .int .u64 0, .int .u64 0, .int .i64 0, .int .i64 0, .slice none 0 0, .slice none 0 0, .int .u64 0, .slice none 0 0, .bool false] 26
  bel : Below w0.heap.size w0 w
  lr : w0.heap.size ≤ ρ
  ls : w0.heap.size ≤ σ
  ne : ρ ≠ σ
theorem DrS.set {w0 w : World} {ρ σ : Nat} {cs : Array Value} (h : DrS w0 w ρ σ cs) (o : Nat) (v : Value) : DrS w0 (w.setCell ⟨ρ, o, none⟩ v) ρ σ (cs.setIfInBounds o v) :=
  ⟨h.rec_.set, h.res.mod (setMod w ρ o v) (fun e => h.ne e.symm), h.bel.setCell h.lr _, h.lr, h.ls, h.ne⟩
theorem DrS.later {w0 w w' : World} {ρ σ : Nat} {cs : Array Value} (h : DrS w0 w ρ σ cs) (hb : Below w.heap.size w w') : DrS w0 w' ρ σ cs :=
  ⟨At.keep hb h.rec_, At.keep hb h.res, h.bel.trans (hb.mono h.bel.size), h.lr, h.ls, h.ne⟩
theorem DrS.upto {w0 w w' : World} {ρ σ B : Nat} {cs : Array Value} (h : DrS w0 w ρ σ cs) (hb : Below B w w') (h2 : ρ < B) (h3 : σ < B) : DrS w0 w' ρ σ cs :=
  ⟨h.rec_.below hb h2, h.res.below hb h3, h.bel.trans (hb.mono (by have := h.lr; omega)), h.lr, h.ls, h.ne⟩
theorem rat_at {lo hi m c : Nat} {A : Option Addr} {l : List Int} {X : Int} (z zn : Int) (i n : Nat) (w : World) (h : BsR w lo hi A m l) (hz : z = (i : Int)) (hzn : zn = (n : Int)) (hn : n ≤ 8) (hi4 : i ≤ 1125899906842624) (hm : m ≤ 140737488355328) (hX : atN l i n = X) :
    Calls Try.prog 80 #[.slice A m c, .int .i64 z, .int .i64 zn] w fun e w' => e = .returned (.int .u64 X) ∧ w = w' := by
  subst hz hzn hX
  exact rat_calls i n w h hn hi4 hm
theorem rsum_at {n cap : Nat} {A : Option Addr} {l : List Int} {X : Int} (w : World) (h : BsR w 0 w.heap.size A n l) (hn : n ≤ 140737488355328) (hX : sumL l = X) :
    Calls Try.prog 79 #[.slice A n cap] w fun e w' => e = .returned (.int .u32 X) ∧ w = w' := by
  subst hX
  exact rsum_calls A n cap l w (h.bs (Nat.le_refl _)) hn
theorem sub_read0 {w : World} {hi gb go' n m : Nat} {l : List Int} (h : BsR w 0 hi (some ⟨gb, go', none⟩) n l) (hm : m ≤ n) : BsR w 0 hi (some ⟨gb, go', none⟩) m (l.take m) := by
  obtain ⟨h1, h2, h3⟩ := h
  refine ⟨by rw [List.length_take]; omega, h2.take m, fun h0 => ?_⟩
  obtain ⟨g, o, hA, g1, g2, hc⟩ := h3 (by omega)
  refine ⟨g, o, hA, g1, g2, fun j hj => ?_⟩
  rw [hc j (by omega)]
  simp [bsF, List.getD_eq_getElem?_getD, List.getElem?_take, hj]
def finC (R : Rc) (l : List Int) (f : Bool) : Rc × Int := if f = true ∧ encR R = l then (R, 0) else (zeroR, 3)
theorem RecIn.encB {w : World} {k tx prev page off next : Int} {bA aA dA : Option Addr} {bN bC aN aC dN dC : Nat} {opn : Bool} {bl al : List Int} {dl : List (Int × Int)} (h : RecIn w k tx prev page off next bA aA dA bN bC aN aC dN dC opn bl al dl) (hf : formB k prev page off next bN aN dN opn (dirtyOk (-1) dl) = true) : Byt (encL k tx prev page off next bl al dl opn) := by
  unfold encL
  refine Byt.app ?_ (fourL_byt _ (sumL_range _))
  unfold bodyL
  have hk0 := h.k0
  have hk1 := h.k1
  refine (((Byt.cons hk0 hk1 Byt.nil).app (u8L_byt _)).app ?_).app ?_
  · split
    · exact Byt.nil
    · exact u8L_byt _
  · by_cases h2 : k = 2
    · obtain ⟨f1, f2, f3, f4, f5, f6, f7, -, -⟩ := place_of hf (.inl h2)
      rw [if_pos h2]
      have hl := h.a.1
      exact ((((twoL_byt _ f1 (by omega)).app (twoL_byt _ f3 (by omega))).app (twoL_byt _ (by omega) (by omega))).app h.b.2.1).app h.a.2.1
    · rw [if_neg h2]
      by_cases h3 : k = 3
      · obtain ⟨f1, f2, f3, f4, f5, f6, f7, -, -⟩ := place_of hf (.inr h3)
        rw [if_pos h3]
        have hl := h.a.1
        exact (((((twoL_byt _ f1 (by omega)).app (twoL_byt _ f3 (by omega))).app (twoL_byt _ (by omega) (by omega))).app h.b.2.1).app h.a.2.1).app (u8L_byt _)
      · rw [if_neg h3]
        by_cases h6 : k = 6
        · subst h6
          obtain ⟨hd64, hdo⟩ := check_of hf
          have hl := h.d.1
          rw [if_pos rfl]
          refine (Byt.cons (by split <;> omega) (by split <;> omega) Byt.nil).app fun x hx => ?_
          obtain ⟨d, hd, hx⟩ := List.mem_flatMap.1 hx
          have hm := dirty_all dl _ hdo d hd
          exact ((twoL_byt _ hm.1 (by omega)).app (u8L_byt _)) x hx
        · rw [if_neg h6]; exact Byt.nil
theorem RecRd.none (w : World) (k t p : Int) : RecRd w ⟨k, t, p, 0, 0, 0, [], [], [], false⟩ (.agg #[.int .u8 k, .int .u64 t, .int .u64 p, .int .i64 0, .int .i64 0, .slice none 0 0, .slice none 0 0, .int .u64 0, .slice none 0 0, .bool false]) :=
  ⟨_, _, _, _, _, _, rfl, ⟨rfl, Byt.nil, Rd.nil _ _ _ _ _⟩, ⟨rfl, Byt.nil, Rd.nil _ _ _ _ _⟩, ⟨rfl, Rd.nil _ _ _ _ _⟩⟩
/-- A record without lists is read anywhere. -/
theorem recIn_none (w : World) {k tx prev : Int} (k0 : 0 ≤ k) (k1 : k ≤ 255) (t : 0 ≤ tx ∧ tx < 18446744073709551616) (p : 0 ≤ prev ∧ prev < 18446744073709551616) : RecIn w k tx prev 0 0 0 none none none 0 0 0 0 0 0 false [] [] [] :=
  ⟨k0, k1, t.1, t.2, p.1, p.2, by omega, by omega, ⟨rfl, Byt.nil, Rd.nil _ _ _ _ _⟩, ⟨rfl, Byt.nil, Rd.nil _ _ _ _ _⟩, ⟨rfl, Rd.nil _ _ _ _ _⟩, by omega, by omega, by omega, fun _ h => nomatch h⟩
section
variable {P : Program} {ops : Array Oper} {Q : Exit → Act → World → Prop} {md : Region.Mode} {S : World → Prop}
/-- A call that is not wanted. -/
theorem wpAnyH_callSkipL {i : Nat} {o : Oper} {r : List Oper} {fuel : Nat} {listed : Array Bool} {a : Act} {w : World} (hd : ops.toList.drop i = o :: r)
    (hr : Region.ready md ops listed = [i]) (hw : Region.wanted o (yielded ops a.tmps) = false) (hS : S w)
    (h : wpAnyH P md ops Q S fuel (listed.setIfInBounds i true) (a.put o.dst undef) w) : wpAnyH P md ops Q S (fuel + 1) listed a w :=
  wpAnyH_ready hr (by simp) (AllReadyH.cons (getElem?_of_drop hd) (fun K' hK => by rw [if_neg (by rw [hw]; decide)]; exact hK.out _ _ hS (fun _ => h)) AllReadyH.nil)
end
set_option maxRecDepth 100000 in
set_option maxHeartbeats 40000000 in
theorem rdc_e {n c : Nat} {A : Option Addr} {l : List Int} (w : World) (h : BsR w 0 w.heap.size A n l) (h5 : 5 ≤ n) (hc : n ≤ c) (hn : n ≤ 140737488355328) {ss K T : Int} (hs : atN l (n - 4) 4 = ss) (hss : sumL (l.take (n - 4)) = ss) (hK : l.getD 0 0 = K) (hT : atN l 1 8 = T) {P : Int} (hP : atN l 9 8 = P) (h1 : K ≠ 1) (h2 : K ≠ 2) (h3 : K ≠ 3) (h6 : K ≠ 6) (f : Bool) (hf : formR ⟨K, T, P, 0, 0, 0, [], [], [], false⟩ = f) :
    Calls Try.prog 62 #[.slice A n c] w (DecPostC (finC ⟨K, T, P, 0, 0, 0, [], [], [], false⟩ l f) w) := by
  have hPx := Lib.hid hP
  have hfx := Lib.hid (show formB K P 0 0 0 0 0 0 false (dirtyOk (-1) []) = f from hf)
  have hTr : 0 ≤ T ∧ T < 18446744073709551616 := by rw [← hT]; exact atN_r8 h.2.1 1
  have hPr : 0 ≤ P ∧ P < 18446744073709551616 := by rw [← hP]; exact atN_r8 h.2.1 9
  have e1 : (K != 1) = true := by simpa using h1
  have e2 : (K == 2) = false := by simpa using h2
  have e3 : (K == 3) = false := by simpa using h3
  have e6 : (K == 6) = false := by simpa using h6
  clear hP hf h1 h2 h3 h6
  have hby := Lib.hid h.2.1
  obtain ⟨gb, go', rfl, -, g2, hcl⟩ := h.2.2 (by omega)
  have hx0 := hcl 0 (by omega)
  simp only [bsF, Nat.add_zero] at hx0
  rw [hK] at hx0
  have hKr := hby.out.getD 0
  rw [hK] at hKr
  clear hcl hK
  have i1 : ¬ (n : Int) < 5 := by omega
  have i2 : (5 : Int) ≤ n := by omega
  have i3 : (n : Int) ≤ c := by omega
  have i4 : (n : Int) ≤ 140737488355328 := by omega
  have i5 : (4 : Int) ≤ n := by omega
  have i6 : (n : Int) - 4 ≤ c := by omega
  have i7 : 0 < n := by omega
  have i8 : ((n : Int) - 4).toNat = n - 4 := by omega
  have i9 : (ss != ss) = false := by simp
  have hb1 := below_new w (.cells #[.int .u8 0, .int .u64 0, .int .u64 0, .int .i64 0, .int .i64 0, .slice none 0 0, .slice none 0 0, .int .u64 0, .slice none 0 0, .bool false] 26)
  have k0 := At.new w #[.int .u8 0, .int .u64 0, .int .u64 0, .int .i64 0, .int .i64 0, .slice none 0 0, .slice none 0 0, .int .u64 0, .slice none 0 0, .bool false] 26
  have hp0 := Lib.hid h
  have hsr : 0 ≤ ss ∧ ss < 4294967296 := by rw [← hss]; exact sumL_range _
  have hsw : IntKind.u64.wrap ss = ss := IntWalk.u64_in _ (by omega)
  have hsx := Lib.hid hs
  have hssx := Lib.hid hss
  have hTx := Lib.hid hT
  clear h hs hss hT
  go_enter Try.func62, Try.ntmps62
  go_upto_region 4 with (fail)
  have hb2 := below_dr hb1
  have hx2 := (hb2.cell (p := ⟨gb, go', none⟩) g2).trans hx0
  have k2 := k0.drew
  clear k0 hx0
  generalize (w.alloc (.cells #[.int .u8 0, .int .u64 0, .int .u64 0, .int .i64 0, .int .i64 0, .slice none 0 0, .slice none 0 0, .int .u64 0, .slice none 0 0, .bool false] 26)) = w1 at *
  have hp1 : BsR w1.drew 0 w1.drew.heap.size (some ⟨gb, go', none⟩) n l := (hp0.out.below hb2 (Nat.le_refl _)).more hb2.size
  have hp2 : BsR w1.drew 0 w1.drew.heap.size (some ⟨gb, go', none⟩) (n - 4) (l.take (n - 4)) := sub_read0 hp1 (by omega)
  go_region_held3 (fun w' => w' = w1.drew)
    (first
      | (exact rfl))
    (first
      | (go_at_call 80; with_reducible refine (rat_at ((n : Int) - 4) 4 (n - 4) 4 w1.drew hp1 (by omega) rfl (by omega) (by omega) (by omega) hsx.out).mono ?_; rintro e w' ⟨rfl, rfl⟩)
      | (go_at_call 79; with_reducible refine (rsum_at w1.drew hp2 (by omega) hssx.out).mono ?_; rintro e w' ⟨rfl, rfl⟩)
      | fail)
  go_upto_region 6 with (fail)
  have hx3 : w1.drew.drew.cell? ⟨gb, go', none⟩ = some (.int .u8 K) := hx2
  have hbz : Below w.heap.size w (w1.alloc (.cells #[.int .u8 0, .int .u64 0, .int .u64 0, .int .i64 0, .int .i64 0, .slice none 0 0, .slice none 0 0, .int .u64 0, .slice none 0 0, .bool false] 26)).drew.drew := below_dr (below_dr (hb1.alloc hb1.size _))
  have hx4 : (w1.alloc (.cells #[.int .u8 0, .int .u64 0, .int .u64 0, .int .i64 0, .int .i64 0, .slice none 0 0, .slice none 0 0, .int .u64 0, .slice none 0 0, .bool false] 26)).drew.drew.cell? ⟨gb, go', none⟩ = some (.int .u8 K) := ((below_dr (below_dr (below_new w1 (.cells #[.int .u8 0, .int .u64 0, .int .u64 0, .int .i64 0, .int .i64 0, .slice none 0 0, .slice none 0 0, .int .u64 0, .slice none 0 0, .bool false] 26)))).cell (p := ⟨gb, go', none⟩) (Nat.lt_of_lt_of_le g2 hb1.size)).trans hx2
  have hp3 : BsR w1.drew.drew 0 w1.drew.heap.size (some ⟨gb, go', none⟩) n l := hp1
  have hp4 : BsR (w1.alloc (.cells #[.int .u8 0, .int .u64 0, .int .u64 0, .int .i64 0, .int .i64 0, .slice none 0 0, .slice none 0 0, .int .u64 0, .slice none 0 0, .bool false] 26)).drew.drew 0 w.heap.size (some ⟨gb, go', none⟩) n l := hp0.out.below hbz (Nat.le_refl _)
  apply dedupe
  · intro hK
    go_region_law
      (first
        | (go_simp; go_at_call 80; with_reducible refine (rat_at 1 8 1 8 w1.drew.drew hp3 rfl rfl (by omega) (by omega) (by omega) hTx.out).mono ?_; rintro e w' ⟨rfl, rfl⟩)
        | (go_simp; go_at_call 80; with_reducible refine (rat_at 1 8 1 8 (w1.alloc (.cells #[.int .u8 0, .int .u64 0, .int .u64 0, .int .i64 0, .int .i64 0, .slice none 0 0, .slice none 0 0, .int .u64 0, .slice none 0 0, .bool false] 26)).drew.drew hp4 rfl rfl (by omega) (by omega) (by omega) hTx.out).mono ?_; rintro e w' ⟨rfl, rfl⟩))
    all_goals exact hK.out
  have hS5 : DrS w (w1.alloc (.cells #[.int .u8 K, .int .u64 T, .int .u64 0, .int .i64 0, .int .i64 0, .slice none 0 0, .slice none 0 0, .int .u64 0, .slice none 0 0, .bool false] 26)).drew.drew w1.heap.size w.heap.size #[.int .u8 K, .int .u64 T, .int .u64 0, .int .i64 0, .int .i64 0, .slice none 0 0, .slice none 0 0, .int .u64 0, .slice none 0 0, .bool false] :=
    ⟨(At.new w1 _ _).drew.drew, (k2.alloc _).drew, below_dr (below_dr (hb1.alloc hb1.size _)), hb1.size, Nat.le_refl _, fun e => by have h9 : w.heap.size < w1.heap.size := k2.lt; omega⟩
  clear hb1 hb2 hbz hx2 hx3 hx4 hp1 hp2 hp3 hp4 k2 hsw i9 i8
  generalize (w1.alloc (.cells #[.int .u8 K, .int .u64 T, .int .u64 0, .int .i64 0, .int .i64 0, .slice none 0 0, .slice none 0 0, .int .u64 0, .slice none 0 0, .bool false] 26)).drew.drew = w5 at *
  generalize w1.heap.size = ρ at *
  obtain ⟨σ, hσe⟩ : ∃ σ, σ = w.heap.size := ⟨_, rfl⟩
  rw [← hσe] at hS5 ⊢
  have hSx := hS5
  rw [hσe] at hSx
  have hσ := Nat.le_of_eq hσe.symm
  have hS5 : DrS w w5 ρ σ #[.int .u8 K, .int .u64 T, .int .u64 0, .int .i64 0, .int .i64 0, .slice none 0 0, .slice none 0 0, .int .u64 0, .slice none 0 0, .bool false] := by rw [hσe]; exact hSx
  clear hσe hSx
  have kr := hS5.rec_
  have krc := kr.c; have krf := kr.f; have krl := kr.lt
  go_wp2_with fail
  refine (rat_at 9 8 9 8 w5 (hp0.out.below hS5.bel (Nat.le_refl _)) (by first | rfl | omega) rfl (by omega) (by omega) (by omega) hPx.out).mono ?_
  rintro e w' ⟨rfl, rfl⟩
  go_upto_region 9 with (fail)
  have hS6 := hS5.set 2 (.int .u64 P)
  simp only [List.setIfInBounds_toArray, List.set_cons_zero, List.set_cons_succ] at hS6
  clear hS5 kr krc krf krl
  generalize (World.setCell w5 ⟨ρ, 2, none⟩ (.int .u64 P)) = w6 at *
  have kr := hS6.rec_
  have krc := kr.c; have krf := kr.f; have krl := kr.lt
  go_upto_region 26 with (fail)
  have hI := recIn_none w6 hKr.1 hKr.2 hTr hPr
  have hIx := Lib.hid hI
  clear hI
  have d0 : Below w6.heap.size w6 w6.drew := below_dr (Below.refl _ _)
  cases f
  · have hz := Lib.hid (show finC ⟨K, T, P, 0, 0, 0, [], [], [], false⟩ l false = (zeroR, 3) from if_neg (fun h => by cases h.1))
    have f0 := (hS6.later d0).rec_.c
    refine wp_region_held_drew (S := fun w' => (∀ o, w'.cell? ⟨ρ, o, none⟩ = #[.int .u8 K, .int .u64 T, .int .u64 P, .int .i64 0, .int .i64 0, .slice none 0 0, .slice none 0 0, .int .u64 0, .slice none 0 0, .bool false][o]?)) (by kernel_rfl) f0 (fun hHeld => ?_)
    (refine wpAnyH_takeL (i := 0) (v := ?_) rfl (by kernel_rfl) (by kernel_rfl) (by kernel_rfl) (fun _ _ _ h => h) (by rfl) hHeld ?_ ?_; rotate_left; (focus (intro w hSw; (try dsimp only at hSw); go_simp; (try with_reducible rfl); done)); (try simp only [Act.put, List.setIfInBounds_toArray, List.set_cons_zero, List.set_cons_succ]))
    (refine wpAnyH_callL (i := 1) rfl (by kernel_rfl) (by rfl) (fun K hK => ?_); go_simp)
    go_at_call 22
    refine (rform_at (hIx.out.later d0) false hfx.out).mono ?_
    rintro e w3 ⟨rfl, hb3⟩
    have f1 := ((hS6.later d0).later hb3).rec_.c
    clear hHeld
    refine hK.out _ _ f1 (fun hHeld => ?_)
    (clear hK K; (try simp only [Act.put, List.setIfInBounds_toArray, List.set_cons_zero, List.set_cons_succ]))
    (refine wpAnyH_takeL (i := 2) (v := ?_) rfl (by kernel_rfl) (by kernel_rfl) (by kernel_rfl) (fun _ _ _ h => h) (by rfl) hHeld ?_ ?_; rotate_left; (focus (intro w hSw; (try dsimp only at hSw); go_simp; (try with_reducible rfl); done)); (try simp only [Act.put, List.setIfInBounds_toArray, List.set_cons_zero, List.set_cons_succ]))
    (refine wpAnyH_takeL (i := 3) (v := ?_) rfl (by kernel_rfl) (by kernel_rfl) (by kernel_rfl) (fun _ _ _ h => h) (by rfl) hHeld ?_ ?_; rotate_left; (focus (intro w hSw; (try dsimp only at hSw); go_simp; (try with_reducible rfl); done)); (try simp only [Act.put, List.setIfInBounds_toArray, List.set_cons_zero, List.set_cons_succ]))
    (refine wpAnyH_skipL (i := 4) rfl (by kernel_rfl) (by kernel_rfl) (by kernel_rfl) (fun _ _ _ h => h) (by rfl) hHeld ?_; (try simp only [Act.put, List.setIfInBounds_toArray, List.set_cons_zero, List.set_cons_succ]))
    (refine wpAnyH_skipL (i := 7) rfl (by kernel_rfl) (by kernel_rfl) (by kernel_rfl) (fun _ _ _ h => h) (by rfl) hHeld ?_; (try simp only [Act.put, List.setIfInBounds_toArray, List.set_cons_zero, List.set_cons_succ]))
    (refine wpAnyH_skipL (i := 8) rfl (by kernel_rfl) (by kernel_rfl) (by kernel_rfl) (fun _ _ _ h => h) (by rfl) hHeld ?_; (try simp only [Act.put, List.setIfInBounds_toArray, List.set_cons_zero, List.set_cons_succ]))
    (refine wpAnyH_callSkipL (i := 5) rfl (by kernel_rfl) (by rfl) hHeld ?_; (try simp only [Act.put, List.setIfInBounds_toArray, List.set_cons_zero, List.set_cons_succ]))
    (refine wpAnyH_skipL (i := 6) rfl (by kernel_rfl) (by kernel_rfl) (by kernel_rfl) (fun _ _ _ h => h) (by rfl) hHeld ?_; (try simp only [Act.put, List.setIfInBounds_toArray, List.set_cons_zero, List.set_cons_succ]))
    (refine wpAnyH_skipL (i := 9) rfl (by kernel_rfl) (by kernel_rfl) (by kernel_rfl) (fun _ _ _ h => h) (by rfl) hHeld ?_; (try simp only [Act.put, List.setIfInBounds_toArray, List.set_cons_zero, List.set_cons_succ]))
    (refine wpAnyH_takeL (i := 10) (v := ?_) rfl (by kernel_rfl) (by kernel_rfl) (by kernel_rfl) (fun _ _ _ h => h) (by rfl) hHeld ?_ ?_; rotate_left; (focus (intro w hSw; (try dsimp only at hSw); go_simp; (try with_reducible rfl); done)); (try simp only [Act.put, List.setIfInBounds_toArray, List.set_cons_zero, List.set_cons_succ]))
    (refine wpAnyH_done (by kernel_rfl) ?_ _)
    have hSz := (hS6.later d0).later hb3
    clear f0 f1 hHeld hS6 kr krc krf krl hb3 d0
    have ks := hSz.res
    have hBz := hSz.bel
    have ksc := ks.c; have ksf := ks.f; have ksl := ks.lt
    go_wp2
    have ht := ks.ten (.int .u8 0) (.int .u64 0) (.int .u64 0) (.int .i64 0) (.int .i64 0) (.slice none 0 0) (.slice none 0 0) (.int .u64 0) (.slice none 0 0) (.bool false)
    have hB2 := hBz.trans (ht.2.below hBz.size (fun i hi => by subst hi; exact hσ))
    have kz := ht.1.c
    clear ht ks ksc ksf ksl
    generalize World.setCell _ _ _ = wz at *
    refine bodyPost_ret (v := .tuple #[.agg zCells, .int .i64 3]) (by simp [results, Try.results62, go_sem, zCells, kz]) rfl ?_
    exact ⟨hB2, .inr ⟨by rw [hz.out]; decide, by rw [hz.out]⟩⟩
  · have hse : ((strL (encR ⟨K, T, P, 0, 0, 0, [], [], [], false⟩)).toList == (strL l).toList) = eqB (encR ⟨K, T, P, 0, 0, 0, [], [], [], false⟩) l := str_eq (hIx.out.encB hfx.out) hby.out
    have hcp := fun w' (hb : Below w.heap.size w w') => run_str c w' (hp0.out.below hb (Nat.le_refl _))
    have hcp' := Lib.hid hcp
    have f0 := And.intro (hS6.later d0).rec_.c (hcp _ (hS6.later d0).bel)
    clear hcp
    refine wp_region_held_drew (S := fun w' => (∀ o, w'.cell? ⟨ρ, o, none⟩ = #[.int .u8 K, .int .u64 T, .int .u64 P, .int .i64 0, .int .i64 0, .slice none 0 0, .slice none 0 0, .int .u64 0, .slice none 0 0, .bool false][o]?) ∧ (convert 23 9 (.slice (some ⟨gb, go', none⟩) n c)).run Try.prog w' = .ok (.string (strL l)) w') (by kernel_rfl) f0 (fun hHeld => ?_)
    (refine wpAnyH_takeL (i := 0) (v := ?_) rfl (by kernel_rfl) (by kernel_rfl) (by kernel_rfl) (fun _ _ _ h => h) (by rfl) hHeld ?_ ?_; rotate_left; (focus (intro w hSw; (try dsimp only at hSw); go_simp; (try with_reducible rfl); done)); (try simp only [Act.put, List.setIfInBounds_toArray, List.set_cons_zero, List.set_cons_succ]))
    (refine wpAnyH_callL (i := 1) rfl (by kernel_rfl) (by rfl) (fun K hK => ?_); go_simp)
    go_at_call 22
    refine (rform_at (hIx.out.later d0) true hfx.out).mono ?_
    rintro e w3 ⟨rfl, hb3⟩
    have hS3 := (hS6.later d0).later hb3
    have f1 := And.intro hS3.rec_.c (hcp'.out _ hS3.bel)
    clear hHeld
    refine hK.out _ _ f1 (fun hHeld => ?_)
    (clear hK K; (try simp only [Act.put, List.setIfInBounds_toArray, List.set_cons_zero, List.set_cons_succ]))
    (refine wpAnyH_takeL (i := 2) (v := ?_) rfl (by kernel_rfl) (by kernel_rfl) (by kernel_rfl) (fun _ _ _ h => h) (by rfl) hHeld ?_ ?_; rotate_left; (focus (intro w hSw; (try dsimp only at hSw); go_simp; (try with_reducible rfl); done)); (try simp only [Act.put, List.setIfInBounds_toArray, List.set_cons_zero, List.set_cons_succ]))
    (refine wpAnyH_takeL (i := 3) (v := ?_) rfl (by kernel_rfl) (by kernel_rfl) (by kernel_rfl) (fun _ _ _ h => h) (by rfl) hHeld ?_ ?_; rotate_left; (focus (intro w hSw; (try dsimp only at hSw); go_simp; (try with_reducible rfl); done)); (try simp only [Act.put, List.setIfInBounds_toArray, List.set_cons_zero, List.set_cons_succ]))
    (refine wpAnyH_takeL (i := 4) (v := ?_) rfl (by kernel_rfl) (by kernel_rfl) (by kernel_rfl) (fun _ _ _ h => h) (by rfl) hHeld ?_ ?_; rotate_left; (focus (intro w hSw; (try dsimp only at hSw); go_simp; (try with_reducible rfl); done)); (try simp only [Act.put, List.setIfInBounds_toArray, List.set_cons_zero, List.set_cons_succ]))
    (refine wpAnyH_takeL (i := 7) (v := ?_) rfl (by kernel_rfl) (by kernel_rfl) (by kernel_rfl) (fun _ _ _ h => h) (by rfl) hHeld ?_ ?_; rotate_left; (focus (intro w hSw; (try dsimp only at hSw); go_simp; (try with_reducible rfl); done)); (try simp only [Act.put, List.setIfInBounds_toArray, List.set_cons_zero, List.set_cons_succ]))
    (refine wpAnyH_takeL (i := 8) (v := ?_) rfl (by kernel_rfl) (by kernel_rfl) (by kernel_rfl) (fun _ _ _ h => h) (by rfl) hHeld ?_ ?_; rotate_left; (focus (intro w hSw; (try dsimp only at hSw); go_simp; (try with_reducible rfl); done)); (try simp only [Act.put, List.setIfInBounds_toArray, List.set_cons_zero, List.set_cons_succ]))
    (refine wpAnyH_callL (i := 5) rfl (by kernel_rfl) (by rfl) (fun K hK => ?_); go_simp)
    go_at_call 60
    refine (renc_rec ((hIx.out.later d0).later hb3) hfx.out).mono ?_
    rintro e w4 ⟨A9, c9, n9, rfl, ho9, hb9⟩
    have hS4 := hS3.later hb9
    have f2 := And.intro hS4.rec_.c (hcp'.out _ hS4.bel)
    clear hHeld
    refine hK.out _ _ f2 (fun hHeld => ?_)
    (clear hK K; (try simp only [Act.put, List.setIfInBounds_toArray, List.set_cons_zero, List.set_cons_succ]))
    refine wpAnyH_mono (S' := fun w' => (∀ o, w'.cell? ⟨ρ, o, none⟩ = #[.int .u8 K, .int .u64 T, .int .u64 P, .int .i64 0, .int .i64 0, .slice none 0 0, .slice none 0 0, .int .u64 0, .slice none 0 0, .bool false][o]?) ∧ (convert 23 9 (.slice (some ⟨gb, go', none⟩) n c)).run Try.prog w' = .ok (.string (strL l)) w' ∧ (convert 23 9 (.slice A9 n9 c9)).run Try.prog w' = .ok (.string (strL (encR ⟨K, T, P, 0, 0, 0, [], [], [], false⟩))) w') (fun w' h => ⟨h.1, h.2.1⟩) _ _ _ _ ?_
    replace hHeld := And.intro f2.1 (And.intro f2.2 (run_str c9 w4 ho9.reads))
    clear f0 f1 f2
    (refine wpAnyH_takeL (i := 6) (v := ?_) rfl (by kernel_rfl) (by kernel_rfl) (by kernel_rfl) (fun _ _ _ h => h) (by rfl) hHeld ?_ ?_; rotate_left; (focus (intro w hSw; (try dsimp only at hSw); go_simp; (try with_reducible rfl); done)); (try simp only [Act.put, List.setIfInBounds_toArray, List.set_cons_zero, List.set_cons_succ]))
    (refine wpAnyH_takeL (i := 9) (v := ?_) rfl (by kernel_rfl) (by kernel_rfl) (by kernel_rfl) (fun _ _ _ h => h) (by rfl) hHeld ?_ ?_; rotate_left; (focus (intro w hSw; (try dsimp only at hSw); go_simp; (try with_reducible rfl); done)); (try simp only [Act.put, List.setIfInBounds_toArray, List.set_cons_zero, List.set_cons_succ]))
    (refine wpAnyH_takeL (i := 10) (v := ?_) rfl (by kernel_rfl) (by kernel_rfl) (by kernel_rfl) (fun _ _ _ h => h) (by rfl) hHeld ?_ ?_; rotate_left; (focus (intro w hSw; (try dsimp only at hSw); go_simp; (try with_reducible rfl); done)); (try simp only [Act.put, List.setIfInBounds_toArray, List.set_cons_zero, List.set_cons_succ]))
    (refine wpAnyH_done (by kernel_rfl) ?_ _)
    have hSz := hS4
    have hBd : Below w6.heap.size w6 w4 := below_keep hb9 (below_keep hb3 d0)
    clear hS3 hS4 hS6 kr krc krf krl hb3 d0 hb9 ho9 hHeld
    by_cases heq : encR ⟨K, T, P, 0, 0, 0, [], [], [], false⟩ = l
    · have hz := Lib.hid (show finC ⟨K, T, P, 0, 0, 0, [], [], [], false⟩ l true = (⟨K, T, P, 0, 0, 0, [], [], [], false⟩, 0) from if_pos ⟨rfl, heq⟩)
      have hcond : eqB (encR ⟨K, T, P, 0, 0, 0, [], [], [], false⟩) l = true := decide_eq_true heq
      rw [hcond]
      have heqx := Lib.hid heq
      clear heq hcond hse
      have ks := hSz.res
      have kr := hSz.rec_
      have hBz := hSz.bel
      have ksc := ks.c; have ksf := ks.f; have ksl := ks.lt
      have krc := kr.c; have krf := kr.f; have krl := kr.lt
      go_wp2
      have ht := ks.ten (.int .u8 K) (.int .u64 T) (.int .u64 P) (.int .i64 0) (.int .i64 0) (.slice none 0 0) (.slice none 0 0) (.int .u64 0) (.slice none 0 0) (.bool false)
      have hB2 := hBz.trans (ht.2.below hBz.size (fun i hi => by subst hi; exact hσ))
      have kz := ht.1.c
      have hmz := ht.2
      clear ht ks ksc ksf ksl kr krc krf krl
      generalize World.setCell _ _ _ = wz at *
      refine bodyPost_ret (v := .tuple #[.agg #[.int .u8 K, .int .u64 T, .int .u64 P, .int .i64 0, .int .i64 0, .slice none 0 0, .slice none 0 0, .int .u64 0, .slice none 0 0, .bool false], .int .i64 0]) (by simp [results, Try.results62, go_sem, kz]) rfl ?_
      refine ⟨hB2, .inl ⟨by rw [hz.out], ?_⟩⟩
      rw [hz.out]
      refine ⟨_, rfl, ?_⟩
      exact RecRd.none _ _ _ _
    · have hz := Lib.hid (show finC ⟨K, T, P, 0, 0, 0, [], [], [], false⟩ l true = (zeroR, 3) from if_neg (fun h => heq h.2))
      have hcond : eqB (encR ⟨K, T, P, 0, 0, 0, [], [], [], false⟩) l = false := decide_eq_false heq
      rw [hcond]
      clear heq hcond hBd hse
      have ks := hSz.res
      have hBz := hSz.bel
      have ksc := ks.c; have ksf := ks.f; have ksl := ks.lt
      go_wp2
      have ht := ks.ten (.int .u8 0) (.int .u64 0) (.int .u64 0) (.int .i64 0) (.int .i64 0) (.slice none 0 0) (.slice none 0 0) (.int .u64 0) (.slice none 0 0) (.bool false)
      have hB2 := hBz.trans (ht.2.below hBz.size (fun i hi => by subst hi; exact hσ))
      have kz := ht.1.c
      clear ht ks ksc ksf ksl
      generalize World.setCell _ _ _ = wz at *
      refine bodyPost_ret (v := .tuple #[.agg zCells, .int .i64 3]) (by simp [results, Try.results62, go_sem, zCells, kz]) rfl ?_
      exact ⟨hB2, .inr ⟨by rw [hz.out]; decide, by rw [hz.out]⟩⟩
end Go.Proofs.Ytjgomebnlekddaa
