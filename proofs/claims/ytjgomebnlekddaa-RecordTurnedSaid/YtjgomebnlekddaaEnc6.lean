/- record.Encode by its contract: the checks; what is no record. -/
import Derived.Test.YtjgomebnlekddaaEnc2
import Derived.Test.YtjgomebnlekddaaShare
import Derived.Deep.LoopGhost
namespace Go.Proofs.Ytjgomebnlekddaa
set_option linter.unusedVariables false
set_option linter.unusedSimpArgs false
open Go.RowKit
theorem or_one : ∀ n : Nat, n < 65 → bits .or .u8 ((n : Int) * 2) 1 = (n : Int) * 2 + 1 := by decide +kernel
def drL (d : Int × Int) : List Int := twoL d.1 ++ u8L d.2
theorem check_of {prev page off next : Int} {bN aN dN : Nat} {opn : Bool} {dl : List (Int × Int)} (h : formB 6 prev page off next bN aN dN opn (dirtyOk (-1) dl) = true) : dN ≤ 64 ∧ dirtyOk (-1) dl = true := by
  unfold formB at h
  simp at h
  exact ⟨by omega, h.1.1⟩
set_option linter.unusedVariables false in
set_option maxRecDepth 100000 in
set_option maxHeartbeats 4000000 in
theorem enc_6f (tx prev page off next : Int) (bA aA dA : Option Addr) (bN bC aN aC dN dC : Nat) (bl al : List Int) (dl : List (Int × Int)) (w : World) (hl : PrR w 0 w.heap.size dA dN dl) (hn : dN * 16 ≤ 140737488351232)
    (ht0 : 0 ≤ tx) (ht1 : tx < 18446744073709551616) (hp0 : 0 ≤ prev) (hp1 : prev < 18446744073709551616) (hf : formB 6 prev page off next bN aN dN false (dirtyOk (-1) dl) = true) (hpr : ∀ d ∈ dl, 0 ≤ d.2 ∧ d.2 < 18446744073709551616) :
    Calls Try.prog 23 #[.agg #[.int .u8 6, .int .u64 tx, .int .u64 prev, .int .i64 page, .int .i64 off, .slice bA bN bC, .slice aA aN aC, .int .u64 next, .slice dA dN dC, .bool false]] w (EncPost (encL 6 tx prev page off next bl al dl false) w) := by
  obtain ⟨hd64, hdo⟩ := check_of hf
  have hdo' := Lib.hid hdo
  clear hdo
  have hln := Lib.hid hl.1
  have hpr' := Lib.hid hpr
  clear hpr
  have hf' := Lib.hid hf
  clear hf
  go_enter Try.func23, Try.ntmps23
  go_upto_region 1 with (fail)
  have k0 := At.new w #[.int .u8 6, .int .u64 tx, .int .u64 prev, .int .i64 page, .int .i64 off, .slice bA bN bC, .slice aA aN aC, .int .u64 next, .slice dA dN dC, .bool false] 26
  have hB : Below w.heap.size w (w.alloc (.cells #[.int .u8 6, .int .u64 tx, .int .u64 prev, .int .i64 page, .int .i64 off, .slice bA bN bC, .slice aA aN aC, .int .u64 next, .slice dA dN dC, .bool false] 26)) := (Below.refl _ _).alloc (Nat.le_refl _) _
  have k1l0 : w.heap.size < (w.alloc (.cells #[.int .u8 6, .int .u64 tx, .int .u64 prev, .int .i64 page, .int .i64 off, .slice bA bN bC, .slice aA aN aC, .int .u64 next, .slice dA dN dC, .bool false] 26)).heap.size := k0.lt
  generalize (w.alloc (.cells #[.int .u8 6, .int .u64 tx, .int .u64 prev, .int .i64 page, .int .i64 off, .slice bA bN bC, .slice aA aN aC, .int .u64 next, .slice dA dN dC, .bool false] 26)) = w0 at *
  have k1 := k0
  have k1c := k1.c; have k1f := k1.f; have k1l := k1.lt
  go_wp2_with fail
  refine (form_at 6 tx prev page off next bA aA dA bN bC aN aC dN dC false dl true _ ⟨hl.1, (hl.2.below hB (Nat.le_refl _)).more hB.size⟩ hn hf'.out).mono ?_
  rintro e w1 ⟨rfl, hb1⟩
  clear k1 k1c k1f k1l
  have k1 := At.below k0 hb1 k1l0
  have k1c := k1.c; have k1f := k1.f; have k1l := k1.lt
  go_upto_region 3 with (fail)
  go_cut [4] (fun v4 wc => ∃ A c, v4 = .slice A 9 c ∧ OwB wc w0.heap.size A 9 c ([6] ++ u8L tx) ∧ Below w0.heap.size w0 wc)
  case first =>
    go_region_held3 (fun w' => At w' w.heap.size #[.int .u8 6, .int .u64 tx, .int .u64 prev, .int .i64 page, .int .i64 off, .slice bA bN bC, .slice aA aN aC, .int .u64 next, .slice dA dN dC, .bool false] 26 ∧ (∀ o, w'.cell? ⟨w.heap.size, o, none⟩ = #[.int .u8 6, .int .u64 tx, .int .u64 prev, .int .i64 page, .int .i64 off, .slice bA bN bC, .slice aA aN aC, .int .u64 next, .slice dA dN dC, .bool false][o]?))
      (first
        | (exact ⟨k1.drew, k1.drew.c⟩)
        | (exact ⟨(k1.drew.alloc _), (k1.drew.alloc _).c⟩)
        | (go_split_ands
           have hk3 := At.keep hbU (by assumption : At _ w.heap.size #[.int .u8 6, .int .u64 tx, .int .u64 prev, .int .i64 page, .int .i64 off, .slice bA bN bC, .slice aA aN aC, .int .u64 next, .slice dA dN dC, .bool false] 26)
           exact ⟨hk3, hk3.c⟩)
        | (go_split_ands
           have hk3 := At.below (by assumption : At _ w.heap.size #[.int .u8 6, .int .u64 tx, .int .u64 prev, .int .i64 page, .int .i64 off, .slice bA bN bC, .slice aA aN aC, .int .u64 next, .slice dA dN dC, .bool false] 26) hb4 k1l0
           exact ⟨hk3, hk3.c⟩)
        | (go_split_ands
           have hk3 := At.alloc (by assumption : At _ w.heap.size #[.int .u8 6, .int .u64 tx, .int .u64 prev, .int .i64 page, .int .i64 off, .slice bA bN bC, .slice aA aN aC, .int .u64 next, .slice dA dN dC, .bool false] 26) (.cells #[.int .u8 6] 5)
           exact ⟨hk3, hk3.c⟩))
      (first
        | (go_at_call 63; refine (uint_g tx ht0 ht1 _).mono ?_; rintro e wU ⟨gU, rfl, hu, hgU, hul, hbU⟩)
        | (refine step_app (by rfl) (.tmp 14) (.tmp 17) (by rfl) w0.heap.size 1 1 (some ⟨w1.heap.size, 0, none⟩) [6] (by rfl) (OwB.made (l := [6]) ((At.new w1 _ _).drew.keep hbU) rfl (Byt.cons (by omega) (by omega) Byt.nil) hb1.size (by decide)) _ _ 8 8 _ (u8L tx) (by rfl) hu (by omega) (Nat.le_trans hb1.size (ge_alloc hbU)) ?_; intro A4 c4 w4 ho4 hg4 hb4 hat4)
        | (refine step_app (by rfl) (.tmp 14) (.tmp 17) (by rfl) w0.heap.size 1 1 (some ⟨wU.heap.size, 0, none⟩) [6] (by rfl) (OwB.made (l := [6]) (At.new wU _ _) rfl (Byt.cons (by omega) (by omega) Byt.nil) (Nat.le_trans hb1.size (ge_drew hbU)) (by decide)) _ _ 8 8 _ (u8L tx) (by rfl) (hu.below (below_new wU _) (Nat.succ_le_of_lt hul)) (by omega) (Nat.le_trans hb1.size (Nat.le_trans (ge_drew hbU) (ge_new _ _))) ?_; intro A4 c4 w4 ho4 hg4 hb4 hat4))
    all_goals (go_wp2_with fail; go_meet)
    all_goals (case rel => first | exact ⟨A4, c4, rfl, ho4, below_tr (below_keep hbU (below_dr (below_al hb1))) hb4⟩ | exact ⟨A4, c4, rfl, ho4, below_tr (below_al (below_keep hbU (below_dr hb1))) hb4⟩)
  case rest =>
    clear k1 k1c k1f k1l hb1
    obtain ⟨A4, c4, rfl, ho4, hB4⟩ := hcut
    have k1 := At.below k0 hB4 k1l0
    have k1c := k1.c; have k1f := k1.f; have k1l := k1.lt
    go_wp2_with fail
    refine (uint_g prev hp0 hp1 _).mono ?_
    rintro e wU ⟨gU, rfl, hu, hgU, hul, hbU⟩
    clear k1 k1c k1f k1l
    go_upto_region 14 with (at_builtin; refine wpList_app rfl (.tmp 22) (.tmp 25) rfl w0.heap.size 9 c4 A4 ([6] ++ u8L tx) rfl (ho4.later hbU) _ _ 8 8 _ (u8L prev) rfl hu (by omega) (Nat.le_trans hB4.size hbU.size) ?_; intro A5 c5 w5 ho5 hg5 hb5 hat5; have hB5 := below_tr (below_keep hbU hB4) hb5; have k1 := At.below k0 hB5 k1l0; have k1c := k1.c; have k1f := k1.f; have k1l := k1.lt)
    have hor := or_one dN (by omega)
    go_wp2_with (at_builtin; refine wpList_app rfl (.tmp 84) (.tmp 86) rfl w0.heap.size 17 c5 A5 ([6] ++ u8L tx ++ u8L prev) rfl (ho5.alloc _) _ _ 1 1 _ [(dN : Int) * 2] rfl (BsR.of_at (l := [(dN : Int) * 2]) (At.new w5 _ _) rfl (Byt.cons (by omega) (by omega) Byt.nil)) (by omega) (Nat.le_trans hB5.size (ge_new _ _)) ?_; intro A6 c6 w6 ho6 hg6 hb6 hat6; have hB6 := below_tr (below_al hB5) hb6; clear k1 k1c k1f k1l; have k1 := At.below k0 hB6 k1l0; have k1c := k1.c; have k1f := k1.f; have k1l := k1.lt)
    clear hor
    go_loopw [4, 91] (fun v4 v91 wr => ∃ (j n : Nat) (A : Option Addr) (c : Nat), j ≤ dN ∧ n = 18 + 10 * j ∧ v91 = .int .i64 j ∧ v4 = .slice A n c ∧ OwB wr w0.heap.size A n c ([6] ++ u8L tx ++ u8L prev ++ [(dN : Int) * 2] ++ (dl.take j).flatMap drL) ∧ Below w0.heap.size w0 wr) (fun _ v91 _ => dN - (intOf v91).toNat)
    case atStart => exact ⟨0, 18, A6, c6, by omega, rfl, rfl, rfl, by simpa using ho6, hB6⟩
    case round =>
      clear k1 k1c k1f k1l hbU hu hg5 hat5 hb5 hb6 hg6 hat6 ho5 ho4 hB4 hB5 ho6 hB6
      obtain ⟨j, n, A, c, hj, hn0, rfl, rfl, ho, hBr⟩ := hrel
      have hnl : n ≤ 658 := by omega
      have hn' := Lib.hid hn0
      clear hn0
      by_cases hlt : j < dN
      · obtain ⟨gb, go', rfl, -, hgb, hc1, hc2⟩ := hl.at_ hlt
        have hwr := below_tr hB (hBr.mono hB.size)
        replace hc1 := (hwr.cell (p := ⟨gb, go' + j * 2, none⟩) hgb).trans hc1
        replace hc2 := (hwr.cell (p := ⟨gb, go' + j * 2 + 1, none⟩) hgb).trans hc2
        have hjl : j < dl.length := by rw [hln.out]; exact hlt
        have hpg := (dirtyOk_iff dl (-1)).1 hdo'.out j hjl
        have hsn := hpr'.out (dl.getD j (0, 0)) (by simp [hjl])
        have htk : (dl.take (j + 1)).flatMap drL = (dl.take j).flatMap drL ++ (twoL (dl.getD j (0, 0)).1 ++ u8L (dl.getD j (0, 0)).2) := by
          rw [List.take_succ_eq_append_getElem hjl, List.flatMap_append]; simp [drL, hjl]
        have htk' := Lib.hid htk
        clear htk
        have hp0' := hpg.1
        have hp1' := hpg.2.1
        have hs0 := hsn.1
        have hs1 := hsn.2
        clear hpg hsn hjl
        generalize (dl.getD j (0, 0)).1 = pg at *
        generalize (dl.getD j (0, 0)).2 = sn at *
        have htw := twoL_byt pg hp0' (by omega)
        have htw' := Lib.hid htw
        clear htw
        have hj0 : (0 : Int) ≤ j := by omega
        have hj1 : (j : Int) < dN := by omega
        go_upto_region 21 with (fail)
        have kd : At (wr.alloc (.cells #[.int .i64 pg, .int .u64 sn] 94)) wr.heap.size #[.int .i64 pg, .int .u64 sn] 94 := At.new _ _ _
        have hod := ho.alloc (.cells #[.int .i64 pg, .int .u64 sn] 94)
        have hBd := below_al (O := .cells #[.int .i64 pg, .int .u64 sn] 94) hBr
        have hDlt := ho.lt
        have hneD : some wr.heap.size ≠ ownBlk A := fun e => by have := (hDlt _ e.symm).2; omega
        have hDlt' := Lib.hid hDlt
        clear hDlt
        generalize (wr.alloc (.cells #[.int .i64 pg, .int .u64 sn] 94)) = wd at *
        have hDl := kd.lt
        generalize wr.heap.size = D at *
        have kdc := kd.c
        have hw1 : IntKind.u8.wrap (pg / 256) = pg / 256 := IntWalk.u8_in _ (by omega)
        have hw2 : IntKind.u8.wrap pg = pg % 256 := IntKind.wrap_u8 pg
        go_region_held3 (fun w' => At w' D #[.int .i64 pg, .int .u64 sn] 94 ∧ (∀ o, w'.cell? ⟨D, o, none⟩ = #[.int .i64 pg, .int .u64 sn][o]?))
          (first
            | (exact ⟨kd.drew, kd.drew.c⟩)
            | (exact ⟨(kd.alloc _).drew, (kd.alloc _).drew.c⟩)
            | (have s := At.grown (kd.alloc _).drew hg7 hneD; exact ⟨s, s.c⟩)
            | (have s := At.keep hbU (At.grown (kd.alloc _).drew hg7 hneD); exact ⟨s, s.c⟩)
            | (have s := At.grown (At.keep hbU (At.grown (kd.alloc _).drew hg7 hneD)) hg8 (ne_next hat7 hneD (kd.alloc _).drew.lt); exact ⟨s, s.c⟩))
          (first
            | (go_at_call 63; refine (uint_g sn hs0 hs1 _).mono ?_; rintro e wU ⟨gU, rfl, hu, hgU, hul, hbU⟩)
            | (refine step_app (by rfl) (.tmp 95) (.tmp 103) (by rfl) w0.heap.size n c A _ (by rfl) ((hod.alloc _).drew) _ _ 2 2 _ (twoL pg) (by rfl) (BsR.of_at (l := twoL pg) (At.new wd _ _).drew rfl htw'.out) (by omega) (Nat.le_trans hBd.size (ge_new _ _)) ?_; intro A7 c7 w7 ho7 hg7 hb7 hat7)
            | (refine step_app (by rfl) (.tmp 104) (.tmp 107) (by rfl) w0.heap.size (n + 2) c7 A7 _ (by rfl) (ho7.later hbU) _ _ 8 8 _ (u8L sn) (by rfl) hu (by omega) (Nat.le_trans (Nat.le_trans (Nat.le_trans hBd.size (ge_new _ _)) hb7.size) hbU.size) ?_; intro A8 c8 w8 ho8 hg8 hb8 hat8))
        clear hw1 hw2 kdc
        go_wp2
        go_roundw
        case rel => exact ⟨j + 1, n + 2 + 8, A8, c8, by omega, by have := hn'.out; omega, by go_num, rfl, by rw [htk'.out]; simpa [List.append_assoc] using ho8, below_tr (below_keep hbU (below_tr (below_dr (below_al hBd)) hb7)) hb8⟩
        case measure => simp [intOf]; omega
      · obtain rfl : j = dN := by omega
        go_wp2_with fail
        refine (sum_calls A (n) c ([6] ++ u8L tx ++ u8L prev ++ [(j : Int) * 2] ++ (dl.take j).flatMap drL) wr (ho.reads.bs (Nat.le_refl _)) (by omega)).mono ?_
        rintro e wS ⟨rfl, rfl⟩
        have hsr := sumL_range ([6] ++ u8L tx ++ u8L prev ++ [(j : Int) * 2] ++ (dl.take j).flatMap drL)
        generalize hss : sumL ([6] ++ u8L tx ++ u8L prev ++ [(j : Int) * 2] ++ (dl.take j).flatMap drL) = ss at *
        have hss' := Lib.hid hss
        clear hss
        go_wp2_with (at_builtin; refine wpList_app rfl (.tmp 112) (.tmp 124) rfl w0.heap.size (n) c A ([6] ++ u8L tx ++ u8L prev ++ [(j : Int) * 2] ++ (dl.take j).flatMap drL) rfl (ho.alloc _) _ _ 4 4 _ (fourL ss) rfl (BsR.of_at (l := fourL ss) (At.new wr _ _) rfl (fourL_byt ss hsr)) (by omega) (Nat.le_trans hBr.size (ge_new _ _)) ?_; intro A9 c9 w9 ho9 hg9 hb9 hat9)
        go_ret2
        refine ⟨A9, c9, _, rfl, ?_, below_tr hB ((below_tr (below_al hBr) hb9).mono (Nat.le_of_lt k1l0))⟩
        have e : encL 6 tx prev page off next bl al dl false = [6] ++ u8L tx ++ u8L prev ++ [(j : Int) * 2] ++ (dl.take j).flatMap drL ++ fourL ss := by
          have eb : bodyL 6 tx prev page off next bl al dl false = [6] ++ u8L tx ++ u8L prev ++ [(j : Int) * 2] ++ (dl.take j).flatMap drL := by
            rw [List.take_of_length_le (by rw [hln.out]; exact Nat.le_refl _)]
            simp only [bodyL, hln.out]
            simp
            rfl
          unfold encL; rw [eb, hss'.out]
        rw [e]; exact ho9.less hB.size
set_option linter.unusedVariables false in
set_option maxRecDepth 100000 in
set_option maxHeartbeats 4000000 in
theorem enc_6t (tx prev page off next : Int) (bA aA dA : Option Addr) (bN bC aN aC dN dC : Nat) (bl al : List Int) (dl : List (Int × Int)) (w : World) (hl : PrR w 0 w.heap.size dA dN dl) (hn : dN * 16 ≤ 140737488351232)
    (ht0 : 0 ≤ tx) (ht1 : tx < 18446744073709551616) (hp0 : 0 ≤ prev) (hp1 : prev < 18446744073709551616) (hf : formB 6 prev page off next bN aN dN true (dirtyOk (-1) dl) = true) (hpr : ∀ d ∈ dl, 0 ≤ d.2 ∧ d.2 < 18446744073709551616) :
    Calls Try.prog 23 #[.agg #[.int .u8 6, .int .u64 tx, .int .u64 prev, .int .i64 page, .int .i64 off, .slice bA bN bC, .slice aA aN aC, .int .u64 next, .slice dA dN dC, .bool true]] w (EncPost (encL 6 tx prev page off next bl al dl true) w) := by
  obtain ⟨hd64, hdo⟩ := check_of hf
  have hdo' := Lib.hid hdo
  clear hdo
  have hln := Lib.hid hl.1
  have hpr' := Lib.hid hpr
  clear hpr
  have hf' := Lib.hid hf
  clear hf
  go_enter Try.func23, Try.ntmps23
  go_upto_region 1 with (fail)
  have k0 := At.new w #[.int .u8 6, .int .u64 tx, .int .u64 prev, .int .i64 page, .int .i64 off, .slice bA bN bC, .slice aA aN aC, .int .u64 next, .slice dA dN dC, .bool true] 26
  have hB : Below w.heap.size w (w.alloc (.cells #[.int .u8 6, .int .u64 tx, .int .u64 prev, .int .i64 page, .int .i64 off, .slice bA bN bC, .slice aA aN aC, .int .u64 next, .slice dA dN dC, .bool true] 26)) := (Below.refl _ _).alloc (Nat.le_refl _) _
  have k1l0 : w.heap.size < (w.alloc (.cells #[.int .u8 6, .int .u64 tx, .int .u64 prev, .int .i64 page, .int .i64 off, .slice bA bN bC, .slice aA aN aC, .int .u64 next, .slice dA dN dC, .bool true] 26)).heap.size := k0.lt
  generalize (w.alloc (.cells #[.int .u8 6, .int .u64 tx, .int .u64 prev, .int .i64 page, .int .i64 off, .slice bA bN bC, .slice aA aN aC, .int .u64 next, .slice dA dN dC, .bool true] 26)) = w0 at *
  have k1 := k0
  have k1c := k1.c; have k1f := k1.f; have k1l := k1.lt
  go_wp2_with fail
  refine (form_at 6 tx prev page off next bA aA dA bN bC aN aC dN dC true dl true _ ⟨hl.1, (hl.2.below hB (Nat.le_refl _)).more hB.size⟩ hn hf'.out).mono ?_
  rintro e w1 ⟨rfl, hb1⟩
  clear k1 k1c k1f k1l
  have k1 := At.below k0 hb1 k1l0
  have k1c := k1.c; have k1f := k1.f; have k1l := k1.lt
  go_upto_region 3 with (fail)
  go_cut [4] (fun v4 wc => ∃ A c, v4 = .slice A 9 c ∧ OwB wc w0.heap.size A 9 c ([6] ++ u8L tx) ∧ Below w0.heap.size w0 wc)
  case first =>
    go_region_held3 (fun w' => At w' w.heap.size #[.int .u8 6, .int .u64 tx, .int .u64 prev, .int .i64 page, .int .i64 off, .slice bA bN bC, .slice aA aN aC, .int .u64 next, .slice dA dN dC, .bool true] 26 ∧ (∀ o, w'.cell? ⟨w.heap.size, o, none⟩ = #[.int .u8 6, .int .u64 tx, .int .u64 prev, .int .i64 page, .int .i64 off, .slice bA bN bC, .slice aA aN aC, .int .u64 next, .slice dA dN dC, .bool true][o]?))
      (first
        | (exact ⟨k1.drew, k1.drew.c⟩)
        | (exact ⟨(k1.drew.alloc _), (k1.drew.alloc _).c⟩)
        | (go_split_ands
           have hk3 := At.keep hbU (by assumption : At _ w.heap.size #[.int .u8 6, .int .u64 tx, .int .u64 prev, .int .i64 page, .int .i64 off, .slice bA bN bC, .slice aA aN aC, .int .u64 next, .slice dA dN dC, .bool true] 26)
           exact ⟨hk3, hk3.c⟩)
        | (go_split_ands
           have hk3 := At.below (by assumption : At _ w.heap.size #[.int .u8 6, .int .u64 tx, .int .u64 prev, .int .i64 page, .int .i64 off, .slice bA bN bC, .slice aA aN aC, .int .u64 next, .slice dA dN dC, .bool true] 26) hb4 k1l0
           exact ⟨hk3, hk3.c⟩)
        | (go_split_ands
           have hk3 := At.alloc (by assumption : At _ w.heap.size #[.int .u8 6, .int .u64 tx, .int .u64 prev, .int .i64 page, .int .i64 off, .slice bA bN bC, .slice aA aN aC, .int .u64 next, .slice dA dN dC, .bool true] 26) (.cells #[.int .u8 6] 5)
           exact ⟨hk3, hk3.c⟩))
      (first
        | (go_at_call 63; refine (uint_g tx ht0 ht1 _).mono ?_; rintro e wU ⟨gU, rfl, hu, hgU, hul, hbU⟩)
        | (refine step_app (by rfl) (.tmp 14) (.tmp 17) (by rfl) w0.heap.size 1 1 (some ⟨w1.heap.size, 0, none⟩) [6] (by rfl) (OwB.made (l := [6]) ((At.new w1 _ _).drew.keep hbU) rfl (Byt.cons (by omega) (by omega) Byt.nil) hb1.size (by decide)) _ _ 8 8 _ (u8L tx) (by rfl) hu (by omega) (Nat.le_trans hb1.size (ge_alloc hbU)) ?_; intro A4 c4 w4 ho4 hg4 hb4 hat4)
        | (refine step_app (by rfl) (.tmp 14) (.tmp 17) (by rfl) w0.heap.size 1 1 (some ⟨wU.heap.size, 0, none⟩) [6] (by rfl) (OwB.made (l := [6]) (At.new wU _ _) rfl (Byt.cons (by omega) (by omega) Byt.nil) (Nat.le_trans hb1.size (ge_drew hbU)) (by decide)) _ _ 8 8 _ (u8L tx) (by rfl) (hu.below (below_new wU _) (Nat.succ_le_of_lt hul)) (by omega) (Nat.le_trans hb1.size (Nat.le_trans (ge_drew hbU) (ge_new _ _))) ?_; intro A4 c4 w4 ho4 hg4 hb4 hat4))
    all_goals (go_wp2_with fail; go_meet)
    all_goals (case rel => first | exact ⟨A4, c4, rfl, ho4, below_tr (below_keep hbU (below_dr (below_al hb1))) hb4⟩ | exact ⟨A4, c4, rfl, ho4, below_tr (below_al (below_keep hbU (below_dr hb1))) hb4⟩)
  case rest =>
    clear k1 k1c k1f k1l hb1
    obtain ⟨A4, c4, rfl, ho4, hB4⟩ := hcut
    have k1 := At.below k0 hB4 k1l0
    have k1c := k1.c; have k1f := k1.f; have k1l := k1.lt
    go_wp2_with fail
    refine (uint_g prev hp0 hp1 _).mono ?_
    rintro e wU ⟨gU, rfl, hu, hgU, hul, hbU⟩
    clear k1 k1c k1f k1l
    go_upto_region 14 with (at_builtin; refine wpList_app rfl (.tmp 22) (.tmp 25) rfl w0.heap.size 9 c4 A4 ([6] ++ u8L tx) rfl (ho4.later hbU) _ _ 8 8 _ (u8L prev) rfl hu (by omega) (Nat.le_trans hB4.size hbU.size) ?_; intro A5 c5 w5 ho5 hg5 hb5 hat5; have hB5 := below_tr (below_keep hbU hB4) hb5; have k1 := At.below k0 hB5 k1l0; have k1c := k1.c; have k1f := k1.f; have k1l := k1.lt)
    have hor := or_one dN (by omega)
    go_wp2_with (at_builtin; refine wpList_app rfl (.tmp 84) (.tmp 86) rfl w0.heap.size 17 c5 A5 ([6] ++ u8L tx ++ u8L prev) rfl (ho5.alloc _) _ _ 1 1 _ [(dN : Int) * 2 + 1] rfl (BsR.of_at (l := [(dN : Int) * 2 + 1]) (At.new w5 _ _) rfl (Byt.cons (by omega) (by omega) Byt.nil)) (by omega) (Nat.le_trans hB5.size (ge_new _ _)) ?_; intro A6 c6 w6 ho6 hg6 hb6 hat6; have hB6 := below_tr (below_al hB5) hb6; clear k1 k1c k1f k1l; have k1 := At.below k0 hB6 k1l0; have k1c := k1.c; have k1f := k1.f; have k1l := k1.lt)
    clear hor
    go_loopw [4, 91] (fun v4 v91 wr => ∃ (j n : Nat) (A : Option Addr) (c : Nat), j ≤ dN ∧ n = 18 + 10 * j ∧ v91 = .int .i64 j ∧ v4 = .slice A n c ∧ OwB wr w0.heap.size A n c ([6] ++ u8L tx ++ u8L prev ++ [(dN : Int) * 2 + 1] ++ (dl.take j).flatMap drL) ∧ Below w0.heap.size w0 wr) (fun _ v91 _ => dN - (intOf v91).toNat)
    case atStart => exact ⟨0, 18, A6, c6, by omega, rfl, rfl, rfl, by simpa using ho6, hB6⟩
    case round =>
      clear k1 k1c k1f k1l hbU hu hg5 hat5 hb5 hb6 hg6 hat6 ho5 ho4 hB4 hB5 ho6 hB6
      obtain ⟨j, n, A, c, hj, hn0, rfl, rfl, ho, hBr⟩ := hrel
      have hnl : n ≤ 658 := by omega
      have hn' := Lib.hid hn0
      clear hn0
      by_cases hlt : j < dN
      · obtain ⟨gb, go', rfl, -, hgb, hc1, hc2⟩ := hl.at_ hlt
        have hwr := below_tr hB (hBr.mono hB.size)
        replace hc1 := (hwr.cell (p := ⟨gb, go' + j * 2, none⟩) hgb).trans hc1
        replace hc2 := (hwr.cell (p := ⟨gb, go' + j * 2 + 1, none⟩) hgb).trans hc2
        have hjl : j < dl.length := by rw [hln.out]; exact hlt
        have hpg := (dirtyOk_iff dl (-1)).1 hdo'.out j hjl
        have hsn := hpr'.out (dl.getD j (0, 0)) (by simp [hjl])
        have htk : (dl.take (j + 1)).flatMap drL = (dl.take j).flatMap drL ++ (twoL (dl.getD j (0, 0)).1 ++ u8L (dl.getD j (0, 0)).2) := by
          rw [List.take_succ_eq_append_getElem hjl, List.flatMap_append]; simp [drL, hjl]
        have htk' := Lib.hid htk
        clear htk
        have hp0' := hpg.1
        have hp1' := hpg.2.1
        have hs0 := hsn.1
        have hs1 := hsn.2
        clear hpg hsn hjl
        generalize (dl.getD j (0, 0)).1 = pg at *
        generalize (dl.getD j (0, 0)).2 = sn at *
        have htw := twoL_byt pg hp0' (by omega)
        have htw' := Lib.hid htw
        clear htw
        have hj0 : (0 : Int) ≤ j := by omega
        have hj1 : (j : Int) < dN := by omega
        go_upto_region 21 with (fail)
        have kd : At (wr.alloc (.cells #[.int .i64 pg, .int .u64 sn] 94)) wr.heap.size #[.int .i64 pg, .int .u64 sn] 94 := At.new _ _ _
        have hod := ho.alloc (.cells #[.int .i64 pg, .int .u64 sn] 94)
        have hBd := below_al (O := .cells #[.int .i64 pg, .int .u64 sn] 94) hBr
        have hDlt := ho.lt
        have hneD : some wr.heap.size ≠ ownBlk A := fun e => by have := (hDlt _ e.symm).2; omega
        have hDlt' := Lib.hid hDlt
        clear hDlt
        generalize (wr.alloc (.cells #[.int .i64 pg, .int .u64 sn] 94)) = wd at *
        have hDl := kd.lt
        generalize wr.heap.size = D at *
        have kdc := kd.c
        have hw1 : IntKind.u8.wrap (pg / 256) = pg / 256 := IntWalk.u8_in _ (by omega)
        have hw2 : IntKind.u8.wrap pg = pg % 256 := IntKind.wrap_u8 pg
        go_region_held3 (fun w' => At w' D #[.int .i64 pg, .int .u64 sn] 94 ∧ (∀ o, w'.cell? ⟨D, o, none⟩ = #[.int .i64 pg, .int .u64 sn][o]?))
          (first
            | (exact ⟨kd.drew, kd.drew.c⟩)
            | (exact ⟨(kd.alloc _).drew, (kd.alloc _).drew.c⟩)
            | (have s := At.grown (kd.alloc _).drew hg7 hneD; exact ⟨s, s.c⟩)
            | (have s := At.keep hbU (At.grown (kd.alloc _).drew hg7 hneD); exact ⟨s, s.c⟩)
            | (have s := At.grown (At.keep hbU (At.grown (kd.alloc _).drew hg7 hneD)) hg8 (ne_next hat7 hneD (kd.alloc _).drew.lt); exact ⟨s, s.c⟩))
          (first
            | (go_at_call 63; refine (uint_g sn hs0 hs1 _).mono ?_; rintro e wU ⟨gU, rfl, hu, hgU, hul, hbU⟩)
            | (refine step_app (by rfl) (.tmp 95) (.tmp 103) (by rfl) w0.heap.size n c A _ (by rfl) ((hod.alloc _).drew) _ _ 2 2 _ (twoL pg) (by rfl) (BsR.of_at (l := twoL pg) (At.new wd _ _).drew rfl htw'.out) (by omega) (Nat.le_trans hBd.size (ge_new _ _)) ?_; intro A7 c7 w7 ho7 hg7 hb7 hat7)
            | (refine step_app (by rfl) (.tmp 104) (.tmp 107) (by rfl) w0.heap.size (n + 2) c7 A7 _ (by rfl) (ho7.later hbU) _ _ 8 8 _ (u8L sn) (by rfl) hu (by omega) (Nat.le_trans (Nat.le_trans (Nat.le_trans hBd.size (ge_new _ _)) hb7.size) hbU.size) ?_; intro A8 c8 w8 ho8 hg8 hb8 hat8))
        clear hw1 hw2 kdc
        go_wp2
        go_roundw
        case rel => exact ⟨j + 1, n + 2 + 8, A8, c8, by omega, by have := hn'.out; omega, by go_num, rfl, by rw [htk'.out]; simpa [List.append_assoc] using ho8, below_tr (below_keep hbU (below_tr (below_dr (below_al hBd)) hb7)) hb8⟩
        case measure => simp [intOf]; omega
      · obtain rfl : j = dN := by omega
        go_wp2_with fail
        refine (sum_calls A (n) c ([6] ++ u8L tx ++ u8L prev ++ [(j : Int) * 2 + 1] ++ (dl.take j).flatMap drL) wr (ho.reads.bs (Nat.le_refl _)) (by omega)).mono ?_
        rintro e wS ⟨rfl, rfl⟩
        have hsr := sumL_range ([6] ++ u8L tx ++ u8L prev ++ [(j : Int) * 2 + 1] ++ (dl.take j).flatMap drL)
        generalize hss : sumL ([6] ++ u8L tx ++ u8L prev ++ [(j : Int) * 2 + 1] ++ (dl.take j).flatMap drL) = ss at *
        have hss' := Lib.hid hss
        clear hss
        go_wp2_with (at_builtin; refine wpList_app rfl (.tmp 112) (.tmp 124) rfl w0.heap.size (n) c A ([6] ++ u8L tx ++ u8L prev ++ [(j : Int) * 2 + 1] ++ (dl.take j).flatMap drL) rfl (ho.alloc _) _ _ 4 4 _ (fourL ss) rfl (BsR.of_at (l := fourL ss) (At.new wr _ _) rfl (fourL_byt ss hsr)) (by omega) (Nat.le_trans hBr.size (ge_new _ _)) ?_; intro A9 c9 w9 ho9 hg9 hb9 hat9)
        go_ret2
        refine ⟨A9, c9, _, rfl, ?_, below_tr hB ((below_tr (below_al hBr) hb9).mono (Nat.le_of_lt k1l0))⟩
        have e : encL 6 tx prev page off next bl al dl true = [6] ++ u8L tx ++ u8L prev ++ [(j : Int) * 2 + 1] ++ (dl.take j).flatMap drL ++ fourL ss := by
          have eb : bodyL 6 tx prev page off next bl al dl true = [6] ++ u8L tx ++ u8L prev ++ [(j : Int) * 2 + 1] ++ (dl.take j).flatMap drL := by
            rw [List.take_of_length_le (by rw [hln.out]; exact Nat.le_refl _)]
            simp only [bodyL, hln.out]
            simp
            rfl
          unfold encL; rw [eb, hss'.out]
        rw [e]; exact ho9.less hB.size
set_option maxRecDepth 100000 in
theorem enc_no (k tx prev page off next : Int) (bA aA dA : Option Addr) (bN bC aN aC dN dC : Nat) (opn : Bool) (dl : List (Int × Int)) (w : World) (hl : PrR w 0 w.heap.size dA dN dl) (hn : dN * 16 ≤ 140737488351232) (hf : formB k prev page off next bN aN dN opn (dirtyOk (-1) dl) = false) :
    Calls Try.prog 23 #[.agg #[.int .u8 k, .int .u64 tx, .int .u64 prev, .int .i64 page, .int .i64 off, .slice bA bN bC, .slice aA aN aC, .int .u64 next, .slice dA dN dC, .bool opn]] w fun e w' => e = .returned (.tuple #[.slice none 0 0, .int .i64 3]) ∧ Below w.heap.size w w' := by
  have hf' := Lib.hid hf
  clear hf
  go_enter Try.func23, Try.ntmps23
  go_upto_region 1 with (fail)
  have k0 := At.new w #[.int .u8 k, .int .u64 tx, .int .u64 prev, .int .i64 page, .int .i64 off, .slice bA bN bC, .slice aA aN aC, .int .u64 next, .slice dA dN dC, .bool opn] 26
  have hB : Below w.heap.size w (w.alloc (.cells #[.int .u8 k, .int .u64 tx, .int .u64 prev, .int .i64 page, .int .i64 off, .slice bA bN bC, .slice aA aN aC, .int .u64 next, .slice dA dN dC, .bool opn] 26)) := (Below.refl _ _).alloc (Nat.le_refl _) _
  generalize (w.alloc (.cells #[.int .u8 k, .int .u64 tx, .int .u64 prev, .int .i64 page, .int .i64 off, .slice bA bN bC, .slice aA aN aC, .int .u64 next, .slice dA dN dC, .bool opn] 26)) = w0 at *
  have k0c := k0.c; have k0f := k0.f; have k0l := k0.lt
  go_wp2_with fail
  refine (form_at k tx prev page off next bA aA dA bN bC aN aC dN dC opn dl false _ ⟨hl.1, (hl.2.below hB (Nat.le_refl _)).more hB.size⟩ hn hf'.out).mono ?_
  rintro e w1 ⟨rfl, hb1⟩
  clear k0 k0c k0f k0l
  go_wp2
  go_ret2
  exact ⟨rfl, below_tr hB (hb1.mono hB.size)⟩
/-- A record that an argument holds: its slices read as these lists; its numbers are of their kinds. -/
structure RecIn (w : World) (k tx prev page off next : Int) (bA aA dA : Option Addr) (bN bC aN aC dN dC : Nat) (opn : Bool) (bl al : List Int) (dl : List (Int × Int)) : Prop where
  k0 : 0 ≤ k
  k1 : k ≤ 255
  t0 : 0 ≤ tx
  t1 : tx < 18446744073709551616
  p0 : 0 ≤ prev
  p1 : prev < 18446744073709551616
  x0 : 0 ≤ next
  x1 : next < 18446744073709551616
  b : BsR w 0 w.heap.size bA bN bl
  a : BsR w 0 w.heap.size aA aN al
  d : PrR w 0 w.heap.size dA dN dl
  bn : bN ≤ 140737488351232
  an : aN ≤ 140737488351232
  dn : dN * 16 ≤ 140737488351232
  dr : ∀ x ∈ dl, 0 ≤ x.2 ∧ x.2 < 18446744073709551616
theorem RecIn.later {w w' : World} {k tx prev page off next : Int} {bA aA dA : Option Addr} {bN bC aN aC dN dC : Nat} {opn : Bool} {bl al : List Int} {dl : List (Int × Int)} (h : RecIn w k tx prev page off next bA aA dA bN bC aN aC dN dC opn bl al dl) (hb : Below w.heap.size w w') :
    RecIn w' k tx prev page off next bA aA dA bN bC aN aC dN dC opn bl al dl :=
  { h with
    b := (h.b.below hb (Nat.le_refl _)).more hb.size
    a := (h.a.below hb (Nat.le_refl _)).more hb.size
    d := ⟨h.d.1, (h.d.2.below hb (Nat.le_refl _)).more hb.size⟩ }
theorem enc_yes {k tx prev page off next : Int} {bA aA dA : Option Addr} {bN bC aN aC dN dC : Nat} {opn : Bool} {bl al : List Int} {dl : List (Int × Int)} {w : World} (h : RecIn w k tx prev page off next bA aA dA bN bC aN aC dN dC opn bl al dl) (hf : formB k prev page off next bN aN dN opn (dirtyOk (-1) dl) = true) :
    Calls Try.prog 23 #[.agg #[.int .u8 k, .int .u64 tx, .int .u64 prev, .int .i64 page, .int .i64 off, .slice bA bN bC, .slice aA aN aC, .int .u64 next, .slice dA dN dC, .bool opn]] w (EncPost (encL k tx prev page off next bl al dl opn) w) := by
  have hk : k = 1 ∨ k = 4 ∨ k = 5 ∨ k = 2 ∨ k = 3 ∨ k = 6 := by
    unfold formB at hf
    by_cases h1 : k = 1
    · omega
    by_cases h2 : k = 4 ∨ k = 5
    · omega
    by_cases h3 : k = 2
    · omega
    by_cases h4 : k = 3
    · omega
    by_cases h5 : k = 6
    · omega
    rw [if_neg h1, if_neg h2, if_neg h3, if_neg h4, if_neg h5] at hf
    cases hf
  rcases hk with rfl | rfl | rfl | rfl | rfl | rfl
  · exact enc_1 tx prev page off next bA aA dA bN bC aN aC dN dC opn bl al dl w h.d h.dn h.t0 h.t1 h.p0 h.p1 hf
  · exact enc_4 tx prev page off next bA aA dA bN bC aN aC dN dC opn bl al dl w h.d h.dn h.t0 h.t1 h.p0 h.p1 hf
  · exact enc_5 tx prev page off next bA aA dA bN bC aN aC dN dC opn bl al dl w h.d h.dn h.t0 h.t1 h.p0 h.p1 hf
  · exact enc_2 tx prev page off next bA aA dA bN bC aN aC dN dC opn bl al dl w h.d h.dn h.t0 h.t1 h.p0 h.p1 hf h.b h.a
  · exact enc_3 tx prev page off next bA aA dA bN bC aN aC dN dC opn bl al dl w h.d h.dn h.t0 h.t1 h.p0 h.p1 hf h.b h.a h.x0 h.x1
  · cases opn
    · exact enc_6f tx prev page off next bA aA dA bN bC aN aC dN dC bl al dl w h.d h.dn h.t0 h.t1 h.p0 h.p1 hf h.dr
    · exact enc_6t tx prev page off next bA aA dA bN bC aN aC dN dC bl al dl w h.d h.dn h.t0 h.t1 h.p0 h.p1 hf h.dr
end Go.Proofs.Ytjgomebnlekddaa
