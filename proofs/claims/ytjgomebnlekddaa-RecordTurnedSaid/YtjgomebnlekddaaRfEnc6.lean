/- The reference's Encode of a record by its contract: Check. -/
import Derived.Test.YtjgomebnlekddaaRfEnc2
import Derived.Test.YtjgomebnlekddaaRcPlain2
import Derived.Deep.LoopGhost
namespace Go.Proofs.Ytjgomebnlekddaa
set_option linter.unusedVariables false
set_option linter.unusedSimpArgs false
open Go.RowKit
theorem below_al2 {B : Nat} {w0 w1 : World} {O : Obj} (h : Below B w0 w1) (hs : B ≤ w1.heap.size) : Below B w0 (w1.alloc O) := h.alloc hs _
set_option linter.unusedVariables false in
set_option maxRecDepth 100000 in
set_option maxHeartbeats 8000000 in
theorem renc_6f (tx prev page off next : Int) (bA aA dA : Option Addr) (bN bC aN aC dN dC : Nat) (opn : Bool) (bl al : List Int) (dl : List (Int × Int)) (w : World) (ht0 : 0 ≤ tx) (ht1 : tx < 18446744073709551616) (hp0 : 0 ≤ prev) (hp1 : prev < 18446744073709551616) (hl : PrR w 0 w.heap.size dA dN dl) (hdr : ∀ x ∈ dl, 0 ≤ x.2 ∧ x.2 < 18446744073709551616) (hf : formB 6 prev page off next bN aN dN false (dirtyOk (-1) dl) = true) :
    Calls Try.prog 60 #[.agg #[.int .u8 6, .int .u64 tx, .int .u64 prev, .int .i64 page, .int .i64 off, .slice bA bN bC, .slice aA aN aC, .int .u64 next, .slice dA dN dC, .bool false]] w (REncPost (encL 6 tx prev page off next bl al dl false) w) := by
  obtain ⟨hd64, hdo⟩ := check_of hf
  have hln := Lib.hid hl.1
  have hall := Lib.hid (dirty_all dl _ hdo)
  have hdrx := Lib.hid hdr
  have hw : IntKind.u8.wrap (2 * (dN : Int)) = 2 * (dN : Int) := IntWalk.u8_in _ (by omega)
  clear hf hdo hdr
  go_enter Try.func60, Try.ntmps60
  go_upto_region 1 with (fail)
  have k0 := At.new w #[.int .u8 6, .int .u64 tx, .int .u64 prev, .int .i64 page, .int .i64 off, .slice bA bN bC, .slice aA aN aC, .int .u64 next, .slice dA dN dC, .bool false] 26
  have hB : Below w.heap.size w (w.alloc (.cells #[.int .u8 6, .int .u64 tx, .int .u64 prev, .int .i64 page, .int .i64 off, .slice bA bN bC, .slice aA aN aC, .int .u64 next, .slice dA dN dC, .bool false] 26)) := (Below.refl _ _).alloc (Nat.le_refl _) _
  have k1l0 : w.heap.size < (w.alloc (.cells #[.int .u8 6, .int .u64 tx, .int .u64 prev, .int .i64 page, .int .i64 off, .slice bA bN bC, .slice aA aN aC, .int .u64 next, .slice dA dN dC, .bool false] 26)).heap.size := k0.lt
  generalize (w.alloc (.cells #[.int .u8 6, .int .u64 tx, .int .u64 prev, .int .i64 page, .int .i64 off, .slice bA bN bC, .slice aA aN aC, .int .u64 next, .slice dA dN dC, .bool false] 26)) = w0 at *
  have k1 := k0
  have k1c := k1.c; have k1f := k1.f; have k1l := k1.lt
  go_upto_region 2 with (fail)
  have ho1 : OwB (w0.alloc (.cells #[.int .u8 6] 5)) w0.heap.size (some ⟨w0.heap.size, 0, none⟩) 1 1 [6] := OwB.made (l := [6]) (At.new w0 _ _) rfl (Byt.cons (by omega) (by omega) Byt.nil) (Nat.le_refl _) (by decide)
  have hB1 := below_new w0 (.cells #[.int .u8 6] 5)
  clear k1 k1c k1f k1l
  have k1 := At.below k0 hB1 k1l0
  have k1c := k1.c; have k1f := k1.f; have k1l := k1.lt
  generalize (w0.alloc (.cells #[.int .u8 6] 5)) = w1 at *
  obtain ⟨A1, hA1⟩ : ∃ A1, A1 = some (⟨w0.heap.size, 0, none⟩ : Addr) := ⟨_, rfl⟩
  rw [← hA1] at ho1 ⊢
  clear hA1
  go_wp2_with fail
  refine (ruint_calls tx ht0 ht1 _).mono ?_
  rintro e wU ⟨AU, cU, rfl, hu, hbU⟩
  have hoU := ho1.later hbU
  have hBU := below_tr hB1 (hbU.mono hB1.size)
  clear k1 k1c k1f k1l
  have k1 := At.below k0 hBU k1l0
  have k1c := k1.c; have k1f := k1.f; have k1l := k1.lt
  clear ho1 hB1 hbU
  go_wp2_with (at_builtin; refine wpList_app rfl (.tmp 10) (.tmp 13) rfl w0.heap.size (1) 1 A1 ([6]) rfl hoU _ _ 8 cU AU (u8L tx) rfl hu.reads (by omega) hBU.size ?_; clear k1 k1c k1f k1l; intro A1 c1 w1 ho1 hg1 hb1 hat1; have hB1 := below_tr hBU hb1; have k1 := At.below k0 hB1 k1l0; have k1c := k1.c; have k1f := k1.f; have k1l := k1.lt)
  clear hoU hBU hu hg1 hb1 hat1
  refine (ruint_calls prev hp0 hp1 _).mono ?_
  rintro e wU ⟨AU, cU, rfl, hu, hbU⟩
  have hoU := ho1.later hbU
  have hBU := below_tr hB1 (hbU.mono hB1.size)
  clear k1 k1c k1f k1l
  have k1 := At.below k0 hBU k1l0
  have k1c := k1.c; have k1f := k1.f; have k1l := k1.lt
  clear ho1 hB1 hbU
  go_upto_region 17 with (at_builtin; refine wpList_app rfl (.tmp 18) (.tmp 21) rfl w0.heap.size (9) c1 A1 ([6] ++ u8L tx) rfl hoU _ _ 8 cU AU (u8L prev) rfl hu.reads (by omega) hBU.size ?_; clear k1 k1c k1f k1l; intro A1 c1 w1 ho1 hg1 hb1 hat1; have hB1 := below_tr hBU hb1; have k1 := At.below k0 hB1 k1l0; have k1c := k1.c; have k1f := k1.f; have k1l := k1.lt)
  clear hoU hBU hu hg1 hb1 hat1
  have hsz1 := hB1.size
  go_upto_region 18 with (at_builtin; refine wpList_app rfl (.tmp 74) (.tmp 77) rfl w0.heap.size 17 c1 A1 ([6] ++ u8L tx ++ u8L prev) rfl (ho1.alloc _) _ _ 1 1 (some ⟨w1.heap.size, 0, none⟩) [2 * (dN : Int)] rfl (BsR.of_at (l := [2 * (dN : Int)]) (At.new w1 _ _) rfl (Byt.cons (by omega) (by omega) Byt.nil)) (by omega) (Nat.le_trans hsz1 (ge_new _ _)) ?_; intro A2 c2 w2 ho2 hg2 hb2 hat2; have hB2 := below_tr (below_al2 hB1 hsz1) hb2; have k2 := At.below k0 hB2 k1l0; have k2c := k2.c; have k2f := k2.f; have k2l := k2.lt)
  clear k1 k1c k1f k1l ho1 hB1 hg2 hb2 hat2
  obtain ⟨A1, hA⟩ : ∃ A, A = A2 := ⟨_, rfl⟩
  subst hA
  obtain ⟨c1, hc⟩ : ∃ c, c = c2 := ⟨_, rfl⟩
  subst hc
  obtain ⟨w1, hw⟩ : ∃ x, x = w2 := ⟨_, rfl⟩
  subst hw
  obtain ⟨ho1, hB1, k1, k1c, k1f, k1l⟩ := And.intro ho2 (And.intro hB2 (And.intro k2 (And.intro k2c (And.intro k2f k2l))))
  clear ho2 hB2 k2 k2c k2f k2l
  clear hsz1 hw
  obtain ⟨pre, hpre⟩ : ∃ pre, pre = [6] ++ u8L tx ++ u8L prev ++ [2 * (dN : Int)] := ⟨_, rfl⟩
  rw [← hpre] at ho1
  have hpre' := Lib.hid hpre
  clear hpre
  go_upto_region 19 with (fail)
  go_loopw [3, 5] (fun v3 v5 wr => ∃ (j : Nat) (A : Option Addr) (c : Nat), j ≤ dN ∧ v5 = .int .i64 j ∧ v3 = .slice A (18 + 10 * j) c ∧ OwB wr w0.heap.size A (18 + 10 * j) c (pre ++ (dl.take j).flatMap drL) ∧ Below w0.heap.size w0 wr) (fun _ v5 _ => dN - (intOf v5).toNat)
  case atStart => exact ⟨0, A1, c1, Nat.zero_le _, rfl, rfl, by simpa using ho1, hB1⟩
  case round =>
    clear ho1 hB1 k1 k1c k1f k1l
    obtain ⟨j, A1, c1, hj, rfl, rfl, ho1, hB1⟩ := hrel
    obtain ⟨w1, hw1⟩ : ∃ x, x = wr := ⟨_, rfl⟩
    subst hw1
    have k1 := At.below k0 hB1 k1l0
    have k1c := k1.c; have k1f := k1.f; have k1l := k1.lt
    by_cases hlt : j < dN
    · have hl' := Lib.hid hl
      obtain ⟨gb, go', rfl, -, hgb, hc1, hc2⟩ := hl.at_ hlt
      have hB0 := below_tr hB (hB1.mono hB.size)
      have hx1 := (hB0.cell (p := ⟨gb, go' + j * 2, none⟩) hgb).trans hc1
      have hx2 := (hB0.cell (p := ⟨gb, go' + j * 2 + 1, none⟩) hgb).trans hc2
      have hmem : dl.getD j (0, 0) ∈ dl := by
        have : dl.getD j (0, 0) = dl[j]'(by rw [hln.out]; exact hlt) := by simp [hln.out, hlt]
        rw [this]; exact List.getElem_mem _
      have hst : (dl.take (j + 1)).flatMap drL = (dl.take j).flatMap drL ++ (twoL (dl.getD j (0, 0)).1 ++ u8L (dl.getD j (0, 0)).2) := by
        rw [List.take_succ_eq_append_getElem (by rw [hln.out]; exact hlt), List.flatMap_append]
        simp [drL, hln.out, hlt]
      have hst' := Lib.hid hst
      have hm1 := hall.out _ hmem
      have hm2 := hdrx.out _ hmem
      have hcc := Lib.hid (And.intro hc1 hc2)
      clear hst hmem hl hc1 hc2 hB0
      generalize dl.getD j (0, 0) = d at *
      have j0 : (0 : Int) ≤ j := by omega
      have j1 : (j : Int) < dN := by omega
      go_wp2_with fail
      refine (two_calls d.1 hm1.1 (by omega) _).mono ?_
      rintro e wU ⟨AU, cU, rfl, hu, hbU⟩
      have hoU := ho1.later hbU
      have hBU := below_tr hB1 (hbU.mono hB1.size)
      clear k1 k1c k1f k1l
      have k1 := At.below k0 hBU k1l0
      have k1c := k1.c; have k1f := k1.f; have k1l := k1.lt
      clear ho1 hB1 hbU
      go_upto_region 22 with (at_builtin; refine wpList_app rfl (.tmp 86) (.tmp 93) rfl w0.heap.size (18 + 10 * j) c1 A1 (pre ++ (dl.take j).flatMap drL) rfl hoU _ _ 2 cU AU (twoL d.1) rfl hu.reads (by omega) hBU.size ?_; clear k1 k1c k1f k1l; intro A1 c1 w1 ho1 hg1 hb1 hat1; have hB1 := below_tr hBU hb1; have k1 := At.below k0 hB1 k1l0; have k1c := k1.c; have k1f := k1.f; have k1l := k1.lt)
      clear hoU hBU hu hg1 hb1 hat1
      have hB0 := below_tr hB (hB1.mono hB.size)
      have hy1 := (hB0.cell (p := ⟨gb, go' + j * 2, none⟩) hgb).trans hcc.out.1
      have hy2 := (hB0.cell (p := ⟨gb, go' + j * 2 + 1, none⟩) hgb).trans hcc.out.2
      clear hB0
      go_wp2_with fail
      refine (ruint_calls d.2 hm2.1 hm2.2 _).mono ?_
      rintro e wU ⟨AU, cU, rfl, hu, hbU⟩
      have hoU := ho1.later hbU
      have hBU := below_tr hB1 (hbU.mono hB1.size)
      clear k1 k1c k1f k1l
      have k1 := At.below k0 hBU k1l0
      have k1c := k1.c; have k1f := k1.f; have k1l := k1.lt
      clear ho1 hB1 hbU
      go_wp2_with (at_builtin; refine wpList_app rfl (.tmp 95) (.tmp 102) rfl w0.heap.size (18 + 10 * j + 2) c1 A1 (pre ++ (dl.take j).flatMap drL ++ twoL d.1) rfl hoU _ _ 8 cU AU (u8L d.2) rfl hu.reads (by omega) hBU.size ?_; clear k1 k1c k1f k1l; intro A1 c1 w1 ho1 hg1 hb1 hat1; have hB1 := below_tr hBU hb1; have k1 := At.below k0 hB1 k1l0; have k1c := k1.c; have k1f := k1.f; have k1l := k1.lt)
      clear hoU hBU hu hg1 hb1 hat1
      have ho2 : OwB w1 w0.heap.size A1 (18 + 10 * (j + 1)) c1 (pre ++ (dl.take (j + 1)).flatMap drL) := by
        rw [hst'.out]
        have h10 : 18 + 10 * (j + 1) = 18 + 10 * j + 2 + 8 := by omega
        rw [h10]
        simpa using ho1
      go_roundw
      case rel => exact ⟨j + 1, A1, c1, by omega, by go_num, by rw [show 18 + 10 * (j + 1) = 18 + 10 * j + 2 + 8 by omega], ho2, hB1⟩
      case measure => simp [intOf]; omega
    · obtain rfl : dN = j := by omega
      have j1 : ¬ (dN : Int) < (dN : Int) := by omega
      have htk : dl.take dN = dl := List.take_of_length_le (by rw [hln.out]; exact Nat.le_refl _)
      rw [htk] at ho1
      go_wp2_with fail
      refine (rsum_calls A1 (18 + 10 * dN) c1 (pre ++ dl.flatMap drL) w1 (ho1.reads.bs (Nat.le_refl _)) (by omega)).mono ?_
      rintro e wS ⟨rfl, rfl⟩
      have hsr := sumL_range (pre ++ dl.flatMap drL)
      generalize hss : sumL (pre ++ dl.flatMap drL) = ss at *
      have hss' := Lib.hid hss
      clear hss
      go_wp2_with fail
      refine (ruint_calls ss hsr.1 (by omega) w1).mono ?_
      rintro e wU ⟨AU, cU, rfl, hu, hbU⟩
      have hoU := ho1.later hbU
      have hBU := below_tr hB1 (hbU.mono hB1.size)
      have h8 := hu.le_cap
      have h84 : ¬ cU = 4 := by omega
      obtain ⟨ug, hug, h4⟩ := tail4 hu hsr
      subst hug
      clear ho1 hB1 hbU k1 k1c k1f k1l hu
      go_wp2_with (at_builtin; refine wpList_app rfl (.tmp 108) (.tmp 110) rfl w0.heap.size (18 + 10 * dN) c1 A1 (pre ++ dl.flatMap drL) rfl hoU _ _ 4 _ (some ⟨ug, 4, none⟩) (fourL ss) rfl h4 (by omega) hBU.size ?_; intro A9 c9 w9 ho9 hg9 hb9 hat9)
      go_ret
      refine ⟨A9, c9, _, by first | rfl | simp, ?_, below_tr hB ((below_tr hBU hb9).mono (Nat.le_of_lt k1l0))⟩
      have e : encL 6 tx prev page off next bl al dl false = pre ++ dl.flatMap drL ++ fourL ss := by
        rw [hpre'.out]
        unfold encL
        rw [show bodyL 6 tx prev page off next bl al dl false = [6] ++ u8L tx ++ u8L prev ++ [2 * (dN : Int)] ++ dl.flatMap drL from by
          unfold bodyL
          rw [hln.out, show (fun d : Int × Int => twoL d.1 ++ u8L d.2) = drL from rfl]
          simp [Int.mul_comm], ← hpre'.out, hss'.out]
      rw [e]; exact ho9.less hB.size
set_option linter.unusedVariables false in
set_option maxRecDepth 100000 in
set_option maxHeartbeats 8000000 in
theorem renc_6t (tx prev page off next : Int) (bA aA dA : Option Addr) (bN bC aN aC dN dC : Nat) (opn : Bool) (bl al : List Int) (dl : List (Int × Int)) (w : World) (ht0 : 0 ≤ tx) (ht1 : tx < 18446744073709551616) (hp0 : 0 ≤ prev) (hp1 : prev < 18446744073709551616) (hl : PrR w 0 w.heap.size dA dN dl) (hdr : ∀ x ∈ dl, 0 ≤ x.2 ∧ x.2 < 18446744073709551616) (hf : formB 6 prev page off next bN aN dN true (dirtyOk (-1) dl) = true) :
    Calls Try.prog 60 #[.agg #[.int .u8 6, .int .u64 tx, .int .u64 prev, .int .i64 page, .int .i64 off, .slice bA bN bC, .slice aA aN aC, .int .u64 next, .slice dA dN dC, .bool true]] w (REncPost (encL 6 tx prev page off next bl al dl true) w) := by
  obtain ⟨hd64, hdo⟩ := check_of hf
  have hln := Lib.hid hl.1
  have hall := Lib.hid (dirty_all dl _ hdo)
  have hdrx := Lib.hid hdr
  have hw : IntKind.u8.wrap (2 * (dN : Int) + 1) = 2 * (dN : Int) + 1 := IntWalk.u8_in _ (by omega)
  clear hf hdo hdr
  go_enter Try.func60, Try.ntmps60
  go_upto_region 1 with (fail)
  have k0 := At.new w #[.int .u8 6, .int .u64 tx, .int .u64 prev, .int .i64 page, .int .i64 off, .slice bA bN bC, .slice aA aN aC, .int .u64 next, .slice dA dN dC, .bool true] 26
  have hB : Below w.heap.size w (w.alloc (.cells #[.int .u8 6, .int .u64 tx, .int .u64 prev, .int .i64 page, .int .i64 off, .slice bA bN bC, .slice aA aN aC, .int .u64 next, .slice dA dN dC, .bool true] 26)) := (Below.refl _ _).alloc (Nat.le_refl _) _
  have k1l0 : w.heap.size < (w.alloc (.cells #[.int .u8 6, .int .u64 tx, .int .u64 prev, .int .i64 page, .int .i64 off, .slice bA bN bC, .slice aA aN aC, .int .u64 next, .slice dA dN dC, .bool true] 26)).heap.size := k0.lt
  generalize (w.alloc (.cells #[.int .u8 6, .int .u64 tx, .int .u64 prev, .int .i64 page, .int .i64 off, .slice bA bN bC, .slice aA aN aC, .int .u64 next, .slice dA dN dC, .bool true] 26)) = w0 at *
  have k1 := k0
  have k1c := k1.c; have k1f := k1.f; have k1l := k1.lt
  go_upto_region 2 with (fail)
  have ho1 : OwB (w0.alloc (.cells #[.int .u8 6] 5)) w0.heap.size (some ⟨w0.heap.size, 0, none⟩) 1 1 [6] := OwB.made (l := [6]) (At.new w0 _ _) rfl (Byt.cons (by omega) (by omega) Byt.nil) (Nat.le_refl _) (by decide)
  have hB1 := below_new w0 (.cells #[.int .u8 6] 5)
  clear k1 k1c k1f k1l
  have k1 := At.below k0 hB1 k1l0
  have k1c := k1.c; have k1f := k1.f; have k1l := k1.lt
  generalize (w0.alloc (.cells #[.int .u8 6] 5)) = w1 at *
  obtain ⟨A1, hA1⟩ : ∃ A1, A1 = some (⟨w0.heap.size, 0, none⟩ : Addr) := ⟨_, rfl⟩
  rw [← hA1] at ho1 ⊢
  clear hA1
  go_wp2_with fail
  refine (ruint_calls tx ht0 ht1 _).mono ?_
  rintro e wU ⟨AU, cU, rfl, hu, hbU⟩
  have hoU := ho1.later hbU
  have hBU := below_tr hB1 (hbU.mono hB1.size)
  clear k1 k1c k1f k1l
  have k1 := At.below k0 hBU k1l0
  have k1c := k1.c; have k1f := k1.f; have k1l := k1.lt
  clear ho1 hB1 hbU
  go_wp2_with (at_builtin; refine wpList_app rfl (.tmp 10) (.tmp 13) rfl w0.heap.size (1) 1 A1 ([6]) rfl hoU _ _ 8 cU AU (u8L tx) rfl hu.reads (by omega) hBU.size ?_; clear k1 k1c k1f k1l; intro A1 c1 w1 ho1 hg1 hb1 hat1; have hB1 := below_tr hBU hb1; have k1 := At.below k0 hB1 k1l0; have k1c := k1.c; have k1f := k1.f; have k1l := k1.lt)
  clear hoU hBU hu hg1 hb1 hat1
  refine (ruint_calls prev hp0 hp1 _).mono ?_
  rintro e wU ⟨AU, cU, rfl, hu, hbU⟩
  have hoU := ho1.later hbU
  have hBU := below_tr hB1 (hbU.mono hB1.size)
  clear k1 k1c k1f k1l
  have k1 := At.below k0 hBU k1l0
  have k1c := k1.c; have k1f := k1.f; have k1l := k1.lt
  clear ho1 hB1 hbU
  go_upto_region 17 with (at_builtin; refine wpList_app rfl (.tmp 18) (.tmp 21) rfl w0.heap.size (9) c1 A1 ([6] ++ u8L tx) rfl hoU _ _ 8 cU AU (u8L prev) rfl hu.reads (by omega) hBU.size ?_; clear k1 k1c k1f k1l; intro A1 c1 w1 ho1 hg1 hb1 hat1; have hB1 := below_tr hBU hb1; have k1 := At.below k0 hB1 k1l0; have k1c := k1.c; have k1f := k1.f; have k1l := k1.lt)
  clear hoU hBU hu hg1 hb1 hat1
  have hsz1 := hB1.size
  go_upto_region 18 with (at_builtin; refine wpList_app rfl (.tmp 74) (.tmp 77) rfl w0.heap.size 17 c1 A1 ([6] ++ u8L tx ++ u8L prev) rfl (ho1.alloc _) _ _ 1 1 (some ⟨w1.heap.size, 0, none⟩) [2 * (dN : Int) + 1] rfl (BsR.of_at (l := [2 * (dN : Int) + 1]) (At.new w1 _ _) rfl (Byt.cons (by omega) (by omega) Byt.nil)) (by omega) (Nat.le_trans hsz1 (ge_new _ _)) ?_; intro A2 c2 w2 ho2 hg2 hb2 hat2; have hB2 := below_tr (below_al2 hB1 hsz1) hb2; have k2 := At.below k0 hB2 k1l0; have k2c := k2.c; have k2f := k2.f; have k2l := k2.lt)
  clear k1 k1c k1f k1l ho1 hB1 hg2 hb2 hat2
  obtain ⟨A1, hA⟩ : ∃ A, A = A2 := ⟨_, rfl⟩
  subst hA
  obtain ⟨c1, hc⟩ : ∃ c, c = c2 := ⟨_, rfl⟩
  subst hc
  obtain ⟨w1, hw⟩ : ∃ x, x = w2 := ⟨_, rfl⟩
  subst hw
  obtain ⟨ho1, hB1, k1, k1c, k1f, k1l⟩ := And.intro ho2 (And.intro hB2 (And.intro k2 (And.intro k2c (And.intro k2f k2l))))
  clear ho2 hB2 k2 k2c k2f k2l
  clear hsz1 hw
  obtain ⟨pre, hpre⟩ : ∃ pre, pre = [6] ++ u8L tx ++ u8L prev ++ [2 * (dN : Int) + 1] := ⟨_, rfl⟩
  rw [← hpre] at ho1
  have hpre' := Lib.hid hpre
  clear hpre
  go_upto_region 19 with (fail)
  go_loopw [3, 5] (fun v3 v5 wr => ∃ (j : Nat) (A : Option Addr) (c : Nat), j ≤ dN ∧ v5 = .int .i64 j ∧ v3 = .slice A (18 + 10 * j) c ∧ OwB wr w0.heap.size A (18 + 10 * j) c (pre ++ (dl.take j).flatMap drL) ∧ Below w0.heap.size w0 wr) (fun _ v5 _ => dN - (intOf v5).toNat)
  case atStart => exact ⟨0, A1, c1, Nat.zero_le _, rfl, rfl, by simpa using ho1, hB1⟩
  case round =>
    clear ho1 hB1 k1 k1c k1f k1l
    obtain ⟨j, A1, c1, hj, rfl, rfl, ho1, hB1⟩ := hrel
    obtain ⟨w1, hw1⟩ : ∃ x, x = wr := ⟨_, rfl⟩
    subst hw1
    have k1 := At.below k0 hB1 k1l0
    have k1c := k1.c; have k1f := k1.f; have k1l := k1.lt
    by_cases hlt : j < dN
    · have hl' := Lib.hid hl
      obtain ⟨gb, go', rfl, -, hgb, hc1, hc2⟩ := hl.at_ hlt
      have hB0 := below_tr hB (hB1.mono hB.size)
      have hx1 := (hB0.cell (p := ⟨gb, go' + j * 2, none⟩) hgb).trans hc1
      have hx2 := (hB0.cell (p := ⟨gb, go' + j * 2 + 1, none⟩) hgb).trans hc2
      have hmem : dl.getD j (0, 0) ∈ dl := by
        have : dl.getD j (0, 0) = dl[j]'(by rw [hln.out]; exact hlt) := by simp [hln.out, hlt]
        rw [this]; exact List.getElem_mem _
      have hst : (dl.take (j + 1)).flatMap drL = (dl.take j).flatMap drL ++ (twoL (dl.getD j (0, 0)).1 ++ u8L (dl.getD j (0, 0)).2) := by
        rw [List.take_succ_eq_append_getElem (by rw [hln.out]; exact hlt), List.flatMap_append]
        simp [drL, hln.out, hlt]
      have hst' := Lib.hid hst
      have hm1 := hall.out _ hmem
      have hm2 := hdrx.out _ hmem
      have hcc := Lib.hid (And.intro hc1 hc2)
      clear hst hmem hl hc1 hc2 hB0
      generalize dl.getD j (0, 0) = d at *
      have j0 : (0 : Int) ≤ j := by omega
      have j1 : (j : Int) < dN := by omega
      go_wp2_with fail
      refine (two_calls d.1 hm1.1 (by omega) _).mono ?_
      rintro e wU ⟨AU, cU, rfl, hu, hbU⟩
      have hoU := ho1.later hbU
      have hBU := below_tr hB1 (hbU.mono hB1.size)
      clear k1 k1c k1f k1l
      have k1 := At.below k0 hBU k1l0
      have k1c := k1.c; have k1f := k1.f; have k1l := k1.lt
      clear ho1 hB1 hbU
      go_upto_region 22 with (at_builtin; refine wpList_app rfl (.tmp 86) (.tmp 93) rfl w0.heap.size (18 + 10 * j) c1 A1 (pre ++ (dl.take j).flatMap drL) rfl hoU _ _ 2 cU AU (twoL d.1) rfl hu.reads (by omega) hBU.size ?_; clear k1 k1c k1f k1l; intro A1 c1 w1 ho1 hg1 hb1 hat1; have hB1 := below_tr hBU hb1; have k1 := At.below k0 hB1 k1l0; have k1c := k1.c; have k1f := k1.f; have k1l := k1.lt)
      clear hoU hBU hu hg1 hb1 hat1
      have hB0 := below_tr hB (hB1.mono hB.size)
      have hy1 := (hB0.cell (p := ⟨gb, go' + j * 2, none⟩) hgb).trans hcc.out.1
      have hy2 := (hB0.cell (p := ⟨gb, go' + j * 2 + 1, none⟩) hgb).trans hcc.out.2
      clear hB0
      go_wp2_with fail
      refine (ruint_calls d.2 hm2.1 hm2.2 _).mono ?_
      rintro e wU ⟨AU, cU, rfl, hu, hbU⟩
      have hoU := ho1.later hbU
      have hBU := below_tr hB1 (hbU.mono hB1.size)
      clear k1 k1c k1f k1l
      have k1 := At.below k0 hBU k1l0
      have k1c := k1.c; have k1f := k1.f; have k1l := k1.lt
      clear ho1 hB1 hbU
      go_wp2_with (at_builtin; refine wpList_app rfl (.tmp 95) (.tmp 102) rfl w0.heap.size (18 + 10 * j + 2) c1 A1 (pre ++ (dl.take j).flatMap drL ++ twoL d.1) rfl hoU _ _ 8 cU AU (u8L d.2) rfl hu.reads (by omega) hBU.size ?_; clear k1 k1c k1f k1l; intro A1 c1 w1 ho1 hg1 hb1 hat1; have hB1 := below_tr hBU hb1; have k1 := At.below k0 hB1 k1l0; have k1c := k1.c; have k1f := k1.f; have k1l := k1.lt)
      clear hoU hBU hu hg1 hb1 hat1
      have ho2 : OwB w1 w0.heap.size A1 (18 + 10 * (j + 1)) c1 (pre ++ (dl.take (j + 1)).flatMap drL) := by
        rw [hst'.out]
        have h10 : 18 + 10 * (j + 1) = 18 + 10 * j + 2 + 8 := by omega
        rw [h10]
        simpa using ho1
      go_roundw
      case rel => exact ⟨j + 1, A1, c1, by omega, by go_num, by rw [show 18 + 10 * (j + 1) = 18 + 10 * j + 2 + 8 by omega], ho2, hB1⟩
      case measure => simp [intOf]; omega
    · obtain rfl : dN = j := by omega
      have j1 : ¬ (dN : Int) < (dN : Int) := by omega
      have htk : dl.take dN = dl := List.take_of_length_le (by rw [hln.out]; exact Nat.le_refl _)
      rw [htk] at ho1
      go_wp2_with fail
      refine (rsum_calls A1 (18 + 10 * dN) c1 (pre ++ dl.flatMap drL) w1 (ho1.reads.bs (Nat.le_refl _)) (by omega)).mono ?_
      rintro e wS ⟨rfl, rfl⟩
      have hsr := sumL_range (pre ++ dl.flatMap drL)
      generalize hss : sumL (pre ++ dl.flatMap drL) = ss at *
      have hss' := Lib.hid hss
      clear hss
      go_wp2_with fail
      refine (ruint_calls ss hsr.1 (by omega) w1).mono ?_
      rintro e wU ⟨AU, cU, rfl, hu, hbU⟩
      have hoU := ho1.later hbU
      have hBU := below_tr hB1 (hbU.mono hB1.size)
      have h8 := hu.le_cap
      have h84 : ¬ cU = 4 := by omega
      obtain ⟨ug, hug, h4⟩ := tail4 hu hsr
      subst hug
      clear ho1 hB1 hbU k1 k1c k1f k1l hu
      go_wp2_with (at_builtin; refine wpList_app rfl (.tmp 108) (.tmp 110) rfl w0.heap.size (18 + 10 * dN) c1 A1 (pre ++ dl.flatMap drL) rfl hoU _ _ 4 _ (some ⟨ug, 4, none⟩) (fourL ss) rfl h4 (by omega) hBU.size ?_; intro A9 c9 w9 ho9 hg9 hb9 hat9)
      go_ret
      refine ⟨A9, c9, _, by first | rfl | simp, ?_, below_tr hB ((below_tr hBU hb9).mono (Nat.le_of_lt k1l0))⟩
      have e : encL 6 tx prev page off next bl al dl true = pre ++ dl.flatMap drL ++ fourL ss := by
        rw [hpre'.out]
        unfold encL
        rw [show bodyL 6 tx prev page off next bl al dl true = [6] ++ u8L tx ++ u8L prev ++ [2 * (dN : Int) + 1] ++ dl.flatMap drL from by
          unfold bodyL
          rw [hln.out, show (fun d : Int × Int => twoL d.1 ++ u8L d.2) = drL from rfl]
          simp [Int.mul_comm], ← hpre'.out, hss'.out]
      rw [e]; exact ho9.less hB.size
theorem REncPost.of {l : List Int} {w : World} {e : Ending} {w' : World} (h : REncPost l w e w') : ∃ A c n, e = .returned (.slice A n c) ∧ OwB w' w.heap.size A n c l ∧ Below w.heap.size w w' := h
/-- The reference's Encode of a record. -/
theorem renc_rec {k tx prev page off next : Int} {bA aA dA : Option Addr} {bN bC aN aC dN dC : Nat} {opn : Bool} {bl al : List Int} {dl : List (Int × Int)} {w : World} (h : RecIn w k tx prev page off next bA aA dA bN bC aN aC dN dC opn bl al dl) (hf : formB k prev page off next bN aN dN opn (dirtyOk (-1) dl) = true) :
    Calls Try.prog 60 #[.agg #[.int .u8 k, .int .u64 tx, .int .u64 prev, .int .i64 page, .int .i64 off, .slice bA bN bC, .slice aA aN aC, .int .u64 next, .slice dA dN dC, .bool opn]] w (REncPost (encL k tx prev page off next bl al dl opn) w) := by
  have hk := (form_facts hf).1
  rcases hk with rfl | rfl | rfl | rfl | rfl | rfl
  · exact renc_1 tx prev page off next bA aA dA bN bC aN aC dN dC opn bl al dl w h.t0 h.t1 h.p0 h.p1
  · exact renc_4 tx prev page off next bA aA dA bN bC aN aC dN dC opn bl al dl w h.t0 h.t1 h.p0 h.p1
  · exact renc_5 tx prev page off next bA aA dA bN bC aN aC dN dC opn bl al dl w h.t0 h.t1 h.p0 h.p1
  · exact renc_2 tx prev page off next bA aA dA bN bC aN aC dN dC opn bl al dl w h.t0 h.t1 h.p0 h.p1 h.b h.a hf
  · exact renc_3 tx prev page off next bA aA dA bN bC aN aC dN dC opn bl al dl w h.t0 h.t1 h.p0 h.p1 h.b h.a h.x0 h.x1 hf
  · cases opn
    · exact renc_6f tx prev page off next bA aA dA bN bC aN aC dN dC false bl al dl w h.t0 h.t1 h.p0 h.p1 h.d h.dr hf
    · exact renc_6t tx prev page off next bA aA dA bN bC aN aC dN dC true bl al dl w h.t0 h.t1 h.p0 h.p1 h.d h.dr hf
end Go.Proofs.Ytjgomebnlekddaa
