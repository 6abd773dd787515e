/- The reference's Encode of a record by its contract: Update, Undo. -/
import Derived.Test.YtjgomebnlekddaaRfEnc
namespace Go.Proofs.Ytjgomebnlekddaa
set_option linter.unusedVariables false
set_option linter.unusedSimpArgs false
open Go.RowKit
set_option linter.unusedVariables false in
set_option maxRecDepth 100000 in
set_option maxHeartbeats 8000000 in
theorem renc_2 (tx prev page off next : Int) (bA aA dA : Option Addr) (bN bC aN aC dN dC : Nat) (opn : Bool) (bl al : List Int) (dl : List (Int × Int)) (w : World) (ht0 : 0 ≤ tx) (ht1 : tx < 18446744073709551616) (hp0 : 0 ≤ prev) (hp1 : prev < 18446744073709551616) (hbl : BsR w 0 w.heap.size bA bN bl) (hal : BsR w 0 w.heap.size aA aN al) (hf : formB 2 prev page off next bN aN dN opn (dirtyOk (-1) dl) = true) :
    Calls Try.prog 60 #[.agg #[.int .u8 2, .int .u64 tx, .int .u64 prev, .int .i64 page, .int .i64 off, .slice bA bN bC, .slice aA aN aC, .int .u64 next, .slice dA dN dC, .bool opn]] w (REncPost (encL 2 tx prev page off next bl al dl opn) w) := by
  obtain ⟨f1, f2, f3, f4, f5, f6, f7, f8, f9⟩ := place_of hf (by omega)
  have hla := Lib.hid hal.1
  clear f8 f9 hf
  go_enter Try.func60, Try.ntmps60
  go_upto_region 1 with (fail)
  have k0 := At.new w #[.int .u8 2, .int .u64 tx, .int .u64 prev, .int .i64 page, .int .i64 off, .slice bA bN bC, .slice aA aN aC, .int .u64 next, .slice dA dN dC, .bool opn] 26
  have hB : Below w.heap.size w (w.alloc (.cells #[.int .u8 2, .int .u64 tx, .int .u64 prev, .int .i64 page, .int .i64 off, .slice bA bN bC, .slice aA aN aC, .int .u64 next, .slice dA dN dC, .bool opn] 26)) := (Below.refl _ _).alloc (Nat.le_refl _) _
  have k1l0 : w.heap.size < (w.alloc (.cells #[.int .u8 2, .int .u64 tx, .int .u64 prev, .int .i64 page, .int .i64 off, .slice bA bN bC, .slice aA aN aC, .int .u64 next, .slice dA dN dC, .bool opn] 26)).heap.size := k0.lt
  generalize (w.alloc (.cells #[.int .u8 2, .int .u64 tx, .int .u64 prev, .int .i64 page, .int .i64 off, .slice bA bN bC, .slice aA aN aC, .int .u64 next, .slice dA dN dC, .bool opn] 26)) = w0 at *
  have k1 := k0
  have k1c := k1.c; have k1f := k1.f; have k1l := k1.lt
  go_upto_region 2 with (fail)
  have ho1 : OwB (w0.alloc (.cells #[.int .u8 2] 5)) w0.heap.size (some ⟨w0.heap.size, 0, none⟩) 1 1 [2] := OwB.made (l := [2]) (At.new w0 _ _) rfl (Byt.cons (by omega) (by omega) Byt.nil) (Nat.le_refl _) (by decide)
  have hB1 := below_new w0 (.cells #[.int .u8 2] 5)
  clear k1 k1c k1f k1l
  have k1 := At.below k0 hB1 k1l0
  have k1c := k1.c; have k1f := k1.f; have k1l := k1.lt
  generalize (w0.alloc (.cells #[.int .u8 2] 5)) = w1 at *
  obtain ⟨A1, hA1⟩ : ∃ A1, A1 = some (⟨w0.heap.size, 0, none⟩ : Addr) := ⟨_, rfl⟩
  rw [← hA1] at ho1 ⊢
  clear hA1
  go_wp2_with fail
  refine (ruint_calls tx ht0 ht1 _).mono ?_
  rintro e wU ⟨AU, cU, rfl, hu, hbU⟩
  have hoU := ho1.later hbU
  have hBU := below_tr hB1 (hbU.mono hB1.size)
  clear k1 k1c k1f k1l
  have k1 := At.below k0 hBU k1l0
  have k1c := k1.c; have k1f := k1.f; have k1l := k1.lt
  clear ho1 hB1 hbU
  go_wp2_with (at_builtin; refine wpList_app rfl (.tmp 10) (.tmp 13) rfl w0.heap.size (1) 1 A1 ([2]) rfl hoU _ _ 8 cU AU (u8L tx) rfl hu.reads (by omega) hBU.size ?_; clear k1 k1c k1f k1l; intro A1 c1 w1 ho1 hg1 hb1 hat1; have hB1 := below_tr hBU hb1; have k1 := At.below k0 hB1 k1l0; have k1c := k1.c; have k1f := k1.f; have k1l := k1.lt)
  clear hoU hBU hu hg1 hb1 hat1
  refine (ruint_calls prev hp0 hp1 _).mono ?_
  rintro e wU ⟨AU, cU, rfl, hu, hbU⟩
  have hoU := ho1.later hbU
  have hBU := below_tr hB1 (hbU.mono hB1.size)
  clear k1 k1c k1f k1l
  have k1 := At.below k0 hBU k1l0
  have k1c := k1.c; have k1f := k1.f; have k1l := k1.lt
  clear ho1 hB1 hbU
  go_wp2_with (at_builtin; refine wpList_app rfl (.tmp 18) (.tmp 21) rfl w0.heap.size (9) c1 A1 ([2] ++ u8L tx) rfl hoU _ _ 8 cU AU (u8L prev) rfl hu.reads (by omega) hBU.size ?_; clear k1 k1c k1f k1l; intro A1 c1 w1 ho1 hg1 hb1 hat1; have hB1 := below_tr hBU hb1; have k1 := At.below k0 hB1 k1l0; have k1c := k1.c; have k1f := k1.f; have k1l := k1.lt)
  clear hoU hBU hu hg1 hb1 hat1
  refine (two_calls page f1 (by omega) _).mono ?_
  rintro e wU ⟨AU, cU, rfl, hu, hbU⟩
  have hoU := ho1.later hbU
  have hBU := below_tr hB1 (hbU.mono hB1.size)
  clear k1 k1c k1f k1l
  have k1 := At.below k0 hBU k1l0
  have k1c := k1.c; have k1f := k1.f; have k1l := k1.lt
  clear ho1 hB1 hbU
  go_wp2_with (at_builtin; refine wpList_app rfl (.tmp 31) (.tmp 34) rfl w0.heap.size (17) c1 A1 ([2] ++ u8L tx ++ u8L prev) rfl hoU _ _ 2 cU AU (twoL page) rfl hu.reads (by omega) hBU.size ?_; clear k1 k1c k1f k1l; intro A1 c1 w1 ho1 hg1 hb1 hat1; have hB1 := below_tr hBU hb1; have k1 := At.below k0 hB1 k1l0; have k1c := k1.c; have k1f := k1.f; have k1l := k1.lt)
  clear hoU hBU hu hg1 hb1 hat1
  refine (two_calls off f3 (by omega) _).mono ?_
  rintro e wU ⟨AU, cU, rfl, hu, hbU⟩
  have hoU := ho1.later hbU
  have hBU := below_tr hB1 (hbU.mono hB1.size)
  clear k1 k1c k1f k1l
  have k1 := At.below k0 hBU k1l0
  have k1c := k1.c; have k1f := k1.f; have k1l := k1.lt
  clear ho1 hB1 hbU
  go_wp2_with (at_builtin; refine wpList_app rfl (.tmp 36) (.tmp 39) rfl w0.heap.size (19) c1 A1 ([2] ++ u8L tx ++ u8L prev ++ twoL page) rfl hoU _ _ 2 cU AU (twoL off) rfl hu.reads (by omega) hBU.size ?_; clear k1 k1c k1f k1l; intro A1 c1 w1 ho1 hg1 hb1 hat1; have hB1 := below_tr hBU hb1; have k1 := At.below k0 hB1 k1l0; have k1c := k1.c; have k1f := k1.f; have k1l := k1.lt)
  clear hoU hBU hu hg1 hb1 hat1
  refine (two_calls aN (by omega) (by omega) _).mono ?_
  rintro e wU ⟨AU, cU, rfl, hu, hbU⟩
  have hoU := ho1.later hbU
  have hBU := below_tr hB1 (hbU.mono hB1.size)
  clear k1 k1c k1f k1l
  have k1 := At.below k0 hBU k1l0
  have k1c := k1.c; have k1f := k1.f; have k1l := k1.lt
  clear ho1 hB1 hbU
  go_upto_region 9 with (at_builtin; refine wpList_app rfl (.tmp 41) (.tmp 45) rfl w0.heap.size (21) c1 A1 ([2] ++ u8L tx ++ u8L prev ++ twoL page ++ twoL off) rfl hoU _ _ 2 cU AU (twoL aN) rfl hu.reads (by omega) hBU.size ?_; clear k1 k1c k1f k1l; intro A1 c1 w1 ho1 hg1 hb1 hat1; have hB1 := below_tr hBU hb1; have k1 := At.below k0 hB1 k1l0; have k1c := k1.c; have k1f := k1.f; have k1l := k1.lt)
  clear hoU hBU hu hg1 hb1 hat1
  go_upto_region 10 with (at_builtin; refine wpList_app rfl (.tmp 47) (.tmp 49) rfl w0.heap.size (23) c1 A1 ([2] ++ u8L tx ++ u8L prev ++ twoL page ++ twoL off ++ twoL aN) rfl ho1 _ _ bN bC bA bl rfl (hbl.arg hB hB1) (by omega) hB1.size ?_; intro A2 c2 w2 ho2 hg2 hb2 hat2; have hB2 := below_tr hB1 hb2; have k2 := At.below k0 hB2 k1l0; have k2c := k2.c; have k2f := k2.f; have k2l := k2.lt)
  clear k1 k1c k1f k1l ho1 hB1 hg2 hb2 hat2
  obtain ⟨A1, hA⟩ : ∃ A, A = A2 := ⟨_, rfl⟩
  subst hA
  obtain ⟨c1, hc⟩ : ∃ c, c = c2 := ⟨_, rfl⟩
  subst hc
  obtain ⟨w1, hw⟩ : ∃ x, x = w2 := ⟨_, rfl⟩
  subst hw
  obtain ⟨ho1, hB1, k1, k1c, k1f, k1l⟩ := And.intro ho2 (And.intro hB2 (And.intro k2 (And.intro k2c (And.intro k2f k2l))))
  clear ho2 hB2 k2 k2c k2f k2l
  go_wp2_with (at_builtin; refine wpList_app rfl (.tmp 51) (.tmp 53) rfl w0.heap.size (23 + bN) c1 A1 ([2] ++ u8L tx ++ u8L prev ++ twoL page ++ twoL off ++ twoL aN ++ bl) rfl ho1 _ _ aN aC aA al rfl (hal.arg hB hB1) (by omega) hB1.size ?_; intro A2 c2 w2 ho2 hg2 hb2 hat2; have hB2 := below_tr hB1 hb2; have k2 := At.below k0 hB2 k1l0; have k2c := k2.c; have k2f := k2.f; have k2l := k2.lt)
  clear k1 k1c k1f k1l ho1 hB1 hg2 hb2 hat2
  obtain ⟨A1, hA⟩ : ∃ A, A = A2 := ⟨_, rfl⟩
  subst hA
  obtain ⟨c1, hc⟩ : ∃ c, c = c2 := ⟨_, rfl⟩
  subst hc
  obtain ⟨w1, hw⟩ : ∃ x, x = w2 := ⟨_, rfl⟩
  subst hw
  obtain ⟨ho1, hB1, k1, k1c, k1f, k1l⟩ := And.intro ho2 (And.intro hB2 (And.intro k2 (And.intro k2c (And.intro k2f k2l))))
  clear ho2 hB2 k2 k2c k2f k2l
  refine (rsum_calls A1 (23 + bN + aN) c1 ([2] ++ u8L tx ++ u8L prev ++ twoL page ++ twoL off ++ twoL aN ++ bl ++ al) w1 (ho1.reads.bs (Nat.le_refl _)) (by omega)).mono ?_
  rintro e wS ⟨rfl, rfl⟩
  have hsr := sumL_range ([2] ++ u8L tx ++ u8L prev ++ twoL page ++ twoL off ++ twoL aN ++ bl ++ al)
  generalize hss : sumL ([2] ++ u8L tx ++ u8L prev ++ twoL page ++ twoL off ++ twoL aN ++ bl ++ al) = ss at *
  have hss' := Lib.hid hss
  clear hss
  go_wp2_with fail
  refine (ruint_calls ss hsr.1 (by omega) w1).mono ?_
  rintro e wU ⟨AU, cU, rfl, hu, hbU⟩
  have hoU := ho1.later hbU
  have hBU := below_tr hB1 (hbU.mono hB1.size)
  have h8 := hu.le_cap
  have h84 : ¬ cU = 4 := by omega
  obtain ⟨ug, hug, h4⟩ := tail4 hu hsr
  subst hug
  clear ho1 hB1 hbU k1 k1c k1f k1l hu
  go_wp2_with (at_builtin; refine wpList_app rfl (.tmp 108) (.tmp 110) rfl w0.heap.size (23 + bN + aN) c1 A1 ([2] ++ u8L tx ++ u8L prev ++ twoL page ++ twoL off ++ twoL aN ++ bl ++ al) rfl hoU _ _ 4 _ (some ⟨ug, 4, none⟩) (fourL ss) rfl h4 (by omega) hBU.size ?_; intro A9 c9 w9 ho9 hg9 hb9 hat9)
  go_ret
  refine ⟨A9, c9, _, by first | rfl | simp, ?_, below_tr hB ((below_tr hBU hb9).mono (Nat.le_of_lt k1l0))⟩
  have e : encL 2 tx prev page off next bl al dl opn = [2] ++ u8L tx ++ u8L prev ++ twoL page ++ twoL off ++ twoL aN ++ bl ++ al ++ fourL ss := by unfold encL; rw [show bodyL 2 tx prev page off next bl al dl opn = [2] ++ u8L tx ++ u8L prev ++ twoL page ++ twoL off ++ twoL aN ++ bl ++ al from by unfold bodyL; rw [hla.out]; simp, hss'.out]
  rw [e]; exact ho9.less hB.size
set_option linter.unusedVariables false in
set_option maxRecDepth 100000 in
set_option maxHeartbeats 8000000 in
theorem renc_3 (tx prev page off next : Int) (bA aA dA : Option Addr) (bN bC aN aC dN dC : Nat) (opn : Bool) (bl al : List Int) (dl : List (Int × Int)) (w : World) (ht0 : 0 ≤ tx) (ht1 : tx < 18446744073709551616) (hp0 : 0 ≤ prev) (hp1 : prev < 18446744073709551616) (hbl : BsR w 0 w.heap.size bA bN bl) (hal : BsR w 0 w.heap.size aA aN al) (hx0 : 0 ≤ next) (hx1 : next < 18446744073709551616) (hf : formB 3 prev page off next bN aN dN opn (dirtyOk (-1) dl) = true) :
    Calls Try.prog 60 #[.agg #[.int .u8 3, .int .u64 tx, .int .u64 prev, .int .i64 page, .int .i64 off, .slice bA bN bC, .slice aA aN aC, .int .u64 next, .slice dA dN dC, .bool opn]] w (REncPost (encL 3 tx prev page off next bl al dl opn) w) := by
  obtain ⟨f1, f2, f3, f4, f5, f6, f7, f8, f9⟩ := place_of hf (by omega)
  have hla := Lib.hid hal.1
  clear f8 f9 hf
  go_enter Try.func60, Try.ntmps60
  go_upto_region 1 with (fail)
  have k0 := At.new w #[.int .u8 3, .int .u64 tx, .int .u64 prev, .int .i64 page, .int .i64 off, .slice bA bN bC, .slice aA aN aC, .int .u64 next, .slice dA dN dC, .bool opn] 26
  have hB : Below w.heap.size w (w.alloc (.cells #[.int .u8 3, .int .u64 tx, .int .u64 prev, .int .i64 page, .int .i64 off, .slice bA bN bC, .slice aA aN aC, .int .u64 next, .slice dA dN dC, .bool opn] 26)) := (Below.refl _ _).alloc (Nat.le_refl _) _
  have k1l0 : w.heap.size < (w.alloc (.cells #[.int .u8 3, .int .u64 tx, .int .u64 prev, .int .i64 page, .int .i64 off, .slice bA bN bC, .slice aA aN aC, .int .u64 next, .slice dA dN dC, .bool opn] 26)).heap.size := k0.lt
  generalize (w.alloc (.cells #[.int .u8 3, .int .u64 tx, .int .u64 prev, .int .i64 page, .int .i64 off, .slice bA bN bC, .slice aA aN aC, .int .u64 next, .slice dA dN dC, .bool opn] 26)) = w0 at *
  have k1 := k0
  have k1c := k1.c; have k1f := k1.f; have k1l := k1.lt
  go_upto_region 2 with (fail)
  have ho1 : OwB (w0.alloc (.cells #[.int .u8 3] 5)) w0.heap.size (some ⟨w0.heap.size, 0, none⟩) 1 1 [3] := OwB.made (l := [3]) (At.new w0 _ _) rfl (Byt.cons (by omega) (by omega) Byt.nil) (Nat.le_refl _) (by decide)
  have hB1 := below_new w0 (.cells #[.int .u8 3] 5)
  clear k1 k1c k1f k1l
  have k1 := At.below k0 hB1 k1l0
  have k1c := k1.c; have k1f := k1.f; have k1l := k1.lt
  generalize (w0.alloc (.cells #[.int .u8 3] 5)) = w1 at *
  obtain ⟨A1, hA1⟩ : ∃ A1, A1 = some (⟨w0.heap.size, 0, none⟩ : Addr) := ⟨_, rfl⟩
  rw [← hA1] at ho1 ⊢
  clear hA1
  go_wp2_with fail
  refine (ruint_calls tx ht0 ht1 _).mono ?_
  rintro e wU ⟨AU, cU, rfl, hu, hbU⟩
  have hoU := ho1.later hbU
  have hBU := below_tr hB1 (hbU.mono hB1.size)
  clear k1 k1c k1f k1l
  have k1 := At.below k0 hBU k1l0
  have k1c := k1.c; have k1f := k1.f; have k1l := k1.lt
  clear ho1 hB1 hbU
  go_wp2_with (at_builtin; refine wpList_app rfl (.tmp 10) (.tmp 13) rfl w0.heap.size (1) 1 A1 ([3]) rfl hoU _ _ 8 cU AU (u8L tx) rfl hu.reads (by omega) hBU.size ?_; clear k1 k1c k1f k1l; intro A1 c1 w1 ho1 hg1 hb1 hat1; have hB1 := below_tr hBU hb1; have k1 := At.below k0 hB1 k1l0; have k1c := k1.c; have k1f := k1.f; have k1l := k1.lt)
  clear hoU hBU hu hg1 hb1 hat1
  refine (ruint_calls prev hp0 hp1 _).mono ?_
  rintro e wU ⟨AU, cU, rfl, hu, hbU⟩
  have hoU := ho1.later hbU
  have hBU := below_tr hB1 (hbU.mono hB1.size)
  clear k1 k1c k1f k1l
  have k1 := At.below k0 hBU k1l0
  have k1c := k1.c; have k1f := k1.f; have k1l := k1.lt
  clear ho1 hB1 hbU
  go_wp2_with (at_builtin; refine wpList_app rfl (.tmp 18) (.tmp 21) rfl w0.heap.size (9) c1 A1 ([3] ++ u8L tx) rfl hoU _ _ 8 cU AU (u8L prev) rfl hu.reads (by omega) hBU.size ?_; clear k1 k1c k1f k1l; intro A1 c1 w1 ho1 hg1 hb1 hat1; have hB1 := below_tr hBU hb1; have k1 := At.below k0 hB1 k1l0; have k1c := k1.c; have k1f := k1.f; have k1l := k1.lt)
  clear hoU hBU hu hg1 hb1 hat1
  refine (two_calls page f1 (by omega) _).mono ?_
  rintro e wU ⟨AU, cU, rfl, hu, hbU⟩
  have hoU := ho1.later hbU
  have hBU := below_tr hB1 (hbU.mono hB1.size)
  clear k1 k1c k1f k1l
  have k1 := At.below k0 hBU k1l0
  have k1c := k1.c; have k1f := k1.f; have k1l := k1.lt
  clear ho1 hB1 hbU
  go_wp2_with (at_builtin; refine wpList_app rfl (.tmp 31) (.tmp 34) rfl w0.heap.size (17) c1 A1 ([3] ++ u8L tx ++ u8L prev) rfl hoU _ _ 2 cU AU (twoL page) rfl hu.reads (by omega) hBU.size ?_; clear k1 k1c k1f k1l; intro A1 c1 w1 ho1 hg1 hb1 hat1; have hB1 := below_tr hBU hb1; have k1 := At.below k0 hB1 k1l0; have k1c := k1.c; have k1f := k1.f; have k1l := k1.lt)
  clear hoU hBU hu hg1 hb1 hat1
  refine (two_calls off f3 (by omega) _).mono ?_
  rintro e wU ⟨AU, cU, rfl, hu, hbU⟩
  have hoU := ho1.later hbU
  have hBU := below_tr hB1 (hbU.mono hB1.size)
  clear k1 k1c k1f k1l
  have k1 := At.below k0 hBU k1l0
  have k1c := k1.c; have k1f := k1.f; have k1l := k1.lt
  clear ho1 hB1 hbU
  go_wp2_with (at_builtin; refine wpList_app rfl (.tmp 36) (.tmp 39) rfl w0.heap.size (19) c1 A1 ([3] ++ u8L tx ++ u8L prev ++ twoL page) rfl hoU _ _ 2 cU AU (twoL off) rfl hu.reads (by omega) hBU.size ?_; clear k1 k1c k1f k1l; intro A1 c1 w1 ho1 hg1 hb1 hat1; have hB1 := below_tr hBU hb1; have k1 := At.below k0 hB1 k1l0; have k1c := k1.c; have k1f := k1.f; have k1l := k1.lt)
  clear hoU hBU hu hg1 hb1 hat1
  refine (two_calls aN (by omega) (by omega) _).mono ?_
  rintro e wU ⟨AU, cU, rfl, hu, hbU⟩
  have hoU := ho1.later hbU
  have hBU := below_tr hB1 (hbU.mono hB1.size)
  clear k1 k1c k1f k1l
  have k1 := At.below k0 hBU k1l0
  have k1c := k1.c; have k1f := k1.f; have k1l := k1.lt
  clear ho1 hB1 hbU
  go_upto_region 9 with (at_builtin; refine wpList_app rfl (.tmp 41) (.tmp 45) rfl w0.heap.size (21) c1 A1 ([3] ++ u8L tx ++ u8L prev ++ twoL page ++ twoL off) rfl hoU _ _ 2 cU AU (twoL aN) rfl hu.reads (by omega) hBU.size ?_; clear k1 k1c k1f k1l; intro A1 c1 w1 ho1 hg1 hb1 hat1; have hB1 := below_tr hBU hb1; have k1 := At.below k0 hB1 k1l0; have k1c := k1.c; have k1f := k1.f; have k1l := k1.lt)
  clear hoU hBU hu hg1 hb1 hat1
  go_upto_region 10 with (at_builtin; refine wpList_app rfl (.tmp 47) (.tmp 49) rfl w0.heap.size (23) c1 A1 ([3] ++ u8L tx ++ u8L prev ++ twoL page ++ twoL off ++ twoL aN) rfl ho1 _ _ bN bC bA bl rfl (hbl.arg hB hB1) (by omega) hB1.size ?_; intro A2 c2 w2 ho2 hg2 hb2 hat2; have hB2 := below_tr hB1 hb2; have k2 := At.below k0 hB2 k1l0; have k2c := k2.c; have k2f := k2.f; have k2l := k2.lt)
  clear k1 k1c k1f k1l ho1 hB1 hg2 hb2 hat2
  obtain ⟨A1, hA⟩ : ∃ A, A = A2 := ⟨_, rfl⟩
  subst hA
  obtain ⟨c1, hc⟩ : ∃ c, c = c2 := ⟨_, rfl⟩
  subst hc
  obtain ⟨w1, hw⟩ : ∃ x, x = w2 := ⟨_, rfl⟩
  subst hw
  obtain ⟨ho1, hB1, k1, k1c, k1f, k1l⟩ := And.intro ho2 (And.intro hB2 (And.intro k2 (And.intro k2c (And.intro k2f k2l))))
  clear ho2 hB2 k2 k2c k2f k2l
  go_wp2_with (at_builtin; refine wpList_app rfl (.tmp 51) (.tmp 53) rfl w0.heap.size (23 + bN) c1 A1 ([3] ++ u8L tx ++ u8L prev ++ twoL page ++ twoL off ++ twoL aN ++ bl) rfl ho1 _ _ aN aC aA al rfl (hal.arg hB hB1) (by omega) hB1.size ?_; intro A2 c2 w2 ho2 hg2 hb2 hat2; have hB2 := below_tr hB1 hb2; have k2 := At.below k0 hB2 k1l0; have k2c := k2.c; have k2f := k2.f; have k2l := k2.lt)
  clear k1 k1c k1f k1l ho1 hB1 hg2 hb2 hat2
  obtain ⟨A1, hA⟩ : ∃ A, A = A2 := ⟨_, rfl⟩
  subst hA
  obtain ⟨c1, hc⟩ : ∃ c, c = c2 := ⟨_, rfl⟩
  subst hc
  obtain ⟨w1, hw⟩ : ∃ x, x = w2 := ⟨_, rfl⟩
  subst hw
  obtain ⟨ho1, hB1, k1, k1c, k1f, k1l⟩ := And.intro ho2 (And.intro hB2 (And.intro k2 (And.intro k2c (And.intro k2f k2l))))
  clear ho2 hB2 k2 k2c k2f k2l
  refine (ruint_calls next hx0 hx1 _).mono ?_
  rintro e wU ⟨AU, cU, rfl, hu, hbU⟩
  have hoU := ho1.later hbU
  have hBU := below_tr hB1 (hbU.mono hB1.size)
  clear k1 k1c k1f k1l
  have k1 := At.below k0 hBU k1l0
  have k1c := k1.c; have k1f := k1.f; have k1l := k1.lt
  clear ho1 hB1 hbU
  go_wp2_with (at_builtin; refine wpList_app rfl (.tmp 58) (.tmp 61) rfl w0.heap.size (23 + bN + aN) c1 A1 ([3] ++ u8L tx ++ u8L prev ++ twoL page ++ twoL off ++ twoL aN ++ bl ++ al) rfl hoU _ _ 8 cU AU (u8L next) rfl hu.reads (by omega) hBU.size ?_; clear k1 k1c k1f k1l; intro A1 c1 w1 ho1 hg1 hb1 hat1; have hB1 := below_tr hBU hb1; have k1 := At.below k0 hB1 k1l0; have k1c := k1.c; have k1f := k1.f; have k1l := k1.lt)
  clear hoU hBU hu hg1 hb1 hat1
  refine (rsum_calls A1 (23 + bN + aN + 8) c1 ([3] ++ u8L tx ++ u8L prev ++ twoL page ++ twoL off ++ twoL aN ++ bl ++ al ++ u8L next) w1 (ho1.reads.bs (Nat.le_refl _)) (by omega)).mono ?_
  rintro e wS ⟨rfl, rfl⟩
  have hsr := sumL_range ([3] ++ u8L tx ++ u8L prev ++ twoL page ++ twoL off ++ twoL aN ++ bl ++ al ++ u8L next)
  generalize hss : sumL ([3] ++ u8L tx ++ u8L prev ++ twoL page ++ twoL off ++ twoL aN ++ bl ++ al ++ u8L next) = ss at *
  have hss' := Lib.hid hss
  clear hss
  go_wp2_with fail
  refine (ruint_calls ss hsr.1 (by omega) w1).mono ?_
  rintro e wU ⟨AU, cU, rfl, hu, hbU⟩
  have hoU := ho1.later hbU
  have hBU := below_tr hB1 (hbU.mono hB1.size)
  have h8 := hu.le_cap
  have h84 : ¬ cU = 4 := by omega
  obtain ⟨ug, hug, h4⟩ := tail4 hu hsr
  subst hug
  clear ho1 hB1 hbU k1 k1c k1f k1l hu
  go_wp2_with (at_builtin; refine wpList_app rfl (.tmp 108) (.tmp 110) rfl w0.heap.size (23 + bN + aN + 8) c1 A1 ([3] ++ u8L tx ++ u8L prev ++ twoL page ++ twoL off ++ twoL aN ++ bl ++ al ++ u8L next) rfl hoU _ _ 4 _ (some ⟨ug, 4, none⟩) (fourL ss) rfl h4 (by omega) hBU.size ?_; intro A9 c9 w9 ho9 hg9 hb9 hat9)
  go_ret
  refine ⟨A9, c9, _, by first | rfl | simp, ?_, below_tr hB ((below_tr hBU hb9).mono (Nat.le_of_lt k1l0))⟩
  have e : encL 3 tx prev page off next bl al dl opn = [3] ++ u8L tx ++ u8L prev ++ twoL page ++ twoL off ++ twoL aN ++ bl ++ al ++ u8L next ++ fourL ss := by unfold encL; rw [show bodyL 3 tx prev page off next bl al dl opn = [3] ++ u8L tx ++ u8L prev ++ twoL page ++ twoL off ++ twoL aN ++ bl ++ al ++ u8L next from by unfold bodyL; rw [hla.out]; simp, hss'.out]
  rw [e]; exact ho9.less hB.size
end Go.Proofs.Ytjgomebnlekddaa
