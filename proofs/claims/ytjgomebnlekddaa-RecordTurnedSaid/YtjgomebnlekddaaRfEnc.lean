/- The reference's Encode of a record by its contract: Begin, Commit, End. -/
import Derived.Test.YtjgomebnlekddaaRfSum
import Derived.Test.YtjgomebnlekddaaRfOct
import Derived.Test.YtjgomebnlekddaaRdN
namespace Go.Proofs.Ytjgomebnlekddaa
set_option linter.unusedVariables false
set_option linter.unusedSimpArgs false
open Go.RowKit
def REncPost (l : List Int) (w : World) (e : Ending) (w' : World) : Prop :=
  ∃ A c n, e = .returned (.slice A n c) ∧ OwB w' w.heap.size A n c l ∧ Below w.heap.size w w'
theorem u8_four {s : Int} (h : 0 ≤ s ∧ s < 4294967296) : (u8L s).drop 4 = fourL s := by
  have : (u8L s).drop 4 = [s / 16777216 % 256, s / 65536 % 256, s / 256 % 256, s / 1 % 256] := rfl
  rw [this]
  unfold fourL
  rw [show s / 16777216 % 256 = s / 16777216 by omega, show s / 1 % 256 = s % 256 by omega]
theorem tail4 {w : World} {base c : Nat} {A : Option Addr} {s : Int} (h : OwB w base A 8 c (u8L s)) (hs : 0 ≤ s ∧ s < 4294967296) : ∃ g, A = some ⟨g, 0, none⟩ ∧ BsR w 0 w.heap.size (some ⟨g, 4, none⟩) 4 (fourL s) := by
  obtain ⟨g, cap, hv, hb, hlt⟩ := h.2.2.form (by omega)
  injection hv with hA _ _
  subst hA
  refine ⟨g, rfl, rfl, fourL_byt s hs, fun _ => ⟨g, 4, rfl, Nat.zero_le _, hlt, fun j hj => ?_⟩⟩
  obtain ⟨gb, go', hA, -, -, hc⟩ := h.reads.2.2 (by omega)
  injection hA with hA
  injection hA with e1 e2
  subst e1 e2
  have := hc (4 + j) (by omega)
  rw [Nat.zero_add] at this
  rw [this, ← u8_four hs]
  simp [bsF, List.getD_eq_getElem?_getD]
set_option linter.unusedVariables false in
set_option maxRecDepth 100000 in
set_option maxHeartbeats 8000000 in
theorem renc_1 (tx prev page off next : Int) (bA aA dA : Option Addr) (bN bC aN aC dN dC : Nat) (opn : Bool) (bl al : List Int) (dl : List (Int × Int)) (w : World) (ht0 : 0 ≤ tx) (ht1 : tx < 18446744073709551616) (hp0 : 0 ≤ prev) (hp1 : prev < 18446744073709551616)  :
    Calls Try.prog 60 #[.agg #[.int .u8 1, .int .u64 tx, .int .u64 prev, .int .i64 page, .int .i64 off, .slice bA bN bC, .slice aA aN aC, .int .u64 next, .slice dA dN dC, .bool opn]] w (REncPost (encL 1 tx prev page off next bl al dl opn) w) := by
  go_enter Try.func60, Try.ntmps60
  go_upto_region 1 with (fail)
  have k0 := At.new w #[.int .u8 1, .int .u64 tx, .int .u64 prev, .int .i64 page, .int .i64 off, .slice bA bN bC, .slice aA aN aC, .int .u64 next, .slice dA dN dC, .bool opn] 26
  have hB : Below w.heap.size w (w.alloc (.cells #[.int .u8 1, .int .u64 tx, .int .u64 prev, .int .i64 page, .int .i64 off, .slice bA bN bC, .slice aA aN aC, .int .u64 next, .slice dA dN dC, .bool opn] 26)) := (Below.refl _ _).alloc (Nat.le_refl _) _
  have k1l0 : w.heap.size < (w.alloc (.cells #[.int .u8 1, .int .u64 tx, .int .u64 prev, .int .i64 page, .int .i64 off, .slice bA bN bC, .slice aA aN aC, .int .u64 next, .slice dA dN dC, .bool opn] 26)).heap.size := k0.lt
  generalize (w.alloc (.cells #[.int .u8 1, .int .u64 tx, .int .u64 prev, .int .i64 page, .int .i64 off, .slice bA bN bC, .slice aA aN aC, .int .u64 next, .slice dA dN dC, .bool opn] 26)) = w0 at *
  have k1 := k0
  have k1c := k1.c; have k1f := k1.f; have k1l := k1.lt
  go_upto_region 2 with (fail)
  have ho1 : OwB (w0.alloc (.cells #[.int .u8 1] 5)) w0.heap.size (some ⟨w0.heap.size, 0, none⟩) 1 1 [1] := OwB.made (l := [1]) (At.new w0 _ _) rfl (Byt.cons (by omega) (by omega) Byt.nil) (Nat.le_refl _) (by decide)
  have hB1 := below_new w0 (.cells #[.int .u8 1] 5)
  clear k1 k1c k1f k1l
  have k1 := At.below k0 hB1 k1l0
  have k1c := k1.c; have k1f := k1.f; have k1l := k1.lt
  generalize (w0.alloc (.cells #[.int .u8 1] 5)) = w1 at *
  obtain ⟨A1, hA1⟩ : ∃ A1, A1 = some (⟨w0.heap.size, 0, none⟩ : Addr) := ⟨_, rfl⟩
  rw [← hA1] at ho1 ⊢
  clear hA1
  go_wp2_with fail
  refine (ruint_calls tx ht0 ht1 _).mono ?_
  rintro e wU ⟨AU, cU, rfl, hu, hbU⟩
  have hoU := ho1.later hbU
  have hBU := below_tr hB1 (hbU.mono hB1.size)
  clear k1 k1c k1f k1l
  have k1 := At.below k0 hBU k1l0
  have k1c := k1.c; have k1f := k1.f; have k1l := k1.lt
  clear ho1 hB1 hbU
  go_wp2_with (at_builtin; refine wpList_app rfl (.tmp 10) (.tmp 13) rfl w0.heap.size (1) 1 A1 ([1]) rfl hoU _ _ 8 cU AU (u8L tx) rfl hu.reads (by omega) hBU.size ?_; clear k1 k1c k1f k1l; intro A1 c1 w1 ho1 hg1 hb1 hat1; have hB1 := below_tr hBU hb1; have k1 := At.below k0 hB1 k1l0; have k1c := k1.c; have k1f := k1.f; have k1l := k1.lt)
  clear hoU hBU hu hg1 hb1 hat1
  refine (rsum_calls A1 (9) c1 ([1] ++ u8L tx) w1 (ho1.reads.bs (Nat.le_refl _)) (by omega)).mono ?_
  rintro e wS ⟨rfl, rfl⟩
  have hsr := sumL_range ([1] ++ u8L tx)
  generalize hss : sumL ([1] ++ u8L tx) = ss at *
  have hss' := Lib.hid hss
  clear hss
  go_wp2_with fail
  refine (ruint_calls ss hsr.1 (by omega) w1).mono ?_
  rintro e wU ⟨AU, cU, rfl, hu, hbU⟩
  have hoU := ho1.later hbU
  have hBU := below_tr hB1 (hbU.mono hB1.size)
  have h8 := hu.le_cap
  have h84 : ¬ cU = 4 := by omega
  obtain ⟨ug, hug, h4⟩ := tail4 hu hsr
  subst hug
  clear ho1 hB1 hbU k1 k1c k1f k1l hu
  go_wp2_with (at_builtin; refine wpList_app rfl (.tmp 108) (.tmp 110) rfl w0.heap.size (9) c1 A1 ([1] ++ u8L tx) rfl hoU _ _ 4 _ (some ⟨ug, 4, none⟩) (fourL ss) rfl h4 (by omega) hBU.size ?_; intro A9 c9 w9 ho9 hg9 hb9 hat9)
  go_ret
  refine ⟨A9, c9, _, by first | rfl | simp, ?_, below_tr hB ((below_tr hBU hb9).mono (Nat.le_of_lt k1l0))⟩
  have e : encL 1 tx prev page off next bl al dl opn = [1] ++ u8L tx ++ fourL ss := by unfold encL; rw [show bodyL 1 tx prev page off next bl al dl opn = [1] ++ u8L tx from by simp [bodyL], hss'.out]
  rw [e]; exact ho9.less hB.size
set_option linter.unusedVariables false in
set_option maxRecDepth 100000 in
set_option maxHeartbeats 8000000 in
theorem renc_4 (tx prev page off next : Int) (bA aA dA : Option Addr) (bN bC aN aC dN dC : Nat) (opn : Bool) (bl al : List Int) (dl : List (Int × Int)) (w : World) (ht0 : 0 ≤ tx) (ht1 : tx < 18446744073709551616) (hp0 : 0 ≤ prev) (hp1 : prev < 18446744073709551616)  :
    Calls Try.prog 60 #[.agg #[.int .u8 4, .int .u64 tx, .int .u64 prev, .int .i64 page, .int .i64 off, .slice bA bN bC, .slice aA aN aC, .int .u64 next, .slice dA dN dC, .bool opn]] w (REncPost (encL 4 tx prev page off next bl al dl opn) w) := by
  go_enter Try.func60, Try.ntmps60
  go_upto_region 1 with (fail)
  have k0 := At.new w #[.int .u8 4, .int .u64 tx, .int .u64 prev, .int .i64 page, .int .i64 off, .slice bA bN bC, .slice aA aN aC, .int .u64 next, .slice dA dN dC, .bool opn] 26
  have hB : Below w.heap.size w (w.alloc (.cells #[.int .u8 4, .int .u64 tx, .int .u64 prev, .int .i64 page, .int .i64 off, .slice bA bN bC, .slice aA aN aC, .int .u64 next, .slice dA dN dC, .bool opn] 26)) := (Below.refl _ _).alloc (Nat.le_refl _) _
  have k1l0 : w.heap.size < (w.alloc (.cells #[.int .u8 4, .int .u64 tx, .int .u64 prev, .int .i64 page, .int .i64 off, .slice bA bN bC, .slice aA aN aC, .int .u64 next, .slice dA dN dC, .bool opn] 26)).heap.size := k0.lt
  generalize (w.alloc (.cells #[.int .u8 4, .int .u64 tx, .int .u64 prev, .int .i64 page, .int .i64 off, .slice bA bN bC, .slice aA aN aC, .int .u64 next, .slice dA dN dC, .bool opn] 26)) = w0 at *
  have k1 := k0
  have k1c := k1.c; have k1f := k1.f; have k1l := k1.lt
  go_upto_region 2 with (fail)
  have ho1 : OwB (w0.alloc (.cells #[.int .u8 4] 5)) w0.heap.size (some ⟨w0.heap.size, 0, none⟩) 1 1 [4] := OwB.made (l := [4]) (At.new w0 _ _) rfl (Byt.cons (by omega) (by omega) Byt.nil) (Nat.le_refl _) (by decide)
  have hB1 := below_new w0 (.cells #[.int .u8 4] 5)
  clear k1 k1c k1f k1l
  have k1 := At.below k0 hB1 k1l0
  have k1c := k1.c; have k1f := k1.f; have k1l := k1.lt
  generalize (w0.alloc (.cells #[.int .u8 4] 5)) = w1 at *
  obtain ⟨A1, hA1⟩ : ∃ A1, A1 = some (⟨w0.heap.size, 0, none⟩ : Addr) := ⟨_, rfl⟩
  rw [← hA1] at ho1 ⊢
  clear hA1
  go_wp2_with fail
  refine (ruint_calls tx ht0 ht1 _).mono ?_
  rintro e wU ⟨AU, cU, rfl, hu, hbU⟩
  have hoU := ho1.later hbU
  have hBU := below_tr hB1 (hbU.mono hB1.size)
  clear k1 k1c k1f k1l
  have k1 := At.below k0 hBU k1l0
  have k1c := k1.c; have k1f := k1.f; have k1l := k1.lt
  clear ho1 hB1 hbU
  go_wp2_with (at_builtin; refine wpList_app rfl (.tmp 10) (.tmp 13) rfl w0.heap.size (1) 1 A1 ([4]) rfl hoU _ _ 8 cU AU (u8L tx) rfl hu.reads (by omega) hBU.size ?_; clear k1 k1c k1f k1l; intro A1 c1 w1 ho1 hg1 hb1 hat1; have hB1 := below_tr hBU hb1; have k1 := At.below k0 hB1 k1l0; have k1c := k1.c; have k1f := k1.f; have k1l := k1.lt)
  clear hoU hBU hu hg1 hb1 hat1
  refine (ruint_calls prev hp0 hp1 _).mono ?_
  rintro e wU ⟨AU, cU, rfl, hu, hbU⟩
  have hoU := ho1.later hbU
  have hBU := below_tr hB1 (hbU.mono hB1.size)
  clear k1 k1c k1f k1l
  have k1 := At.below k0 hBU k1l0
  have k1c := k1.c; have k1f := k1.f; have k1l := k1.lt
  clear ho1 hB1 hbU
  go_wp2_with (at_builtin; refine wpList_app rfl (.tmp 18) (.tmp 21) rfl w0.heap.size (9) c1 A1 ([4] ++ u8L tx) rfl hoU _ _ 8 cU AU (u8L prev) rfl hu.reads (by omega) hBU.size ?_; clear k1 k1c k1f k1l; intro A1 c1 w1 ho1 hg1 hb1 hat1; have hB1 := below_tr hBU hb1; have k1 := At.below k0 hB1 k1l0; have k1c := k1.c; have k1f := k1.f; have k1l := k1.lt)
  clear hoU hBU hu hg1 hb1 hat1
  refine (rsum_calls A1 (17) c1 ([4] ++ u8L tx ++ u8L prev) w1 (ho1.reads.bs (Nat.le_refl _)) (by omega)).mono ?_
  rintro e wS ⟨rfl, rfl⟩
  have hsr := sumL_range ([4] ++ u8L tx ++ u8L prev)
  generalize hss : sumL ([4] ++ u8L tx ++ u8L prev) = ss at *
  have hss' := Lib.hid hss
  clear hss
  go_wp2_with fail
  refine (ruint_calls ss hsr.1 (by omega) w1).mono ?_
  rintro e wU ⟨AU, cU, rfl, hu, hbU⟩
  have hoU := ho1.later hbU
  have hBU := below_tr hB1 (hbU.mono hB1.size)
  have h8 := hu.le_cap
  have h84 : ¬ cU = 4 := by omega
  obtain ⟨ug, hug, h4⟩ := tail4 hu hsr
  subst hug
  clear ho1 hB1 hbU k1 k1c k1f k1l hu
  go_wp2_with (at_builtin; refine wpList_app rfl (.tmp 108) (.tmp 110) rfl w0.heap.size (17) c1 A1 ([4] ++ u8L tx ++ u8L prev) rfl hoU _ _ 4 _ (some ⟨ug, 4, none⟩) (fourL ss) rfl h4 (by omega) hBU.size ?_; intro A9 c9 w9 ho9 hg9 hb9 hat9)
  go_ret
  refine ⟨A9, c9, _, by first | rfl | simp, ?_, below_tr hB ((below_tr hBU hb9).mono (Nat.le_of_lt k1l0))⟩
  have e : encL 4 tx prev page off next bl al dl opn = [4] ++ u8L tx ++ u8L prev ++ fourL ss := by unfold encL; rw [show bodyL 4 tx prev page off next bl al dl opn = [4] ++ u8L tx ++ u8L prev from by simp [bodyL], hss'.out]
  rw [e]; exact ho9.less hB.size
set_option linter.unusedVariables false in
set_option maxRecDepth 100000 in
set_option maxHeartbeats 8000000 in
theorem renc_5 (tx prev page off next : Int) (bA aA dA : Option Addr) (bN bC aN aC dN dC : Nat) (opn : Bool) (bl al : List Int) (dl : List (Int × Int)) (w : World) (ht0 : 0 ≤ tx) (ht1 : tx < 18446744073709551616) (hp0 : 0 ≤ prev) (hp1 : prev < 18446744073709551616)  :
    Calls Try.prog 60 #[.agg #[.int .u8 5, .int .u64 tx, .int .u64 prev, .int .i64 page, .int .i64 off, .slice bA bN bC, .slice aA aN aC, .int .u64 next, .slice dA dN dC, .bool opn]] w (REncPost (encL 5 tx prev page off next bl al dl opn) w) := by
  go_enter Try.func60, Try.ntmps60
  go_upto_region 1 with (fail)
  have k0 := At.new w #[.int .u8 5, .int .u64 tx, .int .u64 prev, .int .i64 page, .int .i64 off, .slice bA bN bC, .slice aA aN aC, .int .u64 next, .slice dA dN dC, .bool opn] 26
  have hB : Below w.heap.size w (w.alloc (.cells #[.int .u8 5, .int .u64 tx, .int .u64 prev, .int .i64 page, .int .i64 off, .slice bA bN bC, .slice aA aN aC, .int .u64 next, .slice dA dN dC, .bool opn] 26)) := (Below.refl _ _).alloc (Nat.le_refl _) _
  have k1l0 : w.heap.size < (w.alloc (.cells #[.int .u8 5, .int .u64 tx, .int .u64 prev, .int .i64 page, .int .i64 off, .slice bA bN bC, .slice aA aN aC, .int .u64 next, .slice dA dN dC, .bool opn] 26)).heap.size := k0.lt
  generalize (w.alloc (.cells #[.int .u8 5, .int .u64 tx, .int .u64 prev, .int .i64 page, .int .i64 off, .slice bA bN bC, .slice aA aN aC, .int .u64 next, .slice dA dN dC, .bool opn] 26)) = w0 at *
  have k1 := k0
  have k1c := k1.c; have k1f := k1.f; have k1l := k1.lt
  go_upto_region 2 with (fail)
  have ho1 : OwB (w0.alloc (.cells #[.int .u8 5] 5)) w0.heap.size (some ⟨w0.heap.size, 0, none⟩) 1 1 [5] := OwB.made (l := [5]) (At.new w0 _ _) rfl (Byt.cons (by omega) (by omega) Byt.nil) (Nat.le_refl _) (by decide)
  have hB1 := below_new w0 (.cells #[.int .u8 5] 5)
  clear k1 k1c k1f k1l
  have k1 := At.below k0 hB1 k1l0
  have k1c := k1.c; have k1f := k1.f; have k1l := k1.lt
  generalize (w0.alloc (.cells #[.int .u8 5] 5)) = w1 at *
  obtain ⟨A1, hA1⟩ : ∃ A1, A1 = some (⟨w0.heap.size, 0, none⟩ : Addr) := ⟨_, rfl⟩
  rw [← hA1] at ho1 ⊢
  clear hA1
  go_wp2_with fail
  refine (ruint_calls tx ht0 ht1 _).mono ?_
  rintro e wU ⟨AU, cU, rfl, hu, hbU⟩
  have hoU := ho1.later hbU
  have hBU := below_tr hB1 (hbU.mono hB1.size)
  clear k1 k1c k1f k1l
  have k1 := At.below k0 hBU k1l0
  have k1c := k1.c; have k1f := k1.f; have k1l := k1.lt
  clear ho1 hB1 hbU
  go_wp2_with (at_builtin; refine wpList_app rfl (.tmp 10) (.tmp 13) rfl w0.heap.size (1) 1 A1 ([5]) rfl hoU _ _ 8 cU AU (u8L tx) rfl hu.reads (by omega) hBU.size ?_; clear k1 k1c k1f k1l; intro A1 c1 w1 ho1 hg1 hb1 hat1; have hB1 := below_tr hBU hb1; have k1 := At.below k0 hB1 k1l0; have k1c := k1.c; have k1f := k1.f; have k1l := k1.lt)
  clear hoU hBU hu hg1 hb1 hat1
  refine (ruint_calls prev hp0 hp1 _).mono ?_
  rintro e wU ⟨AU, cU, rfl, hu, hbU⟩
  have hoU := ho1.later hbU
  have hBU := below_tr hB1 (hbU.mono hB1.size)
  clear k1 k1c k1f k1l
  have k1 := At.below k0 hBU k1l0
  have k1c := k1.c; have k1f := k1.f; have k1l := k1.lt
  clear ho1 hB1 hbU
  go_wp2_with (at_builtin; refine wpList_app rfl (.tmp 18) (.tmp 21) rfl w0.heap.size (9) c1 A1 ([5] ++ u8L tx) rfl hoU _ _ 8 cU AU (u8L prev) rfl hu.reads (by omega) hBU.size ?_; clear k1 k1c k1f k1l; intro A1 c1 w1 ho1 hg1 hb1 hat1; have hB1 := below_tr hBU hb1; have k1 := At.below k0 hB1 k1l0; have k1c := k1.c; have k1f := k1.f; have k1l := k1.lt)
  clear hoU hBU hu hg1 hb1 hat1
  refine (rsum_calls A1 (17) c1 ([5] ++ u8L tx ++ u8L prev) w1 (ho1.reads.bs (Nat.le_refl _)) (by omega)).mono ?_
  rintro e wS ⟨rfl, rfl⟩
  have hsr := sumL_range ([5] ++ u8L tx ++ u8L prev)
  generalize hss : sumL ([5] ++ u8L tx ++ u8L prev) = ss at *
  have hss' := Lib.hid hss
  clear hss
  go_wp2_with fail
  refine (ruint_calls ss hsr.1 (by omega) w1).mono ?_
  rintro e wU ⟨AU, cU, rfl, hu, hbU⟩
  have hoU := ho1.later hbU
  have hBU := below_tr hB1 (hbU.mono hB1.size)
  have h8 := hu.le_cap
  have h84 : ¬ cU = 4 := by omega
  obtain ⟨ug, hug, h4⟩ := tail4 hu hsr
  subst hug
  clear ho1 hB1 hbU k1 k1c k1f k1l hu
  go_wp2_with (at_builtin; refine wpList_app rfl (.tmp 108) (.tmp 110) rfl w0.heap.size (17) c1 A1 ([5] ++ u8L tx ++ u8L prev) rfl hoU _ _ 4 _ (some ⟨ug, 4, none⟩) (fourL ss) rfl h4 (by omega) hBU.size ?_; intro A9 c9 w9 ho9 hg9 hb9 hat9)
  go_ret
  refine ⟨A9, c9, _, by first | rfl | simp, ?_, below_tr hB ((below_tr hBU hb9).mono (Nat.le_of_lt k1l0))⟩
  have e : encL 5 tx prev page off next bl al dl opn = [5] ++ u8L tx ++ u8L prev ++ fourL ss := by unfold encL; rw [show bodyL 5 tx prev page off next bl al dl opn = [5] ++ u8L tx ++ u8L prev from by simp [bodyL], hss'.out]
  rw [e]; exact ho9.less hB.size
end Go.Proofs.Ytjgomebnlekddaa
