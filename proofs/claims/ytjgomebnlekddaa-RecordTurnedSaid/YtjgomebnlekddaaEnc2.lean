/- record.Encode by its contract: the records of changes. -/
import Derived.Test.YtjgomebnlekddaaEnc
namespace Go.Proofs.Ytjgomebnlekddaa
set_option linter.unusedVariables false
set_option linter.unusedSimpArgs false
open Go.RowKit
theorem BsR.arg {w w0 w' : World} {n : Nat} {A : Option Addr} {l : List Int} (h : BsR w 0 w.heap.size A n l) (hB : Below w.heap.size w w0) (h0 : Below w0.heap.size w0 w') : BsR w' 0 w.heap.size A n l :=
  h.below (below_tr hB (h0.mono hB.size)) (Nat.le_refl _)
theorem place_of {k prev page off next : Int} {bN aN dN : Nat} {opn d : Bool} (h : formB k prev page off next bN aN dN opn d = true) (hk : k = 2 ∨ k = 3) : 0 ≤ page ∧ page < 4096 ∧ 0 ≤ off ∧ off ≤ 512 - (aN : Int) ∧ 1 ≤ aN ∧ aN ≤ 512 ∧ bN ≤ 512 ∧ (k = 2 → bN = aN) ∧ (k = 3 → bN = 0) := by
  unfold formB placeB listB at h
  rcases hk with rfl | rfl
  · simp at h; refine ⟨?_, ?_, ?_, ?_, ?_, ?_, ?_, ?_, ?_⟩ <;> omega
  · simp at h; refine ⟨?_, ?_, ?_, ?_, ?_, ?_, ?_, ?_, ?_⟩ <;> omega
set_option linter.unusedVariables false in
set_option maxRecDepth 100000 in
set_option maxHeartbeats 4000000 in
theorem enc_2 (tx prev page off next : Int) (bA aA dA : Option Addr) (bN bC aN aC dN dC : Nat) (opn : Bool) (bl al : List Int) (dl : List (Int × Int)) (w : World) (hl : PrR w 0 w.heap.size dA dN dl) (hn : dN * 16 ≤ 140737488351232)
    (ht0 : 0 ≤ tx) (ht1 : tx < 18446744073709551616) (hp0 : 0 ≤ prev) (hp1 : prev < 18446744073709551616) (hf : formB 2 prev page off next bN aN dN opn (dirtyOk (-1) dl) = true) (hbl : BsR w 0 w.heap.size bA bN bl) (hal : BsR w 0 w.heap.size aA aN al) :
    Calls Try.prog 23 #[.agg #[.int .u8 2, .int .u64 tx, .int .u64 prev, .int .i64 page, .int .i64 off, .slice bA bN bC, .slice aA aN aC, .int .u64 next, .slice dA dN dC, .bool opn]] w (EncPost (encL 2 tx prev page off next bl al dl opn) w) := by
  obtain ⟨f1, f2, f3, f4, f5, f6, f7, f8, f9⟩ := place_of hf (by omega)
  have f8' := Lib.hid f8
  have f9' := Lib.hid f9
  clear f8 f9
  have hf' := Lib.hid hf
  clear hf
  go_enter Try.func23, Try.ntmps23
  go_upto_region 1 with (fail)
  have k0 := At.new w #[.int .u8 2, .int .u64 tx, .int .u64 prev, .int .i64 page, .int .i64 off, .slice bA bN bC, .slice aA aN aC, .int .u64 next, .slice dA dN dC, .bool opn] 26
  have hB : Below w.heap.size w (w.alloc (.cells #[.int .u8 2, .int .u64 tx, .int .u64 prev, .int .i64 page, .int .i64 off, .slice bA bN bC, .slice aA aN aC, .int .u64 next, .slice dA dN dC, .bool opn] 26)) := (Below.refl _ _).alloc (Nat.le_refl _) _
  have k1l0 : w.heap.size < (w.alloc (.cells #[.int .u8 2, .int .u64 tx, .int .u64 prev, .int .i64 page, .int .i64 off, .slice bA bN bC, .slice aA aN aC, .int .u64 next, .slice dA dN dC, .bool opn] 26)).heap.size := k0.lt
  generalize (w.alloc (.cells #[.int .u8 2, .int .u64 tx, .int .u64 prev, .int .i64 page, .int .i64 off, .slice bA bN bC, .slice aA aN aC, .int .u64 next, .slice dA dN dC, .bool opn] 26)) = w0 at *
  have k1 := k0
  have k1c := k1.c; have k1f := k1.f; have k1l := k1.lt
  go_wp2_with fail
  refine (form_at 2 tx prev page off next bA aA dA bN bC aN aC dN dC opn dl true _ ⟨hl.1, (hl.2.below hB (Nat.le_refl _)).more hB.size⟩ hn hf'.out).mono ?_
  rintro e w1 ⟨rfl, hb1⟩
  clear k1 k1c k1f k1l
  have k1 := At.below k0 hb1 k1l0
  have k1c := k1.c; have k1f := k1.f; have k1l := k1.lt
  go_upto_region 3 with (fail)
  go_cut [4] (fun v4 wc => ∃ A c, v4 = .slice A 9 c ∧ OwB wc w0.heap.size A 9 c ([2] ++ u8L tx) ∧ Below w0.heap.size w0 wc)
  case first =>
    go_region_held3 (fun w' => At w' w.heap.size #[.int .u8 2, .int .u64 tx, .int .u64 prev, .int .i64 page, .int .i64 off, .slice bA bN bC, .slice aA aN aC, .int .u64 next, .slice dA dN dC, .bool opn] 26 ∧ (∀ o, w'.cell? ⟨w.heap.size, o, none⟩ = #[.int .u8 2, .int .u64 tx, .int .u64 prev, .int .i64 page, .int .i64 off, .slice bA bN bC, .slice aA aN aC, .int .u64 next, .slice dA dN dC, .bool opn][o]?))
      (first
        | (exact ⟨k1.drew, k1.drew.c⟩)
        | (exact ⟨(k1.drew.alloc _), (k1.drew.alloc _).c⟩)
        | (go_split_ands
           have hk3 := At.keep hbU (by assumption : At _ w.heap.size #[.int .u8 2, .int .u64 tx, .int .u64 prev, .int .i64 page, .int .i64 off, .slice bA bN bC, .slice aA aN aC, .int .u64 next, .slice dA dN dC, .bool opn] 26)
           exact ⟨hk3, hk3.c⟩)
        | (go_split_ands
           have hk3 := At.below (by assumption : At _ w.heap.size #[.int .u8 2, .int .u64 tx, .int .u64 prev, .int .i64 page, .int .i64 off, .slice bA bN bC, .slice aA aN aC, .int .u64 next, .slice dA dN dC, .bool opn] 26) hb4 k1l0
           exact ⟨hk3, hk3.c⟩)
        | (go_split_ands
           have hk3 := At.alloc (by assumption : At _ w.heap.size #[.int .u8 2, .int .u64 tx, .int .u64 prev, .int .i64 page, .int .i64 off, .slice bA bN bC, .slice aA aN aC, .int .u64 next, .slice dA dN dC, .bool opn] 26) (.cells #[.int .u8 2] 5)
           exact ⟨hk3, hk3.c⟩))
      (first
        | (go_at_call 63; refine (uint_g tx ht0 ht1 _).mono ?_; rintro e wU ⟨gU, rfl, hu, hgU, hul, hbU⟩)
        | (refine step_app (by rfl) (.tmp 14) (.tmp 17) (by rfl) w0.heap.size 1 1 (some ⟨w1.heap.size, 0, none⟩) [2] (by rfl) (OwB.made (l := [2]) ((At.new w1 _ _).drew.keep hbU) rfl (Byt.cons (by omega) (by omega) Byt.nil) hb1.size (by decide)) _ _ 8 8 _ (u8L tx) (by rfl) hu (by omega) (Nat.le_trans hb1.size (ge_alloc hbU)) ?_; intro A4 c4 w4 ho4 hg4 hb4 hat4)
        | (refine step_app (by rfl) (.tmp 14) (.tmp 17) (by rfl) w0.heap.size 1 1 (some ⟨wU.heap.size, 0, none⟩) [2] (by rfl) (OwB.made (l := [2]) (At.new wU _ _) rfl (Byt.cons (by omega) (by omega) Byt.nil) (Nat.le_trans hb1.size (ge_drew hbU)) (by decide)) _ _ 8 8 _ (u8L tx) (by rfl) (hu.below (below_new wU _) (Nat.succ_le_of_lt hul)) (by omega) (Nat.le_trans hb1.size (Nat.le_trans (ge_drew hbU) (ge_new _ _))) ?_; intro A4 c4 w4 ho4 hg4 hb4 hat4))
    all_goals (go_wp2_with fail; go_meet)
    all_goals (case rel => first | exact ⟨A4, c4, rfl, ho4, below_tr (below_keep hbU (below_dr (below_al hb1))) hb4⟩ | exact ⟨A4, c4, rfl, ho4, below_tr (below_al (below_keep hbU (below_dr hb1))) hb4⟩)
  case rest =>
    clear k1 k1c k1f k1l hb1
    obtain ⟨A4, c4, rfl, ho4, hB4⟩ := hcut
    have k1 := At.below k0 hB4 k1l0
    have k1c := k1.c; have k1f := k1.f; have k1l := k1.lt
    go_wp2_with fail
    refine (uint_g prev hp0 hp1 _).mono ?_
    rintro e wU ⟨gU, rfl, hu, hgU, hul, hbU⟩
    clear k1 k1c k1f k1l
    go_upto_region 9 with (at_builtin; refine wpList_app rfl (.tmp 22) (.tmp 25) rfl w0.heap.size 9 c4 A4 ([2] ++ u8L tx) rfl (ho4.later hbU) _ _ 8 8 _ (u8L prev) rfl hu (by omega) (Nat.le_trans hB4.size hbU.size) ?_; intro A5 c5 w5 ho5 hg5 hb5 hat5; have hB5 := below_tr (below_keep hbU hB4) hb5; have k1 := At.below k0 hB5 k1l0; have k1c := k1.c; have k1f := k1.f; have k1l := k1.lt)
    have hpo : Byt (twoL page ++ twoL off ++ twoL aN) := ((twoL_byt _ f1 (by omega)).app (twoL_byt _ f3 (by omega))).app (twoL_byt _ (by omega) (by omega))
    have hpo' := Lib.hid hpo
    clear hpo
    go_wp2_with (at_builtin; refine wpList_app rfl (.tmp 32) (.tmp 56) rfl w0.heap.size 17 c5 A5 ([2] ++ u8L tx ++ u8L prev) rfl (ho5.alloc _) _ _ 6 6 _ (twoL page ++ twoL off ++ twoL aN) rfl (BsR.of_at (l := twoL page ++ twoL off ++ twoL aN) (At.new w5 _ _) rfl hpo'.out) (by omega) (Nat.le_trans hB5.size (ge_new _ _)) ?_; intro A6 c6 w6 ho6 hg6 hb6 hat6)
    have hB6 := below_tr (below_al hB5) hb6
    clear k1 k1c k1f k1l
    have k1 := At.below k0 hB6 k1l0
    have k1c := k1.c; have k1f := k1.f; have k1l := k1.lt
    go_cut [4] (fun v4 wc => ∃ A c, v4 = .slice A (23 + bN + aN) c ∧ OwB wc w0.heap.size A (23 + bN + aN) c ([2] ++ u8L tx ++ u8L prev ++ (twoL page ++ twoL off ++ twoL aN) ++ bl ++ al) ∧ Below w0.heap.size w0 wc)
    case first =>
      go_region_held3 (fun w' => At w' w.heap.size #[.int .u8 2, .int .u64 tx, .int .u64 prev, .int .i64 page, .int .i64 off, .slice bA bN bC, .slice aA aN aC, .int .u64 next, .slice dA dN dC, .bool opn] 26 ∧ (∀ o, w'.cell? ⟨w.heap.size, o, none⟩ = #[.int .u8 2, .int .u64 tx, .int .u64 prev, .int .i64 page, .int .i64 off, .slice bA bN bC, .slice aA aN aC, .int .u64 next, .slice dA dN dC, .bool opn][o]?))
        (first
          | (exact ⟨k1.drew, k1.drew.c⟩)
          | (exact ⟨k1.drew.below hb7 k1l0, (k1.drew.below hb7 k1l0).c⟩)
          | (exact ⟨(k1.drew.below hb7 k1l0).below hb8 k1l0, ((k1.drew.below hb7 k1l0).below hb8 k1l0).c⟩))
        (first
          | (refine step_app (by rfl) (.tmp 58) (.tmp 60) (by rfl) w0.heap.size 23 c6 A6 ([2] ++ u8L tx ++ u8L prev ++ (twoL page ++ twoL off ++ twoL aN)) (by rfl) (ho6.drewN 1) _ _ bN bC bA bl (by rfl) (hbl.arg hB (below_dr hB6)) (by omega) hB6.size ?_; intro A7 c7 w7 ho7 hg7 hb7 hat7)
          | (refine step_app (by rfl) (.tmp 61) (.tmp 63) (by rfl) w0.heap.size (23 + bN) c7 A7 ([2] ++ u8L tx ++ u8L prev ++ (twoL page ++ twoL off ++ twoL aN) ++ bl) (by rfl) ho7 _ _ aN aC aA al (by rfl) (hal.arg hB (below_tr (below_dr hB6) hb7)) (by omega) (below_tr (below_dr hB6) hb7).size ?_; intro A8 c8 w8 ho8 hg8 hb8 hat8))
      all_goals (go_wp2_with fail; go_meet)
      all_goals (case rel => exact ⟨A8, c8, rfl, ho8, below_tr (below_tr (below_dr hB6) hb7) hb8⟩)
    case rest =>
      obtain ⟨A8, c8, rfl, ho8, hB8⟩ := hcut
      clear k1 k1c k1f k1l
      have k1 := At.below k0 hB8 k1l0
      have k1c := k1.c; have k1f := k1.f; have k1l := k1.lt
      go_wp2_with fail
      refine (sum_calls A8 (23 + bN + aN) c8 ([2] ++ u8L tx ++ u8L prev ++ (twoL page ++ twoL off ++ twoL aN) ++ bl ++ al) wc (ho8.reads.bs (Nat.le_refl _)) (by omega)).mono ?_
      rintro e wS ⟨rfl, rfl⟩
      have hsr := sumL_range ([2] ++ u8L tx ++ u8L prev ++ (twoL page ++ twoL off ++ twoL aN) ++ bl ++ al)
      generalize hss : sumL ([2] ++ u8L tx ++ u8L prev ++ (twoL page ++ twoL off ++ twoL aN) ++ bl ++ al) = ss at *
      have hss' := Lib.hid hss
      clear hss
      go_wp2_with (at_builtin; refine wpList_app rfl (.tmp 112) (.tmp 124) rfl w0.heap.size (23 + bN + aN) c8 A8 ([2] ++ u8L tx ++ u8L prev ++ (twoL page ++ twoL off ++ twoL aN) ++ bl ++ al) rfl (ho8.alloc _) _ _ 4 4 _ (fourL ss) rfl (BsR.of_at (l := fourL ss) (At.new wc _ _) rfl (fourL_byt ss hsr)) (by omega) (Nat.le_trans hB8.size (ge_new _ _)) ?_; intro A9 c9 w9 ho9 hg9 hb9 hat9)
      go_ret2
      refine ⟨A9, c9, _, rfl, ?_, below_tr hB ((below_tr (below_al hB8) hb9).mono (Nat.le_of_lt k1l0))⟩
      have e : encL 2 tx prev page off next bl al dl opn = [2] ++ u8L tx ++ u8L prev ++ (twoL page ++ twoL off ++ twoL aN) ++ bl ++ al ++ fourL ss := by unfold encL; rw [show bodyL 2 tx prev page off next bl al dl opn = [2] ++ u8L tx ++ u8L prev ++ (twoL page ++ twoL off ++ twoL aN) ++ bl ++ al from by simp [bodyL, hal.1], hss'.out]
      rw [e]; exact ho9.less hB.size
set_option linter.unusedVariables false in
set_option maxRecDepth 100000 in
set_option maxHeartbeats 4000000 in
theorem enc_3 (tx prev page off next : Int) (bA aA dA : Option Addr) (bN bC aN aC dN dC : Nat) (opn : Bool) (bl al : List Int) (dl : List (Int × Int)) (w : World) (hl : PrR w 0 w.heap.size dA dN dl) (hn : dN * 16 ≤ 140737488351232)
    (ht0 : 0 ≤ tx) (ht1 : tx < 18446744073709551616) (hp0 : 0 ≤ prev) (hp1 : prev < 18446744073709551616) (hf : formB 3 prev page off next bN aN dN opn (dirtyOk (-1) dl) = true) (hbl : BsR w 0 w.heap.size bA bN bl) (hal : BsR w 0 w.heap.size aA aN al) (hx0 : 0 ≤ next) (hx1 : next < 18446744073709551616) :
    Calls Try.prog 23 #[.agg #[.int .u8 3, .int .u64 tx, .int .u64 prev, .int .i64 page, .int .i64 off, .slice bA bN bC, .slice aA aN aC, .int .u64 next, .slice dA dN dC, .bool opn]] w (EncPost (encL 3 tx prev page off next bl al dl opn) w) := by
  obtain ⟨f1, f2, f3, f4, f5, f6, f7, f8, f9⟩ := place_of hf (by omega)
  have f8' := Lib.hid f8
  have f9' := Lib.hid f9
  clear f8 f9
  have hf' := Lib.hid hf
  clear hf
  go_enter Try.func23, Try.ntmps23
  go_upto_region 1 with (fail)
  have k0 := At.new w #[.int .u8 3, .int .u64 tx, .int .u64 prev, .int .i64 page, .int .i64 off, .slice bA bN bC, .slice aA aN aC, .int .u64 next, .slice dA dN dC, .bool opn] 26
  have hB : Below w.heap.size w (w.alloc (.cells #[.int .u8 3, .int .u64 tx, .int .u64 prev, .int .i64 page, .int .i64 off, .slice bA bN bC, .slice aA aN aC, .int .u64 next, .slice dA dN dC, .bool opn] 26)) := (Below.refl _ _).alloc (Nat.le_refl _) _
  have k1l0 : w.heap.size < (w.alloc (.cells #[.int .u8 3, .int .u64 tx, .int .u64 prev, .int .i64 page, .int .i64 off, .slice bA bN bC, .slice aA aN aC, .int .u64 next, .slice dA dN dC, .bool opn] 26)).heap.size := k0.lt
  generalize (w.alloc (.cells #[.int .u8 3, .int .u64 tx, .int .u64 prev, .int .i64 page, .int .i64 off, .slice bA bN bC, .slice aA aN aC, .int .u64 next, .slice dA dN dC, .bool opn] 26)) = w0 at *
  have k1 := k0
  have k1c := k1.c; have k1f := k1.f; have k1l := k1.lt
  go_wp2_with fail
  refine (form_at 3 tx prev page off next bA aA dA bN bC aN aC dN dC opn dl true _ ⟨hl.1, (hl.2.below hB (Nat.le_refl _)).more hB.size⟩ hn hf'.out).mono ?_
  rintro e w1 ⟨rfl, hb1⟩
  clear k1 k1c k1f k1l
  have k1 := At.below k0 hb1 k1l0
  have k1c := k1.c; have k1f := k1.f; have k1l := k1.lt
  go_upto_region 3 with (fail)
  go_cut [4] (fun v4 wc => ∃ A c, v4 = .slice A 9 c ∧ OwB wc w0.heap.size A 9 c ([3] ++ u8L tx) ∧ Below w0.heap.size w0 wc)
  case first =>
    go_region_held3 (fun w' => At w' w.heap.size #[.int .u8 3, .int .u64 tx, .int .u64 prev, .int .i64 page, .int .i64 off, .slice bA bN bC, .slice aA aN aC, .int .u64 next, .slice dA dN dC, .bool opn] 26 ∧ (∀ o, w'.cell? ⟨w.heap.size, o, none⟩ = #[.int .u8 3, .int .u64 tx, .int .u64 prev, .int .i64 page, .int .i64 off, .slice bA bN bC, .slice aA aN aC, .int .u64 next, .slice dA dN dC, .bool opn][o]?))
      (first
        | (exact ⟨k1.drew, k1.drew.c⟩)
        | (exact ⟨(k1.drew.alloc _), (k1.drew.alloc _).c⟩)
        | (go_split_ands
           have hk3 := At.keep hbU (by assumption : At _ w.heap.size #[.int .u8 3, .int .u64 tx, .int .u64 prev, .int .i64 page, .int .i64 off, .slice bA bN bC, .slice aA aN aC, .int .u64 next, .slice dA dN dC, .bool opn] 26)
           exact ⟨hk3, hk3.c⟩)
        | (go_split_ands
           have hk3 := At.below (by assumption : At _ w.heap.size #[.int .u8 3, .int .u64 tx, .int .u64 prev, .int .i64 page, .int .i64 off, .slice bA bN bC, .slice aA aN aC, .int .u64 next, .slice dA dN dC, .bool opn] 26) hb4 k1l0
           exact ⟨hk3, hk3.c⟩)
        | (go_split_ands
           have hk3 := At.alloc (by assumption : At _ w.heap.size #[.int .u8 3, .int .u64 tx, .int .u64 prev, .int .i64 page, .int .i64 off, .slice bA bN bC, .slice aA aN aC, .int .u64 next, .slice dA dN dC, .bool opn] 26) (.cells #[.int .u8 3] 5)
           exact ⟨hk3, hk3.c⟩))
      (first
        | (go_at_call 63; refine (uint_g tx ht0 ht1 _).mono ?_; rintro e wU ⟨gU, rfl, hu, hgU, hul, hbU⟩)
        | (refine step_app (by rfl) (.tmp 14) (.tmp 17) (by rfl) w0.heap.size 1 1 (some ⟨w1.heap.size, 0, none⟩) [3] (by rfl) (OwB.made (l := [3]) ((At.new w1 _ _).drew.keep hbU) rfl (Byt.cons (by omega) (by omega) Byt.nil) hb1.size (by decide)) _ _ 8 8 _ (u8L tx) (by rfl) hu (by omega) (Nat.le_trans hb1.size (ge_alloc hbU)) ?_; intro A4 c4 w4 ho4 hg4 hb4 hat4)
        | (refine step_app (by rfl) (.tmp 14) (.tmp 17) (by rfl) w0.heap.size 1 1 (some ⟨wU.heap.size, 0, none⟩) [3] (by rfl) (OwB.made (l := [3]) (At.new wU _ _) rfl (Byt.cons (by omega) (by omega) Byt.nil) (Nat.le_trans hb1.size (ge_drew hbU)) (by decide)) _ _ 8 8 _ (u8L tx) (by rfl) (hu.below (below_new wU _) (Nat.succ_le_of_lt hul)) (by omega) (Nat.le_trans hb1.size (Nat.le_trans (ge_drew hbU) (ge_new _ _))) ?_; intro A4 c4 w4 ho4 hg4 hb4 hat4))
    all_goals (go_wp2_with fail; go_meet)
    all_goals (case rel => first | exact ⟨A4, c4, rfl, ho4, below_tr (below_keep hbU (below_dr (below_al hb1))) hb4⟩ | exact ⟨A4, c4, rfl, ho4, below_tr (below_al (below_keep hbU (below_dr hb1))) hb4⟩)
  case rest =>
    clear k1 k1c k1f k1l hb1
    obtain ⟨A4, c4, rfl, ho4, hB4⟩ := hcut
    have k1 := At.below k0 hB4 k1l0
    have k1c := k1.c; have k1f := k1.f; have k1l := k1.lt
    go_wp2_with fail
    refine (uint_g prev hp0 hp1 _).mono ?_
    rintro e wU ⟨gU, rfl, hu, hgU, hul, hbU⟩
    clear k1 k1c k1f k1l
    go_upto_region 9 with (at_builtin; refine wpList_app rfl (.tmp 22) (.tmp 25) rfl w0.heap.size 9 c4 A4 ([3] ++ u8L tx) rfl (ho4.later hbU) _ _ 8 8 _ (u8L prev) rfl hu (by omega) (Nat.le_trans hB4.size hbU.size) ?_; intro A5 c5 w5 ho5 hg5 hb5 hat5; have hB5 := below_tr (below_keep hbU hB4) hb5; have k1 := At.below k0 hB5 k1l0; have k1c := k1.c; have k1f := k1.f; have k1l := k1.lt)
    have hpo : Byt (twoL page ++ twoL off ++ twoL aN) := ((twoL_byt _ f1 (by omega)).app (twoL_byt _ f3 (by omega))).app (twoL_byt _ (by omega) (by omega))
    have hpo' := Lib.hid hpo
    clear hpo
    go_wp2_with (at_builtin; refine wpList_app rfl (.tmp 32) (.tmp 56) rfl w0.heap.size 17 c5 A5 ([3] ++ u8L tx ++ u8L prev) rfl (ho5.alloc _) _ _ 6 6 _ (twoL page ++ twoL off ++ twoL aN) rfl (BsR.of_at (l := twoL page ++ twoL off ++ twoL aN) (At.new w5 _ _) rfl hpo'.out) (by omega) (Nat.le_trans hB5.size (ge_new _ _)) ?_; intro A6 c6 w6 ho6 hg6 hb6 hat6)
    have hB6 := below_tr (below_al hB5) hb6
    clear k1 k1c k1f k1l
    have k1 := At.below k0 hB6 k1l0
    have k1c := k1.c; have k1f := k1.f; have k1l := k1.lt
    go_cut [4] (fun v4 wc => ∃ A c, v4 = .slice A (23 + bN + aN) c ∧ OwB wc w0.heap.size A (23 + bN + aN) c ([3] ++ u8L tx ++ u8L prev ++ (twoL page ++ twoL off ++ twoL aN) ++ bl ++ al) ∧ Below w0.heap.size w0 wc)
    case first =>
      go_region_held3 (fun w' => At w' w.heap.size #[.int .u8 3, .int .u64 tx, .int .u64 prev, .int .i64 page, .int .i64 off, .slice bA bN bC, .slice aA aN aC, .int .u64 next, .slice dA dN dC, .bool opn] 26 ∧ (∀ o, w'.cell? ⟨w.heap.size, o, none⟩ = #[.int .u8 3, .int .u64 tx, .int .u64 prev, .int .i64 page, .int .i64 off, .slice bA bN bC, .slice aA aN aC, .int .u64 next, .slice dA dN dC, .bool opn][o]?))
        (first
          | (exact ⟨k1.drew, k1.drew.c⟩)
          | (exact ⟨k1.drew.below hb7 k1l0, (k1.drew.below hb7 k1l0).c⟩)
          | (exact ⟨(k1.drew.below hb7 k1l0).below hb8 k1l0, ((k1.drew.below hb7 k1l0).below hb8 k1l0).c⟩))
        (first
          | (refine step_app (by rfl) (.tmp 58) (.tmp 60) (by rfl) w0.heap.size 23 c6 A6 ([3] ++ u8L tx ++ u8L prev ++ (twoL page ++ twoL off ++ twoL aN)) (by rfl) (ho6.drewN 1) _ _ bN bC bA bl (by rfl) (hbl.arg hB (below_dr hB6)) (by omega) hB6.size ?_; intro A7 c7 w7 ho7 hg7 hb7 hat7)
          | (refine step_app (by rfl) (.tmp 61) (.tmp 63) (by rfl) w0.heap.size (23 + bN) c7 A7 ([3] ++ u8L tx ++ u8L prev ++ (twoL page ++ twoL off ++ twoL aN) ++ bl) (by rfl) ho7 _ _ aN aC aA al (by rfl) (hal.arg hB (below_tr (below_dr hB6) hb7)) (by omega) (below_tr (below_dr hB6) hb7).size ?_; intro A8 c8 w8 ho8 hg8 hb8 hat8))
      all_goals (go_wp2_with fail; go_meet)
      all_goals (case rel => exact ⟨A8, c8, rfl, ho8, below_tr (below_tr (below_dr hB6) hb7) hb8⟩)
    case rest =>
      obtain ⟨A8, c8, rfl, ho8, hB8⟩ := hcut
      clear k1 k1c k1f k1l
      have k1 := At.below k0 hB8 k1l0
      have k1c := k1.c; have k1f := k1.f; have k1l := k1.lt
      go_wp2_with fail
      refine (uint_g next hx0 hx1 _).mono ?_
      rintro e wV ⟨gV, rfl, hv, hgV, hvl, hbV⟩
      clear k1 k1c k1f k1l
      go_wp2_with (at_builtin; refine wpList_app rfl (.tmp 68) (.tmp 71) rfl w0.heap.size (23 + bN + aN) c8 A8 ([3] ++ u8L tx ++ u8L prev ++ (twoL page ++ twoL off ++ twoL aN) ++ bl ++ al) rfl (ho8.later hbV) _ _ 8 8 _ (u8L next) rfl hv (by omega) (Nat.le_trans hB8.size hbV.size) ?_; intro Ax cx wx hox hgx hbx hatx; have hBx := below_tr (below_keep hbV hB8) hbx; have k1 := At.below k0 hBx k1l0; have k1c := k1.c; have k1f := k1.f; have k1l := k1.lt)
      go_wp2_with fail
      refine (sum_calls Ax (23 + bN + aN + 8) cx ([3] ++ u8L tx ++ u8L prev ++ (twoL page ++ twoL off ++ twoL aN) ++ bl ++ al ++ u8L next) wx (hox.reads.bs (Nat.le_refl _)) (by omega)).mono ?_
      rintro e wS ⟨rfl, rfl⟩
      have hsr := sumL_range ([3] ++ u8L tx ++ u8L prev ++ (twoL page ++ twoL off ++ twoL aN) ++ bl ++ al ++ u8L next)
      generalize hss : sumL ([3] ++ u8L tx ++ u8L prev ++ (twoL page ++ twoL off ++ twoL aN) ++ bl ++ al ++ u8L next) = ss at *
      have hss' := Lib.hid hss
      clear hss
      go_wp2_with (at_builtin; refine wpList_app rfl (.tmp 112) (.tmp 124) rfl w0.heap.size (23 + bN + aN + 8) cx Ax ([3] ++ u8L tx ++ u8L prev ++ (twoL page ++ twoL off ++ twoL aN) ++ bl ++ al ++ u8L next) rfl (hox.alloc _) _ _ 4 4 _ (fourL ss) rfl (BsR.of_at (l := fourL ss) (At.new wx _ _) rfl (fourL_byt ss hsr)) (by omega) (Nat.le_trans hBx.size (ge_new _ _)) ?_; intro A9 c9 w9 ho9 hg9 hb9 hat9)
      go_ret2
      refine ⟨A9, c9, _, rfl, ?_, below_tr hB ((below_tr (below_al hBx) hb9).mono (Nat.le_of_lt k1l0))⟩
      have e : encL 3 tx prev page off next bl al dl opn = [3] ++ u8L tx ++ u8L prev ++ (twoL page ++ twoL off ++ twoL aN) ++ bl ++ al ++ u8L next ++ fourL ss := by unfold encL; rw [show bodyL 3 tx prev page off next bl al dl opn = [3] ++ u8L tx ++ u8L prev ++ (twoL page ++ twoL off ++ twoL aN) ++ bl ++ al ++ u8L next from by simp [bodyL, hal.1], hss'.out]
      rw [e]; exact ho9.less hB.size
end Go.Proofs.Ytjgomebnlekddaa
