/- record.Encode by its contract. -/
import Derived.Test.YtjgomebnlekddaaRecordR6
import Derived.Test.YtjgomebnlekddaaApp
namespace Go.Proofs.Ytjgomebnlekddaa
set_option linter.unusedVariables false
set_option linter.unusedSimpArgs false
open Go.RowKit
theorem BsR.bs {w : World} {lo hi n : Nat} {A : Option Addr} {l : List Int} (h : BsR w lo hi A n l) (hh : hi ≤ w.heap.size) : Bs w A n l := by
  refine ⟨h.1, fun j hj => ?_⟩
  obtain ⟨gb, go', hA, _, h2, hc⟩ := h.at_ hj
  have := h.2.1.getD j
  exact ⟨this.1, this.2, gb, go', hA, by omega, hc⟩
def u8L (u : Int) : List Int := (List.range 8).map (ub u)
theorem u8L_byt (u : Int) : Byt (u8L u) := by
  intro x hx
  obtain ⟨j, _, rfl⟩ := List.mem_map.1 hx
  unfold ub
  omega
theorem uint_g (u : Int) (h0 : 0 ≤ u) (h1 : u < 18446744073709551616) (w : World) :
    Calls Try.prog 63 #[.int .u64 u] w fun e w' => ∃ g, e = .returned (.slice (some ⟨g, 0, none⟩) 8 8) ∧ BsR w' g (g + 1) (some ⟨g, 0, none⟩) 8 (u8L u) ∧ w.heap.size ≤ g ∧ g < w'.heap.size ∧ Below w.heap.size w w' :=
  (uint_calls u h0 h1 w).mono fun _ _ ⟨he, ha, hb⟩ => ⟨w.heap.size, he, BsR.of_at ha rfl (u8L_byt u), Nat.le_refl _, ha.lt, hb⟩
def twoL (n : Int) : List Int := [n / 256, n % 256]
theorem twoL_byt (n : Int) (h0 : 0 ≤ n) (h1 : n < 65536) : Byt (twoL n) := Byt.cons (by omega) (by omega) (Byt.cons (by omega) (by omega) Byt.nil)
def fourL (s : Int) : List Int := [s / 16777216, s / 65536 % 256, s / 256 % 256, s % 256]
/-- The bytes of a record ahead of its sum. -/
def bodyL (k tx prev page off next : Int) (bl al : List Int) (dl : List (Int × Int)) (opn : Bool) : List Int :=
  [k] ++ u8L tx ++ (if k = 1 then [] else u8L prev) ++
  (if k = 2 then twoL page ++ twoL off ++ twoL al.length ++ bl ++ al
   else if k = 3 then twoL page ++ twoL off ++ twoL al.length ++ bl ++ al ++ u8L next
   else if k = 6 then [(dl.length : Int) * 2 + (if opn then 1 else 0)] ++ dl.flatMap (fun d => twoL d.1 ++ u8L d.2) else [])
def encL (k tx prev page off next : Int) (bl al : List Int) (dl : List (Int × Int)) (opn : Bool) : List Int :=
  bodyL k tx prev page off next bl al dl opn ++ fourL (sumL (bodyL k tx prev page off next bl al dl opn))
theorem fourL_byt (s : Int) (h : 0 ≤ s ∧ s < 4294967296) : Byt (fourL s) :=
  Byt.cons (by omega) (by omega) (Byt.cons (by omega) (by omega) (Byt.cons (by omega) (by omega) (Byt.cons (by omega) (by omega) Byt.nil)))
def EncPost (l : List Int) (w : World) (e : Ending) (w' : World) : Prop :=
  ∃ A c n, e = .returned (.tuple #[.slice A n c, .int .i64 0]) ∧ OwB w' w.heap.size A n c l ∧ Below w.heap.size w w'
theorem form_at (k : Int) (tx prev page off next : Int) (bA aA dA : Option Addr) (bN bC aN aC dN dC : Nat) (opn : Bool) (l : List (Int × Int)) (b : Bool) (w : World) (hl : PrR w 0 w.heap.size dA dN l) (hn : dN * 16 ≤ 140737488351232) (hb : formB k prev page off next bN aN dN opn (dirtyOk (-1) l) = b) :
    Calls Try.prog 58 #[.agg #[.int .u8 k, .int .u64 tx, .int .u64 prev, .int .i64 page, .int .i64 off, .slice bA bN bC, .slice aA aN aC, .int .u64 next, .slice dA dN dC, .bool opn]] w fun e w' => e = .returned (.bool b) ∧ Below w.heap.size w w' :=
  hb ▸ form_calls k tx prev page off next bA aA dA bN bC aN aC dN dC opn l w hl hn
theorem sumL_range (l : List Int) : 0 ≤ sumL l ∧ sumL l < 4294967296 := bits_u32 _ _ _
set_option linter.unusedVariables false in
set_option maxRecDepth 100000 in
set_option maxHeartbeats 4000000 in
theorem enc_1 (tx prev page off next : Int) (bA aA dA : Option Addr) (bN bC aN aC dN dC : Nat) (opn : Bool) (bl al : List Int) (dl : List (Int × Int)) (w : World) (hl : PrR w 0 w.heap.size dA dN dl) (hn : dN * 16 ≤ 140737488351232)
    (ht0 : 0 ≤ tx) (ht1 : tx < 18446744073709551616) (hp0 : 0 ≤ prev) (hp1 : prev < 18446744073709551616) (hf : formB 1 prev page off next bN aN dN opn (dirtyOk (-1) dl) = true)  :
    Calls Try.prog 23 #[.agg #[.int .u8 1, .int .u64 tx, .int .u64 prev, .int .i64 page, .int .i64 off, .slice bA bN bC, .slice aA aN aC, .int .u64 next, .slice dA dN dC, .bool opn]] w (EncPost (encL 1 tx prev page off next bl al dl opn) w) := by
  have hf' := Lib.hid hf
  clear hf
  go_enter Try.func23, Try.ntmps23
  go_upto_region 1 with (fail)
  have k0 := At.new w #[.int .u8 1, .int .u64 tx, .int .u64 prev, .int .i64 page, .int .i64 off, .slice bA bN bC, .slice aA aN aC, .int .u64 next, .slice dA dN dC, .bool opn] 26
  have hB : Below w.heap.size w (w.alloc (.cells #[.int .u8 1, .int .u64 tx, .int .u64 prev, .int .i64 page, .int .i64 off, .slice bA bN bC, .slice aA aN aC, .int .u64 next, .slice dA dN dC, .bool opn] 26)) := (Below.refl _ _).alloc (Nat.le_refl _) _
  have k1l0 : w.heap.size < (w.alloc (.cells #[.int .u8 1, .int .u64 tx, .int .u64 prev, .int .i64 page, .int .i64 off, .slice bA bN bC, .slice aA aN aC, .int .u64 next, .slice dA dN dC, .bool opn] 26)).heap.size := k0.lt
  generalize (w.alloc (.cells #[.int .u8 1, .int .u64 tx, .int .u64 prev, .int .i64 page, .int .i64 off, .slice bA bN bC, .slice aA aN aC, .int .u64 next, .slice dA dN dC, .bool opn] 26)) = w0 at *
  have k1 := k0
  have k1c := k1.c; have k1f := k1.f; have k1l := k1.lt
  go_wp2_with fail
  refine (form_at 1 tx prev page off next bA aA dA bN bC aN aC dN dC opn dl true _ ⟨hl.1, (hl.2.below hB (Nat.le_refl _)).more hB.size⟩ hn hf'.out).mono ?_
  rintro e w1 ⟨rfl, hb1⟩
  clear k1 k1c k1f k1l
  have k1 := At.below k0 hb1 k1l0
  have k1c := k1.c; have k1f := k1.f; have k1l := k1.lt
  go_upto_region 3 with (fail)
  go_cut [4] (fun v4 wc => ∃ A c, v4 = .slice A 9 c ∧ OwB wc w0.heap.size A 9 c ([1] ++ u8L tx) ∧ Below w0.heap.size w0 wc)
  case first =>
    go_region_held3 (fun w' => At w' w.heap.size #[.int .u8 1, .int .u64 tx, .int .u64 prev, .int .i64 page, .int .i64 off, .slice bA bN bC, .slice aA aN aC, .int .u64 next, .slice dA dN dC, .bool opn] 26 ∧ (∀ o, w'.cell? ⟨w.heap.size, o, none⟩ = #[.int .u8 1, .int .u64 tx, .int .u64 prev, .int .i64 page, .int .i64 off, .slice bA bN bC, .slice aA aN aC, .int .u64 next, .slice dA dN dC, .bool opn][o]?))
      (first
        | (exact ⟨k1.drew, k1.drew.c⟩)
        | (exact ⟨(k1.drew.alloc _), (k1.drew.alloc _).c⟩)
        | (go_split_ands
           have hk3 := At.keep hbU (by assumption : At _ w.heap.size #[.int .u8 1, .int .u64 tx, .int .u64 prev, .int .i64 page, .int .i64 off, .slice bA bN bC, .slice aA aN aC, .int .u64 next, .slice dA dN dC, .bool opn] 26)
           exact ⟨hk3, hk3.c⟩)
        | (go_split_ands
           have hk3 := At.below (by assumption : At _ w.heap.size #[.int .u8 1, .int .u64 tx, .int .u64 prev, .int .i64 page, .int .i64 off, .slice bA bN bC, .slice aA aN aC, .int .u64 next, .slice dA dN dC, .bool opn] 26) hb4 k1l0
           exact ⟨hk3, hk3.c⟩)
        | (go_split_ands
           have hk3 := At.alloc (by assumption : At _ w.heap.size #[.int .u8 1, .int .u64 tx, .int .u64 prev, .int .i64 page, .int .i64 off, .slice bA bN bC, .slice aA aN aC, .int .u64 next, .slice dA dN dC, .bool opn] 26) (.cells #[.int .u8 1] 5)
           exact ⟨hk3, hk3.c⟩))
      (first
        | (go_at_call 63; refine (uint_g tx ht0 ht1 _).mono ?_; rintro e wU ⟨gU, rfl, hu, hgU, hul, hbU⟩)
        | (refine step_app (by rfl) (.tmp 14) (.tmp 17) (by rfl) w0.heap.size 1 1 (some ⟨w1.heap.size, 0, none⟩) [1] (by rfl) (OwB.made (l := [1]) ((At.new w1 _ _).drew.keep hbU) rfl (Byt.cons (by omega) (by omega) Byt.nil) hb1.size (by decide)) _ _ 8 8 _ (u8L tx) (by rfl) hu (by omega) (Nat.le_trans hb1.size (ge_alloc hbU)) ?_; intro A4 c4 w4 ho4 hg4 hb4 hat4)
        | (refine step_app (by rfl) (.tmp 14) (.tmp 17) (by rfl) w0.heap.size 1 1 (some ⟨wU.heap.size, 0, none⟩) [1] (by rfl) (OwB.made (l := [1]) (At.new wU _ _) rfl (Byt.cons (by omega) (by omega) Byt.nil) (Nat.le_trans hb1.size (ge_drew hbU)) (by decide)) _ _ 8 8 _ (u8L tx) (by rfl) (hu.below (below_new wU _) (Nat.succ_le_of_lt hul)) (by omega) (Nat.le_trans hb1.size (Nat.le_trans (ge_drew hbU) (ge_new _ _))) ?_; intro A4 c4 w4 ho4 hg4 hb4 hat4))
    all_goals (go_wp2_with fail; go_meet)
    all_goals (case rel => first | exact ⟨A4, c4, rfl, ho4, below_tr (below_keep hbU (below_dr (below_al hb1))) hb4⟩ | exact ⟨A4, c4, rfl, ho4, below_tr (below_al (below_keep hbU (below_dr hb1))) hb4⟩)
  case rest =>
    clear k1 k1c k1f k1l hb1
    obtain ⟨A4, c4, rfl, ho4, hB4⟩ := hcut
    have k1 := At.below k0 hB4 k1l0
    have k1c := k1.c; have k1f := k1.f; have k1l := k1.lt
    go_wp2_with fail
    refine (sum_calls A4 (9) c4 ([1] ++ u8L tx) wc (ho4.reads.bs (Nat.le_refl _)) (by omega)).mono ?_
    rintro e wS ⟨rfl, rfl⟩
    have hsr := sumL_range ([1] ++ u8L tx)
    generalize hss : sumL ([1] ++ u8L tx) = ss at *
    have hss' := Lib.hid hss
    clear hss
    go_wp2_with (at_builtin; refine wpList_app rfl (.tmp 112) (.tmp 124) rfl w0.heap.size (9) c4 A4 ([1] ++ u8L tx) rfl (ho4.alloc _) _ _ 4 4 _ (fourL ss) rfl (BsR.of_at (l := fourL ss) (At.new wc _ _) rfl (fourL_byt ss hsr)) (by omega) (Nat.le_trans hB4.size (ge_new _ _)) ?_; intro A9 c9 w9 ho9 hg9 hb9 hat9)
    go_ret2
    refine ⟨A9, c9, _, rfl, ?_, below_tr hB ((below_tr (below_al hB4) hb9).mono (Nat.le_of_lt k1l0))⟩
    have e : encL 1 tx prev page off next bl al dl opn = [1] ++ u8L tx ++ fourL ss := by unfold encL; rw [show bodyL 1 tx prev page off next bl al dl opn = [1] ++ u8L tx from by simp [bodyL], hss'.out]
    rw [e]; exact ho9.less hB.size
set_option linter.unusedVariables false in
set_option maxRecDepth 100000 in
set_option maxHeartbeats 4000000 in
theorem enc_4 (tx prev page off next : Int) (bA aA dA : Option Addr) (bN bC aN aC dN dC : Nat) (opn : Bool) (bl al : List Int) (dl : List (Int × Int)) (w : World) (hl : PrR w 0 w.heap.size dA dN dl) (hn : dN * 16 ≤ 140737488351232)
    (ht0 : 0 ≤ tx) (ht1 : tx < 18446744073709551616) (hp0 : 0 ≤ prev) (hp1 : prev < 18446744073709551616) (hf : formB 4 prev page off next bN aN dN opn (dirtyOk (-1) dl) = true)  :
    Calls Try.prog 23 #[.agg #[.int .u8 4, .int .u64 tx, .int .u64 prev, .int .i64 page, .int .i64 off, .slice bA bN bC, .slice aA aN aC, .int .u64 next, .slice dA dN dC, .bool opn]] w (EncPost (encL 4 tx prev page off next bl al dl opn) w) := by
  have hf' := Lib.hid hf
  clear hf
  go_enter Try.func23, Try.ntmps23
  go_upto_region 1 with (fail)
  have k0 := At.new w #[.int .u8 4, .int .u64 tx, .int .u64 prev, .int .i64 page, .int .i64 off, .slice bA bN bC, .slice aA aN aC, .int .u64 next, .slice dA dN dC, .bool opn] 26
  have hB : Below w.heap.size w (w.alloc (.cells #[.int .u8 4, .int .u64 tx, .int .u64 prev, .int .i64 page, .int .i64 off, .slice bA bN bC, .slice aA aN aC, .int .u64 next, .slice dA dN dC, .bool opn] 26)) := (Below.refl _ _).alloc (Nat.le_refl _) _
  have k1l0 : w.heap.size < (w.alloc (.cells #[.int .u8 4, .int .u64 tx, .int .u64 prev, .int .i64 page, .int .i64 off, .slice bA bN bC, .slice aA aN aC, .int .u64 next, .slice dA dN dC, .bool opn] 26)).heap.size := k0.lt
  generalize (w.alloc (.cells #[.int .u8 4, .int .u64 tx, .int .u64 prev, .int .i64 page, .int .i64 off, .slice bA bN bC, .slice aA aN aC, .int .u64 next, .slice dA dN dC, .bool opn] 26)) = w0 at *
  have k1 := k0
  have k1c := k1.c; have k1f := k1.f; have k1l := k1.lt
  go_wp2_with fail
  refine (form_at 4 tx prev page off next bA aA dA bN bC aN aC dN dC opn dl true _ ⟨hl.1, (hl.2.below hB (Nat.le_refl _)).more hB.size⟩ hn hf'.out).mono ?_
  rintro e w1 ⟨rfl, hb1⟩
  clear k1 k1c k1f k1l
  have k1 := At.below k0 hb1 k1l0
  have k1c := k1.c; have k1f := k1.f; have k1l := k1.lt
  go_upto_region 3 with (fail)
  go_cut [4] (fun v4 wc => ∃ A c, v4 = .slice A 9 c ∧ OwB wc w0.heap.size A 9 c ([4] ++ u8L tx) ∧ Below w0.heap.size w0 wc)
  case first =>
    go_region_held3 (fun w' => At w' w.heap.size #[.int .u8 4, .int .u64 tx, .int .u64 prev, .int .i64 page, .int .i64 off, .slice bA bN bC, .slice aA aN aC, .int .u64 next, .slice dA dN dC, .bool opn] 26 ∧ (∀ o, w'.cell? ⟨w.heap.size, o, none⟩ = #[.int .u8 4, .int .u64 tx, .int .u64 prev, .int .i64 page, .int .i64 off, .slice bA bN bC, .slice aA aN aC, .int .u64 next, .slice dA dN dC, .bool opn][o]?))
      (first
        | (exact ⟨k1.drew, k1.drew.c⟩)
        | (exact ⟨(k1.drew.alloc _), (k1.drew.alloc _).c⟩)
        | (go_split_ands
           have hk3 := At.keep hbU (by assumption : At _ w.heap.size #[.int .u8 4, .int .u64 tx, .int .u64 prev, .int .i64 page, .int .i64 off, .slice bA bN bC, .slice aA aN aC, .int .u64 next, .slice dA dN dC, .bool opn] 26)
           exact ⟨hk3, hk3.c⟩)
        | (go_split_ands
           have hk3 := At.below (by assumption : At _ w.heap.size #[.int .u8 4, .int .u64 tx, .int .u64 prev, .int .i64 page, .int .i64 off, .slice bA bN bC, .slice aA aN aC, .int .u64 next, .slice dA dN dC, .bool opn] 26) hb4 k1l0
           exact ⟨hk3, hk3.c⟩)
        | (go_split_ands
           have hk3 := At.alloc (by assumption : At _ w.heap.size #[.int .u8 4, .int .u64 tx, .int .u64 prev, .int .i64 page, .int .i64 off, .slice bA bN bC, .slice aA aN aC, .int .u64 next, .slice dA dN dC, .bool opn] 26) (.cells #[.int .u8 4] 5)
           exact ⟨hk3, hk3.c⟩))
      (first
        | (go_at_call 63; refine (uint_g tx ht0 ht1 _).mono ?_; rintro e wU ⟨gU, rfl, hu, hgU, hul, hbU⟩)
        | (refine step_app (by rfl) (.tmp 14) (.tmp 17) (by rfl) w0.heap.size 1 1 (some ⟨w1.heap.size, 0, none⟩) [4] (by rfl) (OwB.made (l := [4]) ((At.new w1 _ _).drew.keep hbU) rfl (Byt.cons (by omega) (by omega) Byt.nil) hb1.size (by decide)) _ _ 8 8 _ (u8L tx) (by rfl) hu (by omega) (Nat.le_trans hb1.size (ge_alloc hbU)) ?_; intro A4 c4 w4 ho4 hg4 hb4 hat4)
        | (refine step_app (by rfl) (.tmp 14) (.tmp 17) (by rfl) w0.heap.size 1 1 (some ⟨wU.heap.size, 0, none⟩) [4] (by rfl) (OwB.made (l := [4]) (At.new wU _ _) rfl (Byt.cons (by omega) (by omega) Byt.nil) (Nat.le_trans hb1.size (ge_drew hbU)) (by decide)) _ _ 8 8 _ (u8L tx) (by rfl) (hu.below (below_new wU _) (Nat.succ_le_of_lt hul)) (by omega) (Nat.le_trans hb1.size (Nat.le_trans (ge_drew hbU) (ge_new _ _))) ?_; intro A4 c4 w4 ho4 hg4 hb4 hat4))
    all_goals (go_wp2_with fail; go_meet)
    all_goals (case rel => first | exact ⟨A4, c4, rfl, ho4, below_tr (below_keep hbU (below_dr (below_al hb1))) hb4⟩ | exact ⟨A4, c4, rfl, ho4, below_tr (below_al (below_keep hbU (below_dr hb1))) hb4⟩)
  case rest =>
    clear k1 k1c k1f k1l hb1
    obtain ⟨A4, c4, rfl, ho4, hB4⟩ := hcut
    have k1 := At.below k0 hB4 k1l0
    have k1c := k1.c; have k1f := k1.f; have k1l := k1.lt
    go_wp2_with fail
    refine (uint_g prev hp0 hp1 _).mono ?_
    rintro e wU ⟨gU, rfl, hu, hgU, hul, hbU⟩
    clear k1 k1c k1f k1l
    go_wp2_with (at_builtin; refine wpList_app rfl (.tmp 22) (.tmp 25) rfl w0.heap.size 9 c4 A4 ([4] ++ u8L tx) rfl (ho4.later hbU) _ _ 8 8 _ (u8L prev) rfl hu (by omega) (Nat.le_trans hB4.size hbU.size) ?_; intro A5 c5 w5 ho5 hg5 hb5 hat5; have hB5 := below_tr (below_keep hbU hB4) hb5; have k1 := At.below k0 hB5 k1l0; have k1c := k1.c; have k1f := k1.f; have k1l := k1.lt)
    go_wp2_with fail
    refine (sum_calls A5 (17) c5 ([4] ++ u8L tx ++ u8L prev) w5 (ho5.reads.bs (Nat.le_refl _)) (by omega)).mono ?_
    rintro e wS ⟨rfl, rfl⟩
    have hsr := sumL_range ([4] ++ u8L tx ++ u8L prev)
    generalize hss : sumL ([4] ++ u8L tx ++ u8L prev) = ss at *
    have hss' := Lib.hid hss
    clear hss
    go_wp2_with (at_builtin; refine wpList_app rfl (.tmp 112) (.tmp 124) rfl w0.heap.size (17) c5 A5 ([4] ++ u8L tx ++ u8L prev) rfl (ho5.alloc _) _ _ 4 4 _ (fourL ss) rfl (BsR.of_at (l := fourL ss) (At.new w5 _ _) rfl (fourL_byt ss hsr)) (by omega) (Nat.le_trans hB5.size (ge_new _ _)) ?_; intro A9 c9 w9 ho9 hg9 hb9 hat9)
    go_ret2
    refine ⟨A9, c9, _, rfl, ?_, below_tr hB ((below_tr (below_al hB5) hb9).mono (Nat.le_of_lt k1l0))⟩
    have e : encL 4 tx prev page off next bl al dl opn = [4] ++ u8L tx ++ u8L prev ++ fourL ss := by unfold encL; rw [show bodyL 4 tx prev page off next bl al dl opn = [4] ++ u8L tx ++ u8L prev from by simp [bodyL], hss'.out]
    rw [e]; exact ho9.less hB.size
set_option linter.unusedVariables false in
set_option maxRecDepth 100000 in
set_option maxHeartbeats 4000000 in
theorem enc_5 (tx prev page off next : Int) (bA aA dA : Option Addr) (bN bC aN aC dN dC : Nat) (opn : Bool) (bl al : List Int) (dl : List (Int × Int)) (w : World) (hl : PrR w 0 w.heap.size dA dN dl) (hn : dN * 16 ≤ 140737488351232)
    (ht0 : 0 ≤ tx) (ht1 : tx < 18446744073709551616) (hp0 : 0 ≤ prev) (hp1 : prev < 18446744073709551616) (hf : formB 5 prev page off next bN aN dN opn (dirtyOk (-1) dl) = true)  :
    Calls Try.prog 23 #[.agg #[.int .u8 5, .int .u64 tx, .int .u64 prev, .int .i64 page, .int .i64 off, .slice bA bN bC, .slice aA aN aC, .int .u64 next, .slice dA dN dC, .bool opn]] w (EncPost (encL 5 tx prev page off next bl al dl opn) w) := by
  have hf' := Lib.hid hf
  clear hf
  go_enter Try.func23, Try.ntmps23
  go_upto_region 1 with (fail)
  have k0 := At.new w #[.int .u8 5, .int .u64 tx, .int .u64 prev, .int .i64 page, .int .i64 off, .slice bA bN bC, .slice aA aN aC, .int .u64 next, .slice dA dN dC, .bool opn] 26
  have hB : Below w.heap.size w (w.alloc (.cells #[.int .u8 5, .int .u64 tx, .int .u64 prev, .int .i64 page, .int .i64 off, .slice bA bN bC, .slice aA aN aC, .int .u64 next, .slice dA dN dC, .bool opn] 26)) := (Below.refl _ _).alloc (Nat.le_refl _) _
  have k1l0 : w.heap.size < (w.alloc (.cells #[.int .u8 5, .int .u64 tx, .int .u64 prev, .int .i64 page, .int .i64 off, .slice bA bN bC, .slice aA aN aC, .int .u64 next, .slice dA dN dC, .bool opn] 26)).heap.size := k0.lt
  generalize (w.alloc (.cells #[.int .u8 5, .int .u64 tx, .int .u64 prev, .int .i64 page, .int .i64 off, .slice bA bN bC, .slice aA aN aC, .int .u64 next, .slice dA dN dC, .bool opn] 26)) = w0 at *
  have k1 := k0
  have k1c := k1.c; have k1f := k1.f; have k1l := k1.lt
  go_wp2_with fail
  refine (form_at 5 tx prev page off next bA aA dA bN bC aN aC dN dC opn dl true _ ⟨hl.1, (hl.2.below hB (Nat.le_refl _)).more hB.size⟩ hn hf'.out).mono ?_
  rintro e w1 ⟨rfl, hb1⟩
  clear k1 k1c k1f k1l
  have k1 := At.below k0 hb1 k1l0
  have k1c := k1.c; have k1f := k1.f; have k1l := k1.lt
  go_upto_region 3 with (fail)
  go_cut [4] (fun v4 wc => ∃ A c, v4 = .slice A 9 c ∧ OwB wc w0.heap.size A 9 c ([5] ++ u8L tx) ∧ Below w0.heap.size w0 wc)
  case first =>
    go_region_held3 (fun w' => At w' w.heap.size #[.int .u8 5, .int .u64 tx, .int .u64 prev, .int .i64 page, .int .i64 off, .slice bA bN bC, .slice aA aN aC, .int .u64 next, .slice dA dN dC, .bool opn] 26 ∧ (∀ o, w'.cell? ⟨w.heap.size, o, none⟩ = #[.int .u8 5, .int .u64 tx, .int .u64 prev, .int .i64 page, .int .i64 off, .slice bA bN bC, .slice aA aN aC, .int .u64 next, .slice dA dN dC, .bool opn][o]?))
      (first
        | (exact ⟨k1.drew, k1.drew.c⟩)
        | (exact ⟨(k1.drew.alloc _), (k1.drew.alloc _).c⟩)
        | (go_split_ands
           have hk3 := At.keep hbU (by assumption : At _ w.heap.size #[.int .u8 5, .int .u64 tx, .int .u64 prev, .int .i64 page, .int .i64 off, .slice bA bN bC, .slice aA aN aC, .int .u64 next, .slice dA dN dC, .bool opn] 26)
           exact ⟨hk3, hk3.c⟩)
        | (go_split_ands
           have hk3 := At.below (by assumption : At _ w.heap.size #[.int .u8 5, .int .u64 tx, .int .u64 prev, .int .i64 page, .int .i64 off, .slice bA bN bC, .slice aA aN aC, .int .u64 next, .slice dA dN dC, .bool opn] 26) hb4 k1l0
           exact ⟨hk3, hk3.c⟩)
        | (go_split_ands
           have hk3 := At.alloc (by assumption : At _ w.heap.size #[.int .u8 5, .int .u64 tx, .int .u64 prev, .int .i64 page, .int .i64 off, .slice bA bN bC, .slice aA aN aC, .int .u64 next, .slice dA dN dC, .bool opn] 26) (.cells #[.int .u8 5] 5)
           exact ⟨hk3, hk3.c⟩))
      (first
        | (go_at_call 63; refine (uint_g tx ht0 ht1 _).mono ?_; rintro e wU ⟨gU, rfl, hu, hgU, hul, hbU⟩)
        | (refine step_app (by rfl) (.tmp 14) (.tmp 17) (by rfl) w0.heap.size 1 1 (some ⟨w1.heap.size, 0, none⟩) [5] (by rfl) (OwB.made (l := [5]) ((At.new w1 _ _).drew.keep hbU) rfl (Byt.cons (by omega) (by omega) Byt.nil) hb1.size (by decide)) _ _ 8 8 _ (u8L tx) (by rfl) hu (by omega) (Nat.le_trans hb1.size (ge_alloc hbU)) ?_; intro A4 c4 w4 ho4 hg4 hb4 hat4)
        | (refine step_app (by rfl) (.tmp 14) (.tmp 17) (by rfl) w0.heap.size 1 1 (some ⟨wU.heap.size, 0, none⟩) [5] (by rfl) (OwB.made (l := [5]) (At.new wU _ _) rfl (Byt.cons (by omega) (by omega) Byt.nil) (Nat.le_trans hb1.size (ge_drew hbU)) (by decide)) _ _ 8 8 _ (u8L tx) (by rfl) (hu.below (below_new wU _) (Nat.succ_le_of_lt hul)) (by omega) (Nat.le_trans hb1.size (Nat.le_trans (ge_drew hbU) (ge_new _ _))) ?_; intro A4 c4 w4 ho4 hg4 hb4 hat4))
    all_goals (go_wp2_with fail; go_meet)
    all_goals (case rel => first | exact ⟨A4, c4, rfl, ho4, below_tr (below_keep hbU (below_dr (below_al hb1))) hb4⟩ | exact ⟨A4, c4, rfl, ho4, below_tr (below_al (below_keep hbU (below_dr hb1))) hb4⟩)
  case rest =>
    clear k1 k1c k1f k1l hb1
    obtain ⟨A4, c4, rfl, ho4, hB4⟩ := hcut
    have k1 := At.below k0 hB4 k1l0
    have k1c := k1.c; have k1f := k1.f; have k1l := k1.lt
    go_wp2_with fail
    refine (uint_g prev hp0 hp1 _).mono ?_
    rintro e wU ⟨gU, rfl, hu, hgU, hul, hbU⟩
    clear k1 k1c k1f k1l
    go_wp2_with (at_builtin; refine wpList_app rfl (.tmp 22) (.tmp 25) rfl w0.heap.size 9 c4 A4 ([5] ++ u8L tx) rfl (ho4.later hbU) _ _ 8 8 _ (u8L prev) rfl hu (by omega) (Nat.le_trans hB4.size hbU.size) ?_; intro A5 c5 w5 ho5 hg5 hb5 hat5; have hB5 := below_tr (below_keep hbU hB4) hb5; have k1 := At.below k0 hB5 k1l0; have k1c := k1.c; have k1f := k1.f; have k1l := k1.lt)
    go_wp2_with fail
    refine (sum_calls A5 (17) c5 ([5] ++ u8L tx ++ u8L prev) w5 (ho5.reads.bs (Nat.le_refl _)) (by omega)).mono ?_
    rintro e wS ⟨rfl, rfl⟩
    have hsr := sumL_range ([5] ++ u8L tx ++ u8L prev)
    generalize hss : sumL ([5] ++ u8L tx ++ u8L prev) = ss at *
    have hss' := Lib.hid hss
    clear hss
    go_wp2_with (at_builtin; refine wpList_app rfl (.tmp 112) (.tmp 124) rfl w0.heap.size (17) c5 A5 ([5] ++ u8L tx ++ u8L prev) rfl (ho5.alloc _) _ _ 4 4 _ (fourL ss) rfl (BsR.of_at (l := fourL ss) (At.new w5 _ _) rfl (fourL_byt ss hsr)) (by omega) (Nat.le_trans hB5.size (ge_new _ _)) ?_; intro A9 c9 w9 ho9 hg9 hb9 hat9)
    go_ret2
    refine ⟨A9, c9, _, rfl, ?_, below_tr hB ((below_tr (below_al hB5) hb9).mono (Nat.le_of_lt k1l0))⟩
    have e : encL 5 tx prev page off next bl al dl opn = [5] ++ u8L tx ++ u8L prev ++ fourL ss := by unfold encL; rw [show bodyL 5 tx prev page off next bl al dl opn = [5] ++ u8L tx ++ u8L prev from by simp [bodyL], hss'.out]
    rw [e]; exact ho9.less hB.size
end Go.Proofs.Ytjgomebnlekddaa
