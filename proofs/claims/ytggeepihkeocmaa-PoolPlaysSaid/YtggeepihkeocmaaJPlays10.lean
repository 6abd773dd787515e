/- Joined texts: LogI, LogJ. -/
import Derived.Test.YtggeepihkeocmaaJPlays09
import Derived.Test.YtggeepihkeocmaaJPlays05
/- The log's lay by its contract. -/
namespace Go.Proofs.Ytggeepihkeocmaa
set_option linter.unusedVariables false
set_option linter.unusedSimpArgs false
open Go.RowKit
theorem wp_appR {P : Program} {w : World} {o : Oper} {a : Act} {K : Act → World → Prop} {Q : Exit → Act → World → Prop} (t8 : TypeId) (i0 : TypeInfo) (ht : P.underlying t8 = some (.slice 5)) (hi0 : P.info? 5 = some i0) (hz0 : i0.zero = some (.int .u8 0)) (hz1 : i0.size = 1) (hz2 : i0.bytes = 1) (s x : Operand) (ho : o.op = .call { callee := .builtin .append, args := #[s, x], argTypes := #[t8, t8] })
    (base n c : Nat) (ad bd : Addr) (xs : List Int) (lo1 hi1 lo hi m c' : Nat) (he : a.eval s = .slice (some ad) n c) (hs : BsR w lo1 hi1 (some ad) n xs) (ys : List Int) (hx : a.eval x = .slice (some bd) m c') (hr : BsR w lo hi (some bd) m ys)
    (hfull : c < n + m) (hsz : n + m ≤ 70368744177664) (hbase : base ≤ w.heap.size)
    (h : ∀ c'' w', OwB w' base (some ⟨w.heap.size, 0, none⟩) (n + m) c'' (xs ++ ys) → Below w.heap.size w w' → K (a.put o.dst (.slice (some ⟨w.heap.size, 0, none⟩) (n + m) c'')) w') : o.wp P a w K Q := by
  obtain ⟨c'', w', hrun, h2, h3⟩ := run_appR_gen t8 i0 ht hi0 hz0 hz1 hz2 w o.type base n c ad bd xs lo1 hi1 lo hi m c' hs ys hr hfull hsz hbase
  exact Lib.wp_append_run w s x _ _ ho _ _ he hx _ _ hrun (h c'' w' h2 h3)
set_option maxRecDepth 100000 in
set_option maxHeartbeats 4000000 in
theorem llay_w {base d lb g bc n c : Nat} {F : Nat → Prop} {bA A : Option Addr} {L : Lg} {D : Dk} {p : List Int} (k i : Nat) (w : World) (hL : LgW w base d g bA bc L) (hD : DD w base d lb F D) (hp : BsR w 0 w.heap.size A n p) (hn : n ≤ 480) (hk : k < 4611686018427387904) (hi : (i : Int) = L.pos + 1 + k % L.count) (hil : i < D.l.length) (h9 : D.ops < 1000000000) (hm9 : D.way.length < 1000000000) :
    Calls Try.prog 79 #[.pointer (some ⟨g, 0, none⟩), .int .u64 k, .slice A n c] w fun e w' => e = .returned (.int .i64 (wr1E D)) ∧ (∃ F', DD w' base d lb F' (wr1 D i (layL k L.epoch p)) ∧ Grew F F' w.heap.size) ∧ Mod F w w' := by
  have hln := hp.1
  have hLx := Lib.hid hL
  have k0 := hL.at_
  have hep := hL.epoch
  have hc0 := hL.count
  have hp0 := hL.pos
  have d0 : Below w.heap.size w w.drew := below_dr (Below.refl _ _)
  go_enter Try.func79, Try.ntmps79
  go_upto_region 1 with (fail)
  have f0 := (At.keep d0 k0).c
  refine wp_region_held_drew (S := fun w' => (∀ o, w'.cell? ⟨g, o, none⟩ = #[.pointer (some ⟨d, 0, none⟩), .int .i64 L.pos, .int .i64 L.count, .int .u64 L.epoch, .int .u64 L.start, .int .u64 L.check, .int .u64 L.sure, .int .i64 L.held, .int .u64 L.base, .slice bA L.buf.length bc][o]?)) (by kernel_rfl) f0 (fun hHeld => ?_)
  (refine wpAnyH_takeL (i := 0) (v := ?_) rfl (by kernel_rfl) (by kernel_rfl) (by kernel_rfl) (fun _ _ _ h => h) (by rfl) hHeld ?_ ?_; rotate_left; (focus (intro w hSw; (try dsimp only at hSw); go_simp; (try with_reducible rfl); done)); (try simp only [Act.put, List.setIfInBounds_toArray, List.set_cons_zero, List.set_cons_succ]))
  (refine wpAnyH_takeL (i := 2) (v := ?_) rfl (by kernel_rfl) (by kernel_rfl) (by kernel_rfl) (fun _ _ _ h => h) (by rfl) hHeld ?_ ?_; rotate_left; (focus (intro w hSw; (try dsimp only at hSw); go_simp; (try with_reducible rfl); done)); (try simp only [Act.put, List.setIfInBounds_toArray, List.set_cons_zero, List.set_cons_succ]))
  (refine wpAnyH_takeL (i := 3) (v := ?_) rfl (by kernel_rfl) (by kernel_rfl) (by kernel_rfl) (fun _ _ _ h => h) (by rfl) hHeld ?_ ?_; rotate_left; (focus (intro w hSw; (try dsimp only at hSw); go_simp; (try with_reducible rfl); done)); (try simp only [Act.put, List.setIfInBounds_toArray, List.set_cons_zero, List.set_cons_succ]))
  (refine wpAnyH_takeL (i := 4) (v := ?_) rfl (by kernel_rfl) (by kernel_rfl) (by kernel_rfl) (fun _ _ _ h => h) (by rfl) hHeld ?_ ?_; rotate_left; (focus (intro w hSw; (try dsimp only at hSw); go_simp; (try with_reducible rfl); done)); (try simp only [Act.put, List.setIfInBounds_toArray, List.set_cons_zero, List.set_cons_succ]))
  (refine wpAnyH_takeL (i := 5) (v := ?_) rfl (by kernel_rfl) (by kernel_rfl) (by kernel_rfl) (fun _ _ _ h => h) (by rfl) hHeld ?_ ?_; rotate_left; (focus (intro w hSw; (try dsimp only at hSw); go_simp; (try with_reducible rfl); done)); (try simp only [Act.put, List.setIfInBounds_toArray, List.set_cons_zero, List.set_cons_succ]))
  (refine wpAnyH_callL (i := 1) rfl (by kernel_rfl) (by rfl) (fun K hK => ?_); go_simp)
  go_at_call 67
  refine (uint_g (k : Int) (by omega) (by omega) _).mono ?_
  rintro e v1 ⟨g1, rfl, hr1, hg1a, hg1b, hb1⟩
  have hB1 : Below w.heap.size w v1 := below_keep hb1 d0
  have k1 := At.below k0 hB1 k0.lt
  have f1 := k1.c
  clear hHeld
  refine hK.out _ _ f1 (fun hHeld => ?_)
  (clear hK K; (try simp only [Act.put, List.setIfInBounds_toArray, List.set_cons_zero, List.set_cons_succ]))
  (refine wpAnyH_callL (i := 6) rfl (by kernel_rfl) (by rfl) (fun K hK => ?_); go_simp)
  go_at_call 67
  refine (uint_g L.epoch hep.1 hep.2 _).mono ?_
  rintro e v2 ⟨g2, rfl, hr2, hg2a, hg2b, hb2⟩
  have hB2 : Below w.heap.size w v2 := below_keep hb2 hB1
  have k2 := At.below k0 hB2 k0.lt
  have f2 := k2.c
  clear hHeld
  refine hK.out _ _ f2 (fun hHeld => ?_)
  (clear hK K; (try simp only [Act.put, List.setIfInBounds_toArray, List.set_cons_zero, List.set_cons_succ]))
  refine wpAnyH_callL (i := 7) rfl (by kernel_rfl) (by rfl) (fun K hK => ?_)
  refine wp_appR 32 _ Try.underlying32 (info_parts info8).choose_spec.1 (info_parts info8).choose_spec.2.1 (info_parts info8).choose_spec.2.2.1 (info_parts info8).choose_spec.2.2.2 (.tmp 9) (.tmp 14) (by rfl) w.heap.size 8 8 ⟨g1, 0, none⟩ ⟨g2, 0, none⟩ (u8L k) _ _ _ _ 8 8 (by rfl) (hr1.below hb2 hg1b) (u8L L.epoch) (by rfl) hr2 (by omega) (by omega) hB2.size ?_
  intro c3 w3 ho3 hb3
  have hB3 : Below w.heap.size w w3 := below_keep hb3 hB2
  have k3 := At.below k0 hB3 k0.lt
  have f3 := k3.c
  clear hHeld
  refine hK.out _ _ f3 (fun hHeld => ?_)
  (clear hK K; (try simp only [Act.put, List.setIfInBounds_toArray, List.set_cons_zero, List.set_cons_succ]))
  (refine wpAnyH_takeL (i := 8) (v := ?_) rfl (by kernel_rfl) (by kernel_rfl) (by kernel_rfl) (fun _ _ _ h => h) (by rfl) hHeld ?_ ?_; rotate_left; (focus (intro w hSw; (try dsimp only at hSw); go_simp; (try with_reducible rfl); done)); (try simp only [Act.put, List.setIfInBounds_toArray, List.set_cons_zero, List.set_cons_succ]))
  (refine wpAnyH_done (by kernel_rfl) ?_ _)
  clear hHeld f0 f1 f2 f3 k1 k2 hr1 hr2
  have hi0 : (0 : Int) ≤ n := by omega
  have hw1 : IntKind.u8.wrap ((n : Int) / 256) = (n : Int) / 256 := IntWalk.u8_in _ (by omega)
  have hp3 := hp.below hB3 (Nat.le_refl _)
  have hs3 := hB3.size
  have hz5 : IntKind.i64.wrap (504 - ((18 : Int) + n)) = 504 - (18 + n) := IntWalk.i64_in _ (by omega)
  have hz6 := Lib.hid (show (504 : Int) - (18 + n) = ((486 - n : Nat) : Int) by omega)
  go_wp2_with (first
    | (at_builtin; refine wpList_app rfl (.tmp 16) (.tmp 24) rfl w.heap.size 16 c3 _ _ rfl (ho3.alloc _) _ _ 2 2 (some ⟨w3.heap.size, 0, none⟩) [(n : Int) / 256, (n : Int) % 256] rfl (BsR.of_at (l := [(n : Int) / 256, (n : Int) % 256]) (At.new w3 _ _) rfl (Byt.cons (by omega) (by omega) (Byt.cons (by omega) (by omega) Byt.nil))) (by omega) (Nat.le_trans hs3 (ge_new _ _)) ?_; intro A4 c4 w4 ho4 hg4 hb4 hat4; have hB4 : Below w.heap.size w w4 := below_tr (below_keep (below_new w3 _) hB3) hb4)
    | (at_builtin; refine wpList_app rfl (.tmp 25) (.tmp 26) rfl w.heap.size 18 c4 A4 _ rfl ho4 0 w.heap.size n c A p rfl (hp.below hB4 (Nat.le_refl _)) (by omega) hB4.size ?_; intro A5 c5 w5 ho5 hg5 hb5 hat5; have hB5 : Below w.heap.size w w5 := below_tr hB4 hb5; have ho5 : OwB w5 w.heap.size A5 (18 + n) c5 (layH k L.epoch p) := by (have e : layH k L.epoch p = u8L k ++ u8L L.epoch ++ [(n : Int) / 256, (n : Int) % 256] ++ p := by (unfold layH two2; rw [hln])); rw [e]; exact ho5)
    | (at_builtin; refine wpList_appZ rfl (.tmp 28) (.tmp 31) rfl w.heap.size (18 + n) c5 A5 _ rfl ho5 (486 - n) _ hz6.out rfl (by omega) hB5.size ?_; intro A6 c6 w6 ho6 hg6 hb6 hat6; have hB6 : Below w.heap.size w w6 := below_tr hB5 hb6; have ho6 : OwB w6 w.heap.size A6 504 c6 (layB k L.epoch p) := by (have e : layB k L.epoch p = layH k L.epoch p ++ List.replicate (486 - n) 0 := by (unfold layB; rw [hln])); have e2 : 18 + n + (486 - n) = 504 := (by omega); rw [e2] at ho6; rw [e]; exact ho6)
    | fail)
  have e504 : 18 + n + (486 - n) = 504 := by omega
  rw [e504]
  clear e504
  have hsr := sumL_range (layB k L.epoch p)
  have hz7 : IntKind.u64.wrap (sumL (layB k L.epoch p)) = sumL (layB k L.epoch p) := IntWalk.u64_in _ (by omega)
  refine (sum_calls A6 504 c6 (layB k L.epoch p) w6 (ho6.reads.bs (Nat.le_refl _)) (by omega)).mono ?_
  rintro e _ ⟨rfl, rfl⟩
  go_wp2_with fail
  refine (uint_g (sumL (layB k L.epoch p)) hsr.1 (by omega) w6).mono ?_
  rintro e w7 ⟨g7, rfl, hr7, hg7a, hg7b, hb7⟩
  have hB7 : Below w.heap.size w w7 := below_keep hb7 hB6
  have ho7 := ho6.later hb7
  go_upto_region 5 with (first
    | (at_builtin; refine wpList_app rfl (.tmp 33) (.tmp 37) rfl w.heap.size 504 c6 A6 _ rfl ho7 _ _ 8 8 (some ⟨g7, 0, none⟩) (u8L (sumL (layB k L.epoch p))) rfl hr7 (by omega) hB7.size ?_; intro A8 c8 w8 ho8 hg8 hb8 hat8; have hB8 : Below w.heap.size w w8 := below_tr hB7 hb8; change OwB w8 w.heap.size A8 512 c8 (layL k L.epoch p) at ho8)
    | fail)
  obtain ⟨r, hr⟩ : ∃ r, (k : Int) % L.count = r := ⟨_, rfl⟩
  have hr0 : 0 ≤ r ∧ r < L.count := by rw [← hr]; exact ⟨Int.emod_nonneg _ (by omega), Int.emod_lt_of_pos _ (by omega)⟩
  rw [hr] at hi
  have ht : (k : Int).tmod L.count = r := by rw [Int.tmod_eq_emod_of_nonneg (by omega), hr]
  have q1 : IntKind.i64.wrap (L.pos + 1) = L.pos + 1 := IntWalk.i64_in _ (by omega)
  have q2 : IntKind.u64.wrap L.count = L.count := IntWalk.u64_in _ (by omega)
  have q3 : IntKind.i64.wrap r = r := IntWalk.i64_in _ (by omega)
  have q4 : IntKind.i64.wrap (L.pos + 1 + r) = L.pos + 1 + r := IntWalk.i64_in _ (by omega)
  have q5 : (L.count == 0) = false := by simp; omega
  have q6 : L.count ≠ 0 := by omega
  have hBd := below_dr hB8
  have f9 := (At.below k0 hBd k0.lt).c
  refine wp_region_held_drew (S := fun w' => (∀ o, w'.cell? ⟨g, o, none⟩ = #[.pointer (some ⟨d, 0, none⟩), .int .i64 L.pos, .int .i64 L.count, .int .u64 L.epoch, .int .u64 L.start, .int .u64 L.check, .int .u64 L.sure, .int .i64 L.held, .int .u64 L.base, .slice bA L.buf.length bc][o]?)) (by kernel_rfl) f9 (fun hHeld => ?_)
  (refine wpAnyH_takeL (i := 0) (v := ?_) rfl (by kernel_rfl) (by kernel_rfl) (by kernel_rfl) (fun _ _ _ h => h) (by rfl) hHeld ?_ ?_; rotate_left; (focus (intro w hSw; (try dsimp only at hSw); go_simp; (try with_reducible rfl); done)); (try simp only [Act.put, List.setIfInBounds_toArray, List.set_cons_zero, List.set_cons_succ]))
  (refine wpAnyH_takeL (i := 1) (v := ?_) rfl (by kernel_rfl) (by kernel_rfl) (by kernel_rfl) (fun _ _ _ h => h) (by rfl) hHeld ?_ ?_; rotate_left; (focus (intro w hSw; (try dsimp only at hSw); go_simp; (try with_reducible rfl); done)); (try simp only [Act.put, List.setIfInBounds_toArray, List.set_cons_zero, List.set_cons_succ]))
  (refine wpAnyH_takeL (i := 2) (v := ?_) rfl (by kernel_rfl) (by kernel_rfl) (by kernel_rfl) (fun _ _ _ h => h) (by rfl) hHeld ?_ ?_; rotate_left; (focus (intro w hSw; (try dsimp only at hSw); go_simp; (try with_reducible rfl); done)); (try simp only [Act.put, List.setIfInBounds_toArray, List.set_cons_zero, List.set_cons_succ]))
  (refine wpAnyH_takeL (i := 3) (v := ?_) rfl (by kernel_rfl) (by kernel_rfl) (by kernel_rfl) (fun _ _ _ h => h) (by rfl) hHeld ?_ ?_; rotate_left; (focus (intro w hSw; (try dsimp only at hSw); go_simp; (try with_reducible rfl); done)); (try simp only [Act.put, List.setIfInBounds_toArray, List.set_cons_zero, List.set_cons_succ]))
  (refine wpAnyH_takeL (i := 4) (v := ?_) rfl (by kernel_rfl) (by kernel_rfl) (by kernel_rfl) (fun _ _ _ h => h) (by rfl) hHeld ?_ ?_; rotate_left; (focus (intro w hSw; (try dsimp only at hSw); go_simp; (try with_reducible rfl); done)); (try simp only [Act.put, List.setIfInBounds_toArray, List.set_cons_zero, List.set_cons_succ]))
  (refine wpAnyH_takeL (i := 5) (v := ?_) rfl (by kernel_rfl) (by kernel_rfl) (by kernel_rfl) (fun _ _ _ h => h) (by rfl) hHeld ?_ ?_; rotate_left; (focus (intro w hSw; (try dsimp only at hSw); go_simp; (try with_reducible rfl); done)); (try simp only [Act.put, List.setIfInBounds_toArray, List.set_cons_zero, List.set_cons_succ]))
  (refine wpAnyH_takeL (i := 6) (v := ?_) rfl (by kernel_rfl) (by kernel_rfl) (by kernel_rfl) (fun _ _ _ h => h) (by rfl) hHeld ?_ ?_; rotate_left; (focus (intro w hSw; (try dsimp only at hSw); go_simp; (try with_reducible rfl); done)); (try simp only [Act.put, List.setIfInBounds_toArray, List.set_cons_zero, List.set_cons_succ]))
  (refine wpAnyH_takeL (i := 7) (v := ?_) rfl (by kernel_rfl) (by kernel_rfl) (by kernel_rfl) (fun _ _ _ h => h) (by rfl) hHeld ?_ ?_; rotate_left; (focus (intro w hSw; (try dsimp only at hSw); go_simp; (try with_reducible rfl); done)); (try simp only [Act.put, List.setIfInBounds_toArray, List.set_cons_zero, List.set_cons_succ]))
  (refine wpAnyH_takeL (i := 8) (v := ?_) rfl (by kernel_rfl) (by kernel_rfl) (by kernel_rfl) (fun _ _ _ h => h) (by rfl) hHeld ?_ ?_; rotate_left; (focus (intro w hSw; (try dsimp only at hSw); go_simp; (try with_reducible rfl); done)); (try simp only [Act.put, List.setIfInBounds_toArray, List.set_cons_zero, List.set_cons_succ]))
  (refine wpAnyH_takeL (i := 9) (v := ?_) rfl (by kernel_rfl) (by kernel_rfl) (by kernel_rfl) (fun _ _ _ h => h) (by rfl) hHeld ?_ ?_; rotate_left; (focus (intro w hSw; (try dsimp only at hSw); go_simp; (try with_reducible rfl); done)); (try simp only [Act.put, List.setIfInBounds_toArray, List.set_cons_zero, List.set_cons_succ]))
  (refine wpAnyH_takeL (i := 10) (v := ?_) rfl (by kernel_rfl) (by kernel_rfl) (by kernel_rfl) (fun _ _ _ h => h) (by rfl) hHeld ?_ ?_; rotate_left; (focus (intro w hSw; (try dsimp only at hSw); go_simp; (try with_reducible rfl); done)); (try simp only [Act.put, List.setIfInBounds_toArray, List.set_cons_zero, List.set_cons_succ]))
  (refine wpAnyH_takeL (i := 11) (v := ?_) rfl (by kernel_rfl) (by kernel_rfl) (by kernel_rfl) (fun _ _ _ h => h) (by rfl) hHeld ?_ ?_; rotate_left; (focus (intro w hSw; (try dsimp only at hSw); go_simp; (try with_reducible rfl); done)); (try simp only [Act.put, List.setIfInBounds_toArray, List.set_cons_zero, List.set_cons_succ]))
  (refine wpAnyH_takeL (i := 12) (v := ?_) rfl (by kernel_rfl) (by kernel_rfl) (by kernel_rfl) (fun _ _ _ h => h) (by rfl) hHeld ?_ ?_; rotate_left; (focus (intro w hSw; (try dsimp only at hSw); go_simp; (try with_reducible rfl); done)); (try simp only [Act.put, List.setIfInBounds_toArray, List.set_cons_zero, List.set_cons_succ]))
  (refine wpAnyH_takeL (i := 13) (v := ?_) rfl (by kernel_rfl) (by kernel_rfl) (by kernel_rfl) (fun _ _ _ h => h) (by rfl) hHeld ?_ ?_; rotate_left; (focus (intro w hSw; (try dsimp only at hSw); go_simp; (try with_reducible rfl); done)); (try simp only [Act.put, List.setIfInBounds_toArray, List.set_cons_zero, List.set_cons_succ]))
  (refine wpAnyH_takeL (i := 14) (v := ?_) rfl (by kernel_rfl) (by kernel_rfl) (by kernel_rfl) (fun _ _ _ h => h) (by rfl) hHeld ?_ ?_; rotate_left; (focus (intro w hSw; (try dsimp only at hSw); go_simp; (try with_reducible rfl); done)); (try simp only [Act.put, List.setIfInBounds_toArray, List.set_cons_zero, List.set_cons_succ]))
  (refine wpAnyH_takeL (i := 15) (v := ?_) rfl (by kernel_rfl) (by kernel_rfl) (by kernel_rfl) (fun _ _ _ h => h) (by rfl) hHeld ?_ ?_; rotate_left; (focus (intro w hSw; (try dsimp only at hSw); go_simp; (try with_reducible rfl); done)); (try simp only [Act.put, List.setIfInBounds_toArray, List.set_cons_zero, List.set_cons_succ]))
  (refine wpAnyH_takeL (i := 16) (v := ?_) rfl (by kernel_rfl) (by kernel_rfl) (by kernel_rfl) (fun _ _ _ h => h) (by rfl) hHeld ?_ ?_; rotate_left; (focus (intro w hSw; (try dsimp only at hSw); go_simp; (try with_reducible rfl); done)); (try simp only [Act.put, List.setIfInBounds_toArray, List.set_cons_zero, List.set_cons_succ]))
  (refine wpAnyH_takeL (i := 17) (v := ?_) rfl (by kernel_rfl) (by kernel_rfl) (by kernel_rfl) (fun _ _ _ h => h) (by rfl) hHeld ?_ ?_; rotate_left; (focus (intro w hSw; (try dsimp only at hSw); go_simp; (try with_reducible rfl); done)); (try simp only [Act.put, List.setIfInBounds_toArray, List.set_cons_zero, List.set_cons_succ]))
  (refine wpAnyH_takeL (i := 18) (v := ?_) rfl (by kernel_rfl) (by kernel_rfl) (by kernel_rfl) (fun _ _ _ h => h) (by rfl) hHeld ?_ ?_; rotate_left; (focus (intro w hSw; (try dsimp only at hSw); go_simp; (try with_reducible rfl); done)); (try simp only [Act.put, List.setIfInBounds_toArray, List.set_cons_zero, List.set_cons_succ]))
  (refine wpAnyH_callL (i := 19) rfl (by kernel_rfl) (by rfl) (fun K hK => ?_); go_simp)
  rw [← hi]
  have hDd := hD.later hBd
  have hod := ho8.later (below_dr (Below.refl _ w8))
  go_at_call 49
  refine (wr_dd i w8.drew hDd hil h9 hm9 hod).mono ?_
  rintro e wz ⟨rfl, ⟨F', hDz, hgz⟩, hmz⟩
  have fz := (LgW.mod (hLx.out.later hBd) hmz ((hLx.out.later hBd).noF hDd)).at_.c
  clear hHeld
  refine hK.out _ _ fz (fun hHeld => ?_)
  (clear hK K; (try simp only [Act.put, List.setIfInBounds_toArray, List.set_cons_zero, List.set_cons_succ]))
  (refine wpAnyH_takeL (i := 20) (v := ?_) rfl (by kernel_rfl) (by kernel_rfl) (by kernel_rfl) (fun _ _ _ h => h) (by rfl) hHeld ?_ ?_; rotate_left; (focus (intro w hSw; (try dsimp only at hSw); go_simp; (try with_reducible rfl); done)); (try simp only [Act.put, List.setIfInBounds_toArray, List.set_cons_zero, List.set_cons_succ]))
  (refine wpAnyH_done (by kernel_rfl) ?_ _)
  go_wp2
  go_ret
  exact ⟨by first | rfl | simp, ⟨F', hDz, fun b hb => (hgz b hb).imp id (fun h => Nat.le_trans hBd.size h)⟩, (Mod.of_below hBd).trans hmz (fun _ _ h => h)⟩
end Go.Proofs.Ytggeepihkeocmaa
/- The log's mark and look by their contracts. -/
namespace Go.Proofs.Ytggeepihkeocmaa
set_option linter.unusedVariables false
set_option linter.unusedSimpArgs false
open Go.RowKit
/-- What mark leaves of the disk, and its answer. -/
def mkD (D : Dk) (i : Nat) (p : List Int) : Dk := if wr1E D = 0 then sy1 (wr1 D i p) else wr1 D i p
def mkE (D : Dk) (i : Nat) (p : List Int) : Int := if wr1E D = 0 then sy1E (wr1 D i p) else wr1E D
theorem wr1_len (D : Dk) (i : Nat) (p : List Int) : (wr1 D i p).l.length = D.l.length := by
  unfold wr1; by_cases h : D.off = true
  · rw [if_pos h]
  · rw [if_neg h]; rfl
theorem wr1_ops (D : Dk) (i : Nat) (p : List Int) : (wr1 D i p).ops ≤ D.ops + 1 := by
  unfold wr1; by_cases h : D.off = true
  · rw [if_pos h]; omega
  · rw [if_neg h]; show D.ops + 1 ≤ _; omega
theorem wr1E_range (D : Dk) : wr1E D = 0 ∨ wr1E D = 8 := by
  unfold wr1E wrE; by_cases h : D.off = true
  · rw [if_pos h]; exact .inr rfl
  · rw [if_neg h]; by_cases h2 : (opD D).off = true
    · rw [if_pos h2]; exact .inr rfl
    · rw [if_neg h2]; exact .inl rfl
theorem sy1E_range (D : Dk) : sy1E D = 0 ∨ sy1E D = 8 := by
  unfold sy1E; by_cases h : D.off = true
  · rw [if_pos h]; exact .inr rfl
  · rw [if_neg h]; by_cases h2 : (opD D).off = true
    · rw [if_pos h2]; exact .inr rfl
    · rw [if_neg h2]; exact .inl rfl
set_option maxRecDepth 100000 in
set_option maxHeartbeats 4000000 in
theorem lmark_w {base d lb g bc : Nat} {F : Nat → Prop} {bA : Option Addr} {L : Lg} {D : Dk} (i : Nat) (w : World) (hL : LgW w base d g bA bc L) (hD : DD w base d lb F D) (hi : (i : Int) = L.pos) (hil : i < D.l.length) (h9 : D.ops + 1 < 1000000000) (hm9 : D.way.length < 1000000000) :
    Calls Try.prog 93 #[.pointer (some ⟨g, 0, none⟩)] w fun e w' => e = .returned (.int .i64 (mkE D i (masterL L))) ∧ (∃ F', DD w' base d lb F' (mkD D i (masterL L)) ∧ Grew F F' w.heap.size) ∧ Mod F w w' := by
  have hLx := Lib.hid hL
  have k0 := hL.at_
  have hep := hL.epoch
  have hst := hL.start
  have hck := hL.check
  have d0 : Below w.heap.size w w.drew := below_dr (Below.refl _ _)
  obtain ⟨E, hE⟩ : ∃ E, mkE D i (masterL L) = E := ⟨_, rfl⟩
  obtain ⟨Dm, hDm⟩ : ∃ Dm, mkD D i (masterL L) = Dm := ⟨_, rfl⟩
  rw [hE, hDm]
  go_enter Try.func93, Try.ntmps93
  go_upto_region 1 with (fail)
  have f0 := (At.keep d0 k0).c
  refine wp_region_held_drew (S := fun w' => (∀ o, w'.cell? ⟨g, o, none⟩ = #[.pointer (some ⟨d, 0, none⟩), .int .i64 L.pos, .int .i64 L.count, .int .u64 L.epoch, .int .u64 L.start, .int .u64 L.check, .int .u64 L.sure, .int .i64 L.held, .int .u64 L.base, .slice bA L.buf.length bc][o]?)) (by kernel_rfl) f0 (fun hHeld => ?_)
  (refine wpAnyH_takeL (i := 0) (v := ?_) rfl (by kernel_rfl) (by kernel_rfl) (by kernel_rfl) (fun _ _ _ h => h) (by rfl) hHeld ?_ ?_; rotate_left; (focus (intro w hSw; (try dsimp only at hSw); go_simp; (try with_reducible rfl); done)); (try simp only [Act.put, List.setIfInBounds_toArray, List.set_cons_zero, List.set_cons_succ]))
  (refine wpAnyH_takeL (i := 1) (v := ?_) rfl (by kernel_rfl) (by kernel_rfl) (by kernel_rfl) (fun _ _ _ h => h) (by rfl) hHeld ?_ ?_; rotate_left; (focus (intro w hSw; (try dsimp only at hSw); go_simp; (try with_reducible rfl); done)); (try simp only [Act.put, List.setIfInBounds_toArray, List.set_cons_zero, List.set_cons_succ]))
  (refine wpAnyH_takeL (i := 2) (v := ?_) rfl (by kernel_rfl) (by kernel_rfl) (by kernel_rfl) (fun _ _ _ h => h) (by rfl) hHeld ?_ ?_; rotate_left; (focus (intro w hSw; (try dsimp only at hSw); go_simp; (try with_reducible rfl); done)); (try simp only [Act.put, List.setIfInBounds_toArray, List.set_cons_zero, List.set_cons_succ]))
  (refine wpAnyH_takeL (i := 3) (v := ?_) rfl (by kernel_rfl) (by kernel_rfl) (by kernel_rfl) (fun _ _ _ h => h) (by rfl) hHeld ?_ ?_; rotate_left; (focus (intro w hSw; (try dsimp only at hSw); go_simp; (try with_reducible rfl); done)); (try simp only [Act.put, List.setIfInBounds_toArray, List.set_cons_zero, List.set_cons_succ]))
  (refine wpAnyH_takeL (i := 4) (v := ?_) rfl (by kernel_rfl) (by kernel_rfl) (by kernel_rfl) (fun _ _ _ h => h) (by rfl) hHeld ?_ ?_; rotate_left; (focus (intro w hSw; (try dsimp only at hSw); go_simp; (try with_reducible rfl); done)); (try simp only [Act.put, List.setIfInBounds_toArray, List.set_cons_zero, List.set_cons_succ]))
  (refine wpAnyH_takeL (i := 5) (v := ?_) rfl (by kernel_rfl) (by kernel_rfl) (by kernel_rfl) (fun _ _ _ h => h) (by rfl) hHeld ?_ ?_; rotate_left; (focus (intro w hSw; (try dsimp only at hSw); go_simp; (try with_reducible rfl); done)); (try simp only [Act.put, List.setIfInBounds_toArray, List.set_cons_zero, List.set_cons_succ]))
  (refine wpAnyH_takeL (i := 6) (v := ?_) rfl (by kernel_rfl) (by kernel_rfl) (by kernel_rfl) (fun _ _ _ h => h) (by rfl) hHeld ?_ ?_; rotate_left; (focus (intro w hSw; (try dsimp only at hSw); go_simp; (try with_reducible rfl); done)); (try simp only [Act.put, List.setIfInBounds_toArray, List.set_cons_zero, List.set_cons_succ]))
  (refine wpAnyH_takeL (i := 7) (v := ?_) rfl (by kernel_rfl) (by kernel_rfl) (by kernel_rfl) (fun _ _ _ h => h) (by rfl) hHeld ?_ ?_; rotate_left; (focus (intro w hSw; (try dsimp only at hSw); go_simp; (try with_reducible rfl); done)); (try simp only [Act.put, List.setIfInBounds_toArray, List.set_cons_zero, List.set_cons_succ]))
  (refine wpAnyH_takeL (i := 8) (v := ?_) rfl (by kernel_rfl) (by kernel_rfl) (by kernel_rfl) (fun _ _ _ h => h) (by rfl) hHeld ?_ ?_; rotate_left; (focus (intro w hSw; (try dsimp only at hSw); go_simp; (try with_reducible rfl); done)); (try simp only [Act.put, List.setIfInBounds_toArray, List.set_cons_zero, List.set_cons_succ]))
  (refine wpAnyH_callL (i := 9) rfl (by kernel_rfl) (by rfl) (fun K hK => ?_); go_simp)
  go_at_call 107
  refine (lmaster_calls w.drew (At.keep d0 k0) hep hst hck).mono ?_
  rintro e w1 ⟨A, c, rfl, ho1, hb1⟩
  have hB1 : Below w.heap.size w w1 := below_keep hb1 d0
  have f1 := (At.below k0 hB1 k0.lt).c
  clear hHeld
  refine hK.out _ _ f1 (fun hHeld => ?_)
  (clear hK K; (try simp only [Act.put, List.setIfInBounds_toArray, List.set_cons_zero, List.set_cons_succ]))
  (refine wpAnyH_callL (i := 10) rfl (by kernel_rfl) (by rfl) (fun K hK => ?_); go_simp)
  rw [← hi]
  have hD1 := hD.later hB1
  go_at_call 49
  refine (wr_dd i w1 hD1 hil (by omega) hm9 ho1).mono ?_
  rintro e w2 ⟨rfl, ⟨F2, hD2, hg2⟩, hm2⟩
  have k2 := (LgW.mod (hLx.out.later hB1) hm2 ((hLx.out.later hB1).noF hD1)).at_
  have f2 := k2.c
  clear hHeld
  refine hK.out _ _ f2 (fun hHeld => ?_)
  (clear hK K; (try simp only [Act.put, List.setIfInBounds_toArray, List.set_cons_zero, List.set_cons_succ]))
  (refine wpAnyH_takeL (i := 11) (v := ?_) rfl (by kernel_rfl) (by kernel_rfl) (by kernel_rfl) (fun _ _ _ h => h) (by rfl) hHeld ?_ ?_; rotate_left; (focus (intro w hSw; (try dsimp only at hSw); go_simp; (try with_reducible rfl); done)); (try simp only [Act.put, List.setIfInBounds_toArray, List.set_cons_zero, List.set_cons_succ]))
  (refine wpAnyH_done (by kernel_rfl) ?_ _)
  have hm : Mod F w w2 := (Mod.of_below hB1).trans hm2 (fun _ _ h => h)
  have hg : Grew F F2 w.heap.size := fun b hb => (hg2 b hb).imp id (fun h => Nat.le_trans hB1.size h)
  clear hHeld f0 f1 f2 k0 hB1 hD1 hm2 hg2 ho1 hb1
  rcases wr1E_range D with he | he
  · have e1 : mkE D i (masterL L) = sy1E (wr1 D i (masterL L)) := if_pos he
    have e2 : mkD D i (masterL L) = sy1 (wr1 D i (masterL L)) := if_pos he
    rw [he]
    have k2c := k2.c; have k2f := k2.f; have k2l := k2.lt
    go_wp2_with fail
    refine (sy_dd w2 hD2 (by have := wr1_ops D i (masterL L); omega)).mono ?_
    rintro e w3 ⟨rfl, ⟨F3, hD3, hg3⟩, hm3⟩
    go_wp2
    go_ret
    rw [← hE, ← hDm, e1, e2]
    exact ⟨by first | rfl | simp, ⟨F3, hD3, hg.trans hg3 hm.size⟩, hm.trans hm3 (fun k hk h => (hg k h).elim id (fun h => by omega))⟩
  · have hne : ¬ (wr1E D = 0) := by omega
    have e1 : mkE D i (masterL L) = wr1E D := if_neg hne
    have e2 : mkD D i (masterL L) = wr1 D i (masterL L) := if_neg hne
    rw [he]
    go_wp2
    go_ret
    rw [← hE, ← hDm, e1, e2, he]
    exact ⟨by first | rfl | simp, ⟨F2, hD2, hg⟩, hm⟩
def llookE (D : Dk) (at_ count : Int) : Int := if at_ < 0 ∨ count < 4 ∨ 4096 < count ∨ D.l.length - 1 - count < at_ then 1 else 0
set_option maxRecDepth 100000 in
set_option maxHeartbeats 4000000 in
theorem llook_calls {base d lb : Nat} {F : Nat → Prop} {D : Dk} (a c : Int) (w : World) (h : DD w base d lb F D) :
    Calls Try.prog 92 #[.pointer (some ⟨d, 0, none⟩), .int .i64 a, .int .i64 c] w fun e w' => e = .returned (.int .i64 (llookE D a c)) ∧ w = w' := by
  obtain ⟨pA, mc, h1, h2⟩ := h
  have hl := h1.k.ok.len
  have hlen := fun w => len_calls (w := w) (D := D) (d := d) (lb := lb) (pA := pA) (m := D.way.length) (mc := mc)
  have h1x := Lib.hid h1.k
  clear h1 h2
  rcases Bool.eq_false_or_eq_true (decide (a < 0)) with c1 | c1
  · have e1 : llookE D a c = 1 := if_pos (.inl (by simpa using c1))
    rw [e1]
    go_enter Try.func92, Try.ntmps92
    go_wp2_with fail
    go_ret
    exact ⟨by first | rfl | simp, rfl⟩
  rcases Bool.eq_false_or_eq_true (decide (c < 4)) with c2 | c2
  · have e1 : llookE D a c = 1 := if_pos (.inr (.inl (by simpa using c2)))
    rw [e1]
    go_enter Try.func92, Try.ntmps92
    go_wp2_with fail
    go_ret
    exact ⟨by first | rfl | simp, rfl⟩
  rcases Bool.eq_false_or_eq_true (decide (4096 < c)) with c3 | c3
  · have e1 : llookE D a c = 1 := if_pos (.inr (.inr (.inl (by simpa using c3))))
    rw [e1]
    go_enter Try.func92, Try.ntmps92
    go_wp2_with fail
    go_ret
    exact ⟨by first | rfl | simp, rfl⟩
  have b1 : 0 ≤ a := by simpa using c1
  have b2 : 4 ≤ c := by simpa using c2
  have b3 : c ≤ 4096 := by simpa using c3
  have q1 : IntKind.i64.wrap ((D.l.length : Int) - 1) = D.l.length - 1 := IntWalk.i64_in _ (by omega)
  have q2 : IntKind.i64.wrap ((D.l.length : Int) - 1 - c) = D.l.length - 1 - c := IntWalk.i64_in _ (by omega)
  rcases Bool.eq_false_or_eq_true (decide ((D.l.length : Int) - 1 - c < a)) with c4 | c4
  · have e1 : llookE D a c = 1 := if_pos (.inr (.inr (.inr (by simpa using c4))))
    rw [e1]
    go_enter Try.func92, Try.ntmps92
    go_wp2_with fail
    refine (hlen w h1x.out).mono ?_
    rintro e w' ⟨rfl, rfl⟩
    go_wp2_with fail
    go_ret
    exact ⟨by first | rfl | simp, rfl⟩
  · have e1 : llookE D a c = 0 := if_neg (by simp at c4; omega)
    rw [e1]
    go_enter Try.func92, Try.ntmps92
    go_wp2_with fail
    refine (hlen w h1x.out).mono ?_
    rintro e w' ⟨rfl, rfl⟩
    go_wp2_with fail
    go_ret
    exact ⟨by first | rfl | simp, rfl⟩
end Go.Proofs.Ytggeepihkeocmaa
