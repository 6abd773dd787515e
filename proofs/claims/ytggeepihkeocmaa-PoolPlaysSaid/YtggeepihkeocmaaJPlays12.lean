/- Joined texts: LogM. -/
import Derived.Test.YtggeepihkeocmaaJPlays11
/- The log's sector by its contract. -/
namespace Go.Proofs.Ytggeepihkeocmaa
set_option linter.unusedVariables false
set_option linter.unusedSimpArgs false
open Go.RowKit
theorem results_tmp4 {fn : Func} {t u v x : Tmp} (h : fn.results = #[.tmp t, .tmp u, .tmp v, .tmp x]) (tmps : Array Value) (P : Program) (w : World) :
    (results fn tmps).run P w = .ok (.tuple #[tmps.getD t undef, tmps.getD u undef, tmps.getD v undef, tmps.getD x undef]) w := by
  simp [results, h]
theorem SecB.cutB {w : World} {b : Nat} {s : List Int} (h : SecB w b s) (k m : Nat) (hm : m ≤ 512) : BsR w b (b + 1) (some ⟨b, k, none⟩) (m - k) ((s.take m).drop k) := by
  refine ⟨by rw [List.length_drop, List.length_take, h.2.1]; omega, (h.2.2.take m).drop k, fun h0 => ⟨b, k, rfl, Nat.le_refl _, Nat.lt_succ_self _, fun j hj => ?_⟩⟩
  have h1 := h.range (k + j) (.int .u8 (s.getD (k + j) 0)) (map_at (by rw [h.2.1]; omega))
  have e : ((s.take m).drop k).getD j 0 = s.getD (k + j) 0 := by
    simp [List.getD, List.getElem?_drop, List.getElem?_take]
    rw [if_pos (by omega)]
  unfold bsF
  rw [e]
  simpa using h1
theorem SecB.at1 {w : World} {b : Nat} {s : List Int} (h : SecB w b s) (j : Nat) (hj : j < 512) : w.cell? ⟨b, j, none⟩ = some (.int .u8 (s.getD j 0)) := by
  have h1 := h.range j (.int .u8 (s.getD j 0)) (map_at (by rw [h.2.1]; exact hj))
  simpa using h1
theorem rd_off {d lb m mc : Nat} {pA : Option Addr} {D : Dk} (i : Int) (w : World) (h : Dsk w d lb pA m mc D) (hi : 0 ≤ i ∧ i < D.l.length) (hoff : D.off = true) :
    Calls Try.prog 26 #[.pointer (some ⟨d, 0, none⟩), .int .i64 i] w fun e w' => e = .returned (.tuple #[.slice none 0 0, .int .i64 8]) ∧ w = w' := by
  have hlk : lookE D i = 0 := if_pos hi
  have k0 := h.at_
  rw [hoff] at k0
  have k0c := k0.c; have k0f := k0.f; have k0l := k0.lt
  go_enter Try.func26, Try.ntmps26
  go_wp2_with fail
  refine (look_calls i w h).mono ?_
  rintro e w' ⟨rfl, rfl⟩
  rw [hlk]
  go_wp2
  go_ret2
  exact ⟨rfl, rfl⟩
theorem rd_dd {base d lb : Nat} {F : Nat → Prop} {D : Dk} (i : Nat) (w : World) (h : DD w base d lb F D) (hi : i < D.l.length) (hoff : D.off = false) :
    Calls Try.prog 26 #[.pointer (some ⟨d, 0, none⟩), .int .i64 i] w fun e w' => ∃ b, e = .returned (.tuple #[.slice (some ⟨b, 0, none⟩) 512 512, .int .i64 0]) ∧ SecB w' b (readD D i) ∧ Below w.heap.size w w' ∧ w.heap.size ≤ b := by
  obtain ⟨pA, mc, h1, -⟩ := h
  exact read_calls i w h1.k hi hoff
theorem rdo_dd {base d lb : Nat} {F : Nat → Prop} {D : Dk} (i : Nat) (w : World) (h : DD w base d lb F D) (hi : i < D.l.length) (hoff : D.off = true) :
    Calls Try.prog 26 #[.pointer (some ⟨d, 0, none⟩), .int .i64 i] w fun e w' => e = .returned (.tuple #[.slice none 0 0, .int .i64 8]) ∧ w = w' := by
  obtain ⟨pA, mc, h1, -⟩ := h
  exact rd_off i w h1.k (by omega) hoff
theorem num8_range {l : List Int} (h : Byt l) (k : Nat) (hk : k + 8 ≤ l.length) : 0 ≤ num ((l.drop k).take 8) ∧ num ((l.drop k).take 8) < 18446744073709551616 :=
  num_r8 (by rw [List.length_take, List.length_drop]; omega) ((h.drop k).take 8)
/-- What a sector says. -/
def numK (s : List Int) : Int := num ((s.drop 0).take 8)
def numE (s : List Int) : Int := num ((s.drop 8).take 8)
def usedS (s : List Int) : Int := s.getD 16 0 * 256 + s.getD 17 0
def numS (s : List Int) : Int := num ((s.drop 504).take 8)
def SecYes (s : List Int) (k ep : Int) : Prop := numK s = k ∧ usedS s ≤ 480 ∧ numS s = sumL ((s.take 504).drop 0) ∧ numE s ≤ ep
instance (s : List Int) (k ep : Int) : Decidable (SecYes s k ep) := by unfold SecYes; infer_instance
def secP (s : List Int) : List Int := (s.take (18 + (usedS s).toNat)).drop 18
set_option maxRecDepth 100000 in
set_option maxHeartbeats 8000000 in
theorem lsector_w {base d lb g bc : Nat} {F : Nat → Prop} {bA : Option Addr} {L : Lg} {D : Dk} (k i : Nat) (w : World) (hL : LgW w base d g bA bc L) (hD : DD w base d lb F D) (hk : k < 4611686018427387904) (hi : (i : Int) = L.pos + 1 + k % L.count) (hil : i < D.l.length) (hoff : D.off = false) :
    Calls Try.prog 108 #[.pointer (some ⟨g, 0, none⟩), .int .u64 k] w fun e w' => Below w.heap.size w w' ∧
      ((SecYes (readD D i) k L.epoch ∧ ∃ b, e = .returned (.tuple #[.slice (some ⟨b, 18, none⟩) (secP (readD D i)).length 494, .int .u64 (numE (readD D i)), .bool true, .int .i64 0]) ∧ BsR w' b (b + 1) (some ⟨b, 18, none⟩) (secP (readD D i)).length (secP (readD D i)) ∧ w.heap.size ≤ b ∧ b < w'.heap.size) ∨
       (¬ SecYes (readD D i) k L.epoch ∧ e = .returned (.tuple #[.slice none 0 0, .int .u64 0, .bool false, .int .i64 0]))) := by
  have hLx := Lib.hid hL
  have k0 := hL.at_
  have hep := hL.epoch
  have hc0 := hL.count
  have hp0 := hL.pos
  have d0 : Below w.heap.size w w.drew := below_dr (Below.refl _ _)
  obtain ⟨r, hr⟩ : ∃ r, (k : Int) % L.count = r := ⟨_, rfl⟩
  have hr0 : 0 ≤ r ∧ r < L.count := by rw [← hr]; exact ⟨Int.emod_nonneg _ (by omega), Int.emod_lt_of_pos _ (by omega)⟩
  rw [hr] at hi
  have ht : (k : Int).tmod L.count = r := by rw [Int.tmod_eq_emod_of_nonneg (by omega), hr]
  have q1 : IntKind.i64.wrap (L.pos + 1) = L.pos + 1 := IntWalk.i64_in _ (by omega)
  have q2 : IntKind.u64.wrap L.count = L.count := IntWalk.u64_in _ (by omega)
  have q3 : IntKind.i64.wrap r = r := IntWalk.i64_in _ (by omega)
  have q4 : IntKind.i64.wrap (L.pos + 1 + r) = L.pos + 1 + r := IntWalk.i64_in _ (by omega)
  have q6 : L.count ≠ 0 := by omega
  obtain ⟨s, hsD⟩ : ∃ s, readD D i = s := ⟨_, rfl⟩
  rw [hsD]
  go_enter Try.func108, Try.ntmps108
  go_upto_region 1 with (fail)
  have f0 := (At.keep d0 k0).c
  refine wp_region_held_drew (S := fun w' => (∀ o, w'.cell? ⟨g, o, none⟩ = #[.pointer (some ⟨d, 0, none⟩), .int .i64 L.pos, .int .i64 L.count, .int .u64 L.epoch, .int .u64 L.start, .int .u64 L.check, .int .u64 L.sure, .int .i64 L.held, .int .u64 L.base, .slice bA L.buf.length bc][o]?)) (by kernel_rfl) f0 (fun hHeld => ?_)
  (refine wpAnyH_takeL (i := 0) (v := ?_) rfl (by kernel_rfl) (by kernel_rfl) (by kernel_rfl) (fun _ _ _ h => h) (by rfl) hHeld ?_ ?_; rotate_left; (focus (intro w hSw; (try dsimp only at hSw); go_simp; (try with_reducible rfl); done)); (try simp only [Act.put, List.setIfInBounds_toArray, List.set_cons_zero, List.set_cons_succ]))
  (refine wpAnyH_takeL (i := 1) (v := ?_) rfl (by kernel_rfl) (by kernel_rfl) (by kernel_rfl) (fun _ _ _ h => h) (by rfl) hHeld ?_ ?_; rotate_left; (focus (intro w hSw; (try dsimp only at hSw); go_simp; (try with_reducible rfl); done)); (try simp only [Act.put, List.setIfInBounds_toArray, List.set_cons_zero, List.set_cons_succ]))
  (refine wpAnyH_takeL (i := 2) (v := ?_) rfl (by kernel_rfl) (by kernel_rfl) (by kernel_rfl) (fun _ _ _ h => h) (by rfl) hHeld ?_ ?_; rotate_left; (focus (intro w hSw; (try dsimp only at hSw); go_simp; (try with_reducible rfl); done)); (try simp only [Act.put, List.setIfInBounds_toArray, List.set_cons_zero, List.set_cons_succ]))
  (refine wpAnyH_takeL (i := 3) (v := ?_) rfl (by kernel_rfl) (by kernel_rfl) (by kernel_rfl) (fun _ _ _ h => h) (by rfl) hHeld ?_ ?_; rotate_left; (focus (intro w hSw; (try dsimp only at hSw); go_simp; (try with_reducible rfl); done)); (try simp only [Act.put, List.setIfInBounds_toArray, List.set_cons_zero, List.set_cons_succ]))
  (refine wpAnyH_takeL (i := 4) (v := ?_) rfl (by kernel_rfl) (by kernel_rfl) (by kernel_rfl) (fun _ _ _ h => h) (by rfl) hHeld ?_ ?_; rotate_left; (focus (intro w hSw; (try dsimp only at hSw); go_simp; (try with_reducible rfl); done)); (try simp only [Act.put, List.setIfInBounds_toArray, List.set_cons_zero, List.set_cons_succ]))
  (refine wpAnyH_takeL (i := 5) (v := ?_) rfl (by kernel_rfl) (by kernel_rfl) (by kernel_rfl) (fun _ _ _ h => h) (by rfl) hHeld ?_ ?_; rotate_left; (focus (intro w hSw; (try dsimp only at hSw); go_simp; (try with_reducible rfl); done)); (try simp only [Act.put, List.setIfInBounds_toArray, List.set_cons_zero, List.set_cons_succ]))
  (refine wpAnyH_takeL (i := 6) (v := ?_) rfl (by kernel_rfl) (by kernel_rfl) (by kernel_rfl) (fun _ _ _ h => h) (by rfl) hHeld ?_ ?_; rotate_left; (focus (intro w hSw; (try dsimp only at hSw); go_simp; (try with_reducible rfl); done)); (try simp only [Act.put, List.setIfInBounds_toArray, List.set_cons_zero, List.set_cons_succ]))
  (refine wpAnyH_takeL (i := 7) (v := ?_) rfl (by kernel_rfl) (by kernel_rfl) (by kernel_rfl) (fun _ _ _ h => h) (by rfl) hHeld ?_ ?_; rotate_left; (focus (intro w hSw; (try dsimp only at hSw); go_simp; (try with_reducible rfl); done)); (try simp only [Act.put, List.setIfInBounds_toArray, List.set_cons_zero, List.set_cons_succ]))
  (refine wpAnyH_takeL (i := 8) (v := ?_) rfl (by kernel_rfl) (by kernel_rfl) (by kernel_rfl) (fun _ _ _ h => h) (by rfl) hHeld ?_ ?_; rotate_left; (focus (intro w hSw; (try dsimp only at hSw); go_simp; (try with_reducible rfl); done)); (try simp only [Act.put, List.setIfInBounds_toArray, List.set_cons_zero, List.set_cons_succ]))
  (refine wpAnyH_takeL (i := 9) (v := ?_) rfl (by kernel_rfl) (by kernel_rfl) (by kernel_rfl) (fun _ _ _ h => h) (by rfl) hHeld ?_ ?_; rotate_left; (focus (intro w hSw; (try dsimp only at hSw); go_simp; (try with_reducible rfl); done)); (try simp only [Act.put, List.setIfInBounds_toArray, List.set_cons_zero, List.set_cons_succ]))
  (refine wpAnyH_takeL (i := 10) (v := ?_) rfl (by kernel_rfl) (by kernel_rfl) (by kernel_rfl) (fun _ _ _ h => h) (by rfl) hHeld ?_ ?_; rotate_left; (focus (intro w hSw; (try dsimp only at hSw); go_simp; (try with_reducible rfl); done)); (try simp only [Act.put, List.setIfInBounds_toArray, List.set_cons_zero, List.set_cons_succ]))
  (refine wpAnyH_takeL (i := 11) (v := ?_) rfl (by kernel_rfl) (by kernel_rfl) (by kernel_rfl) (fun _ _ _ h => h) (by rfl) hHeld ?_ ?_; rotate_left; (focus (intro w hSw; (try dsimp only at hSw); go_simp; (try with_reducible rfl); done)); (try simp only [Act.put, List.setIfInBounds_toArray, List.set_cons_zero, List.set_cons_succ]))
  (refine wpAnyH_takeL (i := 12) (v := ?_) rfl (by kernel_rfl) (by kernel_rfl) (by kernel_rfl) (fun _ _ _ h => h) (by rfl) hHeld ?_ ?_; rotate_left; (focus (intro w hSw; (try dsimp only at hSw); go_simp; (try with_reducible rfl); done)); (try simp only [Act.put, List.setIfInBounds_toArray, List.set_cons_zero, List.set_cons_succ]))
  (refine wpAnyH_takeL (i := 13) (v := ?_) rfl (by kernel_rfl) (by kernel_rfl) (by kernel_rfl) (fun _ _ _ h => h) (by rfl) hHeld ?_ ?_; rotate_left; (focus (intro w hSw; (try dsimp only at hSw); go_simp; (try with_reducible rfl); done)); (try simp only [Act.put, List.setIfInBounds_toArray, List.set_cons_zero, List.set_cons_succ]))
  (refine wpAnyH_takeL (i := 14) (v := ?_) rfl (by kernel_rfl) (by kernel_rfl) (by kernel_rfl) (fun _ _ _ h => h) (by rfl) hHeld ?_ ?_; rotate_left; (focus (intro w hSw; (try dsimp only at hSw); go_simp; (try with_reducible rfl); done)); (try simp only [Act.put, List.setIfInBounds_toArray, List.set_cons_zero, List.set_cons_succ]))
  (refine wpAnyH_takeL (i := 15) (v := ?_) rfl (by kernel_rfl) (by kernel_rfl) (by kernel_rfl) (fun _ _ _ h => h) (by rfl) hHeld ?_ ?_; rotate_left; (focus (intro w hSw; (try dsimp only at hSw); go_simp; (try with_reducible rfl); done)); (try simp only [Act.put, List.setIfInBounds_toArray, List.set_cons_zero, List.set_cons_succ]))
  (refine wpAnyH_takeL (i := 16) (v := ?_) rfl (by kernel_rfl) (by kernel_rfl) (by kernel_rfl) (fun _ _ _ h => h) (by rfl) hHeld ?_ ?_; rotate_left; (focus (intro w hSw; (try dsimp only at hSw); go_simp; (try with_reducible rfl); done)); (try simp only [Act.put, List.setIfInBounds_toArray, List.set_cons_zero, List.set_cons_succ]))
  (refine wpAnyH_takeL (i := 17) (v := ?_) rfl (by kernel_rfl) (by kernel_rfl) (by kernel_rfl) (fun _ _ _ h => h) (by rfl) hHeld ?_ ?_; rotate_left; (focus (intro w hSw; (try dsimp only at hSw); go_simp; (try with_reducible rfl); done)); (try simp only [Act.put, List.setIfInBounds_toArray, List.set_cons_zero, List.set_cons_succ]))
  (refine wpAnyH_callL (i := 18) rfl (by kernel_rfl) (by rfl) (fun K hK => ?_); go_simp)
  rw [← hi]
  have hDd := hD.later d0
  go_at_call 26
  refine (rd_dd i w.drew hDd hil hoff).mono ?_
  rintro e w1 ⟨b, rfl, hs, hb1, hbs⟩
  have hB1 : Below w.heap.size w w1 := below_keep hb1 d0
  have k1 := At.below k0 hB1 k0.lt
  have f1 := k1.c
  clear hHeld
  refine hK.out _ _ f1 (fun hHeld => ?_)
  (clear hK K; (try simp only [Act.put, List.setIfInBounds_toArray, List.set_cons_zero, List.set_cons_succ]))
  (refine wpAnyH_takeL (i := 19) (v := ?_) rfl (by kernel_rfl) (by kernel_rfl) (by kernel_rfl) (fun _ _ _ h => h) (by rfl) hHeld ?_ ?_; rotate_left; (focus (intro w hSw; (try dsimp only at hSw); go_simp; (try with_reducible rfl); done)); (try simp only [Act.put, List.setIfInBounds_toArray, List.set_cons_zero, List.set_cons_succ]))
  (refine wpAnyH_takeL (i := 20) (v := ?_) rfl (by kernel_rfl) (by kernel_rfl) (by kernel_rfl) (fun _ _ _ h => h) (by rfl) hHeld ?_ ?_; rotate_left; (focus (intro w hSw; (try dsimp only at hSw); go_simp; (try with_reducible rfl); done)); (try simp only [Act.put, List.setIfInBounds_toArray, List.set_cons_zero, List.set_cons_succ]))
  (refine wpAnyH_takeL (i := 21) (v := ?_) rfl (by kernel_rfl) (by kernel_rfl) (by kernel_rfl) (fun _ _ _ h => h) (by rfl) hHeld ?_ ?_; rotate_left; (focus (intro w hSw; (try dsimp only at hSw); go_simp; (try with_reducible rfl); done)); (try simp only [Act.put, List.setIfInBounds_toArray, List.set_cons_zero, List.set_cons_succ]))
  (refine wpAnyH_takeL (i := 22) (v := ?_) rfl (by kernel_rfl) (by kernel_rfl) (by kernel_rfl) (fun _ _ _ h => h) (by rfl) hHeld ?_ ?_; rotate_left; (focus (intro w hSw; (try dsimp only at hSw); go_simp; (try with_reducible rfl); done)); (try simp only [Act.put, List.setIfInBounds_toArray, List.set_cons_zero, List.set_cons_succ]))
  (refine wpAnyH_takeL (i := 23) (v := ?_) rfl (by kernel_rfl) (by kernel_rfl) (by kernel_rfl) (fun _ _ _ h => h) (by rfl) hHeld ?_ ?_; rotate_left; (focus (intro w hSw; (try dsimp only at hSw); go_simp; (try with_reducible rfl); done)); (try simp only [Act.put, List.setIfInBounds_toArray, List.set_cons_zero, List.set_cons_succ]))
  (refine wpAnyH_done (by kernel_rfl) ?_ _)
  clear hHeld f0 f1 hb1 hDd hi hr ht q1 q2 q3 q4
  rw [hsD] at hs
  have hbs : w.heap.size ≤ b := hbs
  have hbl := hs.1.lt
  have hby := hs.2.2
  have hsl := hs.2.1
  have n0 := num8_range hby 0 (by omega)
  have n8 := num8_range hby 8 (by omega)
  have nS := num8_range hby 504 (by omega)
  have hfull := hs.cutB 0 512 (Nat.le_refl _)
  have hs512 : (s.take 512).drop 0 = s := by rw [List.drop_zero, List.take_of_length_le (by omega)]
  rw [hs512] at hfull
  have hcut := hs.cutB 0 504 (by omega)
  have hr16 := hby.getD 16
  have hr17 := hby.getD 17
  have hg16 := hs.at1 16 (by omega)
  have hg17 := hs.at1 17 (by omega)
  have hbe := be16 hr16.1 hr16.2 hr17.1 hr17.2
  obtain ⟨nk, hnk⟩ : ∃ nk, num ((s.drop 0).take 8) = nk := ⟨_, rfl⟩
  obtain ⟨ne, hne⟩ : ∃ ne, num ((s.drop 8).take 8) = ne := ⟨_, rfl⟩
  obtain ⟨ns, hns⟩ : ∃ ns, num ((s.drop 504).take 8) = ns := ⟨_, rfl⟩
  obtain ⟨u, hu⟩ : ∃ u, s.getD 16 0 * 256 + s.getD 17 0 = u := ⟨_, rfl⟩
  rw [hnk] at n0
  rw [hne] at n8
  rw [hns] at nS
  rw [hu] at hbe
  have hu0 : 0 ≤ u ∧ u < 65536 := by omega
  have hux := Lib.hid hu
  generalize hx16 : s.getD 16 0 = x16 at *
  generalize hx17 : s.getD 17 0 = x17 at *
  have hx16x := Lib.hid hx16
  have hx17x := Lib.hid hx17
  clear hx16 hx17 hu
  go_wp2_with fail
  refine (readuint_calls 0 512 w1 hfull (by omega) (by omega) (by omega)).mono ?_
  rintro e w' ⟨rfl, rfl⟩
  rw [hnk]
  go_wp2_with fail
  refine (readuint_calls 8 512 w1 hfull (by omega) (by omega) (by omega)).mono ?_
  rintro e w' ⟨rfl, rfl⟩
  rw [hne]
  go_upto_region 6 with (fail)
  clear k0 hc0 hp0 hs512
  have k1c := k1.c
  go_region_held3 (fun w' => w'.cell? ⟨b, 16, none⟩ = some (.int .u8 x16) ∧ w'.cell? ⟨b, 17, none⟩ = some (.int .u8 x17)) (go_keep) (fail)
  go_wp2_with fail
  have d1 : Below w1.heap.size w1 w1.drew := below_dr (Below.refl _ _)
  refine (readuint_calls 504 512 w1.drew hfull (by omega) (by omega) (by omega)).mono ?_
  rintro e w' ⟨rfl, rfl⟩
  rw [hns]
  go_upto_region 8 with (fail)
  have hsr := sumL_range ((s.take 504).drop 0)
  have hsz : IntKind.u64.wrap (sumL ((s.take 504).drop 0)) = sumL ((s.take 504).drop 0) := IntWalk.u64_in _ (by omega)
  have hbs504 : Bs w1.drew (some ⟨b, 0, none⟩) 504 ((s.take 504).drop 0) := (hcut : BsR w1.drew b (b + 1) (some ⟨b, 0, none⟩) 504 _).bs (by show b + 1 ≤ w1.heap.size; omega)
  have hyes : SecYes s k L.epoch ↔ nk = k ∧ u ≤ 480 ∧ ns = sumL ((s.take 504).drop 0) ∧ ne ≤ L.epoch := by
    unfold SecYes numK numS numE usedS
    rw [hnk, hne, hns, hx16x.out, hx17x.out, hux.out]
  obtain ⟨sm, hsm⟩ : ∃ sm, sumL ((s.take 504).drop 0) = sm := ⟨_, rfl⟩
  have hsmx := Lib.hid hsm
  have hyx := Lib.hid hyes
  rw [hsm] at hsr hsz
  clear hyes hsm
  have hBf : Below w.heap.size w w1.drew := below_dr hB1
  by_cases c1 : nk = (k : Int)
  · rcases Bool.eq_false_or_eq_true (decide (480 < u)) with c2 | c2
    · go_wp2_with fail
      ((try simp only [Exit.inBlock, Exit.then]); refine bodyPost_ret (results_tmp4 rfl _ _ _) rfl ?_)
      exact ⟨hBf, .inr ⟨fun h => by have := (hyx.out.1 h).2.1; simp at c2; omega, by first | rfl | simp⟩⟩
    · go_wp2_with fail
      refine (sum_calls (some ⟨b, 0, none⟩) 504 512 _ w1.drew hbs504 (by omega)).mono ?_
      rintro e _ ⟨rfl, rfl⟩
      rw [hsmx.out]
      by_cases c3 : ns = sm
      · have k1d := k1.drew
        have k1e := k1d.c
        rcases Bool.eq_false_or_eq_true (decide (L.epoch < ne)) with c4 | c4
        · go_wp2_with fail
          ((try simp only [Exit.inBlock, Exit.then]); refine bodyPost_ret (results_tmp4 rfl _ _ _) rfl ?_)
          exact ⟨hBf, .inr ⟨fun h => by have := (hyx.out.1 h).2.2.2; simp at c4; omega, by first | rfl | simp⟩⟩
        · have hu18 : IntKind.i64.wrap (18 + u) = 18 + u := IntWalk.i64_in _ (by omega)
          have c2' : u ≤ 480 := by simpa using c2
          obtain ⟨un, hun⟩ : ∃ un : Nat, (un : Int) = u := ⟨u.toNat, by omega⟩
          subst hun
          have hpl : secP s = (s.take (18 + un)).drop 18 := by
            unfold secP usedS
            rw [hx16x.out, hx17x.out, hux.out, Int.toNat_natCast]
          have hcut2 := hs.cutB 18 (18 + un) (by omega)
          rw [← hpl, show 18 + un - 18 = un by omega] at hcut2
          have hln : (secP s).length = un := hcut2.1
          have hd1 : (18 : Int) + un ≤ 512 := by omega
          have hd2 : (18 : Int) ≤ 18 + un := by omega
          have hd3 : (512 : Nat) ≠ 18 := by omega
          go_wp2_with fail
          ((try simp only [Exit.inBlock, Exit.then]); refine bodyPost_ret (results_tmp4 rfl _ _ _) rfl ?_)
          refine ⟨hBf, .inl ⟨hyx.out.2 ⟨c1, c2', by rw [hsmx.out]; exact c3, by simp at c4; exact c4⟩, b, ?_, ?_, hbs, hbl⟩⟩
          · rw [hln]
            unfold numE
            rw [hne]
            first | rfl | simp
          · rw [hln]
            exact hcut2
      · go_wp2_with fail
        ((try simp only [Exit.inBlock, Exit.then]); refine bodyPost_ret (results_tmp4 rfl _ _ _) rfl ?_)
        exact ⟨hBf, .inr ⟨fun h => by have := (hyx.out.1 h).2.2.1; rw [hsmx.out] at this; exact c3 this, by first | rfl | simp⟩⟩
  · go_wp2_with fail
    ((try simp only [Exit.inBlock, Exit.then]); refine bodyPost_ret (results_tmp4 rfl _ _ _) rfl ?_)
    exact ⟨hBf, .inr ⟨fun h => by have := (hyx.out.1 h).1; exact c1 this, by first | rfl | simp⟩⟩
end Go.Proofs.Ytggeepihkeocmaa
