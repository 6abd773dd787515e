/- Joined texts: LogP. -/
import Derived.Test.YtggeepihkeocmaaJPlays14
import Derived.Deep.RegionLaw
/- The log's Flush by its contract. -/
namespace Go.Proofs.Ytggeepihkeocmaa
set_option linter.unusedVariables false
set_option linter.unusedSimpArgs false
open Go.RowKit
def partL (L : Lg) (j : Nat) : List Int := (L.buf.take (480 * j + 480)).drop (480 * j)
def numL (L : Lg) (j : Nat) : Nat := (L.base / 480).toNat + j
/-- What the writes of a flush leave, from part j on; their answer. -/
def flR (D : Dk) (L : Lg) : Nat → Nat → Dk × Int
  | 0, _ => (D, 0)
  | f + 1, j =>
    if wr1E D = 0 then flR (wr1 D (idxL L (numL L j)) (layL (numL L j : Nat) L.epoch (partL L j))) L f (j + 1)
    else (wr1 D (idxL L (numL L j)) (layL (numL L j : Nat) L.epoch (partL L j)), wr1E D)
def nparts (L : Lg) : Nat := (L.buf.length + 479) / 480
def fl1D (D : Dk) (L : Lg) : Dk := (flR D L (nparts L) 0).1
def fl1E (D : Dk) (L : Lg) : Int := (flR D L (nparts L) 0).2
def flD (D : Dk) (L : Lg) : Dk := if L.sure = endL L then D else if fl1E D L = 0 then sy1 (fl1D D L) else fl1D D L
def flE (D : Dk) (L : Lg) : Int := if L.sure = endL L then 0 else if fl1E D L = 0 then sy1E (fl1D D L) else fl1E D L
def flL (L : Lg) : Lg := { L with sure := endL L, base := endL L / 480 * 480, buf := L.buf.drop (endL L / 480 * 480 - L.base).toNat }
def flZ (D : Dk) (L : Lg) : Lg := if L.sure = endL L then L else if flE D L = 0 then flL L else L
/-- A call has led the log and its disk to here; what it wrote is theirs or new. -/
def LogTo (w w' : World) (base d lb g : Nat) (F : Nat → Prop) (bA : Option Addr) (D : Dk) (L : Lg) : Prop :=
  ∃ F' bA' bc', DD w' base d lb F' D ∧ LgH w' base d g bA' bc' L ∧ Grew F F' w.heap.size ∧ (∀ b, ownBlk bA' = some b → ownBlk bA = some b ∨ w.heap.size ≤ b) ∧ Mod (fun k => F k ∨ LFoot g bA k) w w'
theorem LogTo.mk {w w' : World} {base d lb g bc' : Nat} {F F' : Nat → Prop} {bA bA' : Option Addr} {D : Dk} {L : Lg} (h1 : DD w' base d lb F' D) (h2 : LgH w' base d g bA' bc' L) (h3 : Grew F F' w.heap.size) (h4 : ∀ b, ownBlk bA' = some b → ownBlk bA = some b ∨ w.heap.size ≤ b) (h5 : Mod (fun k => F k ∨ LFoot g bA k) w w') : LogTo w w' base d lb g F bA D L :=
  ⟨F', bA', bc', h1, h2, h3, h4, h5⟩
theorem wr1_l9 (D : Dk) (i : Nat) (p : List Int) : (wr1 D i p).l = D.l := by
  unfold wr1; by_cases h : D.off = true
  · rw [if_pos h]
  · rw [if_neg h]; rfl
theorem part_eq {l : List Int} {i hi : Nat} (h : hi = min l.length (i + 480)) : (l.take hi).drop i = (l.take (i + 480)).drop i := by
  subst h
  rcases Nat.le_total l.length (i + 480) with h1 | h1
  · rw [Nat.min_eq_left h1, List.take_of_length_le (Nat.le_refl _), List.take_of_length_le h1]
  · rw [Nat.min_eq_right h1]
set_option maxRecDepth 100000 in
set_option maxHeartbeats 8000000 in
theorem lflush_calls {base d lb g bc : Nat} {F : Nat → Prop} {bA : Option Addr} {L : Lg} {D : Dk} (w : World) (hL : LgH w base d g bA bc L) (hD : DD w base d lb F D) (hbw : base ≤ w.heap.size) (hlen : L.pos + 1 + L.count ≤ D.l.length) (hb480 : L.base % 480 = 0) (hbsu : L.base ≤ L.sure) (h9 : D.ops + nparts L + 1 < 1000000000) (hm9 : D.way.length + nparts L + 1 < 1000000000) (hok : LgOk (flL L)) :
    Calls Try.prog 37 #[.pointer (some ⟨g, 0, none⟩)] w fun e w' => e = .returned (.int .i64 (flE D L)) ∧ LogTo w w' base d lb g F bA (flD D L) (flZ D L) := by
  have hLx := Lib.hid hL
  have k0 := hL.at_
  have hend := fun w' (h : LgH w' base d g bA bc L) => lend_q w' _ h rfl
  obtain ⟨E, hE⟩ : ∃ E, flE D L = E := ⟨_, rfl⟩
  obtain ⟨Df, hDf⟩ : ∃ Df, flD D L = Df := ⟨_, rfl⟩
  obtain ⟨Lf, hLf⟩ : ∃ Lf, flZ D L = Lf := ⟨_, rfl⟩
  rw [hE, hDf, hLf]
  obtain ⟨en, hen⟩ : ∃ en, endL L = en := ⟨_, rfl⟩
  have henx := Lib.hid hen
  by_cases hse : L.sure = en
  · have hE0 : E = 0 := by rw [← hE]; unfold flE; rw [if_pos (by rw [hen]; exact hse)]
    have hD0 : Df = D := by rw [← hDf]; unfold flD; rw [if_pos (by rw [hen]; exact hse)]
    have hL0 : Lf = L := by rw [← hLf]; unfold flZ; rw [if_pos (by rw [hen]; exact hse)]
    rw [hE0, hD0, hL0]
    clear hE hDf hLf hE0 hD0 hL0 hen
    have k0c := k0.c; have k0f := k0.f; have k0l := k0.lt
    go_enter Try.func37, Try.ntmps37
    go_upto_region 3 with (fail)
    go_quiet ((go_at_call 22; with_reducible exact Calls.quiet_of (lend_q _ en (hLx.out.drewN _) henx.out)))
    go_wp2
    go_ret
    have hB : ∀ k, Below w.heap.size w (w.drewN k) := fun k => below_drewN (Below.refl _ _) k
    exact ⟨by first | rfl | simp, LogTo.mk (hD.later (hB _)) (hLx.out.later (hB _)) (Grew.refl _ _) (fun b hb => .inl hb) (Mod.of_below (hB _))⟩
  · have hsn : ¬ (L.sure = endL L) := by rw [hen]; exact hse
    have hEx : Hid (E = if fl1E D L = 0 then sy1E (fl1D D L) else fl1E D L) := Lib.hid (by rw [← hE]; unfold flE; rw [if_neg hsn])
    have hDx : Hid (Df = if fl1E D L = 0 then sy1 (fl1D D L) else fl1D D L) := Lib.hid (by rw [← hDf]; unfold flD; rw [if_neg hsn])
    have hLfx : Hid (Lf = if E = 0 then flL L else L) := Lib.hid (by rw [← hLf, ← hE]; unfold flZ; rw [if_neg hsn])
    have hoks := hL.ok
    have hb0 := hoks.base
    have hbf := hoks.buf
    have hc0 := hoks.count
    have hp0 := hoks.pos
    have hbufo := hL.buf
    obtain ⟨N, hN⟩ : ∃ N, nparts L = N := ⟨_, rfl⟩
    obtain ⟨R, hR⟩ : ∃ R, flR D L N 0 = R := ⟨_, rfl⟩
    have h1Dx : Hid (fl1D D L = R.1) := Lib.hid (by unfold fl1D; rw [hN, hR])
    have h1Ex : Hid (fl1E D L = R.2) := Lib.hid (by unfold fl1E; rw [hN, hR])
    have hN2 : N = (L.buf.length + 479) / 480 := hN.symm
    rw [hN] at h9 hm9
    have hpos1 : ∀ n : Nat, ((idxL L n : Nat) : Int) = L.pos + 1 + (n : Int) % L.count := fun n => by
      have := Int.emod_nonneg (n : Int) (show L.count ≠ 0 by omega)
      unfold idxL; omega
    have hlt1 : ∀ n : Nat, idxL L n < D.l.length := fun n => by
      have h1 := hpos1 n
      have h2 := Int.emod_lt_of_pos (n : Int) (show (0 : Int) < L.count by omega)
      omega
    have hRx := Lib.hid hR
    have hb4x := Lib.hid hb480
    have hcap := hbufo.shape
    clear hE hDf hLf hen hsn hoks hN hR hb480 hlen
    have k0c := k0.c; have k0f := k0.f; have k0l := k0.lt
    go_enter Try.func37, Try.ntmps37
    go_upto_region 3 with (fail)
    go_quiet ((go_at_call 22; with_reducible exact Calls.quiet_of (lend_q _ en (hLx.out.drewN _) henx.out)))
    go_upto_region 5 with (fail)
    have hBd : Below w.heap.size w (w.drewN nq) := below_drewN (Below.refl _ _) nq
    clear k0c k0f k0l
    go_wp2_with fail
    have hsb : (L.sure == en) = false := by simp; exact hse
    rw [hsb]
    go_loopw [2, 3, 4, 5] (fun _ v3 _ _ wr => ∃ (i j : Nat) (Fr : Nat → Prop) (Dj : Dk), i = 480 * j ∧ j ≤ N ∧ v3 = .int .i64 (i : Int) ∧ DD wr base d lb Fr Dj ∧ LgH wr base d g bA bc L ∧ Grew F Fr w.heap.size ∧ Mod F w wr ∧ flR Dj L (N - j) j = R ∧ Dj.ops ≤ D.ops + j ∧ Dj.way.length ≤ D.way.length + j ∧ Dj.l = D.l) (fun _ v3 _ _ _ => L.buf.length + 480 - (intOf v3).toNat)
    case atStart => exact ⟨0, 0, F, D, rfl, by omega, rfl, hD.later hBd, hLx.out.later hBd, Grew.refl _ _, Mod.of_below hBd, hRx.out, by omega, by omega, rfl⟩
    case round =>
      obtain ⟨i, j, Fr, Dj, hij, hj, rfl, hDr, hLr, hGr, hMr, hflr, hopj, hwyj, hlj⟩ := hrel
      have hLrx := Lib.hid hLr
      have hDrx := Lib.hid hDr
      have kr := hLr.at_
      by_cases hlt : i < L.buf.length
      · have hlti : (i : Int) < L.buf.length := by omega
        rcases hcap with ⟨_, h0, _⟩ | ⟨gb, rfl, hcap⟩
        · omega
        obtain ⟨hi, hhi⟩ : ∃ hi, hi = min L.buf.length (i + 480) := ⟨_, rfl⟩
        have hpn480 : hi - i ≤ 480 := by omega
        have hcut := hLr.buf.reads.cutN i hi (by omega) (by omega)
        rw [part_eq hhi] at hcut
        have hpj : Hid ((L.buf.take (i + 480)).drop i = partL L j) := Lib.hid (by unfold partL; rw [hij])
        obtain ⟨kn, hkn⟩ : ∃ kn, numL L j = kn := ⟨_, rfl⟩
        have hkni : (kn : Int) = (L.base + i) / 480 := by rw [← hkn]; unfold numL; have := hb4x.out; omega
        have hkn9 : kn < 4611686018427387904 := by omega
        have z1 : IntKind.i64.wrap ((i : Int) + 480) = (i : Int) + 480 := IntWalk.i64_in _ (by omega)
        have z2 : IntKind.u64.wrap (i : Int) = (i : Int) := IntWalk.u64_in _ (by omega)
        have z3 : IntKind.u64.wrap (L.base + (i : Int)) = L.base + (i : Int) := IntWalk.u64_in _ (by omega)
        have z4 : (L.base + (i : Int)).tdiv 480 = (kn : Int) := by rw [Int.tdiv_eq_ediv_of_nonneg (by omega), hkni]
        have z5 : IntKind.u64.wrap (kn : Int) = (kn : Int) := IntWalk.u64_in _ (by omega)
        have hh1 : (i : Int) ≤ hi := by omega
        have hh2 : (hi : Int) ≤ bc := by omega
        have hh3 : ¬ (bc = i) := by omega
        have hh4 : (0 : Int) ≤ i := by omega
        have hijx := Lib.hid hij
        have hknx := Lib.hid hkn
        have hhix := Lib.hid hhi
        clear hkni hij hkn hhi
        have krc := kr.c; have krf := kr.f; have krl := kr.lt
        go_upto_region 8 with (fail)
        have dr : Below wr.heap.size wr wr.drew := below_dr (Below.refl _ _)
        have f0 := (At.keep dr kr).c
        refine wp_region_held_drew (S := fun w' => (∀ o, w'.cell? ⟨g, o, none⟩ = #[.pointer (some ⟨d, 0, none⟩), .int .i64 L.pos, .int .i64 L.count, .int .u64 L.epoch, .int .u64 L.start, .int .u64 L.check, .int .u64 L.sure, .int .i64 L.held, .int .u64 L.base, .slice (some ⟨gb, 0, none⟩) L.buf.length bc][o]?)) (by kernel_rfl) f0 (fun hHeld => ?_)
        (refine wpAnyH_takeL (i := 0) (v := ?_) rfl (by kernel_rfl) (by kernel_rfl) (by kernel_rfl) (fun _ _ _ h => h) (by rfl) hHeld ?_ ?_; rotate_left; (focus (intro w hSw; (try dsimp only at hSw); go_simp; (try with_reducible rfl); done)); (try simp only [Act.put, List.setIfInBounds_toArray, List.set_cons_zero, List.set_cons_succ]))
        (refine wpAnyH_takeL (i := 1) (v := ?_) rfl (by kernel_rfl) (by kernel_rfl) (by kernel_rfl) (fun _ _ _ h => h) (by rfl) hHeld ?_ ?_; rotate_left; (focus (intro w hSw; (try dsimp only at hSw); go_simp; (try with_reducible rfl); done)); (try simp only [Act.put, List.setIfInBounds_toArray, List.set_cons_zero, List.set_cons_succ]))
        (refine wpAnyH_takeL (i := 2) (v := ?_) rfl (by kernel_rfl) (by kernel_rfl) (by kernel_rfl) (fun _ _ _ h => h) (by rfl) hHeld ?_ ?_; rotate_left; (focus (intro w hSw; (try dsimp only at hSw); go_simp; (try with_reducible rfl); done)); (try simp only [Act.put, List.setIfInBounds_toArray, List.set_cons_zero, List.set_cons_succ]))
        (refine wpAnyH_takeL (i := 3) (v := ?_) rfl (by kernel_rfl) (by kernel_rfl) (by kernel_rfl) (fun _ _ _ h => h) (by rfl) hHeld ?_ ?_; rotate_left; (focus (intro w hSw; (try dsimp only at hSw); go_simp; (try with_reducible rfl); done)); (try simp only [Act.put, List.setIfInBounds_toArray, List.set_cons_zero, List.set_cons_succ]))
        (refine wpAnyH_takeL (i := 4) (v := ?_) rfl (by kernel_rfl) (by kernel_rfl) (by kernel_rfl) (fun _ _ _ h => h) (by rfl) hHeld ?_ ?_; rotate_left; (focus (intro w hSw; (try dsimp only at hSw); go_simp; (try with_reducible rfl); done)); (try simp only [Act.put, List.setIfInBounds_toArray, List.set_cons_zero, List.set_cons_succ]))
        (refine wpAnyH_takeL (i := 5) (v := ?_) rfl (by kernel_rfl) (by kernel_rfl) (by kernel_rfl) (fun _ _ _ h => h) (by rfl) hHeld ?_ ?_; rotate_left; (focus (intro w hSw; (try dsimp only at hSw); go_simp; (try with_reducible rfl); done)); (try simp only [Act.put, List.setIfInBounds_toArray, List.set_cons_zero, List.set_cons_succ]))
        (refine wpAnyH_takeL (i := 6) (v := ?_) rfl (by kernel_rfl) (by kernel_rfl) (by kernel_rfl) (fun _ _ _ h => h) (by rfl) hHeld ?_ ?_; rotate_left; (focus (intro w hSw; (try dsimp only at hSw); go_simp; (try with_reducible rfl); done)); (try simp only [Act.put, List.setIfInBounds_toArray, List.set_cons_zero, List.set_cons_succ]))
        (refine wpAnyH_takeL (i := 7) (v := ?_) rfl (by kernel_rfl) (by kernel_rfl) (by kernel_rfl) (fun _ _ _ h => h) (by rfl) hHeld ?_ ?_; rotate_left; (focus (intro w hSw; (try dsimp only at hSw); go_simp; (try with_reducible rfl); done)); (try simp only [Act.put, List.setIfInBounds_toArray, List.set_cons_zero, List.set_cons_succ]))
        (refine wpAnyH_takeL (i := 8) (v := ?_) rfl (by kernel_rfl) (by kernel_rfl) (by kernel_rfl) (fun _ _ _ h => h) (by rfl) hHeld ?_ ?_; rotate_left; (focus (intro w hSw; (try dsimp only at hSw); go_simp; (try with_reducible rfl); done)); (try simp only [Act.put, List.setIfInBounds_toArray, List.set_cons_zero, List.set_cons_succ]))
        (refine wpAnyH_takeL (i := 9) (v := ?_) rfl (by kernel_rfl) (by kernel_rfl) (by kernel_rfl) (fun _ _ _ h => h) (by rfl) hHeld ?_ ?_; rotate_left; (focus (intro w hSw; (try dsimp only at hSw); go_simp; (try with_reducible rfl); done)); (try simp only [Act.put, List.setIfInBounds_toArray, List.set_cons_zero, List.set_cons_succ]))
        (refine wpAnyH_takeL (i := 10) (v := ?_) rfl (by kernel_rfl) (by kernel_rfl) (by kernel_rfl) (fun _ _ _ h => h) (by rfl) hHeld ?_ ?_; rotate_left; (focus (intro w hSw; (try dsimp only at hSw); go_simp; (try with_reducible rfl); done)); (try simp only [Act.put, List.setIfInBounds_toArray, List.set_cons_zero, List.set_cons_succ]))
        (refine wpAnyH_takeL (i := 11) (v := ?_) rfl (by kernel_rfl) (by kernel_rfl) (by kernel_rfl) (fun _ _ _ h => h) (by rfl) hHeld ?_ ?_; rotate_left; (focus (intro w hSw; (try dsimp only at hSw); go_simp; (try with_reducible rfl); done)); (try simp only [Act.put, List.setIfInBounds_toArray, List.set_cons_zero, List.set_cons_succ]))
        refine wpAnyH_takeL (i := 12) (v := .int .i64 (hi : Int)) rfl (by kernel_rfl) (by kernel_rfl) (by kernel_rfl) (fun _ _ _ h => h) (by rfl) hHeld ?_ ?_
        focus
          intro w hSw
          go_simp
          have := hhix.out
          split <;> omega
        (try simp only [Act.put, List.setIfInBounds_toArray, List.set_cons_zero, List.set_cons_succ])
        (refine wpAnyH_takeL (i := 13) (v := ?_) rfl (by kernel_rfl) (by kernel_rfl) (by kernel_rfl) (fun _ _ _ h => h) (by rfl) hHeld ?_ ?_; rotate_left; (focus (intro w hSw; (try dsimp only at hSw); go_simp; (try with_reducible rfl); done)); (try simp only [Act.put, List.setIfInBounds_toArray, List.set_cons_zero, List.set_cons_succ]))
        (refine wpAnyH_takeL (i := 14) (v := ?_) rfl (by kernel_rfl) (by kernel_rfl) (by kernel_rfl) (fun _ _ _ h => h) (by rfl) hHeld ?_ ?_; rotate_left; (focus (intro w hSw; (try dsimp only at hSw); go_simp; (try with_reducible rfl); done)); (try simp only [Act.put, List.setIfInBounds_toArray, List.set_cons_zero, List.set_cons_succ]))
        (refine wpAnyH_done (by kernel_rfl) ?_ _)
        have hDq := hDr.later dr
        have hLq := hLr.later dr
        have hMq : Mod F w wr.drew := hMr.drew
        have kq := hLq.at_
        clear hHeld f0 kr krc krf krl hDr hLr hMr
        have hcut' : BsR wr.drew base wr.drew.heap.size (some ⟨gb, i, none⟩) (hi - i) (partL L j) := by rw [← hpj.out]; exact hcut
        clear hcut
        generalize wr.drew = wq at *
        have kqc := kq.c; have kqf := kq.f; have kql := kq.lt
        obtain ⟨f, hf⟩ : ∃ f, N - j = f + 1 := ⟨N - j - 1, by have := hijx.out; omega⟩
        rw [hf] at hflr
        unfold flR at hflr
        rw [hknx.out] at hflr
        go_wp2_with fail
        refine (llay_w kn (idxL L kn) wq hLq.w hDq (hcut'.less (Nat.zero_le _)) hpn480 hkn9 (hpos1 kn) (by rw [hlj]; exact hlt1 kn) (by omega) (by omega)).mono ?_
        rintro e w9 ⟨rfl, ⟨F9, hD9, hg9⟩, hm9'⟩
        have hL9 := hLq.mod hm9' (hLq.w.noF hDq) (hDq.noB hLq.buf)
        have hG9 : Grew F F9 w.heap.size := hGr.trans hg9 hMq.size
        have hM9 : Mod F w w9 := hMq.trans hm9' (fun k hk h => (hGr k h).elim id (fun h => by omega))
        have hln9 : (wr1 Dj (idxL L kn) (layL kn L.epoch (partL L j))).l = D.l := by rw [wr1_l9]; exact hlj
        have hop9 := wr1_ops Dj (idxL L kn) (layL kn L.epoch (partL L j))
        have hwy9 := wr1_way Dj (idxL L kn) (layL kn L.epoch (partL L j))
        obtain ⟨D9, hD9e⟩ : ∃ D9, wr1 Dj (idxL L kn) (layL kn L.epoch (partL L j)) = D9 := ⟨_, rfl⟩
        rw [hD9e] at hD9 hln9 hop9 hwy9 hflr
        clear hD9e kq kqc kqf kql
        rcases wr1E_range Dj with hr | hr
        · rw [if_pos hr] at hflr
          rw [hr]
          clear hr
          go_wp2
          go_roundw
          case rel =>
            have := hijx.out
            refine ⟨i + 480, j + 1, F9, D9, by omega, by omega, by go_num, hD9, hL9, hG9, hM9, ?_, by omega, by omega, hln9⟩
            rw [show N - (j + 1) = f by omega]
            exact hflr
          case measure => simp [intOf]; omega
        · have hne : ¬ (wr1E Dj = 0) := by omega
          rw [if_neg hne] at hflr
          rw [hr] at hflr ⊢
          clear hr hne
          go_wp2
          go_ret
          have e1 : fl1E D L = 8 := by rw [h1Ex.out, ← hflr]
          have e2 : fl1D D L = D9 := by rw [h1Dx.out, ← hflr]
          have hn1 : ¬ (fl1E D L = 0) := by omega
          have hE8 : E = 8 := by rw [hEx.out, if_neg hn1, e1]
          have hDf9 : Df = D9 := by rw [hDx.out, if_neg hn1, e2]
          have hLf9 : Lf = L := by rw [hLfx.out, if_neg (by omega)]
          rw [hE8, hDf9, hLf9]
          exact ⟨by first | rfl | simp, LogTo.mk hD9 hL9 hG9 (fun b hb => .inl hb) (hM9.mono (fun k hk => .inl hk))⟩
      · have hlti : ¬ ((i : Int) < L.buf.length) := by omega
        have hjN : j = N := by omega
        rw [hjN, Nat.sub_self] at hflr
        unfold flR at hflr
        have e1 : fl1E D L = 0 := by rw [h1Ex.out, ← hflr]
        have e2 : fl1D D L = Dj := by rw [h1Dx.out, ← hflr]
        have hEy : Hid (E = sy1E Dj) := Lib.hid (by rw [hEx.out, if_pos e1, e2])
        have hDy : Hid (Df = sy1 Dj) := Lib.hid (by rw [hDx.out, if_pos e1, e2])
        clear e1 e2 hflr
        have hsu := hLr.ok.sure
        have hlen0 : 0 < L.buf.length := by
          have h1 := henx.out
          unfold endL at h1 hsu
          omega
        rcases hcap with ⟨_, h0, _⟩ | ⟨gb, rfl, hcap⟩
        · omega
        have krc := kr.c; have krf := kr.f; have krl := kr.lt
        go_wp2_with fail
        refine (sy_dd wr hDr (by omega)).mono ?_
        rintro e w2 ⟨rfl, ⟨F2, hD2, hg2⟩, hm2⟩
        rw [← hEy.out]
        rw [← hDy.out] at hD2
        have hL2 := hLr.mod hm2 (hLr.w.noF hDr) (hDr.noB hLr.buf)
        have hG2 : Grew F F2 w.heap.size := hGr.trans hg2 hMr.size
        have hM2 : Mod F w w2 := hMr.trans hm2 (fun k hk h => (hGr k h).elim id (fun h => by omega))
        have hEr : E = 0 ∨ E = 8 := by rw [hEy.out]; exact sy1E_range _
        clear kr krc krf krl hDr hLr hMr
        rcases hEr with hEr | hEr
        · have hLff : Hid (Lf = flL L) := Lib.hid (by rw [hLfx.out, if_pos hEr])
          have hErx := Lib.hid hEr
          rw [hEr]
          clear hEr
          obtain ⟨t, ht⟩ : ∃ t : Int, en / 480 = t := ⟨_, rfl⟩
          obtain ⟨bs, hbs⟩ : ∃ bs : Int, t * 480 = bs := ⟨_, rfl⟩
          obtain ⟨lo, hlo⟩ : ∃ lo : Nat, (lo : Int) = bs - L.base := ⟨(bs - L.base).toNat, by have := hb4x.out; have := henx.out; unfold endL at this; omega⟩
          have hen2 : en = L.base + L.buf.length := henx.out.symm
          have hlol : lo ≤ L.buf.length := by omega
          have z4 : en.tdiv 480 = t := by rw [Int.tdiv_eq_ediv_of_nonneg (by omega), ht]
          have z5 : IntKind.u64.wrap (t * 480) = bs := by rw [← hbs]; exact IntWalk.u64_in _ (by omega)
          have z7 : IntKind.u64.wrap t = t := IntWalk.u64_in _ (by omega)
          have z8 : IntKind.u64.wrap bs = bs := IntWalk.u64_in _ (by omega)
          have z6 : IntKind.u64.wrap (bs - L.base) = (lo : Int) := by rw [IntWalk.u64_in _ (by omega)]; omega
          have hlol2 : (lo : Int) ≤ L.buf.length := by omega
          have hcapi : (L.buf.length : Int) ≤ bc := by omega
          have hcapi2 : (lo : Int) ≤ bc := by omega
          have hflx : Hid (flL L = { L with sure := en, base := bs, buf := L.buf.drop lo }) := Lib.hid (by
            unfold flL
            rw [henx.out, ht, hbs, ← hlo, Int.toNat_natCast])
          have hbsx := Lib.hid hbs
          have hen2x := Lib.hid hen2
          have k2 := hL2.at_
          clear ht hbs hlo hen2
          have k2c := k2.c; have k2f := k2.f; have k2l := k2.lt
          go_wp2_with fail
          refine (lend_q w2 en hL2 henx.out).mono ?_
          rintro e w3 ⟨rfl, kd, hkd⟩
          have hb3 : Below w2.heap.size w2 w3 := by rw [hkd]; exact below_drewN (Below.refl _ _) kd
          clear hkd k2 k2c k2f k2l
          have hnF3 := hL2.w.noF hD2
          have hL3 := hL2.later hb3
          have hD3 := hD2.later hb3
          have hM3 : Mod F w w3 := hM2.trans (Mod.of_below (S := F) hb3) (fun _ _ h => h)
          have k3 := hL3.at_
          have k3c := k3.c; have k3f := k3.f; have k3l := k3.lt
          go_upto_region 16 with (fail)
          have k4 := At.set (o := 6) (v := .int .u64 en) k3
          have m4 := (Mod.refl (fun j => j = g) w3).set (k := g) (.inl rfl) (o := 6) (.int .u64 en)
          have hob4 : OwB (w3.setCell ⟨g, 6, none⟩ (.int .u64 en)) base (some ⟨gb, 0, none⟩) L.buf.length bc L.buf := ownBlk_set hL3.buf (Ne.symm hL3.neb)
          simp only [List.setIfInBounds_toArray, List.set_cons_zero, List.set_cons_succ] at k4
          clear k3 k3c k3f k3l
          have hneb3 := hL3.neb
          clear hL3
          generalize (w3.setCell ⟨g, 6, none⟩ (.int .u64 en)) = w4 at *
          have k4c := k4.c; have k4f := k4.f; have k4l := k4.lt
          go_upto_region 17 with (fail)
          have d4 : Below w4.heap.size w4 w4.drew := below_dr (Below.refl _ _)
          have hob5 := hob4.later d4
          have k5 := At.keep d4 k4
          have k5c := k5.c
          have k5f := k5.f
          have hbw4 : base ≤ w4.drew.heap.size := Nat.le_trans hbw (Nat.le_trans hM3.size m4.size)
          have hsrc : BsR w4.drew base w4.drew.heap.size (if bc = lo then some ⟨gb, 0, none⟩ else some ⟨gb, lo, none⟩) (L.buf.length - lo) (L.buf.drop lo) := by
            have h1 := hob5.reads.cutN lo L.buf.length (Nat.le_refl _) hlol
            rw [List.take_of_length_le (Nat.le_refl _)] at h1
            by_cases hc : bc = lo
            · rw [if_pos hc]
              have h2 : L.buf.drop lo = [] := List.eq_nil_of_length_eq_zero (by rw [List.length_drop]; omega)
              have h3 : L.buf.length - lo = 0 := by omega
              rw [h2, h3]
              exact BsR.none0 _ _ _ _
            · rw [if_neg hc]; exact h1
          have hsz17 : 0 + (L.buf.length - lo) ≤ 70368744177664 := by omega
          go_region_law
            (first
              | (refine step_app (by rfl) (.const (.slice none 0 0)) (.tmp 84) (by rfl) base 0 0 none [] (by rfl) (OwB.nil _ _) base _ (L.buf.length - lo) (bc - lo) (if bc = lo then some ⟨gb, 0, none⟩ else some ⟨gb, lo, none⟩) (L.buf.drop lo) (by rfl) hsrc hsz17 hbw4 ?_; intro A2 c2 w5 ho2 hg2 hb2 hat2; have k6 := At.grown k5 hg2 (fun h => by cases h); have k6c := k6.c; have k6f := k6.f; have k6l := k6.lt))
          all_goals
            have k7 := At.set (o := 9) (v := .slice A2 (L.buf.length - lo) c2) k6
            simp only [List.setIfInBounds_toArray, List.set_cons_zero, List.set_cons_succ] at k7
            have hne5 : some g ≠ ownBlk A2 := ne_next hat2 (fun h => by cases h) k5.lt
            have ho7 : OwB (w5.setCell ⟨g, 9, none⟩ (.slice A2 (L.buf.length - lo) c2)) base A2 (L.buf.length - lo) c2 (L.buf.drop lo) := by
              rw [Nat.zero_add, List.nil_append] at ho2
              exact ownBlk_set ho2 hne5
            have m7 : Mod (fun j => j = g) w3 (w5.setCell ⟨g, 9, none⟩ (.slice A2 (L.buf.length - lo) c2)) := Mod.set (S := fun j => j = g) ((m4.drew).grown hg2 (fun k hk => by cases hk)) (k := g) (.inl rfl) _
            have hat7 : ∀ b, ownBlk A2 = some b → w.heap.size ≤ b := fun b hb => by
              rcases hat2 with e | e
              · rw [hb] at e; cases e
              · rw [hb] at e; injection e with e
                have h1 := hM3.size; have h2 := m4.size
                have h3 : w4.drew.heap.size = w4.heap.size := rfl
                omega
            clear k6 k6c k6f k6l
            generalize (w5.setCell ⟨g, 9, none⟩ (.slice A2 (L.buf.length - lo) c2)) = w7 at *
            have k7c := k7.c; have k7f := k7.f; have k7l := k7.lt
            go_wp2
            all_goals
              go_ret
              have k8 := At.set (o := 8) (v := .int .u64 bs) k7
              simp only [List.setIfInBounds_toArray, List.set_cons_zero, List.set_cons_succ] at k8
              have m8 := Mod.set (S := fun j => j = g) m7 (k := g) (.inl rfl) (o := 8) (.int .u64 bs)
              have ho8 : OwB (w7.setCell ⟨g, 8, none⟩ (.int .u64 bs)) base A2 (L.buf.length - lo) c2 (L.buf.drop lo) := ownBlk_set ho7 hne5
              have hD8 := hD3.mod m8 (fun k hk e => hnF3 (e ▸ hk))
              rw [hLff.out]
              refine ⟨by rw [hErx.out]; first | rfl | simp, LogTo.mk (bA' := A2) (bc' := c2) hD8 ⟨?_, ?_, hLx.out.hg, hok⟩ hG2 (fun b hb => .inr (hat7 b hb)) ((hM3.mono (fun k hk => .inl hk)).trans m8 (fun k hk h => .inr (.inl h)))⟩
              · rw [hflx.out]
                show At _ g #[.pointer (some ⟨d, 0, none⟩), .int .i64 L.pos, .int .i64 L.count, .int .u64 L.epoch, .int .u64 L.start, .int .u64 L.check, .int .u64 en, .int .i64 L.held, .int .u64 bs, .slice A2 (L.buf.drop lo).length c2] _
                rw [List.length_drop]
                exact k8
              · rw [hflx.out]
                show OwB _ base A2 (L.buf.drop lo).length c2 (L.buf.drop lo)
                rw [List.length_drop]
                exact ho8
        · have hLff : Hid (Lf = L) := Lib.hid (by rw [hLfx.out, if_neg (by omega)])
          have hErx := Lib.hid hEr
          rw [hEr]
          clear hEr
          go_wp2
          go_ret
          rw [hLff.out]
          exact ⟨by rw [hErx.out]; first | rfl | simp, LogTo.mk hD2 hL2 hG2 (fun b hb => .inl hb) (hM2.mono (fun k hk => .inl hk))⟩
end Go.Proofs.Ytggeepihkeocmaa
