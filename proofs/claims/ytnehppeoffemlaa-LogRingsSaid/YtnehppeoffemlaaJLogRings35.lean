/- Joined texts: LogZ. -/
import Derived.Test.YtnehppeoffemlaaJLogRings34
/- The ring of sectors (plain): Open finds the same log, and leaves a ring. -/
namespace Go.Proofs.Ytnehppeoffemlaa
set_option linter.unusedVariables false
set_option linter.unusedSimpArgs false
open Go.RowKit
theorem idx_int {L : Lg} (h : LgOk L) (j : Nat) : ((idxL L j : Nat) : Int) = L.pos + 1 + (j : Int) % L.count := by
  have h1 := h.pos; have h2 := h.count
  have := Int.emod_nonneg (j : Int) (show L.count ≠ 0 by omega)
  unfold idxL; omega
theorem idx_lt {L : Lg} {n : Nat} (h : LgOk L) (hn : L.pos + 1 + L.count ≤ n) (j : Nat) : idxL L j < n := by
  have h1 := idx_int h j
  have h2 := Int.emod_lt_of_pos (j : Int) (show (0 : Int) < L.count by have := h.count; omega)
  omega
theorem idx_pos {L : Lg} (h : LgOk L) (j : Nat) : L.pos.toNat ≠ idxL L j := by
  have h1 := idx_int h j
  have h2 := Int.emod_nonneg (j : Int) (show L.count ≠ 0 by have := h.count; omega)
  have h3 := h.pos
  omega
theorem idx_ne {L : Lg} (h : LgOk L) {j k : Nat} (hne : j ≠ k) (h1 : (j : Int) - k < L.count) (h2 : (k : Int) - j < L.count) : idxL L j ≠ idxL L k := by
  intro he
  have e1 := idx_int h j
  have e2 := idx_int h k
  rw [he] at e1
  have em : (j : Int) % L.count = (k : Int) % L.count := by omega
  have hc := h.count
  have a1 := Int.mul_ediv_add_emod (j : Int) L.count
  have a2 := Int.mul_ediv_add_emod (k : Int) L.count
  rw [em] at a1
  obtain ⟨q, hq⟩ : ∃ q, (j : Int) / L.count - (k : Int) / L.count = q := ⟨_, rfl⟩
  have hd : (j : Int) - k = L.count * q := by rw [← hq, Int.mul_sub]; omega
  rcases Int.lt_trichotomy q 0 with h0 | h0 | h0
  · have : L.count * q ≤ L.count * (-1) := Int.mul_le_mul_of_nonneg_left (by omega) (by omega)
    omega
  · rw [h0, Int.mul_zero] at hd; omega
  · have : L.count * 1 ≤ L.count * q := Int.mul_le_mul_of_nonneg_left (by omega) (by omega)
    omega
/-- The log behind an Open. -/
def reL (L : Lg) : Lg := { L with epoch := L.epoch + 1, held := 0 }
def reD (D : Dk) (L : Lg) : Dk := syncD (wrD (syncD (wrD D L.pos.toNat (masterL (reL L)))) (idxL L (L.base / 480).toNat) (layL (L.base / 480) (L.epoch + 1) L.buf))
def reE (L : Lg) (ep : Nat → Int) (j : Nat) : Int := if L.base ≤ 480 * (j : Int) then L.epoch + 1 else ep j
theorem re_read {D : Dk} {L : Lg} (j : Nat) (h : j < D.l.length) : readD (reD D L) j = if idxL L (L.base / 480).toNat = j then layL (L.base / 480) (L.epoch + 1) L.buf else if L.pos.toNat = j then masterL (reL L) else readD D j := by
  unfold reD
  rw [readD_sync (D := wrD (syncD (wrD D L.pos.toNat (masterL (reL L)))) (idxL L (L.base / 480).toNat) (layL (L.base / 480) (L.epoch + 1) L.buf)) j (by show j < (syncD _).l.length; rw [sync_len]; exact h), readD_wr]
  by_cases h1 : idxL L (L.base / 480).toNat = j
  · rw [if_pos h1, if_pos h1]
  · rw [if_neg h1, if_neg h1]
    exact readD_mk _ _ _ h
theorem re_len (D : Dk) (L : Lg) : (reD D L).l.length = D.l.length := by
  unfold reD
  rw [sync_len]
  show (syncD _).l.length = _
  rw [sync_len]
  rfl
theorem ring_mas {D : Dk} {L : Lg} {B : List Int} {ep : Nat → Int} (h : Ring D L B ep) : masL (readD D L.pos.toNat) L.pos L.count = ⟨L.pos, L.count, L.epoch, L.start, L.check, 0, 0, 0, []⟩ := by
  have h1 := h.i.ok.epoch; have h2 := h.i.ok.start; have h3 := h.i.ok.check; have h4 := h.i.ok.sure; have h5 := end_i h.i.ok
  rw [h.mas]
  exact mas_L L L.pos L.count (by omega) (by omega) (by omega)
theorem ring_scan {D : Dk} {L : Lg} {B : List Int} {ep : Nat → Int} (h : Ring D L B ep) : scanG D ⟨L.pos, L.count, L.epoch, L.start, L.check, 0, 0, 0, []⟩ = B := by
  have h2 := h.i.ok.start; have h4 := h.i.ok.sure; have h5 := h.i.ok.count
  have ho : org L = L.start / 480 * 480 := rfl
  obtain ⟨k, hk⟩ : ∃ k, (L.start / 480).toNat = k := ⟨_, rfl⟩
  have hg := gath_ring h (L0 := ⟨L.pos, L.count, L.epoch, L.start, L.check, 0, 0, 0, []⟩) ⟨rfl, rfl, rfl⟩ L.count.toNat k 0 (by omega) (by omega) (by omega) (h.ep0 _).1
  rw [show (480 * (k : Int) - org L).toNat = 0 by omega, List.take_zero] at hg
  unfold scanG
  rw [← hk] at hg
  exact hg
theorem ring_prs {D : Dk} {L : Lg} {B : List Int} {ep : Nat → Int} {rs : List (List Int)} (h : Ring D L B ep) (hB : B.drop (L.start - org L).toNat = recB rs) (hrs : ∀ p ∈ rs, 1 ≤ p.length ∧ p.length ≤ 1200) : scanP D ⟨L.pos, L.count, L.epoch, L.start, L.check, 0, 0, 0, []⟩ = B.length := by
  have h2 := h.i.ok.start; have h4 := h.i.ok.sure
  have hbl := h.blen
  have ho : org L = L.start / 480 * 480 := rfl
  unfold scanP
  rw [ring_scan h]
  show prs B B.length (min (L.start % 480).toNat B.length) = B.length
  obtain ⟨o, hoo⟩ : ∃ o, (L.start - org L).toNat = o := ⟨_, rfl⟩
  rw [hoo] at hB
  have e1 : min (L.start % 480).toNat B.length = (B.take o).length := by rw [List.length_take]; omega
  have e2 : B.take o ++ recB rs = B := by rw [← hB, List.take_append_drop]
  have e3 : (recB rs).length ≤ B.length := by rw [← hB, List.length_drop]; omega
  have hp := prs_all rs (B.take o) B.length hrs e3
  rw [e2] at hp
  rw [e1]
  exact hp
theorem ring_opL {D : Dk} {L : Lg} {B : List Int} {ep : Nat → Int} {rs : List (List Int)} (h : Ring D L B ep) (hB : B.drop (L.start - org L).toNat = recB rs) (hrs : ∀ p ∈ rs, 1 ≤ p.length ∧ p.length ≤ 1200) : opL D L.pos L.count = reL L := by
  have hs := ring_scan h
  have hp := ring_prs h hB hrs
  have hbl := h.blen
  have ho : org L = L.start / 480 * 480 := rfl
  have hb := h.base
  unfold opL
  rw [ring_mas h]
  unfold scanL
  rw [hs, hp]
  show (⟨L.pos, L.count, L.epoch + 1, L.start, L.check, L.start / 480 * 480 + B.length, 0, (L.start / 480 * 480 + B.length) / 480 * 480, (B.take B.length).drop (B.length / 480 * 480)⟩ : Lg) = ⟨L.pos, L.count, L.epoch + 1, L.start, L.check, L.sure, 0, L.base, L.buf⟩
  have e1 : L.start / 480 * 480 + (B.length : Int) = L.sure := by rw [h.sure]; omega
  rw [e1, List.take_of_length_le (Nat.le_refl _), h.buf]
  have e2 : L.sure / 480 * 480 = L.base := by rw [h.sure, hb]
  rw [e2, show B.length / 480 * 480 = (L.base - org L).toNat by omega]
theorem ring_opD {D : Dk} {L : Lg} {B : List Int} {ep : Nat → Int} {rs : List (List Int)} (h : Ring D L B ep) (hq : Qt D) (hB : B.drop (L.start - org L).toNat = recB rs) (hrs : ∀ p ∈ rs, 1 ≤ p.length ∧ p.length ≤ 1200) : op3D D L.pos L.count = reD D L ∧ op3E D L.pos L.count = 0 := by
  have hL := ring_opL h hB hrs
  have e1 : op1E D L.pos L.count = 0 := hq.mkE _ _
  have e1D : op1D D L.pos L.count = syncD (wrD D L.pos.toNat (masterL (reL L))) := by unfold op1D; rw [hL, hq.mkD]
  have q1 : Qt (op1D D L.pos L.count) := by rw [e1D]; exact (hq.wr _ _).sy
  have e2 : op2E D L.pos L.count = 0 := by unfold op2E; rw [if_pos e1]; exact q1.wrE
  have e2D : op2D D L.pos L.count = wrD (op1D D L.pos L.count) (idxL L (L.base / 480).toNat) (layL (L.base / 480) (L.epoch + 1) L.buf) := by unfold op2D; rw [if_pos e1, q1.wr1, hL]; rfl
  have q2 : Qt (op2D D L.pos L.count) := by rw [e2D]; exact q1.wr _ _
  refine ⟨?_, ?_⟩
  · unfold op3D; rw [if_pos e2, q2.sy1, e2D, e1D]; rfl
  · unfold op3E; rw [if_pos e2]; exact q2.syE
theorem re_ring {D : Dk} {L : Lg} {B : List Int} {ep : Nat → Int} (h : Ring D L B ep) (hep : L.epoch + 1 < 1099511627776) (hfull : endL L / 480 - L.start / 480 < L.count) : Ring (reD D L) (reL L) B (reE L ep) := by
  have h1 := h.i.ok.epoch; have h2 := h.i.ok.start; have h3 := h.i.ok.check; have h4 := h.i.ok.sure; have h5 := end_i h.i.ok; have h6 := h.i.ok.count; have h7 := h.i.ok.held; have h8 := h.i.ok.room
  have hb := h.base
  have hbl := h.blen
  have ho : org L = L.start / 480 * 480 := rfl
  have hlen := h.len
  have hen : endL (reL L) = endL L := rfl
  have hor : org (reL L) = org L := rfl
  obtain ⟨kb, hkb⟩ : ∃ kb, (L.base / 480).toNat = kb := ⟨_, rfl⟩
  have hkb2 : L.base = 480 * (kb : Int) := by omega
  have hkb3 : L.base / 480 = (kb : Int) := by omega
  have hbuf : L.buf.length ≤ 480 := by rw [h.buf, List.length_drop]; omega
  have hrd : ∀ j : Nat, readD (reD D L) (idxL L j) = if idxL L kb = idxL L j then layL kb (L.epoch + 1) L.buf else readD D (idxL L j) := fun j => by
    rw [re_read _ (idx_lt h.i.ok hlen j), hkb, hkb3, if_neg (idx_pos h.i.ok j)]
  have hbyt : Byt L.buf := by rw [h.buf]; exact h.byt.drop _
  refine ⟨⟨⟨h.i.ok.pos, h6, by show 0 ≤ L.epoch + 1 ∧ L.epoch + 1 < _; omega, h2, h3, h4, by show (0 : Int) ≤ 0 ∧ (0 : Int) ≤ _; omega, h.i.ok.base, h.i.ok.buf, by show endL L + 0 ≤ (L.start / 480 + L.count) * 480; omega⟩, h.i.mul, h.i.lo, h.i.hi⟩, h.low, by rw [re_len]; exact hlen, hbl, h.byt, ?_, ?_, ?_, ?_, ?_, h.sure, hb, h.buf, ?_⟩
  · intro j hj1 hj2
    rw [hen] at hj2
    rw [hor] at hj1 ⊢
    show readD (reD D L) (idxL L j) = _
    rw [hrd]
    by_cases hjk : j = kb
    · subst hjk
      rw [if_pos rfl]
      have e : reE L ep j = L.epoch + 1 := by unfold reE; rw [if_pos (by omega)]
      rw [e, h.buf, hkb2, List.take_of_length_le (by rw [List.length_drop]; omega)]
    · rw [if_neg (idx_ne h.i.ok (fun e => hjk e.symm) (by omega) (by omega)), h.sec j hj1 hj2]
      have e : reE L ep j = ep j := by unfold reE; rw [if_neg (by omega)]
      rw [e]
  · intro i j hij
    have a1 := h.epm i j hij; have a2 := (h.ep0 i).2; have a3 := (h.ep0 j).2
    unfold reE
    by_cases c1 : L.base ≤ 480 * (i : Int)
    · rw [if_pos c1, if_pos (by omega)]; omega
    · rw [if_neg c1]
      by_cases c2 : L.base ≤ 480 * (j : Int)
      · rw [if_pos c2]; omega
      · rw [if_neg c2]; exact a1
  · intro j
    have a2 := h.ep0 j
    show 0 ≤ reE L ep j ∧ reE L ep j ≤ L.epoch + 1
    unfold reE
    by_cases c2 : L.base ≤ 480 * (j : Int)
    · rw [if_pos c2]; omega
    · rw [if_neg c2]; omega
  · intro j hj e
    rw [hen] at hj
    show ¬ SecYes (readD (reD D L) (idxL L j)) j e
    rw [hrd]
    by_cases c : idxL L kb = idxL L j
    · rw [if_pos c]
      exact lay_no (by omega) (by omega) e
    · rw [if_neg c]; exact h.fresh j hj e
  · intro j hj
    rw [hen] at hj
    right
    have hjk : j = kb := by omega
    subst hjk
    refine ⟨L.epoch + 1, by omega, ?_⟩
    show readD (reD D L) (idxL L j) = _
    rw [hrd, if_pos rfl, h.buf]
    have e : B.drop (L.base - org L).toNat = [] := List.eq_nil_of_length_eq_zero (by rw [List.length_drop]; omega)
    rw [e]
  · show readD (reD D L) L.pos.toNat = masterL (reL L)
    rw [re_read _ (by have := h.i.ok.pos; omega), hkb, if_neg (fun e => idx_pos h.i.ok kb e.symm), if_pos rfl]
end Go.Proofs.Ytnehppeoffemlaa
