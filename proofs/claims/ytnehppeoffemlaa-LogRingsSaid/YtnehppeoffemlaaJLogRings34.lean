/- Joined texts: LogY. -/
import Derived.Test.YtnehppeoffemlaaJLogRings33
/- The ring of sectors (plain): what Read and Open find. -/
namespace Go.Proofs.Ytnehppeoffemlaa
set_option linter.unusedVariables false
set_option linter.unusedSimpArgs false
open Go.RowKit
/-- The log's first byte that a sector still holds: its place. -/
def org (L : Lg) : Int := L.start / 480 * 480
structure Ring (D : Dk) (L : Lg) (B : List Int) (ep : Nat → Int) : Prop where
  i : LgI L
  low : L.start < 1099511627776
  len : L.pos + 1 + L.count ≤ D.l.length
  blen : (B.length : Int) = endL L - org L
  byt : Byt B
  sec : ∀ j : Nat, org L ≤ 480 * (j : Int) → 480 * (j : Int) < endL L → readD D (idxL L j) = layL j (ep j) ((B.drop (480 * (j : Int) - org L).toNat).take 480)
  epm : ∀ i j, i ≤ j → ep i ≤ ep j
  ep0 : ∀ j, 0 ≤ ep j ∧ ep j ≤ L.epoch
  fresh : ∀ j : Nat, endL L < 480 * (j : Int) → ∀ e, ¬ SecYes (readD D (idxL L j)) j e
  last : ∀ j : Nat, 480 * (j : Int) = endL L → (∀ e, ¬ SecYes (readD D (idxL L j)) j e) ∨ ∃ e, (0 ≤ e ∧ e < 18446744073709551616) ∧ readD D (idxL L j) = layL j e []
  sure : L.sure = endL L
  base : L.base = endL L / 480 * 480
  buf : L.buf = B.drop (L.base - org L).toNat
  mas : readD D L.pos.toNat = masterL L
theorem take_more (B : List Int) (o a b : Nat) : (B.drop o).take a ++ (B.drop (o + a)).take b = (B.drop o).take (a + b) := by
  rw [List.take_add, List.drop_drop]
theorem part_len {B : List Int} {x n : Nat} : ((B.drop x).take n).length = min n (B.length - x) := by rw [List.length_take, List.length_drop]
theorem part_byt {B : List Int} (h : Byt B) (x n : Nat) : Byt ((B.drop x).take n) := (h.drop x).take n
/-- Bytes of the log, wherever they lie. -/
theorem bytR_ring {D : Dk} {L : Lg} {B : List Int} {ep : Nat → Int} (h : Ring D L B ep) (at_ n o : Nat) (ho : (o : Int) = at_ - org L) (hst : L.start ≤ at_) (hend : ((at_ + n : Nat) : Int) ≤ endL L) :
    ∀ (f : Nat) (out : List Int), n < f + out.length → out.length ≤ n → out = (B.drop o).take out.length → bytR D L at_ n f out = some ((B.drop o).take n)
  | 0, out, hf, hn, _ => by omega
  | f + 1, out, hf, hn, hout => by
    have hs := h.i.ok.start
    have hei := end_i h.i.ok
    have hbl := h.blen
    have hor : org L ≤ L.start ∧ L.start < org L + 480 ∧ 0 ≤ org L ∧ org L % 480 = 0 := by unfold org; omega
    obtain ⟨ol, hol⟩ : ∃ ol, out.length = ol := ⟨_, rfl⟩
    rw [hol] at hf hn hout
    unfold bytR
    rw [hol]
    by_cases hlt : ol < n
    · rw [if_pos hlt]
      obtain ⟨here, hh⟩ : ∃ here, at_ + ol = here := ⟨_, rfl⟩
      rw [hh]
      have hb := h.base
      by_cases hbh : L.base ≤ (here : Int)
      · rw [if_pos hbh, h.buf, List.drop_drop]
        have e : (L.base - org L).toNat + ((here : Int) - L.base).toNat = o + ol := by omega
        rw [e]
        congr 1
        conv => lhs; rw [hout]
        rw [take_more]
        congr 1
        omega
      · rw [if_neg hbh]
        obtain ⟨k, hk⟩ : ∃ k, here / 480 = k := ⟨_, rfl⟩
        obtain ⟨r, hr⟩ : ∃ r, here % 480 = r := ⟨_, rfl⟩
        rw [hk, hr]
        have hsec := h.sec k (by omega) (by omega)
        obtain ⟨x, hx⟩ : ∃ x, (480 * (k : Int) - org L).toNat = x := ⟨_, rfl⟩
        rw [hx] at hsec
        have hpl : ((B.drop x).take 480).length = 480 := by rw [part_len]; omega
        have hk0 : (0 : Int) ≤ k ∧ (k : Int) < 18446744073709551616 := by omega
        have hepk := h.ep0 k
        have hepo := h.i.ok.epoch
        have hy : SecYes (readD D (idxL L k)) k L.epoch := by rw [hsec]; exact lay_yes hk0 ⟨hepk.1, by omega⟩ (by omega) hepk.2
        have hP : secP (readD D (idxL L k)) = (B.drop x).take 480 := by rw [hsec]; exact (lay_says hk0 ⟨hepk.1, by omega⟩ (by omega)).2.2.2.2
        rw [hP, if_pos ⟨hy, by rw [hpl]; omega⟩]
        have hcut : (((B.drop x).take 480).drop r).take (n - ol) = (B.drop (o + ol)).take (min (480 - r) (n - ol)) := by
          rw [List.drop_take, List.drop_drop, List.take_take, show x + r = o + ol by omega, Nat.min_comm]
        rw [hcut]
        have hout2 : out ++ (B.drop (o + ol)).take (min (480 - r) (n - ol)) = (B.drop o).take (ol + min (480 - r) (n - ol)) := by
          conv => lhs; rw [hout]
          rw [take_more]
        have hl2 : (out ++ (B.drop (o + ol)).take (min (480 - r) (n - ol))).length = ol + min (480 - r) (n - ol) := by
          rw [hout2, part_len]; omega
        refine bytR_ring h at_ n o ho hst hend f _ (by rw [hl2]; omega) (by rw [hl2]; omega) (by rw [hl2]; exact hout2)
    · rw [if_neg hlt]
      have e : ol = n := by omega
      rw [hout, e]
/-- Open's scan finds all the log's bytes. -/
theorem gath_ring {D : Dk} {L L0 : Lg} {B : List Int} {ep : Nat → Int} (h : Ring D L B ep) (h0 : L0.pos = L.pos ∧ L0.count = L.count ∧ L0.epoch = L.epoch) :
    ∀ (f k : Nat) (last : Int), org L ≤ 480 * (k : Int) → 480 * (k : Int) ≤ endL L → (f : Int) + k = L.start / 480 + L.count → last ≤ ep k → gath D L0 f k (B.take (480 * (k : Int) - org L).toNat) last = B
  | f, k, last, h1, h2, hf, hl => by
    have hs := h.i.ok.start
    have hc := h.i.ok.count
    have hei := end_i h.i.ok
    have hbl := h.blen
    have hrm := h.i.ok.room
    have hhe := h.i.ok.held
    have hepo := h.i.ok.epoch
    have hor : org L ≤ L.start ∧ L.start < org L + 480 ∧ 0 ≤ org L ∧ org L % 480 = 0 ∧ org L = L.start / 480 * 480 := by unfold org; omega
    have hidx : idxL L0 k = idxL L k := by unfold idxL; rw [h0.1, h0.2.1]
    obtain ⟨x, hx⟩ : ∃ x, (480 * (k : Int) - org L).toNat = x := ⟨_, rfl⟩
    have hk0 : (0 : Int) ≤ k ∧ (k : Int) < 18446744073709551616 := by omega
    rw [hx]
    by_cases hlt : 480 * (k : Int) < endL L
    · obtain ⟨f', rfl⟩ : ∃ f', f = f' + 1 := ⟨f - 1, by omega⟩
      have hsec := h.sec k h1 hlt
      rw [hx] at hsec
      have hepk := h.ep0 k
      have hpl := @part_len B x 480
      have hy : SecYes (readD D (idxL L k)) k L.epoch := by rw [hsec]; exact lay_yes hk0 ⟨hepk.1, by omega⟩ (by omega) hepk.2
      have hsay := lay_says (k := (k : Int)) (e := ep k) (p := (B.drop x).take 480) hk0 ⟨hepk.1, by omega⟩ (by omega)
      unfold gath
      rw [hidx, h0.2.2, if_pos ⟨hy, by rw [hsec, hsay.2.1]; exact hl⟩]
      rw [hsec, hsay.2.2.2.2, hsay.2.1]
      by_cases hfull : ((B.drop x).take 480).length < 480
      · rw [if_pos hfull]
        have e : (B.drop x).take 480 = B.drop x := List.take_of_length_le (by rw [List.length_drop]; omega)
        rw [e, List.take_append_drop]
      · rw [if_neg hfull]
        have e : B.take x ++ (B.drop x).take 480 = B.take (480 * ((k + 1 : Nat) : Int) - org L).toNat := by
          have := take_more B 0 x 480
          rw [List.drop_zero, Nat.zero_add] at this
          rw [this]
          congr 1
          omega
        rw [e]
        exact gath_ring h h0 f' (k + 1) (ep k) (by omega) (by omega) (by omega) (h.epm k (k + 1) (by omega))
    · have heq : 480 * (k : Int) = endL L := by omega
      have hB : B.take x = B := List.take_of_length_le (by omega)
      rw [hB]
      cases f with
      | zero => rfl
      | succ f' =>
        unfold gath
        rw [hidx, h0.2.2]
        rcases h.last k heq with hno | ⟨e, he, hlay⟩
        · rw [if_neg (fun hy => hno _ hy.1)]
        · by_cases hy : SecYes (readD D (idxL L k)) k L.epoch ∧ last ≤ numE (readD D (idxL L k))
          · rw [if_pos hy, hlay]
            have hsay := lay_says (k := (k : Int)) (e := e) (p := []) hk0 he (by simp)
            rw [hsay.2.2.2.2, if_pos (by simp), List.append_nil]
          · rw [if_neg hy]
end Go.Proofs.Ytnehppeoffemlaa
