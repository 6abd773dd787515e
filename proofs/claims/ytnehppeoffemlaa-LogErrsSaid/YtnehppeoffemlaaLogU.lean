/- What the log keeps true of its numbers (plain). -/
import Derived.Test.YtnehppeoffemlaaLogT
import Derived.Test.YtnehppeoffemlaaLogD
namespace Go.Proofs.Ytnehppeoffemlaa
set_option linter.unusedVariables false
set_option linter.unusedSimpArgs false
open Go.RowKit
structure LgI (L : Lg) : Prop where
  ok : LgOk L
  mul : L.base % 480 = 0
  lo : L.base ≤ L.sure
  hi : L.sure < L.base + 480
theorem newL_I {a c : Int} (ha : 0 ≤ a) (ha2 : a ≤ 4096) (hc : 4 ≤ c) (hc2 : c ≤ 4096) : LgI (newL a c) :=
  ⟨newL_ok ha ha2 hc hc2, rfl, by show (480 : Int) ≤ 480; omega, by show (480 : Int) < 480 + 480; omega⟩
theorem appL_buf (L : Lg) (hold : Int) (p : List Int) : (appL L hold p).buf.length = L.buf.length + 2 + p.length := putL_len _ _
theorem appL_end (L : Lg) (hold : Int) (p : List Int) : endL (appL L hold p) = endL L + 2 + p.length := by
  unfold endL
  rw [appL_buf]
  show L.base + _ = _
  omega
theorem app_ok {L : Lg} {hold : Int} {p : List Int} (h : LgI L) (h0 : 0 ≤ hold) (hf : (p.length : Int) + 2 ≤ roomL L - hold) : LgOk (heldL L (L.held + hold)) ∧ LgI (appL L hold p) := by
  have h1 := h.ok.base; have h2 := h.ok.buf; have h3 := h.ok.start; have h4 := h.ok.count; have h5 := h.ok.held; have h6 := h.ok.room; have h7 := h.ok.sure; have h8 := h.lo; have h9 := h.hi
  have hb := appL_buf L hold p
  have he := appL_end L hold p
  have hee : endL L = L.base + L.buf.length := rfl
  unfold roomL at hf
  have hq := h.ok.check
  refine ⟨⟨h.ok.pos, h4, h.ok.epoch, h3, hq, h7, ?_, h1, h2, ?_⟩, ⟨h.ok.pos, h4, h.ok.epoch, h3, hq, ?_, ?_, h1, ?_, ?_⟩, h.mul, h8, h9⟩
  · show 0 ≤ L.held + hold ∧ L.held + hold ≤ _
    omega
  · show endL L + (L.held + hold) ≤ (L.start / 480 + L.count) * 480
    omega
  · show L.sure ≤ endL (appL L hold p)
    omega
  · show 0 ≤ L.held + hold ∧ L.held + hold ≤ _
    omega
  · rw [hb]; omega
  · show endL (appL L hold p) + (L.held + hold) ≤ (L.start / 480 + L.count) * 480
    omega
theorem spendL_buf (L : Lg) (p : List Int) : (spendL L p).buf.length = L.buf.length + 2 + p.length := putL_len _ _
theorem spendL_end (L : Lg) (p : List Int) : endL (spendL L p) = endL L + 2 + p.length := by
  unfold endL
  rw [spendL_buf]
  show L.base + _ = _
  omega
theorem spend_ok {L : Lg} {p : List Int} (h : LgI L) (hf : (p.length : Int) + 2 ≤ L.held) : LgOk (heldL L (L.held - (p.length + 2))) ∧ LgI (spendL L p) := by
  have h1 := h.ok.base; have h2 := h.ok.buf; have h3 := h.ok.start; have h4 := h.ok.count; have h5 := h.ok.held; have h6 := h.ok.room; have h7 := h.ok.sure; have h8 := h.lo; have h9 := h.hi
  have hb := spendL_buf L p
  have he := spendL_end L p
  have hee : endL L = L.base + L.buf.length := rfl
  have hq := h.ok.check
  refine ⟨⟨h.ok.pos, h4, h.ok.epoch, h3, hq, h7, ?_, h1, h2, ?_⟩, ⟨h.ok.pos, h4, h.ok.epoch, h3, hq, ?_, ?_, h1, ?_, ?_⟩, h.mul, h8, h9⟩
  · show 0 ≤ L.held - (p.length + 2) ∧ L.held - (p.length + 2) ≤ _
    omega
  · show endL L + (L.held - (p.length + 2)) ≤ (L.start / 480 + L.count) * 480
    omega
  · show L.sure ≤ endL (spendL L p)
    omega
  · show 0 ≤ L.held - (p.length + 2) ∧ L.held - (p.length + 2) ≤ _
    omega
  · rw [hb]; omega
  · show endL (spendL L p) + (L.held - (p.length + 2)) ≤ (L.start / 480 + L.count) * 480
    omega
theorem flL_end {L : Lg} (h : LgI L) : endL (flL L) = endL L := by
  have h1 := h.ok.base; have h7 := h.ok.sure; have h8 := h.lo; have h9 := h.hi; have hm := h.mul
  have hee : endL L = L.base + L.buf.length := rfl
  show endL L / 480 * 480 + ((L.buf.drop (endL L / 480 * 480 - L.base).toNat).length : Int) = endL L
  rw [List.length_drop]
  omega
theorem fl_ok {L : Lg} (h : LgI L) (hb : endL L ≤ 1099511627776) : LgI (flL L) := by
  have h1 := h.ok.base; have h2 := h.ok.buf; have h3 := h.ok.start; have h4 := h.ok.count; have h5 := h.ok.held; have h6 := h.ok.room; have h7 := h.ok.sure; have h8 := h.lo; have h9 := h.hi
  have he := flL_end h
  have hq := h.ok.check
  refine ⟨⟨h.ok.pos, h4, h.ok.epoch, ?_, ?_, ?_, h5, ?_, ?_, ?_⟩, ?_, ?_, ?_⟩
  · show 0 ≤ L.start ∧ L.start ≤ endL L
    omega
  · show 0 ≤ L.check ∧ L.check ≤ endL L
    omega
  · rw [he]; show endL L ≤ endL L; omega
  · show 0 ≤ endL L / 480 * 480 ∧ endL L / 480 * 480 ≤ _
    omega
  · show (L.buf.drop _).length ≤ _
    rw [List.length_drop]; omega
  · rw [he]; exact h6
  · show endL L / 480 * 480 % 480 = 0
    omega
  · show endL L / 480 * 480 ≤ endL L
    omega
  · show endL L < endL L / 480 * 480 + 480
    omega
end Go.Proofs.Ytnehppeoffemlaa
