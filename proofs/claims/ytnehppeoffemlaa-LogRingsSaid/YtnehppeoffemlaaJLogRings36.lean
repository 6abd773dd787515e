/- Joined texts: LogHeldL. -/
import Derived.Test.YtnehppeoffemlaaJLogRings33
import Derived.Test.YtnehppeoffemlaaJLogRings19
/- LogHeld: the walk of the law. -/
namespace Go.Proofs.Ytnehppeoffemlaa
set_option linter.unusedVariables false
set_option linter.unusedSimpArgs false
open Go.RowKit
/-- The log and its disk, while records are only put. -/
structure HSt (w : World) (base d lb g : Nat) (F : Nat → Prop) (D : Dk) (c : Nat) (L : Lg) : Prop where
  l : ∃ bA bc, LgH w base d g bA bc L
  d : DD w base d lb F D
  i : LgI L
  e : L.pos = 1 ∧ L.count = c ∧ L.start = 480 ∧ L.base = 480
theorem HSt.later {w w' : World} {base d lb g c : Nat} {F : Nat → Prop} {D : Dk} {L : Lg} (h : HSt w base d lb g F D c L) (hb : Below w.heap.size w w') : HSt w' base d lb g F D c L := by
  obtain ⟨⟨bA, bc, h1⟩, h2, h3, h4⟩ := h
  exact ⟨⟨bA, bc, h1.later hb⟩, h2.later hb, h3, h4⟩
theorem HSt.bw {w : World} {base d lb g c : Nat} {F : Nat → Prop} {D : Dk} {L : Lg} (h : HSt w base d lb g F D c L) : base ≤ w.heap.size := by
  have := h.d.lts d h.d.d; omega
theorem h_app {w w1 : World} {base d lb g c o n cap : Nat} {F : Nat → Prop} {D : Dk} {L : Lg} {p : List Int} (hold : Int) (h : HSt w base d lb g F D c L) (hb : Below w.heap.size w w1) (hp : BsR w1 0 w1.heap.size (some ⟨w.heap.size, o, none⟩) n p) (h0 : 0 ≤ hold) (hn0 : 0 < n) (hn : n ≤ 1200) (hf : (n : Int) + 2 ≤ roomL L - hold) :
    Calls Try.prog 15 #[.pointer (some ⟨g, 0, none⟩), .slice (some ⟨w.heap.size, o, none⟩) n cap, .int .i64 hold] w1 fun e w2 => e = .returned (.tuple #[.int .u64 (endL L), .int .i64 0]) ∧ HSt w2 base d lb g F D c (appL L hold p) ∧ Below base w1 w2 := by
  have h1 := h.later hb
  obtain ⟨⟨bA, bc, hL0⟩, hD0, -, -⟩ := h
  obtain ⟨⟨bA1, bc1, hL⟩, hD, hI, he⟩ := h1
  have hln := hp.1
  have hL' := hL0.later hb
  have hbb := hD.lts d hD.d
  have hA := app_ok (p := p) hI h0 (by rw [hln]; exact hf)
  have hft0 := foot_low hL0 hD0
  have hft := foot_low hL' hD
  refine (lapp_ok hold w1 hL' (by omega) hp (fun _ b hb hf => by injection hb with hb; have h1 := (hft0.1 b hf).2; simp at hb; omega) h0 hn0 hn hf hA.1 hA.2.ok).mono ?_
  rintro e w2 ⟨rfl, ⟨bA2, bc2, hL2, hat2⟩, hm2⟩
  exact ⟨rfl, ⟨⟨bA2, bc2, hL2⟩, hD.mod hm2 hft.2, hA.2, he⟩, hm2.below (by omega) (fun k hk => (hft.1 k hk).1)⟩
theorem h_spend {w w1 : World} {base d lb g c o n cap : Nat} {F : Nat → Prop} {D : Dk} {L : Lg} {p : List Int} (h : HSt w base d lb g F D c L) (hb : Below w.heap.size w w1) (hp : BsR w1 0 w1.heap.size (some ⟨w.heap.size, o, none⟩) n p) (hn0 : 0 < n) (hn : n ≤ 1200) (hf : (n : Int) + 2 ≤ L.held) :
    Calls Try.prog 18 #[.pointer (some ⟨g, 0, none⟩), .slice (some ⟨w.heap.size, o, none⟩) n cap] w1 fun e w2 => e = .returned (.tuple #[.int .u64 (endL L), .int .i64 0]) ∧ HSt w2 base d lb g F D c (spendL L p) ∧ Below base w1 w2 := by
  have h1 := h.later hb
  obtain ⟨⟨bA, bc, hL0⟩, hD0, -, -⟩ := h
  obtain ⟨⟨bA1, bc1, hL⟩, hD, hI, he⟩ := h1
  have hln := hp.1
  have hL' := hL0.later hb
  have hbb := hD.lts d hD.d
  have hA := spend_ok (p := p) hI (by rw [hln]; exact hf)
  rw [hln] at hA
  have hft0 := foot_low hL0 hD0
  have hft := foot_low hL' hD
  refine (lspend_ok w1 hL' (by omega) hp (fun _ b hb hf => by injection hb with hb; have h1 := (hft0.1 b hf).2; simp at hb; omega) hn0 hn hf hA.1 hA.2.ok).mono ?_
  rintro e w2 ⟨rfl, ⟨bA2, bc2, hL2, hat2⟩, hm2⟩
  exact ⟨rfl, ⟨⟨bA2, bc2, hL2⟩, hD.mod hm2 hft.2, hA.2, he⟩, hm2.below (by omega) (fun k hk => (hft.1 k hk).1)⟩
theorem zeros_bs {w : World} {base b m : Nat} (ho : w.ownsRow base 5 1 (.slice (some ⟨b, 0, none⟩) m m) m (madeCells (Value.int .u8 0).cells (m * 1)).toList) : BsR w 0 w.heap.size (some ⟨b, 0, none⟩) m (List.replicate m 0) := by
  rw [Nat.mul_one, show (Value.int .u8 0).cells = #[.int .u8 0] from rfl, toList_madeCells_one] at ho
  have h1 : OwB w base (some ⟨b, 0, none⟩) m m (List.replicate m 0) := ⟨List.length_replicate, fun x hx => by rw [List.eq_of_mem_replicate hx]; omega, by rw [List.map_replicate]; exact ho⟩
  exact h1.reads.less (Nat.zero_le _)
theorem held_app (L : Lg) (hold : Int) (p : List Int) : (appL L hold p).held = L.held + hold := rfl
theorem held_spend (L : Lg) (p : List Int) : (spendL L p).held = L.held - (p.length + 2) := rfl
theorem room_app (L : Lg) (hold : Int) (p : List Int) : roomL (appL L hold p) = roomL L - hold - 2 - p.length := by
  have h := appL_end L hold p
  unfold roomL
  rw [h]
  show (L.start / 480 + L.count) * 480 - _ - (L.held + hold) = _
  omega
def bufN (w : World) (g : Nat) : Nat := match w.cell? ⟨g, 9, none⟩ with | some (.slice _ n _) => n | _ => 0
theorem bufN_eq {w : World} {base d g bc : Nat} {bA : Option Addr} {L : Lg} (h : LgH w base d g bA bc L) : bufN w g = L.buf.length := by
  unfold bufN
  rw [h.at_.c 9]
  rfl
theorem HSt.n {w : World} {base d lb g c : Nat} {F : Nat → Prop} {D : Dk} {L : Lg} (h : HSt w base d lb g F D c L) : bufN w g = L.buf.length := by
  obtain ⟨⟨bA, bc, h1⟩, -, -, -⟩ := h
  exact bufN_eq h1
theorem HSt.room {w : World} {base d lb g c : Nat} {F : Nat → Prop} {D : Dk} {L : Lg} (h : HSt w base d lb g F D c L) : roomL L + L.held + L.buf.length = c * 480 ∧ 0 ≤ roomL L ∧ 0 ≤ L.held := by
  have h1 := h.i.ok.room
  have h2 := h.i.ok.held
  obtain ⟨-, e1, e2, e3⟩ := h.e
  have h4 : endL L = L.base + L.buf.length := rfl
  unfold roomL
  rw [e1, e2] at h1 ⊢
  rw [e3] at h4
  rw [h4] at h1 ⊢
  omega
theorem h_room {w : World} {base d lb g c : Nat} {F : Nat → Prop} {D : Dk} {L : Lg} (h : HSt w base d lb g F D c L) (v : Int) (hv : roomL L = v) : Calls Try.prog 16 #[.pointer (some ⟨g, 0, none⟩)] w fun e w' => e = .returned (.int .i64 v) ∧ ∃ k, w' = w.drewN k := by
  obtain ⟨⟨bA, bc, h1⟩, -, -, -⟩ := h
  exact lroom_q w v h1 hv
theorem h_held {w : World} {base d lb g c : Nat} {F : Nat → Prop} {D : Dk} {L : Lg} (h : HSt w base d lb g F D c L) (v : Int) (hv : L.held = v) : Calls Try.prog 17 #[.pointer (some ⟨g, 0, none⟩)] w fun e w' => e = .returned (.int .i64 v) ∧ w = w' := by
  obtain ⟨⟨bA, bc, h1⟩, -, -, -⟩ := h
  subst hv
  exact lheld_calls w h1
theorem h_full {w : World} {base d lb g c n cap : Nat} {A : Option Addr} {F : Nat → Prop} {D : Dk} {L : Lg} (hold : Int) (h : HSt w base d lb g F D c L) (h0 : 0 ≤ hold) (hn0 : 0 < n) (hn : n ≤ 1200) (hf : roomL L < hold ∨ roomL L - hold < n + 2) :
    Calls Try.prog 15 #[.pointer (some ⟨g, 0, none⟩), .slice A n cap, .int .i64 hold] w fun e w' => e = .returned (.tuple #[.int .u64 0, .int .i64 9]) ∧ ∃ k, w' = w.drewN k := by
  obtain ⟨⟨bA, bc, h1⟩, -, -, -⟩ := h
  exact lapp_full hold w h1 h0 hn0 hn hf
theorem h_sfull {w : World} {base d lb g c n cap : Nat} {A : Option Addr} {F : Nat → Prop} {D : Dk} {L : Lg} (h : HSt w base d lb g F D c L) (hn0 : 0 < n) (hn : n ≤ 1200) (hf : L.held < n + 2) :
    Calls Try.prog 18 #[.pointer (some ⟨g, 0, none⟩), .slice A n cap] w fun e w' => e = .returned (.tuple #[.int .u64 0, .int .i64 9]) ∧ ∃ k, w' = w.drewN k := by
  obtain ⟨⟨bA, bc, h1⟩, -, -, -⟩ := h
  exact lspend_full w h1 hn0 hn hf
theorem flR_qt (L : Lg) : ∀ (f j : Nat) (D : Dk), Qt D → Qt (flR D L f j).1 ∧ (flR D L f j).2 = 0
  | 0, _, _, h => ⟨h, rfl⟩
  | f + 1, j, D, h => by
    unfold flR
    rw [if_pos h.wrE, h.wr1]
    exact flR_qt L f (j + 1) _ (h.wr _ _)
theorem flE_qt {D : Dk} (L : Lg) (h : Qt D) : flE D L = 0 := by
  have h1 := flR_qt L (nparts L) 0 D h
  unfold flE
  by_cases hs : L.sure = endL L
  · rw [if_pos hs]
  · rw [if_neg hs, if_pos (show fl1E D L = 0 from h1.2)]
    exact (show Qt (fl1D D L) from h1.1).syE
theorem h_flush {w : World} {base d lb g c : Nat} {F : Nat → Prop} {D : Dk} {L : Lg} (h : HSt w base d lb g F D c L) (hq : Qt D) (hc : c ≤ 100) (hl : c + 2 ≤ D.l.length) (ho : D.ops ≤ 100) (hw : D.way.length ≤ 100) :
    Calls Try.prog 19 #[.pointer (some ⟨g, 0, none⟩)] w fun e w' => e = .returned (.int .i64 0) ∧ Below base w w' ∧ ∃ L', (∃ bA bc, LgH w' base d g bA bc L') ∧ L'.held = L.held ∧ 0 ≤ roomL L' := by
  have hbw := h.bw
  have hr := h.room
  obtain ⟨⟨bA, bc, h1⟩, hD, hI, he⟩ := h
  have hend : endL L = L.base + L.buf.length := rfl
  have hnp : nparts L ≤ 1000 := by unfold nparts; omega
  have hfo := fl_ok hI (by omega)
  have hft := foot_low h1 hD
  refine (lflush_calls w h1 hD hbw (by omega) hI.mul hI.lo (by omega) (by omega) hfo.ok).mono ?_
  rintro e w' ⟨rfl, F', bA', bc', -, hL', -, -, hm⟩
  rw [flE_qt L hq]
  refine ⟨rfl, hm.below hbw (fun k hk => hk.elim (fun h => (hD.lts k h).1) (fun h => (hft.1 k h).1)), flZ D L, ⟨bA', bc', hL'⟩, ?_, ?_⟩
  · unfold flZ
    by_cases hs : L.sure = endL L
    · rw [if_pos hs]
    · rw [if_neg hs, if_pos (flE_qt L hq)]; rfl
  · have := hL'.ok.room
    unfold roomL
    omega
end Go.Proofs.Ytnehppeoffemlaa
