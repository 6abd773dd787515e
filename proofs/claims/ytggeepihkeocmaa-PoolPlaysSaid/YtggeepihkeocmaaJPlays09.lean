/- Joined texts: DAwake, LogH. -/
import Derived.Test.YtggeepihkeocmaaJPlays08
import Derived.Test.YtggeepihkeocmaaJPlays02
/- The disk laws' awake. -/
namespace Go.Proofs.Ytggeepihkeocmaa
set_option linter.unusedVariables false
set_option linter.unusedSimpArgs false
open Go.RowKit
theorem litb_gen {P : Program} (t e : TypeId) (ht : P.underlying t = some (.slice e)) (he : P.underlying e = some (.int .u8)) (w : World) (x : Value) : ∃ wf, (convert t t (.slice (some ⟨w.heap.size, 0, none⟩) 1 1)).run P (w.alloc (.cells #[x] e)) = .ok (.slice (some ⟨w.heap.size, 0, none⟩) 1 1) wf ∧ Below w.heap.size w wf ∧ w.heap.size < wf.heap.size ∧ wf.cell? ⟨w.heap.size, 0, none⟩ = some x := by
  have hb : (w.alloc (.cells #[x] e)).heap[w.heap.size]? = some (.cells #[x] e (0, 0)) := At.new w #[x] e
  refine ⟨(w.alloc (.cells #[x] e)).freeze ⟨w.heap.size, 1, none⟩ 1, ?_, ?_, ?_, ?_⟩
  · have hs : (w.alloc (.cells #[x] e)).shape? w.heap.size = some (e, 1) := by
      unfold World.shape?; rw [hb]; rfl
    simp [convert, run_underlying ht, run_underlying he, markStringish, hs]
  · have hB := below_new w (.cells #[x] e)
    refine ⟨hB.os, hB.tape, hB.output, ?_, fun k hk => ?_⟩
    · simp [World.freeze]
    · rw [← hB.block k hk]
      simp only [World.freeze]
      rw [if_neg (by decide)]
      simp only [Array.getElem?_modify]
      rw [if_neg (by omega)]
  · simp [World.freeze]
  · unfold World.cell? World.freeze
    rw [if_neg (by decide)]
    simp only [Array.getElem?_modify]
    rw [if_pos trivial, hb]
    simp
theorem litb_at (w : World) (x : Int) : ∃ wf, (convert 32 32 (.slice (some ⟨w.heap.size, 0, none⟩) 1 1)).run Try.prog (w.alloc (.cells #[.int .u8 x] 5)) = .ok (.slice (some ⟨w.heap.size, 0, none⟩) 1 1) wf ∧ Below w.heap.size w wf ∧ w.heap.size < wf.heap.size ∧ wf.cell? ⟨w.heap.size, 0, none⟩ = some (.int .u8 x) := litb_gen _ _ Try.underlying32 Try.underlying5 w _
theorem BsR.single {w : World} {b hi : Nat} {x : Int} (h : w.cell? ⟨b, 0, none⟩ = some (.int .u8 x)) (hb : b < hi) (h0 : 0 ≤ x) (h1 : x ≤ 255) : BsR w 0 hi (some ⟨b, 0, none⟩) 1 [x] :=
  ⟨rfl, by intro y hy; simp at hy; omega, fun _ => ⟨b, 0, rfl, Nat.zero_le _, hb, fun j hj => by
    obtain rfl : j = 0 := by omega
    simpa [bsF] using h⟩⟩
theorem OwB.noFoot {w : World} {base n c d lb m mc : Nat} {A pA : Option Addr} {l : List Int} {D : Dk} (h : OwB w base A n c l) (hd : Dsk w d lb pA m mc D) : ∀ b, ownBlk A = some b → ¬ Foot d lb pA b := by
  intro b hb hf
  rcases hf with rfl | rfl | hf
  · exact hd.at_.ne_own h.2.2 (by decide) hb
  · exact hd.row.ne_own h.2.2 (by decide) hb
  · rcases Go.Proofs.Ytggeepihkeocmaa.ne_ty h.2.2 hd.way (by decide) with h1 | h1
    · rw [h1] at hb; cases hb
    · exact h1 (hb.trans hf.symm)
theorem OwB.mod {w w' : World} {base n c : Nat} {A : Option Addr} {l : List Int} {S : Nat → Prop} (h : OwB w base A n c l) (hm : Mod S w w') (hs : ∀ b, ownBlk A = some b → ¬ S b) : OwB w' base A n c l :=
  ⟨h.1, h.2.1, owns_heap h.2.2 (fun b hb => by
    rw [ownBlk_eq] at hb
    exact hm.block b (h.lt b hb).2 (hs b hb))⟩
/-- A disk of which all lies from base on. -/
structure DskB (w : World) (base d lb : Nat) (pA : Option Addr) (m mc : Nat) (D : Dk) : Prop where
  k : Dsk w d lb pA m mc D
  hd : base ≤ d
  hl : base ≤ lb
  hp : ∀ b, ownBlk pA = some b → base ≤ b
theorem DskB.foot {w : World} {base d lb m mc : Nat} {pA : Option Addr} {D : Dk} (h : DskB w base d lb pA m mc D) : ∀ k, Foot d lb pA k → base ≤ k := fun k hk => by
  rcases hk with rfl | rfl | hk
  · exact h.hd
  · exact h.hl
  · exact h.hp k hk
theorem DskB.footL {w : World} {base d lb m mc : Nat} {pA : Option Addr} {D : Dk} (h : DskB w base d lb pA m mc D) : ∀ k, FootL d lb k → base ≤ k := fun k hk => by
  rcases hk with rfl | rfl
  · exact h.hd
  · exact h.hl
theorem DskB.later {w w' : World} {base d lb m mc : Nat} {pA : Option Addr} {D : Dk} (h : DskB w base d lb pA m mc D) (hb : Below w.heap.size w w') : DskB w' base d lb pA m mc D := ⟨h.k.later hb, h.hd, h.hl, h.hp⟩
theorem DskB.lts {w : World} {base d lb m mc : Nat} {pA : Option Addr} {D : Dk} (h : DskB w base d lb pA m mc D) : d < w.heap.size ∧ lb < w.heap.size ∧ ∀ b, ownBlk pA = some b → b < w.heap.size :=
  ⟨h.k.at_.lt, h.k.row.lt, fun b hb => (h.k.way.lt b (by rw [ownBlk_eq]; exact hb)).2⟩
/-- Write of a row of bytes that the caller owns. -/
theorem wri_own {base b0 d lb m mc c pb : Nat} {pA : Option Addr} {D : Dk} {p : List Int} (i : Nat) (w : World) (h : DskB w base d lb pA m mc D) (hi : i < D.l.length) (hoff : D.off = false) (h9 : D.ops < 1000000000) (hm9 : m < 1000000000) (hp : OwB w b0 (some ⟨pb, 0, none⟩) 512 c p) (hbw : base ≤ w.heap.size) :
    Calls Try.prog 49 #[.pointer (some ⟨d, 0, none⟩), .int .i64 i, .slice (some ⟨pb, 0, none⟩) 512 c] w fun e w' => e = .returned (.int .i64 (wrE D)) ∧ (∃ pA' mc', DskB w' base d lb pA' (m + 1) mc' (wrD D i p)) ∧ Below base w w' ∧ OwB w' b0 (some ⟨pb, 0, none⟩) 512 c p ∧ Mod (Foot d lb pA) w w' := by
  have hnf := hp.noFoot h.k pb rfl
  have hcap : 512 ≤ c := by
    obtain ⟨cur, -, -, hc, -⟩ := hp.at_
    exact hc
  refine (wri_calls i w h.k hi hoff h9 hm9 (hp.reads.less (Nat.zero_le _)) ⟨fun e => hnf (.inl e), fun e => hnf (.inr (.inr e))⟩ hcap).mono ?_
  rintro e w' ⟨he, ⟨pA', mc', hd, hpa⟩, hm⟩
  exact ⟨he, ⟨pA', mc', hd, h.hd, h.hl, fun b hb => by
    rcases hpa b hb with h1 | h1
    · exact h.hp b h1
    · omega⟩, hm.below hbw h.foot, hp.mod hm (hp.noFoot h.k), hm⟩
def newD (n : Nat) : Dk := ⟨List.replicate n zeroS, [], 0, false, 0⟩
theorem fullL_at (x : Int) : (fullL [x]).getD 0 0 = x := rfl
theorem SecB.first {w : World} {b : Nat} {s : List Int} (h : SecB w b s) : w.cell? ⟨b, 0, none⟩ = some (.int .u8 (s.getD 0 0)) := by
  have h1 := h.range 0 (.int .u8 (s.getD 0 0)) (map_at (by rw [h.2.1]; omega))
  simpa using h1
set_option maxRecDepth 100000 in
set_option maxHeartbeats 1000000 in
theorem dawake_calls (w : World) : Calls Try.prog 46 #[] w fun e w' => e = .returned (.bool true) ∧ Below w.heap.size w w' := by
  go_enter Try.func46, Try.ntmps46
  go_wp2_with fail
  refine (new_calls 2 (by omega) (by omega) w).mono ?_
  rintro e w1 ⟨d, lb, rfl, hd0, hb1, hdd, hlb⟩
  have hD0 : DskB w1 w.heap.size d lb none 0 0 (newD 2) := ⟨hd0, hdd, hlb, fun b hb => by cases hb⟩
  clear hd0
  obtain ⟨f1, e1, b1, l1, x1⟩ := litb_at w1 97
  go_wp2_with fail
  refine (full_calls 1 f1 (BsR.single x1 l1 (by omega) (by omega)) (Nat.le_refl _)).mono ?_
  rintro e w2 ⟨p1, rfl, hp1, hb2, hpl1⟩
  have hD1 := (hD0.later b1).later hb2
  have hB2 := below_keep hb2 (below_keep b1 hb1)
  clear e1 x1
  go_wp2_with fail
  refine (wri_own 0 w2 hD1 (by show 0 < 2; omega) rfl (by show (0 : Int) < 1000000000; omega) (by omega) hp1 hB2.size).mono ?_
  rintro e w3 ⟨rfl, ⟨pA3, mc3, hD3⟩, hb3, hp1', -⟩
  rw [show wrE (newD 2) = 0 from rfl]
  have hB3 := below_tr hB2 hb3
  clear hp1' hp1
  obtain ⟨f4, e4, b4, l4, x4⟩ := litb_at w3 98
  go_wp2_with fail
  refine (full_calls 1 f4 (BsR.single x4 l4 (by omega) (by omega)) (Nat.le_refl _)).mono ?_
  rintro e w5 ⟨p5, rfl, hp5, hb5, hpl5⟩
  have hD5 := (hD3.later b4).later hb5
  have hB5 := below_keep hb5 (below_keep b4 hB3)
  clear e4 x4
  go_wp2_with fail
  refine (wri_own 0 w5 hD5 (by show 0 < 2; omega) rfl (by show (1 : Int) < 1000000000; omega) (by omega) hp5 hB5.size).mono ?_
  rintro e w6 ⟨rfl, ⟨pA6, mc6, hD6⟩, hb6, -, -⟩
  rw [show wrE (wrD (newD 2) 0 (fullL [97])) = 0 from rfl]
  have hB6 := below_tr hB5 hb6
  go_wp2_with fail
  have kk := At.new w6 #[.bool true, .bool false] 4
  have hD7 := hD6.later (below_new w6 (.cells #[.bool true, .bool false] 4))
  have hB7 := below_keep (below_new w6 (.cells #[.bool true, .bool false] 4)) hB6
  have hl6 := hD6.lts
  generalize hw7 : (w6.alloc (.cells #[.bool true, .bool false] 4)) = w7 at *
  have hkl := kk.lt
  refine (rest_calls (n := 2) (kl := [true, false]) w7 hD7.k ⟨rfl, fun _ => ⟨w6.heap.size, 0, rfl, Nat.zero_le _, hkl, fun j hj => ?_⟩⟩ (fun _ b hb => ?_)).mono ?_
  · rw [Nat.zero_add, kk.c]
    rcases Nat.lt_or_ge j 1 with h0 | h0
    · obtain rfl : j = 0 := by omega
      rfl
    · obtain rfl : j = 1 := by omega
      rfl
  · injection hb with hb
    simp at hb
    omega
  rintro e w8 ⟨rfl, hd8, hm8⟩
  have hB8 := below_tr hB7 (hm8.below hB7.size hD7.footL)
  clear hkl hl6 kk
  go_wp2_with fail
  refine (read_calls 0 w8 hd8 (by show 0 < List.length (List.set _ _ _); rw [List.length_set]; show 0 < 2; omega) rfl).mono ?_
  rintro e w9 ⟨b9, rfl, hs9, hb9, -⟩
  have hc9 := hs9.first
  rw [show readD (restD (wrD (wrD (newD 2) 0 (fullL [97])) 0 (fullL [98])) 2 [true, false]) 0 = fullL [97] from rfl, fullL_at] at hc9
  go_wp2
  go_ret
  exact ⟨by first | rfl | simp, below_keep hb9 hB8⟩
end Go.Proofs.Ytggeepihkeocmaa
/- The disk under the log, its blocks as one set; Write and Sync whether the power is on or not. -/
namespace Go.Proofs.Ytggeepihkeocmaa
set_option linter.unusedVariables false
set_option linter.unusedSimpArgs false
open Go.RowKit
def wr1 (D : Dk) (i : Nat) (p : List Int) : Dk := if D.off = true then D else wrD D i p
def wr1E (D : Dk) : Int := if D.off = true then 8 else wrE D
def sy1 (D : Dk) : Dk := if D.off = true then D else if (opD D).off = true then opD D else syncD D
def sy1E (D : Dk) : Int := if D.off = true then 8 else if (opD D).off = true then 8 else 0
/-- The set of blocks grew by new ones alone. -/
def Grew (S S' : Nat → Prop) (n : Nat) : Prop := ∀ k, S' k → S k ∨ n ≤ k
theorem Grew.refl (S : Nat → Prop) (n : Nat) : Grew S S n := fun _ h => .inl h
theorem Grew.trans {S T U : Nat → Prop} {n m : Nat} (h : Grew S T n) (k : Grew T U m) (hnm : n ≤ m) : Grew S U n := fun i hi => by
  rcases k i hi with h1 | h1
  · exact h i h1
  · exact .inr (Nat.le_trans hnm h1)
def DD (w : World) (base d lb : Nat) (F : Nat → Prop) (D : Dk) : Prop := ∃ pA mc, DskB w base d lb pA D.way.length mc D ∧ ∀ k, F k ↔ Foot d lb pA k
theorem DD.of {w : World} {base d lb m mc : Nat} {pA : Option Addr} {D : Dk} (h : DskB w base d lb pA m mc D) : DD w base d lb (Foot d lb pA) D := by
  have := h.k.wl
  subst this
  exact ⟨pA, mc, h, fun _ => Iff.rfl⟩
theorem DD.later {w w' : World} {base d lb : Nat} {F : Nat → Prop} {D : Dk} (h : DD w base d lb F D) (hb : Below w.heap.size w w') : DD w' base d lb F D := by
  obtain ⟨pA, mc, h1, h2⟩ := h
  exact ⟨pA, mc, h1.later hb, h2⟩
theorem DD.mod {w w' : World} {base d lb : Nat} {F S : Nat → Prop} {D : Dk} (h : DD w base d lb F D) (hm : Mod S w w') (hd : ∀ k, F k → ¬ S k) : DD w' base d lb F D := by
  obtain ⟨pA, mc, h1, h2⟩ := h
  exact ⟨pA, mc, ⟨h1.k.mod hm (hd _ ((h2 _).2 (.inl rfl))) (hd _ ((h2 _).2 (.inr (.inl rfl)))) (fun k hk => hd _ ((h2 _).2 (.inr (.inr hk)))), h1.hd, h1.hl, h1.hp⟩, h2⟩
theorem DD.ok {w : World} {base d lb : Nat} {F : Nat → Prop} {D : Dk} (h : DD w base d lb F D) : DkOk D := by
  obtain ⟨pA, mc, h1, h2⟩ := h
  exact h1.k.ok
theorem DD.lts {w : World} {base d lb : Nat} {F : Nat → Prop} {D : Dk} (h : DD w base d lb F D) : ∀ k, F k → base ≤ k ∧ k < w.heap.size := by
  obtain ⟨pA, mc, h1, h2⟩ := h
  intro k hk
  have hk := (h2 k).1 hk
  have hl := h1.lts
  refine ⟨h1.foot k hk, ?_⟩
  rcases hk with rfl | rfl | hk
  · exact hl.1
  · exact hl.2.1
  · exact hl.2.2 k hk
theorem DD.d {w : World} {base d lb : Nat} {F : Nat → Prop} {D : Dk} (h : DD w base d lb F D) : F d := by
  obtain ⟨pA, mc, h1, h2⟩ := h
  exact (h2 d).2 (.inl rfl)
theorem DD.noB {w : World} {base b0 d lb n c : Nat} {F : Nat → Prop} {D : Dk} {A : Option Addr} {l : List Int} (h : DD w base d lb F D) (ho : OwB w b0 A n c l) : ∀ b, ownBlk A = some b → ¬ F b := by
  obtain ⟨pA, mc, h1, h2⟩ := h
  exact fun b hb hf => ho.noFoot h1.k b hb ((h2 b).1 hf)
theorem DD.noT {w : World} {base d lb g T : Nat} {F : Nat → Prop} {D : Dk} {cs : Array Value} (h : DD w base d lb F D) (ha : At w g cs T) (h1 : T ≠ 124) (h2 : T ≠ 126) (h3 : T ≠ 128) : ¬ F g := by
  obtain ⟨pA, mc, hk, hF⟩ := h
  intro hf
  rcases (hF g).1 hf with rfl | rfl | hf
  · exact h1 (ha.inj hk.k.at_)
  · exact h2 (ha.inj hk.k.row)
  · exact ha.ne_own hk.k.way h3 hf
theorem OwB.some8 {w : World} {base n c : Nat} {A : Option Addr} {l : List Int} (h : OwB w base A n c l) (hn : 0 < n) : ∃ g, A = some ⟨g, 0, none⟩ := by
  rcases h.2.2.2 with ⟨hv, h0⟩ | ⟨g, cap, cur, hv, _⟩
  · omega
  · injection hv with h1
    exact ⟨g, h1⟩
theorem wr_dd {base b0 d lb c : Nat} {F : Nat → Prop} {A : Option Addr} {D : Dk} {p : List Int} (i : Nat) (w : World) (h : DD w base d lb F D) (hi : i < D.l.length) (h9 : D.ops < 1000000000) (hm9 : D.way.length < 1000000000) (hp : OwB w b0 A 512 c p) :
    Calls Try.prog 49 #[.pointer (some ⟨d, 0, none⟩), .int .i64 i, .slice A 512 c] w fun e w' => e = .returned (.int .i64 (wr1E D)) ∧ (∃ F', DD w' base d lb F' (wr1 D i p) ∧ Grew F F' w.heap.size) ∧ Mod F w w' := by
  obtain ⟨pA, mc, h1, h2⟩ := h
  rcases Bool.eq_false_or_eq_true D.off with hoff | hoff
  · refine (wri_off i w h1.k (by omega) hoff).mono ?_
    rintro e w' ⟨rfl, rfl⟩
    have e1 : wr1E D = 8 := if_pos hoff
    have e2 : wr1 D i p = D := if_pos hoff
    rw [e1, e2]
    exact ⟨rfl, ⟨F, ⟨pA, mc, h1, h2⟩, Grew.refl _ _⟩, Mod.refl _ _⟩
  · obtain ⟨pb, rfl⟩ := hp.some8 (by omega)
    have hnf := hp.noFoot h1.k pb rfl
    have hcap : 512 ≤ c := by
      obtain ⟨cur, -, -, hc, -⟩ := hp.at_
      exact hc
    refine (wri_calls i w h1.k hi hoff h9 hm9 (hp.reads.less (Nat.zero_le _)) ⟨fun e => hnf (.inl e), fun e => hnf (.inr (.inr e))⟩ hcap).mono ?_
    rintro e w' ⟨rfl, ⟨pA', mc', hd, hpa⟩, hm⟩
    have e1 : wr1E D = wrE D := if_neg (by rw [hoff]; decide)
    have e2 : wr1 D i p = wrD D i p := if_neg (by rw [hoff]; decide)
    rw [e1, e2]
    have hln : (wrD D i p).way.length = D.way.length + 1 := by show (D.way ++ [(i, p)]).length = _; simp
    have hsz := (h1.lts)
    have hbw : base ≤ w.heap.size := by have := h1.hd; omega
    refine ⟨rfl, ⟨Foot d lb pA', ⟨pA', mc', ⟨by rw [hln]; exact hd, h1.hd, h1.hl, fun b hb => ?_⟩, fun _ => Iff.rfl⟩, ?_⟩, hm.mono (fun k hk => (h2 k).2 hk)⟩
    · rcases hpa b hb with h3 | h3
      · exact h1.hp b h3
      · omega
    · intro k hk
      rcases hk with rfl | rfl | hk
      · exact .inl ((h2 _).2 (.inl rfl))
      · exact .inl ((h2 _).2 (.inr (.inl rfl)))
      · rcases hpa k hk with h3 | h3
        · exact .inl ((h2 _).2 (.inr (.inr h3)))
        · exact .inr h3
theorem sy_dd {base d lb : Nat} {F : Nat → Prop} {D : Dk} (w : World) (h : DD w base d lb F D) (h9 : D.ops < 1000000000) :
    Calls Try.prog 50 #[.pointer (some ⟨d, 0, none⟩)] w fun e w' => e = .returned (.int .i64 (sy1E D)) ∧ (∃ F', DD w' base d lb F' (sy1 D) ∧ Grew F F' w.heap.size) ∧ Mod F w w' := by
  obtain ⟨pA, mc, h1, h2⟩ := h
  have hFL : ∀ k, FootL d lb k → F k := fun k hk => (h2 k).2 (hk.elim .inl (fun h => .inr (.inl h)))
  rcases Bool.eq_false_or_eq_true D.off with hoff | hoff
  · refine (sync_off w h1.k hoff).mono ?_
    rintro e w' ⟨rfl, rfl⟩
    have e1 : sy1E D = 8 := if_pos hoff
    have e2 : sy1 D = D := if_pos hoff
    rw [e1, e2]
    exact ⟨rfl, ⟨F, ⟨pA, mc, h1, h2⟩, Grew.refl _ _⟩, Mod.refl _ _⟩
  · have hno : ¬ (D.off = true) := by rw [hoff]; decide
    rcases Bool.eq_false_or_eq_true (opD D).off with hdie | hlive
    · refine (sync_dies w h1.k hoff h9 hdie).mono ?_
      rintro e w' ⟨rfl, hd, hm⟩
      have e1 : sy1E D = 8 := by unfold sy1E; rw [if_neg hno, if_pos hdie]
      have e2 : sy1 D = opD D := by unfold sy1; rw [if_neg hno, if_pos hdie]
      rw [e1, e2]
      exact ⟨rfl, ⟨F, ⟨pA, mc, ⟨hd, h1.hd, h1.hl, h1.hp⟩, h2⟩, Grew.refl _ _⟩, hm.mono hFL⟩
    · refine (sync_calls w h1.k hoff h9 hlive).mono ?_
      rintro e w' ⟨rfl, hd, hm⟩
      have hnl : ¬ ((opD D).off = true) := by rw [hlive]; decide
      have e1 : sy1E D = 0 := by unfold sy1E; rw [if_neg hno, if_neg hnl]
      have e2 : sy1 D = syncD D := by unfold sy1; rw [if_neg hno, if_neg hnl]
      rw [e1, e2]
      exact ⟨rfl, ⟨Foot d lb none, ⟨none, 0, ⟨hd, h1.hd, h1.hl, fun b hb => by cases hb⟩, fun _ => Iff.rfl⟩, fun k hk => by
        rcases hk with rfl | rfl | hk
        · exact .inl ((h2 _).2 (.inl rfl))
        · exact .inl ((h2 _).2 (.inr (.inl rfl)))
        · cases hk⟩, hm.mono hFL⟩
/-- A log in the heap, whatever it has so far. -/
structure LgW (w : World) (base d g : Nat) (bA : Option Addr) (bc : Nat) (L : Lg) : Prop where
  at_ : At w g #[.pointer (some ⟨d, 0, none⟩), .int .i64 L.pos, .int .i64 L.count, .int .u64 L.epoch, .int .u64 L.start, .int .u64 L.check, .int .u64 L.sure, .int .i64 L.held, .int .u64 L.base, .slice bA L.buf.length bc] 113
  hg : base ≤ g
  pos : 0 ≤ L.pos ∧ L.pos ≤ 4096
  count : 4 ≤ L.count ∧ L.count ≤ 4096
  epoch : 0 ≤ L.epoch ∧ L.epoch < 18446744073709551616
  start : 0 ≤ L.start ∧ L.start < 18446744073709551616
  check : 0 ≤ L.check ∧ L.check < 18446744073709551616
theorem LgH.w {w : World} {base d g bc : Nat} {bA : Option Addr} {L : Lg} (h : LgH w base d g bA bc L) : LgW w base d g bA bc L := by
  have h1 := h.ok.epoch
  have h2 := h.ok.start
  have h3 := h.ok.check
  have h4 := h.ok.sure
  have h5 := h.ok.base
  have h6 := h.ok.buf
  unfold endL at h4
  exact ⟨h.at_, h.hg, h.ok.pos, h.ok.count, by omega, by omega, by omega⟩
theorem LgW.later {w w' : World} {base d g bc : Nat} {bA : Option Addr} {L : Lg} (h : LgW w base d g bA bc L) (hb : Below w.heap.size w w') : LgW w' base d g bA bc L :=
  ⟨At.keep hb h.at_, h.hg, h.pos, h.count, h.epoch, h.start, h.check⟩
theorem LgW.mod {w w' : World} {base d g bc : Nat} {bA : Option Addr} {L : Lg} {S : Nat → Prop} (h : LgW w base d g bA bc L) (hm : Mod S w w') (hs : ¬ S g) : LgW w' base d g bA bc L :=
  ⟨h.at_.mod hm hs, h.hg, h.pos, h.count, h.epoch, h.start, h.check⟩
theorem LgH.mod {w w' : World} {base d g bc : Nat} {bA : Option Addr} {L : Lg} {S : Nat → Prop} (h : LgH w base d g bA bc L) (hm : Mod S w w') (hs : ¬ S g) (hb : ∀ k, ownBlk bA = some k → ¬ S k) : LgH w' base d g bA bc L :=
  ⟨h.at_.mod hm hs, h.buf.mod hm hb, h.hg, h.ok⟩
theorem LgW.noF {w : World} {base d lb g bc : Nat} {bA : Option Addr} {L : Lg} {F : Nat → Prop} {D : Dk} (h : LgW w base d g bA bc L) (hD : DD w base d lb F D) : ¬ F g := hD.noT h.at_ (by decide) (by decide) (by decide)
end Go.Proofs.Ytggeepihkeocmaa
