/- Joined texts: LogH. -/
import Derived.Test.YtnehppeoffemlaaJLogRings06
import Derived.Test.YtnehppeoffemlaaJLogRings19
/- The disk under the log, its blocks as one set; Write and Sync whether the power is on or not. -/
namespace Go.Proofs.Ytnehppeoffemlaa
set_option linter.unusedVariables false
set_option linter.unusedSimpArgs false
open Go.RowKit
def wr1 (D : Dk) (i : Nat) (p : List Int) : Dk := if D.off = true then D else wrD D i p
def wr1E (D : Dk) : Int := if D.off = true then 8 else wrE D
def sy1 (D : Dk) : Dk := if D.off = true then D else if (opD D).off = true then opD D else syncD D
def sy1E (D : Dk) : Int := if D.off = true then 8 else if (opD D).off = true then 8 else 0
/-- The set of blocks grew by new ones alone. -/
def Grew (S S' : Nat → Prop) (n : Nat) : Prop := ∀ k, S' k → S k ∨ n ≤ k
theorem Grew.refl (S : Nat → Prop) (n : Nat) : Grew S S n := fun _ h => .inl h
theorem Grew.trans {S T U : Nat → Prop} {n m : Nat} (h : Grew S T n) (k : Grew T U m) (hnm : n ≤ m) : Grew S U n := fun i hi => by
  rcases k i hi with h1 | h1
  · exact h i h1
  · exact .inr (Nat.le_trans hnm h1)
def DD (w : World) (base d lb : Nat) (F : Nat → Prop) (D : Dk) : Prop := ∃ pA mc, DskB w base d lb pA D.way.length mc D ∧ ∀ k, F k ↔ Foot d lb pA k
theorem DD.of {w : World} {base d lb m mc : Nat} {pA : Option Addr} {D : Dk} (h : DskB w base d lb pA m mc D) : DD w base d lb (Foot d lb pA) D := by
  have := h.k.wl
  subst this
  exact ⟨pA, mc, h, fun _ => Iff.rfl⟩
theorem DD.later {w w' : World} {base d lb : Nat} {F : Nat → Prop} {D : Dk} (h : DD w base d lb F D) (hb : Below w.heap.size w w') : DD w' base d lb F D := by
  obtain ⟨pA, mc, h1, h2⟩ := h
  exact ⟨pA, mc, h1.later hb, h2⟩
theorem DD.mod {w w' : World} {base d lb : Nat} {F S : Nat → Prop} {D : Dk} (h : DD w base d lb F D) (hm : Mod S w w') (hd : ∀ k, F k → ¬ S k) : DD w' base d lb F D := by
  obtain ⟨pA, mc, h1, h2⟩ := h
  exact ⟨pA, mc, ⟨h1.k.mod hm (hd _ ((h2 _).2 (.inl rfl))) (hd _ ((h2 _).2 (.inr (.inl rfl)))) (fun k hk => hd _ ((h2 _).2 (.inr (.inr hk)))), h1.hd, h1.hl, h1.hp⟩, h2⟩
theorem DD.ok {w : World} {base d lb : Nat} {F : Nat → Prop} {D : Dk} (h : DD w base d lb F D) : DkOk D := by
  obtain ⟨pA, mc, h1, h2⟩ := h
  exact h1.k.ok
theorem DD.lts {w : World} {base d lb : Nat} {F : Nat → Prop} {D : Dk} (h : DD w base d lb F D) : ∀ k, F k → base ≤ k ∧ k < w.heap.size := by
  obtain ⟨pA, mc, h1, h2⟩ := h
  intro k hk
  have hk := (h2 k).1 hk
  have hl := h1.lts
  refine ⟨h1.foot k hk, ?_⟩
  rcases hk with rfl | rfl | hk
  · exact hl.1
  · exact hl.2.1
  · exact hl.2.2 k hk
theorem DD.d {w : World} {base d lb : Nat} {F : Nat → Prop} {D : Dk} (h : DD w base d lb F D) : F d := by
  obtain ⟨pA, mc, h1, h2⟩ := h
  exact (h2 d).2 (.inl rfl)
theorem DD.noB {w : World} {base b0 d lb n c : Nat} {F : Nat → Prop} {D : Dk} {A : Option Addr} {l : List Int} (h : DD w base d lb F D) (ho : OwB w b0 A n c l) : ∀ b, ownBlk A = some b → ¬ F b := by
  obtain ⟨pA, mc, h1, h2⟩ := h
  exact fun b hb hf => ho.noFoot h1.k b hb ((h2 b).1 hf)
theorem DD.noT {w : World} {base d lb g T : Nat} {F : Nat → Prop} {D : Dk} {cs : Array Value} (h : DD w base d lb F D) (ha : At w g cs T) (h1 : T ≠ 101) (h2 : T ≠ 107) (h3 : T ≠ 109) : ¬ F g := by
  obtain ⟨pA, mc, hk, hF⟩ := h
  intro hf
  rcases (hF g).1 hf with rfl | rfl | hf
  · exact h1 (ha.inj hk.k.at_)
  · exact h2 (ha.inj hk.k.row)
  · exact ha.ne_own hk.k.way h3 hf
theorem OwB.some8 {w : World} {base n c : Nat} {A : Option Addr} {l : List Int} (h : OwB w base A n c l) (hn : 0 < n) : ∃ g, A = some ⟨g, 0, none⟩ := by
  rcases h.2.2.2 with ⟨hv, h0⟩ | ⟨g, cap, cur, hv, _⟩
  · omega
  · injection hv with h1
    exact ⟨g, h1⟩
theorem wr_dd {base b0 d lb c : Nat} {F : Nat → Prop} {A : Option Addr} {D : Dk} {p : List Int} (i : Nat) (w : World) (h : DD w base d lb F D) (hi : i < D.l.length) (h9 : D.ops < 1000000000) (hm9 : D.way.length < 1000000000) (hp : OwB w b0 A 512 c p) :
    Calls Try.prog 28 #[.pointer (some ⟨d, 0, none⟩), .int .i64 i, .slice A 512 c] w fun e w' => e = .returned (.int .i64 (wr1E D)) ∧ (∃ F', DD w' base d lb F' (wr1 D i p) ∧ Grew F F' w.heap.size) ∧ Mod F w w' := by
  obtain ⟨pA, mc, h1, h2⟩ := h
  rcases Bool.eq_false_or_eq_true D.off with hoff | hoff
  · refine (wri_off i w h1.k (by omega) hoff).mono ?_
    rintro e w' ⟨rfl, rfl⟩
    have e1 : wr1E D = 8 := if_pos hoff
    have e2 : wr1 D i p = D := if_pos hoff
    rw [e1, e2]
    exact ⟨rfl, ⟨F, ⟨pA, mc, h1, h2⟩, Grew.refl _ _⟩, Mod.refl _ _⟩
  · obtain ⟨pb, rfl⟩ := hp.some8 (by omega)
    have hnf := hp.noFoot h1.k pb rfl
    have hcap : 512 ≤ c := by
      obtain ⟨cur, -, -, hc, -⟩ := hp.at_
      exact hc
    refine (wri_calls i w h1.k hi hoff h9 hm9 (hp.reads.less (Nat.zero_le _)) ⟨fun e => hnf (.inl e), fun e => hnf (.inr (.inr e))⟩ hcap).mono ?_
    rintro e w' ⟨rfl, ⟨pA', mc', hd, hpa⟩, hm⟩
    have e1 : wr1E D = wrE D := if_neg (by rw [hoff]; decide)
    have e2 : wr1 D i p = wrD D i p := if_neg (by rw [hoff]; decide)
    rw [e1, e2]
    have hln : (wrD D i p).way.length = D.way.length + 1 := by show (D.way ++ [(i, p)]).length = _; simp
    have hsz := (h1.lts)
    have hbw : base ≤ w.heap.size := by have := h1.hd; omega
    refine ⟨rfl, ⟨Foot d lb pA', ⟨pA', mc', ⟨by rw [hln]; exact hd, h1.hd, h1.hl, fun b hb => ?_⟩, fun _ => Iff.rfl⟩, ?_⟩, hm.mono (fun k hk => (h2 k).2 hk)⟩
    · rcases hpa b hb with h3 | h3
      · exact h1.hp b h3
      · omega
    · intro k hk
      rcases hk with rfl | rfl | hk
      · exact .inl ((h2 _).2 (.inl rfl))
      · exact .inl ((h2 _).2 (.inr (.inl rfl)))
      · rcases hpa k hk with h3 | h3
        · exact .inl ((h2 _).2 (.inr (.inr h3)))
        · exact .inr h3
theorem sy_dd {base d lb : Nat} {F : Nat → Prop} {D : Dk} (w : World) (h : DD w base d lb F D) (h9 : D.ops < 1000000000) :
    Calls Try.prog 51 #[.pointer (some ⟨d, 0, none⟩)] w fun e w' => e = .returned (.int .i64 (sy1E D)) ∧ (∃ F', DD w' base d lb F' (sy1 D) ∧ Grew F F' w.heap.size) ∧ Mod F w w' := by
  obtain ⟨pA, mc, h1, h2⟩ := h
  have hFL : ∀ k, FootL d lb k → F k := fun k hk => (h2 k).2 (hk.elim .inl (fun h => .inr (.inl h)))
  rcases Bool.eq_false_or_eq_true D.off with hoff | hoff
  · refine (sync_off w h1.k hoff).mono ?_
    rintro e w' ⟨rfl, rfl⟩
    have e1 : sy1E D = 8 := if_pos hoff
    have e2 : sy1 D = D := if_pos hoff
    rw [e1, e2]
    exact ⟨rfl, ⟨F, ⟨pA, mc, h1, h2⟩, Grew.refl _ _⟩, Mod.refl _ _⟩
  · have hno : ¬ (D.off = true) := by rw [hoff]; decide
    rcases Bool.eq_false_or_eq_true (opD D).off with hdie | hlive
    · refine (sync_dies w h1.k hoff h9 hdie).mono ?_
      rintro e w' ⟨rfl, hd, hm⟩
      have e1 : sy1E D = 8 := by unfold sy1E; rw [if_neg hno, if_pos hdie]
      have e2 : sy1 D = opD D := by unfold sy1; rw [if_neg hno, if_pos hdie]
      rw [e1, e2]
      exact ⟨rfl, ⟨F, ⟨pA, mc, ⟨hd, h1.hd, h1.hl, h1.hp⟩, h2⟩, Grew.refl _ _⟩, hm.mono hFL⟩
    · refine (sync_calls w h1.k hoff h9 hlive).mono ?_
      rintro e w' ⟨rfl, hd, hm⟩
      have hnl : ¬ ((opD D).off = true) := by rw [hlive]; decide
      have e1 : sy1E D = 0 := by unfold sy1E; rw [if_neg hno, if_neg hnl]
      have e2 : sy1 D = syncD D := by unfold sy1; rw [if_neg hno, if_neg hnl]
      rw [e1, e2]
      exact ⟨rfl, ⟨Foot d lb none, ⟨none, 0, ⟨hd, h1.hd, h1.hl, fun b hb => by cases hb⟩, fun _ => Iff.rfl⟩, fun k hk => by
        rcases hk with rfl | rfl | hk
        · exact .inl ((h2 _).2 (.inl rfl))
        · exact .inl ((h2 _).2 (.inr (.inl rfl)))
        · cases hk⟩, hm.mono hFL⟩
/-- A log in the heap, whatever it has so far. -/
structure LgW (w : World) (base d g : Nat) (bA : Option Addr) (bc : Nat) (L : Lg) : Prop where
  at_ : At w g #[.pointer (some ⟨d, 0, none⟩), .int .i64 L.pos, .int .i64 L.count, .int .u64 L.epoch, .int .u64 L.start, .int .u64 L.check, .int .u64 L.sure, .int .i64 L.held, .int .u64 L.base, .slice bA L.buf.length bc] 95
  hg : base ≤ g
  pos : 0 ≤ L.pos ∧ L.pos ≤ 4096
  count : 4 ≤ L.count ∧ L.count ≤ 4096
  epoch : 0 ≤ L.epoch ∧ L.epoch < 18446744073709551616
  start : 0 ≤ L.start ∧ L.start < 18446744073709551616
  check : 0 ≤ L.check ∧ L.check < 18446744073709551616
theorem LgH.w {w : World} {base d g bc : Nat} {bA : Option Addr} {L : Lg} (h : LgH w base d g bA bc L) : LgW w base d g bA bc L := by
  have h1 := h.ok.epoch
  have h2 := h.ok.start
  have h3 := h.ok.check
  have h4 := h.ok.sure
  have h5 := h.ok.base
  have h6 := h.ok.buf
  unfold endL at h4
  exact ⟨h.at_, h.hg, h.ok.pos, h.ok.count, by omega, by omega, by omega⟩
theorem LgW.later {w w' : World} {base d g bc : Nat} {bA : Option Addr} {L : Lg} (h : LgW w base d g bA bc L) (hb : Below w.heap.size w w') : LgW w' base d g bA bc L :=
  ⟨At.keep hb h.at_, h.hg, h.pos, h.count, h.epoch, h.start, h.check⟩
theorem LgW.mod {w w' : World} {base d g bc : Nat} {bA : Option Addr} {L : Lg} {S : Nat → Prop} (h : LgW w base d g bA bc L) (hm : Mod S w w') (hs : ¬ S g) : LgW w' base d g bA bc L :=
  ⟨h.at_.mod hm hs, h.hg, h.pos, h.count, h.epoch, h.start, h.check⟩
theorem LgH.mod {w w' : World} {base d g bc : Nat} {bA : Option Addr} {L : Lg} {S : Nat → Prop} (h : LgH w base d g bA bc L) (hm : Mod S w w') (hs : ¬ S g) (hb : ∀ k, ownBlk bA = some k → ¬ S k) : LgH w' base d g bA bc L :=
  ⟨h.at_.mod hm hs, h.buf.mod hm hb, h.hg, h.ok⟩
theorem LgW.noF {w : World} {base d lb g bc : Nat} {bA : Option Addr} {L : Lg} {F : Nat → Prop} {D : Dk} (h : LgW w base d g bA bc L) (hD : DD w base d lb F D) : ¬ F g := hD.noT h.at_ (by decide) (by decide) (by decide)
end Go.Proofs.Ytnehppeoffemlaa
