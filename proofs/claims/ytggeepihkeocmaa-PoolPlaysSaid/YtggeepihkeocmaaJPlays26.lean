/- Joined texts: PlM, PlN, PlO, PlP. -/
import Derived.Test.YtggeepihkeocmaaJPlays25
import Derived.Test.YtggeepihkeocmaaJPlays09
/- The pool's Unpin and New by their contracts. -/
namespace Go.Proofs.Ytggeepihkeocmaa
set_option linter.unusedVariables false
set_option linter.unusedSimpArgs false
open Go.RowKit Go.Maps
def unE (s : St) (i : Int) : Int := if i < 0 ∨ s.P.pages ≤ i then 1 else match s.P.fr i with | none => 10 | some f => if f.pins = 0 then 10 else 0
def unS (s : St) (i : Int) : St := match s.P.fr i with | none => s | some f => if unE s i = 0 then ⟨setFr s.P i (pinF f (-1)), s.D, s.L⟩ else s
set_option maxRecDepth 100000 in
set_option maxHeartbeats 4000000 in
theorem unpin_calls {base d lb g pp bc : Nat} {F : Nat → Prop} {bA : Option Addr} {o : Lo} {s : St} (i : Int) (f : Fr) (w : World) (h : PWo w base d lb g pp F bA bc o s) (hf : s.P.fr i = some f) (hp : 0 < f.pins) :
    Calls Try.prog 18 #[.pointer (some ⟨pp, 0, none⟩), .int .i64 i] w fun e w' => e = .returned (.int .i64 0) ∧ POn w w' base d lb g pp (FTo g pp F bA o s.P) o ⟨setFr s.P i (pinF f (-1)), s.D, s.L⟩ := by
  obtain ⟨hfk, hi0, hi1⟩ := h.ok.fr i f hf
  have hpins := hfk.pins
  have k0 := h.p.at_
  have q0 := (h.p.frs i f hf).1
  have l0 : (Instr.lookup 108 (.map (some o.fb)) (.int .i64 i) false).run Try.prog w = .ok (.pointer (some ⟨o.blk i, 0, none⟩)) w := lookF h hf 0
  have o1 : decide (i < 0) = false := by simp; omega
  have o2 : decide (s.P.pages ≤ i) = false := by simp; omega
  have o3 : decide (f.pins = 0) = false := by simp; omega
  have o4 : (f.pins == 0) = false := by simp; omega
  have o5 : IntKind.i64.wrap (f.pins - 1) = f.pins - 1 := IntWalk.i64_in _ (by omega)
  have hhx := Lib.hid h
  have hfx := Lib.hid hf
  have hfkx := Lib.hid hfk
  have hpx := Lib.hid hp
  clear h hf hfk hp
  have k0c := k0.c; have k0f := k0.f; have k0l := k0.lt
  have q0c := q0.c; have q0f := q0.f; have q0l := q0.lt
  go_enter Try.func18, Try.ntmps18
  go_wp2
  go_ret
  have q2 := At.set (o := 3) (v := .int .i64 (f.pins - 1)) q0
  simp only [List.setIfInBounds_toArray, List.set_cons_zero, List.set_cons_succ] at q2
  have m2 := (Mod.refl (fun k => k = o.blk i) w).set (k := o.blk i) (.inl rfl) (o := 3) (.int .i64 (f.pins - 1))
  obtain ⟨h2, hg2⟩ := hhx.out.frT (f' := pinF f (-1)) hfx.out m2 rfl (fun h => h) ⟨hfkx.out.len, hfkx.out.byt, hfkx.out.since, ⟨by show 0 ≤ f.pins + (-1); have := hpx.out; omega, by show f.pins + (-1) ≤ _; omega⟩, hfkx.out.used⟩ q2
  exact ⟨by first | rfl | simp, POn.mk h2 hg2 (m2.mono (fun k hk => hk ▸ .inr (.inr (.inr (.inr (.inr ⟨i, f, hfx.out, .inl rfl⟩))))))⟩
theorem len_dd {base d lb : Nat} {F : Nat → Prop} {D : Dk} (w : World) (h : DD w base d lb F D) : Calls Try.prog 57 #[.pointer (some ⟨d, 0, none⟩)] w fun e w' => e = .returned (.int .i64 D.l.length) ∧ w = w' := by
  obtain ⟨pA, mc, h1, -⟩ := h
  exact len_calls w h1.k
def newP (a pages most : Int) : Pl := ⟨a, pages, most, 0, fun _ => none, [], fun _ => none, []⟩
set_option maxRecDepth 100000 in
set_option maxHeartbeats 4000000 in
theorem pnew_calls {base d lb g bc : Nat} {F : Nat → Prop} {bA : Option Addr} {D : Dk} {L : Lg} (a pages most : Int) (w : World) (hD : DD w base d lb F D) (hL : LgH w base d g bA bc L) (ha : 0 ≤ a) (hp : 1 ≤ pages ∧ pages ≤ 4096) (hf : a + pages ≤ D.l.length) (hm : 1 ≤ most ∧ most ≤ 64) :
    Calls Try.prog 27 #[.pointer (some ⟨d, 0, none⟩), .pointer (some ⟨g, 0, none⟩), .int .i64 a, .int .i64 pages, .int .i64 most] w fun e w' => ∃ pp o, e = .returned (.tuple #[.pointer (some ⟨pp, 0, none⟩), .int .i64 0]) ∧ PWo w' base d lb g pp F bA bc o ⟨newP a pages most, D, L⟩ ∧ Below w.heap.size w w' ∧ w.heap.size ≤ pp := by
  have hmm := @run_makeMap Try.prog
  have hbw : base ≤ w.heap.size := by have := hD.lts d hD.d; omega
  have hn := hD.ok.len
  have o1 : decide (a < 0) = false := by simp; omega
  have o2 : decide (pages < 1) = false := by simp; omega
  have o3 : decide (pages > 4096) = false := by simp; omega
  have o4 : decide (most < 1) = false := by simp; omega
  have o5 : decide (most > 64) = false := by simp; omega
  have p1 : ¬ (a < 0) := by omega
  have p2 : ¬ (pages < 1) := by omega
  have p3 : ¬ (4096 < pages) := by omega
  have p4 : ¬ (most < 1) := by omega
  have p5 : ¬ (64 < most) := by omega
  obtain ⟨n, hnl⟩ : ∃ n : Nat, D.l.length = n := ⟨_, rfl⟩
  have hnx := Lib.hid hnl
  rw [hnl] at hn
  have hf2 : a + pages ≤ (n : Int) := by rw [← hnl]; exact hf
  have o6 : IntKind.i64.wrap ((n : Int) - pages) = n - pages := IntWalk.i64_in _ (by omega)
  have p6 : ¬ ((n : Int) - pages < a) := by omega
  have hf2x := Lib.hid hf2
  have hDx := Lib.hid hD
  have hLx := Lib.hid hL
  have hax := Lib.hid ha
  have hpx := Lib.hid hp
  have hmx := Lib.hid hm
  clear hD hL ha hp hm hf hnl hf2
  go_enter Try.func27, Try.ntmps27
  go_wp2_with fail
  refine (len_dd w hDx.out).mono ?_
  rw [hnx.out]
  rintro e w1 ⟨rfl, rfl⟩
  go_wp2
  go_ret2
  have hb1 := below_new w (.map #[] 0)
  have hb2 := below_new (w.alloc (.map #[] 0)) (.map #[] 0)
  have hb3 := below_new ((w.alloc (.map #[] 0)).alloc (.map #[] 0)) (.cells #[.pointer (some ⟨d, 0, none⟩), .pointer (some ⟨g, 0, none⟩), .int .i64 a, .int .i64 pages, .int .i64 most, .int .i64 0, .map (some w.heap.size), .map (some (w.heap.size + 1))] 111)
  have hB : Below w.heap.size w _ := below_keep hb3 (below_keep hb2 hb1)
  have hfm := (((MpR.new EF w).later hb2).later hb3)
  have hgm := ((MpR.new EG (w.alloc (.map #[] 0))).later hb3)
  have hat := At.new ((w.alloc (.map #[] 0)).alloc (.map #[] 0)) #[.pointer (some ⟨d, 0, none⟩), .pointer (some ⟨g, 0, none⟩), .int .i64 a, .int .i64 pages, .int .i64 most, .int .i64 0, .map (some w.heap.size), .map (some (w.heap.size + 1))] 111
  have e1 : (w.alloc (.map #[] 0)).heap.size = w.heap.size + 1 := by simp
  have e2 : ((w.alloc (.map #[] 0)).alloc (.map #[] 0)).heap.size = w.heap.size + 1 + 1 := by simp
  rw [e1] at hgm
  rw [e2] at hat
  have hl := hLx.out
  have hft := foot_low hl hDx.out
  refine ⟨w.heap.size + 1 + 1, ⟨w.heap.size, w.heap.size + 1, fun _ => 0, fun _ => none, fun _ => 0⟩, by first | rfl | simp, ⟨hDx.out.later hB, hl.later hB, ⟨hat, by omega, hbw, by show base ≤ w.heap.size + 1; omega, hfm, hgm, by show w.heap.size ≠ w.heap.size + 1; omega, fun k f hk => (by cases hk), fun _ _ _ _ hk => (by cases hk), fun _ _ _ _ hk => (by cases hk)⟩, ⟨hax.out, hpx.out, by rw [hnx.out]; exact hf2x.out, hmx.out, ⟨by show (0 : Int) ≤ 0; omega, by show (0 : Int) ≤ _; omega⟩, by show ((0 : Nat) : Int) ≤ most; omega, fun k f hk => (by cases hk), fun k x hk => (by cases hk)⟩, fun k hk => ?_⟩, hB, by omega⟩
  have hk : w.heap.size ≤ k := by
    rcases hk with rfl | rfl | rfl | ⟨i, f, hf, -⟩
    · omega
    · exact Nat.le_refl _
    · exact Nat.le_succ _
    · cases hf
  exact ⟨fun h => by have := (hDx.out.lts k h).2; omega, fun h => by have := (hft.1 k h).2; omega⟩
end Go.Proofs.Ytggeepihkeocmaa
/- The pool laws' fresh. -/
namespace Go.Proofs.Ytggeepihkeocmaa
set_option linter.unusedVariables false
set_option linter.unusedSimpArgs false
open Go.RowKit Go.Maps
def freshS (pages most : Int) : St := ⟨newP 41 pages most, opnD (41 + pages.toNat) 0 40, newL 0 40⟩
theorem fresh_inv {pages most : Int} (hp : 1 ≤ pages ∧ pages ≤ 100) : Inv (freshS pages most) := by
  have h1 : (opnD (41 + pages.toNat) 0 40).l.length = 41 + pages.toNat := opnD_len (by omega) (by omega) (by omega)
  refine ⟨newL_I (by omega) (by omega) (by omega) (by omega), opnD_qt (by omega) (by omega) (by omega), ?_, by show (480 : Int) + 0 ≤ _; omega, ?_, ?_⟩
  · show (0 : Int) + 1 + 40 ≤ ((opnD (41 + pages.toNat) 0 40).l.length : Int)
    rw [h1]; omega
  · show (opnD (41 + pages.toNat) 0 40).ops ≤ _
    rw [opnD_ops (by omega) (by omega) (by omega)]; omega
  · show (opnD (41 + pages.toNat) 0 40).way.length ≤ _
    rw [opnD_way (by omega) (by omega) (by omega)]; simp
set_option maxRecDepth 100000 in
set_option maxHeartbeats 4000000 in
theorem pfresh_calls (pages most : Int) (w : World) (hp : 1 ≤ pages ∧ pages ≤ 100) (hm : 1 ≤ most ∧ most ≤ 64) :
    Calls Try.prog 15 #[.int .i64 pages, .int .i64 most] w fun e w' => ∃ x d lb g pp F bA bc o, e = .returned (.pointer (some ⟨x, 0, none⟩)) ∧ At w' x #[.pointer (some ⟨d, 0, none⟩), .pointer (some ⟨g, 0, none⟩), .pointer (some ⟨pp, 0, none⟩)] 30 ∧ PWo w' w.heap.size d lb g pp F bA bc o (freshS pages most) ∧ ¬ FTo g pp F bA o (freshS pages most).P x ∧ w.heap.size ≤ x ∧ Below w.heap.size w w' := by
  obtain ⟨n, hn⟩ : ∃ n, 41 + pages.toNat = n := ⟨_, rfl⟩
  have hn2 : (n : Int) = 41 + pages := by omega
  have hw : IntKind.i64.wrap (41 + pages) = (n : Int) := by rw [hn2]; exact IntWalk.i64_in _ (by omega)
  have hlk : llookE (newD n) 0 40 = 0 := by
    unfold llookE
    refine if_neg ?_
    have : (newD n).l.length = n := List.length_replicate
    rw [this]
    omega
  have hmk : mkD (newD n) 0 (masterL (fmtL 0 40)) = fmD n 0 40 := rfl
  have hmE : mkE (newD n) 0 (masterL (fmtL 0 40)) = 0 := (newD_qt n).mkE _ _
  have hmkx := Lib.hid hmk
  have hmEx := Lib.hid hmE
  have hnx := Lib.hid hn
  have hn2x := Lib.hid hn2
  have hpx := Lib.hid hp
  have hmx := Lib.hid hm
  clear hmk hmE hn hn2 hp hm
  go_enter Try.func15, Try.ntmps15
  go_wp2_with fail
  refine (new_calls n (by have := hn2x.out; have := hpx.out; omega) (by have := hn2x.out; have := hpx.out; omega) w).mono ?_
  rintro e w1 ⟨d, lb, rfl, hd0, hb1, hdd, hlb⟩
  have hD1 : DD w1 w.heap.size d lb (Foot d lb none) (newD n) := DD.of ⟨hd0, hdd, hlb, fun b hb => by cases hb⟩
  clear hd0
  go_wp2_with fail
  refine (lformat_ok 0 40 0 w1 hD1 hlk rfl (by show (0 : Int) + 1 < _; omega) (by show 0 < _; omega)).mono ?_
  rw [hmkx.out, hmEx.out]
  rintro e w2 ⟨rfl, ⟨F2, hD2, hg2⟩, hm2⟩
  have hB2 : Below w.heap.size w w2 := below_tr hb1 (hm2.below hb1.size (fun k hk => (hD1.lts k hk).1))
  go_wp2_with fail
  refine (lopen_fm 0 40 0 w2 hD2 rfl (by omega) (by omega) (by have := hn2x.out; have := hpx.out; omega) (by have := hn2x.out; have := hpx.out; omega)).mono ?_
  rintro e w3 ⟨F3, g, bA, bc, rfl, hD3, hg3, hm3, hgw, hL3, -⟩
  have hB3 : Below w.heap.size w w3 := below_tr hB2 (hm3.below hB2.size (fun k hk => (hD2.lts k hk).1))
  have hlen3 : (opnD n 0 40).l.length = n := opnD_len (by omega) (by omega) (by have := hn2x.out; have := hpx.out; omega)
  have hlen3x := Lib.hid hlen3
  clear hlen3
  go_wp2_with fail
  refine (pnew_calls 41 pages most w3 hD3 hL3 (by omega) (by have := hpx.out; omega) (by rw [hlen3x.out]; have := hn2x.out; omega) hmx.out).mono ?_
  rintro e w4 ⟨pp, o, rfl, hP, hb4, hpp⟩
  have hB4 : Below w.heap.size w w4 := below_keep hb4 hB3
  have hPx := Lib.hid hP
  clear hP
  go_wp2
  go_ret
  have hb5 := below_new w4 (.cells #[.pointer (some ⟨d, 0, none⟩), .pointer (some ⟨g, 0, none⟩), .pointer (some ⟨pp, 0, none⟩)] 30)
  have hS : freshS pages most = ⟨newP 41 pages most, opnD n 0 40, newL 0 40⟩ := by unfold freshS; rw [hnx.out]
  rw [hS]
  exact ⟨w4.heap.size, d, lb, g, pp, F3, bA, bc, o, by first | rfl | simp, At.new w4 _ _, hPx.out.later hb5, fun h => by have := (hPx.out.lts _ h).2; omega, hB4.size, below_keep hb5 hB4⟩
end Go.Proofs.Ytggeepihkeocmaa
/- The pool laws' awake (plain). -/
namespace Go.Proofs.Ytggeepihkeocmaa
set_option linter.unusedVariables false
set_option linter.unusedSimpArgs false
open Go.RowKit Go.Maps
theorem getS_new {s : St} {i : Int} (h0 : ¬ (i < 0 ∨ s.P.pages ≤ i)) (hf : s.P.fr i = none) (hl : (s.P.ks.length : Int) < s.P.most) : getE s i = 0 ∧ getS s i = addFr ⟨tickP s.P, s.D, s.L⟩ i :=
  ⟨by unfold getE; rw [if_neg h0, if_neg (by rw [hf]; decide), if_pos hl], by unfold getS; rw [if_neg h0, hf]; simp only []; rw [if_pos hl]⟩
theorem getS_ev {s : St} {i : Int} (h0 : ¬ (i < 0 ∨ s.P.pages ≤ i)) (hf : s.P.fr i = none) (hl : ¬ (s.P.ks.length : Int) < s.P.most) (hE : evE ⟨tickP s.P, s.D, s.L⟩ = 0) : getE s i = 0 ∧ getS s i = addFr (evS ⟨tickP s.P, s.D, s.L⟩) i :=
  ⟨by unfold getE; rw [if_neg h0, if_neg (by rw [hf]; decide), if_neg hl, hE], by unfold getS; rw [if_neg h0, hf]; simp only []; rw [if_neg hl, if_pos hE]⟩
theorem getS_full {s : St} {i : Int} (h0 : ¬ (i < 0 ∨ s.P.pages ≤ i)) (hf : s.P.fr i = none) (hl : ¬ (s.P.ks.length : Int) < s.P.most) (hE : evE ⟨tickP s.P, s.D, s.L⟩ = 9) : getE s i = 9 ∧ getS s i = ⟨tickP s.P, s.D, s.L⟩ :=
  ⟨by unfold getE; rw [if_neg h0, if_neg (by rw [hf]; decide), if_neg hl, hE], by unfold getS; rw [if_neg h0, hf]; simp only []; rw [if_neg hl, if_neg (by rw [hE]; decide)]⟩
theorem evS_best {s : St} {k : Int} {f : Fr} (hb : bestF s.P s.P.ks (-1) = k) (hk : 0 ≤ k) (hf : s.P.fr k = some f) : evE s = 0 ∧ evS s = ⟨delFr (cleanS s k f).P k, (cleanS s k f).D, (cleanS s k f).L⟩ :=
  ⟨by unfold evE; rw [hb, if_neg (by omega)], by unfold evS; rw [hb, hf]⟩
theorem best_one {P : Pl} {k : Int} (hp : pinsOf P k = 0) : bestF P [k] (-1) = k := by
  unfold bestF bestF
  rw [if_pos ⟨hp, .inl (by omega)⟩]
theorem upd_same {α : Type} (m : Int → Option α) (k : Int) (x : Option α) : updM m k x k = x := if_pos rfl
theorem upd_ne {α : Type} (m : Int → Option α) {j k : Int} (x : Option α) (h : j ≠ k) : updM m k x j = m j := if_neg h
theorem addFr_fr (t : St) (i : Int) : (addFr t i).P.fr i = some (newFr t i) := by show (if i = i then _ else _) = _; rw [if_pos rfl]
theorem addFr_ne (t : St) {i k : Int} (h : k ≠ i) : (addFr t i).P.fr k = t.P.fr k := by show (if k = i then _ else _) = _; rw [if_neg h]
theorem setFr_fr (P : Pl) (k : Int) (f : Fr) : (setFr P k f).fr k = some f := by show (if k = k then _ else _) = _; rw [if_pos rfl]
theorem setFr_ne (P : Pl) {i k : Int} (f : Fr) (h : k ≠ i) : (setFr P i f).fr k = P.fr k := by show (if k = i then _ else _) = _; rw [if_neg h]
theorem delFr_fr (P : Pl) (k : Int) : (delFr P k).fr k = none := by show (if k = k then _ else _) = _; rw [if_pos rfl]
theorem delFr_ne (P : Pl) {i k : Int} (h : k ≠ i) : (delFr P i).fr k = P.fr k := by show (if k = i then _ else _) = _; rw [if_neg h]
theorem wrB_parts {p : List Int} (hp : p.length = 512) (off : Nat) (b : List Int) (lsn : Int) (h0 : 0 ≤ lsn) (h1 : lsn < 18446744073709551616) : num ((wrB p off b lsn).take 8) = lsn ∧ (wrB p off b lsn).drop 8 = splice (p.drop 8) off b := by
  have hl : (u8L lsn).length = 8 := rfl
  have e : wrB p off b lsn = u8L lsn ++ splice (p.drop 8) off b := by
    unfold wrB splice
    rw [List.take_append, hl, List.take_of_length_le (by omega : (u8L lsn).length ≤ 8 + off), show 8 + off - 8 = off by omega, List.drop_append, hl, List.drop_eq_nil_of_le (by omega : (u8L lsn).length ≤ 8 + off + b.length), show 8 + off + b.length - 8 = off + b.length by omega, List.nil_append, List.append_assoc]
  rw [e]
  refine ⟨?_, List.drop_left' hl⟩
  rw [List.take_left' hl, num_u8L h0 h1]
/-- The states of awake. -/
def awL : Lg := appL (newL 0 40) 0 [114]
def aw1 : St := ⟨newP 41 2 1, opnD 43 0 40, awL⟩
def aw2 : St := wrS aw1 0 0 [97] 480
def aw3 : St := getS aw2 1
def aw4 : St := getS aw3 0
theorem awL_end : endL awL = 483 ∧ awL.sure = 480 := ⟨rfl, rfl⟩
theorem aw1_get : getE aw1 0 = 0 ∧ getS aw1 0 = addFr ⟨tickP aw1.P, aw1.D, aw1.L⟩ 0 := getS_new (by show ¬ ((0 : Int) < 0 ∨ (2 : Int) ≤ 0); omega) rfl (by show ((0 : Nat) : Int) < 1; omega)
def awF : Fr := wrF (newFr ⟨tickP aw1.P, aw1.D, aw1.L⟩ 0) 0 [97] 480
theorem aw2_eq : aw2 = ⟨setFr (addFr ⟨tickP aw1.P, aw1.D, aw1.L⟩ 0).P 0 awF, aw1.D, aw1.L⟩ := by
  unfold aw2 wrS
  rw [aw1_get.2]
  have e : (addFr ⟨tickP aw1.P, aw1.D, aw1.L⟩ 0).P.fr 0 = some (newFr ⟨tickP aw1.P, aw1.D, aw1.L⟩ 0) := addFr_fr _ _
  rw [e]
  rfl
theorem aw2_parts : aw2.P.ks = [0] ∧ aw2.P.fr 0 = some awF ∧ aw2.P.fr 1 = none ∧ aw2.P.pages = 2 ∧ aw2.P.most = 1 ∧ aw2.P.at_ = 41 ∧ aw2.D = opnD 43 0 40 ∧ aw2.L = awL ∧ aw2.P.clock = 1 ∧ awF.pins = 0 ∧ awF.dirty = true := by
  rw [aw2_eq]
  exact ⟨rfl, setFr_fr _ _ _, (setFr_ne _ _ (by decide)).trans (addFr_ne _ (by decide)), rfl, rfl, rfl, rfl, rfl, rfl, rfl, rfl⟩
set_option maxRecDepth 100000 in
theorem aw0_sec : (newFr ⟨tickP aw1.P, aw1.D, aw1.L⟩ 0).p.length = 512 := by
  show (readD (opnD 43 0 40) 41).length = 512
  rw [opnD_eq (by omega) (by omega) (by omega), readD_mk _ _ _ (by rw [sync_len]; show 41 < (fmD 43 0 40).l.length; rw [fmD_len]; omega), if_neg (by decide), readD_mk _ _ _ (by rw [fmD_len]; omega), if_neg (by decide), fmD_read _ _ _ _ (by omega), if_neg (by decide)]
  rfl
theorem awF_lsn : lsnP awF = 480 ∧ awF.p.drop 8 = splice ((newFr ⟨tickP aw1.P, aw1.D, aw1.L⟩ 0).p.drop 8) 0 [97] := wrB_parts aw0_sec 0 [97] 480 (by omega) (by omega)
def aw2' : St := ⟨tickP aw2.P, aw2.D, aw2.L⟩
theorem aw2_ev : evE aw2' = 0 ∧ evS aw2' = ⟨delFr (cleanS aw2' 0 awF).P 0, (cleanS aw2' 0 awF).D, (cleanS aw2' 0 awF).L⟩ := by
  obtain ⟨e1, e2, e3, e4, e5, e6, e7, e8, e9, e10, e11⟩ := aw2_parts
  refine evS_best ?_ (by omega) (show aw2.P.fr 0 = some awF from e2)
  show bestF (tickP aw2.P) aw2.P.ks (-1) = 0
  rw [e1]
  refine best_one ?_
  show (match aw2.P.fr 0 with | some f => f.pins | none => 0) = 0
  rw [e2]; exact e10
theorem aw3_eq : getE aw2 1 = 0 ∧ aw3 = addFr (evS aw2') 1 := by
  obtain ⟨e1, e2, e3, e4, e5, e6, e7, e8, e9, e10, e11⟩ := aw2_parts
  exact getS_ev (by rw [e4]; omega) e3 (by rw [e1, e5]; simp) aw2_ev.1
theorem aw2_clean : (cleanS aw2' 0 awF).D = wrD (flD (opnD 43 0 40) awL) 41 awF.p ∧ (cleanS aw2' 0 awF).L = flZ (opnD 43 0 40) awL := by
  obtain ⟨e1, e2, e3, e4, e5, e6, e7, e8, e9, e10, e11⟩ := aw2_parts
  have hl : ¬ (lsnP awF < aw2'.L.sure) := by rw [awF_lsn.1, show aw2'.L = awL from e8, awL_end.2]; omega
  have ea : (flushS aw2').P.at_ = 41 := (flushS_fr aw2').2.1.trans e6
  unfold cleanS
  rw [if_pos e11, if_neg hl]
  refine ⟨?_, ?_⟩
  · show wrD (flushS aw2').D ((flushS aw2').P.at_ + 0).toNat awF.p = _
    rw [ea]
    show wrD (flD aw2.D aw2.L) _ _ = _
    rw [e7, e8]
    rfl
  · show flZ aw2.D aw2.L = _
    rw [e7, e8]
theorem aw3_parts : aw3.P.ks = [1] ∧ aw3.P.fr 1 = some (newFr (evS aw2') 1) ∧ aw3.P.fr 0 = none ∧ aw3.P.pages = 2 ∧ aw3.P.most = 1 ∧ aw3.P.at_ = 41 ∧ aw3.D = wrD (flD (opnD 43 0 40) awL) 41 awF.p ∧ aw3.L = flZ (opnD 43 0 40) awL ∧ aw3.P.clock = 2 := by
  obtain ⟨e1, e2, e3, e4, e5, e6, e7, e8, e9, e10, e11⟩ := aw2_parts
  obtain ⟨c1, c2, c3, c4, c5, c6⟩ := cleanS_P aw2' 0 awF e2
  obtain ⟨d1, d2⟩ := aw2_clean
  rw [aw3_eq.2]
  have hev := aw2_ev.2
  have hks : (evS aw2').P.ks = [] := by
    rw [hev]
    unfold delFr
    simp only []
    rw [c1, show aw2'.P.ks = [0] from e1]
    rfl
  refine ⟨?_, addFr_fr _ _, ?_, ?_, ?_, ?_, ?_, ?_, ?_⟩
  · show insK 1 (evS aw2').P.ks = [1]
    rw [hks]; rfl
  · rw [addFr_ne _ (by decide), hev]
    exact delFr_fr _ _
  · show (evS aw2').P.pages = 2
    rw [hev]; exact c4.trans e4
  · show (evS aw2').P.most = 1
    rw [hev]; exact c5.trans e5
  · show (evS aw2').P.at_ = 41
    rw [hev]; exact c3.trans e6
  · show (evS aw2').D = _
    rw [hev]; exact d1
  · show (evS aw2').L = _
    rw [hev]; exact d2
  · show (evS aw2').P.clock = 2
    rw [hev]
    refine c6.trans ?_
    show aw2.P.clock + 1 = 2
    rw [e9]; rfl
theorem aw4_parts : getE aw3 0 = 0 ∧ (∃ f, aw4.P.fr 0 = some f ∧ f.p = awF.p) ∧ aw4.L = flZ (opnD 43 0 40) awL := by
  obtain ⟨e1, e2, e3, e4, e5, e6, e7, e8, e9⟩ := aw3_parts
  have hfr : (⟨tickP aw3.P, aw3.D, aw3.L⟩ : St).P.fr 1 = some (newFr (evS aw2') 1) := e2
  have hev : evE ⟨tickP aw3.P, aw3.D, aw3.L⟩ = 0 ∧ evS ⟨tickP aw3.P, aw3.D, aw3.L⟩ = ⟨delFr (tickP aw3.P) 1, aw3.D, aw3.L⟩ := by
    have hb : bestF (tickP aw3.P) aw3.P.ks (-1) = 1 := by
      rw [e1]
      refine best_one ?_
      show (match aw3.P.fr 1 with | some f => f.pins | none => 0) = 0
      rw [e2]; rfl
    have h1 := evS_best (s := ⟨tickP aw3.P, aw3.D, aw3.L⟩) hb (by omega) hfr
    refine ⟨h1.1, h1.2.trans ?_⟩
    have hc : cleanS ⟨tickP aw3.P, aw3.D, aw3.L⟩ 1 (newFr (evS aw2') 1) = ⟨tickP aw3.P, aw3.D, aw3.L⟩ := by
      unfold cleanS; rw [if_neg (show ¬ ((newFr (evS aw2') 1).dirty = true) from by decide)]
    rw [hc]
  obtain ⟨g1, g2⟩ := getS_ev (s := aw3) (i := 0) (by rw [e4]; omega) e3 (by rw [e1, e5]; simp) hev.1
  refine ⟨g1, ?_, ?_⟩
  · unfold aw4
    rw [g2, hev.2]
    refine ⟨_, addFr_fr _ _, ?_⟩
    show readD aw3.D (aw3.P.at_ + 0).toNat = awF.p
    rw [e7, e6, show ((41 : Int) + 0).toNat = 41 from rfl, readD_wr, if_pos rfl]
  · unfold aw4
    rw [g2, hev.2]
    exact e8
theorem aw4_sure : aw4.L.sure = 483 := by
  have hq : Qt (opnD 43 0 40) := opnD_qt (by omega) (by omega) (by omega)
  obtain ⟨-, -, h⟩ := aw4_parts
  rw [h, (fl_q awL hq).2.2.2.2.2.2, if_neg (by rw [awL_end.1, awL_end.2]; decide)]
  rfl
end Go.Proofs.Ytggeepihkeocmaa
/- The pool laws' awake: the walk. -/
namespace Go.Proofs.Ytggeepihkeocmaa
set_option linter.unusedVariables false
set_option linter.unusedSimpArgs false
open Go.RowKit Go.Maps
theorem not_grew {FT FT' : Nat → Prop} {n x : Nat} (hg : Grew FT FT' n) (h : ¬ FT x) (hx : x < n) : ¬ FT' x := fun h' => (hg x h').elim h (fun h => by omega)
theorem aw_I : LgI awL := (app_ok (hold := 0) (p := [114]) (newL_I (a := 0) (c := 40) (by omega) (by omega) (by omega) (by omega)) (by omega) (by show ((1 : Nat) : Int) + 2 ≤ (480 / 480 + 40) * 480 - (480 + 0) - 0 - 0; omega)).2
theorem aw_q : Qt (opnD 43 0 40) := opnD_qt (by omega) (by omega) (by omega)
theorem aw_l : (opnD 43 0 40).l.length = 43 := opnD_len (by omega) (by omega) (by omega)
theorem aw1_inv : Inv aw1 := ⟨aw_I, aw_q, by show (0 : Int) + 1 + 40 ≤ ((opnD 43 0 40).l.length : Int); rw [aw_l]; omega, by show endL awL ≤ _; rw [awL_end.1]; omega, by show (opnD 43 0 40).ops ≤ _; rw [opnD_ops (by omega) (by omega) (by omega)]; omega, by show (opnD 43 0 40).way.length ≤ _; rw [opnD_way (by omega) (by omega) (by omega)]; simp⟩
theorem aw2_inv : Inv aw2 := by
  obtain ⟨-, -, -, -, -, -, e7, e8, -⟩ := aw2_parts
  have h := aw1_inv
  exact ⟨by rw [e8]; exact h.li, by rw [e7]; exact h.q, by rw [e7, e8]; exact h.len, by rw [e8]; exact h.en, by rw [e7]; exact h.ops, by rw [e7]; exact h.way⟩
theorem aw3_inv : Inv aw3 := by
  obtain ⟨-, -, -, -, -, -, e7, e8, -⟩ := aw3_parts
  obtain ⟨-, hQ, hlen, hop1, hop2, hway, hZ⟩ := fl_q awL aw_q
  have hZ2 : flZ (opnD 43 0 40) awL = flL awL := by rw [hZ, if_neg (by rw [awL_end.1, awL_end.2]; decide)]
  have hnp : nparts awL = 1 := rfl
  have ho : (opnD 43 0 40).ops = 6 := opnD_ops (by omega) (by omega) (by omega)
  have hw : (opnD 43 0 40).way.length = 0 := by rw [opnD_way (by omega) (by omega) (by omega)]; rfl
  rw [hnp, ho] at hop2
  rw [hw] at hway
  rw [hZ2] at e8
  refine ⟨?_, ?_, ?_, ?_, ?_, ?_⟩
  · rw [e8]; exact fl_ok aw_I (by rw [awL_end.1]; omega)
  · rw [e7]; exact hQ.wr _ _
  · rw [e7, e8]
    show (0 : Int) + 1 + 40 ≤ ((flD (opnD 43 0 40) awL).l.length : Int)
    rw [hlen, aw_l]; omega
  · rw [e8, flL_end aw_I, awL_end.1]; omega
  · rw [e7]
    show (flD (opnD 43 0 40) awL).ops + 1 ≤ _
    omega
  · rw [e7]
    show ((flD (opnD 43 0 40) awL).way ++ [_]).length ≤ _
    rw [List.length_append]
    show (flD (opnD 43 0 40) awL).way.length + 1 ≤ _
    omega
theorem aw4_first {f : Fr} (h : aw4.P.fr 0 = some f) : lsnP f = 480 ∧ (f.p.drop 8).getD 0 0 = 97 := by
  obtain ⟨-, ⟨f', h1, h2⟩, -⟩ := aw4_parts
  rw [h1] at h
  injection h with h
  subst h
  have e := awF_lsn
  refine ⟨?_, ?_⟩
  · show num (f'.p.take 8) = 480
    rw [h2]; exact e.1
  · rw [h2, e.2]; rfl
set_option maxRecDepth 100000 in
set_option maxHeartbeats 8000000 in
theorem plawake_calls (w : World) : Calls Try.prog 14 #[] w fun e w' => e = .returned (.bool true) ∧ Below w.heap.size w w' := by
  go_enter Try.func14, Try.ntmps14
  go_wp2_with fail
  refine (pfresh_calls 2 1 w (by omega) (by omega)).mono ?_
  rintro e w1 ⟨x, d, lb, g, pp, F, bA, bc, o, rfl, kx, hP, hx, hxl, hB1⟩
  have hlx := kx.lt
  obtain ⟨f1, e1, b1, l1, x1⟩ := litb_at w1 114
  have k1 := At.keep b1 kx
  have hP1 := hP.later b1
  have hlts := hP.lts
  have hPx := Lib.hid hP
  have hP1x := Lib.hid hP1
  have hxx := Lib.hid hx
  have hltsx := Lib.hid hlts
  clear hP hP1 hx hlts
  have kxc := kx.c; have kxf := kx.f; have kxl := kx.lt
  go_wp2_with fail
  have hA1 := app_ok (hold := 0) (p := [114]) (newL_I (a := 0) (c := 40) (by omega) (by omega) (by omega) (by omega)) (by omega) (by show ((1 : Nat) : Int) + 2 ≤ (480 / 480 + 40) * 480 - (480 + 0) - 0 - 0; omega)
  refine (lapp_ok (p := [114]) 0 f1 hP1x.out.l hP1x.out.bw (BsR.single x1 l1 (by omega) (by omega)) (fun _ b hb hf => by
    injection hb with hb
    have h1 := (hltsx.out b (.inr (.inl hf))).2
    simp at hb
    omega) (by omega) (by omega) (by omega) (by show ((1 : Nat) : Int) + 2 ≤ (480 / 480 + 40) * 480 - (480 + 0) - 0 - 0; omega) hA1.1 hA1.2.ok).mono ?_
  rw [show endL (freshS 2 1).L = 480 from rfl]
  rintro e w2 ⟨rfl, ⟨bA2, bc2, hL2, hat2⟩, hm2⟩
  have hft := foot_low hP1x.out.l hP1x.out.d
  obtain ⟨F3, bA3, bc3, hP3, hg3, hm3⟩ := hP1x.out.log (LogTo.mk (hP1x.out.d.mod hm2 hft.2) hL2 (Grew.refl _ _) hat2 (hm2.mono (fun k hk => .inr hk))) rfl
  have hx3 := not_grew hg3 hxx.out (by have := b1.size; omega)
  have k2 := k1.mod hm3 (fun hs => hxx.out (hs.imp id .inl))
  have hB2 : Below w.heap.size w w2 := below_tr (below_keep b1 hB1) (hm3.below (below_keep b1 hB1).size (fun k hk => (hltsx.out k (hk.imp id .inl)).1))
  have hP3 : PWo w2 w.heap.size d lb g pp F3 bA3 bc3 o aw1 := hP3
  have hx3 : ¬ FTo g pp F3 bA3 o aw1.P x := hx3
  obtain ⟨f3, e3, b3, l3, x3⟩ := litb_at w2 97
  have hP3x := Lib.hid hP3
  have hP3f := Lib.hid (hP3.later b3)
  have hx3x := Lib.hid hx3
  have k3 := At.keep b3 k2
  have hxl2 := k2.lt
  clear hP3 hx3 hm2 hL2 hat2 hft hg3 hm3 kx kxc kxf kxl k1 e1 x1 hA1
  have k2c := k2.c; have k2f := k2.f; have k2l := k2.lt
  go_wp2_with fail
  refine (pwrite_calls (b := [97]) 0 0 480 f3 hP3f.out aw1_inv (by show (0 : Int) + 1 ≤ _; omega) (by omega) (BsR.single x3 l3 (by omega) (by omega)) (fun _ k hk hf => by
    injection hk with hk
    have h1 := (hP3x.out.lts k hf).2
    simp at hk
    omega) (by omega) (by omega)).mono ?_
  rw [aw1_get.1]
  rintro e w4 ⟨rfl, (⟨hne, -⟩ | ⟨-, o4, F4, bA4, bc4, hP4, hg4, hm4⟩)⟩
  · exact absurd rfl hne
  have hP4 : PWo w4 w.heap.size d lb g pp F4 bA4 bc4 o4 aw2 := hP4
  have hx4 : ¬ FTo g pp F4 bA4 o4 aw2.P x := not_grew hg4 hx3x.out (by have := b3.size; omega)
  have k4 := k3.mod hm4 hx3x.out
  have hB4 : Below w.heap.size w w4 := below_tr (below_keep b3 hB2) (hm4.below (below_keep b3 hB2).size (fun k hk => (hP3x.out.lts k hk).1))
  have hP4x := Lib.hid hP4
  have hx4x := Lib.hid hx4
  have hxl4 := k4.lt
  clear hP4 hx4 hg4 hm4 k2 k2c k2f k2l k3 e3 x3
  have k4c := k4.c; have k4f := k4.f; have k4l := k4.lt
  go_wp2_with fail
  refine (pread_calls 1 w4 hP4x.out aw2_inv (by rw [aw2_parts.2.2.2.2.2.2.2.2.1]; omega)).mono ?_
  rintro e w5 (⟨hne, -⟩ | ⟨-, fA, A5, c5, hfr5, rfl, how5, o5, F5, bA5, bc5, hP5, hg5, hm5⟩)
  · exact absurd aw3_eq.1 hne
  have hP5 : PWo w5 w.heap.size d lb g pp F5 bA5 bc5 o5 aw3 := hP5
  have hx5 : ¬ FTo g pp F5 bA5 o5 aw3.P x := not_grew hg5 hx4x.out hxl4
  have k5 := k4.mod hm5 hx4x.out
  have hB5 : Below w.heap.size w w5 := below_tr hB4 (hm5.below hB4.size (fun k hk => (hP4x.out.lts k hk).1))
  have hP5x := Lib.hid hP5
  have hx5x := Lib.hid hx5
  have hxl5 := k5.lt
  clear hP5 hx5 hg5 hm5 k4 k4c k4f k4l how5 hfr5
  have k5c := k5.c; have k5f := k5.f; have k5l := k5.lt
  go_wp2_with fail
  refine (pread_calls 0 w5 hP5x.out aw3_inv (by rw [aw3_parts.2.2.2.2.2.2.2.2]; omega)).mono ?_
  rintro e w6 (⟨hne, -⟩ | ⟨-, fB, A6, c6, hfr6, rfl, how6, o6, F6, bA6, bc6, hP6, hg6, hm6⟩)
  · exact absurd aw4_parts.1 hne
  have hP6 : PWo w6 w.heap.size d lb g pp F6 bA6 bc6 o6 aw4 := hP6
  have k6 := k5.mod hm6 hx5x.out
  have hB6 : Below w.heap.size w w6 := below_tr hB5 (hm6.below hB5.size (fun k hk => (hP5x.out.lts k hk).1))
  obtain ⟨z1, z2⟩ := aw4_first hfr6
  rw [z1]
  obtain ⟨ga, rfl⟩ := OwB.some8 how6 (by omega)
  have hca : w6.cell? ⟨ga, 0, none⟩ = some (.int .u8 97) := by
    obtain ⟨gb', go', hA, -, -, hc0⟩ := how6.reads.at_ (k := 0) (by omega)
    injection hA with hA
    injection hA with e1 e2
    subst e1; subst e2
    rw [z2, Nat.zero_add] at hc0
    exact hc0
  have hP6x := Lib.hid hP6
  clear hP6 hg6 hm6 k5 k5c k5f k5l how6 hfr6 z1 z2
  have k6c := k6.c; have k6f := k6.f; have k6l := k6.lt
  go_wp2_with fail
  refine (lsure_calls w6 hP6x.out.l).mono ?_
  rw [aw4_sure]
  rintro e w7 ⟨rfl, rfl⟩
  go_wp2
  go_ret
  exact ⟨by first | rfl | simp, hB6⟩
end Go.Proofs.Ytggeepihkeocmaa
