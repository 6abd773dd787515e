/- Joined texts: PpB, PlT. -/
import Derived.Test.YtggeepihkeocmaaJPlays30
import Derived.Test.YtggeepihkeocmaaJPlays27
/- PoolPlays, plain: clean, evict, get, flush of all. -/
namespace Go.Proofs.Ytggeepihkeocmaa
set_option linter.unusedVariables false
set_option linter.unusedSimpArgs false
open Go.RowKit Go.Maps
section
variable {s : St} {n mo i : Int} {C C' : Int → List Int} {pins pins' : Int → Int}
theorem setGone_gone (P : Pl) (k x : Int) : (setGone P k x).gone k = some x ∨ (setGone P k x).gone k = P.gone k := by
  unfold setGone
  by_cases h : (P.gone k).isSome = true
  · rw [if_pos h]; exact .inr rfl
  · rw [if_neg h]; exact .inl (upd_same _ _ _)
theorem Pv.core {t : St} {f : Fr} (h : Pv t n mo C pins) (hf : t.P.fr i = some f) (hd : f.dirty = true) (hl : lsnP f < t.L.sure) (ho : t.D.ops + 1 ≤ 500000) (hw : t.D.way.length + 1 ≤ 500000) :
    Pv ⟨setGone (setFr t.P i (offF f)) i f.since, wrD t.D (pgI i) f.p, t.L⟩ n mo C pins := by
  obtain ⟨hi0, hi1⟩ := h.rng i f hf
  obtain ⟨g1, g2, g3, g4, g5, g6, g7⟩ := setGone_fr (setFr t.P i (offF f)) i f.since
  have hds := h.ds i f hf hd
  have hc := h.contOf hf
  have hfr : ∀ k, (setGone (setFr t.P i (offF f)) i f.since).fr k = if k = i then some (offF f) else t.P.fr k := fun k => by rw [g1]; rfl
  have hrd : ∀ k, 0 ≤ k → readD (wrD t.D (pgI i) f.p) (pgI k) = if k = i then f.p else readD t.D (pgI k) := fun k hk => by
    rw [readD_wr]
    by_cases e : k = i
    · subst e; rw [if_pos rfl, if_pos rfl]
    · rw [if_neg (fun h => e (pgI_inj hi0 hk h.symm)), if_neg e]
  have hsub : ∀ k x, (setGone (setFr t.P i (offF f)) i f.since).fr k = some x → (k = i ∧ x = offF f) ∨ (k ≠ i ∧ t.P.fr k = some x) := fun k x hx => by
    rw [hfr] at hx
    by_cases e : k = i
    · rw [if_pos e] at hx; injection hx with hx; exact .inl ⟨e, hx.symm⟩
    · rw [if_neg e] at hx; exact .inr ⟨e, hx⟩
  refine ⟨g3.trans h.pg, g4.trans h.at_, g5.trans h.ms, h.hn, h.dn, ⟨h.inv.li, h.inv.q.wr _ _, h.inv.len, h.inv.en, by show t.D.ops + 1 ≤ _; omega, by show (t.D.way ++ [_]).length ≤ _; rw [List.length_append]; show t.D.way.length + 1 ≤ _; omega⟩, h.ll, fun k x hx => ?_, fun k x hx hd => ?_, fun k h0 h1 hg => ?_, fun k h0 h1 => ?_, fun k x hx => ?_, fun k h0 h1 => ?_, fun k => ?_, fun k x hx hdx => ?_, fun k x hx => ?_, h.len⟩
  · rcases hsub k x hx with ⟨e, -⟩ | ⟨-, hx⟩
    · rw [e]; exact ⟨hi0, hi1⟩
    · exact h.rng k x hx
  · show x.p = readD (wrD t.D (pgI i) f.p) (pgI k)
    rcases hsub k x hx with ⟨e, e2⟩ | ⟨e, hx⟩
    · rw [e, hrd i hi0, if_pos rfl, e2]; rfl
    · rw [hrd k (h.rng k x hx).1, if_neg e]; exact h.cl k x hx hd
  · have hki : k ≠ i := fun e => g6 (e ▸ hg)
    show t.D.l.getD (pgI k) [] = readD (wrD t.D (pgI i) f.p) (pgI k)
    rw [hrd k h0, if_neg hki]
    exact h.gn k h0 h1 ((g7 k hki).symm.trans hg)
  · show num ((readD (wrD t.D (pgI i) f.p) (pgI k)).take 8) < t.L.sure
    rw [hrd k h0]
    by_cases e : k = i
    · rw [if_pos e]; exact hl
    · rw [if_neg e]; exact h.dl k h0 h1
  · rcases hsub k x hx with ⟨e, e2⟩ | ⟨e, hx⟩
    · rw [e2]; exact h.fl i f hf
    · exact h.fl k x hx
  · rw [← h.val k h0 h1]
    unfold cont
    show (match (setGone (setFr t.P i (offF f)) i f.since).fr k with | some f => f.p | none => readD (wrD t.D (pgI i) f.p) (pgI k)) = _
    rw [hfr, hrd k h0]
    by_cases e : k = i
    · rw [if_pos e, if_pos e, e, hf]; rfl
    · rw [if_neg e, if_neg e]; rfl
  · rw [← h.pn k]
    unfold pinsOf
    show (match (setGone (setFr t.P i (offF f)) i f.since).fr k with | some f => f.pins | none => 0) = _
    rw [hfr]
    by_cases e : k = i
    · rw [if_pos e, e, hf]; rfl
    · rw [if_neg e]; rfl
  · rcases hsub k x hx with ⟨e, e2⟩ | ⟨e, hx⟩
    · rw [e2] at hdx; cases hdx
    · exact h.ds k x hx hdx
  · by_cases e : k = i
    · have hx : (setGone (setFr t.P i (offF f)) i f.since).gone k = some x := hx
      rw [e] at hx ⊢
      rcases setGone_gone (setFr t.P i (offF f)) i f.since with g8 | g8
      · rw [g8] at hx
        injection hx with hx
        refine ⟨⟨hi0, hi1⟩, by omega, ?_⟩
        rw [← hc, ← hx]; exact hds.2
      · exact h.gs i x (g8.symm.trans hx)
    · exact h.gs k x ((g7 k e).symm.trans hx)
theorem Pv.clean {f : Fr} (h : Pv s n mo C pins) (hF : Fits s) (hf : s.P.fr i = some f) :
    Pv (cleanS s i f) n mo C pins ∧ Near s (cleanS s i f) ∧ (cleanS s i f).P.fr i = some (offF f) ∧ (∀ k, k ≠ i → (cleanS s i f).P.fr k = s.P.fr k) := by
  have ho := hF.o
  have hw := hF.w
  have hcore : f.dirty = true → ∀ t : St, Pv t n mo C pins → t.P.fr = s.P.fr → t.P.at_ = 41 → lsnP f < t.L.sure → t.D.ops + 1 ≤ 500000 → t.D.way.length + 1 ≤ 500000 → t.D.ops ≤ s.D.ops + 3 → t.D.way.length ≤ s.D.way.length + 3 → endL t.L = endL s.L → s.L.sure ≤ t.L.sure →
      Pv ⟨setGone (setFr t.P i { f with dirty := false }) i f.since, wrD t.D (t.P.at_ + i).toNat f.p, t.L⟩ n mo C pins ∧ Near s ⟨setGone (setFr t.P i { f with dirty := false }) i f.since, wrD t.D (t.P.at_ + i).toNat f.p, t.L⟩ ∧ (setGone (setFr t.P i { f with dirty := false }) i f.since).fr i = some (offF f) ∧ (∀ k, k ≠ i → (setGone (setFr t.P i { f with dirty := false }) i f.since).fr k = s.P.fr k) := fun hd t ht e1 e2 e3 e4 e5 e6 e7 e8 e9 => by
    have hf2 : t.P.fr i = some f := by rw [e1]; exact hf
    have hc := ht.core hf2 hd e3 e4 e5
    have ep : (t.P.at_ + i).toNat = pgI i := by rw [e2]; rfl
    obtain ⟨g1, -⟩ := setGone_fr (setFr t.P i (offF f)) i f.since
    rw [ep]
    refine ⟨hc, ⟨by show t.D.ops + 1 ≤ _; omega, by show (t.D.way ++ [_]).length ≤ _; rw [List.length_append]; show t.D.way.length + 1 ≤ _; omega, e8, e9⟩, ?_, fun k hk => ?_⟩
    · show (setGone (setFr t.P i (offF f)) i f.since).fr i = _
      rw [g1]; exact setFr_fr _ _ _
    · show (setGone (setFr t.P i (offF f)) i f.since).fr k = _
      rw [g1, setFr_ne _ _ hk, e1]
  unfold cleanS
  by_cases hd : f.dirty = true
  · rw [if_pos hd]
    by_cases hl : lsnP f < s.L.sure
    · simp only [if_pos hl]
      exact hcore hd s h rfl h.at_ hl (by omega) (by omega) (by omega) (by omega) rfl (Int.le_refl _)
    · simp only [if_neg hl]
      have hfl := h.fl i f hf
      have hne : s.L.sure ≠ endL s.L := by omega
      obtain ⟨f1, f2, f3, f4, f5, f6, f7⟩ := h.flush hne hF
      have hso := h.inv.li.ok.sure
      exact hcore hd (flushS s) f1 f6 f1.at_ (by rw [f2]; exact hfl) (by omega) (by rw [f5]; simp) f4 (by rw [f5]; simp) f3 (by rw [f2]; exact hso)
  · rw [if_neg hd]
    have hdf : f.dirty = false := by simpa using hd
    have eo : offF f = f := by unfold offF; cases f; simp at hdf; subst hdf; rfl
    exact ⟨h, ⟨by omega, by omega, rfl, Int.le_refl _⟩, by rw [eo]; exact hf, fun _ _ => rfl⟩
theorem Pv.ev (h : Pv s n mo C pins) (hF : Fits s) (hk : KeyOk s) (hl : ∃ k ∈ s.P.ks, pins k = 0) : evE s = 0 ∧ Pv (evS s) n mo C pins ∧ Near s (evS s) ∧ ∀ k, s.P.fr k = none → (evS s).P.fr k = none := by
  obtain ⟨k1, hk1, hk2⟩ := hl
  have hge := best_ge s.P s.P.ks (-1) hk.2.1 (.inr ⟨k1, hk1, by rw [h.pn]; exact hk2⟩)
  rcases sc_len s.P (-1) s.P.ks hk.2.1 with e | ⟨e1, e2⟩
  · omega
  · obtain ⟨k0, hk0⟩ : ∃ k, bestF s.P s.P.ks (-1) = k := ⟨_, rfl⟩
    rw [hk0] at e1 e2 hge
    obtain ⟨f, hf⟩ := Option.isSome_iff_exists.1 ((hk.1 k0).1 e1)
    have e3 : f.pins = 0 := by rw [h.pinOf hf, ← h.pn]; exact e2
    obtain ⟨b1, b2⟩ := evS_best hk0 hge hf
    obtain ⟨c1, c2, c3, c4⟩ := h.clean hF hf
    refine ⟨b1, ?_, ?_, fun k hkn => ?_⟩
    · rw [b2]; exact c1.del c3 rfl e3
    · rw [b2]; exact ⟨c2.ops, c2.way, c2.en, c2.su⟩
    · rw [b2]
      by_cases e : k = k0
      · rw [e]; exact delFr_fr _ _
      · exact (delFr_ne _ e).trans ((c4 k e).trans hkn)
theorem Pv.evNo (h : Pv s n mo C pins) (hk : KeyOk s) (hl : ∀ k ∈ s.P.ks, pins k ≠ 0) : evE s = 9 := by
  have hb : bestF s.P s.P.ks (-1) = -1 := by
    rcases sc_len s.P (-1) s.P.ks hk.2.1 with e | ⟨e1, e2⟩
    · exact e
    · exact absurd ((h.pn _).symm.trans e2) (hl _ e1)
  unfold evE
  rw [if_pos (by rw [hb]; omega)]
/-- A page can be had if it is in memory, or there is room, or one that is not pinned. -/
def HasRoom (s : St) (i mo : Int) (pins : Int → Int) : Prop := (s.P.fr i).isSome = true ∨ (s.P.ks.length : Int) < mo ∨ ∃ k ∈ s.P.ks, pins k = 0
theorem Pv.get (h : Pv s n mo C pins) (hF : Fits s) (hk : KeyOk s) (hi : 0 ≤ i ∧ i < n) (hr : HasRoom s i mo pins) : getE s i = 0 ∧ Pv (getS s i) n mo C pins ∧ Near s (getS s i) := by
  have h0 : ¬ (i < 0 ∨ s.P.pages ≤ i) := by rw [h.pg]; omega
  have nr : ∀ t : St, t.D = s.D → t.L = s.L → Near s t := fun t e1 e2 => ⟨by rw [e1]; omega, by rw [e1]; omega, by rw [e2], by rw [e2]; exact Int.le_refl _⟩
  cases hf : s.P.fr i with
  | some f =>
    have e1 : getE s i = 0 := by unfold getE; rw [if_neg h0, hf]; rfl
    have e2 : getS s i = ⟨setFr (tickP s.P) i { f with used := s.P.clock + 1 }, s.D, s.L⟩ := by unfold getS; rw [if_neg h0, hf]
    rw [e2]
    exact ⟨e1, h.tick.rep (f' := { f with used := s.P.clock + 1 }) (show (tickP s.P).fr i = some f from hf) ⟨rfl, rfl, rfl, rfl⟩ (fun _ => rfl) rfl rfl rfl (show f.pins = pins i from h.pinOf hf) (fun _ _ => rfl), nr _ rfl rfl⟩
  | none =>
    by_cases hl : (s.P.ks.length : Int) < s.P.most
    · obtain ⟨e1, e2⟩ := getS_new h0 hf hl
      rw [e2]
      exact ⟨e1, h.tick.add hi hf, nr _ rfl rfl⟩
    · have hp : ∃ k ∈ s.P.ks, pins k = 0 := by
        rcases hr with hr | hr | hr
        · rw [hf] at hr; cases hr
        · rw [← h.ms] at hr; exact absurd hr hl
        · exact hr
      obtain ⟨a1, a2, a3, a4⟩ := (h.tick).ev ⟨hF.b, hF.e, hF.o, hF.w⟩ ⟨hk.1, hk.2.1, hk.2.2⟩ hp
      obtain ⟨e1, e2⟩ := getS_ev h0 hf hl a1
      rw [e2]
      exact ⟨e1, a2.add hi (a4 i hf), ⟨a3.ops, a3.way, a3.en, a3.su⟩⟩
theorem Pv.getNo (h : Pv s n mo C pins) (hk : KeyOk s) (hi : 0 ≤ i ∧ i < n) (hr : ¬ HasRoom s i mo pins) : getE s i = 9 ∧ Pv (getS s i) n mo C pins ∧ Near s (getS s i) := by
  have h0 : ¬ (i < 0 ∨ s.P.pages ≤ i) := by rw [h.pg]; omega
  have hf : s.P.fr i = none := by
    cases e : s.P.fr i with
    | none => rfl
    | some f => exact absurd (.inl (by rw [e]; rfl)) hr
  obtain ⟨e1, e2⟩ := getS_full (s := s) (i := i) h0 hf (fun hl => hr (.inr (.inl (by rw [← h.ms]; exact hl)))) (h.tick.evNo ⟨hk.1, hk.2.1, hk.2.2⟩ (fun k hkm e => hr (.inr (.inr ⟨k, hkm, e⟩))))
  rw [e2]
  exact ⟨e1, h.tick, ⟨by show s.D.ops ≤ _; omega, by show s.D.way.length ≤ _; omega, rfl, Int.le_refl _⟩⟩
/-- A page that there is not. -/
theorem getNone (s : St) (h : i < 0 ∨ s.P.pages ≤ i) : getE s i = 1 ∧ getS s i = s := by
  unfold getE getS
  rw [if_pos h, if_pos h]
  exact ⟨rfl, rfl⟩
theorem Pv.cleanAll : ∀ (l : List Int) (s : St), Pv s n mo C pins → (∀ k ∈ l, (s.P.fr k).isSome = true) → 480 ≤ s.L.sure → endL s.L ≤ 1000 → s.D.ops + 4 * (l.length : Int) ≤ 300000 → s.D.way.length + 4 * l.length ≤ 300000 →
    Pv (Go.Proofs.Ytggeepihkeocmaa.cleanAll s l) n mo C pins ∧ (∀ k f, (Go.Proofs.Ytggeepihkeocmaa.cleanAll s l).P.fr k = some f → (k ∈ l ∨ ∃ f0, s.P.fr k = some f0 ∧ f0.dirty = false) → f.dirty = false) ∧ endL (Go.Proofs.Ytggeepihkeocmaa.cleanAll s l).L = endL s.L ∧ s.L.sure ≤ (Go.Proofs.Ytggeepihkeocmaa.cleanAll s l).L.sure ∧ (Go.Proofs.Ytggeepihkeocmaa.cleanAll s l).D.ops ≤ s.D.ops + 4 * (l.length : Int) ∧ (Go.Proofs.Ytggeepihkeocmaa.cleanAll s l).D.way.length ≤ s.D.way.length + 4 * l.length ∧ (Go.Proofs.Ytggeepihkeocmaa.cleanAll s l).P.clock = s.P.clock ∧ (Go.Proofs.Ytggeepihkeocmaa.cleanAll s l).P.ks = s.P.ks
  | [], s, h, _, hb, he, _, _ => ⟨h, fun k f hf hk => by
      rcases hk with hk | ⟨f0, h1, h2⟩
      · cases hk
      · have hf : s.P.fr k = some f := hf
        rw [hf] at h1; injection h1 with h1; rw [h1]; exact h2, rfl, Int.le_refl _, by show s.D.ops ≤ _; omega, by show s.D.way.length ≤ _; omega, rfl, rfl⟩
  | i :: l, s, h, hks, hb, he, ho, hw => by
    unfold Go.Proofs.Ytggeepihkeocmaa.cleanAll
    have ho2 : s.D.ops + 4 * ((l.length : Int) + 1) ≤ 300000 := by simpa using ho
    have hw2 : s.D.way.length + 4 * (l.length + 1) ≤ 300000 := by simpa using hw
    cases hf : s.P.fr i with
    | none =>
      have := hks i (by simp)
      rw [hf] at this; cases this
    | some f =>
      obtain ⟨c1, c2, c3, c4⟩ := h.clean ⟨hb, he, by omega, by omega⟩ hf
      have q1 := c2.ops; have q2 := c2.way; have q3 := c2.su; have q4 := c2.en
      have hP := cleanS_P s i f hf
      obtain ⟨r1, r2, r3, r4, r5, r6, r7, r8⟩ := Pv.cleanAll l (cleanS s i f) c1 (fun k hkm => by
        rw [hP.2.1]; exact hks k (by simp [hkm])) (by omega) (by rw [q4]; exact he) (by omega) (by omega)
      have q5 : (cleanS s i f).P.ks = s.P.ks := hP.1
      have q6 : (cleanS s i f).P.clock = s.P.clock := hP.2.2.2.2.2
      refine ⟨r1, fun k f2 hf2 hk => r2 k f2 hf2 ?_, r3.trans q4, Int.le_trans q3 r4, by rw [List.length_cons]; refine Int.le_trans r5 ?_; omega, by rw [List.length_cons]; refine Nat.le_trans r6 ?_; omega, r7.trans q6, r8.trans q5⟩
      by_cases e : k = i
      · exact .inr ⟨offF f, by rw [e]; exact c3, rfl⟩
      · rcases hk with hk | ⟨f0, h1, h2⟩
        · exact .inl ((List.mem_cons.1 hk).resolve_left e)
        · exact .inr ⟨f0, (c4 k e).trans h1, h2⟩
/-- Flush of all: nothing is dirty behind it, all is durable. -/
theorem Pv.all (h : Pv s n mo C pins) (hk : KeyOk s) (hb : 480 ≤ s.L.sure) (he : endL s.L ≤ 1000) (ho : s.D.ops ≤ 200000) (hw : s.D.way.length ≤ 200000) :
    (∀ j, j ≤ s.P.ks.length → Inv (Go.Proofs.Ytggeepihkeocmaa.cleanAll s (s.P.ks.take j))) ∧ Pv (allS s) n mo C pins ∧ (∀ k f, (allS s).P.fr k = some f → f.dirty = false) ∧ endL (allS s).L = endL s.L ∧ 480 ≤ (allS s).L.sure ∧ (allS s).D.ops ≤ s.D.ops + 33 ∧ (allS s).D.way.length ≤ s.D.way.length + 32 ∧ (allS s).P.clock = s.P.clock ∧ (allS s).P.ks = s.P.ks := by
  have hin : ∀ k ∈ s.P.ks, (s.P.fr k).isSome = true := fun k hm => (hk.1 k).1 hm
  have hn := h.hn
  have hlen := rise_len9 s.P.ks 0 n hk.2.2 (fun k hm => by
    obtain ⟨f, hf⟩ := Option.isSome_iff_exists.1 (hin k hm)
    exact h.rng k f hf) (by omega)
  refine ⟨fun j hj => ?_, ?_⟩
  · have hl : (s.P.ks.take j).length ≤ s.P.ks.length := by rw [List.length_take]; omega
    exact (h.cleanAll (s.P.ks.take j) s (fun k hm => hin k (List.mem_of_mem_take hm)) hb he (by omega) (by omega)).1.inv
  · obtain ⟨c1, c2, c3, c4, c5, c6, c7, c8⟩ := h.cleanAll s.P.ks s hin hb he (by omega) (by omega)
    have hkeep := cleanAll_keep s.P.ks s
    have hcl : ∀ k f, (Go.Proofs.Ytggeepihkeocmaa.cleanAll s s.P.ks).P.fr k = some f → f.dirty = false := fun k f hf => c2 k f hf (.inl ((hk.1 k).2 (by rw [← hkeep k, hf]; rfl)))
    unfold allS
    by_cases hg : (Go.Proofs.Ytggeepihkeocmaa.cleanAll s s.P.ks).P.gs = []
    · rw [if_pos hg]
      exact ⟨c1, hcl, c3, by omega, by omega, by omega, c7, c8⟩
    · rw [if_neg hg]
      have hrd : ∀ k, 0 ≤ k → k < n → readD (syncD (Go.Proofs.Ytggeepihkeocmaa.cleanAll s s.P.ks).D) (pgI k) = readD (Go.Proofs.Ytggeepihkeocmaa.cleanAll s s.P.ks).D (pgI k) := fun k h0 h1 => readD_sync (pgI k) (c1.pgl h0 h1).2
      have hops : (syncD (Go.Proofs.Ytggeepihkeocmaa.cleanAll s s.P.ks).D).ops = (Go.Proofs.Ytggeepihkeocmaa.cleanAll s s.P.ks).D.ops + 1 := rfl
      have hlen2 : (syncD (Go.Proofs.Ytggeepihkeocmaa.cleanAll s s.P.ks).D).l.length = (Go.Proofs.Ytggeepihkeocmaa.cleanAll s s.P.ks).D.l.length := sync_len _
      refine ⟨⟨c1.pg, c1.at_, c1.ms, c1.hn, by show ((syncD (Go.Proofs.Ytggeepihkeocmaa.cleanAll s s.P.ks).D).l.length : Int) = _; rw [hlen2]; exact c1.dn, ⟨c1.inv.li, c1.inv.q.sy, by show _ ≤ ((syncD (Go.Proofs.Ytggeepihkeocmaa.cleanAll s s.P.ks).D).l.length : Int); rw [hlen2]; exact c1.inv.len, c1.inv.en, by show (syncD (Go.Proofs.Ytggeepihkeocmaa.cleanAll s s.P.ks).D).ops ≤ _; omega, by show (syncD (Go.Proofs.Ytggeepihkeocmaa.cleanAll s s.P.ks).D).way.length ≤ _; rw [sync_way]; simp⟩, c1.ll, c1.rng, fun k f hf hd => ?_, fun k h0 h1 _ => (read_none (sync_way _) (pgI k)).symm, fun k h0 h1 => ?_, c1.fl, fun k h0 h1 => ?_, c1.pn, c1.ds, fun k x e => (by cases e), c1.len⟩, hcl, c3, by show 480 ≤ (Go.Proofs.Ytggeepihkeocmaa.cleanAll s s.P.ks).L.sure; omega, by show (syncD (Go.Proofs.Ytggeepihkeocmaa.cleanAll s s.P.ks).D).ops ≤ _; omega, by show (syncD (Go.Proofs.Ytggeepihkeocmaa.cleanAll s s.P.ks).D).way.length ≤ _; rw [sync_way]; simp, c7, c8⟩
      · have := c1.rng k f hf
        show f.p = readD (syncD (Go.Proofs.Ytggeepihkeocmaa.cleanAll s s.P.ks).D) (pgI k)
        rw [hrd k this.1 this.2]; exact c1.cl k f hf hd
      · show num ((readD (syncD (Go.Proofs.Ytggeepihkeocmaa.cleanAll s s.P.ks).D) (pgI k)).take 8) < _
        rw [hrd k h0 h1]; exact c1.dl k h0 h1
      · rw [← c1.val k h0 h1]
        unfold cont
        show (match (Go.Proofs.Ytggeepihkeocmaa.cleanAll s s.P.ks).P.fr k with | some f => f.p | none => readD (syncD (Go.Proofs.Ytggeepihkeocmaa.cleanAll s s.P.ks).D) (pgI k)) = _
        cases (Go.Proofs.Ytggeepihkeocmaa.cleanAll s s.P.ks).P.fr k with
        | some f => rfl
        | none => exact hrd k h0 h1
end
end Go.Proofs.Ytggeepihkeocmaa
/- The pool's calls that fail: of nil, of numbers that are none. -/
namespace Go.Proofs.Ytggeepihkeocmaa
set_option linter.unusedVariables false
set_option linter.unusedSimpArgs false
open Go.RowKit Go.Maps
theorem get_nil (i : Int) (w : World) : Calls Try.prog 64 #[.pointer none, .int .i64 i] w fun e w' => e = .returned (.tuple #[.pointer none, .int .i64 6]) ∧ w = w' := by
  go_enter Try.func64, Try.ntmps64
  go_wp2
  go_ret2
  exact ⟨by first | rfl | simp, rfl⟩
theorem pread_nil (i : Int) (w : World) : Calls Try.prog 17 #[.pointer none, .int .i64 i] w fun e w' => e = .returned (.tuple #[.slice none 0 0, .int .u64 0, .int .i64 6]) ∧ w = w' := by
  go_enter Try.func17, Try.ntmps17
  go_wp2_with fail
  refine (get_nil i w).mono ?_
  rintro e w1 ⟨rfl, rfl⟩
  go_wp2
  go_ret3
  exact ⟨by first | rfl | simp, rfl⟩
theorem pwrite_nil (i : Int) (w : World) : Calls Try.prog 21 #[.pointer none, .int .i64 i, .int .i64 0, .slice none 0 0, .int .u64 1] w fun e w' => e = .returned (.int .i64 6) ∧ w = w' := by
  go_enter Try.func21, Try.ntmps21
  go_wp2_with fail
  refine (get_nil i w).mono ?_
  rintro e w1 ⟨rfl, rfl⟩
  go_wp2
  go_ret
  exact ⟨by first | rfl | simp, rfl⟩
theorem ppin_nil (i : Int) (w : World) : Calls Try.prog 16 #[.pointer none, .int .i64 i] w fun e w' => e = .returned (.int .i64 6) ∧ w = w' := by
  go_enter Try.func16, Try.ntmps16
  go_wp2_with fail
  refine (get_nil i w).mono ?_
  rintro e w1 ⟨rfl, rfl⟩
  go_wp2
  go_ret
  exact ⟨by first | rfl | simp, rfl⟩
theorem punpin_nil (i : Int) (w : World) : Calls Try.prog 18 #[.pointer none, .int .i64 i] w fun e w' => e = .returned (.int .i64 6) ∧ w = w' := by
  go_enter Try.func18, Try.ntmps18
  go_wp2
  go_ret
  exact ⟨by first | rfl | simp, rfl⟩
theorem plen_nil (w : World) : Calls Try.prog 19 #[.pointer none] w fun e w' => e = .returned (.int .i64 0) ∧ w = w' := by
  go_enter Try.func19, Try.ntmps19
  go_wp2
  go_ret
  exact ⟨by first | rfl | simp, rfl⟩
theorem pflush_nil (w : World) : Calls Try.prog 24 #[.pointer none] w fun e w' => e = .returned (.int .i64 6) ∧ w = w' := by
  go_enter Try.func24, Try.ntmps24
  go_wp2
  go_ret
  exact ⟨by first | rfl | simp, rfl⟩
theorem pdirty_nil (w : World) : Calls Try.prog 28 #[.pointer none] w fun e w' => e = .returned (.slice none 0 0) ∧ w = w' := by
  go_enter Try.func28, Try.ntmps28
  go_wp2
  go_ret
  exact ⟨by first | rfl | simp, rfl⟩
theorem pnew_nil1 (v : Value) (a b c : Int) (w : World) : Calls Try.prog 27 #[.pointer none, v, .int .i64 a, .int .i64 b, .int .i64 c] w fun e w' => e = .returned (.tuple #[.pointer none, .int .i64 6]) ∧ w = w' := by
  go_enter Try.func27, Try.ntmps27
  go_wp2
  go_ret2
  exact ⟨by first | rfl | simp, rfl⟩
theorem pnew_nil2 (d : Nat) (a b c : Int) (w : World) : Calls Try.prog 27 #[.pointer (some ⟨d, 0, none⟩), .pointer none, .int .i64 a, .int .i64 b, .int .i64 c] w fun e w' => e = .returned (.tuple #[.pointer none, .int .i64 6]) ∧ w = w' := by
  go_enter Try.func27, Try.ntmps27
  go_wp2
  go_ret2
  exact ⟨by first | rfl | simp, rfl⟩
def WrNo (off : Int) (m : Nat) : Prop := off < 0 ∨ 504 < off ∨ 504 - off < m
set_option maxRecDepth 100000 in
set_option maxHeartbeats 4000000 in
theorem pwrite_arg {m mc pp : Nat} {B : Option Addr} (i off lsn : Int) (w : World) (h : WrNo off m) (ho : -9223372036854775808 ≤ off ∧ off ≤ 9223372036854775807) (hm : m ≤ 9223372036854775807) :
    Calls Try.prog 21 #[.pointer (some ⟨pp, 0, none⟩), .int .i64 i, .int .i64 off, .slice B m mc, .int .u64 lsn] w fun e w' => e = .returned (.int .i64 1) ∧ w = w' := by
  go_enter Try.func21, Try.ntmps21
  by_cases h1 : off < 0
  · have c1 : decide (off < 0) = true := by simp; exact h1
    clear h
    go_wp2
    go_ret
    exact ⟨by first | rfl | simp, rfl⟩
  · have c1 : decide (off < 0) = false := by simp; omega
    by_cases h2 : 504 < off
    · have c2 : decide (504 < off) = true := by simp; exact h2
      clear h
      go_wp2
      go_ret
      exact ⟨by first | rfl | simp, rfl⟩
    · have c2 : decide (504 < off) = false := by simp; omega
      have h3 : 504 - off < m := by unfold WrNo at h; omega
      have c3 : decide (504 - off < (m : Int)) = true := by simp; omega
      have z1 : IntKind.i64.wrap (504 - off) = 504 - off := IntWalk.i64_in _ (by omega)
      clear h
      go_wp2
      go_ret
      exact ⟨by first | rfl | simp, rfl⟩
/-- Numbers that no pool has. -/
def NewNo (a pages most : Int) (n : Nat) : Prop := a < 0 ∨ pages < 1 ∨ 4096 < pages ∨ (n : Int) - pages < a ∨ most < 1 ∨ 64 < most
set_option maxRecDepth 100000 in
set_option maxHeartbeats 4000000 in
theorem pnew_no {base d lb g n : Nat} {F : Nat → Prop} {D : Dk} (a pages most : Int) (w : World) (hD : DD w base d lb F D) (hn : D.l.length = n) (h : NewNo a pages most n) (hn9 : n ≤ 4096) :
    Calls Try.prog 27 #[.pointer (some ⟨d, 0, none⟩), .pointer (some ⟨g, 0, none⟩), .int .i64 a, .int .i64 pages, .int .i64 most] w fun e w' => e = .returned (.tuple #[.pointer none, .int .i64 1]) ∧ w = w' := by
  have hDx := Lib.hid (len_dd w hD)
  have hnx := Lib.hid hn
  clear hD hn
  go_enter Try.func27, Try.ntmps27
  by_cases h1 : a < 0
  · have c1 : decide (a < 0) = true := by simp; exact h1
    clear h
    go_wp2
    go_ret2
    exact ⟨by first | rfl | simp, rfl⟩
  have c1 : decide (a < 0) = false := by simp; omega
  by_cases h2 : pages < 1
  · have c2 : decide (pages < 1) = true := by simp; exact h2
    clear h h1
    go_wp2
    go_ret2
    exact ⟨by first | rfl | simp, rfl⟩
  have c2 : decide (pages < 1) = false := by simp; omega
  by_cases h3 : 4096 < pages
  · have c3 : decide (4096 < pages) = true := by simp; exact h3
    clear h h1 h2
    go_wp2
    go_ret2
    exact ⟨by first | rfl | simp, rfl⟩
  have c3 : decide (4096 < pages) = false := by simp; omega
  have z1 : IntKind.i64.wrap ((n : Int) - pages) = n - pages := IntWalk.i64_in _ (by omega)
  by_cases h4 : (n : Int) - pages < a
  · have c4 : decide ((n : Int) - pages < a) = true := by simp; exact h4
    clear h h1 h2 h3
    go_wp2_with fail
    refine hDx.out.mono ?_
    rw [hnx.out]
    rintro e w1 ⟨rfl, rfl⟩
    go_wp2
    go_ret2
    exact ⟨by first | rfl | simp, rfl⟩
  have c4 : decide ((n : Int) - pages < a) = false := by simp; omega
  by_cases h5 : most < 1
  · have c5 : decide (most < 1) = true := by simp; exact h5
    clear h h1 h2 h3
    go_wp2_with fail
    refine hDx.out.mono ?_
    rw [hnx.out]
    rintro e w1 ⟨rfl, rfl⟩
    go_wp2
    go_ret2
    exact ⟨by first | rfl | simp, rfl⟩
  have c5 : decide (most < 1) = false := by simp; omega
  have h6 : 64 < most := by unfold NewNo at h; omega
  have c6 : decide (64 < most) = true := by simp; exact h6
  clear h h1 h2 h3
  go_wp2_with fail
  refine hDx.out.mono ?_
  rw [hnx.out]
  rintro e w1 ⟨rfl, rfl⟩
  go_wp2
  go_ret2
  exact ⟨by first | rfl | simp, rfl⟩
end Go.Proofs.Ytggeepihkeocmaa
