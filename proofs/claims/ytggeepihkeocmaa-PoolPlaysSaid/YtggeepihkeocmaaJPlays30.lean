/- Joined texts: PlSc, PpA. -/
import Derived.Test.YtggeepihkeocmaaJPlays29
/- PoolSteals: the way behind the loop: unpinned, flushed, and the disk without its way. -/
namespace Go.Proofs.Ytggeepihkeocmaa
set_option linter.unusedVariables false
set_option linter.unusedSimpArgs false
open Go.RowKit Go.Maps
theorem rise_len9 : ∀ (l : List Int) (a b : Int), l.Pairwise (· < ·) → (∀ k ∈ l, a ≤ k ∧ k < b) → a ≤ b → (l.length : Int) ≤ b - a
  | [], a, b, _, _, h => by show (0 : Int) ≤ _; omega
  | x :: l, a, b, hp, hr, h => by
    have hx := hr x (by simp)
    obtain ⟨h1, h2⟩ := List.pairwise_cons.1 hp
    have := rise_len9 l (x + 1) b h2 (fun k hk => ⟨by have := h1 k hk; omega, (hr k (by simp [hk])).2⟩) (by omega)
    rw [List.length_cons]
    omega
theorem Sv.unpin {s : St} {last : Int → Int} {pn : Int} (h : Sv s last pn) (h0 : 0 ≤ pn) : ∃ f, s.P.fr pn = some f ∧ 0 < f.pins ∧ Sv ⟨setFr s.P pn (pinF f (-1)), s.D, s.L⟩ last (-1) := by
  obtain ⟨f, hf, hp⟩ := h.pin h0
  have hfr : ∀ k, (setFr s.P pn (pinF f (-1))).fr k = if k = pn then some (pinF f (-1)) else s.P.fr k := fun _ => rfl
  have hsub : ∀ k x, (setFr s.P pn (pinF f (-1))).fr k = some x → (k = pn ∧ x = pinF f (-1)) ∨ (k ≠ pn ∧ s.P.fr k = some x) := fun k x hx => by
    rw [hfr] at hx
    by_cases e : k = pn
    · rw [if_pos e] at hx; injection hx with hx; exact .inl ⟨e, hx.symm⟩
    · rw [if_neg e] at hx; exact .inr ⟨e, hx⟩
  refine ⟨f, hf, by omega, h.pg, h.at_, h.ms, h.dn, h.inv.same rfl rfl, h.ll, fun k x hx => ?_, fun k x hx hdx => ?_, h.gn, h.dl, fun k x hx => ?_, fun k h0 h1 => ?_, fun e => absurd e (by omega), fun k x hx hk => ?_⟩
  · rcases hsub k x hx with ⟨e, -⟩ | ⟨-, hx⟩
    · rw [e]; exact h.rng pn f hf
    · exact h.rng k x hx
  · rcases hsub k x hx with ⟨e, e2⟩ | ⟨-, hx⟩
    · rw [e, e2]; exact h.cl pn f hf (by rw [e2] at hdx; exact hdx)
    · exact h.cl k x hx hdx
  · rcases hsub k x hx with ⟨e, e2⟩ | ⟨-, hx⟩
    · show num (x.p.take 8) < endL s.L
      rw [e2]; exact h.fl pn f hf
    · exact h.fl k x hx
  · rw [← h.val k h0 h1]
    congr 1
    unfold cont
    show (match (setFr s.P pn (pinF f (-1))).fr k with | some f => f.p | none => readD s.D (pgI k)) = _
    rw [hfr]
    by_cases e : k = pn
    · rw [if_pos e, e, hf] <;> rfl
    · rw [if_neg e] <;> rfl
  · rcases hsub k x hx with ⟨e, e2⟩ | ⟨e, hx⟩
    · rw [e2]; show f.pins + -1 = 0; omega
    · exact h.unp k x hx e
theorem cleanAll_keep : ∀ (l : List Int) (s : St), (∀ k, ((cleanAll s l).P.fr k).isSome = (s.P.fr k).isSome)
  | [], s, k => rfl
  | i :: l, s, k => by
    unfold cleanAll
    cases hf : s.P.fr i with
    | none => exact cleanAll_keep l s k
    | some f => exact (cleanAll_keep l (cleanS s i f) k).trans ((cleanS_P s i f hf).2.1 k)
theorem sync_way (D : Dk) : (syncD D).way = [] := rfl
theorem read_none {D : Dk} (h : D.way = []) (k : Nat) : readD D k = D.l.getD k [] := by
  unfold readD
  rw [h]
  rfl
/-- Behind the loop. -/
theorem steal_end {s : St} {last : Int → Int} (h : Sv s last (-1)) (hk : KeyOk s) (hb : 480 ≤ s.L.sure) (he : endL s.L ≤ 1000) (ho : s.D.ops ≤ 200000) (hw : s.D.way.length ≤ 200000) :
    (∀ j, j ≤ s.P.ks.length → Inv (cleanAll s (s.P.ks.take j))) ∧ (∀ k, 0 ≤ k → k < 9 → (allS s).P.gone k = none → ((allS s).D.l.getD (pgI k) []).getD 11 0 = last k) ∧ (allS s).D.l.length = 50 ∧ Qt (allS s).D := by
  have hin : ∀ k ∈ s.P.ks, (s.P.fr k).isSome = true := fun k hm => (hk.1 k).1 hm
  have hlen := rise_len9 s.P.ks 0 9 hk.2.2 (fun k hm => by
    obtain ⟨f, hf⟩ := Option.isSome_iff_exists.1 (hin k hm)
    exact h.rng k f hf) (by omega)
  refine ⟨fun j hj => ?_, ?_⟩
  · have hl : (s.P.ks.take j).length ≤ s.P.ks.length := by rw [List.length_take]; omega
    exact (h.cleanAll (s.P.ks.take j) s (fun k hm => hin k (List.mem_of_mem_take hm)) hb he (by omega) (by omega)).1.inv
  · obtain ⟨c1, c2, -, -⟩ := h.cleanAll s.P.ks s hin hb he (by omega) (by omega)
    have hkeep := cleanAll_keep s.P.ks s
    have hread : ∀ k, 0 ≤ k → k < 9 → (readD (cleanAll s s.P.ks).D (pgI k)).getD 11 0 = last k := fun k h0 h1 => by
      rw [← c1.val k h0 h1]
      unfold cont
      cases hf : (cleanAll s s.P.ks).P.fr k with
      | none => rfl
      | some f =>
        have : f.dirty = false := c2 k f hf (.inl ((hk.1 k).2 (by rw [← hkeep k, hf]; rfl)))
        show _ = f.p.getD 11 0
        rw [c1.cl k f hf this]
    unfold allS
    by_cases hg : (cleanAll s s.P.ks).P.gs = []
    · rw [if_pos hg]
      exact ⟨fun k h0 h1 hgn => by rw [c1.gn k h0 h1 hgn]; exact hread k h0 h1, c1.dn, c1.inv.q⟩
    · rw [if_neg hg]
      refine ⟨fun k h0 h1 _ => ?_, (sync_len _).trans c1.dn, c1.inv.q.sy⟩
      have hp := pgI_lt h0 h1
      show ((syncD (cleanAll s s.P.ks).D).l.getD (pgI k) []).getD 11 0 = last k
      rw [← read_none (sync_way _) (pgI k), readD_sync (pgI k) (by rw [c1.dn]; exact hp.2)]
      exact hread k h0 h1
theorem allS_gs (s : St) : (allS s).P.gs = [] := by
  unfold allS
  by_cases h : (cleanAll s s.P.ks).P.gs = []
  · rw [if_pos h]; exact h
  · rw [if_neg h] <;> rfl
section
variable {w w' : World} {base la x d lb g pp : Nat} {s t : St}
theorem WY.gone (h : WY w base la x d lb g pp s) (hg : s.P.gs = []) (k : Int) : s.P.gone k = none := by
  obtain ⟨F, bA, bc, o, kx, hP, -⟩ := h
  obtain ⟨D, -, -, -, -, h5, -⟩ := hP.p.gm
  cases e : s.P.gone k with
  | none => rfl
  | some v =>
    have := (h5 k).2 (by rw [e]; rfl)
    rw [hg] at this
    cases this
theorem wy_rest (h : WY w base la x d lb g pp s) :
    Calls Try.prog 25 #[.pointer (some ⟨d, 0, none⟩), .slice none 0 0] w fun e w' => e = .returned (.int .i64 0) ∧ At w' x #[.pointer (some ⟨d, 0, none⟩), .pointer (some ⟨g, 0, none⟩), .pointer (some ⟨pp, 0, none⟩)] 30 ∧ (∀ cs T, At w la cs T → At w' la cs T) ∧ (∃ F', DD w' base d lb F' (restD s.D 0 [])) ∧ Below base w w' := by
  obtain ⟨F, bA, bc, o, kx, hP, hx, hl, hl2⟩ := h
  obtain ⟨pA, mc, h1, h2⟩ := hP.d
  refine (rest_calls (n := 0) (kc := 0) (kA := none) (kl := []) w h1.k ⟨rfl, Rd.nil _ _ _ _ _⟩ (fun h0 => absurd h0 (by omega))).mono ?_
  rintro e w' ⟨rfl, hd, hm⟩
  have hF : ∀ k, FootL d lb k → FTo g pp F bA o s.P k := fun k hk => .inl ((h2 k).2 (hk.elim .inl (fun h => .inr (.inl h))))
  exact ⟨rfl, kx.mod hm (fun hf => hx (hF _ hf)), fun cs T ha => ha.mod hm (fun hf => hl (hF _ hf)), ⟨_, DD.of ⟨hd, h1.hd, h1.hl, fun b hb => by cases hb⟩⟩, hm.below hP.bw (fun k hk => (hP.lts k (hF k hk)).1)⟩
end
end Go.Proofs.Ytggeepihkeocmaa
/- PoolPlays, plain: what the law's pool keeps true: each page's bytes, its pins. -/
namespace Go.Proofs.Ytggeepihkeocmaa
set_option linter.unusedVariables false
set_option linter.unusedSimpArgs false
open Go.RowKit Go.Maps
structure Pv (s : St) (n mo : Int) (C : Int → List Int) (pins : Int → Int) : Prop where
  pg : s.P.pages = n
  at_ : s.P.at_ = 41
  ms : s.P.most = mo
  hn : 1 ≤ n ∧ n ≤ 8
  dn : (s.D.l.length : Int) = 41 + n
  inv : Inv s
  ll : s.L.pos = 0 ∧ s.L.count = 40 ∧ s.L.held = 0 ∧ s.L.start = 480
  rng : ∀ k f, s.P.fr k = some f → 0 ≤ k ∧ k < n
  cl : ∀ k f, s.P.fr k = some f → f.dirty = false → f.p = readD s.D (pgI k)
  gn : ∀ k, 0 ≤ k → k < n → s.P.gone k = none → s.D.l.getD (pgI k) [] = readD s.D (pgI k)
  dl : ∀ k, 0 ≤ k → k < n → num ((readD s.D (pgI k)).take 8) < s.L.sure
  fl : ∀ k f, s.P.fr k = some f → lsnP f < endL s.L
  val : ∀ k, 0 ≤ k → k < n → cont s k = C k
  pn : ∀ k, pinsOf s.P k = pins k
  ds : ∀ k f, s.P.fr k = some f → f.dirty = true → 0 < f.since ∧ f.since ≤ lsnP f
  gs : ∀ k x, s.P.gone k = some x → (0 ≤ k ∧ k < n) ∧ 0 < x ∧ x ≤ num ((C k).take 8)
  len : ∀ k, 0 ≤ k → k < n → (C k).length = 512
section
variable {s : St} {n mo i : Int} {C C' : Int → List Int} {pins pins' : Int → Int}
theorem Pv.pgl (h : Pv s n mo C pins) {k : Int} (h0 : 0 ≤ k) (h1 : k < n) : 41 ≤ pgI k ∧ pgI k < s.D.l.length := by
  have := h.dn
  unfold pgI
  omega
theorem Pv.lsn (h : Pv s n mo C pins) {k : Int} (h0 : 0 ≤ k) (h1 : k < n) : num ((C k).take 8) < endL s.L := by
  rw [← h.val k h0 h1]
  unfold cont
  cases hf : s.P.fr k with
  | some f => exact h.fl k f hf
  | none =>
    have := h.dl k h0 h1
    have := h.inv.li.ok.sure
    show num ((readD s.D (pgI k)).take 8) < _
    omega
def frP (o : Option Fr) (z : List Int) : List Int := match o with | some f => f.p | none => z
def frN (o : Option Fr) : Int := match o with | some f => f.pins | none => 0
/-- One frame comes, goes or changes. -/
theorem Pv.upd {P' : Pl} {o' : Option Fr} (h : Pv s n mo C pins) (hi : 0 ≤ i ∧ i < n) (e1 : P'.pages = s.P.pages) (e2 : P'.at_ = s.P.at_) (e3 : P'.most = s.P.most) (e4 : P'.gone = s.P.gone) (hfr : ∀ k, P'.fr k = if k = i then o' else s.P.fr k)
    (hcl : ∀ f, o' = some f → f.dirty = false → f.p = readD s.D (pgI i)) (hfl : ∀ f, o' = some f → lsnP f < endL s.L) (hds : ∀ f, o' = some f → f.dirty = true → 0 < f.since ∧ f.since ≤ lsnP f)
    (hC : frP o' (readD s.D (pgI i)) = C' i) (hCo : ∀ k, k ≠ i → C' k = C k) (hCn : num ((C i).take 8) ≤ num ((C' i).take 8)) (hCl : (C' i).length = 512)
    (hp : frN o' = pins' i) (hpo : ∀ k, k ≠ i → pins' k = pins k) : Pv ⟨P', s.D, s.L⟩ n mo C' pins' := by
  have hsub : ∀ k x, P'.fr k = some x → (k = i ∧ o' = some x) ∨ (k ≠ i ∧ s.P.fr k = some x) := fun k x hx => by
    rw [hfr] at hx
    by_cases e : k = i
    · rw [if_pos e] at hx; exact .inl ⟨e, hx⟩
    · rw [if_neg e] at hx; exact .inr ⟨e, hx⟩
  refine ⟨e1.trans h.pg, e2.trans h.at_, e3.trans h.ms, h.hn, h.dn, h.inv.same rfl rfl, h.ll, fun k x hx => ?_, fun k x hx hd => ?_, fun k h0 h1 hg => h.gn k h0 h1 (by rw [← e4]; exact hg), h.dl, fun k x hx => ?_, fun k h0 h1 => ?_, fun k => ?_, fun k x hx hd => ?_, fun k x hx => ?_, fun k h0 h1 => ?_⟩
  · rcases hsub k x hx with ⟨e, -⟩ | ⟨-, hx⟩
    · rw [e]; exact hi
    · exact h.rng k x hx
  · rcases hsub k x hx with ⟨e, e2⟩ | ⟨-, hx⟩
    · rw [e]; exact hcl x e2 hd
    · exact h.cl k x hx hd
  · rcases hsub k x hx with ⟨-, e2⟩ | ⟨-, hx⟩
    · exact hfl x e2
    · exact h.fl k x hx
  · unfold cont
    show (match P'.fr k with | some f => f.p | none => readD s.D (pgI k)) = _
    rw [hfr]
    by_cases e : k = i
    · rw [if_pos e, e]; exact hC
    · rw [if_neg e, hCo k e]; exact h.val k h0 h1
  · unfold pinsOf
    show (match P'.fr k with | some f => f.pins | none => 0) = _
    rw [hfr]
    by_cases e : k = i
    · rw [if_pos e, e]; exact hp
    · rw [if_neg e, hpo k e]; exact h.pn k
  · rcases hsub k x hx with ⟨-, e2⟩ | ⟨-, hx⟩
    · exact hds x e2 hd
    · exact h.ds k x hx hd
  · have hx : P'.gone k = some x := hx
    rw [e4] at hx
    obtain ⟨g1, g2, g3⟩ := h.gs k x hx
    refine ⟨g1, g2, ?_⟩
    by_cases e : k = i
    · rw [e] at g3 ⊢; omega
    · rw [hCo k e]; exact g3
  · by_cases e : k = i
    · rw [e]; exact hCl
    · rw [hCo k e]; exact h.len k h0 h1
theorem Pv.tick (h : Pv s n mo C pins) : Pv ⟨tickP s.P, s.D, s.L⟩ n mo C pins :=
  ⟨h.pg, h.at_, h.ms, h.hn, h.dn, h.inv.same rfl rfl, h.ll, h.rng, h.cl, h.gn, h.dl, h.fl, h.val, h.pn, h.ds, h.gs, h.len⟩
theorem Pv.contOf (h : Pv s n mo C pins) {f : Fr} (hf : s.P.fr i = some f) : f.p = C i := by
  have hi := h.rng i f hf
  rw [← h.val i hi.1 hi.2]
  unfold cont
  rw [hf]
theorem Pv.pinOf (h : Pv s n mo C pins) {f : Fr} (hf : s.P.fr i = some f) : f.pins = pins i := by
  rw [← h.pn i]
  unfold pinsOf
  rw [hf]
theorem Pv.pinNo (h : Pv s n mo C pins) (hf : s.P.fr i = none) : pins i = 0 := by
  rw [← h.pn i]
  unfold pinsOf
  rw [hf]
/-- A frame that differs in its use and its pins alone. -/
theorem Pv.rep {f f' : Fr} {P' : Pl} (h : Pv s n mo C pins) (hf : s.P.fr i = some f) (hP : P'.pages = s.P.pages ∧ P'.at_ = s.P.at_ ∧ P'.most = s.P.most ∧ P'.gone = s.P.gone) (hfr : ∀ k, P'.fr k = if k = i then some f' else s.P.fr k) (hp : f'.p = f.p) (hd : f'.dirty = f.dirty) (hs : f'.since = f.since) (hn : f'.pins = pins' i) (hpo : ∀ k, k ≠ i → pins' k = pins k) : Pv ⟨P', s.D, s.L⟩ n mo C pins' := by
  have hi := h.rng i f hf
  refine h.upd hi hP.1 hP.2.1 hP.2.2.1 hP.2.2.2 hfr ?_ ?_ ?_ ?_ (fun _ _ => rfl) (Int.le_refl _) (h.len i hi.1 hi.2) hn hpo
  · rintro x e hdx
    injection e with e
    rw [← e, hp]; exact h.cl i f hf (by rw [← hd, e]; exact hdx)
  · rintro x e
    injection e with e
    show num (x.p.take 8) < _
    rw [← e, hp]; exact h.fl i f hf
  · rintro x e hdx
    injection e with e
    have := h.ds i f hf (by rw [← hd, e]; exact hdx)
    show 0 < x.since ∧ x.since ≤ num (x.p.take 8)
    rw [← e, hp, hs]; exact this
  · show f'.p = C i
    rw [hp]; exact h.contOf hf
theorem Pv.add (h : Pv s n mo C pins) (hi : 0 ≤ i ∧ i < n) (hn : s.P.fr i = none) : Pv (addFr s i) n mo C pins := by
  have hpI : (newFr s i).p = readD s.D (pgI i) := by show readD s.D (s.P.at_ + i).toNat = _; rw [h.at_]; rfl
  have hso := h.inv.li.ok.sure
  have hdl := h.dl i hi.1 hi.2
  have hv := h.val i hi.1 hi.2
  unfold cont at hv
  rw [hn] at hv
  refine h.upd (o' := some (newFr s i)) hi rfl rfl rfl rfl (fun _ => rfl) ?_ ?_ ?_ (hpI.trans hv) (fun _ _ => rfl) (Int.le_refl _) (h.len i hi.1 hi.2) (h.pinNo hn).symm (fun _ _ => rfl)
  · rintro x e -
    injection e with e
    rw [← e]; exact hpI
  · rintro x e
    injection e with e
    show num (x.p.take 8) < _
    rw [← e, hpI]; omega
  · rintro x e hd
    injection e with e
    rw [← e] at hd; cases hd
theorem Pv.del {f : Fr} (h : Pv s n mo C pins) (hf : s.P.fr i = some f) (hd : f.dirty = false) (hp : f.pins = 0) : Pv ⟨delFr s.P i, s.D, s.L⟩ n mo C pins := by
  have hi := h.rng i f hf
  refine h.upd (o' := none) hi rfl rfl rfl rfl (fun _ => rfl) (fun _ e => by cases e) (fun _ e => by cases e) (fun _ e => by cases e) ?_ (fun _ _ => rfl) (Int.le_refl _) (h.len i hi.1 hi.2) ?_ (fun _ _ => rfl)
  · show readD s.D (pgI i) = C i
    rw [← h.cl i f hf hd]; exact h.contOf hf
  · show 0 = pins i
    rw [← h.pinOf hf, hp]
theorem Pv.pin {f : Fr} (h : Pv s n mo C pins) (hf : s.P.fr i = some f) (c : Int) : Pv ⟨setFr s.P i (pinF f c), s.D, s.L⟩ n mo C (fun k => if k = i then pins k + c else pins k) :=
  h.rep (f' := pinF f c) hf ⟨rfl, rfl, rfl, rfl⟩ (fun _ => rfl) rfl rfl rfl (by show f.pins + c = if i = i then pins i + c else pins i; rw [if_pos rfl, h.pinOf hf]) (fun k hk => if_neg hk)
theorem Pv.put {f : Fr} {off : Nat} {b : List Int} {lsn : Int} (h : Pv s n mo C pins) (hf : s.P.fr i = some f) (hl : 0 < lsn ∧ lsn < endL s.L) (hle : num ((C i).take 8) ≤ lsn) (hb : off + b.length ≤ 504) : Pv ⟨setFr s.P i (wrF f off b lsn), s.D, s.L⟩ n mo (fun k => if k = i then wrB (C k) off b lsn else C k) pins := by
  have hi := h.rng i f hf
  have hc := h.contOf hf
  have hlen : f.p.length = 512 := by rw [hc]; exact h.len i hi.1 hi.2
  have hen := h.inv.en
  obtain ⟨p1, p2⟩ := wrB_parts hlen off b lsn (by omega) (by omega)
  refine h.upd (o' := some (wrF f off b lsn)) hi rfl rfl rfl rfl (fun _ => rfl) ?_ ?_ ?_ ?_ (fun k hk => if_neg hk) ?_ ?_ (show f.pins = pins i from h.pinOf hf) (fun _ _ => rfl)
  · rintro x e hd
    injection e with e
    rw [← e] at hd; cases hd
  · rintro x e
    injection e with e
    rw [← e]
    show num ((wrB f.p off b lsn).take 8) < _
    rw [p1]; exact hl.2
  · rintro x e -
    injection e with e
    rw [← e]
    show 0 < (if f.dirty = true then f.since else lsn) ∧ (if f.dirty = true then f.since else lsn) ≤ num ((wrB f.p off b lsn).take 8)
    rw [p1]
    by_cases hd : f.dirty = true
    · rw [if_pos hd]
      have := h.ds i f hf hd
      have e2 : lsnP f = num ((C i).take 8) := by unfold lsnP; rw [hc]
      omega
    · rw [if_neg hd]; omega
  · show wrB f.p off b lsn = if i = i then _ else _
    rw [if_pos rfl, hc]
  · show _ ≤ num ((if i = i then _ else _ : List Int).take 8)
    rw [if_pos rfl, ← hc, p1, hc]; exact hle
  · show (if i = i then _ else _ : List Int).length = 512
    rw [if_pos rfl, ← hc]
    have e : (wrB f.p off b lsn).length = (u8L lsn ++ f.p.drop 8).length := length_splice _ _ _ (by rw [List.length_append, List.length_drop, hlen, u8L_len]; omega)
    rw [e, List.length_append, List.length_drop, hlen, u8L_len]
theorem Pv.app {p : List Int} (h : Pv s n mo C pins) (hI : LgI (appL s.L 0 p)) (he : endL (appL s.L 0 p) ≤ 1000) : Pv ⟨s.P, s.D, appL s.L 0 p⟩ n mo C pins := by
  have hen := appL_end s.L 0 p
  exact ⟨h.pg, h.at_, h.ms, h.hn, h.dn, ⟨hI, h.inv.q, h.inv.len, by show endL (appL s.L 0 p) ≤ _; omega, h.inv.ops, h.inv.way⟩, ⟨h.ll.1, h.ll.2.1, (Int.add_zero _).trans h.ll.2.2.1, h.ll.2.2.2⟩, h.rng, h.cl, h.gn, h.dl, fun k f hf => by have := h.fl k f hf; show lsnP f < endL (appL s.L 0 p); omega, h.val, h.pn, h.ds, h.gs, h.len⟩
/-- What is durable needs no mark. -/
theorem Pv.wipe (h : Pv s n mo C pins) (hd : ∀ k, 0 ≤ k → k < n → s.D.l.getD (pgI k) [] = readD s.D (pgI k)) : Pv ⟨wipeP s.P, s.D, s.L⟩ n mo C pins :=
  ⟨h.pg, h.at_, h.ms, h.hn, h.dn, h.inv.same rfl rfl, h.ll, h.rng, h.cl, fun k h0 h1 _ => hd k h0 h1, h.dl, h.fl, h.val, h.pn, h.ds, fun _ _ e => (by cases e), h.len⟩
/-- The log's Flush, where it writes. -/
theorem Pv.lfl (h : Pv s n mo C pins) (hne : s.L.sure ≠ endL s.L) (hF : Fits s) :
    Pv ⟨s.P, flD s.D s.L, flL s.L⟩ n mo C pins ∧ s.D.ops < (flD s.D s.L).ops ∧ (flD s.D s.L).ops ≤ s.D.ops + 3 ∧ (flD s.D s.L).way = [] ∧ endL (flL s.L) = endL s.L ∧ (flL s.L).sure = endL s.L ∧ flZ s.D s.L = flL s.L ∧ (∀ k, 0 ≤ k → k < n → (flD s.D s.L).l.getD (pgI k) [] = readD (flD s.D s.L) (pgI k)) := by
  obtain ⟨hE, hQ, hlen, hop1, hop2, hway, hZ⟩ := fl_q s.L h.inv.q
  rw [if_neg hne] at hZ
  have hpage := fun k h0 h1 => fl_page h.inv.q h.inv.li.ok h.ll.1 h.ll.2.1 (pgI k) (h.pgl (k := k) h0 h1).1 (h.pgl h0 h1).2
  have hn := h.hn
  have h00 := (hpage 0 (by omega) (by omega)).2 hne
  have hnp := nparts_le h.inv.li hF.b hF.e
  have hen := flL_end h.inv.li
  have hli := fl_ok h.inv.li h.inv.en
  have ho := hF.o
  have hbase : ∀ k, 0 ≤ k → k < n → (flD s.D s.L).l.getD (pgI k) [] = readD (flD s.D s.L) (pgI k) := fun k h0 h1 => by
    rw [(hpage k h0 h1).1]; exact ((hpage k h0 h1).2 hne).2.1
  refine ⟨⟨h.pg, h.at_, h.ms, h.hn, by rw [show (⟨s.P, flD s.D s.L, flL s.L⟩ : St).D.l.length = s.D.l.length from hlen]; exact h.dn, ⟨hli, hQ, by rw [show (⟨s.P, flD s.D s.L, flL s.L⟩ : St).D.l.length = s.D.l.length from hlen]; exact h.inv.len, by show endL (flL s.L) ≤ _; rw [hen]; exact h.inv.en, by show (flD s.D s.L).ops ≤ _; omega, by show (flD s.D s.L).way.length ≤ _; rw [h00.2.2]; simp⟩, h.ll, h.rng, fun k f hf hd => ?_, fun k h0 h1 _ => hbase k h0 h1, fun k h0 h1 => ?_, fun k f hf => ?_, fun k h0 h1 => ?_, h.pn, h.ds, h.gs, h.len⟩, h00.1, by omega, h00.2.2, hen, rfl, hZ, hbase⟩
  · have := h.rng k f hf
    show f.p = readD (flD s.D s.L) (pgI k)
    rw [(hpage k this.1 this.2).1]; exact h.cl k f hf hd
  · show num ((readD (flD s.D s.L) (pgI k)).take 8) < endL s.L
    rw [(hpage k h0 h1).1]
    have := h.dl k h0 h1
    have := h.inv.li.ok.sure
    omega
  · show lsnP f < endL (flL s.L)
    rw [hen]; exact h.fl k f hf
  · rw [← h.val k h0 h1]
    unfold cont
    show (match s.P.fr k with | some f => f.p | none => readD (flD s.D s.L) (pgI k)) = _
    cases s.P.fr k with
    | some f => rfl
    | none => exact (hpage k h0 h1).1
theorem Pv.flush (h : Pv s n mo C pins) (hne : s.L.sure ≠ endL s.L) (hF : Fits s) :
    Pv (flushS s) n mo C pins ∧ (flushS s).L.sure = endL s.L ∧ endL (flushS s).L = endL s.L ∧ (flushS s).D.ops ≤ s.D.ops + 3 ∧ (flushS s).D.way = [] ∧ (flushS s).P.fr = s.P.fr ∧ (flushS s).P.ks = s.P.ks := by
  obtain ⟨f1, f2, f3, f4, f5, f6, f7, f8⟩ := h.lfl hne hF
  have hP : flushS s = ⟨wipeP s.P, flD s.D s.L, flL s.L⟩ := by unfold flushS; rw [if_pos f2, f7]
  rw [hP]
  exact ⟨f1.wipe f8, f6, f5, f3, f4, rfl, rfl⟩
end
end Go.Proofs.Ytggeepihkeocmaa
