/- Joined texts: PlR, PlS. -/
import Derived.Test.YtggeepihkeocmaaJPlays26
/- PoolPins: what the calls make of the pool (plain). -/
namespace Go.Proofs.Ytggeepihkeocmaa
set_option linter.unusedVariables false
set_option linter.unusedSimpArgs false
open Go.RowKit Go.Maps
/-- The pinned pages X, the others that are in memory Y. -/
structure Fz (s : St) (n c : Int) (X Y : Int → Prop) : Prop where
  pg : s.P.pages = n + 1
  ms : s.P.most = n
  ck : s.P.clock = c
  inv : Inv s
  fr1 : ∀ k, X k → ∃ f, s.P.fr k = some f ∧ f.pins = 1 ∧ f.dirty = false
  fr0 : ∀ k, Y k → ∃ f, s.P.fr k = some f ∧ f.pins = 0 ∧ f.dirty = false
  no : ∀ k, ¬ X k → ¬ Y k → s.P.fr k = none
def KeyOk (s : St) : Prop := (∀ k, k ∈ s.P.ks ↔ (s.P.fr k).isSome = true) ∧ (∀ k ∈ s.P.ks, (0 : Int) ≤ k) ∧ s.P.ks.Pairwise (· < ·)
theorem insK_new {k : Int} : ∀ {l : List Int}, k ∉ l → (insK k l).length = l.length + 1
  | [], _ => by simp [insK]
  | j :: l, h => by
    have h1 : k ≠ j := fun e => h (by simp [e])
    have h2 : k ∉ l := fun e => h (by simp [e])
    unfold insK
    by_cases hl : k < j
    · rw [if_pos hl]; simp
    · rw [if_neg hl, if_neg h1]
      simp [insK_new h2]
theorem filter_one {l : List Int} {b : Int} (h : b ∈ l) (hr : l.Pairwise (· < ·)) : (l.filter (fun j => decide (j ≠ b))).length + 1 = l.length := by
  induction l with
  | nil => cases h
  | cons x l ih =>
    have h1 := List.pairwise_cons.1 hr
    by_cases hx : x = b
    · subst hx
      rw [List.filter_cons_of_neg (by simp)]
      have : l.filter (fun j => decide (j ≠ x)) = l := List.filter_eq_self.2 (fun a ha => by have := h1.1 a ha; simp; omega)
      rw [this]; rfl
    · have h2 : b ∈ l := (List.mem_cons.1 h).resolve_left (fun e => hx e.symm)
      rw [List.filter_cons_of_pos (by simp [hx])]
      have := ih h2 h1.2
      simp only [List.length_cons]; omega
theorem best_ge (P : Pl) : ∀ (l : List Int) (b : Int), (∀ k ∈ l, (0 : Int) ≤ k) → (0 ≤ b ∨ ∃ k ∈ l, pinsOf P k = 0) → 0 ≤ bestF P l b
  | [], b, _, h => by
    rcases h with h | ⟨k, hk, -⟩
    · exact h
    · cases hk
  | i :: l, b, hk, h => by
    unfold bestF
    have hk2 : ∀ k ∈ l, (0 : Int) ≤ k := fun k hh => hk k (by simp [hh])
    have hi := hk i (by simp)
    by_cases hc : pinsOf P i = 0 ∧ (b < 0 ∨ usedOf P i < usedOf P b)
    · rw [if_pos hc]; exact best_ge P l i hk2 (.inl hi)
    · rw [if_neg hc]
      refine best_ge P l b hk2 ?_
      by_cases hb : 0 ≤ b
      · exact .inl hb
      · rcases h with h | ⟨k, hkm, hp⟩
        · exact .inl h
        · rcases List.mem_cons.1 hkm with rfl | hkm
          · exact absurd ⟨hp, .inl (by omega)⟩ hc
          · exact .inr ⟨k, hkm, hp⟩
theorem Inv.same {s t : St} (h : Inv s) (hD : t.D = s.D) (hL : t.L = s.L) : Inv t := ⟨by rw [hL]; exact h.li, by rw [hD]; exact h.q, by rw [hD, hL]; exact h.len, by rw [hL]; exact h.en, by rw [hD]; exact h.ops, by rw [hD]; exact h.way⟩
section
variable {s : St} {n c i : Int} {X Y : Int → Prop}
theorem Fz.pinned (h : Fz s n c X (fun _ => False)) (hk : KeyOk s) : evE ⟨tickP s.P, s.D, s.L⟩ = 9 := by
  have hb : bestF (tickP s.P) s.P.ks (-1) = -1 := by
    rcases sc_len (tickP s.P) (-1) s.P.ks hk.2.1 with e | ⟨e1, e2⟩
    · exact e
    · exfalso
      obtain ⟨k, hke⟩ : ∃ k, bestF (tickP s.P) s.P.ks (-1) = k := ⟨_, rfl⟩
      rw [hke] at e1 e2
      have h3 := (hk.1 k).1 e1
      by_cases hX : X k
      · obtain ⟨f, hf, hp, -⟩ := h.fr1 k hX
        have e3 : pinsOf (tickP s.P) k = f.pins := by
          show (match s.P.fr k with | some f => f.pins | none => 0) = _
          rw [hf]
        rw [e3, hp] at e2; exact absurd e2 (by decide)
      · rw [h.no k hX (fun h => h)] at h3; cases h3
  unfold evE
  rw [if_pos (by show bestF (tickP s.P) s.P.ks (-1) < 0; rw [hb]; omega)]
theorem Fz.full (h : Fz s n c X (fun _ => False)) (hk : KeyOk s) (hl : (s.P.ks.length : Int) = n) (hi : 0 ≤ i ∧ i ≤ n) (hX : ¬ X i) : getE s i = 9 ∧ getS s i = ⟨tickP s.P, s.D, s.L⟩ ∧ Fz (getS s i) n (c + 1) X (fun _ => False) ∧ (getS s i).P.ks = s.P.ks := by
  obtain ⟨e1, e2⟩ := getS_full (s := s) (i := i) (by rw [h.pg]; omega) (h.no i hX (fun h => h)) (by rw [h.ms]; omega) (h.pinned hk)
  rw [e2]
  exact ⟨e1, rfl, ⟨h.pg, h.ms, by show s.P.clock + 1 = _; rw [h.ck], h.inv.same rfl rfl, h.fr1, h.fr0, h.no⟩, rfl⟩
theorem Fz.pin (h : Fz s n c X (fun _ => False)) (hk : KeyOk s) (hl : (s.P.ks.length : Int) < n) (hi : 0 ≤ i ∧ i ≤ n) (hX : ¬ X i) :
    getE s i = 0 ∧ (∀ f, (getS s i).P.fr i = some f → f.pins < 1000000) ∧ Fz (pinS s i) n (c + 1) (fun k => k = i ∨ X k) (fun _ => False) ∧ (pinS s i).P.ks.length = s.P.ks.length + 1 := by
  have hno := h.no i hX (fun h => h)
  obtain ⟨e1, e2⟩ := getS_new (s := s) (i := i) (by rw [h.pg]; omega) hno (by rw [h.ms]; omega)
  have hfr : (getS s i).P.fr i = some (newFr ⟨tickP s.P, s.D, s.L⟩ i) := by rw [e2]; exact addFr_fr _ _
  have hp : pinS s i = ⟨setFr (addFr ⟨tickP s.P, s.D, s.L⟩ i).P i (pinF (newFr ⟨tickP s.P, s.D, s.L⟩ i) 1), s.D, s.L⟩ := by
    unfold pinS
    rw [hfr, e2]
    rfl
  refine ⟨e1, fun f hf => ?_, ?_, ?_⟩
  · rw [hfr] at hf; injection hf with hf; subst hf; show (0 : Int) < _; omega
  · rw [hp]
    refine ⟨h.pg, h.ms, by show s.P.clock + 1 = _; rw [h.ck], h.inv.same rfl rfl, fun k hkx => ?_, fun k hf => hf.elim, fun k hkx _ => ?_⟩
    · by_cases hki : k = i
      · subst hki; exact ⟨_, setFr_fr _ _ _, rfl, rfl⟩
      · obtain ⟨f, hf, h1, h2⟩ := h.fr1 k (hkx.resolve_left hki)
        exact ⟨f, (setFr_ne _ _ hki).trans ((addFr_ne _ hki).trans hf), h1, h2⟩
    · have hki : k ≠ i := fun e => hkx (.inl e)
      exact (setFr_ne _ _ hki).trans ((addFr_ne _ hki).trans (h.no k (fun h => hkx (.inr h)) (fun h => h)))
  · rw [hp]
    refine insK_new (fun hm => ?_)
    have := (hk.1 i).1 hm
    rw [hno] at this; cases this
theorem Fz.unpin (h : Fz s n c X (fun _ => False)) (hX : X i) : ∃ f, s.P.fr i = some f ∧ 0 < f.pins ∧ Fz ⟨setFr s.P i (pinF f (-1)), s.D, s.L⟩ n c (fun k => k ≠ i ∧ X k) (fun k => k = i) := by
  obtain ⟨f, hf, h1, h2⟩ := h.fr1 i hX
  refine ⟨f, hf, by omega, h.pg, h.ms, h.ck, h.inv.same rfl rfl, fun k hk => ?_, fun k hk => ?_, fun k hk1 hk2 => ?_⟩
  · obtain ⟨f', hf', h1', h2'⟩ := h.fr1 k hk.2
    exact ⟨f', (setFr_ne _ _ hk.1).trans hf', h1', h2'⟩
  · subst hk
    exact ⟨_, setFr_fr _ _ _, by show f.pins + (-1) = 0; omega, h2⟩
  · exact (setFr_ne _ _ hk2).trans (h.no k (fun hx => hk1 ⟨hk2, hx⟩) (fun h => h))
theorem Fz.swap {j : Int} (h : Fz s n c X (fun k => k = j)) (hk : KeyOk s) (hl : (s.P.ks.length : Int) = n) (hi : 0 ≤ i ∧ i ≤ n) (hX : ¬ X i) (hij : i ≠ j) (hXj : ¬ X j) :
    getE s i = 0 ∧ Fz (getS s i) n (c + 1) X (fun k => k = i) ∧ (getS s i).P.ks.length = s.P.ks.length := by
  obtain ⟨f, hf, hp, hd⟩ := h.fr0 j rfl
  have hpj : pinsOf (tickP s.P) j = 0 := by
    show (match s.P.fr j with | some f => f.pins | none => 0) = 0
    rw [hf]; exact hp
  have hjm : j ∈ s.P.ks := (hk.1 j).2 (by rw [hf]; rfl)
  have hj0 := hk.2.1 j hjm
  have hb : bestF (tickP s.P) s.P.ks (-1) = j := by
    have hge := best_ge (tickP s.P) s.P.ks (-1) hk.2.1 (.inr ⟨j, hjm, hpj⟩)
    rcases sc_len (tickP s.P) (-1) s.P.ks hk.2.1 with e | ⟨e1, e2⟩
    · omega
    · obtain ⟨k, hke⟩ : ∃ k, bestF (tickP s.P) s.P.ks (-1) = k := ⟨_, rfl⟩
      rw [hke] at e1 e2 ⊢
      have h3 := (hk.1 k).1 e1
      by_cases hXk : X k
      · obtain ⟨f', hf', hp', -⟩ := h.fr1 k hXk
        have e3 : pinsOf (tickP s.P) k = f'.pins := by
          show (match s.P.fr k with | some f => f.pins | none => 0) = _
          rw [hf']
        rw [e3, hp'] at e2; exact absurd e2 (by decide)
      · by_cases hkj : k = j
        · exact hkj
        · rw [h.no k hXk hkj] at h3; cases h3
  have hev := evS_best (s := ⟨tickP s.P, s.D, s.L⟩) hb hj0 (show s.P.fr j = some f from hf)
  have hcl : cleanS ⟨tickP s.P, s.D, s.L⟩ j f = ⟨tickP s.P, s.D, s.L⟩ := by unfold cleanS; rw [if_neg (by rw [hd]; decide)]
  rw [hcl] at hev
  obtain ⟨e1, e2⟩ := getS_ev (s := s) (i := i) (by rw [h.pg]; omega) (h.no i hX hij) (by rw [h.ms]; omega) hev.1
  rw [hev.2] at e2
  have hnoi : i ∉ (delFr (tickP s.P) j).ks := fun hm => by
    have hm2 : i ∈ s.P.ks := (List.mem_filter.1 hm).1
    have := (hk.1 i).1 hm2
    rw [h.no i hX hij] at this; cases this
  refine ⟨e1, ?_, ?_⟩
  · rw [e2]
    refine ⟨h.pg, h.ms, by show s.P.clock + 1 = _; rw [h.ck], h.inv.same rfl rfl, fun k hkx => ?_, fun k hk => ?_, fun k hk1 hk2 => ?_⟩
    · have hki : k ≠ i := fun e => hX (e ▸ hkx)
      have hkj : k ≠ j := fun e => hXj (e ▸ hkx)
      obtain ⟨f', hf', h1, h2⟩ := h.fr1 k hkx
      exact ⟨f', (addFr_ne _ hki).trans ((delFr_ne _ hkj).trans hf'), h1, h2⟩
    · subst hk
      exact ⟨_, addFr_fr _ _, rfl, rfl⟩
    · refine (addFr_ne _ hk2).trans ?_
      by_cases hkj : k = j
      · subst hkj; exact delFr_fr _ _
      · exact (delFr_ne _ hkj).trans (h.no k hk1 hkj)
  · rw [e2]
    have h1 : (insK i (delFr (tickP s.P) j).ks).length = (delFr (tickP s.P) j).ks.length + 1 := insK_new hnoi
    have h2 : (s.P.ks.filter (fun k => decide (k ≠ j))).length + 1 = s.P.ks.length := filter_one hjm hk.2.2
    show (insK i (delFr (tickP s.P) j).ks).length = _
    rw [h1]
    exact h2
theorem Fz.hit (h : Fz s n c X (fun k => k = i)) (hi : 0 ≤ i ∧ i ≤ n) :
    getE s i = 0 ∧ (∀ f, (getS s i).P.fr i = some f → f.pins < 1000000) ∧ Fz (pinS s i) n (c + 1) (fun k => k = i ∨ X k) (fun _ => False) ∧ (pinS s i).P.ks = s.P.ks := by
  obtain ⟨f, hf, hp, hd⟩ := h.fr0 i rfl
  have h0 : ¬ (i < 0 ∨ s.P.pages ≤ i) := by rw [h.pg]; omega
  have e1 : getE s i = 0 := by unfold getE; rw [if_neg h0, hf]; rfl
  have e2 : getS s i = ⟨setFr (tickP s.P) i { f with used := s.P.clock + 1 }, s.D, s.L⟩ := by unfold getS; rw [if_neg h0, hf]
  have hfr : (getS s i).P.fr i = some { f with used := s.P.clock + 1 } := by rw [e2]; exact setFr_fr _ _ _
  have hpn : pinS s i = ⟨setFr (setFr (tickP s.P) i { f with used := s.P.clock + 1 }) i (pinF { f with used := s.P.clock + 1 } 1), s.D, s.L⟩ := by
    unfold pinS
    rw [hfr, e2]
  refine ⟨e1, fun f' hf' => ?_, ?_, ?_⟩
  · rw [hfr] at hf'; injection hf' with hf'; subst hf'; show f.pins < _; omega
  · rw [hpn]
    refine ⟨h.pg, h.ms, by show s.P.clock + 1 = _; rw [h.ck], h.inv.same rfl rfl, fun k hkx => ?_, fun k hf => hf.elim, fun k hkx _ => ?_⟩
    · by_cases hki : k = i
      · subst hki; exact ⟨_, setFr_fr _ _ _, by show f.pins + 1 = 1; omega, hd⟩
      · obtain ⟨f', hf', h1, h2⟩ := h.fr1 k (hkx.resolve_left hki)
        exact ⟨f', (setFr_ne _ _ hki).trans ((setFr_ne _ _ hki).trans hf'), h1, h2⟩
    · have hki : k ≠ i := fun e => hkx (.inl e)
      exact (setFr_ne _ _ hki).trans ((setFr_ne _ _ hki).trans (h.no k (fun h => hkx (.inr h)) hki))
  · rw [hpn]; rfl
end
theorem fresh_fz {n : Int} (hn : 1 ≤ n ∧ n ≤ 10) : Fz (freshS (n + 1) n) n 0 (fun _ => False) (fun _ => False) :=
  ⟨rfl, rfl, rfl, fresh_inv (by omega), fun _ h => h.elim, fun _ h => h.elim, fun _ _ _ => rfl⟩
theorem Fz.to {s : St} {n c : Int} {X Y X' Y' : Int → Prop} (h : Fz s n c X Y) (hX : ∀ k, X k ↔ X' k) (hY : ∀ k, Y k ↔ Y' k) : Fz s n c X' Y' :=
  ⟨h.pg, h.ms, h.ck, h.inv, fun k hk => h.fr1 k ((hX k).2 hk), fun k hk => h.fr0 k ((hY k).2 hk), fun k h1 h2 => h.no k (fun h => h1 ((hX k).1 h)) (fun h => h2 ((hY k).1 h))⟩
theorem PWo.keys {w : World} {base d lb g pp bc : Nat} {F : Nat → Prop} {bA : Option Addr} {o : Lo} {s : St} (h : PWo w base d lb g pp F bA bc o s) : KeyOk s :=
  ⟨h.key, fun k hk => by
    obtain ⟨f, hf⟩ := Option.isSome_iff_exists.1 ((h.key k).1 hk)
    exact (h.ok.fr k f hf).2.1, h.rise⟩
end Go.Proofs.Ytggeepihkeocmaa
/- PoolPins: the walk of the law. -/
namespace Go.Proofs.Ytggeepihkeocmaa
set_option linter.unusedVariables false
set_option linter.unusedSimpArgs false
open Go.RowKit Go.Maps
/-- A law's world of a pool. -/
def WX (w : World) (base x d lb g pp : Nat) (s : St) : Prop := ∃ F bA bc o, At w x #[.pointer (some ⟨d, 0, none⟩), .pointer (some ⟨g, 0, none⟩), .pointer (some ⟨pp, 0, none⟩)] 30 ∧ PWo w base d lb g pp F bA bc o s ∧ ¬ FTo g pp F bA o s.P x
section
variable {w w' : World} {base x d lb g pp : Nat} {s t : St} {F : Nat → Prop} {bA : Option Addr} {bc : Nat} {o o' : Lo}
theorem wx_on (kx : At w x #[.pointer (some ⟨d, 0, none⟩), .pointer (some ⟨g, 0, none⟩), .pointer (some ⟨pp, 0, none⟩)] 30) (hP : PWo w base d lb g pp F bA bc o s) (hx : ¬ FTo g pp F bA o s.P x) (h : POn w w' base d lb g pp (FTo g pp F bA o s.P) o' t) : WX w' base x d lb g pp t ∧ Below base w w' := by
  obtain ⟨F', bA', bc', h1, h2, h3⟩ := h
  exact ⟨⟨F', bA', bc', o', kx.mod h3 hx, h1, not_grew h2 hx kx.lt⟩, h3.below hP.bw (fun k hk => (hP.lts k hk).1)⟩
theorem WX.keys (h : WX w base x d lb g pp s) : KeyOk s := by obtain ⟨F, bA, bc, o, -, h1, -⟩ := h; exact h1.keys
theorem WX.at_ (h : WX w base x d lb g pp s) : At w x #[.pointer (some ⟨d, 0, none⟩), .pointer (some ⟨g, 0, none⟩), .pointer (some ⟨pp, 0, none⟩)] 30 := by obtain ⟨F, bA, bc, o, h1, -⟩ := h; exact h1
theorem wx_pin (i : Int) (h : WX w base x d lb g pp s) (hI : Inv s) (hc : s.P.clock + 1 ≤ 1000000) (he : getE s i = 0) (hp : ∀ f, (getS s i).P.fr i = some f → f.pins < 1000000) :
    Calls Try.prog 16 #[.pointer (some ⟨pp, 0, none⟩), .int .i64 i] w fun e w' => e = .returned (.int .i64 0) ∧ WX w' base x d lb g pp (pinS s i) ∧ Below base w w' := by
  obtain ⟨F, bA, bc, o, kx, hP, hx⟩ := h
  refine (pin_calls i w hP hI hc hp).mono ?_
  rw [he]
  rintro e w' ⟨rfl, (⟨hne, -⟩ | ⟨-, o', h⟩)⟩
  · exact absurd he hne
  · exact ⟨rfl, wx_on kx hP hx h⟩
theorem wx_read (i : Int) (h : WX w base x d lb g pp s) (hI : Inv s) (hc : s.P.clock + 1 ≤ 1000000) (he : getE s i = 0) :
    Calls Try.prog 17 #[.pointer (some ⟨pp, 0, none⟩), .int .i64 i] w fun e w' => ∃ v u, e = .returned (.tuple #[v, u, .int .i64 0]) ∧ WX w' base x d lb g pp (getS s i) ∧ Below base w w' := by
  obtain ⟨F, bA, bc, o, kx, hP, hx⟩ := h
  refine (pread_calls i w hP hI hc).mono ?_
  rintro e w' (⟨hne, -⟩ | ⟨-, f, A, c, -, rfl, -, o', h⟩)
  · exact absurd he hne
  · exact ⟨_, _, rfl, wx_on kx hP hx h⟩
theorem wx_readE (i E : Int) (h : WX w base x d lb g pp s) (hI : Inv s) (hc : s.P.clock + 1 ≤ 1000000) (he : getE s i = E) (hE : E ≠ 0) :
    Calls Try.prog 17 #[.pointer (some ⟨pp, 0, none⟩), .int .i64 i] w fun e w' => e = .returned (.tuple #[.slice none 0 0, .int .u64 0, .int .i64 E]) ∧ WX w' base x d lb g pp (getS s i) ∧ Below base w w' := by
  obtain ⟨F, bA, bc, o, kx, hP, hx⟩ := h
  refine (pread_calls i w hP hI hc).mono ?_
  rintro e w' (⟨-, rfl, o', h⟩ | ⟨h0, -⟩)
  · exact ⟨by rw [he], wx_on kx hP hx h⟩
  · exact absurd (he.symm.trans h0) hE
theorem wx_unpin (i : Int) (f : Fr) (h : WX w base x d lb g pp s) (hf : s.P.fr i = some f) (hp : 0 < f.pins) :
    Calls Try.prog 18 #[.pointer (some ⟨pp, 0, none⟩), .int .i64 i] w fun e w' => e = .returned (.int .i64 0) ∧ WX w' base x d lb g pp ⟨setFr s.P i (pinF f (-1)), s.D, s.L⟩ ∧ Below base w w' := by
  obtain ⟨F, bA, bc, o, kx, hP, hx⟩ := h
  refine (unpin_calls i f w hP hf hp).mono ?_
  rintro e w' ⟨rfl, h⟩
  exact ⟨rfl, wx_on kx hP hx h⟩
theorem wx_len (h : WX w base x d lb g pp s) :
    Calls Try.prog 19 #[.pointer (some ⟨pp, 0, none⟩)] w fun e w' => e = .returned (.int .i64 s.P.ks.length) ∧ w = w' := by
  obtain ⟨F, bA, bc, o, kx, hP, hx⟩ := h
  exact plen_calls w hP
end
set_option maxRecDepth 100000 in
set_option maxHeartbeats 8000000 in
theorem poolpins_calls (ct : Int) (h1 : 0 ≤ ct ∧ ct ≤ 255) (w : World) :
    Calls Try.prog 3 #[.int .u8 ct] w fun e w' => e = .returned (.bool true) ∧ Below w.heap.size w w' := by
  obtain ⟨n, hn⟩ : ∃ n : Nat, (n : Int) = 1 + ct % 10 := ⟨(1 + ct % 10).toNat, by omega⟩
  have hn1 : 1 ≤ n ∧ n ≤ 10 := by omega
  have t0 : IntKind.i64.wrap ct = ct := IntWalk.i64_in _ (by omega)
  have t1 : IntKind.i64.wrap (1 + ct.tmod 10) = (n : Int) := by rw [Int.tmod_eq_emod_of_nonneg h1.1, hn]; exact IntWalk.i64_in _ (by omega)
  have t2 : IntKind.i64.wrap ((n : Int) + 1) = (n : Int) + 1 := IntWalk.i64_in _ (by omega)
  have hn1x := Lib.hid hn1
  clear hn h1
  go_enter Try.func3, Try.ntmps3
  go_wp2_with fail
  refine (plawake_calls w).mono ?_
  rintro e w1 ⟨rfl, hb1⟩
  have hw1 := hb1.size
  go_wp2_with fail
  refine (pfresh_calls ((n : Int) + 1) n w1 (by omega) (by omega)).mono ?_
  rintro e w2 ⟨x, d, lb, g, pp, F, bA, bc, o, rfl, kx, hP, hx, hxl, hb2⟩
  have hW2 : WX w2 w1.heap.size x d lb g pp (freshS ((n : Int) + 1) n) := ⟨F, bA, bc, o, kx, hP, hx⟩
  have hB2 : Below w.heap.size w w2 := below_keep hb2 hb1
  have hF2 := fresh_fz (n := n) (by omega)
  have hWx := Lib.hid hW2
  have hFx := Lib.hid hF2
  clear kx hP hx hW2 hF2 hb2
  go_wp2_with fail
  go_loopw [5] (fun v5 wr => ∃ (i : Nat) (s : St), v5 = .int .i64 (i : Int) ∧ i ≤ n ∧ WX wr w1.heap.size x d lb g pp s ∧ Fz s n i (fun k => 0 ≤ k ∧ k < (i : Int)) (fun _ => False) ∧ s.P.ks.length = i ∧ Below w.heap.size w wr) (fun v5 _ => n - (intOf v5).toNat)
  case atStart => exact ⟨0, _, rfl, Nat.zero_le _, hWx.out, hFx.out.to (fun k => ⟨fun h => h.elim, fun h => by have := h.2; have := h.1; omega⟩) (fun _ => Iff.rfl), rfl, hB2⟩
  case round =>
    obtain ⟨i, s, rfl, hi, hW, hF, hl, hB⟩ := hrel
    have kx := hW.at_
    have hK := hW.keys
    have hWx := Lib.hid hW
    have hFx := Lib.hid hF
    have hlx := Lib.hid hl
    have hKx := Lib.hid hK
    have hck := Lib.hid hF.ck
    clear hW hF hl hK
    have kxc := kx.c; have kxf := kx.f; have kxl := kx.lt
    by_cases hlt : i < n
    · have hlti : (i : Int) < n := by omega
      obtain ⟨p1, p2, p3, p4⟩ := hFx.out.pin (i := i) hKx.out (by rw [hlx.out]; exact hlti) (by omega) (fun h => by have := h.2; omega)
      have p3x := Lib.hid p3
      have p4x := Lib.hid p4
      clear p3 p4
      go_wp2_with fail
      refine (wx_pin i hWx.out hFx.out.inv (by rw [hck.out]; have := hn1x.out; omega) p1 p2).mono ?_
      rintro e w3 ⟨rfl, hW3, hb3⟩
      have hB3 := below_tr hB (Below.mono hb3 hw1)
      clear p1 p2 kx kxc kxf kxl
      have hF3 : Fz (pinS s i) n ((i + 1 : Nat) : Int) (fun k => 0 ≤ k ∧ k < ((i + 1 : Nat) : Int)) (fun _ => False) := by
        have h := p3x.out.to (X' := fun k => 0 ≤ k ∧ k < ((i + 1 : Nat) : Int)) (Y' := fun _ => False) (fun k => by omega) (fun _ => Iff.rfl)
        have e : ((i + 1 : Nat) : Int) = (i : Int) + 1 := by omega
        rw [e] at h ⊢
        exact h
      have hF3x := Lib.hid hF3
      have hW3x := Lib.hid hW3
      clear hF3 hW3
      go_wp2
      go_roundw
      case rel => exact ⟨i + 1, _, by go_num, by omega, hW3x.out, hF3x.out, by rw [p4x.out, hlx.out], hB3⟩
      case measure => simp [intOf]; omega
    · have hlti : ¬ ((i : Int) < n) := by omega
      have hin : i = n := by omega
      have hnn := hn1x.out
      have hlen : (s.P.ks.length : Int) = n := by rw [hlx.out, hin]
      obtain ⟨f1, -, f3, f4⟩ := hFx.out.full (i := (n : Int)) hKx.out hlen (by omega) (fun h => by have := h.2; omega)
      have hckn : s.P.clock + 1 ≤ 1000000 := by rw [hck.out]; omega
      go_wp2_with fail
      refine (wx_readE n 9 hWx.out hFx.out.inv hckn f1 (by omega)).mono ?_
      rintro e w3 ⟨rfl, hW3, hb3⟩
      have hB3 := below_tr hB (Below.mono hb3 hw1)
      rw [← f4] at hlen
      generalize getS s n = s3 at *
      obtain ⟨fr, q1, q2, q3⟩ := f3.unpin (i := 0) (by omega)
      have k3 := hW3.at_
      have hW3x := Lib.hid hW3
      have q1x := Lib.hid q1
      have q2x := Lib.hid q2
      have q3x := Lib.hid q3
      have hlen3 := Lib.hid hlen
      have hc3 := Lib.hid f3.ck
      clear f1 f3 f4 kx kxc kxf kxl hW3 q1 q2 q3 hlen hckn
      have k3c := k3.c; have k3f := k3.f; have k3l := k3.lt
      go_wp2_with fail
      refine (wx_unpin 0 fr hW3x.out q1x.out q2x.out).mono ?_
      rintro e w4 ⟨rfl, hW4, hb4⟩
      have hB4 := below_tr hB3 (Below.mono hb4 hw1)
      have hlen4 : Hid (((⟨setFr s3.P 0 (pinF fr (-1)), s3.D, s3.L⟩ : St).P.ks.length : Int) = n) := Lib.hid hlen3.out
      have hF4 := q3x
      generalize (⟨setFr s3.P 0 (pinF fr (-1)), s3.D, s3.L⟩ : St) = s4 at *
      have k4 := hW4.at_
      obtain ⟨g1, g2, g3⟩ := hF4.out.swap (i := (n : Int)) hW4.keys hlen4.out (by omega) (fun h => by have := h.2.2; omega) (by omega) (fun h => h.1 rfl)
      have hW4x := Lib.hid hW4
      have g2x := Lib.hid g2
      have g3x := Lib.hid g3
      clear hW4 g2 g3 k3 k3c k3f k3l
      have k4c := k4.c; have k4f := k4.f; have k4l := k4.lt
      go_wp2_with fail
      refine (wx_read n hW4x.out hF4.out.inv (by rw [hF4.out.ck]; omega) g1).mono ?_
      rintro e w5 ⟨v5, u5, rfl, hW5, hb5⟩
      have hB5 := below_tr hB4 (Below.mono hb5 hw1)
      have hlen5 : Hid (((getS s4 n).P.ks.length : Int) = n) := Lib.hid (by rw [g3x.out]; exact hlen4.out)
      generalize getS s4 n = s5 at *
      have k5 := hW5.at_
      obtain ⟨i1, i2, i3, i4⟩ := g2x.out.hit (by omega)
      have hW5x := Lib.hid hW5
      have i3x := Lib.hid i3
      have i4x := Lib.hid i4
      clear hW5 i3 i4 k4 k4c k4f k4l g1
      have k5c := k5.c; have k5f := k5.f; have k5l := k5.lt
      go_wp2_with fail
      refine (wx_pin n hW5x.out g2x.out.inv (by rw [g2x.out.ck]; omega) i1 i2).mono ?_
      rintro e w6 ⟨rfl, hW6, hb6⟩
      have hB6 := below_tr hB5 (Below.mono hb6 hw1)
      have hlen6 : Hid (((pinS s5 n).P.ks.length : Int) = n) := Lib.hid (by rw [i4x.out]; exact hlen5.out)
      clear i2 i1
      generalize pinS s5 n = s6 at *
      have k6 := hW6.at_
      obtain ⟨j1, -, j3, j4⟩ := i3x.out.full (i := 0) hW6.keys hlen6.out (by omega) (fun h => h.elim (fun h => by omega) (fun h => h.1 rfl))
      have hW6x := Lib.hid hW6
      have j4x := Lib.hid j4
      clear hW6 j3 j4 k5 k5c k5f k5l
      have k6c := k6.c; have k6f := k6.f; have k6l := k6.lt
      go_wp2_with fail
      refine (wx_readE 0 9 hW6x.out i3x.out.inv (by rw [i3x.out.ck]; omega) j1 (by omega)).mono ?_
      rintro e w7 ⟨rfl, hW7, hb7⟩
      have hB7 := below_tr hB6 (Below.mono hb7 hw1)
      have hlen7 : (((getS s6 0).P.ks.length : Nat) : Int) = n := by rw [j4x.out]; exact hlen6.out
      have k7 := hW7.at_
      have hW7x := Lib.hid hW7
      have hlen7x := Lib.hid hlen7
      clear hW7 hlen7 k6 k6c k6f k6l j1
      have k7c := k7.c; have k7f := k7.f; have k7l := k7.lt
      go_wp2_with fail
      refine (wx_len hW7x.out).mono ?_
      rw [hlen7x.out]
      rintro e w8 ⟨rfl, rfl⟩
      go_wp2
      go_ret
      exact ⟨by first | rfl | simp, hB7⟩
end Go.Proofs.Ytggeepihkeocmaa
