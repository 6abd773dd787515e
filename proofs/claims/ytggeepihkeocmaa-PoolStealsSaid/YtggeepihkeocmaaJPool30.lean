/- Joined texts: PlSc. -/
import Derived.Test.YtggeepihkeocmaaJPool29
/- PoolSteals: the way behind the loop: unpinned, flushed, and the disk without its way. -/
namespace Go.Proofs.Ytggeepihkeocmaa
set_option linter.unusedVariables false
set_option linter.unusedSimpArgs false
open Go.RowKit Go.Maps
theorem rise_len9 : ∀ (l : List Int) (a b : Int), l.Pairwise (· < ·) → (∀ k ∈ l, a ≤ k ∧ k < b) → a ≤ b → (l.length : Int) ≤ b - a
  | [], a, b, _, _, h => by show (0 : Int) ≤ _; omega
  | x :: l, a, b, hp, hr, h => by
    have hx := hr x (by simp)
    obtain ⟨h1, h2⟩ := List.pairwise_cons.1 hp
    have := rise_len9 l (x + 1) b h2 (fun k hk => ⟨by have := h1 k hk; omega, (hr k (by simp [hk])).2⟩) (by omega)
    rw [List.length_cons]
    omega
theorem Sv.unpin {s : St} {last : Int → Int} {pn : Int} (h : Sv s last pn) (h0 : 0 ≤ pn) : ∃ f, s.P.fr pn = some f ∧ 0 < f.pins ∧ Sv ⟨setFr s.P pn (pinF f (-1)), s.D, s.L⟩ last (-1) := by
  obtain ⟨f, hf, hp⟩ := h.pin h0
  have hfr : ∀ k, (setFr s.P pn (pinF f (-1))).fr k = if k = pn then some (pinF f (-1)) else s.P.fr k := fun _ => rfl
  have hsub : ∀ k x, (setFr s.P pn (pinF f (-1))).fr k = some x → (k = pn ∧ x = pinF f (-1)) ∨ (k ≠ pn ∧ s.P.fr k = some x) := fun k x hx => by
    rw [hfr] at hx
    by_cases e : k = pn
    · rw [if_pos e] at hx; injection hx with hx; exact .inl ⟨e, hx.symm⟩
    · rw [if_neg e] at hx; exact .inr ⟨e, hx⟩
  refine ⟨f, hf, by omega, h.pg, h.at_, h.ms, h.dn, h.inv.same rfl rfl, h.ll, fun k x hx => ?_, fun k x hx hdx => ?_, h.gn, h.dl, fun k x hx => ?_, fun k h0 h1 => ?_, fun e => absurd e (by omega), fun k x hx hk => ?_⟩
  · rcases hsub k x hx with ⟨e, -⟩ | ⟨-, hx⟩
    · rw [e]; exact h.rng pn f hf
    · exact h.rng k x hx
  · rcases hsub k x hx with ⟨e, e2⟩ | ⟨-, hx⟩
    · rw [e, e2]; exact h.cl pn f hf (by rw [e2] at hdx; exact hdx)
    · exact h.cl k x hx hdx
  · rcases hsub k x hx with ⟨e, e2⟩ | ⟨-, hx⟩
    · show num (x.p.take 8) < endL s.L
      rw [e2]; exact h.fl pn f hf
    · exact h.fl k x hx
  · rw [← h.val k h0 h1]
    congr 1
    unfold cont
    show (match (setFr s.P pn (pinF f (-1))).fr k with | some f => f.p | none => readD s.D (pgI k)) = _
    rw [hfr]
    by_cases e : k = pn
    · rw [if_pos e, e, hf] <;> rfl
    · rw [if_neg e] <;> rfl
  · rcases hsub k x hx with ⟨e, e2⟩ | ⟨e, hx⟩
    · rw [e2]; show f.pins + -1 = 0; omega
    · exact h.unp k x hx e
theorem cleanAll_keep : ∀ (l : List Int) (s : St), (∀ k, ((cleanAll s l).P.fr k).isSome = (s.P.fr k).isSome)
  | [], s, k => rfl
  | i :: l, s, k => by
    unfold cleanAll
    cases hf : s.P.fr i with
    | none => exact cleanAll_keep l s k
    | some f => exact (cleanAll_keep l (cleanS s i f) k).trans ((cleanS_P s i f hf).2.1 k)
theorem sync_way (D : Dk) : (syncD D).way = [] := rfl
theorem read_none {D : Dk} (h : D.way = []) (k : Nat) : readD D k = D.l.getD k [] := by
  unfold readD
  rw [h]
  rfl
/-- Behind the loop. -/
theorem steal_end {s : St} {last : Int → Int} (h : Sv s last (-1)) (hk : KeyOk s) (hb : 480 ≤ s.L.sure) (he : endL s.L ≤ 1000) (ho : s.D.ops ≤ 200000) (hw : s.D.way.length ≤ 200000) :
    (∀ j, j ≤ s.P.ks.length → Inv (cleanAll s (s.P.ks.take j))) ∧ (∀ k, 0 ≤ k → k < 9 → (allS s).P.gone k = none → ((allS s).D.l.getD (pgI k) []).getD 11 0 = last k) ∧ (allS s).D.l.length = 50 ∧ Qt (allS s).D := by
  have hin : ∀ k ∈ s.P.ks, (s.P.fr k).isSome = true := fun k hm => (hk.1 k).1 hm
  have hlen := rise_len9 s.P.ks 0 9 hk.2.2 (fun k hm => by
    obtain ⟨f, hf⟩ := Option.isSome_iff_exists.1 (hin k hm)
    exact h.rng k f hf) (by omega)
  refine ⟨fun j hj => ?_, ?_⟩
  · have hl : (s.P.ks.take j).length ≤ s.P.ks.length := by rw [List.length_take]; omega
    exact (h.cleanAll (s.P.ks.take j) s (fun k hm => hin k (List.mem_of_mem_take hm)) hb he (by omega) (by omega)).1.inv
  · obtain ⟨c1, c2, -, -⟩ := h.cleanAll s.P.ks s hin hb he (by omega) (by omega)
    have hkeep := cleanAll_keep s.P.ks s
    have hread : ∀ k, 0 ≤ k → k < 9 → (readD (cleanAll s s.P.ks).D (pgI k)).getD 11 0 = last k := fun k h0 h1 => by
      rw [← c1.val k h0 h1]
      unfold cont
      cases hf : (cleanAll s s.P.ks).P.fr k with
      | none => rfl
      | some f =>
        have : f.dirty = false := c2 k f hf (.inl ((hk.1 k).2 (by rw [← hkeep k, hf]; rfl)))
        show _ = f.p.getD 11 0
        rw [c1.cl k f hf this]
    unfold allS
    by_cases hg : (cleanAll s s.P.ks).P.gs = []
    · rw [if_pos hg]
      exact ⟨fun k h0 h1 hgn => by rw [c1.gn k h0 h1 hgn]; exact hread k h0 h1, c1.dn, c1.inv.q⟩
    · rw [if_neg hg]
      refine ⟨fun k h0 h1 _ => ?_, (sync_len _).trans c1.dn, c1.inv.q.sy⟩
      have hp := pgI_lt h0 h1
      show ((syncD (cleanAll s s.P.ks).D).l.getD (pgI k) []).getD 11 0 = last k
      rw [← read_none (sync_way _) (pgI k), readD_sync (pgI k) (by rw [c1.dn]; exact hp.2)]
      exact hread k h0 h1
theorem allS_gs (s : St) : (allS s).P.gs = [] := by
  unfold allS
  by_cases h : (cleanAll s s.P.ks).P.gs = []
  · rw [if_pos h]; exact h
  · rw [if_neg h] <;> rfl
section
variable {w w' : World} {base la x d lb g pp : Nat} {s t : St}
theorem WY.gone (h : WY w base la x d lb g pp s) (hg : s.P.gs = []) (k : Int) : s.P.gone k = none := by
  obtain ⟨F, bA, bc, o, kx, hP, -⟩ := h
  obtain ⟨D, -, -, -, -, h5, -⟩ := hP.p.gm
  cases e : s.P.gone k with
  | none => rfl
  | some v =>
    have := (h5 k).2 (by rw [e]; rfl)
    rw [hg] at this
    cases this
theorem wy_rest (h : WY w base la x d lb g pp s) :
    Calls Try.prog 25 #[.pointer (some ⟨d, 0, none⟩), .slice none 0 0] w fun e w' => e = .returned (.int .i64 0) ∧ At w' x #[.pointer (some ⟨d, 0, none⟩), .pointer (some ⟨g, 0, none⟩), .pointer (some ⟨pp, 0, none⟩)] 30 ∧ (∀ cs T, At w la cs T → At w' la cs T) ∧ (∃ F', DD w' base d lb F' (restD s.D 0 [])) ∧ Below base w w' := by
  obtain ⟨F, bA, bc, o, kx, hP, hx, hl, hl2⟩ := h
  obtain ⟨pA, mc, h1, h2⟩ := hP.d
  refine (rest_calls (n := 0) (kc := 0) (kA := none) (kl := []) w h1.k ⟨rfl, Rd.nil _ _ _ _ _⟩ (fun h0 => absurd h0 (by omega))).mono ?_
  rintro e w' ⟨rfl, hd, hm⟩
  have hF : ∀ k, FootL d lb k → FTo g pp F bA o s.P k := fun k hk => .inl ((h2 k).2 (hk.elim .inl (fun h => .inr (.inl h))))
  exact ⟨rfl, kx.mod hm (fun hf => hx (hF _ hf)), fun cs T ha => ha.mod hm (fun hf => hl (hF _ hf)), ⟨_, DD.of ⟨hd, h1.hd, h1.hl, fun b hb => by cases hb⟩⟩, hm.below hP.bw (fun k hk => (hP.lts k (hF k hk)).1)⟩
end
end Go.Proofs.Ytggeepihkeocmaa
