/- Joined texts: PlI, PlJ. -/
import Derived.Test.YtggeepihkeocmaaJPlays22
/- The pool's get: the walk. -/
namespace Go.Proofs.Ytggeepihkeocmaa
set_option linter.unusedVariables false
set_option linter.unusedSimpArgs false
open Go.RowKit Go.Maps
/-- What get tells: a frame, or why there is none. -/
def GetTo (w w' : World) (base d lb g pp : Nat) (FT : Nat → Prop) (s : St) (i : Int) (e : Ending) : Prop :=
  (getE s i ≠ 0 ∧ e = .returned (.tuple #[.pointer none, .int .i64 (getE s i)]) ∧ ∃ o, POn w w' base d lb g pp FT o (getS s i)) ∨
  (getE s i = 0 ∧ ∃ o, e = .returned (.tuple #[.pointer (some ⟨o.blk i, 0, none⟩), .int .i64 0]) ∧ POn w w' base d lb g pp FT o (getS s i))
theorem SecB.bs9 {w : World} {b : Nat} {s : List Int} (h : SecB w b s) : BsR w b (b + 1) (some ⟨b, 0, none⟩) 512 s := by
  have := h.cutB 0 512 (Nat.le_refl _)
  rw [List.drop_zero, List.take_of_length_le (by have := h.2.1; omega)] at this
  exact this
set_option maxRecDepth 100000 in
set_option maxHeartbeats 8000000 in
theorem get_calls {base d lb g pp bc : Nat} {F : Nat → Prop} {bA : Option Addr} {o : Lo} {s : St} (i : Int) (w : World) (h : PWo w base d lb g pp F bA bc o s) (hI : Inv s) (hc : s.P.clock + 1 ≤ 1000000) :
    Calls Try.prog 64 #[.pointer (some ⟨pp, 0, none⟩), .int .i64 i] w fun e w' => GetTo w w' base d lb g pp (FTo g pp F bA o s.P) s i e := by
  have k0 := h.p.at_
  have hck := h.ok.clock
  have hhx := Lib.hid h
  have hIx := Lib.hid hI
  have hpx := Lib.hid h.ok.pages
  have hcx := Lib.hid hc
  have k0c := k0.c; have k0f := k0.f; have k0l := k0.lt
  by_cases hin : i < 0 ∨ s.P.pages ≤ i
  · have e1 : getE s i = 1 := by unfold getE; rw [if_pos hin]
    have e2 : getS s i = s := by unfold getS; rw [if_pos hin]
    have e1x := Lib.hid e1
    have e2x := Lib.hid e2
    clear h hI e1 e2
    go_enter Try.func64, Try.ntmps64
    by_cases hneg : i < 0
    · have hnb : decide (i < 0) = true := by simp; exact hneg
      clear hin
      go_wp2
      go_ret2
      unfold GetTo
      rw [e1x.out, e2x.out]
      exact .inl ⟨by omega, by first | rfl | simp, o, POn.mk hhx.out (Grew.refl _ _) (Mod.refl _ _)⟩
    · have hge : s.P.pages ≤ i := by omega
      have hnb : decide (i < 0) = false := by simp; omega
      have hgb : decide (s.P.pages ≤ i) = true := by simp; exact hge
      clear hin
      go_wp2
      go_ret2
      unfold GetTo
      rw [e1x.out, e2x.out]
      exact .inl ⟨by omega, by first | rfl | simp, o, POn.mk hhx.out (Grew.refl _ _) (Mod.refl _ _)⟩
  · have hi0 : 0 ≤ i := by omega
    have hi1 : i < s.P.pages := by omega
    have hnb : decide (i < 0) = false := by simp; omega
    have hgb : decide (s.P.pages ≤ i) = false := by simp; omega
    have hwc : IntKind.i64.wrap (s.P.clock + 1) = s.P.clock + 1 := IntWalk.i64_in _ (by omega)
    have hKx : Hid (KOk i) := Lib.hid ⟨by omega, by have := hpx.out; omega⟩
    have hinx := Lib.hid hin
    clear h hI hin
    go_enter Try.func64, Try.ntmps64
    go_upto_region 6 with (fail)
    have k1 := At.set (o := 5) (v := .int .i64 (s.P.clock + 1)) k0
    simp only [List.setIfInBounds_toArray, List.set_cons_zero, List.set_cons_succ] at k1
    have m1 := (Mod.refl (fun k => k = pp) w).set (k := pp) (.inl rfl) (o := 5) (.int .i64 (s.P.clock + 1))
    obtain ⟨h1, hg1⟩ := hhx.out.tickT hcx.out m1 k1
    have m1f : Mod (FTo g pp F bA o s.P) w _ := m1.mono (fun k hk => hk ▸ .inr (.inr (.inl rfl)))
    clear k0 k0c k0f k0l m1
    generalize (w.setCell ⟨pp, 5, none⟩ (.int .i64 (s.P.clock + 1))) = w1 at *
    have h1x := Lib.hid h1
    have hg1x := Lib.hid hg1
    have m1x := Lib.hid m1f
    have hlkF := (h1.p.fm).look Try.underlying108 hKx.out
    clear hg1 m1f
    have k1c := k1.c; have k1f := k1.f; have k1l := k1.lt
    cases hfi : s.P.fr i with
    | some f =>
      have e1 : getE s i = 0 := by unfold getE; rw [if_neg hinx.out, hfi]; rfl
      have e2 : getS s i = ⟨setFr (tickP s.P) i { f with used := s.P.clock + 1 }, s.D, s.L⟩ := by unfold getS; rw [if_neg hinx.out, hfi]
      have l0 : (Instr.lookup 108 (.map (some o.fb)) (.int .i64 i) false).run Try.prog w1 = .ok (.pointer (some ⟨o.blk i, 0, none⟩)) w1 := by
        rw [show (tickP s.P).fr i = some f from hfi] at hlkF
        exact hlkF
      have q1 := (h1.p.frs i f hfi).1
      have hfok := (h1.ok.fr i f hfi).1
      have e1x := Lib.hid e1
      have e2x := Lib.hid e2
      have hfix := Lib.hid hfi
      have hfokx := Lib.hid hfok
      clear e1 e2 hfi h1 hlkF hfok
      have q1c := q1.c; have q1f := q1.f; have q1l := q1.lt
      go_wp2
      go_ret2
      have q2 := At.set (o := 4) (v := .int .i64 (s.P.clock + 1)) q1
      simp only [List.setIfInBounds_toArray, List.set_cons_zero, List.set_cons_succ] at q2
      have m2 := (Mod.refl (fun k => k = o.blk i) w1).set (k := o.blk i) (.inl rfl) (o := 4) (.int .i64 (s.P.clock + 1))
      obtain ⟨h2, hg2⟩ := h1x.out.frT (f' := { f with used := s.P.clock + 1 }) hfix.out m2 rfl (fun h => h) ⟨hfokx.out.len, hfokx.out.byt, hfokx.out.since, hfokx.out.pins, ⟨by show 0 ≤ s.P.clock + 1; omega, by show s.P.clock + 1 ≤ _; omega⟩⟩ q2
      have hgo := go_on hg1x.out m1x.out m2 (fun k hk => hk ▸ .inr (.inr (.inr (.inr (.inr ⟨i, f, hfix.out, .inl rfl⟩))))) hg2
      unfold GetTo
      rw [e1x.out, e2x.out]
      exact .inr ⟨rfl, o, by first | rfl | simp, POn.mk h2 hgo.1 hgo.2⟩
    | none =>
      have l0 : (Instr.lookup 108 (.map (some o.fb)) (.int .i64 i) false).run Try.prog w1 = .ok (.pointer none) w1 := by
        rw [show (tickP s.P).fr i = none from hfi] at hlkF
        exact hlkF
      have hlen : ∀ n ty, (Builtin.len_ #[108] ty #[.map (some o.fb)]).run Try.prog (w1.drewN n) = .ok (.int .i64 s.P.ks.length) (w1.drewN n) := fun n ty => (h1.p.fm.drewN n).len Try.underlying108 ty
      have hfix := Lib.hid hfi
      clear hfi hlkF h1
      by_cases hroom : (s.P.ks.length : Int) < s.P.most
      · have hrb : decide (s.P.most ≤ (s.P.ks.length : Int)) = false := by simp; omega
        have hroomx := Lib.hid hroom
        clear hroom
        go_upto_region 10 with (fail)
        go_quiet (fail)
        go_upto_region 14 with (fail)
        have heT : Hid (getE s i = 0 ∧ getS s i = addFr ⟨tickP s.P, s.D, s.L⟩ i) := Lib.hid ⟨by unfold getE; rw [if_neg hinx.out, if_neg (by rw [hfix.out]; decide), if_pos hroomx.out], by unfold getS; rw [if_neg hinx.out, hfix.out]; simp only []; rw [if_pos hroomx.out]⟩
        have hTx : Hid (PWo (w1.drewN nq) base d lb g pp F bA bc o ⟨tickP s.P, s.D, s.L⟩) := Lib.hid (h1x.out.later (below_drewN (Below.refl _ _) nq))
        have hQT : Hid (Qt s.D) := Lib.hid hIx.out.q
        have hnT : Hid ((⟨tickP s.P, s.D, s.L⟩ : St).P.fr i = none) := hfix
        have hlT : Hid (((⟨tickP s.P, s.D, s.L⟩ : St).P.ks.length : Int) < (⟨tickP s.P, s.D, s.L⟩ : St).P.most) := hroomx
        have hpT : Hid ((⟨tickP s.P, s.D, s.L⟩ : St).P.pages = s.P.pages) := Lib.hid rfl
        have hgT := hg1x
        have hmT : Hid (Mod (FTo g pp F bA o s.P) w (w1.drewN nq)) := Lib.hid (m1x.out.drewN nq)
        obtain ⟨t, ht⟩ : ∃ t : St, t = ⟨tickP s.P, s.D, s.L⟩ := ⟨_, rfl⟩
        have hQT : Hid (Qt t.D) := by rw [ht]; exact hQT
        rw [← ht] at heT hTx hnT hlT hpT
        have hgT : Hid (Grew (FTo g pp F bA o s.P) (FTo g pp F bA o t.P) w.heap.size) := by rw [ht]; exact hgT
        clear ht k1 k1c k1f k1l h1x hlen
        generalize w1.drewN nq = wT at *
        have d3 : Below wT.heap.size wT wT.drew := below_dr (Below.refl _ _)
        have h3 := hTx.out.later d3
        have k3 := h3.p.at_
        have k3c := k3.c
        obtain ⟨N, hN⟩ : ∃ N, (t.P.at_ + i).toNat = N := ⟨_, rfl⟩
        have hat0 := h3.ok.at_
        have hfit := h3.ok.fit
        have hmst := h3.ok.most
        have hpT1 := hpT.out
        have hNe : t.P.at_ + i = (N : Int) := by omega
        have hNl : N < t.D.l.length := by omega
        have hN0 : (N : Int) < 4398046511104 := by have := h3.d.ok.len; omega
        have hNw : IntKind.i64.wrap (t.P.at_ + i) = N := by rw [hNe]; exact IntWalk.i64_in _ (by omega)
        have hNx := Lib.hid hN
        have hoff := hQT.out.2
        have hks64 : Hid (t.P.ks.length < 64) := Lib.hid (by have := hlT.out; omega)
        have hiT : Hid (0 ≤ i ∧ i < t.P.pages) := Lib.hid ⟨hi0, by omega⟩
        clear hN hNe hfit hat0 hmst hpT1
        go_region_held3 (fun w' => (∀ o9, w'.cell? ⟨pp, o9, none⟩ = #[.pointer (some ⟨d, 0, none⟩), .pointer (some ⟨g, 0, none⟩), .int .i64 t.P.at_, .int .i64 t.P.pages, .int .i64 t.P.most, .int .i64 t.P.clock, .map (some o.fb), .map (some o.gb)][o9]?))
          (first
            | (exact k3c)
            | (exact f4))
          (first
            | (go_at_call 26; with_reducible refine (rd_dd N wT.drew h3.d hNl hoff).mono ?_; rintro e w4 ⟨q, rfl, hsec, hb4, hqw⟩
               have h4 := h3.later hb4
               have f4 := h4.p.at_.c)
            | fail)
        have k4 := h4.p.at_
        obtain ⟨sec, hse⟩ : ∃ x, readD t.D N = x := ⟨_, rfl⟩
        rw [hse] at hsec
        have hbn := below_new w4 (.cells #[.slice (some ⟨q, 0, none⟩) 512 512, .bool false, .int .u64 0, .int .i64 0, .int .i64 t.P.clock] 105)
        obtain ⟨w6, hrun, hmp, hturn⟩ := (h4.p.fm.later hbn).put Try.underlying108 hKx.out (v := w4.heap.size) trivial (by have := hks64.out; unfold maxLen; omega)
        have hrun6 : (Instr.mapUpdate 108 (.map (some o.fb)) (.int .i64 i) (.pointer (some ⟨w4.heap.size, 0, none⟩))).run Try.prog (w4.alloc (.cells #[.slice (some ⟨q, 0, none⟩) 512 512, .bool false, .int .u64 0, .int .i64 0, .int .i64 t.P.clock] 105)) = .ok () w6 := hrun
        have h3x := Lib.hid h3
        have h4x := Lib.hid h4
        have hsecx := Lib.hid hsec
        have hmpx := Lib.hid hmp
        have hturnx := Lib.hid hturn
        have hb4x := Lib.hid hb4
        have hsex := Lib.hid hse
        have hqwx := Lib.hid hqw
        have hbnx := Lib.hid hbn
        clear hrun hmp hturn h3 h4 hsec hb4 hse f4 k3 k3c hqw hbn
        have k4c := k4.c; have k4f := k4.f; have k4l := k4.lt
        go_wp2
        go_ret2
        have hfbl : o.fb < wT.heap.size := hTx.out.p.fm.lt
        have hqw1 : wT.heap.size ≤ q := hqwx.out
        have hql := hsecx.out.1.lt
        have hm46 : Mod (fun k => k = o.fb) w4 w6 := ((Mod.refl (fun k => k = o.fb) w4).alloc _).trans (turned_mod (S := fun k => k = o.fb) hturnx.out rfl) (fun _ _ h => h)
        have hm36 : Mod (fun k => k = o.fb) wT.drew w6 := (Mod.of_below (S := fun k => k = o.fb) hb4x.out).trans hm46 (fun _ _ h => h)
        have hsec6 : BsR w6 q (q + 1) (some ⟨q, 0, none⟩) 512 (newFr t i).p := by
          have := hsecx.out.bs9.modS hm46 (fun b hb e => by
            have e2 : q = b := by simpa [ownBlk] using hb
            omega) (by omega)
          show BsR w6 q (q + 1) (some ⟨q, 0, none⟩) 512 (readD t.D (t.P.at_ + i).toNat)
          rw [hNx.out, hsex.out]
          exact this
        have hat6 := (At.new w4 #[.slice (some ⟨q, 0, none⟩) 512 512, .bool false, .int .u64 0, .int .i64 0, .int .i64 t.P.clock] 105).mod (turned_mod (S := fun k => k = o.fb) hturnx.out rfl) (fun e => by have := hb4x.out.size; have e3 : wT.heap.size ≤ w4.heap.size := this; omega)
        have hs4 : wT.heap.size ≤ w4.heap.size := hb4x.out.size
        obtain ⟨h7, hg7⟩ := h3x.out.addT (i := i) (b := w4.heap.size) (q := q) (hm36.mono (fun k hk => .inl hk)) hiT.out hnT.out hlT.out hs4 hqw1 hsec6 (Nat.lt_of_lt_of_le hql hm46.size) hmpx.out hat6
        have hgo := go_on hgT.out (hmT.out.trans (Mod.of_below (S := Nob) d3) (fun _ _ h => h.elim)) hm36 (fun k hk => hk ▸ .inr (.inr (.inr (.inl rfl)))) hg7
        unfold GetTo
        rw [heT.out.1, heT.out.2]
        exact .inr ⟨rfl, addLo o i w4.heap.size q, by (rw [show (addLo o i w4.heap.size q).blk i = w4.heap.size from if_pos rfl]; first | rfl | simp), POn.mk h7 hgo.1 hgo.2⟩
      · have hrb : decide (s.P.most ≤ (s.P.ks.length : Int)) = true := by simp; omega
        have hroomx := Lib.hid hroom
        clear hroom
        go_upto_region 10 with (fail)
        go_quiet (fail)
        go_wp2_with fail
        have h2 := h1x.out.later (below_drewN (Below.refl w1.heap.size w1) nq)
        refine (evict_calls (w1.drewN nq) h2 ⟨hIx.out.li, hIx.out.q, hIx.out.len, hIx.out.en, hIx.out.ops, hIx.out.way⟩).mono ?_
        have hm1q : Mod (FTo g pp F bA o s.P) w (w1.drewN nq) := m1x.out.drewN nq
        have hgq : Grew (FTo g pp F bA o s.P) (FTo g pp F bA o (tickP s.P)) w.heap.size := hg1x.out
        have h2x := Lib.hid h2
        clear h2
        have hs1q := hm1q.size
        rcases h2x.out.best with hbe | ⟨hbe1, hbe2, hbe3, hbe4⟩
        · have e9 : evE ⟨tickP s.P, s.D, s.L⟩ = 9 := by unfold evE; rw [if_pos (by rw [hbe]; omega)]
          have eS : evS ⟨tickP s.P, s.D, s.L⟩ = ⟨tickP s.P, s.D, s.L⟩ := by
            unfold evS
            rw [hbe]
            cases hf : (⟨tickP s.P, s.D, s.L⟩ : St).P.fr (-1) with
            | none => rfl
            | some f => have := (h2x.out.ok.fr (-1) f hf).2.1; omega
          have heT : Hid (getE s i = 9 ∧ getS s i = ⟨tickP s.P, s.D, s.L⟩) := Lib.hid ⟨by unfold getE; rw [if_neg hinx.out, if_neg (by rw [hfix.out]; decide), if_neg (by have := hroomx.out; omega), e9], by unfold getS; rw [if_neg hinx.out, hfix.out]; simp only []; rw [if_neg (by have := hroomx.out; omega), if_neg (by rw [e9]; decide)]⟩
          rw [e9, eS]
          clear hbe e9 eS k1 k1c k1f k1l h1x hlen
          rintro e w3 ⟨rfl, F3, bA3, bc3, h3, hg3, hm3⟩
          have hgo := go_on hgq hm1q hm3 (fun k hk => hk) hg3
          have h3x := Lib.hid h3
          have hgox := Lib.hid hgo
          clear h3 hgo hg3 hm3 hgq hm1q
          go_wp2
          go_ret2
          unfold GetTo
          rw [heT.out.1, heT.out.2]
          exact .inl ⟨by omega, by first | rfl | simp, o, POn.mk h3x.out hgox.out.1 hgox.out.2⟩
        · have e0 : evE ⟨tickP s.P, s.D, s.L⟩ = 0 := by unfold evE; rw [if_neg (by omega)]
          have heT : Hid (getE s i = 0 ∧ getS s i = addFr (evS ⟨tickP s.P, s.D, s.L⟩) i) := Lib.hid ⟨by unfold getE; rw [if_neg hinx.out, if_neg (by rw [hfix.out]; decide), if_neg (by have := hroomx.out; omega), e0], by unfold getS; rw [if_neg hinx.out, hfix.out]; simp only []; rw [if_neg (by have := hroomx.out; omega), if_pos e0]⟩
          obtain ⟨v1, v2, v3, v4, v5, v6⟩ := h2x.out.ev e0
          have hnT : Hid ((evS ⟨tickP s.P, s.D, s.L⟩).P.fr i = none) := Lib.hid (v2 i hfix.out)
          have hks := h2x.out.ok.len
          have hlT : Hid (((evS ⟨tickP s.P, s.D, s.L⟩).P.ks.length : Int) < (evS ⟨tickP s.P, s.D, s.L⟩).P.most) := Lib.hid (by rw [v5]; omega)
          have hpT : Hid ((evS ⟨tickP s.P, s.D, s.L⟩).P.pages = s.P.pages) := Lib.hid v4
          have hQT : Hid (Qt (evS ⟨tickP s.P, s.D, s.L⟩).D) := Lib.hid (evS_q _ hIx.out.q)
          rw [e0]
          clear hbe1 hbe2 hbe3 hbe4 e0 v1 v2 v3 v4 v5 v6 hks k1 k1c k1f k1l h1x hlen
          generalize evS ⟨tickP s.P, s.D, s.L⟩ = t at *
          rintro e wT ⟨rfl, F3, bA3, bc3, h3, hg3, hm3⟩
          have hgo := go_on hgq hm1q hm3 (fun k hk => hk) hg3
          have hTx := Lib.hid h3
          have hgT := Lib.hid hgo.1
          have hmT := Lib.hid hgo.2
          have kT := h3.p.at_
          clear h3 hgo hg3 hm3 hgq hm1q
          have kTc := kT.c; have kTf := kT.f; have kTl := kT.lt
          go_upto_region 14 with (fail)
          clear kT kTc kTf kTl
          have d3 : Below wT.heap.size wT wT.drew := below_dr (Below.refl _ _)
          have h3 := hTx.out.later d3
          have k3 := h3.p.at_
          have k3c := k3.c
          obtain ⟨N, hN⟩ : ∃ N, (t.P.at_ + i).toNat = N := ⟨_, rfl⟩
          have hat0 := h3.ok.at_
          have hfit := h3.ok.fit
          have hmst := h3.ok.most
          have hpT1 := hpT.out
          have hNe : t.P.at_ + i = (N : Int) := by omega
          have hNl : N < t.D.l.length := by omega
          have hN0 : (N : Int) < 4398046511104 := by have := h3.d.ok.len; omega
          have hNw : IntKind.i64.wrap (t.P.at_ + i) = N := by rw [hNe]; exact IntWalk.i64_in _ (by omega)
          have hNx := Lib.hid hN
          have hoff := hQT.out.2
          have hks64 : Hid (t.P.ks.length < 64) := Lib.hid (by have := hlT.out; omega)
          have hiT : Hid (0 ≤ i ∧ i < t.P.pages) := Lib.hid ⟨hi0, by omega⟩
          clear hN hNe hfit hat0 hmst hpT1
          go_region_held3 (fun w' => (∀ o9, w'.cell? ⟨pp, o9, none⟩ = #[.pointer (some ⟨d, 0, none⟩), .pointer (some ⟨g, 0, none⟩), .int .i64 t.P.at_, .int .i64 t.P.pages, .int .i64 t.P.most, .int .i64 t.P.clock, .map (some o.fb), .map (some o.gb)][o9]?))
            (first
              | (exact k3c)
              | (exact f4))
            (first
              | (go_at_call 26; with_reducible refine (rd_dd N wT.drew h3.d hNl hoff).mono ?_; rintro e w4 ⟨q, rfl, hsec, hb4, hqw⟩
                 have h4 := h3.later hb4
                 have f4 := h4.p.at_.c)
              | fail)
          have k4 := h4.p.at_
          obtain ⟨sec, hse⟩ : ∃ x, readD t.D N = x := ⟨_, rfl⟩
          rw [hse] at hsec
          have hbn := below_new w4 (.cells #[.slice (some ⟨q, 0, none⟩) 512 512, .bool false, .int .u64 0, .int .i64 0, .int .i64 t.P.clock] 105)
          obtain ⟨w6, hrun, hmp, hturn⟩ := (h4.p.fm.later hbn).put Try.underlying108 hKx.out (v := w4.heap.size) trivial (by have := hks64.out; unfold maxLen; omega)
          have hrun6 : (Instr.mapUpdate 108 (.map (some o.fb)) (.int .i64 i) (.pointer (some ⟨w4.heap.size, 0, none⟩))).run Try.prog (w4.alloc (.cells #[.slice (some ⟨q, 0, none⟩) 512 512, .bool false, .int .u64 0, .int .i64 0, .int .i64 t.P.clock] 105)) = .ok () w6 := hrun
          have h3x := Lib.hid h3
          have h4x := Lib.hid h4
          have hsecx := Lib.hid hsec
          have hmpx := Lib.hid hmp
          have hturnx := Lib.hid hturn
          have hb4x := Lib.hid hb4
          have hsex := Lib.hid hse
          have hqwx := Lib.hid hqw
          have hbnx := Lib.hid hbn
          clear hrun hmp hturn h3 h4 hsec hb4 hse f4 k3 k3c hqw hbn
          have k4c := k4.c; have k4f := k4.f; have k4l := k4.lt
          go_wp2
          go_ret2
          have hfbl : o.fb < wT.heap.size := hTx.out.p.fm.lt
          have hqw1 : wT.heap.size ≤ q := hqwx.out
          have hql := hsecx.out.1.lt
          have hm46 : Mod (fun k => k = o.fb) w4 w6 := ((Mod.refl (fun k => k = o.fb) w4).alloc _).trans (turned_mod (S := fun k => k = o.fb) hturnx.out rfl) (fun _ _ h => h)
          have hm36 : Mod (fun k => k = o.fb) wT.drew w6 := (Mod.of_below (S := fun k => k = o.fb) hb4x.out).trans hm46 (fun _ _ h => h)
          have hsec6 : BsR w6 q (q + 1) (some ⟨q, 0, none⟩) 512 (newFr t i).p := by
            have := hsecx.out.bs9.modS hm46 (fun b hb e => by
              have e2 : q = b := by simpa [ownBlk] using hb
              omega) (by omega)
            show BsR w6 q (q + 1) (some ⟨q, 0, none⟩) 512 (readD t.D (t.P.at_ + i).toNat)
            rw [hNx.out, hsex.out]
            exact this
          have hat6 := (At.new w4 #[.slice (some ⟨q, 0, none⟩) 512 512, .bool false, .int .u64 0, .int .i64 0, .int .i64 t.P.clock] 105).mod (turned_mod (S := fun k => k = o.fb) hturnx.out rfl) (fun e => by have := hb4x.out.size; have e3 : wT.heap.size ≤ w4.heap.size := this; omega)
          have hs4 : wT.heap.size ≤ w4.heap.size := hb4x.out.size
          obtain ⟨h7, hg7⟩ := h3x.out.addT (i := i) (b := w4.heap.size) (q := q) (hm36.mono (fun k hk => .inl hk)) hiT.out hnT.out hlT.out hs4 hqw1 hsec6 (Nat.lt_of_lt_of_le hql hm46.size) hmpx.out hat6
          have hgo := go_on hgT.out (hmT.out.trans (Mod.of_below (S := Nob) d3) (fun _ _ h => h.elim)) hm36 (fun k hk => hk ▸ .inr (.inr (.inr (.inl rfl)))) hg7
          unfold GetTo
          rw [heT.out.1, heT.out.2]
          exact .inr ⟨rfl, addLo o i w4.heap.size q, by (rw [show (addLo o i w4.heap.size q).blk i = w4.heap.size from if_pos rfl]; first | rfl | simp), POn.mk h7 hgo.1 hgo.2⟩
end Go.Proofs.Ytggeepihkeocmaa
/- The pool's Pin, Len and Read by their contracts. -/
namespace Go.Proofs.Ytggeepihkeocmaa
set_option linter.unusedVariables false
set_option linter.unusedSimpArgs false
open Go.RowKit Go.Maps
theorem getS_fr (s : St) (i : Int) (h : getE s i = 0) : ∃ f, (getS s i).P.fr i = some f := by
  have hadd : ∀ t : St, ∃ f, (addFr t i).P.fr i = some f := fun t => ⟨newFr t i, by show updM t.P.fr i _ i = _; unfold updM; rw [if_pos rfl]⟩
  unfold getE at h
  unfold getS
  by_cases hin : i < 0 ∨ s.P.pages ≤ i
  · rw [if_pos hin] at h; exact absurd h (by decide)
  · rw [if_neg hin] at h ⊢
    cases hf : s.P.fr i with
    | some f => exact ⟨{ f with used := s.P.clock + 1 }, by show updM s.P.fr i _ i = _; unfold updM; rw [if_pos rfl]⟩
    | none =>
      rw [if_neg (by rw [hf]; decide)] at h
      by_cases hl : (s.P.ks.length : Int) < s.P.most
      · simp only [if_pos hl]; exact hadd _
      · rw [if_neg hl] at h
        simp only [if_neg hl, if_pos h]; exact hadd _
def pinF (f : Fr) (n : Int) : Fr := { f with pins := f.pins + n }
def pinS (s : St) (i : Int) : St := match (getS s i).P.fr i with | some f => ⟨setFr (getS s i).P i (pinF f 1), (getS s i).D, (getS s i).L⟩ | none => getS s i
/-- What Pin leaves. -/
def PinTo (w w' : World) (base d lb g pp : Nat) (FT : Nat → Prop) (s : St) (i : Int) : Prop := (getE s i ≠ 0 ∧ ∃ o, POn w w' base d lb g pp FT o (getS s i)) ∨ (getE s i = 0 ∧ ∃ o, POn w w' base d lb g pp FT o (pinS s i))
def RdTo (w w' : World) (base d lb g pp : Nat) (FT : Nat → Prop) (s : St) (i : Int) (e : Ending) : Prop :=
  (getE s i ≠ 0 ∧ e = .returned (.tuple #[.slice none 0 0, .int .u64 0, .int .i64 (getE s i)]) ∧ ∃ o, POn w w' base d lb g pp FT o (getS s i)) ∨
  (getE s i = 0 ∧ ∃ f A c, (getS s i).P.fr i = some f ∧ e = .returned (.tuple #[.slice A 504 c, .int .u64 (lsnP f), .int .i64 0]) ∧ OwB w' w.heap.size A 504 c (f.p.drop 8) ∧ ∃ o, POn w w' base d lb g pp FT o (getS s i))
theorem plen_calls {base d lb g pp bc : Nat} {F : Nat → Prop} {bA : Option Addr} {o : Lo} {s : St} (w : World) (h : PWo w base d lb g pp F bA bc o s) :
    Calls Try.prog 19 #[.pointer (some ⟨pp, 0, none⟩)] w fun e w' => e = .returned (.int .i64 s.P.ks.length) ∧ w = w' := by
  have k0 := h.p.at_
  have hlen : ∀ ty, (Builtin.len_ #[108] ty #[.map (some o.fb)]).run Try.prog w = .ok (.int .i64 s.P.ks.length) w := fun ty => h.p.fm.len Try.underlying108 ty
  clear h
  have k0c := k0.c; have k0f := k0.f; have k0l := k0.lt
  go_enter Try.func19, Try.ntmps19
  go_wp2
  go_ret
  exact ⟨by first | rfl | simp, rfl⟩
set_option maxRecDepth 100000 in
set_option maxHeartbeats 4000000 in
theorem pin_calls {base d lb g pp bc : Nat} {F : Nat → Prop} {bA : Option Addr} {o : Lo} {s : St} (i : Int) (w : World) (h : PWo w base d lb g pp F bA bc o s) (hI : Inv s) (hc : s.P.clock + 1 ≤ 1000000) (hpn : ∀ f, (getS s i).P.fr i = some f → f.pins < 1000000) :
    Calls Try.prog 16 #[.pointer (some ⟨pp, 0, none⟩), .int .i64 i] w fun e w' => e = .returned (.int .i64 (getE s i)) ∧ PinTo w w' base d lb g pp (FTo g pp F bA o s.P) s i := by
  have hx := Lib.hid (get_calls i w h hI hc)
  have hpx := Lib.hid hpn
  clear h hI hc hpn
  go_enter Try.func16, Try.ntmps16
  go_wp2_with fail
  refine hx.out.mono ?_
  rintro e w1 (⟨hne, rfl, o1, hP⟩ | ⟨he, o1, rfl, F1, bA1, bc1, h1, hg1, hm1⟩)
  · obtain ⟨E, hE⟩ : ∃ E, getE s i = E := ⟨_, rfl⟩
    have hEx := Lib.hid hE
    have hnex := Lib.hid hne
    rw [hE] at hne
    have hPx := Lib.hid hP
    have hb1 : decide (E = 0) = false := by simp; exact hne
    have hb2 : (E == 0) = false := by simp; exact hne
    rw [hE]
    clear hE hne hP
    go_wp2
    go_ret
    exact ⟨by (rw [hEx.out]; first | rfl | simp), .inl ⟨hnex.out, o1, hPx.out⟩⟩
  · obtain ⟨f, hf⟩ := getS_fr s i he
    have q1 := (h1.p.frs i f hf).1
    have hfok := (h1.ok.fr i f hf).1
    have hpl := hpx.out f hf
    have hpi := hfok.pins
    have hw1 : IntKind.i64.wrap (f.pins + 1) = f.pins + 1 := IntWalk.i64_in _ (by omega)
    have hex := Lib.hid he
    have hfx := Lib.hid hf
    have h1x := Lib.hid h1
    have hg1x := Lib.hid hg1
    have hm1x := Lib.hid hm1
    have hfokx := Lib.hid hfok
    clear he hf h1 hg1 hm1 hfok
    have q1c := q1.c; have q1f := q1.f; have q1l := q1.lt
    go_wp2
    go_ret
    have q2 := At.set (o := 3) (v := .int .i64 (f.pins + 1)) q1
    simp only [List.setIfInBounds_toArray, List.set_cons_zero, List.set_cons_succ] at q2
    have m2 := (Mod.refl (fun k => k = o1.blk i) w1).set (k := o1.blk i) (.inl rfl) (o := 3) (.int .i64 (f.pins + 1))
    obtain ⟨h2, hg2⟩ := h1x.out.frT (f' := pinF f 1) hfx.out m2 rfl (fun h => h) ⟨hfokx.out.len, hfokx.out.byt, hfokx.out.since, ⟨by show 0 ≤ f.pins + 1; omega, by show f.pins + 1 ≤ _; omega⟩, hfokx.out.used⟩ q2
    have hgo := go_on hg1x.out hm1x.out m2 (fun k hk => hk ▸ .inr (.inr (.inr (.inr (.inr ⟨i, f, hfx.out, .inl rfl⟩))))) hg2
    have e2 : pinS s i = ⟨setFr (getS s i).P i (pinF f 1), (getS s i).D, (getS s i).L⟩ := by unfold pinS; rw [hfx.out]
    refine ⟨by (rw [hex.out]; first | rfl | simp), .inr ⟨hex.out, o1, ?_⟩⟩
    rw [e2]
    exact POn.mk h2 hgo.1 hgo.2
set_option maxRecDepth 100000 in
set_option maxHeartbeats 4000000 in
theorem pread_calls {base d lb g pp bc : Nat} {F : Nat → Prop} {bA : Option Addr} {o : Lo} {s : St} (i : Int) (w : World) (h : PWo w base d lb g pp F bA bc o s) (hI : Inv s) (hc : s.P.clock + 1 ≤ 1000000) :
    Calls Try.prog 17 #[.pointer (some ⟨pp, 0, none⟩), .int .i64 i] w fun e w' => RdTo w w' base d lb g pp (FTo g pp F bA o s.P) s i e := by
  have hx := Lib.hid (get_calls i w h hI hc)
  clear h hI hc
  go_enter Try.func17, Try.ntmps17
  go_wp2_with fail
  refine hx.out.mono ?_
  rintro e w1 (⟨hne, rfl, o1, hP⟩ | ⟨he, o1, rfl, F1, bA1, bc1, h1, hg1, hm1⟩)
  · obtain ⟨E, hE⟩ : ∃ E, getE s i = E := ⟨_, rfl⟩
    have hEx := Lib.hid hE
    have hnex := Lib.hid hne
    rw [hE] at hne
    have hPx := Lib.hid hP
    have hb1 : decide (E = 0) = false := by simp; exact hne
    have hb2 : (E == 0) = false := by simp; exact hne
    rw [hE]
    clear hE hne hP
    go_wp2
    go_ret3
    exact .inl ⟨hnex.out, by (rw [hEx.out]; first | rfl | simp), o1, hPx.out⟩
  · obtain ⟨f, hf⟩ := getS_fr s i he
    obtain ⟨q1, -, ⟨gq, hA, hgb, hbs, hgl⟩, hc1, hc2, -⟩ := h1.p.frs i f hf
    have hfok := (h1.ok.fr i f hf).1
    rw [hA] at q1 hbs
    obtain ⟨lsn, hlsn⟩ : ∃ x, lsnP f = x := ⟨_, rfl⟩
    have hl0 : num ((f.p.drop 0).take 8) = lsn := hlsn
    have hl0x := Lib.hid hl0
    have hlsnx := Lib.hid hlsn
    have hcut : BsR w1 gq (gq + 1) (some ⟨gq, 8, none⟩) 504 (f.p.drop 8) := by
      have := hbs.cutN 8 512 (Nat.le_refl _) (by omega)
      rw [List.take_of_length_le (by rw [hfok.len]; omega)] at this
      exact this
    obtain ⟨cp, hcp⟩ : ∃ x, o1.pc i = x := ⟨_, rfl⟩
    rw [hcp] at q1 hc1 hc2
    have hne8 : ¬ (cp = 8) := by omega
    have h8c : 8 ≤ cp := by omega
    have hex := Lib.hid he
    have hfx := Lib.hid hf
    have h1x := Lib.hid h1
    have hg1x := Lib.hid hg1
    have hm1x := Lib.hid hm1
    have hs1x := Lib.hid hm1.size
    clear he hf h1 hg1 hm1 hfok hA hl0 hlsn hcp
    have q1c := q1.c; have q1f := q1.f; have q1l := q1.lt
    go_wp2_with fail
    refine (readuint_calls 0 cp w1 hbs (by omega) hc1 (by omega)).mono ?_
    rw [hl0x.out]
    rintro e w2 ⟨rfl, rfl⟩
    go_wp2_with (first
      | (at_builtin; refine wpList_app rfl (.const (.slice none 0 0)) (.tmp 34) rfl w.heap.size 0 0 none [] rfl (OwB.nil _ _) _ _ 504 (cp - 8) (some ⟨gq, 8, none⟩) (f.p.drop 8) rfl hcut (by omega) hs1x.out ?_; intro A2 c2 w5 ho2 hg2 hb2 hat2)
      | fail)
    go_ret3
    have hb : Below w1.heap.size w1 w5 := ((Mod.refl Nob w1).grown hg2 (fun k hk => by cases hk)).below (Nat.le_refl _) (fun _ h => h.elim)
    have h3 := h1x.out.later hb
    refine .inr ⟨hex.out, f, A2, c2, hfx.out, by (rw [hlsnx.out]; first | rfl | simp), ?_, o1, POn.mk h3 hg1x.out (hm1x.out.trans (Mod.of_below (S := Nob) hb) (fun _ _ h => h.elim))⟩
    exact ho2
end Go.Proofs.Ytggeepihkeocmaa
