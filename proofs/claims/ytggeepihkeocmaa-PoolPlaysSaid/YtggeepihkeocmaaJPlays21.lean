/- Joined texts: PlC, PlE. -/
import Derived.Test.YtggeepihkeocmaaJPlays20
import Derived.Test.YtggeepihkeocmaaJPlays11
/- The pool's flush by its contract, on a disk whose power stays on. -/
namespace Go.Proofs.Ytggeepihkeocmaa
set_option linter.unusedVariables false
set_option linter.unusedSimpArgs false
open Go.RowKit Go.Maps
set_option maxRecDepth 100000 in
set_option maxHeartbeats 4000000 in
theorem pflush_calls {base d lb g pp bc : Nat} {F : Nat → Prop} {bA : Option Addr} {o : Lo} {s : St} (w : World) (h : PWo w base d lb g pp F bA bc o s) (hI : Inv s) :
    Calls Try.prog 97 #[.pointer (some ⟨pp, 0, none⟩)] w fun e w' => e = .returned (.int .i64 0) ∧ POn w w' base d lb g pp (FTo g pp F bA o s.P) o (flushS s) := by
  have k0 := h.p.at_
  obtain ⟨hE, hQ, hlen, hop1, hop2, hway, hZ⟩ := fl_q s.L hI.q
  have hnp : nparts s.L ≤ 34953 := by have := hI.li.ok.buf; unfold nparts; omega
  have hfo := fl_ok hI.li hI.en
  have hbw := h.bw
  have hhx := Lib.hid h
  have hops := Lib.hid hI.ops
  have hwayx := Lib.hid hI.way
  have hlenI := hI.len
  have hmul := hI.li.mul
  have hlo := hI.li.lo
  obtain ⟨D', hD'⟩ : ∃ D', flD s.D s.L = D' := ⟨_, rfl⟩
  obtain ⟨L', hL'⟩ : ∃ L', flZ s.D s.L = L' := ⟨_, rfl⟩
  have hfs : flushS s = ⟨if s.D.ops < D'.ops then wipeP s.P else s.P, D', L'⟩ := by unfold flushS; rw [hD', hL']
  rw [hD'] at hlen hop1 hop2
  have hDx := Lib.hid hD'
  have hLx := Lib.hid hL'
  have hEx := Lib.hid hE
  have hfsx := Lib.hid hfs
  have hlenx := Lib.hid hlen
  obtain ⟨n0, hn0⟩ : ∃ n0, s.D.ops = n0 := ⟨_, rfl⟩
  obtain ⟨n1, hn1⟩ : ∃ n1, D'.ops = n1 := ⟨_, rfl⟩
  have hn0x := Lib.hid hn0
  have hn1x := Lib.hid hn1
  clear hI hD' hL' hE hfs hlen hn0 hn1 hZ hway hop1 hop2 hQ
  have k0c := k0.c; have k0f := k0.f; have k0l := k0.lt
  go_enter Try.func97, Try.ntmps97
  go_wp2_with fail
  refine (ops_dd w hhx.out.d).mono ?_
  rintro e w1 ⟨rfl, rfl⟩
  go_wp2_with fail
  refine (lflush_calls w hhx.out.l hhx.out.d hbw hlenI hmul hlo (by have := hops.out; omega) (by have := hwayx.out; omega) hfo.ok).mono ?_
  rw [hEx.out, hDx.out, hLx.out, hn0x.out]
  rintro e w1 ⟨rfl, hT⟩
  obtain ⟨F1, bA1, bc1, h1, hg1, hm1⟩ := hhx.out.log hT hlenx.out
  have k1 := h1.p.at_
  clear k0c k0f k0l hT
  have k1c := k1.c; have k1f := k1.f; have k1l := k1.lt
  have hh1x := Lib.hid h1
  go_wp2_with fail
  refine (ops_dd w1 hh1x.out.d).mono ?_
  rw [show ({ P := s.P, D := D', L := L' } : St).D.ops = n1 from hn1x.out]
  rintro e w2 ⟨rfl, rfl⟩
  have hmf : Mod (FTo g pp F bA o s.P) w w1 := hm1.mono (fun k hk => hk.imp id .inl)
  by_cases hlt : n0 < n1
  · have hdt : decide (n0 < n1) = true := by simp; exact hlt
    obtain ⟨w2, hrun, hmp, hturn⟩ := h1.p.gm.clear Try.underlying109
    clear h1
    go_wp2
    go_ret
    rw [hfsx.out, hn0x.out, hn1x.out, if_pos hlt]
    obtain ⟨h2, hg2⟩ := hh1x.out.setGn (turned_mod (S := fun k => k = o.gb) hturn rfl) hmp (fun k x h => by cases h)
    exact ⟨by first | rfl | simp, POn.mk h2 (hg1.trans hg2 hm1.size) (hmf.trans (turned_mod (S := fun k => k = o.gb) hturn rfl) (fun k _ hk => hk ▸ .inr (.inr (.inr (.inr (.inl rfl))))))⟩
  · have hdt : decide (n0 < n1) = false := by simp; omega
    clear h1
    go_wp2
    go_ret
    rw [hfsx.out, hn0x.out, hn1x.out, if_neg (by omega)]
    exact ⟨by first | rfl | simp, POn.mk hh1x.out hg1 hmf⟩
end Go.Proofs.Ytggeepihkeocmaa
/- The pool's clean by its contract. -/
namespace Go.Proofs.Ytggeepihkeocmaa
set_option linter.unusedVariables false
set_option linter.unusedSimpArgs false
open Go.RowKit Go.Maps
theorem flushS_fr (s : St) : (flushS s).P.fr = s.P.fr ∧ (flushS s).P.at_ = s.P.at_ ∧ (flushS s).P.ks = s.P.ks ∧ (flushS s).P.pages = s.P.pages ∧ (flushS s).P.most = s.P.most ∧ (flushS s).P.clock = s.P.clock := by
  unfold flushS
  by_cases h : s.D.ops < (flD s.D s.L).ops
  · rw [if_pos h]; exact ⟨rfl, rfl, rfl, rfl, rfl, rfl⟩
  · rw [if_neg h]; exact ⟨rfl, rfl, rfl, rfl, rfl, rfl⟩
theorem num8_rng {l : List Int} (h : Byt l) (hl : 8 ≤ l.length) : 0 ≤ num (l.take 8) ∧ num (l.take 8) < 18446744073709551616 := num8_range h 0 (by omega)
set_option maxRecDepth 100000 in
set_option maxHeartbeats 8000000 in
theorem clean_calls {base d lb g pp bc : Nat} {F : Nat → Prop} {bA : Option Addr} {o : Lo} {s : St} (i : Int) (f : Fr) (w : World) (h : PWo w base d lb g pp F bA bc o s) (hI : Inv s) (hf : s.P.fr i = some f) :
    Calls Try.prog 70 #[.pointer (some ⟨pp, 0, none⟩), .int .i64 i] w fun e w' => e = .returned (.int .i64 0) ∧ POn w w' base d lb g pp (FTo g pp F bA o s.P) o (cleanS s i f) := by
  obtain ⟨hfk, hi0, hi1⟩ := h.ok.fr i f hf
  have hpg := h.ok.pages
  have hK : KOk i := ⟨by omega, by omega⟩
  have hlook : (Instr.lookup 108 (.map (some o.fb)) (.int .i64 i) false).run Try.prog w = .ok (.pointer (some ⟨o.blk i, 0, none⟩)) w := by
    have := h.p.fm.look Try.underlying108 hK
    rw [hf] at this
    exact this
  have k0 := h.p.at_
  obtain ⟨q0, hq1, hq2⟩ := h.p.frs i f hf
  have hhx := Lib.hid h
  have hIx := Lib.hid hI
  have hfx := Lib.hid hf
  have hfkx := Lib.hid hfk
  have hfid : FTo g pp F bA o s.P (o.blk i) := .inr (.inr (.inr (.inr (.inr ⟨i, f, hf, .inl rfl⟩))))
  clear h hI hf hfk
  have k0c := k0.c; have k0f := k0.f; have k0l := k0.lt
  cases hdt : f.dirty with
  | false =>
    rw [hdt] at q0
    have q0c := q0.c; have q0f := q0.f; have q0l := q0.lt
    go_enter Try.func70, Try.ntmps70
    go_wp2
    go_ret
    have e : cleanS s i f = s := by unfold cleanS; rw [if_neg (by rw [hdt]; decide)]
    rw [e]
    exact ⟨by first | rfl | simp, POn.mk hhx.out (Grew.refl _ _) (Mod.refl _ _)⟩
  | true =>
    rw [hdt] at q0
    obtain ⟨⟨gq, hA, hgb, hbs, hgl⟩, hc1, hc2, how⟩ := hq2
    have how := how hdt
    obtain ⟨lsn, hlsn⟩ : ∃ x, lsnP f = x := ⟨_, rfl⟩
    have hl0 : num ((f.p.drop 0).take 8) = lsn := hlsn
    have hl0x := Lib.hid hl0
    have hlr := num8_rng hfkx.out.byt (by rw [hfkx.out.len]; omega)
    rw [show num (f.p.take 8) = lsn from hlsn] at hlr
    have hlsnx := Lib.hid hlsn
    obtain ⟨sr, hsr⟩ : ∃ x, s.L.sure = x := ⟨_, rfl⟩
    have hsrx := Lib.hid hsr
    have hAx := Lib.hid hA
    have hdx := Lib.hid hdt
    clear hl0 hlsn hsr hA hdt
    have q0c := q0.c; have q0f := q0.f; have q0l := q0.lt
    go_enter Try.func70, Try.ntmps70
    go_wp2_with fail
    refine (readuint_calls 0 (o.pc i) w hbs (by omega) hc1 (by omega)).mono ?_
    rw [hl0x.out]
    rintro e w1 ⟨rfl, rfl⟩
    go_wp2_with fail
    refine (lsure_calls w hhx.out.l).mono ?_
    rw [hsrx.out]
    rintro e w1 ⟨rfl, rfl⟩
    by_cases hls : lsn < sr
    · have hcl : cleanS s i f = ⟨setGone (setFr s.P i { f with dirty := false }) i f.since, wrD s.D (s.P.at_ + i).toNat f.p, s.L⟩ := by
        unfold cleanS
        rw [if_pos hdx.out, hlsnx.out, hsrx.out, if_pos hls]
      have hclx := Lib.hid hcl
      have hlb : decide (lsn ≥ sr) = false := by simp; omega
      have hng : ¬ (sr ≤ lsn) := by omega
      have h2x := hhx
      have hf2x := hfx
      have hq2x := Lib.hid hIx.out.q
      have ho2x : Hid (s.D.ops < 1000000000) := Lib.hid (by have := hIx.out.ops; omega)
      have hw2x : Hid (s.D.way.length < 1000000000) := Lib.hid (by have := hIx.out.way; omega)
      have hg2x : Hid (Grew (FTo g pp F bA o s.P) (FTo g pp F bA o s.P) w.heap.size) := Lib.hid (Grew.refl _ _)
      have hm2x : Hid (Mod (FTo g pp F bA o s.P) w w) := Lib.hid (Mod.refl _ _)
      clear hcl
      go_upto_region 9 with (fail)
      have d3 : Below w.heap.size w w.drew := below_dr (Below.refl _ _)
      have h3 := h2x.out.later d3
      have k3 := h3.p.at_
      obtain ⟨q3, hq31, hq32⟩ := h3.p.frs i f hf2x.out
      rw [hdx.out] at q3
      have how3 := hq32.2.2.2 hdx.out
      have k3c := k3.c
      have q3c := q3.c
      obtain ⟨N, hN⟩ : ∃ N, (s.P.at_ + i).toNat = N := ⟨_, rfl⟩
      have hat0 := h3.ok.at_
      have hfit := h3.ok.fit
      have hpg3 := h3.ok.pages
      have hfr3 := h3.ok.fr i f hf2x.out
      have hNe : s.P.at_ + i = (N : Int) := by omega
      have hNl : N < s.D.l.length := by omega
      have hN0 : (N : Int) < 4398046511104 := by have := h3.d.ok.len; omega
      have hNw : IntKind.i64.wrap (s.P.at_ + i) = N := by rw [hNe]; exact IntWalk.i64_in _ (by omega)
      have hNx := Lib.hid hN
      have hNex := Lib.hid hNe
      clear hN hNe hfit hat0 hpg3 hfr3
      go_region_held3 (fun w' => (∀ o9, w'.cell? ⟨pp, o9, none⟩ = #[.pointer (some ⟨d, 0, none⟩), .pointer (some ⟨g, 0, none⟩), .int .i64 s.P.at_, .int .i64 s.P.pages, .int .i64 s.P.most, .int .i64 s.P.clock, .map (some o.fb), .map (some o.gb)][o9]?) ∧ (∀ o9, w'.cell? ⟨o.blk i, o9, none⟩ = #[.slice (o.pb i) 512 (o.pc i), .bool true, .int .u64 f.since, .int .i64 f.pins, .int .i64 f.used][o9]?))
        (first
          | (exact ⟨k3c, q3c⟩)
          | (exact f4))
        (first
          | (go_at_call 49; with_reducible refine (wr_dd N w.drew h3.d hNl ho2x.out hw2x.out how3).mono ?_; rw [hq2x.out.wrE, hq2x.out.wr1]; rintro e w4 ⟨rfl, hdd4, hm4⟩
             obtain ⟨F4, h4, hg4⟩ := h3.dsk hdd4 hm4 rfl
             obtain ⟨q4, hq41, hq42⟩ := h4.p.frs i f hf2x.out
             rw [hdx.out] at q4
             have f4 := And.intro h4.p.at_.c q4.c)
          | fail)
      have hgo4 := go_on hg2x.out (hm2x.out.trans (Mod.of_below (S := Nob) d3) (fun _ _ h => h.elim)) hm4 (fun k hk => .inl hk) hg4
      have h4x := Lib.hid h4
      have k4 := h4.p.at_
      have hgo4x := Lib.hid hgo4
      clear f4 k3c q3c hm4 hg4 h3 k3 q3 hq31 hq32 how3 hdd4 hgo4 q0 k0
      have k4c := k4.c; have k4f := k4.f; have k4l := k4.lt
      have q4c := q4.c; have q4f := q4.f; have q4l := q4.lt
      go_upto_region 13 with (fail)
      have q5 := At.set (o := 1) (v := .bool false) q4
      simp only [List.setIfInBounds_toArray, List.set_cons_zero, List.set_cons_succ] at q5
      have m5 := (Mod.refl (fun k => k = o.blk i) w4).set (k := o.blk i) (.inl rfl) (o := 1) (.bool false)
      have hgo5 := h4x.out.frT (f' := { f with dirty := false }) hf2x.out m5 rfl (fun h => by cases h) ⟨hfkx.out.len, hfkx.out.byt, hfkx.out.since, hfkx.out.pins, hfkx.out.used⟩ q5
      clear k4 k4c k4f k4l q4 q4c q4f q4l h4
      generalize (w4.setCell ⟨o.blk i, 1, none⟩ (.bool false)) = w5 at *
      obtain ⟨h5, hg5⟩ := hgo5
      have hgo6 := go_on hgo4x.out.1 hgo4x.out.2 m5 (fun k hk => hk ▸ .inr (.inr (.inr (.inr (.inr ⟨i, f, hf2x.out, .inl rfl⟩))))) hg5
      have hgo6x := Lib.hid hgo6
      have h5x := Lib.hid h5
      have k5 := h5.p.at_
      have hlk2 := h5.p.gm.look2 Try.underlying109 hK
      clear hgo6 hg5 m5
      have k5c := k5.c; have k5f := k5.f; have k5l := k5.lt
      have q5c := q5.c; have q5f := q5.f; have q5l := q5.lt
      cases hgn : s.P.gone i with
      | some x =>
        have hlk3 : (Instr.lookup 109 (.map (some o.gb)) (.int .i64 i) true).run Try.prog w5 = .ok (.tuple #[.int .u64 x, .bool true]) w5 := by
          rw [show (setFr s.P i { f with dirty := false }).gone i = some x from hgn] at hlk2
          exact hlk2
        clear hlk2 h5
        go_wp2
        go_ret
        rw [hclx.out]
        have e : setGone (setFr s.P i { f with dirty := false }) i f.since = setFr s.P i { f with dirty := false } := by
          unfold setGone
          rw [if_pos (by rw [show (setFr s.P i { f with dirty := false }).gone i = some x from hgn]; rfl)]
        rw [e, hNx.out]
        exact ⟨by first | rfl | simp, POn.mk h5x.out hgo6x.out.1 hgo6x.out.2⟩
      | none =>
        have hlk3 : (Instr.lookup 109 (.map (some o.gb)) (.int .i64 i) true).run Try.prog w5 = .ok (.tuple #[.int .u64 0, .bool false]) w5 := by
          rw [show (setFr s.P i { f with dirty := false }).gone i = none from hgn] at hlk2
          exact hlk2
        have d5 : Below w5.heap.size w5 w5.drew := below_dr (Below.refl _ _)
        have h6 := h5.later d5
        obtain ⟨w7, hrun, hmp, hturn⟩ := h6.p.gm.put Try.underlying109 hK (v := f.since) hfkx.out.since (by have := h6.gsl; unfold maxLen; omega)
        have hrun7 : (Instr.mapUpdate 109 (.map (some o.gb)) (.int .i64 i) (.int .u64 f.since)).run Try.prog w5.drew = .ok () w7 := hrun
        clear hlk2 h5 hrun
        go_upto_region 15 with (fail)
        apply dedup9
        · intro hK9
          go_region_law (fail)
          all_goals exact hK9.out
        obtain ⟨h7, hg7⟩ := h6.setGn (turned_mod (S := fun k => k = o.gb) hturn rfl) hmp (fun k x hx => by
          have hx : updM (setFr s.P i { f with dirty := false }).gone i (some f.since) k = some x := hx
          unfold updM at hx
          by_cases hk : k = i
          · subst hk
            rw [if_pos rfl] at hx
            injection hx with hx
            subst hx
            exact ⟨(h2x.out.ok.fr k f hf2x.out).2, hfkx.out.since⟩
          · rw [if_neg hk] at hx
            exact h6.ok.gone k x hx)
        have hgo8 := go_on hgo6x.out.1 (hgo6x.out.2.trans (Mod.of_below (S := Nob) d5) (fun _ _ h => h.elim)) (turned_mod (S := fun k => k = o.gb) hturn rfl) (fun k hk => hk ▸ .inr (.inr (.inr (.inr (.inl rfl))))) hg7
        have h7x := Lib.hid h7
        have hgo8x := Lib.hid hgo8
        clear h7 hgo8 hg7 hmp hturn hrun7 k5 k5c k5f k5l q5 q5c q5f q5l h6 hgo6x
        go_wp2
        go_ret
        rw [hclx.out]
        have e : setGone (setFr s.P i { f with dirty := false }) i f.since = { setFr s.P i { f with dirty := false } with gone := updM (setFr s.P i { f with dirty := false }).gone i (some f.since), gs := insK i (setFr s.P i { f with dirty := false }).gs } := by
          unfold setGone
          rw [if_neg (by rw [show (setFr s.P i { f with dirty := false }).gone i = none from hgn]; decide)]
        rw [e, hNx.out]
        exact ⟨by first | rfl | simp, POn.mk h7x.out hgo8x.out.1 hgo8x.out.2⟩
    · have hcl : cleanS s i f = ⟨setGone (setFr (flushS s).P i { f with dirty := false }) i f.since, wrD (flushS s).D ((flushS s).P.at_ + i).toNat f.p, (flushS s).L⟩ := by
        unfold cleanS
        rw [if_pos hdx.out, hlsnx.out, hsrx.out, if_neg hls]
      have hclx := Lib.hid hcl
      have hge : sr ≤ lsn := by omega
      have hlb : decide (lsn ≥ sr) = true := by simp; omega
      clear hcl
      go_wp2_with fail
      refine (pflush_calls w hhx.out hIx.out).mono ?_
      rintro e w2 ⟨rfl, F2, bA2, bc2, h2, hg2, hm2⟩
      obtain ⟨e1, e2, e3, e4, e5, e6⟩ := flushS_fr s
      have hf2 : (flushS s).P.fr i = some f := by rw [e1]; exact hfx.out
      obtain ⟨-, hQ, -, -, hop2, hway, -⟩ := fl_q s.L hIx.out.q
      have hnp : nparts s.L ≤ 34953 := by have := hIx.out.li.ok.buf; unfold nparts; omega
      have h2x := Lib.hid h2
      have hf2x := Lib.hid hf2
      have hq2x : Hid (Qt (flushS s).D) := Lib.hid hQ
      have ho2x : Hid ((flushS s).D.ops < 1000000000) := Lib.hid (by have := hIx.out.ops; show (flD s.D s.L).ops < _; omega)
      have hw2x : Hid ((flushS s).D.way.length < 1000000000) := Lib.hid (by have := hIx.out.way; show (flD s.D s.L).way.length < _; omega)
      have hg2x := Lib.hid hg2
      have hm2x := Lib.hid hm2
      generalize flushS s = t at *
      clear e1 e2 e3 e4 e5 e6 hop2 hway hQ k0c k0f k0l q0c q0f q0l h2 hg2 hm2 hf2 hlook how hbs
      go_upto_region 9 with (fail)
      have d3 : Below w2.heap.size w2 w2.drew := below_dr (Below.refl _ _)
      have h3 := h2x.out.later d3
      have k3 := h3.p.at_
      obtain ⟨q3, hq31, hq32⟩ := h3.p.frs i f hf2x.out
      rw [hdx.out] at q3
      have how3 := hq32.2.2.2 hdx.out
      have k3c := k3.c
      have q3c := q3.c
      obtain ⟨N, hN⟩ : ∃ N, (t.P.at_ + i).toNat = N := ⟨_, rfl⟩
      have hat0 := h3.ok.at_
      have hfit := h3.ok.fit
      have hpg3 := h3.ok.pages
      have hfr3 := h3.ok.fr i f hf2x.out
      have hNe : t.P.at_ + i = (N : Int) := by omega
      have hNl : N < t.D.l.length := by omega
      have hN0 : (N : Int) < 4398046511104 := by have := h3.d.ok.len; omega
      have hNw : IntKind.i64.wrap (t.P.at_ + i) = N := by rw [hNe]; exact IntWalk.i64_in _ (by omega)
      have hNx := Lib.hid hN
      have hNex := Lib.hid hNe
      clear hN hNe hfit hat0 hpg3 hfr3
      go_region_held3 (fun w' => (∀ o9, w'.cell? ⟨pp, o9, none⟩ = #[.pointer (some ⟨d, 0, none⟩), .pointer (some ⟨g, 0, none⟩), .int .i64 t.P.at_, .int .i64 t.P.pages, .int .i64 t.P.most, .int .i64 t.P.clock, .map (some o.fb), .map (some o.gb)][o9]?) ∧ (∀ o9, w'.cell? ⟨o.blk i, o9, none⟩ = #[.slice (o.pb i) 512 (o.pc i), .bool true, .int .u64 f.since, .int .i64 f.pins, .int .i64 f.used][o9]?))
        (first
          | (exact ⟨k3c, q3c⟩)
          | (exact f4))
        (first
          | (go_at_call 49; with_reducible refine (wr_dd N w2.drew h3.d hNl ho2x.out hw2x.out how3).mono ?_; rw [hq2x.out.wrE, hq2x.out.wr1]; rintro e w4 ⟨rfl, hdd4, hm4⟩
             obtain ⟨F4, h4, hg4⟩ := h3.dsk hdd4 hm4 rfl
             obtain ⟨q4, hq41, hq42⟩ := h4.p.frs i f hf2x.out
             rw [hdx.out] at q4
             have f4 := And.intro h4.p.at_.c q4.c)
          | fail)
      have hgo4 := go_on hg2x.out (hm2x.out.trans (Mod.of_below (S := Nob) d3) (fun _ _ h => h.elim)) hm4 (fun k hk => .inl hk) hg4
      have h4x := Lib.hid h4
      have k4 := h4.p.at_
      have hgo4x := Lib.hid hgo4
      clear f4 k3c q3c hm4 hg4 h3 k3 q3 hq31 hq32 how3 hdd4 hgo4 q0 k0
      have k4c := k4.c; have k4f := k4.f; have k4l := k4.lt
      have q4c := q4.c; have q4f := q4.f; have q4l := q4.lt
      go_upto_region 13 with (fail)
      have q5 := At.set (o := 1) (v := .bool false) q4
      simp only [List.setIfInBounds_toArray, List.set_cons_zero, List.set_cons_succ] at q5
      have m5 := (Mod.refl (fun k => k = o.blk i) w4).set (k := o.blk i) (.inl rfl) (o := 1) (.bool false)
      have hgo5 := h4x.out.frT (f' := { f with dirty := false }) hf2x.out m5 rfl (fun h => by cases h) ⟨hfkx.out.len, hfkx.out.byt, hfkx.out.since, hfkx.out.pins, hfkx.out.used⟩ q5
      clear k4 k4c k4f k4l q4 q4c q4f q4l h4
      generalize (w4.setCell ⟨o.blk i, 1, none⟩ (.bool false)) = w5 at *
      obtain ⟨h5, hg5⟩ := hgo5
      have hgo6 := go_on hgo4x.out.1 hgo4x.out.2 m5 (fun k hk => hk ▸ .inr (.inr (.inr (.inr (.inr ⟨i, f, hf2x.out, .inl rfl⟩))))) hg5
      have hgo6x := Lib.hid hgo6
      have h5x := Lib.hid h5
      have k5 := h5.p.at_
      have hlk2 := h5.p.gm.look2 Try.underlying109 hK
      clear hgo6 hg5 m5
      have k5c := k5.c; have k5f := k5.f; have k5l := k5.lt
      have q5c := q5.c; have q5f := q5.f; have q5l := q5.lt
      cases hgn : t.P.gone i with
      | some x =>
        have hlk3 : (Instr.lookup 109 (.map (some o.gb)) (.int .i64 i) true).run Try.prog w5 = .ok (.tuple #[.int .u64 x, .bool true]) w5 := by
          rw [show (setFr t.P i { f with dirty := false }).gone i = some x from hgn] at hlk2
          exact hlk2
        clear hlk2 h5
        go_wp2
        go_ret
        rw [hclx.out]
        have e : setGone (setFr t.P i { f with dirty := false }) i f.since = setFr t.P i { f with dirty := false } := by
          unfold setGone
          rw [if_pos (by rw [show (setFr t.P i { f with dirty := false }).gone i = some x from hgn]; rfl)]
        rw [e, hNx.out]
        exact ⟨by first | rfl | simp, POn.mk h5x.out hgo6x.out.1 hgo6x.out.2⟩
      | none =>
        have hlk3 : (Instr.lookup 109 (.map (some o.gb)) (.int .i64 i) true).run Try.prog w5 = .ok (.tuple #[.int .u64 0, .bool false]) w5 := by
          rw [show (setFr t.P i { f with dirty := false }).gone i = none from hgn] at hlk2
          exact hlk2
        have d5 : Below w5.heap.size w5 w5.drew := below_dr (Below.refl _ _)
        have h6 := h5.later d5
        obtain ⟨w7, hrun, hmp, hturn⟩ := h6.p.gm.put Try.underlying109 hK (v := f.since) hfkx.out.since (by have := h6.gsl; unfold maxLen; omega)
        have hrun7 : (Instr.mapUpdate 109 (.map (some o.gb)) (.int .i64 i) (.int .u64 f.since)).run Try.prog w5.drew = .ok () w7 := hrun
        clear hlk2 h5 hrun
        go_upto_region 15 with (fail)
        apply dedup9
        · intro hK9
          go_region_law (fail)
          all_goals exact hK9.out
        obtain ⟨h7, hg7⟩ := h6.setGn (turned_mod (S := fun k => k = o.gb) hturn rfl) hmp (fun k x hx => by
          have hx : updM (setFr t.P i { f with dirty := false }).gone i (some f.since) k = some x := hx
          unfold updM at hx
          by_cases hk : k = i
          · subst hk
            rw [if_pos rfl] at hx
            injection hx with hx
            subst hx
            exact ⟨(h2x.out.ok.fr k f hf2x.out).2, hfkx.out.since⟩
          · rw [if_neg hk] at hx
            exact h6.ok.gone k x hx)
        have hgo8 := go_on hgo6x.out.1 (hgo6x.out.2.trans (Mod.of_below (S := Nob) d5) (fun _ _ h => h.elim)) (turned_mod (S := fun k => k = o.gb) hturn rfl) (fun k hk => hk ▸ .inr (.inr (.inr (.inr (.inl rfl))))) hg7
        have h7x := Lib.hid h7
        have hgo8x := Lib.hid hgo8
        clear h7 hgo8 hg7 hmp hturn hrun7 k5 k5c k5f k5l q5 q5c q5f q5l h6 hgo6x
        go_wp2
        go_ret
        rw [hclx.out]
        have e : setGone (setFr t.P i { f with dirty := false }) i f.since = { setFr t.P i { f with dirty := false } with gone := updM (setFr t.P i { f with dirty := false }).gone i (some f.since), gs := insK i (setFr t.P i { f with dirty := false }).gs } := by
          unfold setGone
          rw [if_neg (by rw [show (setFr t.P i { f with dirty := false }).gone i = none from hgn]; decide)]
        rw [e, hNx.out]
        exact ⟨by first | rfl | simp, POn.mk h7x.out hgo8x.out.1 hgo8x.out.2⟩
end Go.Proofs.Ytggeepihkeocmaa
