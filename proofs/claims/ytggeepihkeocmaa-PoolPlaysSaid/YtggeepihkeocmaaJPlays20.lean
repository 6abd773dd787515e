/- Joined texts: PlD, PlLay, PlList. -/
import Derived.Test.YtggeepihkeocmaaJPlays19
import Derived.Shelf.SlIterI.Nil
import Derived.Shelf.SortM.Plain
import Derived.Shelf.SortM.SortNone
import Derived.Test.YtggeepihkeocmaaProg
/- The pool in the heap when one of its frames turns. -/
namespace Go.Proofs.Ytggeepihkeocmaa
set_option linter.unusedVariables false
set_option linter.unusedSimpArgs false
open Go.RowKit Go.Maps
theorem ops_dd {base d lb : Nat} {F : Nat → Prop} {D : Dk} (w : World) (h : DD w base d lb F D) : Calls Try.prog 59 #[.pointer (some ⟨d, 0, none⟩)] w fun e w' => e = .returned (.int .i64 D.ops) ∧ w = w' := by
  obtain ⟨pA, mc, h1, -⟩ := h
  exact ops_calls w h1.k
theorem flR_q (L : Lg) : ∀ (f j : Nat) (D : Dk), Qt D → Qt (flR D L f j).1 ∧ (flR D L f j).2 = 0 ∧ (flR D L f j).1.l.length = D.l.length ∧ (flR D L f j).1.ops = D.ops + f ∧ (flR D L f j).1.way.length = D.way.length + f
  | 0, _, D, h => ⟨h, rfl, rfl, by show D.ops = D.ops + ((0 : Nat) : Int); omega, rfl⟩
  | f + 1, j, D, h => by
    unfold flR
    rw [if_pos h.wrE, h.wr1]
    obtain ⟨h1, h2, h3, h4, h5⟩ := flR_q L f (j + 1) _ (h.wr (idxL L (numL L j)) (layL (numL L j : Nat) L.epoch (partL L j)))
    refine ⟨h1, h2, h3.trans rfl, ?_, ?_⟩
    · rw [h4]
      show D.ops + 1 + (f : Int) = D.ops + ((f + 1 : Nat) : Int)
      omega
    · rw [h5]
      show (D.way ++ [_]).length + f = _
      rw [List.length_append]
      show D.way.length + 1 + f = _
      omega
theorem fl_q {D : Dk} (L : Lg) (h : Qt D) : flE D L = 0 ∧ Qt (flD D L) ∧ (flD D L).l.length = D.l.length ∧ D.ops ≤ (flD D L).ops ∧ (flD D L).ops ≤ D.ops + nparts L + 1 ∧ ((flD D L).way.length ≤ D.way.length) ∧ flZ D L = (if L.sure = endL L then L else flL L) := by
  obtain ⟨h1, h2, h3, h4, h5⟩ := flR_q L (nparts L) 0 D h
  have e1 : fl1E D L = 0 := h2
  have q1 : Qt (fl1D D L) := h1
  have hE : flE D L = 0 := by unfold flE; by_cases hs : L.sure = endL L; · rw [if_pos hs]
                              · rw [if_neg hs, if_pos e1]; exact q1.syE
  refine ⟨hE, ?_⟩
  unfold flD flZ
  by_cases hs : L.sure = endL L
  · rw [if_pos hs, if_pos hs, if_pos hs]
    exact ⟨h, rfl, by omega, by omega, Nat.le_refl _, rfl⟩
  · rw [if_neg hs, if_neg hs, if_neg hs, if_pos e1, if_pos hE, q1.sy1]
    refine ⟨q1.sy, ?_, ?_, ?_, ?_, rfl⟩
    · rw [sync_len]; exact h3
    · show D.ops ≤ (fl1D D L).ops + 1
      have : (fl1D D L).ops = _ := h4
      omega
    · show (fl1D D L).ops + 1 ≤ _
      have : (fl1D D L).ops = _ := h4
      omega
    · exact Nat.zero_le _
theorem sep_grew {X F F' : Nat → Prop} {n : Nat} (h : ∀ k, X k → ¬ F k) (hx : ∀ k, X k → k < n) (hg : Grew F F' n) : ∀ k, X k → ¬ F' k := fun k hk hf => by
  rcases hg k hf with h1 | h1
  · exact h k hk h1
  · have := hx k hk; omega
section
variable {w w' : World} {base d lb g pp bc : Nat} {F : Nat → Prop} {bA : Option Addr} {o : Lo} {s : St}
/-- The log and the disk have gone on. -/
theorem PWo.log {D' : Dk} {L' : Lg} (h : PWo w base d lb g pp F bA bc o s) (hT : LogTo w w' base d lb g F bA D' L') (hl : D'.l.length = s.D.l.length) :
    ∃ F' bA' bc', PWo w' base d lb g pp F' bA' bc' o ⟨s.P, D', L'⟩ ∧ Grew (FTo g pp F bA o s.P) (FTo g pp F' bA' o s.P) w.heap.size ∧ Mod (fun k => F k ∨ LFoot g bA k) w w' := by
  obtain ⟨F', bA', bc', h1, h2, h3, h4, h5⟩ := hT
  have hlt := h.p.lts
  refine ⟨F', bA', bc', ⟨h1, h2, h.p.mod h5 (fun k hk hf => hf.elim (h.sep k hk).1 (h.sep k hk).2), by rw [hl]; exact h.ok, fun k hk => ⟨?_, fun hf => ?_⟩⟩, fun k hk => ?_, h5⟩
  · exact sep_grew (fun k hk => (h.sep k hk).1) (fun k hk => (hlt k hk).2) h3 k hk
  · rcases hf with rfl | hf
    · exact (h.sep k hk).2 (.inl rfl)
    · rcases h4 k hf with h6 | h6
      · exact (h.sep k hk).2 (.inr h6)
      · have := (hlt k hk).2; omega
  · rcases hk with hk | hk | hk
    · exact (h3 k hk).imp .inl id
    · rcases hk with rfl | hk
      · exact .inl (.inr (.inl (.inl rfl)))
      · exact (h4 k hk).imp (fun h => .inr (.inl (.inr h))) id
    · exact .inl (.inr (.inr hk))
/-- The disk has gone on. -/
theorem PWo.dsk {D' : Dk} (h : PWo w base d lb g pp F bA bc o s) (h1 : ∃ F', DD w' base d lb F' D' ∧ Grew F F' w.heap.size) (h5 : Mod F w w') (hl : D'.l.length = s.D.l.length) :
    ∃ F', PWo w' base d lb g pp F' bA bc o ⟨s.P, D', s.L⟩ ∧ Grew (FTo g pp F bA o s.P) (FTo g pp F' bA o s.P) w.heap.size := by
  obtain ⟨F', h1, h3⟩ := h1
  have hlt := h.p.lts
  refine ⟨F', ⟨h1, h.l.mod h5 (h.l.w.noF h.d) (h.d.noB h.l.buf), h.p.mod h5 (fun k hk hf => (h.sep k hk).1 hf), by rw [hl]; exact h.ok, fun k hk => ⟨sep_grew (fun k hk => (h.sep k hk).1) (fun k hk => (hlt k hk).2) h3 k hk, (h.sep k hk).2⟩⟩, fun k hk => ?_⟩
  rcases hk with hk | hk | hk
  · exact (h3 k hk).imp .inl id
  · exact .inl (.inr (.inl hk))
  · exact .inl (.inr (.inr hk))
/-- The pool alone has turned, to P', in blocks that it had or new ones. -/
theorem PWo.pool {P' : Pl} {o' : Lo} {S : Nat → Prop} (h : PWo w base d lb g pp F bA bc o s) (hm : Mod S w w') (hS : ∀ k, S k → PF pp o s.P k) (hp : PlH w' base d g pp o' P') (hk : PlOk P' s.D.l.length) (hg : ∀ k, PF pp o' P' k → PF pp o s.P k ∨ w.heap.size ≤ k) :
    PWo w' base d lb g pp F bA bc o' ⟨P', s.D, s.L⟩ ∧ Grew (FTo g pp F bA o s.P) (FTo g pp F bA o' P') w.heap.size := by
  have hft := foot_low h.l h.d
  refine ⟨⟨h.d.mod hm (fun k hk hs => (h.sep k (hS k hs)).1 hk), h.l.mod hm (fun hs => (h.sep _ (hS _ hs)).2 (.inl rfl)) (fun b hb hs => (h.sep _ (hS _ hs)).2 (.inr hb)), hp, hk, fun k hk => ?_⟩, fun k hk => ?_⟩
  · rcases hg k hk with h1 | h1
    · exact h.sep k h1
    · exact ⟨fun hf => by have := (h.d.lts k hf).2; omega, fun hf => by have := (hft.1 k hf).2; omega⟩
  · rcases hk with hk | hk | hk
    · exact .inl (.inl hk)
    · exact .inl (.inr (.inl hk))
    · exact (hg k hk).imp (fun h => .inr (.inr h)) id
theorem PlOk.wipe {P : Pl} {n : Nat} (h : PlOk P n) : PlOk (wipeP P) n := ⟨h.at_, h.pages, h.fit, h.most, h.clock, h.len, h.fr, fun k s hs => by cases hs⟩
theorem PF_wipe (pp : Nat) (o : Lo) (P : Pl) (k : Nat) : PF pp o (wipeP P) k ↔ PF pp o P k := Iff.rfl
end
section
variable {w w' : World} {base d g pp : Nat} {o o' : Lo} {P P' : Pl} {S : Nat → Prop}
theorem PlH.turn (h : PlH w base d g pp o P) (hm : Mod S w w') (i : Int)
    (hat : At w' pp #[.pointer (some ⟨d, 0, none⟩), .pointer (some ⟨g, 0, none⟩), .int .i64 P'.at_, .int .i64 P'.pages, .int .i64 P'.most, .int .i64 P'.clock, .map (some o.fb), .map (some o.gb)] 111)
    (hfm : MpR EF w' o.fb (fun k => (P'.fr k).map (fun _ => o'.blk k)) P'.ks) (hgm : MpR EG w' o.gb P'.gone P'.gs)
    (ho : o'.fb = o.fb ∧ o'.gb = o.gb ∧ ∀ k, k ≠ i → o'.blk k = o.blk k ∧ o'.pb k = o.pb k ∧ o'.pc k = o.pc k)
    (hfr : ∀ k, k ≠ i → P'.fr k = P.fr k)
    (hS : ∀ k f, k ≠ i → P.fr k = some f → ¬ S (o.blk k) ∧ ∀ b, ownBlk (o.pb k) = some b → ¬ S b)
    (hi : ∀ f', P'.fr i = some f' → (At w' (o'.blk i) #[.slice (o'.pb i) 512 (o'.pc i), .bool f'.dirty, .int .u64 f'.since, .int .i64 f'.pins, .int .i64 f'.used] 105 ∧ base ≤ o'.blk i ∧ PgB w' base (o'.pb i) (o'.pc i) f') ∧ ∀ k f, k ≠ i → P.fr k = some f → o.blk k ≠ o'.blk i ∧ ownBlk (o.pb k) ≠ ownBlk (o'.pb i)) :
    PlH w' base d g pp o' P' := by
  obtain ⟨o1, o2, o3⟩ := ho
  have hone : ∀ k, k ≠ i → ∀ f, P'.fr k = some f → P.fr k = some f := fun k hk f hf => by rw [← hfr k hk]; exact hf
  refine ⟨by rw [o1, o2]; exact hat, h.hp, by rw [o1]; exact h.hf, by rw [o2]; exact h.hg, by rw [o1]; exact hfm, by rw [o2]; exact hgm, by rw [o1, o2]; exact h.ne, fun k f hf => ?_, fun j k f f' hj hk e => ?_, fun j k f f' hj hk e => ?_⟩
  · by_cases hk : k = i
    · subst hk; exact (hi f hf).1
    · obtain ⟨b1, b2, b3⟩ := o3 k hk
      obtain ⟨h1, h2, h3⟩ := h.frs k f (hone k hk f hf)
      obtain ⟨s1, s2⟩ := hS k f hk (hone k hk f hf)
      rw [b1, b2, b3]
      exact ⟨h1.mod hm s1, h2, h3.mod hm s2⟩
  · by_cases hji : j = i
    · by_cases hki : k = i
      · rw [hji, hki]
      · subst hji
        have := ((hi f hj).2 k f' hki (hone k hki f' hk)).1
        rw [(o3 k hki).1] at e
        exact absurd e.symm this
    · by_cases hki : k = i
      · subst hki
        have := ((hi f' hk).2 j f hji (hone j hji f hj)).1
        rw [(o3 j hji).1] at e
        exact absurd e this
      · rw [(o3 j hji).1, (o3 k hki).1] at e
        exact h.inj j k f f' (hone j hji f hj) (hone k hki f' hk) e
  · by_cases hji : j = i
    · by_cases hki : k = i
      · rw [hji, hki]
      · subst hji
        have := ((hi f hj).2 k f' hki (hone k hki f' hk)).2
        rw [(o3 k hki).2.1] at e
        exact absurd e.symm this
    · by_cases hki : k = i
      · subst hki
        have := ((hi f' hk).2 j f hji (hone j hji f hj)).2
        rw [(o3 j hji).2.1] at e
        exact absurd e this
      · rw [(o3 j hji).2.1, (o3 k hki).2.1] at e
        exact h.injb j k f f' (hone j hji f hj) (hone k hki f' hk) e
/-- The pool's blocks are not one another. -/
theorem PlH.ne_fr (h : PlH w base d g pp o P) {k : Int} {f : Fr} (hk : P.fr k = some f) : o.blk k ≠ pp ∧ o.blk k ≠ o.fb ∧ o.blk k ≠ o.gb ∧ (∀ j f', P.fr j = some f' → ownBlk (o.pb j) ≠ some (o.blk k)) := by
  obtain ⟨h1, h2, h3⟩ := h.frs k f hk
  refine ⟨fun e => ?_, h.fm.noAt _ h1, h.gm.noAt _ h1, fun j f' hj e => ?_⟩
  · exact absurd ((e ▸ h1 : At w pp _ _).inj h.at_) (by decide)
  · obtain ⟨-, -, ⟨⟨gb, hA, -, hr, -⟩, -⟩⟩ := h.frs j f' hj
    rw [hA] at e
    have e2 : gb = o.blk k := by simpa [ownBlk] using e
    subst e2
    obtain ⟨g2, o2, hA2, -, -, hc⟩ := hr.2.2 (by omega)
    rw [hA] at hA2
    injection hA2 with hA2
    injection hA2 with e1 e3
    subst e1; subst e3
    have := (hc 0 (by omega)).symm.trans (h1.c 0)
    simp [bsF] at this
theorem PlH.ne_pb (h : PlH w base d g pp o P) {k : Int} {f : Fr} (hk : P.fr k = some f) : ∀ b, ownBlk (o.pb k) = some b → b ≠ pp ∧ b ≠ o.fb ∧ b ≠ o.gb := fun b hb => by
  obtain ⟨h1, h2, ⟨⟨gb, hA, -, hr, -⟩, -⟩⟩ := h.frs k f hk
  rw [hA] at hb
  have e2 : gb = b := by simpa [ownBlk] using hb
  subst e2
  obtain ⟨g2, o2, hA2, -, -, hc⟩ := hr.2.2 (by omega)
  rw [hA] at hA2
  injection hA2 with hA2
  injection hA2 with e1 e3
  subst e1; subst e3
  have hc0 := hc 0 (by omega)
  refine ⟨fun e => ?_, fun e => ?_, fun e => ?_⟩
  · subst e
    have := hc0.symm.trans (h.at_.c 0)
    simp [bsF] at this
  · obtain ⟨D, ⟨es, clock, hb, -⟩, -⟩ := h.fm
    rw [e] at hc0
    simp [World.cell?, hb] at hc0
  · obtain ⟨D, ⟨es, clock, hb, -⟩, -⟩ := h.gm
    rw [e] at hc0
    simp [World.cell?, hb] at hc0
end
theorem dedup9 {P Q : Prop} (k : Hid P → Q) (h : P) : Q := k (Lib.hid h)
theorem go_on {FT FT' FT'' T : Nat → Prop} {w w1 w2 : World} (hg : Grew FT FT' w.heap.size) (hm : Mod FT w w1) (hm' : Mod T w1 w2) (hT : ∀ k, T k → FT' k) (hg' : Grew FT' FT'' w1.heap.size) : Grew FT FT'' w.heap.size ∧ Mod FT w w2 :=
  ⟨hg.trans hg' hm.size, hm.trans hm' (fun k hk ht => (hg k (hT k ht)).elim id (fun h => by omega))⟩
theorem rise_len : ∀ (l : List Int) (a b : Int), a ≤ b → l.Pairwise (· < ·) → (∀ x ∈ l, a ≤ x ∧ x < b) → (l.length : Int) ≤ b - a
  | [], a, b, h, _, _ => by show ((0 : Nat) : Int) ≤ _; omega
  | x :: l, a, b, h, hp, hx => by
    have h1 := List.pairwise_cons.1 hp
    have h2 := hx x (by simp)
    have ih := rise_len l (x + 1) b (by omega) h1.2 (fun y hy => ⟨by have := h1.1 y hy; omega, (hx y (by simp [hy])).2⟩)
    rw [List.length_cons]
    omega
theorem setFr_map {P : Pl} {i : Int} {f f' : Fr} {o : Lo} (hf : P.fr i = some f) : (fun k => ((setFr P i f').fr k).map (fun _ => o.blk k)) = fun k => (P.fr k).map (fun _ => o.blk k) := by
  funext k
  show ((updM P.fr i (some f') k).map _) = _
  unfold updM
  by_cases hk : k = i
  · subst hk; rw [if_pos rfl, hf]; rfl
  · rw [if_neg hk]
section
variable {w w' : World} {base d lb g pp bc : Nat} {F : Nat → Prop} {bA : Option Addr} {o : Lo} {s : St}
theorem PlOk.frT {P : Pl} {n : Nat} {i : Int} {f f' : Fr} (h : PlOk P n) (hf : P.fr i = some f) (h' : FrOk f') : PlOk (setFr P i f') n :=
  ⟨h.at_, h.pages, h.fit, h.most, h.clock, h.len, fun k x hx => by
    have hx : updM P.fr i (some f') k = some x := hx
    unfold updM at hx
    by_cases hk : k = i
    · subst hk
      rw [if_pos rfl] at hx
      injection hx with hx
      subst hx
      exact ⟨h', (h.fr k f hf).2⟩
    · rw [if_neg hk] at hx
      exact h.fr k x hx, h.gone⟩
/-- A frame's own cells turn: its bytes stay. -/
theorem PWo.frT {i : Int} {f f' : Fr} (h : PWo w base d lb g pp F bA bc o s) (hf : s.P.fr i = some f) (hm : Mod (fun k => k = o.blk i) w w') (hp : f'.p = f.p) (hd : f'.dirty = true → f.dirty = true) (hok : FrOk f')
    (hat : At w' (o.blk i) #[.slice (o.pb i) 512 (o.pc i), .bool f'.dirty, .int .u64 f'.since, .int .i64 f'.pins, .int .i64 f'.used] 105) :
    PWo w' base d lb g pp F bA bc o ⟨setFr s.P i f', s.D, s.L⟩ ∧ Grew (FTo g pp F bA o s.P) (FTo g pp F bA o (setFr s.P i f')) w.heap.size := by
  obtain ⟨n1, n2, n3, n4⟩ := h.p.ne_fr hf
  obtain ⟨a1, a2, a3⟩ := h.p.frs i f hf
  have hupd : ∀ k, (setFr s.P i f').fr k = if k = i then some f' else s.P.fr k := fun _ => rfl
  refine h.pool hm (fun k hk => hk ▸ .inr (.inr (.inr ⟨i, f, hf, .inl rfl⟩))) (h.p.turn (o' := o) (P' := setFr s.P i f') hm i (h.p.at_.mod hm (Ne.symm n1)) ?_ (h.p.gm.mod hm (Ne.symm n3)) ⟨rfl, rfl, fun _ _ => ⟨rfl, rfl, rfl⟩⟩ (fun k hk => by rw [hupd, if_neg hk]) (fun k fk hk hfk => ⟨fun e => hk (h.p.inj k i fk f hfk hf e), fun b hb e => n4 k fk hfk (e ▸ hb)⟩) (fun fx hfx => ?_)) (h.ok.frT hf hok) (fun k hk => .inl ?_)
  · rw [setFr_map hf]; exact h.p.fm.mod hm (Ne.symm n2)
  · rw [hupd, if_pos rfl] at hfx
    injection hfx with hfx
    subst hfx
    have a4 := a3.mod hm (fun b hb e => n4 i f hf (e ▸ hb))
    refine ⟨⟨hat, a2, ?_⟩, fun k fk hk hfk => ⟨fun e => hk (h.p.inj k i fk f hfk hf e), fun e => hk (h.p.injb k i fk f hfk hf e)⟩⟩
    unfold PgB at a4 ⊢
    rw [hp]
    exact ⟨a4.1, a4.2.1, a4.2.2.1, fun hx => a4.2.2.2 (hd hx)⟩
  · rcases hk with hk | hk | hk | ⟨j, fj, hj, hk⟩
    · exact .inl hk
    · exact .inr (.inl hk)
    · exact .inr (.inr (.inl hk))
    · rw [hupd] at hj
      by_cases hji : j = i
      · subst hji; exact .inr (.inr (.inr ⟨j, f, hf, hk⟩))
      · rw [if_neg hji] at hj; exact .inr (.inr (.inr ⟨j, fj, hj, hk⟩))
/-- The map of what was written turns. -/
theorem PWo.setGn {gone' : Int → Option Int} {gs' : List Int} (h : PWo w base d lb g pp F bA bc o s) (hm : Mod (fun k => k = o.gb) w w') (hmp : MpR EG w' o.gb gone' gs') (hok : ∀ k x, gone' k = some x → (0 ≤ k ∧ k < s.P.pages) ∧ 0 ≤ x ∧ x < 18446744073709551616) :
    PWo w' base d lb g pp F bA bc o ⟨{ s.P with gone := gone', gs := gs' }, s.D, s.L⟩ ∧ Grew (FTo g pp F bA o s.P) (FTo g pp F bA o { s.P with gone := gone', gs := gs' }) w.heap.size := by
  refine h.pool hm (fun k hk => hk ▸ .inr (.inr (.inl rfl))) (h.p.turn (o' := o) (P' := { s.P with gone := gone', gs := gs' }) hm (-1) (h.p.at_.mod hm (fun e => h.p.gm.noAt _ h.p.at_ e)) (h.p.fm.mod hm h.p.ne) hmp ⟨rfl, rfl, fun _ _ => ⟨rfl, rfl, rfl⟩⟩ (fun _ _ => rfl) (fun k fk hk hfk => ⟨(h.p.ne_fr hfk).2.2.1, fun b hb => (h.p.ne_pb hfk b hb).2.2⟩) (fun fx hfx => ?_)) ⟨h.ok.at_, h.ok.pages, h.ok.fit, h.ok.most, h.ok.clock, h.ok.len, h.ok.fr, hok⟩ (fun k hk => .inl hk)
  have := (h.ok.fr (-1) fx hfx).2.1
  omega
end
theorem PWo.gsl {w : World} {base d lb g pp bc : Nat} {F : Nat → Prop} {bA : Option Addr} {o : Lo} {s : St} (h : PWo w base d lb g pp F bA bc o s) : s.P.gs.length ≤ 4096 := by
  have hpg := h.ok.pages
  obtain ⟨D, -, -, -, h4, h5, -⟩ := h.p.gm
  have := rise_len s.P.gs 0 s.P.pages (by omega) h4 (fun x hx => by
    have h6 := (h5 x).1 hx
    cases hg : s.P.gone x with
    | none => rw [hg] at h6; cases h6
    | some y => exact (h.ok.gone x y hg).1)
  omega
end Go.Proofs.Ytggeepihkeocmaa
/- The library's sorted keys of a map keyed by int: its bodies are those of the kit's contracts. -/
namespace Go.Proofs.Ytggeepihkeocmaa
set_option linter.unusedVariables false
set_option linter.unusedSimpArgs false
open Go.Shelf Go.Proofs
def layKeys_ren : Go.Shelf.Ren := ⟨fun | 7 => 96 | 10 => 109 | n => n, fun | 23 => 108 | 26 => 3 | 3 => 101 | 28 => 133 | 0 => 0 | 27 => 132 | 33 => 43 | 4 => 4 | n => n, fun | n => n⟩
theorem layKeys : Go.Proofs.SlLaysZI.n7 Try.prog layKeys_ren := {
  mixed := by kernel_rfl
  f7 := ⟨Try.f96.name, by decide, Try.func96.trans (congrArg some (by kernel_rfl))⟩
  f10 := ⟨Try.f109.name, by decide, Try.func109.trans (congrArg some (by kernel_rfl))⟩
  t0 := Try.underlying0
  a0 := Try.isAgg0
  z0 := Try.sizeOf0
  v0 := Try.zeroValue0
  t4 := Try.underlying4
  a4 := Try.isAgg4
  z4 := Try.sizeOf4
  v4 := Try.zeroValue4
  t23 := Try.underlying108
  a23 := Try.isAgg108
  z23 := Try.sizeOf108
  v23 := Try.zeroValue108
  t26 := Try.underlying3
  a26 := Try.isAgg3
  z26 := Try.sizeOf3
  v26 := Try.zeroValue3
  t27 := Try.underlying132
  a27 := Try.isAgg132
  z27 := Try.sizeOf132
  v27 := Try.zeroValue132
  t28 := Try.underlying133
  a28 := Try.isAgg133
  z28 := Try.sizeOf133
  v28 := Try.zeroValue133
  t33 := Try.underlying43
  a33 := Try.isAgg43
  z33 := Try.sizeOf43
  v33 := Try.zeroValue43 }
def laySorted_ren : Go.Shelf.Ren := ⟨fun | 6 => 74 | 8 => 99 | 9 => 100 | 11 => 110 | 13 => 112 | 12 => 111 | 23 => 123 | 24 => 124 | 14 => 114 | 15 => 115 | 16 => 116 | 17 => 117 | 18 => 118 | 19 => 119 | 20 => 120 | 21 => 121 | 22 => 122 | 25 => 125 | 26 => 126 | 27 => 127 | 28 => 128 | 29 => 129 | 30 => 130 | 31 => 131 | n => n, fun | 26 => 3 | 28 => 133 | 24 => 58 | 0 => 0 | 3 => 3 | 37 => 140 | 48 => 141 | 50 => 33 | 4 => 4 | 40 => 165 | 39 => 164 | 45 => 144 | 5 => 5 | 9 => 9 | 51 => 173 | 55 => 176 | 57 => 178 | 58 => 179 | 33 => 43 | n => n, fun | n => n⟩
theorem laySorted : Go.Proofs.SlLaysZI.n6 Try.prog laySorted_ren := {
  mixed := by kernel_rfl
  f6 := ⟨Try.f74.name, by decide, Try.func74.trans (congrArg some (by kernel_rfl))⟩
  f8 := ⟨Try.f99.name, by decide, Try.func99.trans (congrArg some (by kernel_rfl))⟩
  f11 := ⟨Try.f110.name, by decide, Try.func110.trans (congrArg some (by kernel_rfl))⟩
  t0 := Try.underlying0
  a0 := Try.isAgg0
  z0 := Try.sizeOf0
  v0 := Try.zeroValue0
  t24 := Try.underlying58
  a24 := Try.isAgg58
  z24 := Try.sizeOf58
  v24 := Try.zeroValue58
  t26 := Try.underlying3
  a26 := Try.isAgg3
  z26 := Try.sizeOf3
  v26 := Try.zeroValue3
  t28 := Try.underlying133
  a28 := Try.isAgg133
  z28 := Try.sizeOf133
  v28 := Try.zeroValue133
  i26 := by kernel_rfl }
def laySort_ren : Go.Shelf.Ren := ⟨fun | 5 => 100 | 8 => 112 | 7 => 111 | 19 => 123 | 20 => 124 | 10 => 114 | 11 => 115 | 12 => 116 | 13 => 117 | 14 => 118 | 15 => 119 | 16 => 120 | 17 => 121 | 18 => 122 | 30 => 125 | 31 => 126 | 32 => 127 | 33 => 128 | 34 => 129 | 35 => 130 | 40 => 131 | n => n, fun | 23 => 58 | 25 => 3 | 3 => 3 | 32 => 140 | 22 => 58 | 0 => 0 | 44 => 141 | 46 => 33 | 4 => 4 | 36 => 165 | 35 => 164 | 41 => 144 | 5 => 5 | 9 => 9 | 53 => 173 | 57 => 176 | 63 => 178 | 64 => 179 | n => n, fun | n => n⟩
theorem laySort : Go.Proofs.SlLaysM.n5 Try.prog laySort_ren := {
  mixed := by kernel_rfl
  f5 := ⟨Try.f100.name, by decide, Try.func100.trans (congrArg some (by kernel_rfl))⟩
  f7 := ⟨Try.f111.name, by decide, Try.func111.trans (congrArg some (by kernel_rfl))⟩
  f8 := Try.func112.trans (congrArg some (by kernel_rfl))
  f10 := ⟨Try.f114.name, by decide, Try.func114.trans (congrArg some (by kernel_rfl))⟩
  f11 := ⟨Try.f115.name, by decide, Try.func115.trans (congrArg some (by kernel_rfl))⟩
  f12 := ⟨Try.f116.name, by decide, Try.func116.trans (congrArg some (by kernel_rfl))⟩
  f13 := ⟨Try.f117.name, by decide, Try.func117.trans (congrArg some (by kernel_rfl))⟩
  f14 := ⟨Try.f118.name, by decide, Try.func118.trans (congrArg some (by kernel_rfl))⟩
  f15 := ⟨Try.f119.name, by decide, Try.func119.trans (congrArg some (by kernel_rfl))⟩
  f16 := ⟨Try.f120.name, by decide, Try.func120.trans (congrArg some (by kernel_rfl))⟩
  f17 := ⟨Try.f121.name, by decide, Try.func121.trans (congrArg some (by kernel_rfl))⟩
  f18 := ⟨Try.f122.name, by decide, Try.func122.trans (congrArg some (by kernel_rfl))⟩
  f19 := Try.func123.trans (congrArg some (by kernel_rfl))
  f20 := Try.func124.trans (congrArg some (by kernel_rfl))
  f30 := ⟨Try.f125.name, by decide, Try.func125.trans (congrArg some (by kernel_rfl))⟩
  f31 := Try.func126.trans (congrArg some (by kernel_rfl))
  f32 := Try.func127.trans (congrArg some (by kernel_rfl))
  f33 := ⟨Try.f128.name, by decide, Try.func128.trans (congrArg some (by kernel_rfl))⟩
  f34 := ⟨Try.f129.name, by decide, Try.func129.trans (congrArg some (by kernel_rfl))⟩
  f35 := ⟨Try.f130.name, by decide, Try.func130.trans (congrArg some (by kernel_rfl))⟩
  f40 := ⟨Try.f131.name, by decide, Try.func131.trans (congrArg some (by kernel_rfl))⟩
  t0 := Try.underlying0
  a0 := Try.isAgg0
  z0 := Try.sizeOf0
  v0 := Try.zeroValue0
  t3 := Try.underlying3
  a3 := Try.isAgg3
  z3 := Try.sizeOf3
  v3 := Try.zeroValue3
  t4 := Try.underlying4
  a4 := Try.isAgg4
  z4 := Try.sizeOf4
  v4 := Try.zeroValue4
  t5 := Try.underlying5
  a5 := Try.isAgg5
  z5 := Try.sizeOf5
  v5 := Try.zeroValue5
  t9 := Try.underlying9
  a9 := Try.isAgg9
  z9 := Try.sizeOf9
  v9 := Try.zeroValue9
  t22 := Try.underlying58
  a22 := Try.isAgg58
  z22 := Try.sizeOf58
  v22 := Try.zeroValue58
  t23 := Try.underlying58
  a23 := Try.isAgg58
  z23 := Try.sizeOf58
  v23 := Try.zeroValue58
  t25 := Try.underlying3
  a25 := Try.isAgg3
  z25 := Try.sizeOf3
  v25 := Try.zeroValue3
  t32 := Try.underlying140
  a32 := Try.isAgg140
  z32 := Try.sizeOf140
  v32 := Try.zeroValue140
  t35 := Try.underlying164
  a35 := Try.isAgg164
  z35 := Try.sizeOf164
  v35 := Try.zeroValue164
  t36 := Try.underlying165
  a36 := Try.isAgg165
  z36 := Try.sizeOf165
  v36 := Try.zeroValue165
  t41 := Try.underlying144
  a41 := Try.isAgg144
  z41 := Try.sizeOf144
  v41 := Try.zeroValue144
  t44 := Try.underlying141
  a44 := Try.isAgg141
  z44 := Try.sizeOf141
  v44 := Try.zeroValue141
  t46 := Try.underlying33
  a46 := Try.isAgg33
  z46 := Try.sizeOf33
  v46 := Try.zeroValue33
  t53 := Try.underlying173
  a53 := Try.isAgg173
  z53 := Try.sizeOf173
  v53 := Try.zeroValue173
  t57 := Try.underlying176
  a57 := Try.isAgg176
  z57 := Try.sizeOf176
  v57 := Try.zeroValue176
  t63 := Try.underlying178
  a63 := Try.isAgg178
  z63 := Try.sizeOf178
  v63 := Try.zeroValue178
  t64 := Try.underlying179
  a64 := Try.isAgg179
  z64 := Try.sizeOf179
  v64 := Try.zeroValue179 }
end Go.Proofs.Ytggeepihkeocmaa
/- The pool's list: the keys of its frames, rising. -/
namespace Go.Proofs.Ytggeepihkeocmaa
set_option linter.unusedVariables false
set_option linter.unusedSimpArgs false
open Go.RowKit Go.Maps Go.Sort Go.Shelf Go.Proofs
/-- Ints in memory. -/
def IzR (w : World) (lo hi : Nat) (A : Option Addr) (l : List Int) : Prop := Rd w lo hi A l.length (fun j => .int .i64 (l.getD j 0))
theorem laySorts (m : Nat) : AnyZI.SortsIn Try.prog laySorted_ren Fence.wide m :=
  ⟨fun blk off cap ss W hH hblk hsz => callsIn_wide.2 (AnyM.slices_Sort_int laySort blk off cap ss W hH hblk hsz),
   fun p cap W => callsIn_wide.2 (AnyM.slices_Sort_int_none laySort p cap W)⟩
theorem keys_calls (mb : Option Nat) (W : World) : Calls Try.prog 96 #[.map mb] W fun e w' => e = .returned (.func (.func 109) #[] #[.pointer (some ⟨W.heap.size, 0, none⟩)]) ∧ w' = W.alloc (.cells #[.map mb] 108) :=
  (callsIn_wide (n := 5)).1 (AnyZI.keys_in layKeys Fence.wide 5 trivial rfl mb W)
theorem sorted_calls {H : Type} (b nn : Nat) (D0 : DataW H) (R : Value → Option (DataW H × List MemPlace)) (w : World) (hown : w.ownsMap Try.prog 3 R b nn D0) (hmax : Maps.size D0 ≤ maxLen) (hbytes : Maps.size D0 * 8 ≤ 140737488355328) :
    Calls Try.prog 74 #[.func (.func 109) #[] #[.pointer (some ⟨w.heap.size, 0, none⟩)]] (w.alloc (.cells #[.map (some b)] 108)) fun e w' => ∃ (v : Value) (ss : List Int), e = .returned v ∧ ss.Perm (intKeys D0) ∧
      w'.ownsRow (w.alloc (.cells #[.map (some b)] 108)).heap.size 3 1 v ss.length ((ss.mergeSort (fun x y => decide (x ≤ y))).map encZ) ∧ (v = .slice none 0 0 ↔ ss = []) ∧ Below (w.alloc (.cells #[.map (some b)] 108)).heap.size (w.alloc (.cells #[.map (some b)] 108)) w' := by
  refine (callsIn_wide (n := 5)).1 ?_
  have hbl := hown.lt
  have hseq : SeqGives Fence.wide 2 Try.prog 109 #[.pointer (some ⟨w.heap.size, 0, none⟩)] encZ (fun ss => ss.Perm (intKeys D0)) (Maps.size D0) (w.alloc (.cells #[.map (some b)] 108)) :=
    AnyZI.keys_gives (ρ := layKeys_ren) { layKeys with } Fence.wide _ trivial rfl (by omega) w.heap.size b nn D0 _ (by simp) (by simp) (by
      obtain ⟨es, clock, hb, Ft, hs, hD⟩ := hown
      exact ⟨es, clock, (Below.heap_alloc _ _ b hbl).trans hb, Ft, hs, hD⟩)
  exact AnyZI.sorted_in laySorted Fence.wide 5 trivial trivial trivial trivial rfl (by omega) (laySorts _) (enters_of Try.func100 (by kernel_rfl) rfl) 109 #[.pointer (some ⟨w.heap.size, 0, none⟩)] trivial (enters_of Try.func109 (by kernel_rfl) rfl) _ _ hmax hbytes _ hseq
theorem sort_rise {l : List Int} (h : l.Pairwise (· < ·)) : l.mergeSort leI = l := List.mergeSort_of_pairwise (h.imp (fun h => by simp only [leI, decide_eq_true_eq]; omega))
theorem izr_of {w : World} {base n : Nat} {v : Value} {l : List Int} (h : w.ownsRow base 3 1 v n (l.map encZ)) : ∃ A c, v = .slice A l.length c ∧ l.length ≤ c ∧ IzR w base w.heap.size A l := by
  have hl : l.length = n := by have := h.1; simpa using this
  rcases h.2 with ⟨rfl, h0⟩ | ⟨g, cap, cur, rfl, h1, h2, h3, h4, h5, h6⟩
  · have : l = [] := List.eq_nil_of_length_eq_zero (by omega)
    subst this
    exact ⟨none, 0, rfl, Nat.le_refl _, Rd.nil _ _ _ _ _⟩
  · refine ⟨some ⟨g, 0, none⟩, cap, by rw [hl], by omega, fun hm => ⟨g, 0, rfl, h1, (Array.getElem?_eq_some_iff.1 h2).1, fun j hj => ?_⟩⟩
    have h7 : (cur.toList.take (n * 1))[j]? = (l.map encZ)[j]? := by rw [h6]
    rw [List.getElem?_take_of_lt (by omega)] at h7
    rw [Nat.zero_add]
    simp only [World.cell?, h2]
    simp only [Option.isSome_none, Bool.false_eq_true, if_false]
    rw [← Array.getElem?_toList, h7]
    simp [hj, encZ]
set_option maxHeartbeats 2000000 in
theorem list_calls {base d g pp : Nat} {o : Lo} {P : Pl} (w : World) (h : PlH w base d g pp o P) (hn : P.ks.length ≤ 1000) :
    Calls Try.prog 69 #[.pointer (some ⟨pp, 0, none⟩)] w fun e w' => ∃ A c, e = .returned (.slice A P.ks.length c) ∧ IzR w' w.heap.size w'.heap.size A P.ks ∧ Below w.heap.size w w' := by
  have k0 := h.at_
  obtain ⟨D, hown, hperm, hsz⟩ := h.fm.perm
  have hrise : P.ks.Pairwise (· < ·) := by obtain ⟨_, -, -, -, h4, -⟩ := h.fm; exact h4
  have hcS := sorted_calls o.fb P.ks.length D EF.R w hown (by rw [hsz]; unfold maxLen; omega) (by rw [hsz]; omega)
  have k0c := k0.c; have k0f := k0.f; have k0l := k0.lt
  go_enter Try.func69, Try.ntmps69
  go_wp2_with fail
  refine (keys_calls (some o.fb) w).mono ?_
  rintro e w1 ⟨rfl, rfl⟩
  go_wp2_with fail
  refine hcS.mono ?_
  rintro e w2 ⟨v, ss, rfl, hS, hrow, -, hb⟩
  have hks : ss.mergeSort (fun x y => decide (x ≤ y)) = P.ks := (mergeSort_of_perm_i (hS.trans hperm.symm)).trans (sort_rise hrise)
  rw [hks] at hrow
  obtain ⟨A, c, rfl, hc, hz⟩ := izr_of hrow
  go_wp2
  go_ret
  exact ⟨A, c, by first | rfl | simp, hz.less (ge_new w _), (below_new w _).trans (hb.mono (ge_new w _))⟩
end Go.Proofs.Ytggeepihkeocmaa
