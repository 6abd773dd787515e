/- RecordTurned: the walk of the law. -/
import Derived.Test.YtjgomebnlekddaaRecEncL
import Derived.Test.YtjgomebnlekddaaTurnP
namespace Go.Proofs.Ytjgomebnlekddaa
set_option linter.unusedVariables false
set_option linter.unusedSimpArgs false
open Go.RowKit
theorem xor_ne {x t : Int} (hx : 0 ≤ x ∧ x ≤ 255) (ht : 0 ≤ t ∧ t ≤ 255) (h0 : t ≠ 0) : 0 ≤ bits .xor .u8 x t ∧ bits .xor .u8 x t ≤ 255 ∧ bits .xor .u8 x t ≠ x := by
  obtain ⟨x, rfl⟩ := Int.eq_ofNat_of_zero_le hx.1
  obtain ⟨t, rfl⟩ := Int.eq_ofNat_of_zero_le ht.1
  have e := u8_xor_nat x t (by omega) (by omega)
  have hl : x ^^^ t < 2 ^ 8 := Nat.xor_lt_two_pow (by omega) (by omega)
  refine ⟨by rw [e]; omega, by rw [e]; omega, fun h => h0 ?_⟩
  rw [e] at h
  have h2 : x ^^^ t = x := by exact_mod_cast h
  have h3 : t ^^^ x = 0 ^^^ x := by rw [Nat.xor_comm, h2, Nat.zero_xor]
  have := xor_cancel h3
  rw [this]; rfl
theorem DecPostR.no {res : Rc × Int} {w w' : World} {e : Ending} (h : DecPostR res w e w') (h0 : res.2 ≠ 0) : Below w.heap.size w w' ∧ e = .returned (.tuple #[.agg zCells, .int .i64 res.2]) := by
  obtain ⟨hb, ⟨h1, -⟩ | ⟨-, he⟩⟩ := h
  · exact absurd h1 h0
  · exact ⟨hb, he⟩
set_option maxRecDepth 100000 in
set_option maxHeartbeats 8000000 in
theorem turned_rec (k tx prev page off next : Int) (bA aA dA : Option Addr) (bN bC aN aC dN dC : Nat) (opn : Bool) (bl al : List Int) (dl : List (Int × Int)) (a t : Int) (w : World) (h : RecIn w k tx prev page off next bA aA dA bN bC aN aC dN dC opn bl al dl) (a0 : 0 ≤ a) (a1 : a ≤ 65535) (t0 : 0 ≤ t) (t1 : t ≤ 255) :
    Calls Try.prog 19 #[.agg #[.int .u8 k, .int .u64 tx, .int .u64 prev, .int .i64 page, .int .i64 off, .slice bA bN bC, .slice aA aN aC, .int .u64 next, .slice dA dN dC, .bool opn], .int .u16 a, .int .u8 t] w fun e w' => e = .returned (.bool true) ∧ Below w.heap.size w w' := by
  have hh := Lib.hid h
  clear h
  have k0 := At.new w #[.int .u8 k, .int .u64 tx, .int .u64 prev, .int .i64 page, .int .i64 off, .slice bA bN bC, .slice aA aN aC, .int .u64 next, .slice dA dN dC, .bool opn] 26
  cases hf : formB k prev page off next bN aN dN opn (dirtyOk (-1) dl)
  · have hf' := Lib.hid hf
    clear hf
    go_enter Try.func19, Try.ntmps19
    go_wp2_with fail
    have hB := below_new w (.cells #[.int .u8 k, .int .u64 tx, .int .u64 prev, .int .i64 page, .int .i64 off, .slice bA bN bC, .slice aA aN aC, .int .u64 next, .slice dA dN dC, .bool opn] 26)
    generalize (w.alloc (.cells #[.int .u8 k, .int .u64 tx, .int .u64 prev, .int .i64 page, .int .i64 off, .slice bA bN bC, .slice aA aN aC, .int .u64 next, .slice dA dN dC, .bool opn] 26)) = w0 at *
    refine (rawake_calls _).mono ?_
    rintro e w1 ⟨rfl, hb1⟩
    have hB1 := below_keep hb1 hB
    replace k0 := At.keep hb1 k0
    clear hB hb1
    have k0c := k0.c; have k0f := k0.f; have k0l := k0.lt
    go_wp2_with fail
    refine (rform_at (hh.out.later hB1) false hf'.out).mono ?_
    rintro e w2 ⟨rfl, hb2⟩
    have hB2 := below_keep hb2 hB1
    clear hb2 hB1 k0 k0c k0f k0l
    go_wp2_with fail
    refine (rawake_calls _).mono ?_
    rintro e w3 ⟨rfl, hb3⟩
    go_wp2
    go_ret
    exact ⟨by first | rfl | simp, below_keep hb3 hB2⟩
  · have hf' := Lib.hid hf
    clear hf
    go_enter Try.func19, Try.ntmps19
    go_wp2_with fail
    have hB := below_new w (.cells #[.int .u8 k, .int .u64 tx, .int .u64 prev, .int .i64 page, .int .i64 off, .slice bA bN bC, .slice aA aN aC, .int .u64 next, .slice dA dN dC, .bool opn] 26)
    generalize (w.alloc (.cells #[.int .u8 k, .int .u64 tx, .int .u64 prev, .int .i64 page, .int .i64 off, .slice bA bN bC, .slice aA aN aC, .int .u64 next, .slice dA dN dC, .bool opn] 26)) = w0 at *
    refine (rawake_calls _).mono ?_
    rintro e w1 ⟨rfl, hb1⟩
    have hB1 := below_keep hb1 hB
    replace k0 := At.keep hb1 k0
    clear hB hb1
    have k0c := k0.c; have k0f := k0.f; have k0l := k0.lt
    go_wp2_with fail
    refine (rform_at (hh.out.later hB1) true hf'.out).mono ?_
    rintro e w2 ⟨rfl, hb2⟩
    have hB2 := below_keep hb2 hB1
    replace k0 := At.keep hb2 k0
    clear hb2 hB1 k0c k0f k0l
    by_cases ht : t = 0
    · subst ht
      clear k0
      go_wp2_with fail
      refine (rawake_calls _).mono ?_
      rintro e w3 ⟨rfl, hb3⟩
      go_wp2
      go_ret
      exact ⟨by first | rfl | simp, below_keep hb3 hB2⟩
    · have htb : (t == 0) = false := by simpa using ht
      have k0c := k0.c; have k0f := k0.f; have k0l := k0.lt
      have hR := hh.out.ok
      have hfR := hh.out.formR hf'.out
      obtain ⟨el, hel⟩ : ∃ el, el = encR ⟨k, tx, prev, page, off, next, bl, al, dl, opn⟩ := ⟨_, rfl⟩
      have helx := Lib.hid hel
      have helB : Byt el := by rw [hel]; exact hh.out.encB hf'.out
      have hmin : 13 ≤ el.length := by rw [hel]; exact len_min hfR
      have hno := Lib.hid (fun (kk : Nat) (x : Int) (h1 : kk < el.length) (hx : 0 ≤ x ∧ x ≤ 255) (hne : x ≠ el.getD kk 0) => show decS (el.set kk x) = (zeroR, 15) from by rw [hel] at h1 hne helB ⊢; exact turned_no helB h1 hx hne)
      have hsn := Lib.hid (fun (kk : Nat) (h1 : kk < el.length) => show (decS (el.take kk)).2 ≠ 0 from by rw [hel] at h1 helB ⊢; exact short_no helB hfR hR h1)
      have hmax : el.length ≤ 2000 := by
        rw [hel, encR_len]
        have h2 := form_facts hf'.out
        have q1 := hh.out.b.1
        have q2 := hh.out.a.1
        have q3 := hh.out.d.1
        dsimp only
        split <;> (try split) <;> (try split) <;> (try split) <;> omega
      clear hel hR hfR
      go_wp2_with fail
      refine (enc_yes (hh.out.later hB2) hf'.out).mono ?_
      rw [show encL k tx prev page off next bl al dl opn = el from helx.out.symm]
      rintro e w3 ⟨A3, c3, n3, rfl, ho3, hb3⟩
      have hB3 := below_keep hb3 hB2
      have hn3 := ho3.1
      have hcap := ho3.le_cap
      clear hb3 hB2 k0 k0c k0f k0l
      obtain ⟨g3, cap3, hv3, -, hg3⟩ := ho3.2.2.form (by omega)
      injection hv3 with hA3 hqn hqc
      clear hqn hqc
      subst hA3
      have n13 : ¬ (n3 : Int) < 13 := by omega
      have n0 : ¬ (n3 : Int) = 0 := by omega
      have hpos : (0 : Int) < n3 := by omega
      have hmod : a.tmod n3 = a % n3 := Int.tmod_eq_emod_of_nonneg a0
      have hm0 : 0 ≤ a % n3 := Int.emod_nonneg _ (by omega)
      have hm1 : a % n3 < n3 := Int.emod_lt_of_pos _ hpos
      obtain ⟨kk, hkk⟩ := Int.eq_ofNat_of_zero_le hm0
      rw [hkk] at hmod hm0 hm1
      clear hkk
      have hm2 : kk < n3 := by omega
      go_upto_region 7 with (fail)
      have hs3 := hB3.size
      go_upto_region 9 with (at_builtin; refine wpList_app rfl (.tmp 44) (.tmp 45) rfl w3.heap.size 0 0 none [] rfl (OwB.nil _ _) _ _ n3 c3 (some ⟨g3, 0, none⟩) el rfl ho3.reads (by omega) (Nat.le_refl _) ?_; intro A4 c4 w4 ho4 hg4 hb4 hat4)
      rw [Nat.zero_add, List.nil_append] at ho4
      have hB4 := below_keep hb4 hB3
      have ho34 := ho3.later hb4
      have hcap4 := ho4.le_cap
      obtain ⟨g4, cap4, hv4, hge4, hg4'⟩ := ho4.2.2.form (by omega)
      injection hv4 with hA4 hqn hqc
      clear hqn hqc
      subst hA4
      have hge : w3.heap.size ≤ g4 := (ho4.lt g4 rfl).1
      obtain ⟨cur, hat, -, -, -⟩ := ho4.at_
      obtain ⟨gx, gy, hAx, -, -, hcell⟩ := ho4.reads.at_ hm2
      injection hAx with hAx
      injection hAx with e1 e2
      subst e1; subst e2
      rw [Nat.zero_add] at hcell
      have hfro := hat.f kk
      have hxr := ho4.2.1.getD kk
      have hxn := xor_ne hxr ⟨t0, t1⟩ ht
      have hset := ho4.set hm2 hxn.1 hxn.2.1
      have hdec := Lib.hid (hno.out kk _ (by omega) ⟨hxn.1, hxn.2.1⟩ hxn.2.2)
      generalize hgx : el.getD kk 0 = x at *
      generalize hgy : bits .xor .u8 x t = y at *
      have hgg := Lib.hid hgx
      have hggy := Lib.hid hgy
      clear hgx hat hxn hxr
      have ne34 : g3 ≠ g4 := by omega
      have hm4 : Mod (fun i => i = g4) w4 (w4.setCell ⟨g4, kk, none⟩ (.int .u8 y)) := (Mod.refl (fun i => i = g4) w4).set (.inl rfl) _
      have ho35 : OwB (w4.setCell ⟨g4, kk, none⟩ (.int .u8 y)) w1.heap.size (some ⟨g3, 0, none⟩) n3 c3 el ∨ True := .inr trivial
      have hp5 : BsR (w4.setCell ⟨g4, kk, none⟩ (.int .u8 y)) 0 w3.heap.size (some ⟨g3, 0, none⟩) n3 el := by
        have h1 := ho3.reads.less (Nat.zero_le _)
        refine ⟨h1.1, h1.2.1, h1.2.2.keep fun b o _ hlt => ?_⟩
        exact (World.cell?_of_block (a := ⟨b, o, none⟩) (hm4.block b (Nat.lt_of_lt_of_le hlt hb4.size) (by omega))).trans (hb4.cell (p := ⟨b, o, none⟩) hlt)
      have hB5 : Below w.heap.size w (w4.setCell ⟨g4, kk, none⟩ (.int .u8 y)) := hB4.setCell (Nat.le_trans hs3 hge) _
      have hs5 : w3.heap.size ≤ (w4.setCell ⟨g4, kk, none⟩ (.int .u8 y)).heap.size := Nat.le_trans hb4.size hm4.size
      go_upto_region 10 with (fail)
      clear hggy ho4 hcell hfro hm4 ho35 ho34 ho3 hb4 hB4 hg4 hat4
      generalize (w4.setCell ⟨g4, kk, none⟩ (.int .u8 y)) = w5 at *
      go_wp2_with fail
      refine (rdec_rec_calls w5 (hset.reads.less (Nat.zero_le _)) hset.le_cap (by omega)).mono ?_
      intro e w6 hp
      rw [hdec.out] at hp
      obtain ⟨hb6, rfl⟩ := hp.no (by decide)
      have hB6 := below_keep hb6 hB5
      have hp6 := hp5.below (hb6.mono hs5) (Nat.le_refl _)
      have hs6 := Nat.le_trans hs5 hb6.size
      clear hp hset hp5 hB5 hb6
      unfold zCells
      go_upto_region 11 with (fail)
      have hbz := below_new w6 (.cells #[.int .u8 0, .int .u64 0, .int .u64 0, .int .i64 0, .int .i64 0, .slice none 0 0, .slice none 0 0, .int .u64 0, .slice none 0 0, .bool false] 26)
      have hB7 := below_keep hbz hB6
      have hp7 := hp6.below (hbz.mono hs6) (Nat.le_refl _)
      have hs7 := Nat.le_trans hs6 hbz.size
      clear hB6 hp6 hbz
      generalize (w6.alloc (.cells #[.int .u8 0, .int .u64 0, .int .u64 0, .int .i64 0, .int .i64 0, .slice none 0 0, .slice none 0 0, .int .u64 0, .slice none 0 0, .bool false] 26)) = w7 at *
      have l1 : (kk : Int) ≤ n3 := by omega
      have l2 : (kk : Int) ≤ c3 := by omega
      go_wp2_with fail
      have hpk : BsR w7 0 w7.heap.size (some ⟨g3, 0, none⟩) kk (el.take kk) := sub_read0 (hp7.more hs7) (by omega)
      refine (rdec_rec_calls w7 hpk (by omega) (by omega)).mono ?_
      intro e w8 hp
      have hns := hsn.out kk (by omega)
      obtain ⟨hb8, rfl⟩ := hp.no hns
      have hB8 := below_keep hb8 hB7
      have hner : ((decS (el.take kk)).2 != 0) = true := by simpa using hns
      generalize (decS (el.take kk)).2 = er at *
      clear hp hpk
      unfold zCells
      go_wp2
      go_ret
      exact ⟨by first | rfl | simp, below_keep (below_new w8 _) hB8⟩
end Go.Proofs.Ytjgomebnlekddaa
