/- RecordKeeps: the walk of the law. -/
import Derived.Test.YtjgomebnlekddaaRecEncL
import Derived.Test.YtjgomebnlekddaaBits
namespace Go.Proofs.Ytjgomebnlekddaa
set_option linter.unusedVariables false
set_option linter.unusedSimpArgs false
open Go.RowKit
theorem xor_1 {x : Int} (h0 : 0 ≤ x) (h1 : x ≤ 255) : 0 ≤ bits .xor .u8 x 1 ∧ bits .xor .u8 x 1 ≤ 255 := by
  obtain ⟨n, rfl⟩ := Int.eq_ofNat_of_zero_le h0
  have h := u8_xor_nat n 1 (by omega) (by omega)
  have hx : n ^^^ 1 < 2 ^ 8 := Nat.xor_lt_two_pow (by omega) (by omega)
  rw [show (1 : Int) = ((1 : Nat) : Int) from rfl, h]
  omega
theorem form_nob {k prev page off next : Int} {bN aN dN : Nat} {opn d : Bool} (h : formB k prev page off next bN aN dN opn d = true) (h2 : k ≠ 2) (h3 : k ≠ 3) : bN = 0 := by
  unfold formB plainB at h
  by_cases h1 : k = 1
  · subst h1; simp at h; omega
  by_cases h4 : k = 4 ∨ k = 5
  · rw [if_neg h1, if_pos h4] at h; simp at h; omega
  by_cases h6 : k = 6
  · subst h6; simp at h; omega
  · rw [if_neg h1, if_neg h4, if_neg h2, if_neg h3, if_neg h6] at h; cases h
theorem OwB.but {w w' : World} {base n c : Nat} {A : Option Addr} {l : List Int} {S : Nat → Prop} (h : OwB w base A n c l) (hm : Mod S w w') (hs : ∀ b, ownBlk A = some b → ¬ S b) : OwB w' base A n c l :=
  ⟨h.1, h.2.1, owns_heap h.2.2 (fun b hb => by
    rw [ownBlk_eq] at hb
    exact hm.block b (h.lt b hb).2 (hs b hb))⟩
set_option maxRecDepth 100000 in
set_option maxHeartbeats 8000000 in
theorem keeps_rec (k tx prev page off next : Int) (bA aA dA : Option Addr) (bN bC aN aC dN dC : Nat) (opn : Bool) (bl al : List Int) (dl : List (Int × Int)) (w : World) (h : RecIn w k tx prev page off next bA aA dA bN bC aN aC dN dC opn bl al dl) :
    Calls Try.prog 20 #[.agg #[.int .u8 k, .int .u64 tx, .int .u64 prev, .int .i64 page, .int .i64 off, .slice bA bN bC, .slice aA aN aC, .int .u64 next, .slice dA dN dC, .bool opn]] w fun e w' => e = .returned (.bool true) ∧ Below w.heap.size w w' := by
  have hh := Lib.hid h
  clear h
  have k0 := At.new w #[.int .u8 k, .int .u64 tx, .int .u64 prev, .int .i64 page, .int .i64 off, .slice bA bN bC, .slice aA aN aC, .int .u64 next, .slice dA dN dC, .bool opn] 26
  cases hf : formB k prev page off next bN aN dN opn (dirtyOk (-1) dl)
  · have hf' := Lib.hid hf
    clear hf
    go_enter Try.func20, Try.ntmps20
    go_wp2_with fail
    have hB := below_new w (.cells #[.int .u8 k, .int .u64 tx, .int .u64 prev, .int .i64 page, .int .i64 off, .slice bA bN bC, .slice aA aN aC, .int .u64 next, .slice dA dN dC, .bool opn] 26)
    generalize (w.alloc (.cells #[.int .u8 k, .int .u64 tx, .int .u64 prev, .int .i64 page, .int .i64 off, .slice bA bN bC, .slice aA aN aC, .int .u64 next, .slice dA dN dC, .bool opn] 26)) = w0 at *
    refine (rawake_calls _).mono ?_
    rintro e w1 ⟨rfl, hb1⟩
    have hB1 := below_keep hb1 hB
    replace k0 := At.keep hb1 k0
    clear hB hb1
    have k0c := k0.c; have k0f := k0.f; have k0l := k0.lt
    go_wp2_with fail
    refine (rform_at (hh.out.later hB1) false hf'.out).mono ?_
    rintro e w2 ⟨rfl, hb2⟩
    have hB2 := below_keep hb2 hB1
    clear hb2 hB1 k0 k0c k0f k0l
    go_wp2_with fail
    refine (rawake_calls _).mono ?_
    rintro e w3 ⟨rfl, hb3⟩
    go_wp2
    go_ret
    exact ⟨by first | rfl | simp, below_keep hb3 hB2⟩
  · have hf' := Lib.hid hf
    clear hf
    go_enter Try.func20, Try.ntmps20
    go_wp2_with fail
    have hB := below_new w (.cells #[.int .u8 k, .int .u64 tx, .int .u64 prev, .int .i64 page, .int .i64 off, .slice bA bN bC, .slice aA aN aC, .int .u64 next, .slice dA dN dC, .bool opn] 26)
    generalize (w.alloc (.cells #[.int .u8 k, .int .u64 tx, .int .u64 prev, .int .i64 page, .int .i64 off, .slice bA bN bC, .slice aA aN aC, .int .u64 next, .slice dA dN dC, .bool opn] 26)) = w0 at *
    refine (rawake_calls _).mono ?_
    rintro e w1 ⟨rfl, hb1⟩
    have hB1 := below_keep hb1 hB
    replace k0 := At.keep hb1 k0
    clear hB hb1
    have k0c := k0.c; have k0f := k0.f; have k0l := k0.lt
    go_wp2_with fail
    refine (rform_at (hh.out.later hB1) true hf'.out).mono ?_
    rintro e w2 ⟨rfl, hb2⟩
    have hB2 := below_keep hb2 hB1
    replace k0 := At.keep hb2 k0
    clear hb2 hB1 k0c k0f k0l
    have k0c := k0.c; have k0f := k0.f; have k0l := k0.lt
    have hR := hh.out.ok
    have hfR := hh.out.formR hf'.out
    obtain ⟨el, hel⟩ : ∃ el, el = encR ⟨k, tx, prev, page, off, next, bl, al, dl, opn⟩ := ⟨_, rfl⟩
    have helx := Lib.hid hel
    have hmax : el.length ≤ 2000 := by
      rw [hel, show encR ⟨k, tx, prev, page, off, next, bl, al, dl, opn⟩ = encL k tx prev page off next bl al dl opn from rfl, enc_len]
      have h2 := form_facts hf'.out
      have q1 := hh.out.b.1
      have q2 := hh.out.a.1
      have q3 := hh.out.d.1
      split <;> (try split) <;> (try split) <;> (try split) <;> omega
    have hRf := Lib.hid (And.intro hR hfR)
    clear hel hR hfR
    go_wp2_with fail
    refine (enc_yes (hh.out.later hB2) hf'.out).mono ?_
    rw [show encL k tx prev page off next bl al dl opn = el from helx.out.symm]
    rintro e w3 ⟨A3, c3, n3, rfl, ho3, hb3⟩
    have hB3 := below_keep hb3 hB2
    have k3 := At.keep hb3 k0
    have hn3 := ho3.1
    have hkl := k0.lt
    clear hb3 hB2 k0c k0f k0l k0
    go_wp2_with fail
    refine (rdec_rec_calls w3 (ho3.reads.less (Nat.zero_le _)) ho3.le_cap (by omega)).mono ?_
    intro e w4 hp
    rw [helx.out] at hp
    obtain ⟨hb4, v, rfl, hv⟩ := dec_of_enc hp hRf.out.2 hRf.out.1
    obtain ⟨bB, aB, dB, bD, aD, dD, rfl, g1, g2, g3, g4⟩ := hv
    dsimp only at g1 g2 g3 ⊢
    have hB4 := below_keep hb4 hB3
    have k4 := At.keep hb4 k3
    have ho4 := ho3.later hb4
    have hs3 : ∀ b, ownBlk A3 = some b → b < w3.heap.size := fun b hb => (ho3.lt b hb).2
    have hs2 : ∀ b, ownBlk A3 = some b → w2.heap.size ≤ b := fun b hb => (ho3.lt b hb).1
    have hs34 := hb4.size
    have hw3 := hB3.size
    clear hp hb4 hB3 k3 ho3
    go_upto_region 5 with (fail)
    have kB := At.new w4 #[.int .u8 k, .int .u64 tx, .int .u64 prev, .int .i64 page, .int .i64 off, .slice bB bl.length bD, .slice aB al.length aD, .int .u64 next, .slice dB dl.length dD, .bool opn] 26
    have hbB := below_new w4 (.cells #[.int .u8 k, .int .u64 tx, .int .u64 prev, .int .i64 page, .int .i64 off, .slice bB bl.length bD, .slice aB al.length aD, .int .u64 next, .slice dB dl.length dD, .bool opn] 26)
    have k5 := At.keep hbB k4
    have hB5 := below_keep hbB hB4
    have ho5 := ho4.later hbB
    have r1 := g1.later hbB
    have r2 := g2.later hbB
    have r3 := owns_aft g3 hbB
    have h43 : w3.heap.size ≤ w4.heap.size := hs34
    clear k4 hB4 ho4 g1 g2 g3 hbB hs34
    generalize (w4.alloc (.cells #[.int .u8 k, .int .u64 tx, .int .u64 prev, .int .i64 page, .int .i64 off, .slice bB bl.length bD, .slice aB al.length aD, .int .u64 next, .slice dB dl.length dD, .bool opn] 26)) = w5 at *
    generalize w4.heap.size = ρ2 at *
    generalize w3.heap.size = b3 at *
    generalize w2.heap.size = b2 at *
    have hap := Lib.hid g4
    have hs3x := Lib.hid hs3
    have hs2x := Lib.hid hs2
    clear g4 hs3 hs2
    go_upto_region 6 with (fail)
    go_loopw [7] (fun v7 wr => ∃ (t : Nat) (q : List Int), t ≤ n3 ∧ v7 = .int .i64 t ∧ OwB wr b2 A3 n3 c3 q ∧ At wr w.heap.size #[.int .u8 k, .int .u64 tx, .int .u64 prev, .int .i64 page, .int .i64 off, .slice bA bN bC, .slice aA aN aC, .int .u64 next, .slice dA dN dC, .bool opn] 26 ∧ At wr ρ2 #[.int .u8 k, .int .u64 tx, .int .u64 prev, .int .i64 page, .int .i64 off, .slice bB bl.length bD, .slice aB al.length aD, .int .u64 next, .slice dB dl.length dD, .bool opn] 26 ∧ Below w.heap.size w wr ∧ OwB wr b3 bB bl.length bD bl ∧ OwB wr b3 aB al.length aD al ∧ wr.ownsRow b3 94 2 (.slice dB dl.length dD) dl.length (dl.flatMap drV)) (fun v7 _ => n3 - (intOf v7).toNat)
    case atStart => exact ⟨0, el, Nat.zero_le _, rfl, ho5, k5, kB, hB5, r1, r2, r3⟩
    case round =>
      clear ho5 k5 kB hB5 r1 r2 r3
      obtain ⟨t, q, ht, rfl, ho, k1, k2, hB, r1, r2, r3⟩ := hrel
      by_cases hlt : t < n3
      · obtain ⟨g, cap, hv, -, hgl⟩ := ho.2.2.form (by omega)
        injection hv with hA hqn hqc
        clear hqn hqc
        subst hA
        have hg3 : g < b3 := hs3x.out g rfl
        have hg2 : b2 ≤ g := hs2x.out g rfl
        obtain ⟨cur, hat, -, -, -⟩ := ho.at_
        obtain ⟨gx, gy, hAx, -, -, hcell⟩ := ho.reads.at_ hlt
        injection hAx with hAx
        injection hAx with e1 e2
        subst e1; subst e2
        rw [Nat.zero_add] at hcell
        have hxr := ho.2.1.getD t
        have hfro := hat.f t
        have ht0 : (0 : Int) ≤ t := by omega
        have ht1 : (t : Int) < n3 := by omega
        generalize q.getD t 0 = x at *
        have hxx := xor_1 hxr.1 hxr.2
        obtain ⟨y, hy⟩ : ∃ y, bits .xor .u8 x 1 = y := ⟨_, rfl⟩
        rw [hy] at hxx
        have n1 : w.heap.size ≠ g := by omega
        have n2 : ρ2 ≠ g := by omega
        have hle : w.heap.size ≤ g := by omega
        clear hat
        go_wp2
        go_roundw
        case rel => exact ⟨t + 1, _, by omega, by go_num, ho.set hlt hxx.1 hxx.2, k1.set_ne n1, k2.set_ne n2, hB.setCell hle _, r1.past hg3 (setMod _ _ _ _), r2.past hg3 (setMod _ _ _ _), owns_past r3 hg3 (setMod _ _ _ _)⟩
        case measure => simp [intOf]; omega
      · obtain rfl : n3 = t := by omega
        have ht1 : ¬ (n3 : Int) < (n3 : Int) := by omega
        obtain ⟨w6, hw6⟩ : ∃ w6, w6 = wr := ⟨_, rfl⟩
        subst hw6
        have hI := hh.out.later hB
        have hQ : RecRd w6 ⟨k, tx, prev, page, off, next, bl, al, dl, opn⟩ (.agg #[.int .u8 k, .int .u64 tx, .int .u64 prev, .int .i64 page, .int .i64 off, .slice bB bl.length bD, .slice aB al.length aD, .int .u64 next, .slice dB dl.length dD, .bool opn]) := ⟨bB, aB, dB, bD, aD, dD, rfl, r1.reads.less (Nat.zero_le _), r2.reads.less (Nat.zero_le _), PrR.of_owns r3 rfl⟩
        have hdl64 : dl.length ≤ 1000 := by
          have := form_facts hf'.out
          rw [hh.out.d.1]; omega
        have k1c := k1.c; have k1f := k1.f; have k1l := k1.lt
        have k2c := k2.c; have k2f := k2.f; have k2l := k2.lt
        clear ho r3
        go_wp2_with fail
        refine (rsamer_yes w6 hQ hI.rd hdl64).mono ?_
        rintro e w7 ⟨rfl, hb7⟩
        replace k1 := At.keep hb7 k1
        replace k2 := At.keep hb7 k2
        replace hB := below_keep hb7 hB
        replace r1 := r1.later hb7
        replace r2 := r2.later hb7
        clear hI hQ hb7 k1c k1f k1l k2c k2f k2l
        have hal5 : al.length ≤ 512 := by
          have := form_facts hf'.out
          rw [hh.out.a.1]; omega
        have hbl5 : bl.length ≤ 512 := by
          have := form_facts hf'.out
          have q1 := hh.out.b.1
          have q2 := hh.out.a.1
          by_cases h2 : k = 2
          · have := this.2.1 h2; omega
          · by_cases h3 : k = 3
            · have := this.2.2.1 h3; omega
            · have hbf := form_nob hf'.out h2 h3
              omega
        go_upto_region 12 with (fail)
        go_loopw [8] (fun v8 wr => ∃ (t : Nat) (q : List Int), t ≤ al.length ∧ v8 = .int .i64 t ∧ OwB wr b3 aB al.length aD q ∧ At wr w.heap.size #[.int .u8 k, .int .u64 tx, .int .u64 prev, .int .i64 page, .int .i64 off, .slice bA bN bC, .slice aA aN aC, .int .u64 next, .slice dA dN dC, .bool opn] 26 ∧ At wr ρ2 #[.int .u8 k, .int .u64 tx, .int .u64 prev, .int .i64 page, .int .i64 off, .slice bB bl.length bD, .slice aB al.length aD, .int .u64 next, .slice dB dl.length dD, .bool opn] 26 ∧ Below w.heap.size w wr ∧ OwB wr b3 bB bl.length bD bl) (fun v8 _ => al.length - (intOf v8).toNat)
        case atStart => exact ⟨0, al, Nat.zero_le _, rfl, r2, k1, k2, hB, r1⟩
        case round =>
          clear r2 k1 k2 hB r1
          obtain ⟨t, q, ht, rfl, ho, k1, k2, hB, r1⟩ := hrel
          have k2c := k2.c; have k2f := k2.f; have k2l := k2.lt
          by_cases hlt : t < al.length
          · obtain ⟨g, cap, hv, -, hgl⟩ := ho.2.2.form (by omega)
            injection hv with hA hqn hqc
            clear hqn hqc
            subst hA
            have hg3 : b3 ≤ g := (ho.lt g rfl).1
            obtain ⟨cur, hat, -, -, -⟩ := ho.at_
            obtain ⟨gx, gy, hAx, -, -, hcell⟩ := ho.reads.at_ hlt
            injection hAx with hAx
            injection hAx with e1 e2
            subst e1; subst e2
            rw [Nat.zero_add] at hcell
            have hxr := ho.2.1.getD t
            have hfro := hat.f t
            have ht0 : (0 : Int) ≤ t := by omega
            have ht1 : (t : Int) < al.length := by omega
            generalize q.getD t 0 = x at *
            have hxx := xor_1 hxr.1 hxr.2
            obtain ⟨y, hy⟩ : ∃ y, bits .xor .u8 x 1 = y := ⟨_, rfl⟩
            rw [hy] at hxx
            have n1 : w.heap.size ≠ g := k1.ne_own ho.2.2 (by decide) |> fun hn e => hn (by rw [e]; rfl)
            have n2 : ρ2 ≠ g := k2.ne_own ho.2.2 (by decide) |> fun hn e => hn (by rw [e]; rfl)
            have hle : w.heap.size ≤ g := by omega
            have hnb : ∀ b, ownBlk bB = some b → ¬ b = g := fun b hb e => by
              subst e
              rcases hap.out with h1 | h1
              · rw [h1] at hb; cases hb
              · exact h1 hb
            clear hat
            go_upto_region 14 with (fail)
            go_region
            all_goals
              go_wp2
              go_roundw
              case rel => exact ⟨t + 1, _, by omega, by go_num, (ho.set hlt hxx.1 hxx.2).drew, (k1.set_ne n1).drew, (k2.set_ne n2).drew, below_dr (hB.setCell hle _), (r1.but (setMod _ _ _ _) hnb).drew⟩
              case measure => simp [intOf]; omega
          · obtain rfl : t = al.length := by omega
            obtain ⟨w8, hw8⟩ : ∃ w8, w8 = wr := ⟨_, rfl⟩
            subst hw8
            have hbr := hh.out.b
            have hbN := hbr.1
            subst hbN
            have j1 : ¬ (al.length : Int) < (al.length : Int) := by omega
            clear ho hlt ht
            go_upto_region 16 with (fail)
            clear k2c k2f k2l
            go_loopw [9] (fun v9 wr => ∃ t : Nat, t ≤ bl.length ∧ v9 = .int .i64 t ∧ ∃ i, wr = w8.drewN i) (fun v9 _ => bl.length - (intOf v9).toNat)
            case atStart => exact ⟨0, Nat.zero_le _, rfl, 0, rfl⟩
            case round =>
              obtain ⟨t, ht, rfl, i, hi⟩ := hrel
              have q1 : At wr w.heap.size #[.int .u8 k, .int .u64 tx, .int .u64 prev, .int .i64 page, .int .i64 off, .slice bA bl.length bC, .slice aA aN aC, .int .u64 next, .slice dA dN dC, .bool opn] 26 := by rw [hi]; exact k1.drewN i
              have q2 : At wr ρ2 #[.int .u8 k, .int .u64 tx, .int .u64 prev, .int .i64 page, .int .i64 off, .slice bB bl.length bD, .slice aB al.length aD, .int .u64 next, .slice dB dl.length dD, .bool opn] 26 := by rw [hi]; exact k2.drewN i
              have hBr : Below w.heap.size w wr := by rw [hi]; exact below_drewN hB i
              have r9 : OwB wr b3 bB bl.length bD bl := by rw [hi]; exact r1.drewN i
              have hi' := Lib.hid hi
              clear hi
              have q1c := q1.c; have q1f := q1.f; have q1l := q1.lt
              have q2c := q2.c; have q2f := q2.f; have q2l := q2.lt
              by_cases hlt : t < bl.length
              · obtain ⟨ga, oa, rfl, -, la1, ca⟩ := r9.reads.at_ hlt
                obtain ⟨gb, ob, rfl, -, lb1, cb⟩ := hbr.at_ hlt
                replace cb := (hBr.cell (p := ⟨gb, ob + t, none⟩) lb1).trans cb
                generalize bl.getD t 0 = x at *
                have j0 : (0 : Int) ≤ t := by omega
                have j1 : (t : Int) < bl.length := by omega
                go_upto_region 18 with (fail)
                go_quiet (fail)
                go_wp2
                go_roundw
                case rel => exact ⟨t + 1, hlt, by go_num, i + nq, by rw [hi'.out]; first | rfl | (simp only [World.drewN_drewN]; done) | (simp only [World.drewN_drewN]; rfl)⟩
                case measure => simp [intOf]; omega
              · obtain rfl : t = bl.length := by omega
                have j1 : ¬ (bl.length : Int) < (bl.length : Int) := by omega
                go_wp2
                go_ret
                exact ⟨by first | rfl | simp, hBr⟩
end Go.Proofs.Ytjgomebnlekddaa
