/- RecordEncodes: the walk of the law. -/
import Derived.Test.YtjgomebnlekddaaRdDecA
import Derived.Test.YtjgomebnlekddaaRfSame
namespace Go.Proofs.Ytjgomebnlekddaa
set_option linter.unusedVariables false
set_option linter.unusedSimpArgs false
open Go.RowKit
theorem RecOwn.rd {w : World} {base : Nat} {R : Rc} {v : Value} (h : RecOwn w base R v) : RecRd w R v := by
  obtain ⟨bA, aA, dA, bC, aC, dC, hv, h1, h2, h3, -⟩ := h
  exact ⟨bA, aA, dA, bC, aC, dC, hv, h1.reads.less (Nat.zero_le _), h2.reads.less (Nat.zero_le _), PrR.of_owns h3 rfl⟩
theorem RecIn.ok {w : World} {k tx prev page off next : Int} {bA aA dA : Option Addr} {bN bC aN aC dN dC : Nat} {opn : Bool} {bl al : List Int} {dl : List (Int × Int)} (h : RecIn w k tx prev page off next bA aA dA bN bC aN aC dN dC opn bl al dl) : RcOk ⟨k, tx, prev, page, off, next, bl, al, dl, opn⟩ :=
  RcOk.of h.k0 h.k1 h.t0 h.t1 h.p0 h.p1 h.x0 h.x1 h.b.2.1 h.a.2.1 h.dr
theorem RecIn.formR {w : World} {k tx prev page off next : Int} {bA aA dA : Option Addr} {bN bC aN aC dN dC : Nat} {opn f : Bool} {bl al : List Int} {dl : List (Int × Int)} (h : RecIn w k tx prev page off next bA aA dA bN bC aN aC dN dC opn bl al dl) (hf : formB k prev page off next bN aN dN opn (dirtyOk (-1) dl) = f) : Go.Proofs.Ytjgomebnlekddaa.formR ⟨k, tx, prev, page, off, next, bl, al, dl, opn⟩ = f := by
  unfold Go.Proofs.Ytjgomebnlekddaa.formR
  dsimp only
  rw [h.b.1, h.a.1, h.d.1]; exact hf
theorem RecIn.rd {w : World} {k tx prev page off next : Int} {bA aA dA : Option Addr} {bN bC aN aC dN dC : Nat} {opn : Bool} {bl al : List Int} {dl : List (Int × Int)} (h : RecIn w k tx prev page off next bA aA dA bN bC aN aC dN dC opn bl al dl) : RecRd w ⟨k, tx, prev, page, off, next, bl, al, dl, opn⟩ (.agg #[.int .u8 k, .int .u64 tx, .int .u64 prev, .int .i64 page, .int .i64 off, .slice bA bN bC, .slice aA aN aC, .int .u64 next, .slice dA dN dC, .bool opn]) := by
  obtain ⟨h1, h2, h3⟩ := And.intro h.b (And.intro h.a h.d)
  refine ⟨bA, aA, dA, bC, aC, dC, ?_, ?_, ?_, ?_⟩
  · dsimp only; rw [h1.1, h2.1, h3.1]
  · dsimp only; rw [h1.1]; exact h1
  · dsimp only; rw [h2.1]; exact h2
  · dsimp only; rw [h3.1]; exact h3
theorem dec_of_enc {w w' : World} {e : Ending} {R : Rc} (hp : DecPostR (decS (encR R)) w e w') (hf : formR R = true) (ho : RcOk R) : Below w.heap.size w w' ∧ ∃ v, e = .returned (.tuple #[v, .int .i64 0]) ∧ RecOwn w' w.heap.size R v := by
  rw [decS_enc hf ho] at hp
  obtain ⟨hb, ⟨-, v, he, hr⟩ | ⟨h0, -⟩⟩ := hp
  · exact ⟨hb, v, he, hr⟩
  · exact absurd rfl h0
set_option maxRecDepth 100000 in
set_option maxHeartbeats 8000000 in
theorem encodes_rec (k tx prev page off next : Int) (bA aA dA : Option Addr) (bN bC aN aC dN dC : Nat) (opn : Bool) (bl al : List Int) (dl : List (Int × Int)) (w : World) (h : RecIn w k tx prev page off next bA aA dA bN bC aN aC dN dC opn bl al dl) :
    Calls Try.prog 17 #[.agg #[.int .u8 k, .int .u64 tx, .int .u64 prev, .int .i64 page, .int .i64 off, .slice bA bN bC, .slice aA aN aC, .int .u64 next, .slice dA dN dC, .bool opn]] w fun e w' => e = .returned (.bool true) ∧ Below w.heap.size w w' := by
  have hx := Lib.hid h
  clear h
  cases hf : formB k prev page off next bN aN dN opn (dirtyOk (-1) dl)
  all_goals
    have hfx := Lib.hid hf
    clear hf
    go_enter Try.func17, Try.ntmps17
    go_upto_region 1 with (fail)
    have k0 := At.new w #[.int .u8 k, .int .u64 tx, .int .u64 prev, .int .i64 page, .int .i64 off, .slice bA bN bC, .slice aA aN aC, .int .u64 next, .slice dA dN dC, .bool opn] 26
    have hB := below_new w (.cells #[.int .u8 k, .int .u64 tx, .int .u64 prev, .int .i64 page, .int .i64 off, .slice bA bN bC, .slice aA aN aC, .int .u64 next, .slice dA dN dC, .bool opn] 26)
    have k1 := k0.drew
    have hB1 := below_dr hB
    have hs0 := hB.size
    generalize (w.alloc (.cells #[.int .u8 k, .int .u64 tx, .int .u64 prev, .int .i64 page, .int .i64 off, .slice bA bN bC, .slice aA aN aC, .int .u64 next, .slice dA dN dC, .bool opn] 26)) = w0 at *
    have hS : ∀ w', Below w0.drew.heap.size w0.drew w' → (∀ o, w'.cell? ⟨w.heap.size, o, none⟩ = #[.int .u8 k, .int .u64 tx, .int .u64 prev, .int .i64 page, .int .i64 off, .slice bA bN bC, .slice aA aN aC, .int .u64 next, .slice dA dN dC, .bool opn][o]?) := fun w' hb => (At.keep hb k1).c
    have hR : ∀ w', Below w0.drew.heap.size w0.drew w' → RecIn w' k tx prev page off next bA aA dA bN bC aN aC dN dC opn bl al dl := fun w' hb => hx.out.later (below_keep hb hB1)
    have c0 : Below w0.drew.heap.size w0.drew w0.drew := Below.refl _ _
  · go_region_held3 (fun w' => (∀ o, w'.cell? ⟨w.heap.size, o, none⟩ = #[.int .u8 k, .int .u64 tx, .int .u64 prev, .int .i64 page, .int .i64 off, .slice bA bN bC, .slice aA aN aC, .int .u64 next, .slice dA dN dC, .bool opn][o]?))
      (first
        | (exact hS _ c0)
        | (exact hS _ c2)
        | (exact hS _ c3)
        | (exact hS _ c4))
      (first
        | (go_at_call 21; with_reducible refine (rawake_calls w0.drew).mono ?_; rintro e w2 ⟨rfl, c2⟩)
        | (go_at_call 58; with_reducible refine (form_at k tx prev page off next bA aA dA bN bC aN aC dN dC opn dl false w2 (hR _ c2).d (hR _ c2).dn hfx.out).mono ?_; rintro e w3 ⟨rfl, hb3⟩; have c3 := below_keep hb3 c2)
        | (go_at_call 22; with_reducible refine (rform_at (hR _ c3) false hfx.out).mono ?_; rintro e w4 ⟨rfl, hb4⟩; have c4 := below_keep hb4 c3)
        | fail)
    have k4 := At.keep c4 k1
    have hR4 := hR _ c4
    have hB4 := below_keep c4 hB1
    clear hS hR c0 c2 c3 c4 k0 k1 hB hB1 hs0
    have k4c := k4.c; have k4f := k4.f; have k4l := k4.lt
    go_wp2_with fail
    refine (enc_no k tx prev page off next bA aA dA bN bC aN aC dN dC opn dl w4 hR4.d hR4.dn hfx.out).mono ?_
    rintro e w5 ⟨rfl, hb5⟩
    have k5 := At.keep hb5 k4
    have hB5 := below_keep hb5 hB4
    have hR5 := hR4.later hb5
    clear k4 k4c k4f k4l hb5 hB4 hR4
    have k5c := k5.c; have k5f := k5.f; have k5l := k5.lt
    go_wp2_with fail
    refine (rform_at hR5 false hfx.out).mono ?_
    rintro e w6 ⟨rfl, hb6⟩
    go_wp2
    go_ret
    exact ⟨by first | rfl | simp, below_keep hb6 hB5⟩
  · go_region_held3 (fun w' => (∀ o, w'.cell? ⟨w.heap.size, o, none⟩ = #[.int .u8 k, .int .u64 tx, .int .u64 prev, .int .i64 page, .int .i64 off, .slice bA bN bC, .slice aA aN aC, .int .u64 next, .slice dA dN dC, .bool opn][o]?))
      (first
        | (exact hS _ c0)
        | (exact hS _ c2)
        | (exact hS _ c3)
        | (exact hS _ c4))
      (first
        | (go_at_call 21; with_reducible refine (rawake_calls w0.drew).mono ?_; rintro e w2 ⟨rfl, c2⟩)
        | (go_at_call 58; with_reducible refine (form_at k tx prev page off next bA aA dA bN bC aN aC dN dC opn dl true w2 (hR _ c2).d (hR _ c2).dn hfx.out).mono ?_; rintro e w3 ⟨rfl, hb3⟩; have c3 := below_keep hb3 c2)
        | (go_at_call 22; with_reducible refine (rform_at (hR _ c3) true hfx.out).mono ?_; rintro e w4 ⟨rfl, hb4⟩; have c4 := below_keep hb4 c3)
        | fail)
    have k4 := At.keep c4 k1
    have hR4 := hR _ c4
    have hB4 := below_keep c4 hB1
    clear hS hR c0 c2 c3 c4 k0 k1 hB hB1 hs0
    obtain ⟨el, hel⟩ : ∃ el, el = encL k tx prev page off next bl al dl opn := ⟨_, rfl⟩
    have helx := Lib.hid hel
    clear hel
    have k4c := k4.c; have k4f := k4.f; have k4l := k4.lt
    go_wp2_with fail
    refine (enc_yes hR4 hfx.out).mono ?_
    rw [← helx.out]
    rintro e w5 ⟨A5, c5, n5, rfl, ho5, hb5⟩
    have hn5 : n5 ≤ 2000 := by
      have h1 := ho5.1
      have h2 := form_facts hfx.out
      rw [helx.out, enc_len, hx.out.b.1, hx.out.a.1, hx.out.d.1] at h1
      split at h1 <;> (try split at h1) <;> (try split at h1) <;> (try split at h1) <;> omega
    have k5 := At.keep hb5 k4
    have hB5 := below_keep hb5 hB4
    have hR5 := hR4.later hb5
    clear k4 k4c k4f k4l hb5 hB4 hR4
    have k5c := k5.c; have k5f := k5.f; have k5l := k5.lt
    go_wp2_with fail
    refine (rform_at hR5 true hfx.out).mono ?_
    rintro e w6 ⟨rfl, hb6⟩
    have k6 := At.keep hb6 k5
    have hB6 := below_keep hb6 hB5
    have hR6 := hR5.later hb6
    replace ho5 := ho5.later hb6
    clear k5 k5c k5f k5l hb6 hB5 hR5
    go_wp2_with fail
    refine (rdec_rec_calls w6 (ho5.reads.less (Nat.zero_le _)) ho5.le_cap (Nat.le_trans hn5 (by decide))).mono ?_
    intro e w7 hp
    have hp2 : DecPostR (decS (encR ⟨k, tx, prev, page, off, next, bl, al, dl, opn⟩)) w6 e w7 := by
      have : el = encR ⟨k, tx, prev, page, off, next, bl, al, dl, opn⟩ := helx.out
      rw [← this]; exact hp
    obtain ⟨hb7, v, rfl, hv⟩ := dec_of_enc hp2 (hx.out.formR hfx.out) hx.out.ok
    clear hp hp2
    have hv' := hv.rd
    obtain ⟨bB, aB, dB, bD, aD, dD, rfl, g1, g2, g3⟩ := hv'
    dsimp only at g1 g2 g3 ⊢
    have k7 := At.keep hb7 k6
    have hB7 := below_keep hb7 hB6
    have hR7 := hR6.later hb7
    replace ho5 := ho5.later hb7
    have hQ7 : RecRd w7 ⟨k, tx, prev, page, off, next, bl, al, dl, opn⟩ (.agg #[.int .u8 k, .int .u64 tx, .int .u64 prev, .int .i64 page, .int .i64 off, .slice bB bl.length bD, .slice aB al.length aD, .int .u64 next, .slice dB dl.length dD, .bool opn]) := ⟨bB, aB, dB, bD, aD, dD, rfl, g1, g2, g3⟩
    clear g1 g2 g3 k6 hb7 hB6 hR6 hv
    go_upto_region 7 with (fail)
    have kB := At.new w7 #[.int .u8 k, .int .u64 tx, .int .u64 prev, .int .i64 page, .int .i64 off, .slice bB bl.length bD, .slice aB al.length aD, .int .u64 next, .slice dB dl.length dD, .bool opn] 26
    have hbB := below_new w7 (.cells #[.int .u8 k, .int .u64 tx, .int .u64 prev, .int .i64 page, .int .i64 off, .slice bB bl.length bD, .slice aB al.length aD, .int .u64 next, .slice dB dl.length dD, .bool opn] 26)
    have k8 := At.keep hbB k7
    have hB8 := below_keep hbB hB7
    have hR8 := hR7.later hbB
    have hQ8 := hQ7.later hbB
    replace ho5 := ho5.later hbB
    clear k7 hB7 hR7 hQ7 hbB
    generalize w7.heap.size = ρ2 at *
    generalize (w7.alloc (.cells #[.int .u8 k, .int .u64 tx, .int .u64 prev, .int .i64 page, .int .i64 off, .slice bB bl.length bD, .slice aB al.length aD, .int .u64 next, .slice dB dl.length dD, .bool opn] 26)) = w8 at *
    have d0 : Below w8.heap.size w8 w8.drew := below_dr (Below.refl _ _)
    have hF := Lib.hid (fun w' (hb : Below w8.heap.size w8 w') => And.intro (At.keep hb k8).c (And.intro (At.keep hb kB).c (run_str c5 w' (ho5.later hb).reads)))
    have f0 := hF.out _ d0
    have hse := str_eq ho5.2.1 ho5.2.1
    have heq : eqB el el = true := decide_eq_true rfl
    rw [heq] at hse
    have hfin := Lib.hid (fun w' (hb : Below w8.heap.size w8 w') => below_keep hb hB8)
    have hRx := Lib.hid (fun w' (hb : Below w8.heap.size w8 w') => hR8.later hb)
    have hQx := Lib.hid (fun w' (hb : Below w8.heap.size w8 w') => hQ8.later hb)
    have hdl := form_facts hfx.out
    have hdl64 : dl.length ≤ 1000 := by rw [hx.out.d.1]; omega
    clear heq hB8 hR8 hQ8 k8 kB ho5 hdl
    refine wp_region_held_drew (S := fun w' => (∀ o, w'.cell? ⟨w.heap.size, o, none⟩ = #[.int .u8 k, .int .u64 tx, .int .u64 prev, .int .i64 page, .int .i64 off, .slice bA bN bC, .slice aA aN aC, .int .u64 next, .slice dA dN dC, .bool opn][o]?) ∧ (∀ o, w'.cell? ⟨ρ2, o, none⟩ = #[.int .u8 k, .int .u64 tx, .int .u64 prev, .int .i64 page, .int .i64 off, .slice bB bl.length bD, .slice aB al.length aD, .int .u64 next, .slice dB dl.length dD, .bool opn][o]?) ∧ (convert 23 9 (.slice A5 n5 c5)).run Try.prog w' = .ok (.string (strL el)) w') (by kernel_rfl) f0 (fun hHeld => ?_)
    (refine wpAnyH_takeL (i := 0) (v := ?_) rfl (by kernel_rfl) (by kernel_rfl) (by kernel_rfl) (fun _ _ _ h => h) (by rfl) hHeld ?_ ?_; rotate_left; (focus (intro w hSw; (try dsimp only at hSw); go_simp; (try with_reducible rfl); done)); (try simp only [Act.put, List.setIfInBounds_toArray, List.set_cons_zero, List.set_cons_succ]))
    (refine wpAnyH_takeL (i := 1) (v := ?_) rfl (by kernel_rfl) (by kernel_rfl) (by kernel_rfl) (fun _ _ _ h => h) (by rfl) hHeld ?_ ?_; rotate_left; (focus (intro w hSw; (try dsimp only at hSw); go_simp; (try with_reducible rfl); done)); (try simp only [Act.put, List.setIfInBounds_toArray, List.set_cons_zero, List.set_cons_succ]))
    (refine wpAnyH_takeL (i := 2) (v := ?_) rfl (by kernel_rfl) (by kernel_rfl) (by kernel_rfl) (fun _ _ _ h => h) (by rfl) hHeld ?_ ?_; rotate_left; (focus (intro w hSw; (try dsimp only at hSw); go_simp; (try with_reducible rfl); done)); (try simp only [Act.put, List.setIfInBounds_toArray, List.set_cons_zero, List.set_cons_succ]))
    (refine wpAnyH_takeL (i := 3) (v := ?_) rfl (by kernel_rfl) (by kernel_rfl) (by kernel_rfl) (fun _ _ _ h => h) (by rfl) hHeld ?_ ?_; rotate_left; (focus (intro w hSw; (try dsimp only at hSw); go_simp; (try with_reducible rfl); done)); (try simp only [Act.put, List.setIfInBounds_toArray, List.set_cons_zero, List.set_cons_succ]))
    (refine wpAnyH_takeL (i := 4) (v := ?_) rfl (by kernel_rfl) (by kernel_rfl) (by kernel_rfl) (fun _ _ _ h => h) (by rfl) hHeld ?_ ?_; rotate_left; (focus (intro w hSw; (try dsimp only at hSw); go_simp; (try with_reducible rfl); done)); (try simp only [Act.put, List.setIfInBounds_toArray, List.set_cons_zero, List.set_cons_succ]))
    (refine wpAnyH_takeL (i := 5) (v := ?_) rfl (by kernel_rfl) (by kernel_rfl) (by kernel_rfl) (fun _ _ _ h => h) (by rfl) hHeld ?_ ?_; rotate_left; (focus (intro w hSw; (try dsimp only at hSw); go_simp; (try with_reducible rfl); done)); (try simp only [Act.put, List.setIfInBounds_toArray, List.set_cons_zero, List.set_cons_succ]))
    (refine wpAnyH_callL (i := 6) rfl (by kernel_rfl) (by rfl) (fun K hK => ?_); go_simp)
    go_at_call 60
    refine (renc_rec (hRx.out _ d0) hfx.out).mono ?_
    rw [← helx.out]
    rintro e w9 ⟨A9, c9, n9, rfl, ho9, hb9⟩
    have d1 := below_keep hb9 d0
    have f1 := hF.out _ d1
    clear hHeld
    refine hK.out _ _ f1 (fun hHeld => ?_)
    (clear hK K; (try simp only [Act.put, List.setIfInBounds_toArray, List.set_cons_zero, List.set_cons_succ]))
    refine wpAnyH_mono (S' := fun w' => (∀ o, w'.cell? ⟨w.heap.size, o, none⟩ = #[.int .u8 k, .int .u64 tx, .int .u64 prev, .int .i64 page, .int .i64 off, .slice bA bN bC, .slice aA aN aC, .int .u64 next, .slice dA dN dC, .bool opn][o]?) ∧ (∀ o, w'.cell? ⟨ρ2, o, none⟩ = #[.int .u8 k, .int .u64 tx, .int .u64 prev, .int .i64 page, .int .i64 off, .slice bB bl.length bD, .slice aB al.length aD, .int .u64 next, .slice dB dl.length dD, .bool opn][o]?) ∧ (convert 23 9 (.slice A5 n5 c5)).run Try.prog w' = .ok (.string (strL el)) w' ∧ (convert 23 9 (.slice A9 n9 c9)).run Try.prog w' = .ok (.string (strL el)) w') (fun w' h => ⟨h.1, h.2.1, h.2.2.1⟩) _ _ _ _ ?_
    replace hHeld := And.intro f1.1 (And.intro f1.2.1 (And.intro f1.2.2 (run_str c9 w9 ho9.reads)))
    (refine wpAnyH_takeL (i := 7) (v := ?_) rfl (by kernel_rfl) (by kernel_rfl) (by kernel_rfl) (fun _ _ _ h => h) (by rfl) hHeld ?_ ?_; rotate_left; (focus (intro w hSw; (try dsimp only at hSw); go_simp; (try with_reducible rfl); done)); (try simp only [Act.put, List.setIfInBounds_toArray, List.set_cons_zero, List.set_cons_succ]))
    (refine wpAnyH_takeL (i := 8) (v := ?_) rfl (by kernel_rfl) (by kernel_rfl) (by kernel_rfl) (fun _ _ _ h => h) (by rfl) hHeld ?_ ?_; rotate_left; (focus (intro w hSw; (try dsimp only at hSw); go_simp; (try with_reducible rfl); done)); (try simp only [Act.put, List.setIfInBounds_toArray, List.set_cons_zero, List.set_cons_succ]))
    (refine wpAnyH_takeL (i := 9) (v := ?_) rfl (by kernel_rfl) (by kernel_rfl) (by kernel_rfl) (fun _ _ _ h => h) (by rfl) hHeld ?_ ?_; rotate_left; (focus (intro w hSw; (try dsimp only at hSw); go_simp; (try with_reducible rfl); done)); (try simp only [Act.put, List.setIfInBounds_toArray, List.set_cons_zero, List.set_cons_succ]))
    (refine wpAnyH_takeL (i := 10) (v := ?_) rfl (by kernel_rfl) (by kernel_rfl) (by kernel_rfl) (fun _ _ _ h => h) (by rfl) hHeld ?_ ?_; rotate_left; (focus (intro w hSw; (try dsimp only at hSw); go_simp; (try with_reducible rfl); done)); (try simp only [Act.put, List.setIfInBounds_toArray, List.set_cons_zero, List.set_cons_succ]))
    (refine wpAnyH_takeL (i := 11) (v := ?_) rfl (by kernel_rfl) (by kernel_rfl) (by kernel_rfl) (fun _ _ _ h => h) (by rfl) hHeld ?_ ?_; rotate_left; (focus (intro w hSw; (try dsimp only at hSw); go_simp; (try with_reducible rfl); done)); (try simp only [Act.put, List.setIfInBounds_toArray, List.set_cons_zero, List.set_cons_succ]))
    (refine wpAnyH_takeL (i := 12) (v := ?_) rfl (by kernel_rfl) (by kernel_rfl) (by kernel_rfl) (fun _ _ _ h => h) (by rfl) hHeld ?_ ?_; rotate_left; (focus (intro w hSw; (try dsimp only at hSw); go_simp; (try with_reducible rfl); done)); (try simp only [Act.put, List.setIfInBounds_toArray, List.set_cons_zero, List.set_cons_succ]))
    (refine wpAnyH_takeL (i := 13) (v := ?_) rfl (by kernel_rfl) (by kernel_rfl) (by kernel_rfl) (fun _ _ _ h => h) (by rfl) hHeld ?_ ?_; rotate_left; (focus (intro w hSw; (try dsimp only at hSw); go_simp; (try with_reducible rfl); done)); (try simp only [Act.put, List.setIfInBounds_toArray, List.set_cons_zero, List.set_cons_succ]))
    (refine wpAnyH_takeL (i := 14) (v := ?_) rfl (by kernel_rfl) (by kernel_rfl) (by kernel_rfl) (fun _ _ _ h => h) (by rfl) hHeld ?_ ?_; rotate_left; (focus (intro w hSw; (try dsimp only at hSw); go_simp; (try with_reducible rfl); done)); (try simp only [Act.put, List.setIfInBounds_toArray, List.set_cons_zero, List.set_cons_succ]))
    (refine wpAnyH_takeL (i := 15) (v := ?_) rfl (by kernel_rfl) (by kernel_rfl) (by kernel_rfl) (fun _ _ _ h => h) (by rfl) hHeld ?_ ?_; rotate_left; (focus (intro w hSw; (try dsimp only at hSw); go_simp; (try with_reducible rfl); done)); (try simp only [Act.put, List.setIfInBounds_toArray, List.set_cons_zero, List.set_cons_succ]))
    (refine wpAnyH_takeL (i := 16) (v := ?_) rfl (by kernel_rfl) (by kernel_rfl) (by kernel_rfl) (fun _ _ _ h => h) (by rfl) hHeld ?_ ?_; rotate_left; (focus (intro w hSw; (try dsimp only at hSw); go_simp; (try with_reducible rfl); done)); (try simp only [Act.put, List.setIfInBounds_toArray, List.set_cons_zero, List.set_cons_succ]))
    (refine wpAnyH_callL (i := 17) rfl (by kernel_rfl) (by rfl) (fun K hK => ?_); go_simp)
    go_at_call 61
    refine (rsamer_yes w9 (hQx.out _ d1) (hRx.out _ d1).rd hdl64).mono ?_
    rintro e wa ⟨rfl, hba⟩
    have d2 := below_keep hba d1
    have f2 := hF.out _ d2
    refine hK.out _ _ ⟨f2.1, f2.2.1, f2.2.2, run_str c9 wa (ho9.later hba).reads⟩ (fun hHeld => ?_)
    (clear hK K; (try simp only [Act.put, List.setIfInBounds_toArray, List.set_cons_zero, List.set_cons_succ]))
    (refine wpAnyH_takeL (i := 18) (v := ?_) rfl (by kernel_rfl) (by kernel_rfl) (by kernel_rfl) (fun _ _ _ h => h) (by rfl) hHeld ?_ ?_; rotate_left; (focus (intro w hSw; (try dsimp only at hSw); go_simp; (try with_reducible rfl); done)); (try simp only [Act.put, List.setIfInBounds_toArray, List.set_cons_zero, List.set_cons_succ]))
    (refine wpAnyH_takeL (i := 19) (v := ?_) rfl (by kernel_rfl) (by kernel_rfl) (by kernel_rfl) (fun _ _ _ h => h) (by rfl) hHeld ?_ ?_; rotate_left; (focus (intro w hSw; (try dsimp only at hSw); go_simp; (try with_reducible rfl); done)); (try simp only [Act.put, List.setIfInBounds_toArray, List.set_cons_zero, List.set_cons_succ]))
    (refine wpAnyH_done (by kernel_rfl) ?_ _)
    clear hHeld f0 f1 f2 d1 ho9 hse
    go_wp2
    go_ret
    exact ⟨by first | rfl | simp, hfin.out _ d2⟩
end Go.Proofs.Ytjgomebnlekddaa
