/- RecordSizes: the walk of the law. -/
import Derived.Test.YtjgomebnlekddaaEnc6
import Derived.Deep.QuietTactic
namespace Go.Proofs.Ytjgomebnlekddaa
set_option linter.unusedVariables false
set_option linter.unusedSimpArgs false
open Go.RowKit
theorem recIn_nil (w : World) (k tx : Int) (hk : 0 ≤ k ∧ k ≤ 255) (ht : 0 ≤ tx ∧ tx < 18446744073709551616) : RecIn w k tx 0 0 0 0 none none none 0 0 0 0 0 0 false [] [] [] :=
  ⟨hk.1, hk.2, ht.1, ht.2, by omega, by omega, by omega, by omega, ⟨rfl, Byt.nil, Rd.nil _ _ _ _ _⟩, ⟨rfl, Byt.nil, Rd.nil _ _ _ _ _⟩, ⟨rfl, Rd.nil _ _ _ _ _⟩, by omega, by omega, by omega, fun _ h => nomatch h⟩
set_option maxRecDepth 100000 in
theorem rawake_calls (w : World) : Calls Try.prog 21 #[] w fun e w' => e = .returned (.bool true) ∧ Below w.heap.size w w' := by
  go_enter Try.func21, Try.ntmps21
  go_wp2_with fail
  refine (enc_yes (recIn_nil _ 1 1 (by omega) (by omega)) (by decide)).mono ?_
  rintro e w1 ⟨A1, c1, n1, rfl, ho1, hb1⟩
  obtain rfl : 13 = n1 := ho1.1
  clear ho1
  go_wp2_with fail
  refine (enc_yes (recIn_nil _ 4 0 (by omega) (by omega)) (by decide)).mono ?_
  rintro e w2 ⟨A2, c2, n2, rfl, ho2, hb2⟩
  obtain rfl : 21 = n2 := ho2.1
  clear ho2
  go_wp2
  go_ret
  exact ⟨by first | rfl | simp, below_keep hb2 hb1⟩
theorem u8L_len (u : Int) : (u8L u).length = 8 := rfl
theorem enc_len (k tx prev page off next : Int) (bl al : List Int) (dl : List (Int × Int)) (opn : Bool) : (encL k tx prev page off next bl al dl opn).length = if k = 1 then 13 else if k = 2 then 27 + bl.length + al.length else if k = 3 then 35 + bl.length + al.length else if k = 6 then 22 + 10 * dl.length else 21 := by
  have hd : (dl.flatMap (fun d => twoL d.1 ++ u8L d.2)).length = 10 * dl.length := by
    induction dl with
    | nil => rfl
    | cons d l ih => rw [List.flatMap_cons, List.length_append, ih]; simp [twoL, u8L_len]; omega
  unfold encL bodyL
  by_cases h1 : k = 1
  · subst h1; simp [u8L_len, fourL]
  by_cases h2 : k = 2
  · subst h2; simp [u8L_len, fourL, twoL]; omega
  by_cases h3 : k = 3
  · subst h3; simp [u8L_len, fourL, twoL]; omega
  by_cases h6 : k = 6
  · subst h6; simp [u8L_len, fourL, hd]; omega
  · simp [h1, h2, h3, h6, u8L_len, fourL]
theorem form_facts {k prev page off next : Int} {bN aN dN : Nat} {opn d : Bool} (h : formB k prev page off next bN aN dN opn d = true) : (k = 1 ∨ k = 4 ∨ k = 5 ∨ k = 2 ∨ k = 3 ∨ k = 6) ∧ (k = 2 → bN = aN) ∧ (k = 3 → bN = 0) ∧ aN ≤ 512 ∧ dN ≤ 64 := by
  unfold formB plainB placeB listB at h
  by_cases h1 : k = 1
  · subst h1; simp at h; omega
  by_cases h4 : k = 4
  · subst h4; simp at h; omega
  by_cases h5 : k = 5
  · subst h5; simp at h; omega
  by_cases h2 : k = 2
  · subst h2; simp at h; omega
  by_cases h3 : k = 3
  · subst h3; simp at h; omega
  by_cases h6 : k = 6
  · subst h6; simp at h; omega
  · simp [h1, h4, h5, h2, h3, h6] at h
theorem rform_at {k tx prev page off next : Int} {bA aA dA : Option Addr} {bN bC aN aC dN dC : Nat} {opn : Bool} {bl al : List Int} {dl : List (Int × Int)} {w : World} (h : RecIn w k tx prev page off next bA aA dA bN bC aN aC dN dC opn bl al dl) (b : Bool) (hb : formB k prev page off next bN aN dN opn (dirtyOk (-1) dl) = b) :
    Calls Try.prog 22 #[.agg #[.int .u8 k, .int .u64 tx, .int .u64 prev, .int .i64 page, .int .i64 off, .slice bA bN bC, .slice aA aN aC, .int .u64 next, .slice dA dN dC, .bool opn]] w fun e w' => e = .returned (.bool b) ∧ Below w.heap.size w w' :=
  hb ▸ rform_calls k tx prev page off next bA aA dA bN bC aN aC dN dC opn dl w h.d h.dn h.k0 h.an h.x0 h.p0
set_option maxRecDepth 100000 in
set_option maxHeartbeats 2000000 in
theorem sizes_calls (k tx prev page off next : Int) (bA aA dA : Option Addr) (bN bC aN aC dN dC : Nat) (opn : Bool) (bl al : List Int) (dl : List (Int × Int)) (w : World) (h : RecIn w k tx prev page off next bA aA dA bN bC aN aC dN dC opn bl al dl) :
    Calls Try.prog 3 #[.agg #[.int .u8 k, .int .u64 tx, .int .u64 prev, .int .i64 page, .int .i64 off, .slice bA bN bC, .slice aA aN aC, .int .u64 next, .slice dA dN dC, .bool opn]] w fun e w' => e = .returned (.bool true) ∧ Below w.heap.size w w' := by
  have hh := Lib.hid h
  have k0 := At.new w #[.int .u8 k, .int .u64 tx, .int .u64 prev, .int .i64 page, .int .i64 off, .slice bA bN bC, .slice aA aN aC, .int .u64 next, .slice dA dN dC, .bool opn] 26
  cases hf : formB k prev page off next bN aN dN opn (dirtyOk (-1) dl)
  · have hf' := Lib.hid hf
    clear hf h
    go_enter Try.func3, Try.ntmps3
    go_wp2_with fail
    have hB := below_new w (.cells #[.int .u8 k, .int .u64 tx, .int .u64 prev, .int .i64 page, .int .i64 off, .slice bA bN bC, .slice aA aN aC, .int .u64 next, .slice dA dN dC, .bool opn] 26)
    generalize (w.alloc (.cells #[.int .u8 k, .int .u64 tx, .int .u64 prev, .int .i64 page, .int .i64 off, .slice bA bN bC, .slice aA aN aC, .int .u64 next, .slice dA dN dC, .bool opn] 26)) = w0 at *
    refine (rawake_calls _).mono ?_
    rintro e w1 ⟨rfl, hb1⟩
    have hB1 := below_keep hb1 hB
    replace k0 := At.keep hb1 k0
    clear hB hb1
    have k0c := k0.c; have k0f := k0.f; have k0l := k0.lt
    go_wp2_with fail
    refine (rform_at (hh.out.later hB1) false hf'.out).mono ?_
    rintro e w2 ⟨rfl, hb2⟩
    have hB2 := below_keep hb2 hB1
    clear hb2 hB1 k0 k0c k0f k0l
    go_wp2_with fail
    refine (rawake_calls _).mono ?_
    rintro e w3 ⟨rfl, hb3⟩
    have hB3 := below_keep hb3 hB2
    go_wp2
    go_ret
    exact ⟨by first | rfl | simp, hB3⟩
  · obtain ⟨hk, f2, f3, f4, f5⟩ := form_facts hf
    have hf' := Lib.hid hf
    clear hf h
    go_enter Try.func3, Try.ntmps3
    go_wp2_with fail
    have hB := below_new w (.cells #[.int .u8 k, .int .u64 tx, .int .u64 prev, .int .i64 page, .int .i64 off, .slice bA bN bC, .slice aA aN aC, .int .u64 next, .slice dA dN dC, .bool opn] 26)
    generalize (w.alloc (.cells #[.int .u8 k, .int .u64 tx, .int .u64 prev, .int .i64 page, .int .i64 off, .slice bA bN bC, .slice aA aN aC, .int .u64 next, .slice dA dN dC, .bool opn] 26)) = w0 at *
    refine (rawake_calls _).mono ?_
    rintro e w1 ⟨rfl, hb1⟩
    have hB1 := below_keep hb1 hB
    replace k0 := At.keep hb1 k0
    clear hB hb1
    have k0c := k0.c; have k0f := k0.f; have k0l := k0.lt
    go_wp2_with fail
    refine (rform_at (hh.out.later hB1) true hf'.out).mono ?_
    rintro e w2 ⟨rfl, hb2⟩
    have hB2 := below_keep hb2 hB1
    replace k0 := At.keep hb2 k0
    clear hb2 hB1 k0c k0f k0l
    have k0c := k0.c; have k0f := k0.f; have k0l := k0.lt
    go_wp2_with fail
    refine (enc_yes (hh.out.later hB2) hf'.out).mono ?_
    rintro e w3 ⟨A3, c3, n3, rfl, ho3, hb3⟩
    have hB3 := below_keep hb3 hB2
    replace k0 := At.keep hb3 k0
    have hn := ho3.1
    rw [enc_len, hh.out.b.1, hh.out.a.1, hh.out.d.1] at hn
    clear hb3 hB2 k0c k0f k0l ho3
    rcases hk with rfl | rfl | rfl | rfl | rfl | rfl
    all_goals
      simp at hn f2 f3
      have hn' := Lib.hid hn
      have k0c := k0.c; have k0f := k0.f; have k0l := k0.lt
      first
        | (have q : ((n3 : Int) == 13) = true := by simp; omega
           clear hn f2 f3
           go_wp2)
        | (have q : ((n3 : Int) == 21) = true := by simp; omega
           clear hn f2 f3
           go_wp2)
        | (have q : ((n3 : Int) == 27 + 2 * (aN : Int)) = true := by simp; omega
           clear hn f2 f3
           go_wp2)
        | (have q : ((n3 : Int) == 35 + (aN : Int)) = true := by simp; omega
           clear hn f2 f3
           go_wp2)
        | (have q : ((n3 : Int) == 22 + 10 * (dN : Int)) = true := by simp; omega
           clear hn f2 f3
           go_wp2)
      go_ret
      refine ⟨?_, hB3⟩
      first | rfl | (simp; done) | (simp; omega)
end Go.Proofs.Ytjgomebnlekddaa
