/- Joined texts: LogR. -/
import Derived.Test.YtnehppeoffemlaaJLogRings28
/- The log's Read by its contract. -/
namespace Go.Proofs.Ytnehppeoffemlaa
set_option linter.unusedVariables false
set_option linter.unusedSimpArgs false
open Go.RowKit
theorem end_i {L : Lg} (h : LgOk L) : 0 ≤ endL L ∧ endL L ≤ 2199023255552 := by
  have h1 := h.base; have h2 := h.buf
  unfold endL; omega
set_option maxRecDepth 100000 in
set_option maxHeartbeats 4000000 in
theorem lread_arg {base d g bc : Nat} {bA : Option Addr} {L : Lg} (a : Int) (w : World) (h : LgH w base d g bA bc L) (hx : a < L.start ∨ endL L < a) :
    Calls Try.prog 30 #[.pointer (some ⟨g, 0, none⟩), .int .u64 a] w fun e w' => e = .returned (.tuple #[.slice none 0 0, .int .u64 0, .int .i64 1]) ∧ ∃ k, w' = w.drewN k := by
  obtain ⟨en, hen⟩ : ∃ en, endL L = en := ⟨_, rfl⟩
  rw [hen] at hx
  have henx := Lib.hid hen
  have hhx := Lib.hid h
  clear hen
  rcases Bool.eq_false_or_eq_true (decide (a < L.start)) with c1 | c1
  · clear hx
    go_enter Try.func30, Try.ntmps30
    go_wp2_with fail
    refine (lend_q w en h henx.out).mono ?_
    rintro e w1 ⟨rfl, kd, rfl⟩
    have k0 := (hhx.out.drewN kd).at_
    have k0c := k0.c; have k0f := k0.f; have k0l := k0.lt
    go_wp2_with fail
    go_ret3
    exact ⟨by first | rfl | simp, kd, rfl⟩
  · have c2 : decide (en < a) = true := by simp at c1 ⊢; omega
    clear hx
    go_enter Try.func30, Try.ntmps30
    go_wp2_with fail
    refine (lend_q w en h henx.out).mono ?_
    rintro e w1 ⟨rfl, kd, rfl⟩
    have k0 := (hhx.out.drewN kd).at_
    have k0c := k0.c; have k0f := k0.f; have k0l := k0.lt
    go_wp2_with fail
    go_ret3
    exact ⟨by first | rfl | simp, kd, rfl⟩
set_option maxRecDepth 100000 in
set_option maxHeartbeats 4000000 in
theorem lread_none {base d g bc : Nat} {bA : Option Addr} {L : Lg} (a : Int) (w : World) (h : LgH w base d g bA bc L) (hx : endL L = a) :
    Calls Try.prog 30 #[.pointer (some ⟨g, 0, none⟩), .int .u64 a] w fun e w' => e = .returned (.tuple #[.slice none 0 0, .int .u64 0, .int .i64 6]) ∧ ∃ k, w' = w.drewN k := by
  have hhx := Lib.hid h
  have hs := h.ok.start
  have hsu := h.ok.sure
  rw [hx] at hsu
  have c1 : decide (a < L.start) = false := by simp; omega
  have hxx := Lib.hid hx
  clear hx
  go_enter Try.func30, Try.ntmps30
  go_wp2_with fail
  refine (lend_q w a h hxx.out).mono ?_
  rintro e w1 ⟨rfl, kd, rfl⟩
  have k0 := (hhx.out.drewN kd).at_
  have k0c := k0.c; have k0f := k0.f; have k0l := k0.lt
  go_wp2_with fail
  go_ret3
  exact ⟨by first | rfl | simp, kd, rfl⟩
set_option maxRecDepth 100000 in
set_option maxHeartbeats 8000000 in
theorem lread_ok {base d lb g bc : Nat} {F : Nat → Prop} {bA : Option Addr} {L : Lg} {D : Dk} {x y : Int} {p : List Int} (at_ n : Nat) (w : World) (hL : LgH w base d g bA bc L) (hD : DD w base d lb F D) (hlen : L.pos + 1 + L.count ≤ D.l.length) (hoff : D.off = false)
    (hst : L.start ≤ at_) (hend : ((at_ + 2 + n : Nat) : Int) ≤ endL L) (hh : bytR D L at_ 2 3 [] = some [x, y]) (hx : 0 ≤ x ∧ x ≤ 255) (hy : 0 ≤ y ∧ y ≤ 255) (hn : x * 256 + y = n) (hn0 : 0 < n) (hp : bytR D L (at_ + 2) n (n + 1) [] = some p) :
    Calls Try.prog 30 #[.pointer (some ⟨g, 0, none⟩), .int .u64 at_] w fun e w' => ∃ A c, e = .returned (.tuple #[.slice A n c, .int .u64 ((at_ + 2 + n : Nat) : Int), .int .i64 0]) ∧ OwB w' w.heap.size A n c p ∧ Below w.heap.size w w' := by
  obtain ⟨en, hen⟩ : ∃ en, endL L = en := ⟨_, rfl⟩
  have hei := end_i hL.ok
  rw [hen] at hei
  have henx := Lib.hid hen
  have hendx := Lib.hid hend
  rw [hen] at hend
  have hhx := Lib.hid hh
  have hpx := Lib.hid hp
  have hLx := Lib.hid hL
  have c1 : decide ((at_ : Int) < L.start) = false := by simp; omega
  have c2 : decide (en < (at_ : Int)) = false := by simp; omega
  have c3 : ¬ ((at_ : Int) = en) := by omega
  have c4 : IntKind.u64.wrap (en - (at_ : Int)) = en - at_ := IntWalk.u64_in _ (by omega)
  have c5 : ¬ (en - (at_ : Int) < 2) := by omega
  have c6 : IntKind.u64.wrap ((at_ : Int) + 2) = ((at_ + 2 : Nat) : Int) := by rw [IntWalk.u64_in _ (by omega)]; omega
  have c7 : IntKind.u64.wrap (en - (at_ : Int) - 2) = en - at_ - 2 := IntWalk.u64_in _ (by omega)
  have c8 : IntKind.u64.wrap (n : Int) = n := IntWalk.u64_in _ (by omega)
  have c9 : ¬ (en - (at_ : Int) - 2 < n) := by omega
  have c10 : ¬ ((n : Int) = 0) := by omega
  have c9b : decide (en - (at_ : Int) - 2 < n) = false := by simp; omega
  have c10b : decide ((n : Int) = 0) = false := by simp; omega
  have c10c : ¬ (n = 0) := by omega
  have c11 : IntKind.u64.wrap (((at_ + 2 : Nat) : Int) + n) = ((at_ + 2 + n : Nat) : Int) := by rw [IntWalk.u64_in _ (by omega)]; omega
  have hbe := be16 hx.1 hx.2 hy.1 hy.2
  rw [hn] at hbe
  have hn9 : n ≤ 65536 := by omega
  clear hen hh hp hend hn
  go_enter Try.func30, Try.ntmps30
  go_wp2_with fail
  refine (lend_q w en hL henx.out).mono ?_
  rintro e w1 ⟨rfl, kd, hkd⟩
  have hB1 : Below w.heap.size w w1 := by rw [hkd]; exact below_drewN (Below.refl _ _) kd
  clear hkd
  have k1 := (hLx.out.later hB1).at_
  have k1c := k1.c; have k1f := k1.f; have k1l := k1.lt
  go_wp2_with fail
  refine (lbytes_calls at_ 2 w1 (hLx.out.later hB1) (hD.later hB1) hlen (by have := hendx.out; omega) (by omega) hoff).mono ?_
  rw [hhx.out]
  rintro e w2 ⟨hb2, (⟨A, c, out, ho, rfl, hA⟩ | ⟨hno, -⟩)⟩
  · injection ho with ho
    subst ho
    have hB2 := below_keep hb2 hB1
    obtain ⟨gb, rfl⟩ := hA.some8 (by omega)
    have hr := hA.reads
    obtain ⟨gb', go', hA0, -, -, hca⟩ := hr.at_ (k := 0) (by omega)
    injection hA0 with hA0
    injection hA0 with e1 e2
    subst e1; subst e2
    obtain ⟨gb', go', hA1, -, -, hcb⟩ := hr.at_ (k := 1) (by omega)
    injection hA1 with hA1
    injection hA1 with e1 e2
    subst e1; subst e2
    have hca' : w2.cell? ⟨gb, 0, none⟩ = some (.int .u8 x) := hca
    have hcb' : w2.cell? ⟨gb, 1, none⟩ = some (.int .u8 y) := hcb
    clear hca hcb k1 k1c k1f k1l
    go_upto_region 13 with (fail)
    go_region_held3 (fun w' => w'.cell? ⟨gb, 0, none⟩ = some (.int .u8 x) ∧ w'.cell? ⟨gb, 1, none⟩ = some (.int .u8 y)) (go_keep) (fail)
    have hB3 : Below w.heap.size w w2.drew := below_dr hB2
    go_wp2_with fail
    refine (lbytes_calls (at_ + 2) n w2.drew (hLx.out.later hB3) (hD.later hB3) hlen hendx.out hn9 hoff).mono ?_
    rw [hpx.out]
    rintro e w4 ⟨hb4, (⟨A4, c4', out4, ho4, rfl, hA4⟩ | ⟨hno, -⟩)⟩
    · injection ho4 with ho4
      subst ho4
      go_wp2_with fail
      go_ret3
      exact ⟨A4, c4', by first | rfl | simp, hA4.less hB3.size, below_keep hb4 hB3⟩
    · cases hno
  · cases hno
end Go.Proofs.Ytnehppeoffemlaa
