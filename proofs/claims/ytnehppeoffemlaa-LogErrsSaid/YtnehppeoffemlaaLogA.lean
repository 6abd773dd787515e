/- The log's small methods by their contracts: of a nil log, and of one that is there. -/
import Derived.Test.YtnehppeoffemlaaApp
import Derived.Test.YtnehppeoffemlaaShare
import Derived.BigQuiet
import Derived.Deep.QuietTactic
namespace Go.Proofs.Ytnehppeoffemlaa
set_option linter.unusedVariables false
set_option linter.unusedSimpArgs false
open Go.RowKit
theorem lend_nil  (w : World) : Calls Try.prog 31 #[.pointer none] w fun e w' => e = .returned (.int .u64 0) ∧ w = w' := by
  go_enter Try.func31, Try.ntmps31
  go_wp2
  go_ret
  exact ⟨rfl, rfl⟩
theorem lsure_nil  (w : World) : Calls Try.prog 32 #[.pointer none] w fun e w' => e = .returned (.int .u64 0) ∧ w = w' := by
  go_enter Try.func32, Try.ntmps32
  go_wp2
  go_ret
  exact ⟨rfl, rfl⟩
theorem lstart_nil  (w : World) : Calls Try.prog 33 #[.pointer none] w fun e w' => e = .returned (.int .u64 0) ∧ w = w' := by
  go_enter Try.func33, Try.ntmps33
  go_wp2
  go_ret
  exact ⟨rfl, rfl⟩
theorem lcheck_nil  (w : World) : Calls Try.prog 34 #[.pointer none] w fun e w' => e = .returned (.int .u64 0) ∧ w = w' := by
  go_enter Try.func34, Try.ntmps34
  go_wp2
  go_ret
  exact ⟨rfl, rfl⟩
theorem lroom_nil  (w : World) : Calls Try.prog 16 #[.pointer none] w fun e w' => e = .returned (.int .i64 0) ∧ w = w' := by
  go_enter Try.func16, Try.ntmps16
  go_wp2
  go_ret
  exact ⟨rfl, rfl⟩
theorem lheld_nil  (w : World) : Calls Try.prog 17 #[.pointer none] w fun e w' => e = .returned (.int .i64 0) ∧ w = w' := by
  go_enter Try.func17, Try.ntmps17
  go_wp2
  go_ret
  exact ⟨rfl, rfl⟩
theorem lrelease_nil (n : Int) (w : World) : Calls Try.prog 29 #[.pointer none, .int .i64 n] w fun e w' => e = .returned (.int .i64 6) ∧ w = w' := by
  go_enter Try.func29, Try.ntmps29
  go_wp2
  go_ret
  exact ⟨rfl, rfl⟩
theorem lflush_nil  (w : World) : Calls Try.prog 19 #[.pointer none] w fun e w' => e = .returned (.int .i64 6) ∧ w = w' := by
  go_enter Try.func19, Try.ntmps19
  go_wp2
  go_ret
  exact ⟨rfl, rfl⟩
theorem lmark_nil (a b : Int) (w : World) : Calls Try.prog 21 #[.pointer none, .int .u64 a, .int .u64 b] w fun e w' => e = .returned (.int .i64 6) ∧ w = w' := by
  go_enter Try.func21, Try.ntmps21
  go_wp2
  go_ret
  exact ⟨rfl, rfl⟩
theorem lappend_nil (A : Option Addr) (n c : Nat) (h : Int) (w : World) : Calls Try.prog 15 #[.pointer none, .slice A n c, .int .i64 h] w fun e w' => e = .returned (.tuple #[.int .u64 0, .int .i64 6]) ∧ w = w' := by
  go_enter Try.func15, Try.ntmps15
  go_wp2
  go_ret2
  exact ⟨rfl, rfl⟩
theorem lspend_nil (A : Option Addr) (n c : Nat) (w : World) : Calls Try.prog 18 #[.pointer none, .slice A n c] w fun e w' => e = .returned (.tuple #[.int .u64 0, .int .i64 6]) ∧ w = w' := by
  go_enter Try.func18, Try.ntmps18
  go_wp2
  go_ret2
  exact ⟨rfl, rfl⟩
theorem lread_nil (a : Int) (w : World) : Calls Try.prog 30 #[.pointer none, .int .u64 a] w fun e w' => e = .returned (.tuple #[.slice none 0 0, .int .u64 0, .int .i64 6]) ∧ w = w' := by
  go_enter Try.func30, Try.ntmps30
  go_wp2
  go_ret3
  exact ⟨rfl, rfl⟩
theorem llook_nil (a c : Int) (w : World) : Calls Try.prog 64 #[.pointer none, .int .i64 a, .int .i64 c] w fun e w' => e = .returned (.int .i64 6) ∧ w = w' := by
  go_enter Try.func64, Try.ntmps64
  go_wp2
  go_ret
  exact ⟨rfl, rfl⟩
/-- A log in plain terms. -/
structure Lg where
  pos : Int
  count : Int
  epoch : Int
  start : Int
  check : Int
  sure : Int
  held : Int
  base : Int
  buf : List Int
def endL (L : Lg) : Int := L.base + L.buf.length
def roomL (L : Lg) : Int := (L.start / 480 + L.count) * 480 - endL L - L.held
structure LgOk (L : Lg) : Prop where
  pos : 0 ≤ L.pos ∧ L.pos ≤ 4096
  count : 4 ≤ L.count ∧ L.count ≤ 4096
  epoch : 0 ≤ L.epoch ∧ L.epoch < 1099511627776
  start : 0 ≤ L.start ∧ L.start ≤ L.sure
  check : 0 ≤ L.check ∧ L.check ≤ L.sure
  sure : L.sure ≤ endL L
  held : 0 ≤ L.held ∧ L.held ≤ 1099511627776
  base : 0 ≤ L.base ∧ L.base ≤ 1099511627776
  buf : L.buf.length ≤ 16777216
  room : endL L + L.held ≤ (L.start / 480 + L.count) * 480
/-- .. in the heap: its buffer is its own. -/
structure LgH (w : World) (base d g : Nat) (bA : Option Addr) (bc : Nat) (L : Lg) : Prop where
  at_ : At w g #[.pointer (some ⟨d, 0, none⟩), .int .i64 L.pos, .int .i64 L.count, .int .u64 L.epoch, .int .u64 L.start, .int .u64 L.check, .int .u64 L.sure, .int .i64 L.held, .int .u64 L.base, .slice bA L.buf.length bc] 95
  buf : OwB w base bA L.buf.length bc L.buf
  hg : base ≤ g
  ok : LgOk L
theorem LgH.later {w w' : World} {base d g bc : Nat} {bA : Option Addr} {L : Lg} (h : LgH w base d g bA bc L) (hb : Below w.heap.size w w') : LgH w' base d g bA bc L :=
  ⟨At.keep hb h.at_, h.buf.later hb, h.hg, h.ok⟩
theorem lsure_calls {base d g bc : Nat} {bA : Option Addr} {L : Lg} (w : World) (h : LgH w base d g bA bc L) : Calls Try.prog 32 #[.pointer (some ⟨g, 0, none⟩)] w fun e w' => e = .returned (.int .u64 L.sure) ∧ w = w' := by
  have k0 := h.at_
  have k0c := k0.c; have k0f := k0.f; have k0l := k0.lt
  go_enter Try.func32, Try.ntmps32
  go_wp2
  go_ret
  exact ⟨rfl, rfl⟩
theorem lstart_calls {base d g bc : Nat} {bA : Option Addr} {L : Lg} (w : World) (h : LgH w base d g bA bc L) : Calls Try.prog 33 #[.pointer (some ⟨g, 0, none⟩)] w fun e w' => e = .returned (.int .u64 L.start) ∧ w = w' := by
  have k0 := h.at_
  have k0c := k0.c; have k0f := k0.f; have k0l := k0.lt
  go_enter Try.func33, Try.ntmps33
  go_wp2
  go_ret
  exact ⟨rfl, rfl⟩
theorem lcheck_calls {base d g bc : Nat} {bA : Option Addr} {L : Lg} (w : World) (h : LgH w base d g bA bc L) : Calls Try.prog 34 #[.pointer (some ⟨g, 0, none⟩)] w fun e w' => e = .returned (.int .u64 L.check) ∧ w = w' := by
  have k0 := h.at_
  have k0c := k0.c; have k0f := k0.f; have k0l := k0.lt
  go_enter Try.func34, Try.ntmps34
  go_wp2
  go_ret
  exact ⟨rfl, rfl⟩
theorem lheld_calls {base d g bc : Nat} {bA : Option Addr} {L : Lg} (w : World) (h : LgH w base d g bA bc L) : Calls Try.prog 17 #[.pointer (some ⟨g, 0, none⟩)] w fun e w' => e = .returned (.int .i64 L.held) ∧ w = w' := by
  have k0 := h.at_
  have k0c := k0.c; have k0f := k0.f; have k0l := k0.lt
  go_enter Try.func17, Try.ntmps17
  go_wp2
  go_ret
  exact ⟨rfl, rfl⟩
theorem LgH.drewN {w : World} {base d g bc : Nat} {bA : Option Addr} {L : Lg} (h : LgH w base d g bA bc L) (k : Nat) : LgH (w.drewN k) base d g bA bc L := h.later (below_drewN (Below.refl _ _) k)
/-- The place behind the last record, of a log that is there; it only draws. -/
theorem lend_q {base d g bc : Nat} {bA : Option Addr} {L : Lg} (w : World) (v : Int) (h : LgH w base d g bA bc L) (hv : endL L = v) : Calls Try.prog 31 #[.pointer (some ⟨g, 0, none⟩)] w fun e w' => e = .returned (.int .u64 v) ∧ ∃ k, w' = w.drewN k := by
  have k0 := h.at_
  have h1 := h.ok.base
  have h2 := h.ok.buf
  have e1 : (0 : Int) ≤ L.buf.length := by omega
  have e2 : (L.buf.length : Int) ≤ 16777216 := by omega
  unfold endL at hv
  generalize L.buf.length = n at *
  generalize L.base = b at *
  have hz : IntKind.u64.wrap (n : Int) = n := IntWalk.u64_in _ (by omega)
  have hz2 : IntKind.u64.wrap (b + (n : Int)) = b + n := IntWalk.u64_in _ (by omega)
  have hvx := Lib.hid hv
  have k0c := k0.c; have k0f := k0.f; have k0l := k0.lt
  clear h hv
  go_enter Try.func31, Try.ntmps31
  go_upto_region 3 with (fail)
  go_quiet (fail)
  go_wp2
  go_ret
  exact ⟨by rw [← hvx.out]; first | rfl | simp, _, rfl⟩
theorem lend_calls {base d g bc : Nat} {bA : Option Addr} {L : Lg} (w : World) (h : LgH w base d g bA bc L) : Calls Try.prog 31 #[.pointer (some ⟨g, 0, none⟩)] w fun e w' => e = .returned (.int .u64 (endL L)) ∧ ∃ k, w' = w.drewN k := lend_q w _ h rfl
theorem lroom_q {base d g bc : Nat} {bA : Option Addr} {L : Lg} (w : World) (v : Int) (h : LgH w base d g bA bc L) (hv : roomL L = v) : Calls Try.prog 16 #[.pointer (some ⟨g, 0, none⟩)] w fun e w' => e = .returned (.int .i64 v) ∧ ∃ k, w' = w.drewN k := by
  have k0 := h.at_
  have h1 := h.ok.base
  have h2 := h.ok.buf
  have h3 := h.ok.start
  have h4 := h.ok.count
  have h5 := h.ok.held
  have h6 := h.ok.room
  have h7 := h.ok.sure
  have hen : endL L = L.base + L.buf.length := rfl
  unfold roomL at hv
  obtain ⟨en, hene⟩ : ∃ en, endL L = en := ⟨_, rfl⟩
  have hex := Lib.hid hene
  have hhx := Lib.hid h
  rw [hene] at h6 h7 hen hv
  obtain ⟨q, hq⟩ : ∃ q, L.start / 480 = q := ⟨_, rfl⟩
  have hst : L.start.tdiv 480 = q := by rw [Int.tdiv_eq_ediv_of_nonneg h3.1, hq]
  have hq0 : 0 ≤ q ∧ q ≤ 1099511627776 := by omega
  rw [hq] at h6 hv
  have z1 : IntKind.u64.wrap L.count = L.count := IntWalk.u64_in _ (by omega)
  have z2 : IntKind.u64.wrap (q + L.count) = q + L.count := IntWalk.u64_in _ (by omega)
  have z3 : IntKind.u64.wrap ((q + L.count) * 480) = (q + L.count) * 480 := IntWalk.u64_in _ (by omega)
  have z4 : IntKind.u64.wrap ((q + L.count) * 480 - en) = (q + L.count) * 480 - en := IntWalk.u64_in _ (by omega)
  have z5 : IntKind.i64.wrap ((q + L.count) * 480 - en) = (q + L.count) * 480 - en := IntWalk.i64_in _ (by omega)
  have z6 : IntKind.i64.wrap ((q + L.count) * 480 - en - L.held) = (q + L.count) * 480 - en - L.held := IntWalk.i64_in _ (by omega)
  have hvx := Lib.hid hv
  have hhenx := Lib.hid hen
  have k0c := k0.c; have k0f := k0.f; have k0l := k0.lt
  clear h hv hen hene h1 h2
  go_enter Try.func16, Try.ntmps16
  go_upto_region 3 with (fail)
  go_quiet ((go_at_call 31; with_reducible exact Calls.quiet_of (lend_q _ en (hhx.out.drewN _) hex.out)))
  go_wp2
  go_ret
  exact ⟨by rw [← hvx.out]; first | rfl | simp, _, rfl⟩
end Go.Proofs.Ytnehppeoffemlaa
