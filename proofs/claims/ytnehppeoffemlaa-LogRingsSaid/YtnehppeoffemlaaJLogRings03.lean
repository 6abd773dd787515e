/- Joined texts: LogA, LogB. -/
import Derived.Test.YtnehppeoffemlaaJLogRings02
import Derived.BigQuiet
import Derived.Deep.QuietTactic
/- The log's small methods by their contracts: of a nil log, and of one that is there. -/
namespace Go.Proofs.Ytnehppeoffemlaa
set_option linter.unusedVariables false
set_option linter.unusedSimpArgs false
open Go.RowKit
theorem lend_nil  (w : World) : Calls Try.prog 31 #[.pointer none] w fun e w' => e = .returned (.int .u64 0) ∧ w = w' := by
  go_enter Try.func31, Try.ntmps31
  go_wp2
  go_ret
  exact ⟨rfl, rfl⟩
theorem lsure_nil  (w : World) : Calls Try.prog 32 #[.pointer none] w fun e w' => e = .returned (.int .u64 0) ∧ w = w' := by
  go_enter Try.func32, Try.ntmps32
  go_wp2
  go_ret
  exact ⟨rfl, rfl⟩
theorem lstart_nil  (w : World) : Calls Try.prog 33 #[.pointer none] w fun e w' => e = .returned (.int .u64 0) ∧ w = w' := by
  go_enter Try.func33, Try.ntmps33
  go_wp2
  go_ret
  exact ⟨rfl, rfl⟩
theorem lcheck_nil  (w : World) : Calls Try.prog 34 #[.pointer none] w fun e w' => e = .returned (.int .u64 0) ∧ w = w' := by
  go_enter Try.func34, Try.ntmps34
  go_wp2
  go_ret
  exact ⟨rfl, rfl⟩
theorem lroom_nil  (w : World) : Calls Try.prog 16 #[.pointer none] w fun e w' => e = .returned (.int .i64 0) ∧ w = w' := by
  go_enter Try.func16, Try.ntmps16
  go_wp2
  go_ret
  exact ⟨rfl, rfl⟩
theorem lheld_nil  (w : World) : Calls Try.prog 17 #[.pointer none] w fun e w' => e = .returned (.int .i64 0) ∧ w = w' := by
  go_enter Try.func17, Try.ntmps17
  go_wp2
  go_ret
  exact ⟨rfl, rfl⟩
theorem lrelease_nil (n : Int) (w : World) : Calls Try.prog 29 #[.pointer none, .int .i64 n] w fun e w' => e = .returned (.int .i64 6) ∧ w = w' := by
  go_enter Try.func29, Try.ntmps29
  go_wp2
  go_ret
  exact ⟨rfl, rfl⟩
theorem lflush_nil  (w : World) : Calls Try.prog 19 #[.pointer none] w fun e w' => e = .returned (.int .i64 6) ∧ w = w' := by
  go_enter Try.func19, Try.ntmps19
  go_wp2
  go_ret
  exact ⟨rfl, rfl⟩
theorem lmark_nil (a b : Int) (w : World) : Calls Try.prog 21 #[.pointer none, .int .u64 a, .int .u64 b] w fun e w' => e = .returned (.int .i64 6) ∧ w = w' := by
  go_enter Try.func21, Try.ntmps21
  go_wp2
  go_ret
  exact ⟨rfl, rfl⟩
theorem lappend_nil (A : Option Addr) (n c : Nat) (h : Int) (w : World) : Calls Try.prog 15 #[.pointer none, .slice A n c, .int .i64 h] w fun e w' => e = .returned (.tuple #[.int .u64 0, .int .i64 6]) ∧ w = w' := by
  go_enter Try.func15, Try.ntmps15
  go_wp2
  go_ret2
  exact ⟨rfl, rfl⟩
theorem lspend_nil (A : Option Addr) (n c : Nat) (w : World) : Calls Try.prog 18 #[.pointer none, .slice A n c] w fun e w' => e = .returned (.tuple #[.int .u64 0, .int .i64 6]) ∧ w = w' := by
  go_enter Try.func18, Try.ntmps18
  go_wp2
  go_ret2
  exact ⟨rfl, rfl⟩
theorem lread_nil (a : Int) (w : World) : Calls Try.prog 30 #[.pointer none, .int .u64 a] w fun e w' => e = .returned (.tuple #[.slice none 0 0, .int .u64 0, .int .i64 6]) ∧ w = w' := by
  go_enter Try.func30, Try.ntmps30
  go_wp2
  go_ret3
  exact ⟨rfl, rfl⟩
theorem llook_nil (a c : Int) (w : World) : Calls Try.prog 64 #[.pointer none, .int .i64 a, .int .i64 c] w fun e w' => e = .returned (.int .i64 6) ∧ w = w' := by
  go_enter Try.func64, Try.ntmps64
  go_wp2
  go_ret
  exact ⟨rfl, rfl⟩
/-- A log in plain terms. -/
structure Lg where
  pos : Int
  count : Int
  epoch : Int
  start : Int
  check : Int
  sure : Int
  held : Int
  base : Int
  buf : List Int
def endL (L : Lg) : Int := L.base + L.buf.length
def roomL (L : Lg) : Int := (L.start / 480 + L.count) * 480 - endL L - L.held
structure LgOk (L : Lg) : Prop where
  pos : 0 ≤ L.pos ∧ L.pos ≤ 4096
  count : 4 ≤ L.count ∧ L.count ≤ 4096
  epoch : 0 ≤ L.epoch ∧ L.epoch < 1099511627776
  start : 0 ≤ L.start ∧ L.start ≤ L.sure
  check : 0 ≤ L.check ∧ L.check ≤ L.sure
  sure : L.sure ≤ endL L
  held : 0 ≤ L.held ∧ L.held ≤ 1099511627776
  base : 0 ≤ L.base ∧ L.base ≤ 1099511627776
  buf : L.buf.length ≤ 16777216
  room : endL L + L.held ≤ (L.start / 480 + L.count) * 480
/-- .. in the heap: its buffer is its own. -/
structure LgH (w : World) (base d g : Nat) (bA : Option Addr) (bc : Nat) (L : Lg) : Prop where
  at_ : At w g #[.pointer (some ⟨d, 0, none⟩), .int .i64 L.pos, .int .i64 L.count, .int .u64 L.epoch, .int .u64 L.start, .int .u64 L.check, .int .u64 L.sure, .int .i64 L.held, .int .u64 L.base, .slice bA L.buf.length bc] 95
  buf : OwB w base bA L.buf.length bc L.buf
  hg : base ≤ g
  ok : LgOk L
theorem LgH.later {w w' : World} {base d g bc : Nat} {bA : Option Addr} {L : Lg} (h : LgH w base d g bA bc L) (hb : Below w.heap.size w w') : LgH w' base d g bA bc L :=
  ⟨At.keep hb h.at_, h.buf.later hb, h.hg, h.ok⟩
theorem lsure_calls {base d g bc : Nat} {bA : Option Addr} {L : Lg} (w : World) (h : LgH w base d g bA bc L) : Calls Try.prog 32 #[.pointer (some ⟨g, 0, none⟩)] w fun e w' => e = .returned (.int .u64 L.sure) ∧ w = w' := by
  have k0 := h.at_
  have k0c := k0.c; have k0f := k0.f; have k0l := k0.lt
  go_enter Try.func32, Try.ntmps32
  go_wp2
  go_ret
  exact ⟨rfl, rfl⟩
theorem lstart_calls {base d g bc : Nat} {bA : Option Addr} {L : Lg} (w : World) (h : LgH w base d g bA bc L) : Calls Try.prog 33 #[.pointer (some ⟨g, 0, none⟩)] w fun e w' => e = .returned (.int .u64 L.start) ∧ w = w' := by
  have k0 := h.at_
  have k0c := k0.c; have k0f := k0.f; have k0l := k0.lt
  go_enter Try.func33, Try.ntmps33
  go_wp2
  go_ret
  exact ⟨rfl, rfl⟩
theorem lcheck_calls {base d g bc : Nat} {bA : Option Addr} {L : Lg} (w : World) (h : LgH w base d g bA bc L) : Calls Try.prog 34 #[.pointer (some ⟨g, 0, none⟩)] w fun e w' => e = .returned (.int .u64 L.check) ∧ w = w' := by
  have k0 := h.at_
  have k0c := k0.c; have k0f := k0.f; have k0l := k0.lt
  go_enter Try.func34, Try.ntmps34
  go_wp2
  go_ret
  exact ⟨rfl, rfl⟩
theorem lheld_calls {base d g bc : Nat} {bA : Option Addr} {L : Lg} (w : World) (h : LgH w base d g bA bc L) : Calls Try.prog 17 #[.pointer (some ⟨g, 0, none⟩)] w fun e w' => e = .returned (.int .i64 L.held) ∧ w = w' := by
  have k0 := h.at_
  have k0c := k0.c; have k0f := k0.f; have k0l := k0.lt
  go_enter Try.func17, Try.ntmps17
  go_wp2
  go_ret
  exact ⟨rfl, rfl⟩
theorem LgH.drewN {w : World} {base d g bc : Nat} {bA : Option Addr} {L : Lg} (h : LgH w base d g bA bc L) (k : Nat) : LgH (w.drewN k) base d g bA bc L := h.later (below_drewN (Below.refl _ _) k)
/-- The place behind the last record, of a log that is there; it only draws. -/
theorem lend_q {base d g bc : Nat} {bA : Option Addr} {L : Lg} (w : World) (v : Int) (h : LgH w base d g bA bc L) (hv : endL L = v) : Calls Try.prog 31 #[.pointer (some ⟨g, 0, none⟩)] w fun e w' => e = .returned (.int .u64 v) ∧ ∃ k, w' = w.drewN k := by
  have k0 := h.at_
  have h1 := h.ok.base
  have h2 := h.ok.buf
  have e1 : (0 : Int) ≤ L.buf.length := by omega
  have e2 : (L.buf.length : Int) ≤ 16777216 := by omega
  unfold endL at hv
  generalize L.buf.length = n at *
  generalize L.base = b at *
  have hz : IntKind.u64.wrap (n : Int) = n := IntWalk.u64_in _ (by omega)
  have hz2 : IntKind.u64.wrap (b + (n : Int)) = b + n := IntWalk.u64_in _ (by omega)
  have hvx := Lib.hid hv
  have k0c := k0.c; have k0f := k0.f; have k0l := k0.lt
  clear h hv
  go_enter Try.func31, Try.ntmps31
  go_upto_region 3 with (fail)
  go_quiet (fail)
  go_wp2
  go_ret
  exact ⟨by rw [← hvx.out]; first | rfl | simp, _, rfl⟩
theorem lend_calls {base d g bc : Nat} {bA : Option Addr} {L : Lg} (w : World) (h : LgH w base d g bA bc L) : Calls Try.prog 31 #[.pointer (some ⟨g, 0, none⟩)] w fun e w' => e = .returned (.int .u64 (endL L)) ∧ ∃ k, w' = w.drewN k := lend_q w _ h rfl
theorem lroom_q {base d g bc : Nat} {bA : Option Addr} {L : Lg} (w : World) (v : Int) (h : LgH w base d g bA bc L) (hv : roomL L = v) : Calls Try.prog 16 #[.pointer (some ⟨g, 0, none⟩)] w fun e w' => e = .returned (.int .i64 v) ∧ ∃ k, w' = w.drewN k := by
  have k0 := h.at_
  have h1 := h.ok.base
  have h2 := h.ok.buf
  have h3 := h.ok.start
  have h4 := h.ok.count
  have h5 := h.ok.held
  have h6 := h.ok.room
  have h7 := h.ok.sure
  have hen : endL L = L.base + L.buf.length := rfl
  unfold roomL at hv
  obtain ⟨en, hene⟩ : ∃ en, endL L = en := ⟨_, rfl⟩
  have hex := Lib.hid hene
  have hhx := Lib.hid h
  rw [hene] at h6 h7 hen hv
  obtain ⟨q, hq⟩ : ∃ q, L.start / 480 = q := ⟨_, rfl⟩
  have hst : L.start.tdiv 480 = q := by rw [Int.tdiv_eq_ediv_of_nonneg h3.1, hq]
  have hq0 : 0 ≤ q ∧ q ≤ 1099511627776 := by omega
  rw [hq] at h6 hv
  have z1 : IntKind.u64.wrap L.count = L.count := IntWalk.u64_in _ (by omega)
  have z2 : IntKind.u64.wrap (q + L.count) = q + L.count := IntWalk.u64_in _ (by omega)
  have z3 : IntKind.u64.wrap ((q + L.count) * 480) = (q + L.count) * 480 := IntWalk.u64_in _ (by omega)
  have z4 : IntKind.u64.wrap ((q + L.count) * 480 - en) = (q + L.count) * 480 - en := IntWalk.u64_in _ (by omega)
  have z5 : IntKind.i64.wrap ((q + L.count) * 480 - en) = (q + L.count) * 480 - en := IntWalk.i64_in _ (by omega)
  have z6 : IntKind.i64.wrap ((q + L.count) * 480 - en - L.held) = (q + L.count) * 480 - en - L.held := IntWalk.i64_in _ (by omega)
  have hvx := Lib.hid hv
  have hhenx := Lib.hid hen
  have k0c := k0.c; have k0f := k0.f; have k0l := k0.lt
  clear h hv hen hene h1 h2
  go_enter Try.func16, Try.ntmps16
  go_upto_region 3 with (fail)
  go_quiet ((go_at_call 31; with_reducible exact Calls.quiet_of (lend_q _ en (hhx.out.drewN _) hex.out)))
  go_wp2
  go_ret
  exact ⟨by rw [← hvx.out]; first | rfl | simp, _, rfl⟩
end Go.Proofs.Ytnehppeoffemlaa
/- The log's put by its contract. -/
namespace Go.Proofs.Ytnehppeoffemlaa
set_option linter.unusedVariables false
set_option linter.unusedSimpArgs false
open Go.RowKit
def two2 (n : Nat) : List Int := [(n : Int) / 256, (n : Int) % 256]
def putL (L : Lg) (p : List Int) : Lg := { L with buf := L.buf ++ two2 p.length ++ p }
theorem putL_len (L : Lg) (p : List Int) : (putL L p).buf.length = L.buf.length + 2 + p.length := by show (L.buf ++ two2 p.length ++ p).length = _; simp [two2]; omega
def LFoot (g : Nat) (bA : Option Addr) (k : Nat) : Prop := k = g ∨ ownBlk bA = some k
theorem LgH.neb {w : World} {base d g bc : Nat} {bA : Option Addr} {L : Lg} (h : LgH w base d g bA bc L) : ownBlk bA ≠ some g := by
  intro hb
  rcases h.buf.2.2.2 with ⟨hv, _⟩ | ⟨g2, cap, cur, hv, _, hh, _⟩
  · injection hv with h1; subst h1; cases hb
  · injection hv with h1; subst h1
    have : g2 = g := by simpa [ownBlk] using hb
    subst this
    have hat := h.at_
    unfold At at hat
    rw [hh] at hat
    injection hat with hat
    injection hat with _ hat
    exact absurd hat (by decide)
theorem BsR.apart {w w' : World} {lo hi n : Nat} {A : Option Addr} {l : List Int} {row : Option Nat} (h : BsR w lo hi A n l) (hg : w.grownBy w' row) (hne : 0 < n → ∀ b, ownBlk A = some b → row ≠ some b) (hh : hi ≤ w.heap.size) : BsR w' lo hi A n l := by
  refine ⟨h.1, h.2.1, fun hm => ?_⟩
  obtain ⟨gb, go', rfl, h1, h2, h3⟩ := h.2.2 hm
  exact ⟨gb, go', rfl, h1, h2, fun j hj => (World.cell?_of_block (a := ⟨gb, go' + j, none⟩) (hg.block gb (by omega) (fun e => hne hm gb rfl e.symm))).trans (h3 j hj)⟩
theorem ownBlk_set {w : World} {base g o n c : Nat} {A : Option Addr} {l : List Int} {v : Value} (h : OwB w base A n c l) (hne : some g ≠ ownBlk A) : OwB (w.setCell ⟨g, o, none⟩ v) base A n c l :=
  h.kept (row := some g) ((Mod.refl (fun k => k = g) w).set (.inl rfl) v |> fun m => ⟨m.os, m.tape, m.output, m.size, fun k hk hn => m.block k hk (fun e => hn (by rw [e]))⟩) (.inr (Ne.symm hne))
set_option maxRecDepth 100000 in
set_option maxHeartbeats 4000000 in
theorem lput_calls {base d g bc n c : Nat} {bA A : Option Addr} {L : Lg} {p : List Int} (w : World) (h : LgH w base d g bA bc L) (hbw : base ≤ w.heap.size) (hp : BsR w 0 w.heap.size A n p) (hpd : 0 < n → ∀ b, ownBlk A = some b → ¬ LFoot g bA b) (hn : n ≤ 1200) (hok : LgOk (putL L p)) :
    Calls Try.prog 60 #[.pointer (some ⟨g, 0, none⟩), .slice A n c] w fun e w' => e = .returned (.int .u64 (endL L)) ∧ (∃ bA' bc', LgH w' base d g bA' bc' (putL L p) ∧ ∀ b, ownBlk bA' = some b → ownBlk bA = some b ∨ w.heap.size ≤ b) ∧ Mod (LFoot g bA) w w' := by
  have hln := hp.1
  have hbuf := h.ok.buf
  have hneb := h.neb
  go_enter Try.func60, Try.ntmps60
  go_wp2_with fail
  refine (lend_calls w h).mono ?_
  rintro e w1 ⟨rfl, kd, hkd⟩
  have hB1 : Below w.heap.size w w1 := by rw [hkd]; exact below_drewN (Below.refl _ _) kd
  have h1 := h.later hB1
  have hs1 := hB1.size
  have hp1 := hp.below hB1 (Nat.le_refl _)
  have k1 := h1.at_
  have hi0 : (0 : Int) ≤ n := by omega
  have hw1 : IntKind.u8.wrap ((n : Int) / 256) = (n : Int) / 256 := IntWalk.u8_in _ (by omega)
  have hbo := h1.buf
  clear hkd h
  have k1c := k1.c; have k1f := k1.f; have k1l := k1.lt
  go_upto_region 2 with (fail)
  go_wp2_with (first
    | (at_builtin; refine wpList_app rfl (.tmp 12) (.tmp 20) rfl base L.buf.length bc bA L.buf rfl (hbo.alloc _) _ _ 2 2 (some ⟨w1.heap.size, 0, none⟩) [(n : Int) / 256, (n : Int) % 256] rfl (BsR.of_at (l := [(n : Int) / 256, (n : Int) % 256]) (At.new w1 _ _) rfl (Byt.cons (by omega) (by omega) (Byt.cons (by omega) (by omega) Byt.nil))) (by omega) (by have := ge_new w1 (.cells #[.int .u8 ((n : Int) / 256), .int .u8 ((n : Int) % 256)] 5); omega) ?_; intro A2 c2 w2 ho2 hg2 hb2 hat2; have k2 := At.grown (k1.alloc _) hg2 (Ne.symm hneb); have k2c := k2.c; have k2f := k2.f; have k2l := k2.lt; have hp2 := BsR.apart (hp1.below (below_new w1 (.cells #[.int .u8 ((n : Int) / 256), .int .u8 ((n : Int) % 256)] 5)) hs1) hg2 (fun hm b hb e => hpd hm b hb (.inr e)) (Nat.le_trans hs1 (ge_new _ _)); have m2 := ((Mod.of_below (S := LFoot g bA) hB1).alloc (.cells #[.int .u8 ((n : Int) / 256), .int .u8 ((n : Int) % 256)] 5)).grown hg2 (fun k hk => .inl (.inr hk)); have hs2 := m2.size)
    | (at_builtin; refine wpList_app rfl (.tmp 21) (.tmp 22) rfl base (L.buf.length + 2) c2 A2 _ rfl ho2 0 w.heap.size n c A p rfl hp2 (by omega) (by omega) ?_; intro A3 c3 w3 ho3 hg3 hb3 hat3; have hne2 : some g ≠ ownBlk A2 := ne_next hat2 (Ne.symm hneb) (k1.alloc _).lt; have k3 := At.grown k2 hg3 hne2; have k3c := k3.c; have k3f := k3.f; have k3l := k3.lt; have m3 := m2.grown hg3 (fun k hk => hat2.elim (fun e => .inl (.inr (e.symm.trans hk))) (fun e => .inr (by have e2 := e.symm.trans hk; injection e2 with e2; rw [← e2]; simp only [World.size_alloc]; omega))))
    | fail)
  have hne3 : some g ≠ ownBlk A3 := ne_next hat3 hne2 k2l
  go_ret
  refine ⟨by first | rfl | simp, ⟨A3, c3, ⟨?_, ?_, h1.hg, hok⟩, ?_⟩, m3.set (.inl (.inl rfl)) _⟩
  · have k4 := k3.set (o := 9) (v := .slice A3 (L.buf.length + 2 + n) c3)
    rw [putL_len, hln]
    exact k4
  · have e : (putL L p).buf = L.buf ++ [(n : Int) / 256, (n : Int) % 256] ++ p := by show L.buf ++ two2 p.length ++ p = _; rw [hln]; rfl
    rw [putL_len, hln, e]
    exact ownBlk_set ho3 hne3
  · intro b hb
    rcases hat3 with e | e
    · rcases hat2 with e2 | e2
      · exact .inl (by rw [← e2, ← e, hb])
      · refine .inr ?_
        have e3 := e2.symm.trans (e.symm.trans hb)
        injection e3 with e3
        rw [← e3]; simp only [World.size_alloc]; omega
    · refine .inr ?_
      have e3 := e.symm.trans hb
      injection e3 with e3
      omega
end Go.Proofs.Ytnehppeoffemlaa
