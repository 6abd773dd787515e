/- The log's put by its contract. -/
import Derived.Test.YtnehppeoffemlaaLogA
namespace Go.Proofs.Ytnehppeoffemlaa
set_option linter.unusedVariables false
set_option linter.unusedSimpArgs false
open Go.RowKit
def two2 (n : Nat) : List Int := [(n : Int) / 256, (n : Int) % 256]
def putL (L : Lg) (p : List Int) : Lg := { L with buf := L.buf ++ two2 p.length ++ p }
theorem putL_len (L : Lg) (p : List Int) : (putL L p).buf.length = L.buf.length + 2 + p.length := by show (L.buf ++ two2 p.length ++ p).length = _; simp [two2]; omega
def LFoot (g : Nat) (bA : Option Addr) (k : Nat) : Prop := k = g ∨ ownBlk bA = some k
theorem LgH.neb {w : World} {base d g bc : Nat} {bA : Option Addr} {L : Lg} (h : LgH w base d g bA bc L) : ownBlk bA ≠ some g := by
  intro hb
  rcases h.buf.2.2.2 with ⟨hv, _⟩ | ⟨g2, cap, cur, hv, _, hh, _⟩
  · injection hv with h1; subst h1; cases hb
  · injection hv with h1; subst h1
    have : g2 = g := by simpa [ownBlk] using hb
    subst this
    have hat := h.at_
    unfold At at hat
    rw [hh] at hat
    injection hat with hat
    injection hat with _ hat
    exact absurd hat (by decide)
theorem BsR.apart {w w' : World} {lo hi n : Nat} {A : Option Addr} {l : List Int} {row : Option Nat} (h : BsR w lo hi A n l) (hg : w.grownBy w' row) (hne : 0 < n → ∀ b, ownBlk A = some b → row ≠ some b) (hh : hi ≤ w.heap.size) : BsR w' lo hi A n l := by
  refine ⟨h.1, h.2.1, fun hm => ?_⟩
  obtain ⟨gb, go', rfl, h1, h2, h3⟩ := h.2.2 hm
  exact ⟨gb, go', rfl, h1, h2, fun j hj => (World.cell?_of_block (a := ⟨gb, go' + j, none⟩) (hg.block gb (by omega) (fun e => hne hm gb rfl e.symm))).trans (h3 j hj)⟩
theorem ownBlk_set {w : World} {base g o n c : Nat} {A : Option Addr} {l : List Int} {v : Value} (h : OwB w base A n c l) (hne : some g ≠ ownBlk A) : OwB (w.setCell ⟨g, o, none⟩ v) base A n c l :=
  h.kept (row := some g) ((Mod.refl (fun k => k = g) w).set (.inl rfl) v |> fun m => ⟨m.os, m.tape, m.output, m.size, fun k hk hn => m.block k hk (fun e => hn (by rw [e]))⟩) (.inr (Ne.symm hne))
set_option maxRecDepth 100000 in
set_option maxHeartbeats 4000000 in
theorem lput_calls {base d g bc n c : Nat} {bA A : Option Addr} {L : Lg} {p : List Int} (w : World) (h : LgH w base d g bA bc L) (hbw : base ≤ w.heap.size) (hp : BsR w 0 w.heap.size A n p) (hpd : 0 < n → ∀ b, ownBlk A = some b → ¬ LFoot g bA b) (hn : n ≤ 1200) (hok : LgOk (putL L p)) :
    Calls Try.prog 60 #[.pointer (some ⟨g, 0, none⟩), .slice A n c] w fun e w' => e = .returned (.int .u64 (endL L)) ∧ (∃ bA' bc', LgH w' base d g bA' bc' (putL L p) ∧ ∀ b, ownBlk bA' = some b → ownBlk bA = some b ∨ w.heap.size ≤ b) ∧ Mod (LFoot g bA) w w' := by
  have hln := hp.1
  have hbuf := h.ok.buf
  have hneb := h.neb
  go_enter Try.func60, Try.ntmps60
  go_wp2_with fail
  refine (lend_calls w h).mono ?_
  rintro e w1 ⟨rfl, kd, hkd⟩
  have hB1 : Below w.heap.size w w1 := by rw [hkd]; exact below_drewN (Below.refl _ _) kd
  have h1 := h.later hB1
  have hs1 := hB1.size
  have hp1 := hp.below hB1 (Nat.le_refl _)
  have k1 := h1.at_
  have hi0 : (0 : Int) ≤ n := by omega
  have hw1 : IntKind.u8.wrap ((n : Int) / 256) = (n : Int) / 256 := IntWalk.u8_in _ (by omega)
  have hbo := h1.buf
  clear hkd h
  have k1c := k1.c; have k1f := k1.f; have k1l := k1.lt
  go_upto_region 2 with (fail)
  go_wp2_with (first
    | (at_builtin; refine wpList_app rfl (.tmp 12) (.tmp 20) rfl base L.buf.length bc bA L.buf rfl (hbo.alloc _) _ _ 2 2 (some ⟨w1.heap.size, 0, none⟩) [(n : Int) / 256, (n : Int) % 256] rfl (BsR.of_at (l := [(n : Int) / 256, (n : Int) % 256]) (At.new w1 _ _) rfl (Byt.cons (by omega) (by omega) (Byt.cons (by omega) (by omega) Byt.nil))) (by omega) (by have := ge_new w1 (.cells #[.int .u8 ((n : Int) / 256), .int .u8 ((n : Int) % 256)] 5); omega) ?_; intro A2 c2 w2 ho2 hg2 hb2 hat2; have k2 := At.grown (k1.alloc _) hg2 (Ne.symm hneb); have k2c := k2.c; have k2f := k2.f; have k2l := k2.lt; have hp2 := BsR.apart (hp1.below (below_new w1 (.cells #[.int .u8 ((n : Int) / 256), .int .u8 ((n : Int) % 256)] 5)) hs1) hg2 (fun hm b hb e => hpd hm b hb (.inr e)) (Nat.le_trans hs1 (ge_new _ _)); have m2 := ((Mod.of_below (S := LFoot g bA) hB1).alloc (.cells #[.int .u8 ((n : Int) / 256), .int .u8 ((n : Int) % 256)] 5)).grown hg2 (fun k hk => .inl (.inr hk)); have hs2 := m2.size)
    | (at_builtin; refine wpList_app rfl (.tmp 21) (.tmp 22) rfl base (L.buf.length + 2) c2 A2 _ rfl ho2 0 w.heap.size n c A p rfl hp2 (by omega) (by omega) ?_; intro A3 c3 w3 ho3 hg3 hb3 hat3; have hne2 : some g ≠ ownBlk A2 := ne_next hat2 (Ne.symm hneb) (k1.alloc _).lt; have k3 := At.grown k2 hg3 hne2; have k3c := k3.c; have k3f := k3.f; have k3l := k3.lt; have m3 := m2.grown hg3 (fun k hk => hat2.elim (fun e => .inl (.inr (e.symm.trans hk))) (fun e => .inr (by have e2 := e.symm.trans hk; injection e2 with e2; rw [← e2]; simp only [World.size_alloc]; omega))))
    | fail)
  have hne3 : some g ≠ ownBlk A3 := ne_next hat3 hne2 k2l
  go_ret
  refine ⟨by first | rfl | simp, ⟨A3, c3, ⟨?_, ?_, h1.hg, hok⟩, ?_⟩, m3.set (.inl (.inl rfl)) _⟩
  · have k4 := k3.set (o := 9) (v := .slice A3 (L.buf.length + 2 + n) c3)
    rw [putL_len, hln]
    exact k4
  · have e : (putL L p).buf = L.buf ++ [(n : Int) / 256, (n : Int) % 256] ++ p := by show L.buf ++ two2 p.length ++ p = _; rw [hln]; rfl
    rw [putL_len, hln, e]
    exact ownBlk_set ho3 hne3
  · intro b hb
    rcases hat3 with e | e
    · rcases hat2 with e2 | e2
      · exact .inl (by rw [← e2, ← e, hb])
      · refine .inr ?_
        have e3 := e2.symm.trans (e.symm.trans hb)
        injection e3 with e3
        rw [← e3]; simp only [World.size_alloc]; omega
    · refine .inr ?_
      have e3 := e.symm.trans hb
      injection e3 with e3
      omega
end Go.Proofs.Ytnehppeoffemlaa
