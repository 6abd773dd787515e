/- Joined texts: PpR, PpS, PpT. -/
import Derived.Test.YtggeepihkeocmaaJPlays38
import Derived.Test.YtggeepihkeocmaaJPlays39
import Derived.Test.YtggeepihkeocmaaJPlays40
/- PoolPlays: do, of any kind; the acts that are an argument, opened. -/
namespace Go.Proofs.Ytggeepihkeocmaa
set_option linter.unusedVariables false
set_option linter.unusedSimpArgs false
open Go.ChangeShapes Go.WideShapes Go.ChangeAt Go.RowKit Go.Joins Go.Deep Go.Maps
theorem mdo_calls {base x d lb g pp b n i0 an ac : Nat} {mo : Int} {s : St} {C : Int → List Int} {pins : Int → Int} {q : Mq} {p : List Int} {aA : Option Addr} (kd pg ofs : Int) (w : World) (h : LS w base x d lb g pp b n i0 mo s C pins q) (h50 : i0 < 50) (hkd : 0 ≤ kd) (hpg : 0 ≤ pg ∧ pg ≤ 255) (hofs : 0 ≤ ofs ∧ ofs ≤ 65535) (hp : BsR w 0 base aA an p) (han : an ≤ maxLen) :
    Calls Try.prog 29 #[.pointer (some ⟨b, 0, none⟩), .pointer (some ⟨x, 0, none⟩), .agg #[.int .u8 kd, .int .u8 pg, .int .u16 ofs, .slice aA an ac], .int .i64 (n : Int)] w fun e w' => e = .returned (.bool true) ∧ LTo w w' base x d lb g pp b n (i0 + 1) mo := by
  have hm : Int.tmod kd 7 = kd % 7 := Int.tmod_eq_emod_of_nonneg hkd
  rcases (by omega : kd % 7 = 0 ∨ kd % 7 = 1 ∨ kd % 7 = 2 ∨ kd % 7 = 3 ∨ kd % 7 = 4 ∨ kd % 7 = 5 ∨ kd % 7 = 6) with h1 | h1 | h1 | h1 | h1 | h1 | h1
  · exact mdo_put0 kd pg ofs w h h50 (hm.trans h1) hpg hofs hp han
  · exact mdo_read kd pg ofs w h h50 (hm.trans h1) hpg hofs hp han
  · exact mdo_pin kd pg ofs w h h50 (hm.trans h1) hpg hofs hp han
  · exact mdo_unpin kd pg ofs w h h50 (hm.trans h1) hpg hofs hp han
  · exact mdo_flush kd pg ofs w h h50 (hm.trans h1) hpg hofs hp han
  · exact mdo_put5 kd pg ofs w h h50 (hm.trans h1) hpg hofs hp han
  · exact mdo_lfl kd pg ofs w h h50 (hm.trans h1) hpg hofs hp han
/-- A list of acts: the cells of each, and its bytes. -/
def AcP (w : World) (A : Option Addr) (n : Nat) : Prop := ∀ i, i < n → ∃ (gb go' : Nat) (kd pg ofs : Int) (aA : Option Addr) (an ac : Nat) (p : List Int), A = some ⟨gb, go', none⟩ ∧ gb < w.heap.size ∧
    w.cell? ⟨gb, go' + i * 4, none⟩ = some (.int .u8 kd) ∧ w.cell? ⟨gb, go' + i * 4 + 1, none⟩ = some (.int .u8 pg) ∧ w.cell? ⟨gb, go' + i * 4 + 2, none⟩ = some (.int .u16 ofs) ∧ w.cell? ⟨gb, go' + i * 4 + 3, none⟩ = some (.slice aA an ac) ∧
    0 ≤ kd ∧ (0 ≤ pg ∧ pg ≤ 255) ∧ (0 ≤ ofs ∧ ofs ≤ 65535) ∧ BsR w 0 w.heap.size aA an p ∧ an ≤ maxLen
section
variable {H : Type} {enc : TypeId × Value → H} {w : World} {held : Bool}
set_option maxRecDepth 100000 in
theorem open_pacts {fuel : Nat} {cs : List Value} {x : DataW H × List MemPlace} (h : DataW.trod enc Try.prog w 0 (fun _ => true) held fuel 54 cs = some x) :
    ∃ (A : Option Addr) (n c : Nat), cs = [.slice A n c] ∧ AcP w A n ∧ n ≤ c ∧ c ≤ maxLen := by
  obtain ⟨A, n, c, D, rfl, hnc, hcm, hwt, hrow⟩ := open_rows Try.underlying54 Try.underlying64 (by kernel_rfl) (by kernel_rfl) (by decide) h
  refine ⟨A, n, c, rfl, fun i hin => ?_, hnc, hcm⟩
  obtain ⟨gb, go', hA, hgb, hc⟩ := hrow (by omega)
  obtain ⟨ys, m, hD, _, hf⟩ := hc i hin
  obtain ⟨v0, y0, hc0, hy0, ht0⟩ := hf 0 _ rfl
  obtain ⟨v1, y1, hc1, hy1, ht1⟩ := hf 1 _ rfl
  obtain ⟨v2, y2, hc2, hy2, ht2⟩ := hf 2 _ rfl
  obtain ⟨v3, y3, hc3, hy3, ht3⟩ := hf 3 _ rfl
  obtain ⟨a0, q0, -, z0⟩ := DataW.trod_int Try.underlying5 ht0
  obtain ⟨a1, q1, -, z1⟩ := DataW.trod_int Try.underlying5 ht1
  obtain ⟨a2, q2, -, z2⟩ := DataW.trod_int Try.underlying62 ht2
  obtain ⟨A3, n3, m3, l3, q3, r3, b3, c3, -⟩ := open_bytes ht3
  simp at q0 q1 q2 q3
  subst q0 q1 q2 q3
  have k0 := bounds_u8 z0
  have k1 := bounds_u8 z1
  have k2 := bounds_u16 z2
  exact ⟨gb, go', a0, a1, a2, A3, n3, m3, l3, hA, hgb, hc0, hc1, hc2, hc3, by omega, by omega, by omega, r3, by omega⟩
end
theorem AcP.below {w w' : World} {A : Option Addr} {n : Nat} (h : AcP w A n) (hb : Below w.heap.size w w') : ∀ i, i < n → ∃ (gb go' : Nat) (kd pg ofs : Int) (aA : Option Addr) (an ac : Nat) (p : List Int), A = some ⟨gb, go', none⟩ ∧ gb < w.heap.size ∧
    w'.cell? ⟨gb, go' + i * 4, none⟩ = some (.int .u8 kd) ∧ w'.cell? ⟨gb, go' + i * 4 + 1, none⟩ = some (.int .u8 pg) ∧ w'.cell? ⟨gb, go' + i * 4 + 2, none⟩ = some (.int .u16 ofs) ∧ w'.cell? ⟨gb, go' + i * 4 + 3, none⟩ = some (.slice aA an ac) ∧
    0 ≤ kd ∧ (0 ≤ pg ∧ pg ≤ 255) ∧ (0 ≤ ofs ∧ ofs ≤ 65535) ∧ BsR w' 0 w.heap.size aA an p ∧ an ≤ maxLen := by
  intro i hi
  obtain ⟨gb, go', kd, pg, ofs, aA, an, ac, p, hA, hgb, h0, h1, h2, h3, k0, k1, k2, hp, hm⟩ := h i hi
  exact ⟨gb, go', kd, pg, ofs, aA, an, ac, p, hA, hgb, (hb.cell (p := ⟨gb, go' + i * 4, none⟩) hgb).trans h0, (hb.cell (p := ⟨gb, go' + i * 4 + 1, none⟩) hgb).trans h1, (hb.cell (p := ⟨gb, go' + i * 4 + 2, none⟩) hgb).trans h2, (hb.cell (p := ⟨gb, go' + i * 4 + 3, none⟩) hgb).trans h3, k0, k1, k2, ⟨hp.1, hp.2.1, hp.2.2.below hb (Nat.le_refl _)⟩, hm⟩
end Go.Proofs.Ytggeepihkeocmaa
/- PoolPlays: how the law makes its model. -/
namespace Go.Proofs.Ytggeepihkeocmaa
set_option linter.unusedVariables false
set_option linter.unusedSimpArgs false
open Go.RowKit Go.Maps
theorem PWo.less {w : World} {base base' d lb g pp bc : Nat} {F : Nat → Prop} {bA : Option Addr} {o : Lo} {s : St} (h : PWo w base d lb g pp F bA bc o s) (hb : base' ≤ base) : PWo w base' d lb g pp F bA bc o s := by
  obtain ⟨pA, mc, h1, h2⟩ := h.d
  refine ⟨⟨pA, mc, ⟨h1.k, Nat.le_trans hb h1.hd, Nat.le_trans hb h1.hl, fun k hk => Nat.le_trans hb (h1.hp k hk)⟩, h2⟩, ⟨h.l.at_, h.l.buf.less hb, Nat.le_trans hb h.l.hg, h.l.ok⟩, ⟨h.p.at_, Nat.le_trans hb h.p.hp, Nat.le_trans hb h.p.hf, Nat.le_trans hb h.p.hg, h.p.fm, h.p.gm, h.p.ne, fun k f hk => ?_, h.p.inj, h.p.injb⟩, h.ok, h.sep⟩
  obtain ⟨a1, a2, ⟨g1, b1, b2, b3, b4⟩, a4, a5, a6⟩ := h.p.frs k f hk
  exact ⟨a1, Nat.le_trans hb a2, ⟨g1, b1, Nat.le_trans hb b2, b3, b4⟩, a4, a5, fun hd => (a6 hd).less hb⟩
theorem WS.lessB {w : World} {base base' x d lb g pp : Nat} {s : St} {S : Nat → Prop} (h : WS w base x d lb g pp s S) (hb : base' ≤ base) : WS w base' x d lb g pp s S := by
  obtain ⟨F, bA, bc, o, kx, hP, hx, hS⟩ := h
  exact ⟨F, bA, bc, o, kx, hP.less hb, hx, hS⟩
theorem owns_mod {w w' : World} {base e sz n c m : Nat} {A : Option Addr} {xs : List Value} {S : Nat → Prop} (h : w.ownsRow base e sz (.slice A n c) m xs) (hm : Mod S w w') (hs : ∀ k, ownBlk A = some k → ¬ S k) : w'.ownsRow base e sz (.slice A n c) m xs := by
  refine ⟨h.1, ?_⟩
  rcases h.2 with h1 | ⟨g, cap, cur, h1, h2, h3, h4⟩
  · exact .inl h1
  · refine .inr ⟨g, cap, cur, h1, h2, ?_, h4⟩
    injection h1 with hA _ _
    exact (hm.block g (Array.getElem?_eq_some_iff.1 h3).1 (hs g (by rw [hA]; rfl))).trans h3
theorem owns_at {w : World} {base e sz n c m : Nat} {A : Option Addr} {xs : List Value} (h : w.ownsRow base e sz (.slice A n c) m xs) {k : Nat} (hk : ownBlk A = some k) : ∃ cur : Array Value, At w k cur e := by
  rcases h.2 with ⟨hv, -⟩ | ⟨g, cap, cur, h1, h2, h3, h4⟩
  · injection hv with hA _ _
    rw [hA] at hk; cases hk
  · injection h1 with hA _ _
    rw [hA] at hk
    have e1 : g = k := by simpa [ownBlk] using hk
    subst e1
    exact ⟨cur, h3⟩
structure MdS (w : World) (base b : Nat) (mo : Int) (pa : Nat → Nat) (nl ns np nd : Nat) (lA sA pA dA : Option Addr) (lc sc pc dc : Nat) : Prop where
  at_ : At w b #[.slice lA nl lc, .slice sA ns sc, .slice pA np pc, .slice dA nd dc, .int .i64 mo] 60
  rl : w.ownsRow base 32 1 (.slice lA nl lc) nl ((List.range nl).map (fun j => Value.slice (some ⟨pa j, 0, none⟩) 504 504))
  rs : w.ownsRow base 33 1 (.slice sA ns sc) ns (List.replicate ns (.int .u64 0))
  rp : w.ownsRow base 3 1 (.slice pA np pc) np (List.replicate np (.int .i64 0))
  rd : w.ownsRow base 33 1 (.slice dA nd dc) nd (List.replicate nd (.int .u64 0))
  sd : ∀ k, ownBlk sA = some k → ownBlk dA ≠ some k
  pg : ∀ j, j < nl → OwB w base (some ⟨pa j, 0, none⟩) 504 504 (List.replicate 504 0)
  hb : base ≤ b
/-- Its blocks. -/
def MsF (b : Nat) (pa : Nat → Nat) (nl : Nat) (lA sA pA dA : Option Addr) (k : Nat) : Prop := k = b ∨ ownBlk lA = some k ∨ ownBlk sA = some k ∨ ownBlk pA = some k ∨ ownBlk dA = some k ∨ ∃ j, j < nl ∧ k = pa j
section
variable {w w' : World} {base b : Nat} {mo : Int} {pa : Nat → Nat} {nl ns np nd : Nat} {lA sA pA dA : Option Addr} {lc sc pc dc : Nat}
theorem MdS.lts (h : MdS w base b mo pa nl ns np nd lA sA pA dA lc sc pc dc) : ∀ k, MsF b pa nl lA sA pA dA k → base ≤ k ∧ k < w.heap.size := fun k hk => by
  rcases hk with rfl | hk | hk | hk | hk | ⟨j, hj, rfl⟩
  · exact ⟨h.hb, h.at_.lt⟩
  · exact h.rl.lt k (by rw [ownBlk_eq]; exact hk)
  · exact h.rs.lt k (by rw [ownBlk_eq]; exact hk)
  · exact h.rp.lt k (by rw [ownBlk_eq]; exact hk)
  · exact h.rd.lt k (by rw [ownBlk_eq]; exact hk)
  · exact (h.pg j hj).lt _ rfl
theorem MdS.later (h : MdS w base b mo pa nl ns np nd lA sA pA dA lc sc pc dc) (hb : Below w.heap.size w w') : MdS w' base b mo pa nl ns np nd lA sA pA dA lc sc pc dc :=
  ⟨At.keep hb h.at_, owns_later h.rl hb, owns_later h.rs hb, owns_later h.rp hb, owns_later h.rd hb, h.sd, fun j hj => (h.pg j hj).later hb, h.hb⟩
/-- Blocks of two types are apart. -/
theorem own_ne {e1 e2 b1 b2 s1 s2 n1 n2 c1 c2 m1 m2 : Nat} {A1 A2 : Option Addr} {x1 x2 : List Value} (h1 : w.ownsRow b1 e1 s1 (.slice A1 n1 c1) m1 x1) (h2 : w.ownsRow b2 e2 s2 (.slice A2 n2 c2) m2 x2) (hT : e1 ≠ e2) {k : Nat} (hk : ownBlk A1 = some k) : ownBlk A2 ≠ some k := fun hk2 => by
  obtain ⟨c1, a1⟩ := owns_at h1 hk
  obtain ⟨c2, a2⟩ := owns_at h2 hk2
  exact (a1.apart a2 hT) rfl
theorem at_ne {e1 e2 b2 s2 n2 c2 m2 k : Nat} {A2 : Option Addr} {x2 : List Value} {c1 : Array Value} (h1 : At w k c1 e1) (h2 : w.ownsRow b2 e2 s2 (.slice A2 n2 c2) m2 x2) (hT : e1 ≠ e2) : ownBlk A2 ≠ some k := fun hk2 => by
  obtain ⟨c2, a2⟩ := owns_at h2 hk2
  exact (h1.apart a2 hT) rfl
/-- A row of the model grows, and is told to the model. -/
theorem MdS.stepL {A' : Option Addr} {c' P : Nat} (h : MdS w base b mo pa nl ns np nd lA sA pA dA lc sc pc dc) (hm : Mod (fun k => k = b ∨ ownBlk lA = some k) w w') (hat : At w' b #[.slice A' (nl + 1) c', .slice sA ns sc, .slice pA np pc, .slice dA nd dc, .int .i64 mo] 60)
    (hrow : w'.ownsRow base 32 1 (.slice A' (nl + 1) c') (nl + 1) ((List.range nl).map (fun j => Value.slice (some ⟨pa j, 0, none⟩) 504 504) ++ [.slice (some ⟨P, 0, none⟩) 504 504])) (hpg : OwB w' base (some ⟨P, 0, none⟩) 504 504 (List.replicate 504 0)) :
    MdS w' base b mo (fun j => if j = nl then P else pa j) (nl + 1) ns np nd A' sA pA dA c' sc pc dc := by
  refine ⟨hat, ?_, owns_mod h.rs hm (fun k hk hs => hs.elim (fun e => at_ne h.at_ h.rs (by decide) (by rw [hk, e])) (fun e => own_ne h.rl h.rs (by decide) e hk)), owns_mod h.rp hm (fun k hk hs => hs.elim (fun e => at_ne h.at_ h.rp (by decide) (by rw [hk, e])) (fun e => own_ne h.rl h.rp (by decide) e hk)), owns_mod h.rd hm (fun k hk hs => hs.elim (fun e => at_ne h.at_ h.rd (by decide) (by rw [hk, e])) (fun e => own_ne h.rl h.rd (by decide) e hk)), h.sd, fun j hj => ?_, h.hb⟩
  · have e : (List.range (nl + 1)).map (fun j => Value.slice (some ⟨if j = nl then P else pa j, 0, none⟩) 504 504) = (List.range nl).map (fun j => Value.slice (some ⟨pa j, 0, none⟩) 504 504) ++ [.slice (some ⟨P, 0, none⟩) 504 504] := by
      rw [List.range_succ, List.map_append]
      congr 1
      · refine List.map_congr_left (fun j hj => ?_)
        have := List.mem_range.1 hj
        rw [if_neg (by omega)]
      · simp
    rw [e]; exact hrow
  · by_cases e : j = nl
    · simp only [e, if_true]; exact hpg
    · simp only [if_neg e]
      have hj2 : j < nl := by omega
      refine (h.pg j hj2).mod hm (fun k hk hs => ?_)
      obtain ⟨c5, a5⟩ := owns_at (h.pg j hj2).2.2 hk
      exact hs.elim (fun e => (a5.apart h.at_ (by decide)) e) (fun e => at_ne a5 h.rl (by decide) e)
theorem rep_snoc {α : Type} (n : Nat) (x : α) : List.replicate n x ++ [x] = List.replicate (n + 1) x := List.replicate_succ'.symm
theorem MdS.stepS {A' : Option Addr} {c' : Nat} (h : MdS w base b mo pa nl ns np nd lA sA pA dA lc sc pc dc) (hm : Mod (fun k => k = b ∨ ownBlk sA = some k) w w') (hat : At w' b #[.slice lA nl lc, .slice A' (ns + 1) c', .slice pA np pc, .slice dA nd dc, .int .i64 mo] 60)
    (hrow : w'.ownsRow base 33 1 (.slice A' (ns + 1) c') (ns + 1) (List.replicate ns (.int .u64 0) ++ [.int .u64 0])) (hA : ownBlk A' = ownBlk sA ∨ ∃ k, ownBlk A' = some k ∧ w.heap.size ≤ k) :
    MdS w' base b mo pa nl (ns + 1) np nd lA A' pA dA lc c' pc dc := by
  refine ⟨hat, owns_mod h.rl hm (fun k hk hs => hs.elim (fun e => at_ne h.at_ h.rl (by decide) (by rw [hk, e])) (fun e => own_ne h.rs h.rl (by decide) e hk)), by rw [rep_snoc] at hrow; exact hrow, owns_mod h.rp hm (fun k hk hs => hs.elim (fun e => at_ne h.at_ h.rp (by decide) (by rw [hk, e])) (fun e => own_ne h.rs h.rp (by decide) e hk)), owns_mod h.rd hm (fun k hk hs => hs.elim (fun e => at_ne h.at_ h.rd (by decide) (by rw [hk, e])) (fun e => h.sd k e hk)), fun k hk hk2 => ?_, fun j hj => ?_, h.hb⟩
  · rcases hA with e | ⟨k2, e, hk3⟩
    · exact h.sd k (e.symm.trans hk) hk2
    · have := (h.rd.lt k (by rw [ownBlk_eq]; exact hk2)).2
      rw [hk] at e; injection e with e; omega
  · refine (h.pg j hj).mod hm (fun k hk hs => ?_)
    obtain ⟨c5, a5⟩ := owns_at (h.pg j hj).2.2 hk
    exact hs.elim (fun e => (a5.apart h.at_ (by decide)) e) (fun e => at_ne a5 h.rs (by decide) e)
theorem MdS.stepP {A' : Option Addr} {c' : Nat} (h : MdS w base b mo pa nl ns np nd lA sA pA dA lc sc pc dc) (hm : Mod (fun k => k = b ∨ ownBlk pA = some k) w w') (hat : At w' b #[.slice lA nl lc, .slice sA ns sc, .slice A' (np + 1) c', .slice dA nd dc, .int .i64 mo] 60)
    (hrow : w'.ownsRow base 3 1 (.slice A' (np + 1) c') (np + 1) (List.replicate np (.int .i64 0) ++ [.int .i64 0])) :
    MdS w' base b mo pa nl ns (np + 1) nd lA sA A' dA lc sc c' dc := by
  refine ⟨hat, owns_mod h.rl hm (fun k hk hs => hs.elim (fun e => at_ne h.at_ h.rl (by decide) (by rw [hk, e])) (fun e => own_ne h.rp h.rl (by decide) e hk)), owns_mod h.rs hm (fun k hk hs => hs.elim (fun e => at_ne h.at_ h.rs (by decide) (by rw [hk, e])) (fun e => own_ne h.rp h.rs (by decide) e hk)), by rw [rep_snoc] at hrow; exact hrow, owns_mod h.rd hm (fun k hk hs => hs.elim (fun e => at_ne h.at_ h.rd (by decide) (by rw [hk, e])) (fun e => own_ne h.rp h.rd (by decide) e hk)), h.sd, fun j hj => ?_, h.hb⟩
  refine (h.pg j hj).mod hm (fun k hk hs => ?_)
  obtain ⟨c5, a5⟩ := owns_at (h.pg j hj).2.2 hk
  exact hs.elim (fun e => (a5.apart h.at_ (by decide)) e) (fun e => at_ne a5 h.rp (by decide) e)
theorem MdS.stepD {A' : Option Addr} {c' : Nat} (h : MdS w base b mo pa nl ns np nd lA sA pA dA lc sc pc dc) (hm : Mod (fun k => k = b ∨ ownBlk dA = some k) w w') (hat : At w' b #[.slice lA nl lc, .slice sA ns sc, .slice pA np pc, .slice A' (nd + 1) c', .int .i64 mo] 60)
    (hrow : w'.ownsRow base 33 1 (.slice A' (nd + 1) c') (nd + 1) (List.replicate nd (.int .u64 0) ++ [.int .u64 0])) (hA : ownBlk A' = ownBlk dA ∨ ∃ k, ownBlk A' = some k ∧ w.heap.size ≤ k) :
    MdS w' base b mo pa nl ns np (nd + 1) lA sA pA A' lc sc pc c' := by
  refine ⟨hat, owns_mod h.rl hm (fun k hk hs => hs.elim (fun e => at_ne h.at_ h.rl (by decide) (by rw [hk, e])) (fun e => own_ne h.rd h.rl (by decide) e hk)), owns_mod h.rs hm (fun k hk hs => hs.elim (fun e => at_ne h.at_ h.rs (by decide) (by rw [hk, e])) (fun e => h.sd k hk e)), owns_mod h.rp hm (fun k hk hs => hs.elim (fun e => at_ne h.at_ h.rp (by decide) (by rw [hk, e])) (fun e => own_ne h.rd h.rp (by decide) e hk)), by rw [rep_snoc] at hrow; exact hrow, fun k hk hk2 => ?_, fun j hj => ?_, h.hb⟩
  · rcases hA with e | ⟨k2, e, hk3⟩
    · exact h.sd k hk (e.symm.trans hk2)
    · have := (h.rs.lt k (by rw [ownBlk_eq]; exact hk)).2
      rw [hk2] at e; injection e with e; omega
  · refine (h.pg j hj).mod hm (fun k hk hs => ?_)
    obtain ⟨c5, a5⟩ := owns_at (h.pg j hj).2.2 hk
    exact hs.elim (fun e => (a5.apart h.at_ (by decide)) e) (fun e => at_ne a5 h.rd (by decide) e)
/-- The model that was made. -/
theorem MdS.mdh {n : Nat} (h : MdS w base b mo pa n n n n lA sA pA dA lc sc pc dc) (hn : 1 ≤ n) : ∃ q : Mq, MdH w base b n mo (fun _ => zeroS) (fun _ => 0) q ∧ ∀ k, MdF b n q k → MsF b pa n lA sA pA dA k := by
  obtain ⟨g1, p1, v1, b1, -⟩ := h.rl.form (by omega)
  obtain ⟨g2, p2, v2, b2, -⟩ := h.rs.form (by omega)
  obtain ⟨g3, p3, v3, b3, -⟩ := h.rp.form (by omega)
  obtain ⟨g4, p4, v4, b4, -⟩ := h.rd.form (by omega)
  injection v1 with v1 _ _
  injection v2 with v2 _ _
  injection v3 with v3 _ _
  injection v4 with v4 _ _
  subst v1 v2 v3 v4
  refine ⟨⟨g1, g2, g3, g4, lc, sc, pc, dc, pa, fun _ => 504, fun _ => 0⟩, ⟨h.at_, RwA.of_own h.rl _ (fun j hj => by simp [hj]), RwA.of_own h.rs _ (fun j hj => ?_), RwA.of_own h.rp _ (fun j hj => by simp [hj]), RwA.of_own h.rd _ (fun j hj => by simp [hj]), fun e => h.sd g2 rfl (by rw [show g2 = g4 from e]; rfl), fun j hj => (by
    have e : zeroS.drop 8 = List.replicate 504 0 := by unfold zeroS; rw [List.drop_replicate]
    show OwB w base _ 504 504 (zeroS.drop 8)
    rw [e]; exact h.pg j hj), h.hb, b1, b2, b3, b4⟩, fun k hk => ?_⟩
  · have e : num (zeroS.take 8) = 0 := by decide
    rw [e]; simp [hj]
  · rcases hk with hk | hk | hk | hk | hk | hk
    · exact .inl hk
    · exact .inr (.inl (by rw [hk]; rfl))
    · exact .inr (.inr (.inl (by rw [hk]; rfl)))
    · exact .inr (.inr (.inr (.inl (by rw [hk]; rfl))))
    · exact .inr (.inr (.inr (.inr (.inl (by rw [hk]; rfl)))))
    · exact .inr (.inr (.inr (.inr (.inr hk))))
end
end Go.Proofs.Ytggeepihkeocmaa
/- PoolPlays: the law's start: its pool, its model. -/
namespace Go.Proofs.Ytggeepihkeocmaa
set_option linter.unusedVariables false
set_option linter.unusedSimpArgs false
open Go.RowKit Go.Maps
theorem fresh_pv {n : Nat} {mo : Int} (hn : 1 ≤ n ∧ n ≤ 8) : Pv (freshS n mo) n mo (fun _ => zeroS) (fun _ => 0) ∧ Bq (freshS n mo) (fun _ => 0) 0 := by
  have e : 41 + ((n : Nat) : Int).toNat = 41 + n := by omega
  have hf : freshS n mo = ⟨newP 41 n mo, opnD (41 + n) 0 40, newL 0 40⟩ := by unfold freshS; rw [e]
  have hlen : (opnD (41 + n) 0 40).l.length = 41 + n := opnD_len (by omega) (by omega) (by omega)
  have hway : (opnD (41 + n) 0 40).way = [] := opnD_way (by omega) (by omega) (by omega)
  have hops : (opnD (41 + n) 0 40).ops = 6 := opnD_ops (by omega) (by omega) (by omega)
  have hrd : ∀ k, 0 ≤ k → k < (n : Int) → readD (opnD (41 + n) 0 40) (pgI k) = zeroS := fun k h0 h1 => by
    have : 41 ≤ pgI k ∧ pgI k < 41 + n := by unfold pgI; omega
    rw [opnD_eq (by omega) (by omega) (by omega), readD_mk _ _ _ (by rw [sync_len]; show pgI k < (fmD (41 + n) 0 40).l.length; rw [fmD_len]; omega), if_neg (by show ¬ (2 = pgI k); omega), readD_mk _ _ _ (by rw [fmD_len]; omega), if_neg (by show ¬ (0 = pgI k); omega), fmD_read _ _ _ _ (by omega), if_neg (by show ¬ (0 = pgI k); omega)]
  have hz : num (zeroS.take 8) = 0 := by decide
  have hI := fresh_inv (pages := n) (most := mo) (by omega)
  rw [hf] at hI ⊢
  refine ⟨⟨rfl, rfl, rfl, by omega, by show ((opnD (41 + n) 0 40).l.length : Int) = _; rw [hlen]; omega, hI, ⟨rfl, rfl, rfl, rfl⟩, fun k f h => (by cases h), fun k f h => (by cases h), fun k h0 h1 _ => ?_, fun k h0 h1 => ?_, fun k f h => (by cases h), fun k h0 h1 => hrd k h0 h1, fun k => rfl, fun k f h => (by cases h), fun k x h => (by cases h), fun k _ _ => by (unfold zeroS; rw [List.length_replicate])⟩, ⟨⟨by show (0 : Int) ≤ 0; omega, by show (0 : Int) ≤ _; omega⟩, by show (opnD (41 + n) 0 40).ops ≤ _; rw [hops]; omega, by show (opnD (41 + n) 0 40).way.length ≤ _; rw [hway]; simp, by show (480 : Int) + 0 ≤ _; omega, by show (480 : Int) ≤ 480; omega, fun k => by omega⟩⟩
  · exact (read_none hway (pgI k)).symm
  · show num ((readD (opnD (41 + n) 0 40) (pgI k)).take 8) < 480
    rw [hrd k h0 h1, hz]; omega
theorem zeros_own9 {w : World} {base b m : Nat} (ho : w.ownsRow base 5 1 (.slice (some ⟨b, 0, none⟩) m m) m (madeCells (Value.int .u8 0).cells (m * 1)).toList) : OwB w base (some ⟨b, 0, none⟩) m m (List.replicate m 0) := by
  rw [Nat.mul_one, show (Value.int .u8 0).cells = #[.int .u8 0] from rfl, toList_madeCells_one] at ho
  exact ⟨by simp, fun y hy => by rw [List.eq_of_mem_replicate hy]; omega, by rw [List.map_replicate]; exact ho⟩
theorem sliceElt : EltOk Try.prog 56 32 1 24 (.slice none 0 0) := ⟨Try.underlying56, info_parts (by kernel_rfl), rfl, by decide⟩
theorem u64Elt : EltOk Try.prog 57 33 1 8 (.int .u64 0) := ⟨Try.underlying57, info_parts info64, rfl, by decide⟩
theorem intElt : EltOk Try.prog 58 3 1 8 (.int .i64 0) := ⟨Try.underlying58, info_parts (by kernel_rfl), rfl, by decide⟩
theorem one_sl (A : Option Addr) (n c : Nat) : ∀ u ∈ (#[.slice A n c] : Array Value).toList, u.oneCell' = true := by
  intro u hu
  simp at hu
  subst hu; rfl
theorem one_int (k : IntKind) (x : Int) : ∀ u ∈ (#[.int k x] : Array Value).toList, u.oneCell' = true := by
  intro u hu
  simp at hu
  subst hu; rfl
/-- The law's world while it makes its model. -/
def WB (w : World) (base x d lb g pp b i : Nat) (s : St) (mo : Int) : Prop := ∃ pa lA sA pA dA lc sc pc dc, MdS w base b mo pa i i i i lA sA pA dA lc sc pc dc ∧ WS w base x d lb g pp s (MsF b pa i lA sA pA dA)
end Go.Proofs.Ytggeepihkeocmaa
