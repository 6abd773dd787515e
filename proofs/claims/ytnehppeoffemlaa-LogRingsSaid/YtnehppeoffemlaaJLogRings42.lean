/- Joined texts: LogRg. -/
import Derived.Test.YtnehppeoffemlaaJLogRings40
import Derived.Test.YtnehppeoffemlaaJLogRings41
/- LogRings: what a round keeps, and the calls of the disk and the log that lead from it to it. -/
namespace Go.Proofs.Ytnehppeoffemlaa
set_option linter.unusedVariables false
set_option linter.unusedSimpArgs false
open Go.RowKit
theorem dedup9 {P Q : Prop} (k : Hid P → Q) (h : P) : Q := k (Lib.hid h)
structure RSt (w : World) (base d lb m c g : Nat) (X E O : Int) (L : Lg) (D : Dk) (F : Nat → Prop) (B : List Int) (ep : Nat → Int) (rs : List (List Int)) (lA : Option Addr) (lc : Nat) (bA : Option Addr) (bc : Nat) : Prop where
  l : LgH w base d g bA bc L
  dd : DD w base d lb F D
  r : Ring D L B ep
  q : Qt D
  wy : D.way = []
  rb : B.drop (L.start - org L).toNat = recB rs
  rv : ∀ p ∈ rs, 1 ≤ p.length ∧ p.length ≤ 400
  md : MdAt w m lA rs.length lc L
  ro : OwO w base lA rs.length lc (recVs L.start rs)
  ps : L.pos = 1
  ct : L.count = c
  hd : L.held = 0
  ck : L.check = 0
  st : 480 ≤ L.start
  en : endL L ≤ X
  eo : L.epoch ≤ E
  op : D.ops ≤ O
  ln : D.l.length = c + 3
theorem RSt.endB {w : World} {base d lb m c g : Nat} {L : Lg} {D : Dk} {F : Nat → Prop} {B : List Int} {ep : Nat → Int} {rs : List (List Int)} {lA : Option Addr} {lc : Nat} {bA : Option Addr} {bc : Nat} {X E O : Int} (h : RSt w base d lb m c g X E O L D F B ep rs lA lc bA bc) : endL L = L.start + (recB rs).length ∧ (recB rs).length ≤ 402 * rs.length := by
  have h1 := congrArg List.length h.rb
  rw [List.length_drop] at h1
  have h2 := h.r.blen
  have h3 : org L = L.start / 480 * 480 := rfl
  have h4 := h.r.i.ok.start; have h5 := h.r.i.ok.sure
  exact ⟨by omega, rec_len rs h.rv⟩
theorem RSt.later {w : World} {base d lb m c g : Nat} {L : Lg} {D : Dk} {F : Nat → Prop} {B : List Int} {ep : Nat → Int} {rs : List (List Int)} {lA : Option Addr} {lc : Nat} {bA : Option Addr} {bc : Nat} {X E O : Int} {w' : World} (h : RSt w base d lb m c g X E O L D F B ep rs lA lc bA bc) (hb : Below w.heap.size w w') : RSt w' base d lb m c g X E O L D F B ep rs lA lc bA bc :=
  ⟨h.l.later hb, h.dd.later hb, h.r, h.q, h.wy, h.rb, h.rv, At.keep hb h.md, h.ro.later hb, h.ps, h.ct, h.hd, h.ck, h.st, h.en, h.eo, h.op, h.ln⟩
theorem RSt.relax {w : World} {base d lb m c g : Nat} {L : Lg} {D : Dk} {F : Nat → Prop} {B : List Int} {ep : Nat → Int} {rs : List (List Int)} {lA : Option Addr} {lc : Nat} {bA : Option Addr} {bc : Nat} {X E O : Int} {X' E' O' : Int} (h : RSt w base d lb m c g X E O L D F B ep rs lA lc bA bc) (h1 : X ≤ X') (h2 : E ≤ E') (h3 : O ≤ O') : RSt w base d lb m c g X' E' O' L D F B ep rs lA lc bA bc :=
  ⟨h.l, h.dd, h.r, h.q, h.wy, h.rb, h.rv, h.md, h.ro, h.ps, h.ct, h.hd, h.ck, h.st, Int.le_trans h.en h1, Int.le_trans h.eo h2, Int.le_trans h.op h3, h.ln⟩
theorem RSt.room {w : World} {base d lb m c g : Nat} {L : Lg} {D : Dk} {F : Nat → Prop} {B : List Int} {ep : Nat → Int} {rs : List (List Int)} {lA : Option Addr} {lc : Nat} {bA : Option Addr} {bc : Nat} {X E O : Int} (h : RSt w base d lb m c g X E O L D F B ep rs lA lc bA bc) (hc : 4 ≤ c) (hn : rs.length ≤ 2) : 402 ≤ roomL L := by
  have h1 := h.endB
  unfold roomL
  rw [h1.1, h.hd, h.ct]
  omega
theorem RSt.bw {w : World} {base d lb m c g : Nat} {L : Lg} {D : Dk} {F : Nat → Prop} {B : List Int} {ep : Nat → Int} {rs : List (List Int)} {lA : Option Addr} {lc : Nat} {bA : Option Addr} {bc : Nat} {X E O : Int} (h : RSt w base d lb m c g X E O L D F B ep rs lA lc bA bc) : base ≤ w.heap.size := by have := h.dd.lts d h.dd.d; omega
theorem flR_ops (L : Lg) : ∀ (f j : Nat) (D : Dk), (flR D L f j).1.ops ≤ D.ops + f
  | 0, _, D => by show D.ops ≤ D.ops + ((0 : Nat) : Int); omega
  | f + 1, j, D => by
    unfold flR
    have h1 := wr1_ops D (idxL L (numL L j)) (layL (numL L j : Nat) L.epoch (partL L j))
    by_cases h : wr1E D = 0
    · rw [if_pos h]
      have := flR_ops L f (j + 1) (wr1 D (idxL L (numL L j)) (layL (numL L j : Nat) L.epoch (partL L j)))
      omega
    · rw [if_neg h]
      show (wr1 D _ _).ops ≤ _
      omega
theorem m_keep {w w' : World} {base b0 d lb g m bc n lc : Nat} {F : Nat → Prop} {bA lA : Option Addr} {L : Lg} {D : Dk} {cs : Array Value} {vs : List Value} (hm : At w m cs 41) (ho : OwO w b0 lA n lc vs) (hL : LgH w base d g bA bc L) (hD : DD w base d lb F D) (hM : Mod (fun k => F k ∨ LFoot g bA k) w w') : At w' m cs 41 ∧ OwO w' b0 lA n lc vs := by
  refine ⟨hm.mod hM (fun hf => ?_), ho.mod hM (fun b hb hf => ?_)⟩
  · rcases hf with hf | hf | hf
    · exact hD.noT hm (by decide) (by decide) (by decide) hf
    · exact absurd (hf ▸ hm |>.inj hL.at_) (by decide)
    · exact hm.ne_own hL.buf.2.2 (by decide) hf
  · rcases ho.2 with ⟨h0, -, -⟩ | ⟨g', o', cur, h1, -, hat, -⟩
    · rw [h0] at hb; cases hb
    · rw [h1] at hb
      have e9 : g' = b := by simpa [ownBlk] using hb
      subst e9
      rcases hf with hf | hf | hf
      · exact hD.noT hat (by decide) (by decide) (by decide) hf
      · exact absurd (hf ▸ hat |>.inj hL.at_) (by decide)
      · exact hat.ne_own hL.buf.2.2 (by decide) hf
theorem m_set {w w' : World} {base b0 d lb g m bc n lc : Nat} {F : Nat → Prop} {bA lA : Option Addr} {L : Lg} {D : Dk} {cs : Array Value} {vs : List Value} (hm : At w m cs 41) (ho : OwO w b0 lA n lc vs) (hL : LgH w base d g bA bc L) (hD : DD w base d lb F D) (hM : Mod (fun k => k = m) w w') : LgH w' base d g bA bc L ∧ DD w' base d lb F D ∧ OwO w' b0 lA n lc vs :=
  ⟨hL.mod hM (fun hf => absurd (hf ▸ hL.at_ |>.inj hm) (by decide)) (fun b hb hf => hm.ne_own hL.buf.2.2 (by decide) (hf ▸ hb)), hD.mod hM (fun k hk hf => hD.noT hm (by decide) (by decide) (by decide) (hf ▸ hk)), ho.mod hM (fun b hb hf => ho.ne hm (by decide) (hf ▸ hb))⟩
theorem re_facts (D : Dk) (L : Lg) (h : Qt D) : Qt (reD D L) ∧ (reD D L).way = [] ∧ (reD D L).ops = D.ops + 4 := by
  refine ⟨(((h.wr _ _).sy).wr _ _).sy, rfl, ?_⟩
  show D.ops + 1 + 1 + 1 + 1 = D.ops + 4
  omega
theorem set_len (n : Nat) (i : Int) : ((List.replicate n (0 : Int)).set 0 i).length = n := by rw [List.length_set, List.length_replicate]
theorem same_st {w : World} {base d lb m c g : Nat} {L : Lg} {D : Dk} {F : Nat → Prop} {B : List Int} {ep : Nat → Int} {rs : List (List Int)} {lA : Option Addr} {lc : Nat} {bA : Option Addr} {bc : Nat} {X E O : Int} (h : RSt w base d lb m c g X E O L D F B ep rs lA lc bA bc) : Calls Try.prog 24 #[.pointer (some ⟨g, 0, none⟩), .pointer (some ⟨m, 0, none⟩)] w fun e w' => e = .returned (.bool true) ∧ RSt w' base d lb m c g X E O L D F B ep rs lA lc bA bc ∧ Below base w w' := by
  refine (same_q w h.l h.md).mono ?_
  rintro e wC ⟨rfl, kC, hkC⟩
  have hbC : Below w.heap.size w wC := by rw [hkC]; exact below_drewN (Below.refl _ _) kC
  exact ⟨rfl, h.later hbC, below_up hbC h.bw⟩
theorem all_st {w : World} {base d lb m c g : Nat} {L : Lg} {D : Dk} {F : Nat → Prop} {B : List Int} {ep : Nat → Int} {rs : List (List Int)} {lA : Option Addr} {lc : Nat} {bA : Option Addr} {bc : Nat} {X E O : Int} (h : RSt w base d lb m c g X E O L D F B ep rs lA lc bA bc) : Calls Try.prog 25 #[.pointer (some ⟨m, 0, none⟩), .pointer (some ⟨g, 0, none⟩)] w fun e w' => e = .returned (.bool true) ∧ RSt w' base d lb m c g X E O L D F B ep rs lA lc bA bc ∧ Below base w w' := by
  refine (all_calls (ln := 0) (L := L) (D := D) (B := B) (ep := ep) (rs := rs) (lA := lA) w h.l h.dd h.q.2 h.r h.rb (fun q hq => ⟨(h.rv q hq).1, Nat.le_trans (h.rv q hq).2 (by decide)⟩) h.md h.ro.recs (Int.le_trans (by decide) h.st)).mono ?_
  rintro e wD ⟨rfl, hbD⟩
  exact ⟨rfl, h.later hbD, below_up hbD h.bw⟩
theorem rest_st {w : World} {base d lb m c g : Nat} {L : Lg} {D : Dk} {F : Nat → Prop} {B : List Int} {ep : Nat → Int} {rs : List (List Int)} {lA : Option Addr} {lc : Nat} {bA : Option Addr} {bc : Nat} {X E O : Int} (h : RSt w base d lb m c g X E O L D F B ep rs lA lc bA bc) : Calls Try.prog 22 #[.pointer (some ⟨d, 0, none⟩), .slice none 0 0] w fun e w' => e = .returned (.int .i64 0) ∧ (∃ F', RSt w' base d lb m c g X E O L D F' B ep rs lA lc bA bc) ∧ Below base w w' := by
  refine (rest_dd w h.dd h.q h.wy).mono ?_
  rintro e wA ⟨rfl, ⟨FA, hDA, hgA⟩, hmA⟩
  obtain ⟨hMA, hOA⟩ := m_keep h.md h.ro h.l h.dd (hmA.mono (fun k hk => .inl hk))
  have hLA := h.l.mod hmA (h.l.w.noF h.dd) (h.dd.noB h.l.buf)
  exact ⟨rfl, ⟨FA, hLA, hDA, h.r, h.q, h.wy, h.rb, h.rv, hMA, hOA, h.ps, h.ct, h.hd, h.ck, h.st, h.en, h.eo, h.op, h.ln⟩, hmA.below h.bw (fun k hk => (h.dd.lts k hk).1)⟩
theorem open_st {w : World} {base d lb m c g : Nat} {L : Lg} {D : Dk} {F : Nat → Prop} {B : List Int} {ep : Nat → Int} {rs : List (List Int)} {lA : Option Addr} {lc : Nat} {bA : Option Addr} {bc : Nat} {X E O : Int} (h : RSt w base d lb m c g X E O L D F B ep rs lA lc bA bc) (hc : 4 ≤ c ∧ c ≤ 9) (hn : rs.length ≤ 3) (hX : X ≤ 1000000) (hE : E ≤ 1000000) (hO : O ≤ 1000000) : Calls Try.prog 23 #[.pointer (some ⟨d, 0, none⟩), .int .i64 1, .int .i64 c] w fun e w' => (∃ g' bA' bc' F', e = .returned (.tuple #[.pointer (some ⟨g', 0, none⟩), .int .i64 0]) ∧ RSt w' base d lb m c g' X (E + 1) (O + 4) (reL L) (reD D L) F' B (reE L ep) rs lA lc bA' bc') ∧ Below base w w' := by
  have hXb := h.r.i.ok
  have hXe := h.endB
  have hXen := h.en
  have hXs := h.r.i.ok.start
  have heo := h.eo
  have hop := h.op
  have hlk : llookE D 1 c = 0 := by unfold llookE; rw [h.ln]; exact if_neg (by omega)
  have hopn := ring_opL h.r h.rb (fun q hq => ⟨(h.rv q hq).1, by have := (h.rv q hq).2; omega⟩)
  have hopd := ring_opD h.r h.q h.rb (fun q hq => ⟨(h.rv q hq).1, by have := (h.rv q hq).2; omega⟩)
  have hmsl := ring_mas h.r
  have hscn := ring_scan h.r
  have hmy : MasYes (readD D 1) := by
    have := h.r.mas
    rw [h.ps] at this
    rw [show (1 : Int).toNat = 1 from rfl] at this
    rw [this]; exact mas_yes _
  have hbd : num (((readD D 1).drop 4).take 8) < 1099511627776 ∧ num (((readD D 1).drop 12).take 8) < 2305843009213693952 := by
    have a1 := congrArg Lg.epoch hmsl
    have a2 := congrArg Lg.start hmsl
    rw [h.ps] at a1 a2
    rw [show (1 : Int).toNat = 1 from rfl] at a1 a2
    have b1 : num (((readD D 1).drop 4).take 8) = L.epoch := a1
    have b2 : num (((readD D 1).drop 12).take 8) = L.start := a2
    have b3 := h.r.low
    rw [b1, b2]
    exact ⟨by omega, by omega⟩
  rw [h.ps, h.ct] at hopn hopd hmsl hscn
  rw [show (1 : Int).toNat = 1 from rfl] at hmsl
  have hrr := re_ring h.r (by omega) (by rw [hXe.1, h.ct]; omega)
  have hrf := re_facts D L h.q
  have hwy0 : D.way.length = 0 := by rw [h.wy]; rfl
  refine (lopen_w 1 c 1 w h.dd hlk rfl h.q.2 (by omega) (by omega) (fun _ => hbd)).mono ?_
  rw [hmsl, hopn, hopd.1, hopd.2, hscn]
  rintro e wB (⟨hno, -⟩ | ⟨-, hsh, -⟩ | ⟨-, -, ⟨FB, hDB, hgB⟩, hmB, (⟨hne, -⟩ | ⟨-, gB, bAB, bcB, rfl, hgw, hWB, hOB⟩)⟩)
  · exact absurd hmy hno
  · exfalso
    have a1 := h.r.blen
    have a2 : (L.start % 480).toNat > B.length := hsh
    have a3 : org L = L.start / 480 * 480 := rfl
    omega
  · exact absurd rfl hne
  · have hLA : LgH wB base d gB bAB bcB (reL L) := ⟨hWB.at_, hOB.less h.bw, Nat.le_trans h.bw hgw, hrr.i.ok⟩
    obtain ⟨hMB, hOB2⟩ := m_keep h.md h.ro h.l h.dd (hmB.mono (fun k hk => .inl hk))
    exact ⟨⟨gB, bAB, bcB, FB, rfl, hLA, hDB, hrr, hrf.1, hrf.2.1, h.rb, h.rv, (by (have hz := hMB; unfold MdAt; rw [show (reL L).held = L.held from h.hd.symm]; exact hz)), hOB2, h.ps, h.ct, rfl, h.ck, h.st, h.en, by (show L.epoch + 1 ≤ _; omega), by (rw [hrf.2.2]; omega), by (rw [re_len]; exact h.ln)⟩, hmB.below h.bw (fun k hk => (h.dd.lts k hk).1)⟩
theorem new_read {c j : Nat} (hc : 4 ≤ c) (hj : j < c + 3) : readD (opnD (c + 3) 1 c) j = if j = 3 then layL 1 2 [] else if j = 1 then masterL (newL 1 c) else zeroS := by
  rw [opnD_eq (by omega) (by omega) (by omega), readD_mk _ _ _ (by rw [sync_len]; show j < (fmD (c + 3) 1 c).l.length; rw [fmD_len]; exact hj)]
  by_cases h3 : j = 3
  · rw [if_pos h3, if_pos (show ((1 : Int) + 2).toNat = j by omega)]
  · rw [if_neg h3, if_neg (show ¬ ((1 : Int) + 2).toNat = j by omega), readD_mk _ _ _ (by rw [fmD_len]; exact hj)]
    by_cases h1 : j = 1
    · rw [if_pos h1, if_pos (show (1 : Int).toNat = j by omega)]
    · rw [if_neg h1, if_neg (show ¬ (1 : Int).toNat = j by omega), fmD_read _ _ _ _ hj, if_neg (show ¬ (1 : Int).toNat = j by omega)]
theorem new_ring {c : Nat} (hc : 4 ≤ c ∧ c ≤ 9) : Ring (opnD (c + 3) 1 c) (newL 1 c) [] (fun _ => 2) := by
  have hI : LgI (newL 1 c) := newL_I (by omega) (by omega) (by omega) (by omega)
  have hlen : (newL 1 c).pos + 1 + (newL 1 c).count ≤ (opnD (c + 3) 1 c).l.length := by
    rw [opnD_len (by omega) (by omega) (by omega)]
    show (1 : Int) + 1 + c ≤ _
    omega
  have hen : endL (newL 1 c) = 480 := rfl
  have hor : org (newL 1 c) = 480 := rfl
  have hix : ∀ j : Nat, idxL (newL 1 c) j < c + 3 := fun j => by
    have := idx_lt hI.ok hlen j
    rwa [opnD_len (by omega) (by omega) (by omega)] at this
  have hip : ∀ j : Nat, idxL (newL 1 c) j ≠ 1 := fun j h => idx_pos hI.ok j h.symm
  refine ⟨hI, by show (480 : Int) < _; omega, hlen, by rw [hen, hor]; simp, Byt.nil, fun j h1 h2 => ?_, fun _ _ _ => Int.le_refl _, fun _ => ⟨by omega, Int.le_refl _⟩, fun j hj e => ?_, fun j hj => .inr ⟨2, ⟨by omega, by omega⟩, ?_⟩, hen.symm, by rw [hen]; exact (show (480 : Int) = 480 / 480 * 480 by omega), rfl, ?_⟩
  · have h1 : (480 : Int) ≤ 480 * j := h1
    have h2 : 480 * (j : Int) < 480 := h2
    omega
  · rw [hen] at hj
    rw [new_read hc.1 (hix j)]
    by_cases h3 : idxL (newL 1 c) j = 3
    · rw [if_pos h3]; exact lay_no (by omega) (by omega) e
    · rw [if_neg h3, if_neg (hip j)]; exact zero_no _ _ (by omega)
  · rw [hen] at hj
    have e1 : j = 1 := by omega
    subst e1
    have hi : idxL (newL 1 c) 1 = 3 := by
      unfold idxL
      show ((1 : Int) + 1 + ((1 : Nat) : Int) % c).toNat = _
      rw [show (((1 : Nat) : Int) % c) = 1 from Int.emod_eq_of_lt (by omega) (by omega)]
      rfl
    rw [hi, new_read hc.1 (by omega), if_pos rfl]
    rfl
  · show readD _ 1 = _
    rw [new_read hc.1 (by omega), if_neg (by omega), if_pos rfl]
def MarkTo (w w' : World) (base d lb m c g : Nat) (X E O : Int) (L L' : Lg) (D' : Dk) (ep : Nat → Int) (rs : List (List Int)) (lA : Option Addr) (lc : Nat) (st : Int) : Prop :=
  MdAt w' m lA rs.length lc L ∧ OwO w' base lA rs.length lc (recVs st rs) ∧ Below base w w' ∧ ∀ w2, Mod (fun k => k = m) w' w2 → At w2 m #[.slice lA rs.length lc, .int .u64 (endL L), .int .u64 L.sure, .int .u64 st, .int .u64 L.check, .int .i64 L.held, .int .i64 L.count] 41 → ∃ F' B' bA' bc', RSt w2 base d lb m c g X E O L' D' F' B' ep rs lA lc bA' bc'
theorem mark_st {w : World} {base d lb m c g : Nat} {L : Lg} {D : Dk} {F : Nat → Prop} {B : List Int} {ep : Nat → Int} {rs : List (List Int)} {lA : Option Addr} {lc : Nat} {bA : Option Addr} {bc : Nat} {X E O : Int} {p0 : List Int} {lA2 : Option Addr} {lc2 : Nat} {w2 : World} (h : RSt w base d lb m c g X E O L D F B ep (p0 :: rs) lA lc bA bc) (hL : LgH w2 base d g bA bc L) (hD : DD w2 base d lb F D) (hM : MdAt w2 m lA2 rs.length lc2 L) (st : Int) (hst : st = L.start + (2 + p0.length)) (hO : OwO w2 base lA2 rs.length lc2 (recVs st rs)) (hX : X ≤ 1000000) (hO9 : O ≤ 1000000) :
    Calls Try.prog 21 #[.pointer (some ⟨g, 0, none⟩), .int .u64 0, .int .u64 st] w2 fun e w' => e = .returned (.int .i64 0) ∧ MarkTo w2 w' base d lb m c g X E (O + 2) L (markL L 0 st) (syncD (wrD D 1 (masterL (markL L 0 st)))) ep rs lA2 lc2 st := by
  have hbw : base ≤ w2.heap.size := by have := hD.lts d hD.d; omega
  have hwy0 : D.way.length = 0 := by rw [h.wy]; rfl
  have hop := h.op
  have hen := h.en
  have heb := h.endB
  have hsu := h.r.sure
  have hln := h.ln
  have hst4 := h.st
  have hrl : ((recB (p0 :: rs)).length : Int) = 2 + p0.length + (recB rs).length := by
    rw [recB_cons, List.length_append, List.length_append]
    have h2 : (two2 p0.length).length = 2 := rfl
    omega
  have hps := h.ps
  refine (lMark_calls 0 st 1 w2 hL hD h.r.i h.q (by rw [hps]; rfl) (by omega) (by omega) (by omega) (by omega) (by omega) (by omega) (by omega)).mono ?_
  rintro e w3 ⟨rfl, F3, bA3, bc3, hD3, hL3, hg3, ha3, hm3⟩
  have hM' : At w2 m #[.slice lA2 rs.length lc2, .int .u64 (endL L), .int .u64 L.sure, .int .u64 L.start, .int .u64 L.check, .int .i64 L.held, .int .i64 L.count] 41 := hM
  obtain ⟨hM3, hO3⟩ := m_keep hM' hO hL hD hm3
  refine ⟨rfl, hM3, hO3, hm3.below hbw (fun k hk => by
    rcases hk with hk | hk
    · exact (hD.lts k hk).1
    · exact ((foot_low hL hD).1 k hk).1), fun w4 hm4 hM4 => ?_⟩
  obtain ⟨hL4, hD4, hO4⟩ := m_set hM3 hO3 hL3 hD3 hm4
  have hrg := mark_ring h.r (ck := 0) (st := st) (by omega) (by omega) (by omega) (by omega) (by omega)
  rw [hps] at hrg
  rw [show (1 : Int).toNat = 1 from rfl] at hrg
  refine ⟨F3, _, bA3, bc3, hL4, hD4, hrg, (h.q.wr _ _).sy, rfl, ?_, fun q hq => h.rv q (by simp [hq]), ?_, hO4, h.ps, h.ct, h.hd, rfl, by (show 480 ≤ st; omega), h.en, h.eo, by (show D.ops + 1 + 1 ≤ _; omega), by (rw [sync_len]; exact hln)⟩
  · show (B.drop (org (markL L 0 st) - org L).toNat).drop (st - org (markL L 0 st)).toNat = recB rs
    have a1 : org L = L.start / 480 * 480 := rfl
    have a2 : org (markL L 0 st) = st / 480 * 480 := rfl
    rw [List.drop_drop, show (org (markL L 0 st) - org L).toNat + (st - org (markL L 0 st)).toNat = (L.start - org L).toNat + (two2 p0.length ++ p0).length by
      rw [List.length_append]
      have h2 : (two2 p0.length).length = 2 := rfl
      omega, ← List.drop_drop, h.rb, recB_cons, List.drop_left]
  · have hz := hM4
    unfold MdAt
    rw [h.ck] at hz
    exact hz
end Go.Proofs.Ytnehppeoffemlaa
