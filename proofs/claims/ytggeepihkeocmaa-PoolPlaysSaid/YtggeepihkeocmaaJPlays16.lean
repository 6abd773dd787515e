/- Joined texts: LogQ, LogR. -/
import Derived.Test.YtggeepihkeocmaaJPlays15
/- The log's bytes by its contract. -/
namespace Go.Proofs.Ytggeepihkeocmaa
set_option linter.unusedVariables false
set_option linter.unusedSimpArgs false
open Go.RowKit
def lenV (v : Value) : Nat := match v with | .slice _ n _ => n | _ => 0
def bytR (D : Dk) (L : Lg) (at_ n : Nat) : Nat → List Int → Option (List Int)
  | 0, _ => none
  | f + 1, out =>
    if out.length < n then
      if L.base ≤ ((at_ + out.length : Nat) : Int) then some (out ++ (L.buf.drop (((at_ + out.length : Nat) : Int) - L.base).toNat).take (n - out.length))
      else if SecYes (readD D (idxL L ((at_ + out.length) / 480))) ((at_ + out.length) / 480 : Nat) L.epoch ∧ (at_ + out.length) % 480 < (secP (readD D (idxL L ((at_ + out.length) / 480)))).length then
        bytR D L at_ n f (out ++ ((secP (readD D (idxL L ((at_ + out.length) / 480)))).drop ((at_ + out.length) % 480)).take (n - out.length))
      else none
    else some out
set_option maxRecDepth 100000 in
set_option maxHeartbeats 8000000 in
theorem lbytes_calls {base d lb g bc : Nat} {F : Nat → Prop} {bA : Option Addr} {L : Lg} {D : Dk} (at_ n : Nat) (w : World) (hL : LgH w base d g bA bc L) (hD : DD w base d lb F D) (hlen : L.pos + 1 + L.count ≤ D.l.length) (hend : ((at_ + n : Nat) : Int) ≤ endL L) (hn : n ≤ 65536) (hoff : D.off = false) :
    Calls Try.prog 104 #[.pointer (some ⟨g, 0, none⟩), .int .u64 at_, .int .i64 n] w fun e w' => Below w.heap.size w w' ∧
      ((∃ A c out, bytR D L at_ n (n + 1) [] = some out ∧ e = .returned (.tuple #[.slice A n c, .int .i64 0]) ∧ OwB w' w.heap.size A n c out) ∨
       (bytR D L at_ n (n + 1) [] = none ∧ e = .returned (.tuple #[.slice none 0 0, .int .i64 3]))) := by
  have hLx := Lib.hid hL
  have hb0 := hL.ok.base
  have hbf := hL.ok.buf
  have hc0 := hL.ok.count
  have hp0 := hL.ok.pos
  have hcap := hL.buf.shape
  have hendx := Lib.hid hend
  unfold endL at hend
  have hpos1 : ∀ n : Nat, ((idxL L n : Nat) : Int) = L.pos + 1 + (n : Int) % L.count := fun n => by
    have := Int.emod_nonneg (n : Int) (show L.count ≠ 0 by omega)
    unfold idxL; omega
  have hlt1 : ∀ n : Nat, idxL L n < D.l.length := fun n => by
    have h1 := hpos1 n
    have h2 := Int.emod_lt_of_pos (n : Int) (show (0 : Int) < L.count by omega)
    omega
  obtain ⟨R, hR⟩ : ∃ R, bytR D L at_ n (n + 1) [] = R := ⟨_, rfl⟩
  have hRx := Lib.hid hR
  rw [hR]
  clear hR hlen
  go_enter Try.func104, Try.ntmps104
  go_wp2_with fail
  go_loopw [6, 7, 8, 9, 10, 11, 12, 13, 14] (fun _ _ v8 _ _ _ _ _ _ wr => ∃ (f : Nat) (out : List Int) (A : Option Addr) (c : Nat), v8 = .slice A out.length c ∧ OwB wr w.heap.size A out.length c out ∧ out.length ≤ n ∧ n < f + out.length ∧ bytR D L at_ n f out = R ∧ Below w.heap.size w wr) (fun _ _ v8 _ _ _ _ _ _ _ => n - lenV v8)
  case atStart => exact ⟨n + 1, [], none, 0, rfl, OwB.nil _ _, by simp, by simp, hRx.out, Below.refl _ _⟩
  case round =>
    obtain ⟨f, out, A, c, rfl, ho, hon, hf, hg, hB⟩ := hrel
    have hLr := hLx.out.later hB
    have kr := hLr.at_
    have krc := kr.c; have krf := kr.f; have krl := kr.lt
    obtain ⟨f, rfl⟩ : ∃ f', f = f' + 1 := ⟨f - 1, by omega⟩
    unfold bytR at hg
    obtain ⟨ol, hol⟩ : ∃ ol, out.length = ol := ⟨_, rfl⟩
    rw [hol] at hg ho hon hf ⊢
    have holx := Lib.hid hol
    clear hol
    obtain ⟨here, hhere⟩ : ∃ here, at_ + ol = here := ⟨_, rfl⟩
    rw [hhere] at hg
    by_cases hlt : ol < n
    · rw [if_pos hlt] at hg
      have hlti : (ol : Int) < n := by omega
      have z1 : IntKind.u64.wrap (ol : Int) = ol := IntWalk.u64_in _ (by omega)
      have z2 : IntKind.u64.wrap ((at_ : Int) + ol) = (here : Int) := by rw [IntWalk.u64_in _ (by omega)]; omega
      by_cases hbh : L.base ≤ (here : Int)
      · rw [if_pos hbh] at hg
        obtain ⟨fr, hfr⟩ : ∃ fr : Nat, (fr : Int) = (here : Int) - L.base := ⟨((here : Int) - L.base).toNat, by omega⟩
        rw [show ((here : Int) - L.base).toNat = fr by omega] at hg
        have z3 : IntKind.u64.wrap ((here : Int) - L.base) = (fr : Int) := by rw [IntWalk.u64_in _ (by omega)]; omega
        have z4 : IntKind.i64.wrap (fr : Int) = fr := IntWalk.i64_in _ (by omega)
        have z5 : IntKind.i64.wrap ((fr : Int) + n) = (fr : Int) + n := IntWalk.i64_in _ (by omega)
        obtain ⟨hi, hhi⟩ : ∃ hi : Nat, hi = fr + n - ol := ⟨_, rfl⟩
        have z6 : IntKind.i64.wrap ((fr : Int) + n - ol) = (hi : Int) := by rw [IntWalk.i64_in _ (by omega)]; omega
        have y1 : fr + (n - ol) ≤ L.buf.length := by omega
        rcases hcap with ⟨_, h0, _⟩ | ⟨gb, rfl, hcap⟩
        · omega
        have y2 : (fr : Int) ≤ hi := by omega
        have y3 : (hi : Int) ≤ bc := by omega
        have y4 : ¬ (bc = fr) := by omega
        have hcut := hLr.buf.reads.cutN fr hi (by omega) (by omega)
        have hce : (L.buf.take hi).drop fr = (L.buf.drop fr).take (n - ol) := by
          rw [List.drop_take]
          congr 1
          omega
        have hmn : hi - fr = n - ol := by omega
        rw [hce, hmn] at hcut
        have hgx := Lib.hid hg
        clear hg hce hfr hhi hhere
        go_wp2_with (at_builtin; refine wpList_app rfl (.tmp 37) (.tmp 49) rfl w.heap.size ol c A out rfl ho base _ (n - ol) (bc - fr) (some ⟨gb, fr, none⟩) ((L.buf.drop fr).take (n - ol)) rfl hcut (by omega) hB.size ?_; intro A2 c2 w2 ho2 hg2 hb2 hat2)
        go_ret2
        have e : ol + (n - ol) = n := by omega
        rw [e] at ho2
        exact ⟨below_tr hB hb2, .inl ⟨A2, c2, _, hgx.out.symm, by first | rfl | simp, ho2⟩⟩
      · rw [if_neg hbh] at hg
        have hbh2 : ¬ (L.base ≤ (here : Int)) := hbh
        obtain ⟨k, hk⟩ : ∃ k, here / 480 = k := ⟨_, rfl⟩
        obtain ⟨r, hr⟩ : ∃ r, here % 480 = r := ⟨_, rfl⟩
        rw [hk, hr] at hg
        have hq1 : (here : Int).tdiv 480 = (k : Int) := by rw [Int.tdiv_eq_ediv_of_nonneg (by omega)]; omega
        have hq2 : (here : Int).tmod 480 = (r : Int) := by rw [Int.tmod_eq_emod_of_nonneg (by omega)]; omega
        have hr480 : r < 480 := by omega
        have hq3 : IntKind.u64.wrap (k : Int) = k := IntWalk.u64_in _ (by omega)
        obtain ⟨s, hs⟩ : ∃ s, readD D (idxL L k) = s := ⟨_, rfl⟩
        rw [hs] at hg
        have hsx := Lib.hid hs
        have hk9 : k < 4611686018427387904 := by omega
        clear hs hk hr hhere
        go_wp2_with fail
        refine (lsector_w k (idxL L k) wr hLr.w (hD.later hB) hk9 (hpos1 _) (hlt1 _) hoff).mono ?_
        rw [hsx.out]
        rintro e w1 ⟨hb1, (⟨hy, b, rfl, hr1, hbs, hbl⟩ | ⟨hn1, rfl⟩)⟩
        · have hsl := secP_le hy
          have hB1 := below_keep hb1 hB
          have ho1 := ho.later hb1
          obtain ⟨pl, hpl⟩ : ∃ pl, (secP s).length = pl := ⟨_, rfl⟩
          rw [hpl] at hg hsl hr1 ⊢
          have hplw : IntKind.u64.wrap (pl : Int) = pl := IntWalk.u64_in _ (by omega)
          have hplx := Lib.hid hpl
          clear hpl
          by_cases hrp : r < pl
          · rw [if_pos ⟨hy, hrp⟩] at hg
            have hrp2 : ¬ ((pl : Int) ≤ r) := by omega
            have v1 : (r : Int) ≤ pl := by omega
            have v2 : ¬ (494 = r) := by omega
            have v3 : IntKind.i64.wrap ((n : Int) - ol) = ((n - ol : Nat) : Int) := by rw [IntWalk.i64_in _ (by omega)]; omega
            have hcut : BsR w1 b (b + 1) (some ⟨b, 18 + r, none⟩) (pl - r) ((secP s).drop r) := by
              refine ⟨by rw [List.length_drop, hplx.out], hr1.2.1.drop r, fun h0 => ⟨b, 18 + r, rfl, Nat.le_refl _, Nat.lt_succ_self _, fun j hj => ?_⟩⟩
              obtain ⟨gb', go', hA, -, -, hc'⟩ := hr1.at_ (k := r + j) (by omega)
              injection hA with hA
              injection hA with e1 e2
              subst e1; subst e2
              have : (bsF ((secP s).drop r)) j = .int .u8 ((secP s).getD (r + j) 0) := by
                unfold bsF
                simp [List.getD, List.getElem?_drop]
              rw [this, ← hc']
              congr 2
              omega
            by_cases c1 : pl - r < n - ol
            · have c1i : ((pl - r : Nat) : Int) < ((n - ol : Nat) : Int) := by omega
              have m1 : ((pl - r : Nat) : Int) ≤ ((494 - r : Nat) : Int) := by omega
              have m2 : pl - r ≤ 494 - r := by omega
              have hcut2 : BsR w1 b (b + 1) (some ⟨b, 18 + r, none⟩) (pl - r) (((secP s).drop r).take (n - ol)) := by
                rw [List.take_of_length_le (by rw [hcut.1]; omega)]; exact hcut
              have hon2 : (out ++ ((secP s).drop r).take (n - ol)).length = ol + (pl - r) := by rw [List.length_append, holx.out, hcut2.1]
              have hgx := Lib.hid hg
              clear hg
              go_wp2_with (at_builtin; refine wpList_app rfl (.tmp 77) (.tmp 86) rfl w.heap.size ol c A out rfl ho1 b (b + 1) (pl - r) (494 - r) (some ⟨b, 18 + r, none⟩) (((secP s).drop r).take (n - ol)) rfl hcut2 (by omega) hB1.size ?_; intro A2 c2 w2 ho2 hg2 hb2 hat2)
              go_roundw
              case rel =>
                refine ⟨f, out ++ ((secP s).drop r).take (n - ol), A2, c2, by rw [hon2]; try (congr 1; omega), by rw [hon2]; exact ho2, by rw [hon2]; omega, by rw [hon2]; omega, hgx.out, below_tr hB1 hb2⟩
              case measure => simp [lenV]; omega
            · by_cases c2 : n - ol < pl - r
              · have c1i : ¬ (((pl - r : Nat) : Int) < ((n - ol : Nat) : Int)) := by omega
                have c2i : ((n - ol : Nat) : Int) < ((pl - r : Nat) : Int) := by omega
                have m1 : ((n - ol : Nat) : Int) ≤ ((494 - r : Nat) : Int) := by omega
                have m2 : n - ol ≤ 494 - r := by omega
                have hcut2 : BsR w1 b (b + 1) (some ⟨b, 18 + r, none⟩) (n - ol) (((secP s).drop r).take (n - ol)) := by
                  refine ⟨by rw [List.length_take, hcut.1]; omega, hcut.2.1.take _, fun h0 => ?_⟩
                  obtain ⟨gb', go', hA, a1, a2, hc'⟩ := hcut.2.2 (by omega)
                  refine ⟨gb', go', hA, a1, a2, fun j hj => ?_⟩
                  rw [hc' j (by omega)]
                  unfold bsF
                  simp [List.getD, List.getElem?_take, hj]
                have hon2 : (out ++ ((secP s).drop r).take (n - ol)).length = ol + (n - ol) := by rw [List.length_append, holx.out, hcut2.1]
                have hsz2 : ol + (n - ol) ≤ 70368744177664 := by omega
                have hgx := Lib.hid hg
                clear hg
                go_wp2_with (at_builtin; refine wpList_app rfl (.tmp 77) (.tmp 86) rfl w.heap.size ol c A out rfl ho1 b (b + 1) (n - ol) (494 - r) (some ⟨b, 18 + r, none⟩) (((secP s).drop r).take (n - ol)) rfl hcut2 hsz2 hB1.size ?_; intro A2 c2 w2 ho2 hg2 hb2 hat2)
                go_roundw
                case rel =>
                  refine ⟨f, out ++ ((secP s).drop r).take (n - ol), A2, c2, by rw [hon2]; try (congr 1; omega), by rw [hon2]; exact ho2, by rw [hon2]; omega, by rw [hon2]; omega, hgx.out, below_tr hB1 hb2⟩
                case measure => simp [lenV]; omega
              · have c3 : n - ol = pl - r := by omega
                have m1 : ((pl - r : Nat) : Int) ≤ ((494 - r : Nat) : Int) := by omega
                have m2 : pl - r ≤ 494 - r := by omega
                have hcut2 : BsR w1 b (b + 1) (some ⟨b, 18 + r, none⟩) (pl - r) (((secP s).drop r).take (n - ol)) := by
                  rw [List.take_of_length_le (by rw [hcut.1]; omega)]; exact hcut
                have hon2 : (out ++ ((secP s).drop r).take (n - ol)).length = ol + (pl - r) := by rw [List.length_append, holx.out, hcut2.1]
                have hgx := Lib.hid hg
                clear hg
                go_wp2_with (at_builtin; refine wpList_app rfl (.tmp 77) (.tmp 86) rfl w.heap.size ol c A out rfl ho1 b (b + 1) (pl - r) (494 - r) (some ⟨b, 18 + r, none⟩) (((secP s).drop r).take (n - ol)) rfl hcut2 (by omega) hB1.size ?_; intro A2 c2 w2 ho2 hg2 hb2 hat2)
                go_roundw
                case rel =>
                  refine ⟨f, out ++ ((secP s).drop r).take (n - ol), A2, c2, by rw [hon2]; try (congr 1; omega), by rw [hon2]; exact ho2, by rw [hon2]; omega, by rw [hon2]; omega, hgx.out, below_tr hB1 hb2⟩
                case measure => simp [lenV]; omega
          · rw [if_neg (fun h => hrp h.2)] at hg
            have hrp2 : (pl : Int) ≤ r := by omega
            have hgx := Lib.hid hg
            clear hg
            go_wp2
            go_ret2
            exact ⟨hB1, .inr ⟨hgx.out.symm, by first | rfl | simp⟩⟩
        · have hB1 := below_keep hb1 hB
          rw [if_neg (fun h => hn1 h.1)] at hg
          have hgx := Lib.hid hg
          clear hg
          go_wp2
          go_ret2
          exact ⟨hB1, .inr ⟨hgx.out.symm, by first | rfl | simp⟩⟩
    · rw [if_neg hlt] at hg
      have hlti : ¬ ((ol : Int) < n) := by omega
      have hgx := Lib.hid hg
      have e : ol = n := by omega
      subst e
      clear hg hhere
      go_wp2
      go_ret2
      exact ⟨hB, .inl ⟨A, c, out, hgx.out.symm, by first | rfl | simp, ho⟩⟩
end Go.Proofs.Ytggeepihkeocmaa
/- The log's Read by its contract. -/
namespace Go.Proofs.Ytggeepihkeocmaa
set_option linter.unusedVariables false
set_option linter.unusedSimpArgs false
open Go.RowKit
theorem end_i {L : Lg} (h : LgOk L) : 0 ≤ endL L ∧ endL L ≤ 2199023255552 := by
  have h1 := h.base; have h2 := h.buf
  unfold endL; omega
set_option maxRecDepth 100000 in
set_option maxHeartbeats 4000000 in
theorem lread_arg {base d g bc : Nat} {bA : Option Addr} {L : Lg} (a : Int) (w : World) (h : LgH w base d g bA bc L) (hx : a < L.start ∨ endL L < a) :
    Calls Try.prog 78 #[.pointer (some ⟨g, 0, none⟩), .int .u64 a] w fun e w' => e = .returned (.tuple #[.slice none 0 0, .int .u64 0, .int .i64 1]) ∧ ∃ k, w' = w.drewN k := by
  obtain ⟨en, hen⟩ : ∃ en, endL L = en := ⟨_, rfl⟩
  rw [hen] at hx
  have henx := Lib.hid hen
  have hhx := Lib.hid h
  clear hen
  rcases Bool.eq_false_or_eq_true (decide (a < L.start)) with c1 | c1
  · clear hx
    go_enter Try.func78, Try.ntmps78
    go_wp2_with fail
    refine (lend_q w en h henx.out).mono ?_
    rintro e w1 ⟨rfl, kd, rfl⟩
    have k0 := (hhx.out.drewN kd).at_
    have k0c := k0.c; have k0f := k0.f; have k0l := k0.lt
    go_wp2_with fail
    go_ret3
    exact ⟨by first | rfl | simp, kd, rfl⟩
  · have c2 : decide (en < a) = true := by simp at c1 ⊢; omega
    clear hx
    go_enter Try.func78, Try.ntmps78
    go_wp2_with fail
    refine (lend_q w en h henx.out).mono ?_
    rintro e w1 ⟨rfl, kd, rfl⟩
    have k0 := (hhx.out.drewN kd).at_
    have k0c := k0.c; have k0f := k0.f; have k0l := k0.lt
    go_wp2_with fail
    go_ret3
    exact ⟨by first | rfl | simp, kd, rfl⟩
set_option maxRecDepth 100000 in
set_option maxHeartbeats 4000000 in
theorem lread_none {base d g bc : Nat} {bA : Option Addr} {L : Lg} (a : Int) (w : World) (h : LgH w base d g bA bc L) (hx : endL L = a) :
    Calls Try.prog 78 #[.pointer (some ⟨g, 0, none⟩), .int .u64 a] w fun e w' => e = .returned (.tuple #[.slice none 0 0, .int .u64 0, .int .i64 6]) ∧ ∃ k, w' = w.drewN k := by
  have hhx := Lib.hid h
  have hs := h.ok.start
  have hsu := h.ok.sure
  rw [hx] at hsu
  have c1 : decide (a < L.start) = false := by simp; omega
  have hxx := Lib.hid hx
  clear hx
  go_enter Try.func78, Try.ntmps78
  go_wp2_with fail
  refine (lend_q w a h hxx.out).mono ?_
  rintro e w1 ⟨rfl, kd, rfl⟩
  have k0 := (hhx.out.drewN kd).at_
  have k0c := k0.c; have k0f := k0.f; have k0l := k0.lt
  go_wp2_with fail
  go_ret3
  exact ⟨by first | rfl | simp, kd, rfl⟩
set_option maxRecDepth 100000 in
set_option maxHeartbeats 8000000 in
theorem lread_ok {base d lb g bc : Nat} {F : Nat → Prop} {bA : Option Addr} {L : Lg} {D : Dk} {x y : Int} {p : List Int} (at_ n : Nat) (w : World) (hL : LgH w base d g bA bc L) (hD : DD w base d lb F D) (hlen : L.pos + 1 + L.count ≤ D.l.length) (hoff : D.off = false)
    (hst : L.start ≤ at_) (hend : ((at_ + 2 + n : Nat) : Int) ≤ endL L) (hh : bytR D L at_ 2 3 [] = some [x, y]) (hx : 0 ≤ x ∧ x ≤ 255) (hy : 0 ≤ y ∧ y ≤ 255) (hn : x * 256 + y = n) (hn0 : 0 < n) (hp : bytR D L (at_ + 2) n (n + 1) [] = some p) :
    Calls Try.prog 78 #[.pointer (some ⟨g, 0, none⟩), .int .u64 at_] w fun e w' => ∃ A c, e = .returned (.tuple #[.slice A n c, .int .u64 ((at_ + 2 + n : Nat) : Int), .int .i64 0]) ∧ OwB w' w.heap.size A n c p ∧ Below w.heap.size w w' := by
  obtain ⟨en, hen⟩ : ∃ en, endL L = en := ⟨_, rfl⟩
  have hei := end_i hL.ok
  rw [hen] at hei
  have henx := Lib.hid hen
  have hendx := Lib.hid hend
  rw [hen] at hend
  have hhx := Lib.hid hh
  have hpx := Lib.hid hp
  have hLx := Lib.hid hL
  have c1 : decide ((at_ : Int) < L.start) = false := by simp; omega
  have c2 : decide (en < (at_ : Int)) = false := by simp; omega
  have c3 : ¬ ((at_ : Int) = en) := by omega
  have c4 : IntKind.u64.wrap (en - (at_ : Int)) = en - at_ := IntWalk.u64_in _ (by omega)
  have c5 : ¬ (en - (at_ : Int) < 2) := by omega
  have c6 : IntKind.u64.wrap ((at_ : Int) + 2) = ((at_ + 2 : Nat) : Int) := by rw [IntWalk.u64_in _ (by omega)]; omega
  have c7 : IntKind.u64.wrap (en - (at_ : Int) - 2) = en - at_ - 2 := IntWalk.u64_in _ (by omega)
  have c8 : IntKind.u64.wrap (n : Int) = n := IntWalk.u64_in _ (by omega)
  have c9 : ¬ (en - (at_ : Int) - 2 < n) := by omega
  have c10 : ¬ ((n : Int) = 0) := by omega
  have c9b : decide (en - (at_ : Int) - 2 < n) = false := by simp; omega
  have c10b : decide ((n : Int) = 0) = false := by simp; omega
  have c10c : ¬ (n = 0) := by omega
  have c11 : IntKind.u64.wrap (((at_ + 2 : Nat) : Int) + n) = ((at_ + 2 + n : Nat) : Int) := by rw [IntWalk.u64_in _ (by omega)]; omega
  have hbe := be16 hx.1 hx.2 hy.1 hy.2
  rw [hn] at hbe
  have hn9 : n ≤ 65536 := by omega
  clear hen hh hp hend hn
  go_enter Try.func78, Try.ntmps78
  go_wp2_with fail
  refine (lend_q w en hL henx.out).mono ?_
  rintro e w1 ⟨rfl, kd, hkd⟩
  have hB1 : Below w.heap.size w w1 := by rw [hkd]; exact below_drewN (Below.refl _ _) kd
  clear hkd
  have k1 := (hLx.out.later hB1).at_
  have k1c := k1.c; have k1f := k1.f; have k1l := k1.lt
  go_wp2_with fail
  refine (lbytes_calls at_ 2 w1 (hLx.out.later hB1) (hD.later hB1) hlen (by have := hendx.out; omega) (by omega) hoff).mono ?_
  rw [hhx.out]
  rintro e w2 ⟨hb2, (⟨A, c, out, ho, rfl, hA⟩ | ⟨hno, -⟩)⟩
  · injection ho with ho
    subst ho
    have hB2 := below_keep hb2 hB1
    obtain ⟨gb, rfl⟩ := hA.some8 (by omega)
    have hr := hA.reads
    obtain ⟨gb', go', hA0, -, -, hca⟩ := hr.at_ (k := 0) (by omega)
    injection hA0 with hA0
    injection hA0 with e1 e2
    subst e1; subst e2
    obtain ⟨gb', go', hA1, -, -, hcb⟩ := hr.at_ (k := 1) (by omega)
    injection hA1 with hA1
    injection hA1 with e1 e2
    subst e1; subst e2
    have hca' : w2.cell? ⟨gb, 0, none⟩ = some (.int .u8 x) := hca
    have hcb' : w2.cell? ⟨gb, 1, none⟩ = some (.int .u8 y) := hcb
    clear hca hcb k1 k1c k1f k1l
    go_upto_region 13 with (fail)
    go_region_held3 (fun w' => w'.cell? ⟨gb, 0, none⟩ = some (.int .u8 x) ∧ w'.cell? ⟨gb, 1, none⟩ = some (.int .u8 y)) (go_keep) (fail)
    have hB3 : Below w.heap.size w w2.drew := below_dr hB2
    go_wp2_with fail
    refine (lbytes_calls (at_ + 2) n w2.drew (hLx.out.later hB3) (hD.later hB3) hlen hendx.out hn9 hoff).mono ?_
    rw [hpx.out]
    rintro e w4 ⟨hb4, (⟨A4, c4', out4, ho4, rfl, hA4⟩ | ⟨hno, -⟩)⟩
    · injection ho4 with ho4
      subst ho4
      go_wp2_with fail
      go_ret3
      exact ⟨A4, c4', by first | rfl | simp, hA4.less hB3.size, below_keep hb4 hB3⟩
    · cases hno
  · cases hno
end Go.Proofs.Ytggeepihkeocmaa
