/- Joined texts: LogN. -/
import Derived.Test.YtggeepihkeocmaaJPlays12
import Derived.Deep.DeepCutAuto
/- The log's scan by its contract. -/
namespace Go.Proofs.Ytggeepihkeocmaa
set_option linter.unusedVariables false
set_option linter.unusedSimpArgs false
open Go.RowKit
def idxL (L : Lg) (k : Nat) : Nat := (L.pos + 1 + (k : Int) % L.count).toNat
/-- What the sectors from one on say together. -/
def gath (D : Dk) (L : Lg) : Nat → Nat → List Int → Int → List Int
  | 0, _, acc, _ => acc
  | f + 1, k, acc, last =>
    if SecYes (readD D (idxL L k)) k L.epoch ∧ last ≤ numE (readD D (idxL L k)) then
      if (secP (readD D (idxL L k))).length < 480 then acc ++ secP (readD D (idxL L k))
      else gath D L f (k + 1) (acc ++ secP (readD D (idxL L k))) (numE (readD D (idxL L k)))
    else acc
def prs (l : List Int) : Nat → Nat → Nat
  | 0, a => a
  | f + 1, a =>
    if 2 ≤ l.length - a then
      if l.getD a 0 * 256 + l.getD (a + 1) 0 = 0 ∨ 1200 < l.getD a 0 * 256 + l.getD (a + 1) 0 ∨ ((l.length - a - 2 : Nat) : Int) < l.getD a 0 * 256 + l.getD (a + 1) 0 then a
      else prs l f (a + (2 + (l.getD a 0 * 256 + l.getD (a + 1) 0).toNat))
    else a
theorem secP_le {s : List Int} {k ep : Int} (h : SecYes s k ep) : (secP s).length ≤ 480 := by
  have := h.2.1
  unfold secP
  rw [List.length_drop, List.length_take]
  unfold usedS at *
  omega
theorem gath_len (D : Dk) (L : Lg) : ∀ (f k : Nat) (acc : List Int) (last : Int), (gath D L f k acc last).length ≤ acc.length + f * 480
  | 0, _, acc, _ => by unfold gath; omega
  | f + 1, k, acc, last => by
    unfold gath
    by_cases h : SecYes (readD D (idxL L k)) k L.epoch ∧ last ≤ numE (readD D (idxL L k))
    · rw [if_pos h]
      have h1 := secP_le h.1
      have h2 : (acc ++ secP (readD D (idxL L k))).length = acc.length + (secP (readD D (idxL L k))).length := List.length_append
      by_cases h3 : (secP (readD D (idxL L k))).length < 480
      · rw [if_pos h3, h2]; omega
      · rw [if_neg h3]
        have := gath_len D L f (k + 1) (acc ++ secP (readD D (idxL L k))) (numE (readD D (idxL L k)))
        omega
    · rw [if_neg h]; omega
theorem prs_le (l : List Int) : ∀ (f a : Nat), a ≤ l.length → a ≤ prs l f a ∧ prs l f a ≤ l.length
  | 0, a, h => ⟨Nat.le_refl _, h⟩
  | f + 1, a, h => by
    unfold prs
    by_cases h1 : 2 ≤ l.length - a
    · rw [if_pos h1]
      by_cases h2 : l.getD a 0 * 256 + l.getD (a + 1) 0 = 0 ∨ 1200 < l.getD a 0 * 256 + l.getD (a + 1) 0 ∨ ((l.length - a - 2 : Nat) : Int) < l.getD a 0 * 256 + l.getD (a + 1) 0
      · rw [if_pos h2]; omega
      · rw [if_neg h2]
        have := prs_le l f (a + (2 + (l.getD a 0 * 256 + l.getD (a + 1) 0).toNat)) (by omega)
        omega
    · rw [if_neg h1]; omega
theorem BsR.cutN {w : World} {lo hi n g : Nat} {l : List Int} (h : BsR w lo hi (some ⟨g, 0, none⟩) n l) (k m : Nat) (hm : m ≤ n) (hkm : k ≤ m) :
    BsR w lo hi (some ⟨g, k, none⟩) (m - k) ((l.take m).drop k) := by
  refine ⟨by rw [List.length_drop, List.length_take, h.1]; omega, (h.2.1.take m).drop k, fun h0 => ?_⟩
  obtain ⟨gb, go', hA, a1, a2, hc'⟩ := h.2.2 (by omega)
  injection hA with hA
  injection hA with e1 e2
  subst e1; subst e2
  refine ⟨g, k, rfl, a1, a2, fun j hj => ?_⟩
  have e := hc' (k + j) (by omega)
  rw [Nat.zero_add] at e
  rw [e]
  have hl := h.1
  have e2 : ((l.take m).drop k).getD j 0 = l.getD (k + j) 0 := by
    simp [List.getD, List.getElem?_drop, List.getElem?_take]
    rw [if_pos (by omega)]
  unfold bsF
  rw [e2]
theorem BsR.none0 (w : World) (lo hi : Nat) (A : Option Addr) : BsR w lo hi A 0 [] := ⟨rfl, Byt.nil, Rd.nil _ _ _ _ _⟩
theorem OwB.shape {w : World} {base n c : Nat} {A : Option Addr} {l : List Int} (h : OwB w base A n c l) : (A = none ∧ n = 0 ∧ c = 0) ∨ ∃ g, A = some ⟨g, 0, none⟩ ∧ n ≤ c := by
  rcases h.2.2.2 with ⟨hv, h0⟩ | ⟨g, cap, cur, hv, h2, h3, h4, h5⟩
  · injection hv with e1 e2 e3
    exact .inl ⟨e1, by omega, by omega⟩
  · injection hv with e1 e2 e3
    exact .inr ⟨g, e1, by omega⟩
def scanG (D : Dk) (L : Lg) : List Int := gath D L L.count.toNat (L.start / 480).toNat [] 0
def scanP (D : Dk) (L : Lg) : Nat := prs (scanG D L) (scanG D L).length (min (L.start % 480).toNat (scanG D L).length)
/-- The log that scan finds. -/
def scanL (D : Dk) (L : Lg) : Lg := { L with base := (L.start / 480 * 480 + scanP D L) / 480 * 480, buf := ((scanG D L).take (scanP D L)).drop (scanP D L / 480 * 480), sure := L.start / 480 * 480 + scanP D L }
set_option maxRecDepth 100000 in
set_option maxHeartbeats 8000000 in
theorem lscan_w {base d lb g : Nat} {F : Nat → Prop} {L : Lg} {D : Dk} (w : World) (hL : LgW w base d g none 0 L) (hD : DD w base d lb F D) (hlen : L.pos + 1 + L.count ≤ D.l.length) (hst : L.start < 2305843009213693952) (hb0 : L.base = 0) (hbf : L.buf = []) (hoff : D.off = false) :
    Calls Try.prog 94 #[.pointer (some ⟨g, 0, none⟩)] w fun e w' => ((scanG D L).length < (L.start % 480).toNat ∧ e = .returned (.int .i64 3) ∧ Below w.heap.size w w') ∨
      ((L.start % 480).toNat ≤ (scanG D L).length ∧ e = .returned (.int .i64 0) ∧ (∃ bA bc, LgW w' base d g bA bc (scanL D L) ∧ OwB w' w.heap.size bA (scanL D L).buf.length bc (scanL D L).buf) ∧ Mod (fun j => j = g) w w') := by
  have hLx := Lib.hid hL
  have k0 := hL.at_
  have hep := hL.epoch
  have hc0 := hL.count
  have hp0 := hL.pos
  have hs0 := hL.start
  obtain ⟨k, hk⟩ : ∃ k : Nat, (k : Int) = L.start / 480 := ⟨(L.start / 480).toNat, by omega⟩
  have hst2 : L.start.tdiv 480 = k := by rw [Int.tdiv_eq_ediv_of_nonneg hs0.1, hk]
  have hpos1 : ∀ n : Nat, ((idxL L n : Nat) : Int) = L.pos + 1 + (n : Int) % L.count := fun n => by
    have := Int.emod_nonneg (n : Int) (show L.count ≠ 0 by omega)
    unfold idxL; omega
  have hlt1 : ∀ n : Nat, idxL L n < D.l.length := fun n => by
    have h1 := hpos1 n
    have h2 := Int.emod_lt_of_pos (n : Int) (show (0 : Int) < L.count by omega)
    omega
  obtain ⟨cn, hcn⟩ : ∃ cn : Nat, (cn : Int) = L.count := ⟨L.count.toNat, by omega⟩
  have hcw : IntKind.u64.wrap L.count = L.count := IntWalk.u64_in _ (by omega)
  obtain ⟨G, hG⟩ : ∃ G, gath D L cn k [] 0 = G := ⟨_, rfl⟩
  have hGl : G.length ≤ cn * 480 := by
    have := gath_len D L cn k [] 0
    rw [hG] at this
    simpa using this
  have hGs : scanG D L = G := by
    unfold scanG
    rw [← hG, show L.count.toNat = cn by omega, show (L.start / 480).toNat = k by omega]
  obtain ⟨q, hq⟩ : ∃ q : Nat, (q : Int) = L.start % 480 := ⟨(L.start % 480).toNat, by omega⟩
  have hqt : L.start.tmod 480 = q := by rw [Int.tmod_eq_emod_of_nonneg hs0.1, hq]
  have hqn : (L.start % 480).toNat = q := by omega
  have hq480 : q < 480 := by omega
  have hqw : IntKind.i64.wrap (q : Int) = q := IntWalk.i64_in _ (by omega)
  obtain ⟨P, hP⟩ : ∃ P, scanP D L = P := ⟨_, rfl⟩
  have hPx : Hid (prs G G.length (min q G.length) = P) := Lib.hid (by rw [← hP]; unfold scanP; rw [hGs, hqn])
  have hsL : scanL D L = { L with base := ((k : Int) * 480 + P) / 480 * 480, buf := (G.take P).drop (P / 480 * 480), sure := (k : Int) * 480 + P } := by
    unfold scanL
    rw [hGs, hP, hk]
  rw [hGs, hqn]
  have hsLx := Lib.hid hsL
  clear hsL hP hGs hq hqn
  have hk9 : k < 9007199254740992 := by omega
  have hkx := Lib.hid hk
  have hcnx := Lib.hid hcn
  have hcn9 : cn ≤ 4096 := by omega
  clear hk hcn
  have k0c := k0.c; have k0f := k0.f; have k0l := k0.lt
  go_enter Try.func94, Try.ntmps94
  go_upto_region 2 with (fail)
  go_cut [5] (fun v5 wc => v5 = .slice none 0 0 ∧ w = wc)
  case first =>
    go_wp2
    go_meet
    case rel => exact ⟨rfl, rfl⟩
  case rest =>
    obtain ⟨rfl, rfl⟩ := hcut
    refine (‹∀ (a : Act) (w : World), Code.wp Try.prog _ _ a w → _›) _ _ ?_
    refine wp_seq_k (fun K2 hK2 => ?_)
    go_cut [4, 5, 6, 7, 8, 9, 10] (fun _ v5 _ _ _ _ _ wc => ∃ A c, v5 = .slice A G.length c ∧ OwB wc w.heap.size A G.length c G ∧ Below w.heap.size w wc)
    case first =>
      go_wp2_with fail
      go_loopw [4, 5, 6, 7, 8, 9, 10] (fun v4 v5 v6 _ _ _ _ wr => ∃ (n : Nat) (acc : List Int) (last : Int) (A : Option Addr) (c : Nat), n ≤ cn ∧ v4 = .int .u64 last ∧ v5 = .slice A acc.length c ∧ v6 = .int .u64 n ∧ OwB wr w.heap.size A acc.length c acc ∧ Below w.heap.size w wr ∧ acc.length ≤ n * 480 ∧ gath D L (cn - n) (k + n) acc last = G) (fun _ _ v6 _ _ _ _ _ => cn - (intOf v6).toNat)
      case atStart => exact ⟨0, [], 0, none, 0, by omega, rfl, rfl, rfl, OwB.nil _ _, Below.refl _ _, by simp, hG⟩
      case round =>
        obtain ⟨n, acc, last, A, c, hn, rfl, rfl, rfl, ho, hB, hal, hg⟩ := hrel
        have kr := At.keep hB k0
        have krc := kr.c; have krf := kr.f; have krl := kr.lt
        by_cases hlt : n < cn
        · have hlt2 : (n : Int) < L.count := by have := hcnx.out; omega
          have hkn : IntKind.u64.wrap ((k : Int) + n) = ((k + n : Nat) : Int) := by rw [IntWalk.u64_in _ (by omega)]; omega
          clear k0c k0f k0l
          go_wp2_with fail
          refine (lsector_w (k + n) (idxL L (k + n)) wr (hLx.out.later hB) (hD.later hB) (by omega) (hpos1 _) (hlt1 _) hoff).mono ?_
          obtain ⟨f, hf⟩ : ∃ f, cn - n = f + 1 := ⟨cn - n - 1, by omega⟩
          rw [hf] at hg
          unfold gath at hg
          obtain ⟨s, hs⟩ : ∃ s, readD D (idxL L (k + n)) = s := ⟨_, rfl⟩
          rw [hs] at hg ⊢
          rintro e w1 ⟨hb1, (⟨hy, b, rfl, hr1, hbs, hbl⟩ | ⟨hn1, rfl⟩)⟩
          · have hB1 := below_keep hb1 hB
            have ho1 := ho.later hb1
            by_cases hel : last ≤ numE s
            · have hel2 : ¬ (numE s < last) := by omega
              rw [if_pos ⟨hy, hel⟩] at hg
              have hsl : (secP s).length ≤ 480 := by have := hy.2.1; unfold secP; rw [List.length_drop, List.length_take]; unfold usedS at *; omega
              obtain ⟨pl, hpl⟩ : ∃ pl, (secP s).length = pl := ⟨_, rfl⟩
              rw [hpl] at hg hsl hr1 ⊢
              have hap : (acc ++ secP s).length = acc.length + pl := by rw [List.length_append, hpl]
              by_cases h480 : pl < 480
              · have h481 : (pl : Int) < 480 := by omega
                rw [if_pos h480] at hg
                go_wp2_with (at_builtin; refine wpList_app rfl (.tmp 48) (.tmp 49) rfl w.heap.size acc.length c A acc rfl ho1 b (b + 1) pl 494 (some ⟨b, 18, none⟩) (secP s) rfl hr1 (by omega) hB1.size ?_; intro A2 c2 w2 ho2 hg2 hb2 hat2; have hB2 := below_tr hB1 hb2)
                go_meet
                case rel =>
                  subst hg
                  rw [hap]
                  exact ⟨A2, c2, rfl, ho2, hB2⟩
              · have h481 : ¬ ((pl : Int) < 480) := by omega
                rw [if_neg h480] at hg
                go_wp2_with (at_builtin; refine wpList_app rfl (.tmp 48) (.tmp 49) rfl w.heap.size acc.length c A acc rfl ho1 b (b + 1) pl 494 (some ⟨b, 18, none⟩) (secP s) rfl hr1 (by omega) hB1.size ?_; intro A2 c2 w2 ho2 hg2 hb2 hat2; have hB2 := below_tr hB1 hb2)
                go_roundw
                case rel =>
                  refine ⟨n + 1, acc ++ secP s, numE s, A2, c2, by omega, rfl, by rw [hap], by go_num, by rw [hap]; exact ho2, hB2, by rw [hap]; omega, ?_⟩
                  rw [show cn - (n + 1) = f by omega]
                  exact hg
                case measure => simp [intOf]; omega
            · have hel2 : numE s < last := by omega
              rw [if_neg (fun h => hel h.2)] at hg
              go_wp2
              go_meet
              case rel =>
                subst hg
                exact ⟨A, c, rfl, ho1, hB1⟩
          · have hB1 := below_keep hb1 hB
            have ho1 := ho.later hb1
            rw [if_neg (fun h => hn1 h.1)] at hg
            go_wp2
            go_meet
            case rel =>
              subst hg
              exact ⟨A, c, rfl, ho1, hB1⟩
        · have hno : ¬ ((n : Int) < L.count) := by have := hcnx.out; omega
          obtain rfl : n = cn := by omega
          go_wp2
          go_meet
          case rel =>
            rw [Nat.sub_self] at hg
            subst hg
            exact ⟨A, c, rfl, ho, hB⟩
    case rest =>
      obtain ⟨A, c, rfl, ho, hB⟩ := hcut
      have kr := At.keep hB k0
      have krc := kr.c; have krf := kr.f; have krl := kr.lt
      clear k0c k0f k0l hG
      obtain ⟨w2, hw2⟩ : ∃ w2, w2 = wc := ⟨_, rfl⟩
      subst hw2
      go_upto_region 12 with (fail)
      go_cut [11] (fun v11 wc => v11 = .int .i64 ((min q G.length : Nat) : Int) ∧ w2 = wc)
      case first =>
        go_wp2
        all_goals go_meet
        all_goals (case rel => exact ⟨by first | rfl | (congr 1; omega), rfl⟩)
      case rest =>
        obtain ⟨rfl, rfl⟩ := hcut
        obtain ⟨a0, ha0⟩ : ∃ a0, min q G.length = a0 := ⟨_, rfl⟩
        have ha0l : a0 ≤ G.length ∧ a0 ≤ q := by omega
        have hPy : Hid (prs G G.length a0 = P) := Lib.hid (by rw [← ha0]; exact hPx.out)
        have hPr : a0 ≤ P ∧ P ≤ G.length := by rw [← hPy.out]; exact prs_le G G.length a0 ha0l.1
        rw [ha0]
        have ha0x := Lib.hid ha0
        clear ha0
        refine (‹∀ (a : Act) (w : World), Code.wp Try.prog _ _ a w → _›) _ _ ?_
        refine wp_seq_k (fun K3 hK3 => ?_)
        go_cut [11, 12] (fun v11 _ wc => v11 = .int .i64 (P : Int) ∧ Below w2.heap.size w2 wc)
        case first =>
          have hby := Lib.hid ho.2.1
          go_wp2_with fail
          go_loopw [11, 12] (fun v11 _ wr => ∃ (a f : Nat), v11 = .int .i64 (a : Int) ∧ a ≤ G.length ∧ G.length - a ≤ f ∧ prs G f a = P ∧ Below w2.heap.size w2 wr) (fun v11 _ _ => G.length - (intOf v11).toNat)
          case atStart => exact ⟨a0, G.length, rfl, ha0l.1, by omega, hPy.out, Below.refl _ _⟩
          case round =>
            obtain ⟨a, f, rfl, haG, hfu, hg, hB2⟩ := hrel
            have hsub : IntKind.i64.wrap ((G.length : Int) - a) = ((G.length - a : Nat) : Int) := by rw [IntWalk.i64_in _ (by omega)]; omega
            by_cases h2 : 2 ≤ G.length - a
            · have h2i : (2 : Int) ≤ ((G.length - a : Nat) : Int) := by omega
              obtain ⟨gb, rfl⟩ := ho.some8 (by omega)
              have hrd := ho.reads.below hB2 (Nat.le_refl _)
              obtain ⟨gb', go', hA, -, -, hca⟩ := hrd.at_ (k := a) (by omega)
              injection hA with hA
              injection hA with e1 e2
              subst e1; subst e2
              obtain ⟨gb', go', hA, -, -, hcb⟩ := hrd.at_ (k := a + 1) (by omega)
              injection hA with hA
              injection hA with e1 e2
              subst e1; subst e2
              rw [Nat.zero_add] at hca hcb
              have hxr := hby.out.getD a
              have hyr := hby.out.getD (a + 1)
              obtain ⟨f, rfl⟩ : ∃ f', f = f' + 1 := ⟨f - 1, by omega⟩
              unfold prs at hg
              rw [if_pos h2] at hg
              generalize G.getD a 0 = x at *
              generalize G.getD (a + 1) 0 = y at *
              have hbe := be16 hxr.1 hxr.2 hyr.1 hyr.2
              obtain ⟨N, hN⟩ : ∃ N, x * 256 + y = N := ⟨_, rfl⟩
              rw [hN] at hbe hg
              have hN0 : 0 ≤ N ∧ N < 65536 := by omega
              have ha1 : (a : Int) < G.length := by omega
              have ha2 : (a : Int) + 1 < G.length := by omega
              have ha3 : IntKind.i64.wrap ((a : Int) + 1) = (a : Int) + 1 := IntWalk.i64_in _ (by omega)
              have ha4 : (0 : Int) ≤ a + 1 := by omega
              have hsub2 : IntKind.i64.wrap (((G.length - a : Nat) : Int) - 2) = ((G.length - a - 2 : Nat) : Int) := by rw [IntWalk.i64_in _ (by omega)]; omega
              have hNx := Lib.hid hN
              clear hN
              go_upto_region 14 with (fail)
              go_region_held3 (fun w' => w'.cell? ⟨gb, a, none⟩ = some (.int .u8 x) ∧ w'.cell? ⟨gb, a + 1, none⟩ = some (.int .u8 y)) (go_keep) (fail)
              have hB3 : Below w2.heap.size w2 wr.drew := below_dr hB2
              by_cases c1 : N = 0
              · rw [if_pos (.inl c1)] at hg
                subst hg
                go_wp2
                go_meet
                case rel => exact ⟨rfl, hB3⟩
              · by_cases c2 : 1200 < N
                · rw [if_pos (.inr (.inl c2))] at hg
                  subst hg
                  go_wp2
                  go_meet
                  case rel => exact ⟨rfl, hB3⟩
                · by_cases c3 : ((G.length - a - 2 : Nat) : Int) < N
                  · rw [if_pos (.inr (.inr c3))] at hg
                    subst hg
                    go_wp2
                    go_meet
                    case rel => exact ⟨rfl, hB3⟩
                  · rw [if_neg (fun h => h.elim c1 (fun h => h.elim c2 c3))] at hg
                    obtain ⟨Nn, hNn⟩ : ∃ Nn : Nat, (Nn : Int) = N := ⟨N.toNat, by omega⟩
                    subst hNn
                    have hw3 : IntKind.i64.wrap (2 + (Nn : Int)) = 2 + Nn := IntWalk.i64_in _ (by omega)
                    have hw4 : IntKind.i64.wrap ((a : Int) + (2 + Nn)) = a + (2 + Nn) := IntWalk.i64_in _ (by omega)
                    go_wp2
                    go_roundw
                    case rel => exact ⟨a + (2 + Nn), f, by go_num, by omega, by omega, by rw [← hg]; simp, hB3⟩
                    case measure => simp [intOf]; omega
            · have h2i : ¬ ((2 : Int) ≤ ((G.length - a : Nat) : Int)) := by omega
              have : a = P := by
                cases f with
                | zero => exact hg
                | succ f => unfold prs at hg; rw [if_neg h2] at hg; exact hg
              subst this
              go_wp2
              go_meet
              case rel => exact ⟨rfl, hB2⟩
        case rest =>
          obtain ⟨rfl, hB3⟩ := hcut
          have hBw : Below w.heap.size w wc := below_keep hB3 hB
          have ho3 := ho.later hB3
          clear kr krc krf krl ho hB hB3
          have kr := At.keep hBw k0
          have krc := kr.c; have krf := kr.f; have krl := kr.lt
          by_cases hform : G.length < q
          · have hfi : (G.length : Int) < q := by omega
            go_wp2
            go_ret
            exact .inl ⟨hform, by first | rfl | simp, hBw⟩
          · have hfi : ¬ ((G.length : Int) < q) := by omega
            obtain ⟨lo, hlo⟩ : ∃ lo, P / 480 * 480 = lo := ⟨_, rfl⟩
            obtain ⟨t, ht⟩ : ∃ t : Int, ((k : Int) * 480 + P) / 480 = t := ⟨_, rfl⟩
            obtain ⟨bs, hbs⟩ : ∃ bs : Int, t * 480 = bs := ⟨_, rfl⟩
            have hbs2 : bs = (k : Int) * 480 + lo := by omega
            have hloP : lo ≤ P := by omega
            have z1 : IntKind.u64.wrap ((k : Int) * 480) = (k : Int) * 480 := IntWalk.u64_in _ (by omega)
            have z2 : IntKind.u64.wrap (P : Int) = (P : Int) := IntWalk.u64_in _ (by omega)
            have z3 : IntKind.u64.wrap ((k : Int) * 480 + P) = (k : Int) * 480 + P := IntWalk.u64_in _ (by omega)
            have z4 : ((k : Int) * 480 + P).tdiv 480 = t := by rw [Int.tdiv_eq_ediv_of_nonneg (by omega), ht]
            have z5 : IntKind.u64.wrap (t * 480) = bs := by rw [← hbs]; exact IntWalk.u64_in _ (by omega)
            have z7 : IntKind.u64.wrap t = t := IntWalk.u64_in _ (by omega)
            have z8 : IntKind.u64.wrap bs = bs := IntWalk.u64_in _ (by omega)
            have z6 : IntKind.u64.wrap (bs - (k : Int) * 480) = (lo : Int) := by rw [IntWalk.u64_in _ (by omega)]; omega
            have hsL2 : Hid (scanL D L = { L with base := bs, buf := (G.take P).drop lo, sure := (k : Int) * 480 + P }) := Lib.hid (by rw [hsLx.out, ht, hbs, hlo])
            have hlox := Lib.hid hlo
            have hbs2x := Lib.hid hbs2
            clear hlo ht hbs2 hbs
            have hrl : ((G.take P).drop lo).length = P - lo := by rw [List.length_drop, List.length_take]; omega
            go_upto_region 21 with (fail)
            have kv := At.set (o := 8) (v := .int .u64 bs) kr
            have hsv : wc.heap.size ≤ (wc.setCell ⟨g, 8, none⟩ (.int .u64 bs)).heap.size := ((Mod.refl (fun j => j = g) wc).set (.inl rfl) (.int .u64 bs)).size
            have hov : OwB (wc.setCell ⟨g, 8, none⟩ (.int .u64 bs)) w.heap.size A G.length c G := ownBlk_set ho3 (fun h => by have h1 := ho3.lt g h.symm; have h2 := k0.lt; omega)
            have hmv : Mod (fun j => j = g) w (wc.setCell ⟨g, 8, none⟩ (.int .u64 bs)) := Mod.set (S := fun j => j = g) (Mod.of_below hBw) (k := g) (.inl rfl) _
            simp only [List.setIfInBounds_toArray, List.set_cons_zero, List.set_cons_succ] at kv
            clear kr krc krf krl ho3
            generalize (wc.setCell ⟨g, 8, none⟩ (.int .u64 bs)) = wv at *
            have kvc := kv.c; have kvf := kv.f; have kvl := kv.lt
            have hPi : (P : Int) ≤ G.length := by omega
            have hloi : (lo : Int) ≤ P := by omega
            have hlo0 : (0 : Int) ≤ lo := by omega
            rcases hov.shape with ⟨rfl, hn0, rfl⟩ | ⟨ga, rfl, hcap⟩
            · have hP0 : P = 0 := by omega
              have hlo0' : lo = 0 := by omega
              have hem : BsR wv 0 0 none 0 ((G.take P).drop lo) := by rw [hP0, hlo0']; exact BsR.none0 _ _ _ _
              have hrl0 : ((G.take P).drop lo).length = 0 := by omega
              generalize hL0 : (G.take P).drop lo = B0 at *
              have hL0x := Lib.hid hL0
              clear hL0
              subst hP0
              subst hlo0'
              go_wp2_with (first
                | (at_builtin; refine wpList_app rfl (.const (.slice none 0 0)) (.tmp 131) rfl w.heap.size 0 0 none [] rfl (OwB.nil _ _) _ _ 0 0 none B0 rfl hem (by omega) (Nat.le_trans hBw.size hsv) ?_; intro A2 c2 w4 ho2 hg2 hb2 hat2; have hne2 : some g ≠ ownBlk A2 := (ne_next hat2 (fun h => by cases h) kv.lt); have k4 := At.grown kv hg2 (fun h => by cases h); have k4c := k4.c; have k4f := k4.f; have k4l := k4.lt; have ho2' : OwB w4 w.heap.size A2 0 c2 B0 := (by rw [Nat.zero_add, List.nil_append] at ho2; exact ho2))
                | fail)
              go_ret
              first | apply Or.inr | skip
              refine ⟨by omega, by first | rfl | simp, ⟨A2, c2, ⟨?_, hLx.out.hg, hLx.out.pos, hLx.out.count, hLx.out.epoch, hLx.out.start, hLx.out.check⟩, ?_⟩, ?_⟩
              · rw [hsL2.out, show (k : Int) * 480 + ((0 : Nat) : Int) = k * 480 by simp]
                show At _ g #[.pointer (some ⟨d, 0, none⟩), .int .i64 L.pos, .int .i64 L.count, .int .u64 L.epoch, .int .u64 L.start, .int .u64 L.check, .int .u64 ((k : Int) * 480 + ((0 : Nat) : Int)), .int .i64 L.held, .int .u64 bs, .slice A2 B0.length c2] _
                rw [hrl0]
                exact (At.set (o := 6) (v := .int .u64 ((k : Int) * 480)) (At.set (o := 9) (v := .slice A2 0 c2) k4))
              · rw [hsL2.out]
                show OwB _ w.heap.size A2 B0.length c2 B0
                rw [hrl0]
                exact ownBlk_set (ownBlk_set ho2' hne2) hne2
              · exact Mod.set (S := fun j => j = g) (Mod.set (S := fun j => j = g) (hmv.grown hg2 (fun k hk => by cases hk)) (k := g) (.inl rfl) _) (k := g) (.inl rfl) _
            · have hPc : P ≤ c := by omega
              have hPci : (P : Int) ≤ c := by omega
              by_cases hcl : c = lo
              · have hPl : P = lo := by omega
                subst hcl
                have hem : BsR wv 0 0 (some ⟨ga, 0, none⟩) 0 ((G.take P).drop c) := by
                  have : (G.take P).drop c = [] := List.eq_nil_of_length_eq_zero (by omega)
                  rw [this]; exact BsR.none0 _ _ _ _
                have hrl0 : ((G.take P).drop c).length = 0 := by omega
                generalize hL0 : (G.take P).drop c = B0 at *
                have hL0x := Lib.hid hL0
                clear hL0
                subst hPl
                go_wp2_with (first
                  | (at_builtin; refine wpList_app rfl (.const (.slice none 0 0)) (.tmp 131) rfl w.heap.size 0 0 none [] rfl (OwB.nil _ _) _ _ 0 0 (some ⟨ga, 0, none⟩) B0 rfl hem (by omega) (Nat.le_trans hBw.size hsv) ?_; intro A2 c2 w4 ho2 hg2 hb2 hat2; have hne2 : some g ≠ ownBlk A2 := (ne_next hat2 (fun h => by cases h) kv.lt); have k4 := At.grown kv hg2 (fun h => by cases h); have k4c := k4.c; have k4f := k4.f; have k4l := k4.lt; have ho2' : OwB w4 w.heap.size A2 0 c2 B0 := (by rw [Nat.zero_add, List.nil_append] at ho2; exact ho2))
                  | fail)
                go_ret
                refine ⟨by omega, by first | rfl | simp, ⟨A2, c2, ⟨?_, hLx.out.hg, hLx.out.pos, hLx.out.count, hLx.out.epoch, hLx.out.start, hLx.out.check⟩, ?_⟩, ?_⟩
                · rw [hsL2.out]
                  show At _ g #[.pointer (some ⟨d, 0, none⟩), .int .i64 L.pos, .int .i64 L.count, .int .u64 L.epoch, .int .u64 L.start, .int .u64 L.check, .int .u64 ((k : Int) * 480 + P), .int .i64 L.held, .int .u64 bs, .slice A2 B0.length c2] _
                  rw [hrl0]
                  exact (At.set (o := 6) (v := .int .u64 ((k : Int) * 480 + P)) (At.set (o := 9) (v := .slice A2 0 c2) k4))
                · rw [hsL2.out]
                  show OwB _ w.heap.size A2 B0.length c2 B0
                  rw [hrl0]
                  exact ownBlk_set (ownBlk_set ho2' hne2) hne2
                · exact Mod.set (S := fun j => j = g) (Mod.set (S := fun j => j = g) (hmv.grown hg2 (fun k hk => by cases hk)) (k := g) (.inl rfl) _) (k := g) (.inl rfl) _
              · have hcut2 := hov.reads.cutN lo P hPr.2 hloP
                go_wp2_with (first
                  | (at_builtin; refine wpList_app rfl (.const (.slice none 0 0)) (.tmp 131) rfl w.heap.size 0 0 none [] rfl (OwB.nil _ _) _ _ (P - lo) (c - lo) (some ⟨ga, lo, none⟩) ((G.take P).drop lo) rfl hcut2 (by omega) (Nat.le_trans hBw.size hsv) ?_; intro A2 c2 w4 ho2 hg2 hb2 hat2; have hne2 : some g ≠ ownBlk A2 := (ne_next hat2 (fun h => by cases h) kv.lt); have k4 := At.grown kv hg2 (fun h => by cases h); have k4c := k4.c; have k4f := k4.f; have k4l := k4.lt; have ho2' : OwB w4 w.heap.size A2 (P - lo) c2 ((G.take P).drop lo) := (by rw [Nat.zero_add, List.nil_append] at ho2; exact ho2))
                  | fail)
                go_ret
                refine ⟨by omega, by first | rfl | simp, ⟨A2, c2, ⟨?_, hLx.out.hg, hLx.out.pos, hLx.out.count, hLx.out.epoch, hLx.out.start, hLx.out.check⟩, ?_⟩, ?_⟩
                · rw [hsL2.out]
                  show At _ g #[.pointer (some ⟨d, 0, none⟩), .int .i64 L.pos, .int .i64 L.count, .int .u64 L.epoch, .int .u64 L.start, .int .u64 L.check, .int .u64 ((k : Int) * 480 + P), .int .i64 L.held, .int .u64 bs, .slice A2 ((G.take P).drop lo).length c2] _
                  rw [hrl]
                  exact (At.set (o := 6) (v := .int .u64 ((k : Int) * 480 + P)) (At.set (o := 9) (v := .slice A2 (P - lo) c2) k4))
                · rw [hsL2.out]
                  show OwB _ w.heap.size A2 ((G.take P).drop lo).length c2 ((G.take P).drop lo)
                  rw [hrl]
                  exact ownBlk_set (ownBlk_set ho2' hne2) hne2
                · exact Mod.set (S := fun j => j = g) (Mod.set (S := fun j => j = g) (hmv.grown hg2 (fun k hk => by cases hk)) (k := g) (.inl rfl) _) (k := g) (.inl rfl) _
end Go.Proofs.Ytggeepihkeocmaa
