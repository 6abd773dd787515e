/- DiskPlays: do, of any kind. -/
import Derived.Test.YtjgomebnlekddaaDoFull
namespace Go.Proofs.Ytjgomebnlekddaa
set_option linter.unusedVariables false
set_option linter.unusedSimpArgs false
open Go.RowKit
theorem do_calls {base d lb x an ac kn kc : Nat} {aA kA : Option Addr} {p : List Int} {kl : List Bool} {D : Dk} (kd N : Int) (w : World) (h : Bo w base d lb x D) (hbw : base ≤ w.heap.size) (k0 : 0 ≤ kd) (h9 : D.ops < 1000000000) (hm9 : D.way.length < 1000000000) (hN : N ≤ 9223372036854775807) (hp : BsR w 0 base aA an p) (hac : an ≤ ac) (hkl : BoR w 0 base kA kn kl) :
    Calls Try.prog 54 #[.pointer (some ⟨d, 0, none⟩), .pointer (some ⟨x, 0, none⟩), .agg #[.int .u8 kd, .int .i64 N, .slice aA an ac, .slice kA kn kc]] w fun e w' => e = .returned (.bool true) ∧ ∃ D', Bo w' base d lb x D' ∧ Stp D D' ∧ Below base w w' := by
  have hm : Int.tmod kd 6 = kd % 6 := Int.tmod_eq_emod_of_nonneg k0
  rcases (by omega : kd % 6 = 0 ∨ kd % 6 = 1 ∨ kd % 6 = 2 ∨ kd % 6 = 3 ∨ kd % 6 = 4 ∨ kd % 6 = 5) with h1 | h1 | h1 | h1 | h1 | h1
  · exact do_full kd N w h hbw (hm.trans h1) h9 hm9 hp
  · exact do_put kd N w h hbw (hm.trans h1) h9 hm9 hp hac
  · exact do_get kd N w h hbw (hm.trans h1)
  · exact do_sync kd N w h hbw (hm.trans h1) h9
  · exact do_arm kd N w h hbw (hm.trans h1) hN
  · exact do_rest kd N w h hbw (hm.trans h1) hkl
theorem owns_less {w : World} {base base' e sz n c m : Nat} {A : Option Addr} {xs : List Value} (h : w.ownsRow base e sz (.slice A n c) m xs) (hb : base' ≤ base) : w.ownsRow base' e sz (.slice A n c) m xs := by
  refine ⟨h.1, ?_⟩
  rcases h.2 with h1 | ⟨g, cap, cur, h1, h2, h3⟩
  · exact .inl h1
  · exact .inr ⟨g, cap, cur, h1, by omega, h3⟩
theorem Rf.less {w : World} {base base' x lc wc : Nat} {lA wA : Option Addr} {D : Dk} (h : Rf w base x lA lc wA wc D) (hb : base' ≤ base) : Rf w base' x lA lc wA wc D :=
  ⟨h.at_, owns_less h.row hb, owns_less h.way hb, h.ok, Nat.le_trans hb h.hx⟩
end Go.Proofs.Ytjgomebnlekddaa
