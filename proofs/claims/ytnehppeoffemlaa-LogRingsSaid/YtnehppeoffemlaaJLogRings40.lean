/- Joined texts: LogRf. -/
import Derived.Test.YtnehppeoffemlaaJLogRings39
/- LogRings: what a round keeps (plain, and in memory). -/
namespace Go.Proofs.Ytnehppeoffemlaa
set_option linter.unusedVariables false
set_option linter.unusedSimpArgs false
open Go.RowKit
def recVs (st : Int) : List (List Int) → List Value
  | [] => []
  | p :: rs => .int .u64 st :: .string (strL p) :: recVs (st + (2 + p.length)) rs
theorem recVs_snoc (p : List Int) : ∀ (st : Int) (rs : List (List Int)), recVs st (rs ++ [p]) = recVs st rs ++ [.int .u64 (st + (recB rs).length), .string (strL p)]
  | st, [] => by
    show [Value.int .u64 st, .string (strL p)] = [.int .u64 (st + ((0 : Nat) : Int)), .string (strL p)]
    simp
  | st, q :: rs => by
    have ih := recVs_snoc p (st + (2 + q.length)) rs
    show Value.int .u64 st :: .string (strL q) :: recVs (st + (2 + q.length)) (rs ++ [p]) = _
    rw [ih]
    have e : ((recB (q :: rs)).length : Int) = 2 + q.length + (recB rs).length := by
      rw [recB_cons, List.length_append, List.length_append]
      have h2 : (two2 q.length).length = 2 := rfl
      omega
    rw [e, show st + (2 + (q.length : Int) + (recB rs).length) = st + (2 + q.length) + (recB rs).length by omega]
    rfl
theorem recVs_get : ∀ (rs : List (List Int)) (st : Int) (j : Nat), j < rs.length → (recVs st rs)[j * 2]? = some (.int .u64 (st + offR rs j)) ∧ (recVs st rs)[j * 2 + 1]? = some (.string (strL (rs.getD j [])))
  | [], _, j, h => absurd h (by simp)
  | p :: rs, st, 0, _ => by
    refine ⟨?_, rfl⟩
    show some (Value.int .u64 st) = some (.int .u64 (st + ((0 : Nat) : Int)))
    simp
  | p :: rs, st, j + 1, h => by
    have ih := recVs_get rs (st + (2 + p.length)) j (by simpa using h)
    have e : (offR (p :: rs) (j + 1) : Int) = 2 + p.length + offR rs j := by
      unfold offR
      rw [List.take_succ_cons, recB_cons, List.length_append, List.length_append]
      have h2 : (two2 p.length).length = 2 := rfl
      omega
    rw [e, show (j + 1) * 2 = j * 2 + 1 + 1 by omega, show st + (2 + (p.length : Int) + offR rs j) = st + (2 + p.length) + offR rs j by omega]
    exact ih
theorem OwO.recs {w : World} {base lc : Nat} {lA : Option Addr} {st : Int} {rs : List (List Int)} (h : OwO w base lA rs.length lc (recVs st rs)) : RecR w lA st rs := fun j hj => by
  rcases h.2 with ⟨-, h0, -⟩ | ⟨g, o, cur, h1, h2, h3, h4, h5, h6, h7⟩
  · omega
  · have hg := recVs_get rs st j hj
    refine ⟨g, o, h1, h3.lt, ?_, ?_⟩
    · rw [h3.c]; exact h7 _ _ hg.1
    · rw [h3.c, Nat.add_assoc]; exact h7 _ _ hg.2
theorem OwO.tail {w : World} {base lc n : Nat} {g o : Nat} {u1 u2 : Value} {vs : List Value} (h : OwO w base (some ⟨g, o, none⟩) (n + 1) lc (u1 :: u2 :: vs)) : OwO w base (some ⟨g, o + 2, none⟩) n (lc - 1) vs := by
  have hl := h.1
  rcases h.2 with ⟨h0, -, -⟩ | ⟨g', o', cur, h1, h2, h3, h4, h5, h6, h7⟩
  · cases h0
  · injection h1 with h1
    injection h1 with e1 e2
    subst e1; subst e2
    refine ⟨by simp at hl; omega, .inr ⟨g, o + 2, cur, rfl, h2, h3, by omega, by omega, by omega, fun j v hj => ?_⟩⟩
    rw [show o + 2 + j = o + (j + 1 + 1) by omega]
    exact h7 (j + 1 + 1) v hj
theorem rest_same {D : Dk} (hq : Qt D) (hw : D.way = []) : restD D 0 [] = D := by
  obtain ⟨l, way, arm, off, ops⟩ := D
  obtain ⟨h1, h2⟩ := hq
  simp only at h1 h2 hw
  subst h1; subst h2; subst hw
  rfl
theorem rest_dd {base d lb : Nat} {F : Nat → Prop} {D : Dk} (w : World) (h : DD w base d lb F D) (hq : Qt D) (hw : D.way = []) :
    Calls Try.prog 22 #[.pointer (some ⟨d, 0, none⟩), .slice none 0 0] w fun e w' => e = .returned (.int .i64 0) ∧ (∃ F', DD w' base d lb F' D ∧ Grew F F' w.heap.size) ∧ Mod F w w' := by
  obtain ⟨pA, mc, h1, h2⟩ := h
  refine (rest_calls (n := 0) (kc := 0) (kA := none) (kl := []) w h1.k ⟨rfl, Rd.nil _ _ _ _ _⟩ (fun h0 => absurd h0 (by omega))).mono ?_
  rintro e w' ⟨rfl, hd, hm⟩
  rw [rest_same hq hw] at hd
  refine ⟨rfl, ⟨Foot d lb none, DD.of ⟨hd, h1.hd, h1.hl, fun b hb => by cases hb⟩, fun k hk => ?_⟩, hm.mono (fun k hk => (h2 k).2 (hk.elim .inl (fun h => .inr (.inl h))))⟩
  rcases hk with rfl | rfl | hk
  · exact .inl ((h2 _).2 (.inl rfl))
  · exact .inl ((h2 _).2 (.inr (.inl rfl)))
  · cases hk
theorem rec_len (rs : List (List Int)) (hrs : ∀ p ∈ rs, 1 ≤ p.length ∧ p.length ≤ 400) : (recB rs).length ≤ 402 * rs.length := by
  induction rs with
  | nil => simp [recB]
  | cons p rs ih =>
    have h1 := ih (fun q hq => hrs q (by simp [hq]))
    have h2 := hrs p (by simp)
    rw [recB_cons, List.length_append, List.length_append, List.length_cons]
    have h3 : (two2 p.length).length = 2 := rfl
    omega
end Go.Proofs.Ytnehppeoffemlaa
