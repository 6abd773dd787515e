/- Joined texts: LogRc. -/
import Derived.Test.YtnehppeoffemlaaJLogRings37
/- LogRings: the law's model: all. -/
namespace Go.Proofs.Ytnehppeoffemlaa
set_option linter.unusedVariables false
set_option linter.unusedSimpArgs false
open Go.RowKit
/-- Where a record stands; all records with their places. -/
def offR (rs : List (List Int)) (j : Nat) : Nat := (recB (rs.take j)).length
theorem recB_cons (p : List Int) (rs : List (List Int)) : recB (p :: rs) = two2 p.length ++ p ++ recB rs := rfl
theorem rec_at : ∀ (rs : List (List Int)) (j : Nat), j < rs.length → (recB rs).drop (offR rs j) = two2 (rs.getD j []).length ++ rs.getD j [] ++ recB (rs.drop (j + 1))
  | [], j, h => absurd h (by simp)
  | p :: rs, 0, _ => by
    unfold offR
    rw [List.take_zero, show (recB []).length = 0 from rfl, List.drop_zero, recB_cons]
    rfl
  | p :: rs, j + 1, h => by
    have hj : j < rs.length := by simpa using h
    have ih := rec_at rs j hj
    have e : offR (p :: rs) (j + 1) = (two2 p.length ++ p).length + offR rs j := by
      unfold offR
      rw [List.take_succ_cons, recB_cons, List.length_append]
    rw [e, recB_cons, ← List.drop_drop, List.drop_left]
    exact ih
theorem offR_le (rs : List (List Int)) {j : Nat} (h : j < rs.length) : offR rs j + 2 + (rs.getD j []).length ≤ (recB rs).length := by
  have h1 := congrArg List.length (rec_at rs j h)
  rw [List.length_drop, List.length_append, List.length_append] at h1
  have h2 : (two2 (rs.getD j []).length).length = 2 := rfl
  have h3 : offR rs j ≤ (recB rs).length ∨ (recB rs).length < offR rs j := by omega
  rcases h3 with h3 | h3
  · omega
  · omega
/-- The bytes of a record, where the ring has them. -/
theorem ring_rec {B : List Int} {o0 : Nat} {rs : List (List Int)} (hB : B.drop o0 = recB rs) {j : Nat} (h : j < rs.length) : (B.drop (o0 + offR rs j)).take 2 = two2 (rs.getD j []).length ∧ (B.drop (o0 + offR rs j + 2)).take (rs.getD j []).length = rs.getD j [] := by
  have h1 := rec_at rs j h
  have e1 : B.drop (o0 + offR rs j) = two2 (rs.getD j []).length ++ (rs.getD j [] ++ recB (rs.drop (j + 1))) := by
    rw [← List.drop_drop, hB, h1, List.append_assoc]
  refine ⟨?_, ?_⟩
  · rw [e1]; exact List.take_left' rfl
  · rw [← List.drop_drop, e1, List.drop_left' (by rfl), List.take_left]
/-- The model's records in memory. -/
def RecR (w : World) (lA : Option Addr) (base : Int) (rs : List (List Int)) : Prop :=
  ∀ j, j < rs.length → ∃ b o, lA = some ⟨b, o, none⟩ ∧ b < w.heap.size ∧ w.cell? ⟨b, o + j * 2, none⟩ = some (.int .u64 (base + offR rs j)) ∧ w.cell? ⟨b, o + j * 2 + 1, none⟩ = some (.string (strL (rs.getD j [])))
theorem RecR.later {w w' : World} {lA : Option Addr} {base : Int} {rs : List (List Int)} (h : RecR w lA base rs) (hb : Below w.heap.size w w') : RecR w' lA base rs := fun j hj => by
  obtain ⟨b, o, h1, h2, h3, h4⟩ := h j hj
  exact ⟨b, o, h1, Nat.lt_of_lt_of_le h2 hb.size, (hb.cell (p := ⟨b, o + j * 2, none⟩) h2).trans h3, (hb.cell (p := ⟨b, o + j * 2 + 1, none⟩) h2).trans h4⟩
set_option maxRecDepth 100000 in
set_option maxHeartbeats 8000000 in
theorem all_calls {base d lb g bc m ln lc : Nat} {F : Nat → Prop} {bA lA : Option Addr} {L : Lg} {D : Dk} {B : List Int} {ep : Nat → Int} {rs : List (List Int)} (w : World) (hL : LgH w base d g bA bc L) (hD : DD w base d lb F D) (hq : D.off = false) (h : Ring D L B ep) (hB : B.drop (L.start - org L).toNat = recB rs) (hrs : ∀ p ∈ rs, 1 ≤ p.length ∧ p.length ≤ 1200) (hm : MdAt w m lA rs.length lc L) (hr : RecR w lA L.start rs) (hs1 : 1 ≤ L.start) :
    Calls Try.prog 25 #[.pointer (some ⟨m, 0, none⟩), .pointer (some ⟨g, 0, none⟩)] w fun e w' => e = .returned (.bool true) ∧ Below w.heap.size w w' := by
  have k0 : At w m #[.slice lA rs.length lc, .int .u64 (endL L), .int .u64 L.sure, .int .u64 L.start, .int .u64 L.check, .int .i64 L.held, .int .i64 L.count] 41 := hm
  have hLx := Lib.hid hL
  have hei := end_i h.i.ok
  have hst := h.i.ok.start
  have hsu := h.i.ok.sure
  have hbl := h.blen
  have ho : org L = L.start / 480 * 480 := rfl
  obtain ⟨o0, ho0⟩ : ∃ o0, (L.start - org L).toNat = o0 := ⟨_, rfl⟩
  rw [ho0] at hB
  have hrl : (recB rs).length = B.length - o0 := by rw [← hB, List.length_drop]
  obtain ⟨en, hen⟩ : ∃ en, endL L = en := ⟨_, rfl⟩
  have hex := Lib.hid hen
  rw [hen] at k0 hei hsu hbl
  have hrn : rs.length ≤ (recB rs).length := by
    clear hB hr k0 hm hrl
    induction rs with
    | nil => simp
    | cons p rs ih =>
      have := ih (fun q hq => hrs q (by simp [hq]))
      rw [recB_cons, List.length_append, List.length_append, List.length_cons]
      have h2 : (two2 p.length).length = 2 := rfl
      omega
  have hblx := Lib.hid hbl
  have hrlx := Lib.hid hrl
  have hox := Lib.hid ho
  have ho0x := Lib.hid ho0
  clear hen hm ho ho0 hbl hrl
  go_enter Try.func25, Try.ntmps25
  go_wp2_with fail
  go_loopw [4, 5, 6, 7, 8] (fun _ v5 _ _ _ wr => ∃ j : Nat, j ≤ rs.length ∧ v5 = .int .i64 (j : Int) ∧ Below w.heap.size w wr) (fun _ v5 _ _ _ _ => rs.length - (intOf v5).toNat)
  case atStart => exact ⟨0, by omega, rfl, Below.refl _ _⟩
  case round =>
    obtain ⟨j, hj, rfl, hBw⟩ := hrel
    have kr := At.keep hBw k0
    have krc := kr.c; have krf := kr.f; have krl := kr.lt
    by_cases hlt : j < rs.length
    · have hlti : (j : Int) < rs.length := by omega
      obtain ⟨b, o, rfl, hbl, c1, c2⟩ := (hr.later hBw) j hlt
      have hrec := ring_rec hB hlt
      have hof := offR_le rs hlt
      have hpr := hrs (rs.getD j []) (by
        have : rs.getD j [] = rs[j] := by simp [List.getD, hlt]
        rw [this]; exact List.getElem_mem hlt)
      obtain ⟨p, hp⟩ : ∃ p, rs.getD j [] = p := ⟨_, rfl⟩
      obtain ⟨of, hofe⟩ : ∃ of, offR rs j = of := ⟨_, rfl⟩
      simp only [hp, hofe] at hrec hof c1 c2 hpr
      obtain ⟨at_, hat⟩ : ∃ at_ : Nat, (at_ : Int) = L.start + of := ⟨(L.start + of).toNat, by omega⟩
      rw [← hat] at c1
      have hge : ¬ ((at_ : Int) < L.start) := by omega
      have hjb : (j : Int) < 4398046511104 := by have := hblx.out; have := hrlx.out; have := hox.out; omega
      have hj0 : (0 : Int) ≤ j := by omega
      have hpx := Lib.hid hp
      have hofx := Lib.hid hofe
      have hatx := Lib.hid hat
      have hBt := hrec.1
      have hBp := hrec.2
      clear hp hofe hat hrec
      have d1 : Below wr.heap.size wr wr.drew := below_dr (Below.refl _ _)
      go_upto_region 4 with (fail)
      go_region_held3 (fun w' => (∀ i, w'.cell? ⟨m, i, none⟩ = #[.slice (some ⟨b, o, none⟩) rs.length lc, .int .u64 en, .int .u64 L.sure, .int .u64 L.start, .int .u64 L.check, .int .i64 L.held, .int .i64 L.count][i]?) ∧ w'.cell? ⟨b, o + j * 2, none⟩ = some (.int .u64 at_)) (go_keep) (fail)
      have hBd : Below w.heap.size w wr.drew := below_dr hBw
      have kd := At.keep hBd k0
      have e1 : wr.drew.cell? ⟨b, o + j * 2, none⟩ = some (.int .u64 at_) := c1
      have e2 : wr.drew.cell? ⟨b, o + j * 2 + 1, none⟩ = some (.string (strL p)) := c2
      have hbl2 : b < wr.drew.heap.size := hbl
      clear c1 c2 kr krc krf krl hbl
      generalize wr.drew = w1 at *
      have kdc := kd.c; have kdf := kd.f; have kdl := kd.lt
      go_wp2_with fail
      obtain ⟨n, hn⟩ : ∃ n, p.length = n := ⟨_, rfl⟩
      rw [hn] at hpr hof hBt hBp
      have hplace : ((at_ + 2 + n : Nat) : Int) ≤ endL L := by
        have a1 := hblx.out; have a2 := hrlx.out; have a3 := hox.out; have a4 := ho0x.out; have a5 := hatx.out
        rw [hex.out]; omega
      have hbo : ((o0 + of : Nat) : Int) = at_ - org L := by
        have a3 := hox.out; have a4 := ho0x.out; have a5 := hatx.out
        omega
      have hsta : L.start ≤ at_ := by have a5 := hatx.out; omega
      have hq1 := bytR_ring h at_ 2 (o0 + of) hbo hsta (by omega) 3 [] (by simp) (by simp) (by simp)
      rw [hBt] at hq1
      have hq2 := bytR_ring h (at_ + 2) n (o0 + of + 2) (by omega) (by omega) hplace (n + 1) [] (by simp) (by simp) (by simp)
      rw [hBp] at hq2
      have hpos := h.i.ok.pos
      refine (lread_ok (x := (n : Int) / 256) (y := (n : Int) % 256) at_ n w1 (hLx.out.later hBd) (hD.later hBd) h.len hq hsta hplace hq1 (by omega) (by omega) (by omega) (by omega) hq2).mono ?_
      rintro e w2 ⟨A, c, rfl, hO, hb2⟩
      have hB2 : Below w.heap.size w w2 := below_keep hb2 hBd
      have k2 := At.keep hB2 k0
      have f1 : ∀ k, (w2.drewN k).cell? ⟨b, o + j * 2, none⟩ = some (.int .u64 at_) := fun _ => (hb2.cell (p := ⟨b, o + j * 2, none⟩) hbl2).trans e1
      have f2 : ∀ k, (w2.drewN k).cell? ⟨b, o + j * 2 + 1, none⟩ = some (.string (strL p)) := fun _ => (hb2.cell (p := ⟨b, o + j * 2 + 1, none⟩) hbl2).trans e2
      have f1' := f1 0
      have f2' := f2 0
      have hcp : ∀ k, (convert 32 9 (.slice A n c)).run Try.prog (w2.drewN k) = .ok (.string (strL p)) (w2.drewN k) := fun k => run_str c (w2.drewN k) (show BsR (w2.drewN k) _ _ _ _ _ from hO.reads)
      have z1 : IntKind.u64.wrap (n : Int) = n := IntWalk.u64_in _ (by omega)
      have z2 : IntKind.u64.wrap ((at_ : Int) + n) = at_ + n := IntWalk.u64_in _ (by have := end_i h.i.ok; omega)
      have z3 : IntKind.u64.wrap ((at_ : Int) + n + 2) = ((at_ + 2 + n : Nat) : Int) := by rw [IntWalk.u64_in _ (by have := end_i h.i.ok; omega)]; omega
      clear kd kdc kdf kdl e1 e2 hq1 hq2 hO hn
      have k2c := k2.c; have k2f := k2.f; have k2l := k2.lt
      go_upto_region 6 with (fail)
      go_quiet (fail)
      go_wp2
      go_roundw
      case rel => exact ⟨j + 1, by omega, by go_num, below_drewN hB2 _⟩
      case measure => simp [intOf]; omega
    · have hlti : ¬ ((j : Int) < rs.length) := by omega
      go_wp2_with fail
      refine (lread_none en wr (hLx.out.later hBw) hex.out).mono ?_
      rintro e w2 ⟨rfl, kd, hkd⟩
      have hB2 : Below w.heap.size w w2 := by rw [hkd]; exact below_drewN hBw kd
      clear hkd kr krc krf krl
      have kr := At.keep hB2 k0
      have krc := kr.c; have krf := kr.f; have krl := kr.lt
      have z1 : IntKind.u64.wrap (en + 1) = en + 1 := IntWalk.u64_in _ (by omega)
      have z2 : IntKind.u64.wrap (L.start - 1) = L.start - 1 := IntWalk.u64_in _ (by omega)
      go_wp2_with fail
      refine (lread_arg (en + 1) w2 (hLx.out.later hB2) (.inr (by rw [hex.out]; omega))).mono ?_
      rintro e w3 ⟨rfl, kd, hkd⟩
      have hB3 : Below w.heap.size w w3 := by rw [hkd]; exact below_drewN hB2 kd
      clear hkd kr krc krf krl
      have kr := At.keep hB3 k0
      have krc := kr.c; have krf := kr.f; have krl := kr.lt
      go_wp2_with fail
      refine (lread_arg (L.start - 1) w3 (hLx.out.later hB3) (.inl (by omega))).mono ?_
      rintro e w4 ⟨rfl, kd, hkd⟩
      have hB4 : Below w.heap.size w w4 := by rw [hkd]; exact below_drewN hB3 kd
      clear hkd
      go_wp2
      go_ret
      exact ⟨by first | rfl | simp, hB4⟩
end Go.Proofs.Ytnehppeoffemlaa
