/- The record's reader: next, number, small by their contracts. -/
import Derived.Test.YtjgomebnlekddaaRdU
import Derived.Test.YtjgomebnlekddaaShare
import Derived.Test.YtjgomebnlekddaaAppZ
import Derived.Laws.OwnMore
import Derived.Laws.MakeOwn
import Derived.Deep.WholeRow
namespace Go.Proofs.Ytjgomebnlekddaa
set_option linter.unusedVariables false
set_option linter.unusedSimpArgs false
open Go.RowKit
/-- A reader in the heap: the bytes that are left lie below hi. -/
structure RdH (w : World) (hi q : Nat) (r : Rdr) : Prop where
  ex : ∃ A c, At w q #[.slice A r.p.length c, .bool r.s] 116 ∧ BsR w 0 hi A r.p.length r.p ∧ r.p.length ≤ c
  lt : hi ≤ q
  mx : r.p.length ≤ 140737488355328
theorem RdH.below {w w' : World} {hi q : Nat} {r : Rdr} (h : RdH w hi q r) (hb : Below w.heap.size w w') : RdH w' hi q r := by
  obtain ⟨A, c, ha, hbs, hc⟩ := h.ex
  exact ⟨⟨A, c, At.keep hb ha, hbs.below hb (Nat.le_of_lt (Nat.lt_of_le_of_lt h.lt ha.lt)), hc⟩, h.lt, h.mx⟩
theorem RdH.mod {w w' : World} {hi q : Nat} {r : Rdr} {S : Nat → Prop} (h : RdH w hi q r) (hm : Mod S w w') (h1 : ¬ S q) (h2 : ∀ k, S k → hi ≤ k) : RdH w' hi q r := by
  obtain ⟨A, c, ha, hbs, hc⟩ := h.ex
  have hl := ha.lt
  have hlt := h.lt
  refine ⟨⟨A, c, ha.mod hm h1, ⟨hbs.1, hbs.2.1, hbs.2.2.keep fun b o _ hb => ?_⟩, hc⟩, h.lt, h.mx⟩
  exact World.cell?_of_block (a := ⟨b, o, none⟩) (hm.block b (by omega) (fun hs => by have := h2 b hs; omega))
theorem OwB.zeros {w : World} {base b m : Nat} (h : w.ownsRow base 5 1 (.slice (some ⟨b, 0, none⟩) m m) m (List.replicate m (.int .u8 0))) : OwB w base (some ⟨b, 0, none⟩) m m (List.replicate m 0) :=
  ⟨List.length_replicate, fun x hx => by rw [List.eq_of_mem_replicate hx]; omega, by rw [List.map_replicate]; exact h⟩
theorem OwB.le_cap {w : World} {base n c : Nat} {A : Option Addr} {l : List Int} (h : OwB w base A n c l) : n ≤ c := by
  rcases h.2.2.2 with ⟨hv, h0⟩ | ⟨g, cap, cur, hv, _, _, hnc, _⟩
  · omega
  · injection hv with _ _ e3
    omega
set_option maxRecDepth 100000 in
set_option maxHeartbeats 1000000 in
theorem next_short {hi q : Nat} {r : Rdr} (k : Nat) (w : World) (h : RdH w hi q r) (hk : k ≤ 65536) (hs : r.p.length < k) :
    Calls Try.prog 74 #[.pointer (some ⟨q, 0, none⟩), .int .i64 k] w fun e w' => ∃ B c, e = .returned (.slice B k c) ∧ OwB w' w.heap.size B k c (nxt r k).1 ∧ RdH w' hi q (nxt r k).2 ∧ Mod (fun i => i = q) w w' := by
  obtain ⟨A, c, hat, hbs, hc⟩ := h.ex
  have hn : nxt r k = (List.replicate k 0, ⟨[], true⟩) := if_pos hs
  have hlt := h.lt
  have hql := hat.lt
  obtain ⟨i0, hi0, hz0, hz1, hz2⟩ := info_parts info8
  have q1 : i0.bytes * k ≤ 281474976710656 := by rw [hz2]; omega
  have q2 : k ≤ maxLen := by unfold maxLen; omega
  have q1' := Lib.hid q1
  have q2' := Lib.hid q2
  have hi0' := Lib.hid hi0
  have hz0' := Lib.hid hz0
  have hz1' := Lib.hid hz1
  have i1 : (r.p.length : Int) < k := by omega
  have hat' := Lib.hid hat
  have hatc := hat.c; have hatf := hat.f; have hatl := hat.lt
  clear h hi0 hz0 hz1 hz2 q1 q2 hat hbs
  rw [hn]
  go_enter Try.func74, Try.ntmps74
  go_upto_region 4 with (fail)
  have hat2 : At ((w.setCell ⟨q, 1, none⟩ (.bool true)).setCell ⟨q, 0, none⟩ (.slice none 0 0)) q #[.slice none 0 0, .bool true] 116 := (hat'.out.set.set).to (by simp)
  have hm2 : Mod (fun i => i = q) w ((w.setCell ⟨q, 1, none⟩ (.bool true)).setCell ⟨q, 0, none⟩ (.slice none 0 0)) := ((Mod.refl (fun i => i = q) w).set (.inl rfl) _).set (.inl rfl) _
  generalize ((w.setCell ⟨q, 1, none⟩ (.bool true)).setCell ⟨q, 0, none⟩ (.slice none 0 0)) = w2 at *
  have hk0 : (0 : Int) ≤ k := by omega
  clear hatc hatf hatl
  go_wp2_with (at_make; refine wpList_make_full w2 rfl _ _ 23 rfl w2.heap.size 5 i0 (.int .u8 0) 1 Try.underlying23 hi0'.out hz0'.out hz1'.out .i64 .i64 _ _ k rfl rfl rfl rfl q1'.out q2'.out (Nat.le_refl _) ?_; intro w3 ho3 hg3)
  go_ret
  have hm3 : Mod (fun i => i = q) w w3 := hm2.grown hg3 (fun k hk => by cases hk)
  have hat3 : At w3 q #[.slice none 0 0, .bool true] 116 := hat2.of_heap (hg3.block q hat2.lt (by simp))
  have ho : OwB w3 w2.heap.size (some ⟨w2.heap.size, 0, none⟩) k k (List.replicate k 0) := OwB.zeros (by
    have h1 := ho3
    rw [Nat.mul_one, show (Value.int .u8 0).cells = #[.int .u8 0] from rfl, toList_madeCells_one] at h1
    exact h1)
  exact ⟨_, _, rfl, ho.less hm2.size, ⟨⟨none, 0, hat3, ⟨rfl, Byt.nil, Rd.nil _ _ _ _ _⟩, Nat.le_refl _⟩, hlt, Nat.zero_le _⟩, hm3⟩
set_option maxRecDepth 100000 in
set_option maxHeartbeats 1000000 in
theorem next_more {hi q : Nat} {r : Rdr} (k : Nat) (w : World) (h : RdH w hi q r) (hs : k ≤ r.p.length) (h0 : 0 < r.p.length) (hk : k ≤ 65536) :
    Calls Try.prog 74 #[.pointer (some ⟨q, 0, none⟩), .int .i64 k] w fun e w' => ∃ B c, e = .returned (.slice B k c) ∧ OwB w' w.heap.size B k c (nxt r k).1 ∧ RdH w' hi q (nxt r k).2 ∧ Mod (fun i => i = q) w w' := by
  obtain ⟨A, c, hat, hbs, hc⟩ := h.ex
  have hn : nxt r k = (r.p.take k, ⟨r.p.drop k, r.s⟩) := if_neg (by omega)
  have hlt := h.lt
  have hql := hat.lt
  have hmx := h.mx
  obtain ⟨gb, go', rfl, -, g2, hcl⟩ := hbs.2.2 h0
  have hby := Lib.hid hbs.2.1
  have i1 : ¬ (r.p.length : Int) < k := by omega
  have i2 : (k : Int) ≤ r.p.length := by omega
  have i3 : (r.p.length : Int) ≤ c := by omega
  have i4 : (0 : Int) ≤ k := by omega
  have i5 : (k : Int) ≤ c := by omega
  have i6 : (r.p.length : Int) ≤ 140737488355328 := by omega
  have hat' := Lib.hid hat
  have hne : gb ≠ q := by omega
  have hatc := hat.c; have hatf := hat.f; have hatl := hat.lt
  rw [hn]
  have hfin : ∀ X : Option Addr, (if c = k then some ⟨gb, go', none⟩ else some ⟨gb, go' + k, none⟩) = X →
      BsR (w.setCell ⟨q, 0, none⟩ (.slice X (r.p.length - k) (c - k))) 0 hi (some ⟨gb, go', none⟩) k (r.p.take k) ∧ BsR (w.setCell ⟨q, 0, none⟩ (.slice X (r.p.length - k) (c - k))) 0 hi X (r.p.length - k) (r.p.drop k) ∧
      At (w.setCell ⟨q, 0, none⟩ (.slice X (r.p.length - k) (c - k))) q #[.slice X (r.p.length - k) (c - k), .bool r.s] 116 ∧ Mod (fun i => i = q) w (w.setCell ⟨q, 0, none⟩ (.slice X (r.p.length - k) (c - k))) := fun X hX =>
    ⟨⟨by rw [List.length_take]; omega, hbs.2.1.take k, fun _ => ⟨gb, go', rfl, Nat.zero_le _, g2, fun j hj => by
      have h1 := hcl j (by omega)
      rw [World.cell?_of_block (a := ⟨gb, go' + j, none⟩) (Below.heap_setCell _ _ _ _ hne), h1]
      simp [bsF, List.getD_eq_getElem?_getD, List.getElem?_take, hj]⟩⟩,
     ⟨by rw [List.length_drop], hbs.2.1.drop k, fun h0 => ⟨gb, go' + k, by rw [← hX, if_neg (by omega)], Nat.zero_le _, g2, fun j hj => by
      have h1 := hcl (k + j) (by omega)
      rw [World.cell?_of_block (a := ⟨gb, go' + k + j, none⟩) (Below.heap_setCell _ _ _ _ hne), Nat.add_assoc, h1]
      simp [bsF, List.getD_eq_getElem?_getD]⟩⟩,
     (hat.set).to (by simp), (Mod.refl (fun i => i = q) w).set (.inl rfl) _⟩
  replace hfin := Lib.hid hfin
  clear h hat hbs hn hcl
  go_enter Try.func74, Try.ntmps74
  go_upto_region 7 with (fail)
  generalize hX : (if c = k then some (⟨gb, go', none⟩ : Addr) else some ⟨gb, go' + k, none⟩) = X
  obtain ⟨f1, f2, f3, f4⟩ := hfin.out X hX
  clear hX hfin hatc hatf hatl
  generalize (w.setCell ⟨q, 0, none⟩ (.slice X (r.p.length - k) (c - k))) = w2 at *
  go_wp2_with (at_builtin; refine wpList_app rfl (.const (.slice none 0 0)) (.tmp 36) rfl w2.heap.size 0 0 none [] rfl (OwB.nil _ _) _ _ k c (some ⟨gb, go', none⟩) (r.p.take k) rfl f1 (by omega) (Nat.le_refl _) ?_; intro A1 c1 w3 ho1 hg1 hb1 hat1)
  go_ret
  refine ⟨A1, c1, by first | rfl | simp, ?_, ⟨⟨X, c - k, ?_, ?_, ?_⟩, hlt, ?_⟩, f4.trans (T := Nob) (Mod.of_below hb1) (fun _ _ h => h.elim)⟩
  · have := ho1.less f4.size
    simpa using this
  · show At w3 q #[.slice X (r.p.drop k).length (c - k), .bool r.s] _
    rw [List.length_drop]
    exact At.keep hb1 f3
  · show BsR w3 0 hi X (r.p.drop k).length (r.p.drop k)
    rw [List.length_drop]
    exact f2.below hb1 (Nat.le_of_lt (Nat.lt_of_le_of_lt hlt (Nat.lt_of_lt_of_le hql f4.size)))
  · show (r.p.drop k).length ≤ _
    rw [List.length_drop]; omega
  · show (r.p.drop k).length ≤ _
    rw [List.length_drop]; omega
set_option maxRecDepth 100000 in
set_option maxHeartbeats 1000000 in
theorem next_zero {hi q : Nat} {r : Rdr} (w : World) (h : RdH w hi q r) (h0 : r.p.length = 0) :
    Calls Try.prog 74 #[.pointer (some ⟨q, 0, none⟩), .int .i64 0] w fun e w' => ∃ B c, e = .returned (.slice B 0 c) ∧ OwB w' w.heap.size B 0 c (nxt r 0).1 ∧ RdH w' hi q (nxt r 0).2 ∧ Mod (fun i => i = q) w w' := by
  obtain ⟨A, c, hat, hbs, hc⟩ := h.ex
  have hn : nxt r 0 = ([], ⟨[], r.s⟩) := by
    unfold nxt
    rw [if_neg (by omega), List.eq_nil_of_length_eq_zero h0]; rfl
  have hlt := h.lt
  have hql := hat.lt
  rw [hn]
  rw [h0] at hat
  have hfin : ∀ (X : Option Addr), At (w.setCell ⟨q, 0, none⟩ (.slice X 0 c)) q #[.slice X 0 c, .bool r.s] 116 ∧ Mod (fun i => i = q) w (w.setCell ⟨q, 0, none⟩ (.slice X 0 c)) := fun X =>
    ⟨(hat.set).to (by simp), (Mod.refl (fun i => i = q) w).set (.inl rfl) _⟩
  have i3 : (0 : Int) ≤ c := by omega
  have hatc := hat.c; have hatf := hat.f; have hatl := hat.lt
  replace hfin := Lib.hid hfin
  clear h hat hbs hn
  rcases A with _ | ad
  · go_enter Try.func74, Try.ntmps74
    go_upto_region 7 with (fail)
    obtain ⟨f3, f4⟩ := hfin.out none
    clear hfin hatc hatf hatl
    generalize (w.setCell ⟨q, 0, none⟩ (.slice none 0 c)) = w2 at *
    go_wp2_with (at_builtin; refine wpList_app rfl (.const (.slice none 0 0)) (.tmp 36) rfl w2.heap.size 0 0 none [] rfl (OwB.nil _ _) 0 0 0 c none [] rfl ⟨rfl, Byt.nil, Rd.nil _ _ _ _ _⟩ (by omega) (Nat.le_refl _) ?_; intro A1 c1 w3 ho1 hg1 hb1 hat1)
    go_ret
    exact ⟨A1, c1, by first | rfl | simp, by simpa using ho1.less f4.size, ⟨⟨none, c, At.keep hb1 f3, ⟨rfl, Byt.nil, Rd.nil _ _ _ _ _⟩, Nat.zero_le _⟩, hlt, Nat.zero_le _⟩, f4.trans (T := Nob) (Mod.of_below hb1) (fun _ _ h => h.elim)⟩
  · go_enter Try.func74, Try.ntmps74
    go_upto_region 7 with (fail)
    obtain ⟨f3, f4⟩ := hfin.out (some ad)
    clear hfin hatc hatf hatl
    generalize (w.setCell ⟨q, 0, none⟩ (.slice (some ad) 0 c)) = w2 at *
    go_wp2_with (at_builtin; refine wpList_app rfl (.const (.slice none 0 0)) (.tmp 36) rfl w2.heap.size 0 0 none [] rfl (OwB.nil _ _) 0 0 0 c (some ad) [] rfl ⟨rfl, Byt.nil, Rd.nil _ _ _ _ _⟩ (by omega) (Nat.le_refl _) ?_; intro A1 c1 w3 ho1 hg1 hb1 hat1)
    go_ret
    exact ⟨A1, c1, by first | rfl | simp, by simpa using ho1.less f4.size, ⟨⟨some ad, c, At.keep hb1 f3, ⟨rfl, Byt.nil, Rd.nil _ _ _ _ _⟩, Nat.zero_le _⟩, hlt, Nat.zero_le _⟩, f4.trans (T := Nob) (Mod.of_below hb1) (fun _ _ h => h.elim)⟩
theorem next_calls {hi q : Nat} {r : Rdr} (k : Nat) (w : World) (h : RdH w hi q r) (hk : k ≤ 65536) :
    Calls Try.prog 74 #[.pointer (some ⟨q, 0, none⟩), .int .i64 k] w fun e w' => ∃ B c, e = .returned (.slice B k c) ∧ OwB w' w.heap.size B k c (nxt r k).1 ∧ RdH w' hi q (nxt r k).2 ∧ Mod (fun i => i = q) w w' := by
  by_cases hs : r.p.length < k
  · exact next_short k w h hk hs
  · by_cases h0 : 0 < r.p.length
    · exact next_more k w h (by omega) h0 hk
    · obtain rfl : k = 0 := by omega
      exact next_zero w h (by omega)
theorem num8_calls {hi q : Nat} {r : Rdr} (w : World) (h : RdH w hi q r) :
    Calls Try.prog 75 #[.pointer (some ⟨q, 0, none⟩)] w fun e w' => e = .returned (.int .u64 (num8 r).1) ∧ RdH w' hi q (num8 r).2 ∧ Mod (fun i => i = q) w w' := by
  go_enter Try.func75, Try.ntmps75
  go_wp2_with fail
  refine (next_calls 8 w h (by omega)).mono ?_
  rintro e w1 ⟨B, c, rfl, ho, hr, hm⟩
  have hc : 8 ≤ c := ho.le_cap
  go_wp2_with fail
  refine (readuint_calls 0 c w1 ho.reads (by omega) hc (by omega)).mono ?_
  rintro e w2 ⟨rfl, rfl⟩
  have e8 : num (((nxt r 8).1.drop 0).take 8) = (num8 r).1 := by
    rw [List.drop_zero, List.take_of_length_le (by rw [nxt_len]; exact Nat.le_refl _)]; rfl
  rw [e8]
  go_wp2
  go_ret
  exact ⟨by first | rfl | simp, hr, hm⟩
theorem num2_calls {hi q : Nat} {r : Rdr} (w : World) (h : RdH w hi q r) (hb : Byt r.p) :
    Calls Try.prog 76 #[.pointer (some ⟨q, 0, none⟩)] w fun e w' => e = .returned (.int .i64 (num2 r).1) ∧ RdH w' hi q (num2 r).2 ∧ Mod (fun i => i = q) w w' := by
  go_enter Try.func76, Try.ntmps76
  go_wp2_with fail
  refine (next_calls 2 w h (by omega)).mono ?_
  rintro e w1 ⟨B, c, rfl, ho, hr, hm⟩
  have hbs := ho.reads
  have hlen := nxt_len r 2
  have hby := (nxt_byt hb 2).1
  have hnum : (num2 r).1 = num (nxt r 2).1 := rfl
  replace hr : RdH w1 hi q (num2 r).2 := hr
  generalize (nxt r 2).1 = l at *
  match l, hlen with
  | [x, y], _ =>
    have hx := hby x (by simp)
    have hy := hby y (by simp)
    obtain ⟨gb, go', rfl, -, g2, hcl⟩ := hbs.2.2 (by omega)
    have c0 := hcl 0 (by omega)
    have c1 := hcl 1 (by omega)
    simp only [bsF, List.getD_cons_zero, List.getD_cons_succ, Nat.add_zero] at c0 c1
    have h16 := be16 hx.1 hx.2 hy.1 hy.2
    rw [num_two] at hnum
    have hnum' := Lib.hid hnum
    clear ho hbs hby hcl hnum hlen
    have hfin := Lib.hid (And.intro hr hm)
    clear hr hm h
    go_upto_region 2 with (fail)
    go_quiet (fail)
    go_wp2
    go_ret
    exact ⟨by rw [hnum'.out]; first | rfl | simp, hfin.out.1.below (below_drewN (Below.refl _ _) _), hfin.out.2.drewN _⟩
end Go.Proofs.Ytjgomebnlekddaa
