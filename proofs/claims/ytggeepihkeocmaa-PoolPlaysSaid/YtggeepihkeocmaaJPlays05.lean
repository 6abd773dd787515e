/- Joined texts: Disk, DiskA, Held. -/
import Derived.Test.YtggeepihkeocmaaJPlays04
import Derived.Deep.MidRow
import Derived.Laws.MakeOwn
import Derived.Test.YtggeepihkeocmaaJPlays00
/- Sectors and writes in memory; a disk. -/
namespace Go.Proofs.Ytggeepihkeocmaa
set_option linter.unusedVariables false
set_option linter.unusedSimpArgs false
open Go.RowKit
section
variable {α : Type}
theorem flat_len_u {f : α → List Value} {sz : Nat} (hf : ∀ x, (f x).length = sz) : ∀ l : List α, (l.flatMap f).length = l.length * sz
  | [] => by simp
  | x :: l => by rw [List.flatMap_cons, List.length_append, hf, flat_len_u hf l, List.length_cons, Nat.succ_mul]; omega
theorem flat_len_m {f : α → List Value} {sz : Nat} : ∀ l : List α, (∀ x ∈ l, (f x).length = sz) → (l.flatMap f).length = l.length * sz
  | [], _ => by simp
  | x :: l, hf => by
    rw [List.flatMap_cons, List.length_append, hf x (by simp), flat_len_m l (fun y hy => hf y (by simp [hy])), List.length_cons, Nat.succ_mul]; omega
end
/-- Cells stored one behind the other into a block that is known whole. -/
theorem At.setCells {w : World} {b T : Nat} : ∀ (vs : List Value) {x z y : List Value}, At w b (x ++ y ++ z).toArray T → y.length = vs.length → At (w.setCells b x.length vs) b (x ++ vs ++ z).toArray T
  | [], x, z, y, h, hl => by
    have : y = [] := List.eq_nil_of_length_eq_zero hl
    subst this
    exact h
  | v :: r, x, z, y, h, hl => by
    rcases y with _ | ⟨u, y⟩
    · simp at hl
    · have h1 : At (w.setCell ⟨b, x.length, none⟩ v) b ((x ++ [v]) ++ y ++ z).toArray T := by
        refine (h.set (o := x.length) (v := v)).to ?_
        simp
      have h2 := At.setCells (w := w.setCell ⟨b, x.length, none⟩ v) r (x := x ++ [v]) (z := z) (y := y) h1 (by simpa using hl)
      rw [World.setCells]
      rw [show (x ++ [v]).length = x.length + 1 by simp] at h2
      refine h2.to ?_
      simp
theorem setCells_ne {b : Nat} : ∀ (vs : List Value) (o : Nat) (w : World) {k : Nat}, k ≠ b → (w.setCells b o vs).heap[k]? = w.heap[k]?
  | [], _, _, _, _ => rfl
  | v :: r, o, w, k, hk => by
    rw [World.setCells, setCells_ne r (o + 1) _ hk]
    exact Below.heap_setCell _ _ _ _ hk
theorem setCells_size {b : Nat} : ∀ (vs : List Value) (o : Nat) (w : World), (w.setCells b o vs).heap.size = w.heap.size ∧ (w.setCells b o vs).os = w.os ∧ (w.setCells b o vs).tape = w.tape ∧ (w.setCells b o vs).output = w.output
  | [], _, _ => ⟨rfl, rfl, rfl, rfl⟩
  | v :: r, o, w => by
    rw [World.setCells]
    have := setCells_size (b := b) r (o + 1) (w.setCell ⟨b, o, none⟩ v)
    refine ⟨this.1.trans (by simp [World.setCell]), this.2.1, this.2.2.1, this.2.2.2⟩
theorem Mod.setCells {S : Nat → Prop} {a w : World} (h : Mod S a w) {b : Nat} (hb : S b ∨ a.heap.size ≤ b) (o : Nat) (vs : List Value) : Mod S a (w.setCells b o vs) := by
  obtain ⟨s1, s2, s3, s4⟩ := setCells_size (b := b) vs o w
  refine ⟨s2.trans h.os, s3.trans h.tape, s4.trans h.output, by rw [s1]; exact h.size, fun k hk hn => ?_⟩
  rw [setCells_ne vs o w (fun e => ?_)]
  · exact h.block k hk hn
  · subst e
    rcases hb with hb | hb
    · exact hn hb
    · omega
theorem At.rangeAt {w : World} {b T : Nat} {x y z : List Value} (h : At w b (x ++ y ++ z).toArray T) : w.rangeAt b x.length y := fun j v hv => by
  have hj : j < y.length := (List.getElem?_eq_some_iff.1 hv).1
  rw [h.c]
  simp only [List.getElem?_toArray, List.append_assoc]
  rw [List.getElem?_append_right (by omega), show x.length + j - x.length = j by omega, List.getElem?_append_left hj]
  exact hv
theorem At.there {w : World} {b T : Nat} {x y z : List Value} (h : At w b (x ++ y ++ z).toArray T) : w.there b x.length y.length := fun j hj =>
  ⟨by rw [h.rangeAt j _ (List.getElem?_eq_getElem hj)]; rfl, h.f _⟩
theorem owns_heap {w w' : World} {base e sz n : Nat} {v : Value} {xs : List Value} (h : w.ownsRow base e sz v n xs) (hk : ∀ b, v.ownBlock = some b → w'.heap[b]? = w.heap[b]?) : w'.ownsRow base e sz v n xs := by
  refine ⟨h.1, ?_⟩
  rcases h.2 with h0 | ⟨g, cap, cur, h1, h2, h3, h4⟩
  · exact .inl h0
  · refine .inr ⟨g, cap, cur, h1, h2, ?_, h4⟩
    rw [hk g (by rw [h1]; rfl)]
    exact h3
/-- A sector's bytes. -/
def Sec (s : List Int) : Prop := s.length = 512 ∧ Byt s
def secV (s : List Int) : List Value := s.map (Value.int .u8)
abbrev Wr := Nat × List Int
def wrV (x : Wr) : List Value := Value.int .i64 (x.1 : Int) :: secV x.2
structure Dk where
  l : List (List Int)
  way : List Wr
  arm : Int
  off : Bool
  ops : Int
structure DkOk (D : Dk) : Prop where
  l : ∀ s ∈ D.l, Sec s
  way : ∀ x ∈ D.way, x.1 < D.l.length ∧ Sec x.2
  len : 1 ≤ D.l.length ∧ D.l.length ≤ 4096
  arm : 0 ≤ D.arm ∧ D.arm ≤ 9223372036854775807
  ops : 0 ≤ D.ops ∧ D.ops ≤ 1000000000
  cnt : D.way.length ≤ 1000000000
structure Dsk (w : World) (d lb : Nat) (pA : Option Addr) (m mc : Nat) (D : Dk) : Prop where
  at_ : At w d #[.slice (some ⟨lb, 0, none⟩) D.l.length D.l.length, .slice pA m mc, .int .i64 D.arm, .bool D.off, .int .i64 D.ops] 124
  row : At w lb (D.l.flatMap secV).toArray 126
  way : w.ownsRow 0 128 513 (.slice pA m mc) m (D.way.flatMap wrV)
  wl : D.way.length = m
  ok : DkOk D
def Foot (d lb : Nat) (pA : Option Addr) (k : Nat) : Prop := k = d ∨ k = lb ∨ ownBlk pA = some k
theorem At.inj {w : World} {b T T' : Nat} {c c' : Array Value} (h : At w b c T) (h' : At w b c' T') : T = T' := by
  unfold At at h h'
  rw [h] at h'
  injection h' with h'
  injection h' with _ h'
theorem At.ne_own {w : World} {b T base e sz n m c : Nat} {cs : Array Value} {A : Option Addr} {xs : List Value} (h : At w b cs T) (h' : w.ownsRow base e sz (.slice A n c) m xs) (hne : T ≠ e) : ownBlk A ≠ some b := by
  intro hb
  rcases h'.2 with ⟨hv, _⟩ | ⟨g, cap, cur, hv, _, hh, _⟩
  · injection hv with h1; subst h1; cases hb
  · injection hv with h1; subst h1
    have : g = b := by simpa [ownBlk] using hb
    subst this
    exact hne (At.inj h hh)
theorem At.ne_ty {w : World} {b b' T T' : Nat} {c c' : Array Value} (h : At w b c T) (h' : At w b' c' T') (hne : T ≠ T') : b ≠ b' := by
  intro e; subst e; exact hne (h.inj h')
theorem Dsk.mod {w w' : World} {d lb m mc : Nat} {pA : Option Addr} {D : Dk} {S : Nat → Prop} (h : Dsk w d lb pA m mc D) (hm : Mod S w w') (h1 : ¬ S d) (h2 : ¬ S lb) (h3 : ∀ k, ownBlk pA = some k → ¬ S k) : Dsk w' d lb pA m mc D :=
  ⟨h.at_.mod hm h1, h.row.mod hm h2, owns_heap h.way (fun b hb => by
    rw [ownBlk_eq] at hb
    exact hm.block b ((h.way.lt b (by rw [ownBlk_eq]; exact hb)).2) (h3 b hb)), h.wl, h.ok⟩
theorem Dsk.later {w w' : World} {d lb m mc : Nat} {pA : Option Addr} {D : Dk} (h : Dsk w d lb pA m mc D) (hb : Below w.heap.size w w') : Dsk w' d lb pA m mc D :=
  h.mod (S := Nob) (Mod.of_below hb) (fun h => h) (fun h => h) (fun _ _ h => h)
theorem Dsk.drew {w : World} {d lb m mc : Nat} {pA : Option Addr} {D : Dk} (h : Dsk w d lb pA m mc D) : Dsk w.drew d lb pA m mc D := ⟨h.at_, h.row, h.way, h.wl, h.ok⟩
theorem Dsk.ne1 {w : World} {d lb m mc : Nat} {pA : Option Addr} {D : Dk} (h : Dsk w d lb pA m mc D) : d ≠ lb := h.at_.ne_ty h.row (by decide)
theorem Dsk.ne2 {w : World} {d lb m mc : Nat} {pA : Option Addr} {D : Dk} (h : Dsk w d lb pA m mc D) : ownBlk pA ≠ some d := h.at_.ne_own h.way (by decide)
theorem Dsk.ne3 {w : World} {d lb m mc : Nat} {pA : Option Addr} {D : Dk} (h : Dsk w d lb pA m mc D) : ownBlk pA ≠ some lb := h.row.ne_own h.way (by decide)
/-- The sectors, parted at one of them. -/
theorem secs_split (l : List (List Int)) (i : Nat) (h : i < l.length) : l.flatMap secV = (l.take i).flatMap secV ++ secV (l.getD i []) ++ (l.drop (i + 1)).flatMap secV := by
  have : l = l.take i ++ [l.getD i []] ++ l.drop (i + 1) := by
    rw [show [l.getD i []] = [l[i]] by simp [List.getD, h], ← List.take_succ_eq_append_getElem h, List.take_append_drop]
  conv => lhs; rw [this]
  simp [List.flatMap_append]
theorem secs_len {l : List (List Int)} (hl : ∀ s ∈ l, Sec s) (i : Nat) (h : i ≤ l.length) : ((l.take i).flatMap secV).length = i * 512 := by
  rw [flat_len_m (sz := 512) _ (fun x hx => by have := hl x (List.mem_of_mem_take hx); simp [secV, this.1]), List.length_take]
  congr 1
  omega
theorem sec_at {l : List (List Int)} (hl : ∀ s ∈ l, Sec s) {i : Nat} (h : i < l.length) : Sec (l.getD i []) := by
  have : l.getD i [] = l[i] := by simp [List.getD, h]
  rw [this]; exact hl _ (List.getElem_mem h)
theorem secV_len {s : List Int} (h : Sec s) : (secV s).length = 512 := by simp [secV, h.1]
theorem secV_one (s : List Int) : ∀ v ∈ secV s, v.oneCell' = true := ints_oneCell .u8 s
theorem Dsk.sector {w : World} {d lb m mc : Nat} {pA : Option Addr} {D : Dk} (h : Dsk w d lb pA m mc D) {i : Nat} (hi : i < D.l.length) : w.rangeAt lb (i * 512) (secV (D.l.getD i [])) ∧ w.there lb (i * 512) 512 := by
  have h1 := h.row
  rw [secs_split D.l i hi] at h1
  have h2 := h1.rangeAt
  have h3 := h1.there
  rw [secs_len h.ok.l i (by omega)] at h2 h3
  rw [secV_len (sec_at h.ok.l hi)] at h3
  exact ⟨h2, h3⟩
theorem wrV_len {x : Wr} (h : Sec x.2) : (wrV x).length = 513 := by simp [wrV, secV_len h]
theorem ways_split (l : List Wr) (i : Nat) (h : i < l.length) : l.flatMap wrV = (l.take i).flatMap wrV ++ wrV (l.getD i (0, [])) ++ (l.drop (i + 1)).flatMap wrV := by
  have : l = l.take i ++ [l.getD i (0, [])] ++ l.drop (i + 1) := by
    rw [show [l.getD i (0, [])] = [l[i]] by simp [List.getD, h], ← List.take_succ_eq_append_getElem h, List.take_append_drop]
  conv => lhs; rw [this]
  simp [List.flatMap_append]
theorem ways_len {l : List Wr} (hl : ∀ x ∈ l, Sec x.2) (i : Nat) (h : i ≤ l.length) : ((l.take i).flatMap wrV).length = i * 513 := by
  rw [flat_len_m (sz := 513) _ (fun x hx => wrV_len (hl x (List.mem_of_mem_take hx))), List.length_take]
  congr 1
  omega
theorem way_at {D : Dk} (h : DkOk D) {i : Nat} (hi : i < D.way.length) : (D.way.getD i (0, [])).1 < D.l.length ∧ Sec (D.way.getD i (0, [])).2 := by
  have : D.way.getD i (0, []) = D.way[i] := by simp [List.getD, hi]
  rw [this]; exact h.way _ (List.getElem_mem hi)
theorem Dsk.write {w : World} {d lb m mc : Nat} {pA : Option Addr} {D : Dk} (h : Dsk w d lb pA m mc D) {i : Nat} (hi : i < m) : ∃ g, pA = some ⟨g, 0, none⟩ ∧ g < w.heap.size ∧ m ≤ mc ∧ w.rangeAt g (i * 513) (wrV (D.way.getD i (0, []))) := by
  obtain ⟨g, cap, hv, hb, hlt⟩ := h.way.form (by omega)
  injection hv with hA hn hc
  subst hA
  refine ⟨g, rfl, hlt, ?_, fun j v hv => ?_⟩
  · rcases h.way.2 with ⟨hv, h0⟩ | ⟨g', cap', cur, hv, _, _, hnc, _⟩
    · injection hv with e; cases e
    · injection hv with _ _ e3
      omega
  · have hj : j < 513 := by
      have := (List.getElem?_eq_some_iff.1 hv).1
      rw [wrV_len (way_at h.ok (by rw [h.wl]; exact hi)).2] at this
      exact this
    have hc := h.way.cells (g := g) rfl (i * 513 + j) v (by
      rw [ways_split D.way i (by rw [h.wl]; exact hi), List.append_assoc, List.getElem?_append_right (by rw [ways_len (fun x hx => (h.ok.way x hx).2) i (by rw [h.wl]; omega)]; omega), ways_len (fun x hx => (h.ok.way x hx).2) i (by rw [h.wl]; omega), show i * 513 + j - i * 513 = j by omega, List.getElem?_append_left (List.getElem?_eq_some_iff.1 hv).1]
      exact hv)
    rw [Go.WideShapes.add_plain] at hc
    simpa using hc
end Go.Proofs.Ytggeepihkeocmaa
/- The disk's small methods by their contracts: of a nil disk, and of one that is there. -/
namespace Go.Proofs.Ytggeepihkeocmaa
set_option linter.unusedVariables false
set_option linter.unusedSimpArgs false
open Go.RowKit
theorem look_nil (i : Int) (w : World) : Calls Try.prog 72 #[.pointer none, .int .i64 i] w fun e w' => e = .returned (.int .i64 6) ∧ w = w' := by
  go_enter Try.func72, Try.ntmps72
  go_wp2
  go_ret
  exact ⟨rfl, rfl⟩
theorem len_nil  (w : World) : Calls Try.prog 57 #[.pointer none] w fun e w' => e = .returned (.int .i64 0) ∧ w = w' := by
  go_enter Try.func57, Try.ntmps57
  go_wp2
  go_ret
  exact ⟨rfl, rfl⟩
theorem pending_nil  (w : World) : Calls Try.prog 58 #[.pointer none] w fun e w' => e = .returned (.int .i64 0) ∧ w = w' := by
  go_enter Try.func58, Try.ntmps58
  go_wp2
  go_ret
  exact ⟨rfl, rfl⟩
theorem ops_nil  (w : World) : Calls Try.prog 59 #[.pointer none] w fun e w' => e = .returned (.int .i64 0) ∧ w = w' := by
  go_enter Try.func59, Try.ntmps59
  go_wp2
  go_ret
  exact ⟨rfl, rfl⟩
theorem on_nil  (w : World) : Calls Try.prog 60 #[.pointer none] w fun e w' => e = .returned (.bool false) ∧ w = w' := by
  go_enter Try.func60, Try.ntmps60
  go_wp2
  go_ret
  exact ⟨rfl, rfl⟩
theorem sync_nil  (w : World) : Calls Try.prog 50 #[.pointer none] w fun e w' => e = .returned (.int .i64 6) ∧ w = w' := by
  go_enter Try.func50, Try.ntmps50
  go_wp2
  go_ret
  exact ⟨rfl, rfl⟩
theorem arm_nil (i : Int) (w : World) : Calls Try.prog 56 #[.pointer none, .int .i64 i] w fun e w' => e = .returned (.int .i64 6) ∧ w = w' := by
  go_enter Try.func56, Try.ntmps56
  go_wp2
  go_ret
  exact ⟨rfl, rfl⟩
theorem restart_nil (A : Option Addr) (n c : Nat) (w : World) : Calls Try.prog 25 #[.pointer none, .slice A n c] w fun e w' => e = .returned (.int .i64 6) ∧ w = w' := by
  go_enter Try.func25, Try.ntmps25
  go_wp2
  go_ret
  exact ⟨rfl, rfl⟩
theorem wri_nil (i : Int) (A : Option Addr) (n c : Nat) (w : World) : Calls Try.prog 49 #[.pointer none, .int .i64 i, .slice A n c] w fun e w' => e = .returned (.int .i64 6) ∧ w = w' := by
  go_enter Try.func49, Try.ntmps49
  go_wp2_with fail
  refine (look_nil i w).mono ?_
  rintro e w' ⟨rfl, rfl⟩
  go_wp2
  go_ret
  exact ⟨rfl, rfl⟩
theorem read_nil (i : Int) (w : World) : Calls Try.prog 26 #[.pointer none, .int .i64 i] w fun e w' => e = .returned (.tuple #[.slice none 0 0, .int .i64 6]) ∧ w = w' := by
  go_enter Try.func26, Try.ntmps26
  go_wp2_with fail
  refine (look_nil i w).mono ?_
  rintro e w' ⟨rfl, rfl⟩
  go_wp2
  go_ret2
  exact ⟨rfl, rfl⟩
def lookE (D : Dk) (i : Int) : Int := if 0 ≤ i ∧ i < D.l.length then 0 else 1
theorem look_calls {d lb m mc : Nat} {pA : Option Addr} {D : Dk} (i : Int) (w : World) (h : Dsk w d lb pA m mc D) :
    Calls Try.prog 72 #[.pointer (some ⟨d, 0, none⟩), .int .i64 i] w fun e w' => e = .returned (.int .i64 (lookE D i)) ∧ w = w' := by
  have k0 := h.at_
  have k0c := k0.c; have k0f := k0.f; have k0l := k0.lt
  unfold lookE
  by_cases h1 : i < 0
  · rw [if_neg (by omega)]
    go_enter Try.func72, Try.ntmps72
    go_wp2
    go_ret
    exact ⟨rfl, rfl⟩
  · by_cases h2 : i < D.l.length
    · rw [if_pos (by omega)]
      go_enter Try.func72, Try.ntmps72
      go_wp2
      go_ret
      exact ⟨rfl, rfl⟩
    · rw [if_neg (by omega)]
      go_enter Try.func72, Try.ntmps72
      go_wp2
      go_ret
      exact ⟨rfl, rfl⟩
theorem len_calls {d lb m mc : Nat} {pA : Option Addr} {D : Dk} (w : World) (h : Dsk w d lb pA m mc D) : Calls Try.prog 57 #[.pointer (some ⟨d, 0, none⟩)] w fun e w' => e = .returned (.int .i64 D.l.length) ∧ w = w' := by
  have k0 := h.at_
  have k0c := k0.c; have k0f := k0.f; have k0l := k0.lt
  go_enter Try.func57, Try.ntmps57
  go_wp2
  go_ret
  exact ⟨rfl, rfl⟩
theorem pending_calls {d lb m mc : Nat} {pA : Option Addr} {D : Dk} (w : World) (h : Dsk w d lb pA m mc D) : Calls Try.prog 58 #[.pointer (some ⟨d, 0, none⟩)] w fun e w' => e = .returned (.int .i64 m) ∧ w = w' := by
  have k0 := h.at_
  have k0c := k0.c; have k0f := k0.f; have k0l := k0.lt
  go_enter Try.func58, Try.ntmps58
  go_wp2
  go_ret
  exact ⟨rfl, rfl⟩
theorem ops_calls {d lb m mc : Nat} {pA : Option Addr} {D : Dk} (w : World) (h : Dsk w d lb pA m mc D) : Calls Try.prog 59 #[.pointer (some ⟨d, 0, none⟩)] w fun e w' => e = .returned (.int .i64 D.ops) ∧ w = w' := by
  have k0 := h.at_
  have k0c := k0.c; have k0f := k0.f; have k0l := k0.lt
  go_enter Try.func59, Try.ntmps59
  go_wp2
  go_ret
  exact ⟨rfl, rfl⟩
theorem on_calls {d lb m mc : Nat} {pA : Option Addr} {D : Dk} (w : World) (h : Dsk w d lb pA m mc D) : Calls Try.prog 60 #[.pointer (some ⟨d, 0, none⟩)] w fun e w' => e = .returned (.bool (!D.off)) ∧ w = w' := by
  have k0 := h.at_
  have k0c := k0.c; have k0f := k0.f; have k0l := k0.lt
  go_enter Try.func60, Try.ntmps60
  go_wp2
  go_ret
  exact ⟨rfl, rfl⟩
def opD (D : Dk) : Dk := { D with ops := D.ops + 1, arm := if 0 < D.arm then D.arm - 1 else D.arm, off := if 0 < D.arm then decide (D.arm = 1) else D.off }
theorem DkOk.op {D : Dk} (h : DkOk D) (h9 : D.ops < 1000000000) : DkOk (opD D) := by
  have h1 := h.arm
  have h2 := h.ops
  refine ⟨h.l, h.way, h.len, ?_, ?_, h.cnt⟩
  · show 0 ≤ (if 0 < D.arm then D.arm - 1 else D.arm) ∧ (if 0 < D.arm then D.arm - 1 else D.arm) ≤ 9223372036854775807
    split <;> omega
  · show 0 ≤ D.ops + 1 ∧ D.ops + 1 ≤ 1000000000
    omega
theorem begin_calls {d lb m mc : Nat} {pA : Option Addr} {D : Dk} (w : World) (h : Dsk w d lb pA m mc D) (h9 : D.ops < 1000000000) :
    Calls Try.prog 85 #[.pointer (some ⟨d, 0, none⟩)] w fun e w' => e = .returned (.bool (opD D).off) ∧ Dsk w' d lb pA m mc (opD D) ∧ Mod (fun k => k = d) w w' := by
  have k0 := h.at_
  have k0c := k0.c; have k0f := k0.f; have k0l := k0.lt
  have ho := h.ok.ops
  have ha := h.ok.arm
  have hn1 := h.ne1
  have hn2 := h.ne2
  have hok := Lib.hid (h.ok.op h9)
  have hfin : ∀ w', Mod (fun k => k = d) w w' → At w' d #[.slice (some ⟨lb, 0, none⟩) D.l.length D.l.length, .slice pA m mc, .int .i64 (opD D).arm, .bool (opD D).off, .int .i64 (opD D).ops] 124 → Dsk w' d lb pA m mc (opD D) := fun w' hm hat =>
    ⟨hat, h.row.mod hm (fun e => hn1 e.symm), owns_heap h.way (fun b hb => by
      rw [ownBlk_eq] at hb
      exact hm.block b ((h.way.lt b (by rw [ownBlk_eq]; exact hb)).2) (fun e => hn2 (by rw [hb, e]))), h.wl, hok.out⟩
  have hfin' := Lib.hid hfin
  by_cases h0 : 0 < D.arm
  · have e1 : (opD D).arm = D.arm - 1 := if_pos h0
    have e2 : (opD D).off = decide (D.arm = 1) := if_pos h0
    have e3 : (opD D).ops = D.ops + 1 := rfl
    by_cases h1 : D.arm = 1
    · rw [h1] at e1
      rw [e2, decide_eq_true h1]
      rw [e1, e2, e3, decide_eq_true h1] at hfin'
      have h1' := Lib.hid h1
      clear hfin hok e1 e2 e3
      rw [h1] at k0c
      go_enter Try.func85, Try.ntmps85
      go_wp2
      go_ret
      have hm : Mod (fun k => k = d) w (((w.setCell ⟨d, 4, none⟩ (.int .i64 (D.ops + 1))).setCell ⟨d, 2, none⟩ (.int .i64 0)).setCell ⟨d, 3, none⟩ (.bool true)) := (((Mod.refl (fun k => k = d) w).set (.inl rfl) _).set (.inl rfl) _).set (.inl rfl) _
      exact ⟨by first | rfl | simp, hfin'.out _ hm (k0.set.set.set.to (by simp)), hm⟩
    · rw [e2, decide_eq_false h1]
      rw [e1, e2, e3, decide_eq_false h1] at hfin'
      have h2 : ¬ D.arm - 1 = 0 := by omega
      have h3 : (D.arm - 1 == 0) = false := by simpa using h2
      clear hfin hok e1 e2 e3
      go_enter Try.func85, Try.ntmps85
      go_wp2
      go_ret
      have hm : Mod (fun k => k = d) w (((w.setCell ⟨d, 4, none⟩ (.int .i64 (D.ops + 1))).setCell ⟨d, 2, none⟩ (.int .i64 (D.arm - 1))).setCell ⟨d, 3, none⟩ (.bool false)) := (((Mod.refl (fun k => k = d) w).set (.inl rfl) _).set (.inl rfl) _).set (.inl rfl) _
      exact ⟨by first | rfl | simp, hfin'.out _ hm (k0.set.set.set.to (by simp)), hm⟩
  · have e1 : (opD D).arm = D.arm := if_neg h0
    have e2 : (opD D).off = D.off := if_neg h0
    have e3 : (opD D).ops = D.ops + 1 := rfl
    rw [e1, e2, e3] at hfin'
    rw [e2]
    clear hfin hok e1 e2 e3
    go_enter Try.func85, Try.ntmps85
    go_wp2
    go_ret
    have hm : Mod (fun k => k = d) w (w.setCell ⟨d, 4, none⟩ (.int .i64 (D.ops + 1))) := (Mod.refl (fun k => k = d) w).set (.inl rfl) _
    exact ⟨by first | rfl | simp, hfin'.out _ hm (k0.set.to (by simp)), hm⟩
end Go.Proofs.Ytggeepihkeocmaa
/- A region that draws, taken by hand: the condition S may grow on the way. -/
namespace Go.Proofs.Ytggeepihkeocmaa
set_option linter.unusedVariables false
set_option linter.unusedSimpArgs false
open Go.RowKit
section
variable {P : Program} {ops : Array Oper} {Q : Exit → Act → World → Prop} {md : Region.Mode} {S : World → Prop}
theorem getElem?_of_drop {i : Nat} {o : Oper} {r : List Oper} (h : ops.toList.drop i = o :: r) : ops[i]? = some o := by
  have h1 : (ops.toList.drop i)[0]? = some o := by rw [h]; rfl
  rw [List.getElem?_drop] at h1
  simpa using h1
theorem wpAnyH_mono {S' : World → Prop} (hs : ∀ w, S' w → S w) : ∀ (fuel : Nat) (listed : Array Bool) (a : Act) (w : World), wpAnyH P md ops Q S' fuel listed a w → wpAnyH P md ops Q S fuel listed a w
  | 0, _, _, _, h => h
  | fuel + 1, _, _, _, h => ⟨h.1, fun i hi => wpOp_mono (fun a' w' h' => ⟨hs _ h'.1, wpAnyH_mono hs fuel _ a' w' h'.2⟩) (h.2 i hi)⟩
theorem wpAnyH_takeL {i : Nat} {oi : Oper} {r : List Oper} {v : Value} {fuel : Nat} {listed : Array Bool} {a : Act} {w : World} (hd : ops.toList.drop i = oi :: r)
    (hs : Region.noSelect ops = true) (hf : Region.free md ops listed i = true) (hr : (Region.ready md ops listed).contains i = true)
    (hQ : ∀ c a w, Q (.panic c) (a.put oi.dst v) w → Q (.panic c) a w) (hw : Region.wanted oi (yielded ops a.tmps) = true) (hS : S w) (hy : ∀ w, S w → (execOp a.eval oi).run P w = .ok (.value v) w)
    (h : wpAnyH P md ops Q S fuel (listed.setIfInBounds i true) (a.put oi.dst v) w) : wpAnyH P md ops Q S (fuel + 1) listed a w :=
  wpAnyH_take (getElem?_of_drop hd) hs hf hr hQ (.inl ⟨hw, hy⟩) hS h
/-- .. an operation that isn't wanted. -/
theorem wpAnyH_skipL {i : Nat} {oi : Oper} {r : List Oper} {fuel : Nat} {listed : Array Bool} {a : Act} {w : World} (hd : ops.toList.drop i = oi :: r)
    (hs : Region.noSelect ops = true) (hf : Region.free md ops listed i = true) (hr : (Region.ready md ops listed).contains i = true)
    (hQ : ∀ c a w, Q (.panic c) (a.put oi.dst undef) w → Q (.panic c) a w) (hw : Region.wanted oi (yielded ops a.tmps) = false) (hS : S w)
    (h : wpAnyH P md ops Q S fuel (listed.setIfInBounds i true) (a.put oi.dst undef) w) : wpAnyH P md ops Q S (fuel + 1) listed a w :=
  wpAnyH_take (getElem?_of_drop hd) hs hf hr hQ (.inr ⟨hw, rfl⟩) hS h
theorem wpAnyH_callL {i : Nat} {o : Oper} {r : List Oper} {fuel : Nat} {listed : Array Bool} {a : Act} {w : World} (hd : ops.toList.drop i = o :: r)
    (hr : Region.ready md ops listed = [i]) (hw : Region.wanted o (yielded ops a.tmps) = true)
    (h : ∀ K' : Act → World → Prop, Shut (∀ a w, S w → (S w → wpAnyH P md ops Q S fuel (listed.setIfInBounds i true) a w) → K' a w) → Oper.wp P o a w K' Q) : wpAnyH P md ops Q S (fuel + 1) listed a w :=
  wpAnyH_ready hr (by simp) (AllReadyH.cons (getElem?_of_drop hd) (fun K' hK => by rw [if_pos hw]; exact h K' hK) AllReadyH.nil)
end
end Go.Proofs.Ytggeepihkeocmaa
