/- Joined texts: PlMap, PlA, PlB. -/
import Derived.Test.YtggeepihkeocmaaJPlays00
import Derived.Maps.OwnSet
import Derived.Maps.Ext
import Derived.Lib.SlKeysI
import Derived.Test.YtggeepihkeocmaaJPlays18
/- Maps keyed by int in the heap, by what stands at each key and the list of the keys, rising. -/
namespace Go.Proofs.Ytggeepihkeocmaa
set_option linter.unusedVariables false
set_option linter.unusedSimpArgs false
open Go.RowKit Go.Maps
/-- How an element reads: mv is the value of a plain element, enc its datum. -/
structure EltK (α : Type) (e : TypeId) where
  R : Value → Option (DataW Unit × List MemPlace)
  mv : α → Value
  enc : α → DataW Unit
  ok : α → Prop
  z : Value
  zd : DataW Unit
  hz : ∀ w, (zeroValue e).run Try.prog w = .ok z w
  hzd : R z = some (zd, [])
  mkR : ∀ v, ok v → R (mv v) = some (enc v, [])
  inv : ∀ v x ps, R x = some (enc v, ps) → x = mv v
  invz : ∀ x ps, R x = some (zd, ps) → x = z
def ikey (k : Int) : Lit := .int .i64 k
def KOk (k : Int) : Prop := -9223372036854775808 ≤ k ∧ k ≤ 9223372036854775807
theorem KOk.wf {k : Int} (h : KOk k) : (Lit.int .i64 k).wf = true := by
  obtain ⟨h1, h2⟩ := h
  simp [Lit.wf, IntKind.min, IntKind.max, IntKind.signed, IntKind.bits]
  omega
theorem ikeyed : Keyed Try.prog 3 := int_keyed Try.underlying3
theorem ikey_of {k : Int} (h : KOk k) : keyOf Try.prog 3 (.int .i64 k) = some (ikey k) := keyOf_int_mk Try.underlying3 h.wf
theorem ikey_lit (k : Int) : WideAt.IsKeyLit (ikey k) := by simp [ikey, WideAt.IsKeyLit]
theorem ikey_ne {j k : Int} (h : j ≠ k) : ikey j ≠ ikey k := fun e => by
  unfold ikey at e
  injection e with _ e
  exact h e
/-- Block b is a map that holds m, with the keys ks. -/
def MpR {α : Type} {e : TypeId} (E : EltK α e) (w : World) (b : Nat) (m : Int → Option α) (ks : List Int) : Prop :=
  ∃ D, w.ownsMap Try.prog 3 E.R b ks.length D ∧ (∀ k, has D (ikey k) = (m k).isSome) ∧ (∀ k v, m k = some v → ∀ z, D.atKey (ikey k) z = E.enc v) ∧ ks.Pairwise (· < ·) ∧ (∀ k, k ∈ ks ↔ (m k).isSome = true) ∧ (∀ k, (m k).isSome = true → KOk k)
section
variable {α : Type} {e T : TypeId} {E : EltK α e} {w : World} {b : Nat} {m : Int → Option α} {ks : List Int}
theorem owns_tight {R : Value → Option (DataW Unit × List MemPlace)} {n : Nat} {D : DataW Unit} {P : Program} {k : TypeId} (h : w.ownsMap P k R b n D) : w.ownsMap P k R b (Maps.size D) D := by
  obtain ⟨es, clock, hb, F, hs, hD⟩ := h
  refine ⟨es, clock, hb, F, ?_, hD⟩
  rw [hD]
  show es.size ≤ ((es.toList.map _).foldr DataW.insert []).length
  rw [length_read]
  exact Nat.le_refl _
theorem rise_nodup {l : List Int} (h : l.Pairwise (· < ·)) : l.Nodup := h.imp (fun h e => by omega)
theorem MpR.mk_ {n : Nat} {D : DataW Unit} (h1 : w.ownsMap Try.prog 3 E.R b n D) (h2 : ∀ k, has D (ikey k) = (m k).isSome) (h3 : ∀ k v, m k = some v → ∀ z, D.atKey (ikey k) z = E.enc v) (h4 : ks.Pairwise (· < ·)) (h5 : ∀ k, k ∈ ks ↔ (m k).isSome = true) (h6 : ∀ k, (m k).isSome = true → KOk k) : MpR E w b m ks := by
  refine ⟨D, ?_, h2, h3, h4, h5, h6⟩
  obtain ⟨es, hD, hpw, hk⟩ := h1.entries ikeyed
  have hkeys : ∀ p ∈ es, ∃ x, p.1 = .int .i64 x := fun p hp => by
    obtain ⟨es0, clock, hb, F, hs, hD0⟩ := h1
    rw [hD] at hD0
    injection hD0 with hD0
    rw [hD0] at hp
    have hp2 := mem_sorted.1 hp
    obtain ⟨v, hv⟩ := fit_keys F p hp2
    obtain ⟨x, -, hx, -⟩ := Maps.keyOf_i64 Try.underlying3 hv
    exact ⟨x, hx⟩
  have hperm : ks.Perm (intKeys D) := by
    subst hD
    exact perm_intKeys hpw hkeys (rise_nodup h4) (fun x => by rw [h5 x, ← h2 x]; rfl)
  have hsz : Maps.size D = ks.length := by
    have := hperm.length_eq
    subst hD
    rw [this]
    show es.length = (es.map _).length
    rw [List.length_map]
  have := owns_tight h1
  rwa [hsz] at this
theorem MpR.perm (h : MpR E w b m ks) : ∃ D, w.ownsMap Try.prog 3 E.R b ks.length D ∧ ks.Perm (intKeys D) ∧ Maps.size D = ks.length := by
  obtain ⟨D, h1, h2, h3, h4, h5, h6⟩ := h
  refine ⟨D, h1, ?_, ?_⟩ <;> obtain ⟨es, hD, hpw, hk⟩ := h1.entries ikeyed
  all_goals
    have hkeys : ∀ p ∈ es, ∃ x, p.1 = .int .i64 x := fun p hp => by
      obtain ⟨es0, clock, hb, F, hs, hD0⟩ := h1
      rw [hD] at hD0
      injection hD0 with hD0
      rw [hD0] at hp
      have hp2 := mem_sorted.1 hp
      obtain ⟨v, hv⟩ := fit_keys F p hp2
      obtain ⟨x, -, hx, -⟩ := Maps.keyOf_i64 Try.underlying3 hv
      exact ⟨x, hx⟩
    have hperm : ks.Perm (intKeys D) := by
      subst hD
      exact perm_intKeys hpw hkeys (rise_nodup h4) (fun x => by rw [h5 x, ← h2 x]; rfl)
  · exact hperm
  · have := hperm.length_eq
    subst hD
    rw [this]
    show es.length = (es.map _).length
    rw [List.length_map]
theorem MpR.lt (h : MpR E w b m ks) : b < w.heap.size := by obtain ⟨D, h1, -⟩ := h; exact h1.lt
theorem MpR.of_heap {w' : World} (h : MpR E w b m ks) (e : w'.heap[b]? = w.heap[b]?) : MpR E w' b m ks := by
  obtain ⟨D, ⟨es, clock, hb, F, hs, hD⟩, h2⟩ := h
  exact ⟨D, ⟨es, clock, e.trans hb, F, hs, hD⟩, h2⟩
theorem MpR.mod {w' : World} {S : Nat → Prop} (h : MpR E w b m ks) (hm : Mod S w w') (hs : ¬ S b) : MpR E w' b m ks := h.of_heap (hm.block b h.lt hs)
theorem MpR.later {w' : World} (h : MpR E w b m ks) (hb : Below w.heap.size w w') : MpR E w' b m ks := h.of_heap (hb.block b h.lt)
theorem MpR.drewN (h : MpR E w b m ks) (k : Nat) : MpR E (w.drewN k) b m ks := h.of_heap rfl
theorem MpR.noAt {c : Array Value} {t : Nat} (h : MpR E w b m ks) (k : Nat) (ha : At w k c t) : k ≠ b := fun e => by
  obtain ⟨D, ⟨es, clock, hb, -⟩, -⟩ := h
  subst e
  have := ha.symm.trans hb
  cases this
/-- A new map. -/
theorem MpR.new (E : EltK α e) (w : World) : MpR E (w.alloc (.map #[] 0)) w.heap.size (fun _ => none) [] :=
  MpR.mk_ (World.ownsMap_made w _ _ _) (fun _ => rfl) (fun _ _ h => by cases h) List.Pairwise.nil (fun k => by simp) (fun k h => by cases h)
/-- m[k]. -/
def lookV (E : EltK α e) (o : Option α) : Value := match o with | none => E.z | some v => E.mv v
theorem MpR.look (h : MpR E w b m ks) (ht : Try.prog.underlying T = some (.map 3 e)) {k : Int} (hk : KOk k) : (Instr.lookup T (.map (some b)) (.int .i64 k) false).run Try.prog w = .ok (lookV E (m k)) w := by
  obtain ⟨D, h1, h2, h3, -⟩ := h
  obtain ⟨v, ps, hrun, hR⟩ := h1.lookup ikeyed ht (E.hz w) E.hzd (ikey_of hk)
  rw [hrun]
  cases hm : m k with
  | none =>
    have := h2 k
    rw [hm] at this
    rw [atKey_of_not_has this] at hR
    rw [E.invz v ps hR]
    rfl
  | some x =>
    rw [h3 k x hm] at hR
    rw [E.inv x v ps hR]
    rfl
/-- v, ok := m[k]. -/
theorem MpR.look2 (h : MpR E w b m ks) (ht : Try.prog.underlying T = some (.map 3 e)) {k : Int} (hk : KOk k) : (Instr.lookup T (.map (some b)) (.int .i64 k) true).run Try.prog w = .ok (.tuple #[lookV E (m k), .bool (m k).isSome]) w := by
  obtain ⟨D, h1, h2, h3, -⟩ := h
  obtain ⟨v, ps, hrun, hR⟩ := h1.look_ok ikeyed ht (E.hz w) E.hzd (ikey_of hk)
  rw [hrun, h2 k]
  cases hm : m k with
  | none =>
    have := h2 k
    rw [hm] at this
    rw [atKey_of_not_has this] at hR
    rw [E.invz v ps hR]
    rfl
  | some x =>
    rw [h3 k x hm] at hR
    rw [E.inv x v ps hR]
    rfl
/-- len(m). -/
theorem MpR.len (h : MpR E w b m ks) (ht : Try.prog.underlying T = some (.map 3 e)) (ty : TypeId) : (Builtin.len_ #[T] ty #[.map (some b)]).run Try.prog w = .ok (.int .i64 ks.length) w := by
  obtain ⟨D, h1, -, h3⟩ := h.perm
  rw [h1.len ht ty, h3]
def updM (m : Int → Option α) (k : Int) (o : Option α) (j : Int) : Option α := if j = k then o else m j
def insK (k : Int) : List Int → List Int
  | [] => [k]
  | j :: l => if k < j then k :: j :: l else if k = j then j :: l else j :: insK k l
theorem mem_insK (k x : Int) : ∀ l, x ∈ insK k l ↔ x = k ∨ x ∈ l
  | [] => by simp [insK]
  | j :: l => by
    unfold insK
    by_cases h : k < j
    · rw [if_pos h]; simp
    · rw [if_neg h]
      by_cases h2 : k = j
      · rw [if_pos h2]; subst h2; simp
      · rw [if_neg h2, List.mem_cons, mem_insK k x l, List.mem_cons]
        constructor
        · rintro (h | h | h)
          · exact .inr (.inl h)
          · exact .inl h
          · exact .inr (.inr h)
        · rintro (h | h | h)
          · exact .inr (.inl h)
          · exact .inl h
          · exact .inr (.inr h)
theorem insK_rise (k : Int) : ∀ l : List Int, l.Pairwise (· < ·) → (insK k l).Pairwise (· < ·)
  | [], _ => by simp [insK]
  | j :: l, h => by
    have h1 := List.pairwise_cons.1 h
    unfold insK
    by_cases hlt : k < j
    · rw [if_pos hlt]
      refine List.pairwise_cons.2 ⟨fun x hx => ?_, h⟩
      rcases List.mem_cons.1 hx with rfl | hx
      · exact hlt
      · have := h1.1 x hx; omega
    · rw [if_neg hlt]
      by_cases h2 : k = j
      · rw [if_pos h2]; exact h
      · rw [if_neg h2]
        refine List.pairwise_cons.2 ⟨fun x hx => ?_, insK_rise k l h1.2⟩
        rcases (mem_insK k x l).1 hx with rfl | hx
        · omega
        · exact h1.1 x hx
/-- m[k] = v. -/
theorem MpR.put (h : MpR E w b m ks) (ht : Try.prog.underlying T = some (.map 3 e)) {k : Int} (hk : KOk k) {v : α} (hv : E.ok v) (hn : ks.length < maxLen) : ∃ w', (Instr.mapUpdate T (.map (some b)) (.int .i64 k) (E.mv v)).run Try.prog w = .ok () w' ∧ MpR E w' b (updM m k (some v)) (insK k ks) ∧ w.mapTurned w' b := by
  obtain ⟨D, h1, h2, h3, h4, h5, h6⟩ := h
  obtain ⟨w', hrun, h7, h8⟩ := h1.store ikeyed ht hn (ikey_of hk) (E.mkR v hv)
  refine ⟨w', hrun, MpR.mk_ h7 (fun j => ?_) (fun j x hx z => ?_) (insK_rise k ks h4) (fun j => ?_) (fun j hj => ?_), h8⟩
  · unfold updM
    by_cases hj : j = k
    · subst hj
      rw [if_pos rfl, has_put_same (h1.isMap) (ikey_lit j)]
      rfl
    · rw [if_neg hj, has_put_other (ikey_ne hj), h2 j]
  · unfold updM at hx
    by_cases hj : j = k
    · subst hj
      rw [if_pos rfl] at hx
      cases hx
      rw [atKey_put_same (h1.isMap) (ikey_lit j)]
    · rw [if_neg hj] at hx
      rw [atKey_put_other (ikey_ne hj)]
      exact h3 j x hx z
  · rw [mem_insK, h5 j]
    unfold updM
    by_cases hj : j = k
    · subst hj; simp
    · simp [hj]
  · unfold updM at hj
    by_cases hjk : j = k
    · subst hjk; exact hk
    · rw [if_neg hjk] at hj; exact h6 j hj
/-- delete(m, k). -/
theorem MpR.del (h : MpR E w b m ks) (ht : Try.prog.underlying T = some (.map 3 e)) {k : Int} (hk : KOk k) : ∃ w', (∀ ty : TypeId, (Builtin.delete_ #[T, 3] ty #[.map (some b), .int .i64 k]).run Try.prog w = .ok (.tuple #[]) w') ∧ MpR E w' b (updM m k none) (ks.filter (fun j => decide (j ≠ k))) ∧ w.mapTurned w' b := by
  obtain ⟨D, h1, h2, h3, h4, h5, h6⟩ := h
  obtain ⟨es, clock, hb0, F0, hs0, rfl⟩ := h1
  obtain ⟨es', hrun, F', hle, hdel, -⟩ := Maps.fit_drop (ty := 3) ikeyed ht hb0 F0 (ikey_of hk)
  have hrun2 : ∀ ty : TypeId, (Builtin.delete_ #[T, 3] ty #[.map (some b), .int .i64 k]).run Try.prog w = .ok (.tuple #[]) (ChangeMaps.setBlock w b (.map es' clock)) := fun ty => hrun
  have h1 : w.ownsMap Try.prog 3 E.R b ks.length (.map ((es.toList.map (WideElems.rg Try.prog 3 E.R)).foldr DataW.insert [])) := ⟨es, clock, hb0, F0, hs0, rfl⟩
  have h7 : (ChangeMaps.setBlock w b (.map es' clock)).ownsMap Try.prog 3 E.R b ks.length (DataW.del (.map ((es.toList.map (WideElems.rg Try.prog 3 E.R)).foldr DataW.insert [])) (ikey k)) := ⟨es', clock, ChangeMaps.heap_setBlock_same hb0 _, F', Nat.le_trans hle hs0, by rw [DataW.del_eq, hdel]⟩
  have h8 : w.mapTurned (ChangeMaps.setBlock w b (.map es' clock)) b := ⟨es, clock, es', clock, hb0, rfl⟩
  refine ⟨_, hrun2, MpR.mk_ h7 (fun j => ?_) (fun j x hx z => ?_) (h4.filter _) (fun j => ?_) (fun j hj => ?_), h8⟩
  · unfold updM
    by_cases hj : j = k
    · subst hj
      rw [if_pos rfl, has_del_same]
      rfl
    · rw [if_neg hj, has_del_other (ikey_ne hj), h2 j]
  · unfold updM at hx
    by_cases hj : j = k
    · subst hj
      rw [if_pos rfl] at hx
      cases hx
    · rw [if_neg hj] at hx
      rw [atKey_del_other (ikey_ne hj)]
      exact h3 j x hx z
  · rw [List.mem_filter, h5 j]
    unfold updM
    by_cases hj : j = k
    · subst hj; simp
    · simp [hj]
  · unfold updM at hj
    by_cases hjk : j = k
    · subst hjk; rw [if_pos rfl] at hj; cases hj
    · rw [if_neg hjk] at hj; exact h6 j hj
/-- clear(m). -/
theorem MpR.clear (h : MpR E w b m ks) (ht : Try.prog.underlying T = some (.map 3 e)) : ∃ w', (∀ ty : TypeId, (Builtin.clear_ #[T] ty #[.map (some b)]).run Try.prog w = .ok (.tuple #[]) w') ∧ MpR E w' b (fun _ => none) [] ∧ w.mapTurned w' b := by
  obtain ⟨D, ⟨es, clock, hb, F, hs, hD⟩, -⟩ := h
  refine ⟨ChangeMaps.setBlock w b (.map #[] clock), ?_, MpR.mk_ (D := .map []) (n := 0) ⟨#[], clock, ChangeMaps.heap_setBlock_same hb _, ⟨by simp, by simp [MapKept.Stamped], by simp⟩, by simp, rfl⟩ (fun _ => rfl) (fun _ _ h => by cases h) List.Pairwise.nil (fun k => by simp) (fun k h => by cases h), ⟨es, clock, _, _, hb, rfl⟩⟩
  intro ty
  simp [Builtin.clear_, run_underlying ht, MapKept.run_getObj_map hb, MapKept.run_setObj_map _ hb, Result.andThen]
  rfl
end
theorem turned_mod {S : Nat → Prop} {w w' : World} {b : Nat} (h : w.mapTurned w' b) (hs : S b) : Mod S w w' := (Mod.refl S w).grown h.grown (fun k hk => .inl (by injection hk with hk; exact hk ▸ hs))
/-- A pointer to the head of a block. -/
def ptrR : Value → Option (DataW Unit × List MemPlace)
  | .pointer none => some (.lit (.bool false), [])
  | .pointer (some ⟨b, 0, none⟩) => some (.lit (.int .i64 b), [])
  | _ => none
theorem ptrR_inv {v : Nat} {x : Value} {ps : List MemPlace} (h : ptrR x = some (.lit (.int .i64 v), ps)) : x = .pointer (some ⟨v, 0, none⟩) := by
  unfold ptrR at h
  split at h
  · simp at h
  · rename_i b
    simp at h
    have e : b = v := by omega
    subst e
    rfl
  · cases h
theorem ptrR_nil {x : Value} {ps : List MemPlace} (h : ptrR x = some (.lit (.bool false), ps)) : x = .pointer none := by
  unfold ptrR at h
  split at h
  · rfl
  · simp at h
  · cases h
end Go.Proofs.Ytggeepihkeocmaa
/- A pool in the heap, and its plain meaning. -/
namespace Go.Proofs.Ytggeepihkeocmaa
set_option linter.unusedVariables false
set_option linter.unusedSimpArgs false
open Go.RowKit Go.Maps
structure Fr where
  p : List Int
  dirty : Bool
  since : Int
  pins : Int
  used : Int
structure FrOk (f : Fr) : Prop where
  len : f.p.length = 512
  byt : Byt f.p
  since : 0 ≤ f.since ∧ f.since < 18446744073709551616
  pins : 0 ≤ f.pins ∧ f.pins ≤ 1000000
  used : 0 ≤ f.used ∧ f.used ≤ 1000000000
structure Pl where
  at_ : Int
  pages : Int
  most : Int
  clock : Int
  fr : Int → Option Fr
  ks : List Int
  gone : Int → Option Int
  gs : List Int
structure PlOk (P : Pl) (n : Nat) : Prop where
  at_ : 0 ≤ P.at_
  pages : 1 ≤ P.pages ∧ P.pages ≤ 4096
  fit : P.at_ + P.pages ≤ n
  most : 1 ≤ P.most ∧ P.most ≤ 64
  clock : 0 ≤ P.clock ∧ P.clock ≤ 1000000
  len : (P.ks.length : Int) ≤ P.most
  fr : ∀ k f, P.fr k = some f → FrOk f ∧ 0 ≤ k ∧ k < P.pages
  gone : ∀ k s, P.gone k = some s → (0 ≤ k ∧ k < P.pages) ∧ 0 ≤ s ∧ s < 18446744073709551616
/-- The elements of the two maps: a frame's block; a number. -/
def EF : EltK Nat 101 where
  R := ptrR
  mv := fun b => .pointer (some ⟨b, 0, none⟩)
  enc := fun b => .lit (.int .i64 b)
  ok := fun _ => True
  z := .pointer none
  zd := .lit (.bool false)
  hz := fun w => by kernel_rfl
  hzd := rfl
  mkR := fun _ _ => rfl
  inv := fun _ _ _ h => ptrR_inv h
  invz := fun _ _ h => ptrR_nil h
def u64R : Value → Option (DataW Unit × List MemPlace)
  | .int .u64 s => some (.lit (.int .u64 s), [])
  | _ => none
theorem u64R_inv {s : Int} {x : Value} {ps : List MemPlace} (h : u64R x = some (.lit (.int .u64 s), ps)) : x = .int .u64 s := by
  unfold u64R at h
  split at h
  · simp only [Option.some.injEq, Prod.mk.injEq, DataW.lit.injEq, Lit.int.injEq] at h
    rw [h.1.2]
  · cases h
def EG : EltK Int 33 where
  R := u64R
  mv := fun s => .int .u64 s
  enc := fun s => .lit (.int .u64 s)
  ok := fun s => 0 ≤ s ∧ s < 18446744073709551616
  z := .int .u64 0
  zd := .lit (.int .u64 0)
  hz := fun w => by kernel_rfl
  hzd := rfl
  mkR := fun _ _ => rfl
  inv := fun _ _ _ h => u64R_inv h
  invz := fun _ _ h => u64R_inv h
/-- A frame's bytes: a row from block base on; a dirty one's are a row of bytes that the pool made. -/
def PgB (w : World) (base : Nat) (A : Option Addr) (c : Nat) (f : Fr) : Prop :=
  (∃ g, A = some ⟨g, 0, none⟩ ∧ base ≤ g ∧ BsR w g (g + 1) A 512 f.p ∧ g < w.heap.size) ∧ 512 ≤ c ∧ c ≤ maxLen ∧ (f.dirty = true → OwB w base A 512 c f.p)
theorem PgB.mod {w w' : World} {base c : Nat} {A : Option Addr} {f : Fr} {S : Nat → Prop} (h : PgB w base A c f) (hm : Mod S w w') (hs : ∀ b, ownBlk A = some b → ¬ S b) : PgB w' base A c f := by
  obtain ⟨⟨g, rfl, h1, h2, h3⟩, h4, h5, h6⟩ := h
  refine ⟨⟨g, rfl, h1, h2.modS hm hs (by omega), Nat.lt_of_lt_of_le h3 hm.size⟩, h4, h5, fun hd => (h6 hd).mod hm hs⟩
theorem PgB.lt {w : World} {base c : Nat} {A : Option Addr} {f : Fr} (h : PgB w base A c f) : ∀ b, ownBlk A = some b → base ≤ b ∧ b < w.heap.size := fun b hb => by
  obtain ⟨⟨g, rfl, h1, h2, h3⟩, -⟩ := h
  have : g = b := by simpa [ownBlk] using hb
  omega
/-- Where the pool's things lie. -/
structure Lo where
  fb : Nat
  gb : Nat
  blk : Int → Nat
  pb : Int → Option Addr
  pc : Int → Nat
/-- A pool in the heap. -/
structure PlH (w : World) (base d g pp : Nat) (o : Lo) (P : Pl) : Prop where
  at_ : At w pp #[.pointer (some ⟨d, 0, none⟩), .pointer (some ⟨g, 0, none⟩), .int .i64 P.at_, .int .i64 P.pages, .int .i64 P.most, .int .i64 P.clock, .map (some o.fb), .map (some o.gb)] 111
  hp : base ≤ pp
  hf : base ≤ o.fb
  hg : base ≤ o.gb
  fm : MpR EF w o.fb (fun k => (P.fr k).map (fun _ => o.blk k)) P.ks
  gm : MpR EG w o.gb P.gone P.gs
  ne : o.fb ≠ o.gb
  frs : ∀ k f, P.fr k = some f → At w (o.blk k) #[.slice (o.pb k) 512 (o.pc k), .bool f.dirty, .int .u64 f.since, .int .i64 f.pins, .int .i64 f.used] 105 ∧ base ≤ o.blk k ∧ PgB w base (o.pb k) (o.pc k) f
  inj : ∀ j k f f', P.fr j = some f → P.fr k = some f' → o.blk j = o.blk k → j = k
  injb : ∀ j k f f', P.fr j = some f → P.fr k = some f' → ownBlk (o.pb j) = ownBlk (o.pb k) → j = k
/-- The blocks of a pool. -/
def PF (pp : Nat) (o : Lo) (P : Pl) (k : Nat) : Prop := k = pp ∨ k = o.fb ∨ k = o.gb ∨ ∃ i f, P.fr i = some f ∧ (k = o.blk i ∨ ownBlk (o.pb i) = some k)
section
variable {w w' : World} {base d g pp : Nat} {o : Lo} {P : Pl} {S : Nat → Prop}
theorem PlH.mod (h : PlH w base d g pp o P) (hm : Mod S w w') (hs : ∀ k, PF pp o P k → ¬ S k) : PlH w' base d g pp o P :=
  ⟨h.at_.mod hm (hs _ (.inl rfl)), h.hp, h.hf, h.hg, h.fm.mod hm (hs _ (.inr (.inl rfl))), h.gm.mod hm (hs _ (.inr (.inr (.inl rfl)))), h.ne,
   fun k f hk => by
    obtain ⟨h1, h2, h3⟩ := h.frs k f hk
    exact ⟨h1.mod hm (hs _ (.inr (.inr (.inr ⟨k, f, hk, .inl rfl⟩)))), h2, h3.mod hm (fun b hb => hs _ (.inr (.inr (.inr ⟨k, f, hk, .inr hb⟩))))⟩, h.inj, h.injb⟩
theorem PlH.later (h : PlH w base d g pp o P) (hb : Below w.heap.size w w') : PlH w' base d g pp o P := h.mod (S := Nob) (Mod.of_below hb) (fun _ _ h => h)
theorem PlH.lts (h : PlH w base d g pp o P) : ∀ k, PF pp o P k → base ≤ k ∧ k < w.heap.size := fun k hk => by
  rcases hk with rfl | rfl | rfl | ⟨i, f, hi, hk⟩
  · exact ⟨h.hp, h.at_.lt⟩
  · exact ⟨h.hf, h.fm.lt⟩
  · exact ⟨h.hg, h.gm.lt⟩
  · obtain ⟨h1, h2, h3⟩ := h.frs i f hi
    rcases hk with rfl | hk
    · exact ⟨h2, h1.lt⟩
    · exact h3.lt k hk
end
structure St where
  P : Pl
  D : Dk
  L : Lg
/-- A pool with its disk and its log. -/
structure PWo (w : World) (base da lb g pp : Nat) (F : Nat → Prop) (bA : Option Addr) (bc : Nat) (o : Lo) (s : St) : Prop where
  d : DD w base da lb F s.D
  l : LgH w base da g bA bc s.L
  p : PlH w base da g pp o s.P
  ok : PlOk s.P s.D.l.length
  sep : ∀ k, PF pp o s.P k → ¬ F k ∧ ¬ LFoot g bA k
/-- All their blocks. -/
def FTo (g pp : Nat) (F : Nat → Prop) (bA : Option Addr) (o : Lo) (P : Pl) (k : Nat) : Prop := F k ∨ LFoot g bA k ∨ PF pp o P k
section
variable {w w' : World} {base d lb g pp bc : Nat} {F S : Nat → Prop} {bA : Option Addr} {o : Lo} {s : St}
theorem PWo.mod (h : PWo w base d lb g pp F bA bc o s) (hm : Mod S w w') (hs : ∀ k, FTo g pp F bA o s.P k → ¬ S k) : PWo w' base d lb g pp F bA bc o s :=
  ⟨h.d.mod hm (fun k hk => hs k (.inl hk)), h.l.mod hm (hs g (.inr (.inl (.inl rfl)))) (fun b hb => hs b (.inr (.inl (.inr hb)))), h.p.mod hm (fun k hk => hs k (.inr (.inr hk))), h.ok, h.sep⟩
theorem PWo.later (h : PWo w base d lb g pp F bA bc o s) (hb : Below w.heap.size w w') : PWo w' base d lb g pp F bA bc o s := h.mod (S := Nob) (Mod.of_below hb) (fun _ _ h => h)
theorem PWo.lts (h : PWo w base d lb g pp F bA bc o s) : ∀ k, FTo g pp F bA o s.P k → base ≤ k ∧ k < w.heap.size := fun k hk => by
  rcases hk with hk | hk | hk
  · exact h.d.lts k hk
  · exact (foot_low h.l h.d).1 k hk
  · exact h.p.lts k hk
theorem PWo.bw (h : PWo w base d lb g pp F bA bc o s) : base ≤ w.heap.size := by
  have := h.d.lts d h.d.d
  omega
end
/-- A call has led the pool, its disk and its log to here; what it wrote is theirs or new; its places stay. -/
def POn (w w' : World) (base d lb g pp : Nat) (FT : Nat → Prop) (o : Lo) (s : St) : Prop :=
  ∃ F bA bc, PWo w' base d lb g pp F bA bc o s ∧ Grew FT (FTo g pp F bA o s.P) w.heap.size ∧ Mod FT w w'
theorem POn.mk {w w' : World} {base d lb g pp bc : Nat} {F FT : Nat → Prop} {bA : Option Addr} {o : Lo} {s : St} (h1 : PWo w' base d lb g pp F bA bc o s) (h2 : Grew FT (FTo g pp F bA o s.P) w.heap.size) (h3 : Mod FT w w') : POn w w' base d lb g pp FT o s :=
  ⟨F, bA, bc, h1, h2, h3⟩
end Go.Proofs.Ytggeepihkeocmaa
/- What the pool's calls make of it (plain), while the power stays on. -/
namespace Go.Proofs.Ytggeepihkeocmaa
set_option linter.unusedVariables false
set_option linter.unusedSimpArgs false
open Go.RowKit Go.Maps
def wipeP (P : Pl) : Pl := { P with gone := fun _ => none, gs := [] }
def flushS (s : St) : St := ⟨if s.D.ops < (flD s.D s.L).ops then wipeP s.P else s.P, flD s.D s.L, flZ s.D s.L⟩
def lsnP (f : Fr) : Int := num (f.p.take 8)
def setFr (P : Pl) (k : Int) (f : Fr) : Pl := { P with fr := updM P.fr k (some f) }
def setGone (P : Pl) (k since : Int) : Pl := if (P.gone k).isSome = true then P else { P with gone := updM P.gone k (some since), gs := insK k P.gs }
def cleanS (s : St) (k : Int) (f : Fr) : St :=
  if f.dirty = true then
    let t := if lsnP f < s.L.sure then s else flushS s
    ⟨setGone (setFr t.P k { f with dirty := false }) k f.since, wrD t.D (t.P.at_ + k).toNat f.p, t.L⟩
  else s
def pinsOf (P : Pl) (k : Int) : Int := match P.fr k with | some f => f.pins | none => 0
def usedOf (P : Pl) (k : Int) : Int := match P.fr k with | some f => f.used | none => 0
def bestF (P : Pl) : List Int → Int → Int
  | [], b => b
  | i :: l, b => bestF P l (if pinsOf P i = 0 ∧ (b < 0 ∨ usedOf P i < usedOf P b) then i else b)
def delFr (P : Pl) (k : Int) : Pl := { P with fr := updM P.fr k none, ks := P.ks.filter (fun j => decide (j ≠ k)) }
def evE (s : St) : Int := if bestF s.P s.P.ks (-1) < 0 then 9 else 0
def evS (s : St) : St :=
  match s.P.fr (bestF s.P s.P.ks (-1)) with
  | none => s
  | some f => ⟨delFr (cleanS s (bestF s.P s.P.ks (-1)) f).P (bestF s.P s.P.ks (-1)), (cleanS s (bestF s.P s.P.ks (-1)) f).D, (cleanS s (bestF s.P s.P.ks (-1)) f).L⟩
def tickP (P : Pl) : Pl := { P with clock := P.clock + 1 }
def newFr (s : St) (i : Int) : Fr := ⟨readD s.D (s.P.at_ + i).toNat, false, 0, 0, s.P.clock⟩
def addFr (s : St) (i : Int) : St := ⟨{ s.P with fr := updM s.P.fr i (some (newFr s i)), ks := insK i s.P.ks }, s.D, s.L⟩
def getE (s : St) (i : Int) : Int :=
  if i < 0 ∨ s.P.pages ≤ i then 1
  else if (s.P.fr i).isSome = true then 0
  else if (s.P.ks.length : Int) < s.P.most then 0 else evE ⟨tickP s.P, s.D, s.L⟩
def getS (s : St) (i : Int) : St :=
  if i < 0 ∨ s.P.pages ≤ i then s
  else match s.P.fr i with
    | some f => ⟨setFr (tickP s.P) i { f with used := s.P.clock + 1 }, s.D, s.L⟩
    | none =>
      if (s.P.ks.length : Int) < s.P.most then addFr ⟨tickP s.P, s.D, s.L⟩ i
      else if evE ⟨tickP s.P, s.D, s.L⟩ = 0 then addFr (evS ⟨tickP s.P, s.D, s.L⟩) i
      else ⟨tickP s.P, s.D, s.L⟩
/-- What all calls of a pool lean on: the log is right and lies below the pages, the power stays on, there is room for numbers. -/
structure Inv (s : St) : Prop where
  li : LgI s.L
  q : Qt s.D
  len : s.L.pos + 1 + s.L.count ≤ s.D.l.length
  en : endL s.L ≤ 1099511627776
  ops : s.D.ops ≤ 500000
  way : s.D.way.length ≤ 500000
theorem sc_len (P : Pl) (b : Int) : ∀ l, (∀ k ∈ l, (0 : Int) ≤ k) → bestF P l b = b ∨ (bestF P l b ∈ l ∧ pinsOf P (bestF P l b) = 0)
  | [], _ => .inl rfl
  | i :: l, h => by
    unfold bestF
    have h2 : ∀ k ∈ l, (0 : Int) ≤ k := fun k hk => h k (by simp [hk])
    by_cases hc : pinsOf P i = 0 ∧ (b < 0 ∨ usedOf P i < usedOf P b)
    · rw [if_pos hc]
      rcases sc_len P i l h2 with e | ⟨e1, e2⟩
      · rw [e]; exact .inr ⟨by simp, hc.1⟩
      · exact .inr ⟨by simp [e1], e2⟩
    · rw [if_neg hc]
      rcases sc_len P b l h2 with e | ⟨e1, e2⟩
      · exact .inl e
      · exact .inr ⟨by simp [e1], e2⟩
end Go.Proofs.Ytggeepihkeocmaa
