/- Joined texts: PlK. -/
import Derived.Test.YtggeepihkeocmaaJPlays23
import Derived.Test.YtggeepihkeocmaaJPlays04
import Derived.Laws.CopyOwn
/- The pool's Write by its contract. -/
namespace Go.Proofs.Ytggeepihkeocmaa
set_option linter.unusedVariables false
set_option linter.unusedSimpArgs false
open Go.RowKit Go.Maps
def wrB (p : List Int) (off : Nat) (b : List Int) (lsn : Int) : List Int := splice (u8L lsn ++ p.drop 8) (8 + off) b
def wrF (f : Fr) (off : Nat) (b : List Int) (lsn : Int) : Fr := ⟨wrB f.p off b lsn, true, if f.dirty = true then f.since else lsn, f.pins, f.used⟩
def wrS (s : St) (i : Int) (off : Nat) (b : List Int) (lsn : Int) : St := match (getS s i).P.fr i with | some f => ⟨setFr (getS s i).P i (wrF f off b lsn), (getS s i).D, (getS s i).L⟩ | none => getS s i
theorem splice_map (L : List Int) (off : Nat) (b : List Int) : (splice L off b).map (Value.int .u8) = splice (L.map (Value.int .u8)) off (b.map (Value.int .u8)) := by
  unfold splice
  simp [List.map_take, List.map_drop]
theorem splice_take {L : List Value} {n off : Nat} {cs : List Value} (hn : n ≤ L.length) (h : off + cs.length ≤ n) : (splice L off cs).take n = splice (L.take n) off cs := by
  unfold splice
  rw [List.take_append, List.take_append]
  have e1 : (L.take off).length = off := by rw [List.length_take]; omega
  rw [e1, List.take_take, List.take_take, List.take_of_length_le (by omega : cs.length ≤ n - off), show min n off = off by omega, show min off n = off by omega]
  congr 2
  rw [List.drop_take]
  congr 1
  omega
theorem splice_byt {L b : List Int} (h1 : Byt L) (h2 : Byt b) (off : Nat) : Byt (splice L off b) := (h1.take off).app (h2.app (h1.drop _))
/-- Bytes copied into a row that is owned. -/
theorem own_splice {w w' : World} {base g n c off : Nat} {l b : List Int} {cur : Array Value} (h : OwB w base (some ⟨g, 0, none⟩) n c l) (hat : At w g cur 5) (hfit : off + b.length ≤ n) (hb : Byt b)
    (h' : w'.heap[g]? = some (.cells (splice cur.toList off (b.map (Value.int .u8))).toArray 5 (0, 0))) : OwB w' base (some ⟨g, 0, none⟩) n c (splice l off b) := by
  obtain ⟨h1, h2, h3, h4⟩ := h
  rcases h4 with ⟨hv, -⟩ | ⟨g2, cap, cur2, hv, a1, a2, a3, a4, a5, a6⟩
  · cases hv
  · injection hv with e1 e2 e3
    injection e1 with e1
    injection e1 with e1
    subst e1; subst e3
    have hc2 : cur2 = cur := by
      have := a2.symm.trans hat
      simpa using this
    subst hc2
    have hl : (cur2.toList).length = cur2.size := Array.length_toList
    have hbl : (b.map (Value.int .u8)).length = b.length := List.length_map _
    have hsl : (splice cur2.toList off (b.map (Value.int .u8))).length = cur2.toList.length := length_splice _ _ _ (by omega)
    refine ⟨?_, splice_byt h2 hb off, ?_, .inr ⟨g, c, _, rfl, a1, h', a3, a4, ?_, ?_⟩⟩
    · rw [length_splice _ _ _ (by omega)]; exact h1
    · rw [List.length_map, length_splice _ _ _ (by omega), Nat.mul_one]; exact h1
    · rw [List.size_toArray, hsl, hl]; exact a5
    · rw [Nat.mul_one] at a6 ⊢
      show (splice cur2.toList off (b.map (Value.int .u8))).take n = _
      rw [splice_take (by omega) (by omega), a6, splice_map]
theorem at_setRow {w : World} {g T : Nat} {cur : Array Value} (h : At w g cur T) (cs : Array Value) : (w.setRow g cs).heap[g]? = some (.cells cs T (0, 0)) := by
  unfold At at h
  simp [World.setRow, Array.getElem?_modify, h]
theorem mod_setRow (w : World) (g : Nat) (cs : Array Value) : Mod (fun k => k = g) w (w.setRow g cs) :=
  ⟨rfl, rfl, rfl, by simp [World.setRow], fun k hk hn => setRow_other w g k cs (fun e => hn e)⟩
theorem copy_own {w : World} {base hi g n c off m : Nat} {l b : List Int} {B : Option Addr} (h : OwB w base (some ⟨g, 0, none⟩) n c l) (hb : BsR w 0 hi B m b) (hfit : off + m ≤ n) (dp : Option Addr) (dLen dCap mc : Nat) (hd : dLen = n - off) (hdp : 0 < m → dp = some ⟨g, off, none⟩) :
    ∃ w', (∀ ty, (Builtin.copy_ #[32, 32] ty #[.slice dp dLen dCap, .slice B m mc]).run Try.prog w = .ok (.int .i64 m) w') ∧ OwB w' base (some ⟨g, 0, none⟩) n c (splice l off b) ∧ Mod (fun k => k = g) w w' := by
  have hml := hb.1
  by_cases h0 : 0 < m
  · obtain rfl := hdp h0
    obtain ⟨gb, go', rfl, -, -, -⟩ := hb.2.2 h0
    obtain ⟨cur, hcur, hcs, hcn, hct⟩ := OwB.at_ h
    have hbl : (b.map (Value.int .u8)).length = b.length := List.length_map _
    refine ⟨w.setRow g (splice cur.toList off (b.map (Value.int .u8))).toArray, fun ty => ?_, own_splice h hcur (by omega) hb.2.1 (at_setRow hcur _), mod_setRow _ _ _⟩
    have hrun := run_copy_row (P := Try.prog) w 32 32 ty 5 g off dLen dCap ⟨gb, go', none⟩ m mc cur 5 (b.map (Value.int .u8)) Try.underlying32 (by kernel_rfl) hcur (by rw [hbl, hd, hml]; exact (Nat.min_eq_left (by omega)).symm) (cells_add hb) (by rw [hbl]; omega) (fun v hv => by obtain ⟨x, -, rfl⟩ := List.mem_map.1 hv; rfl)
    rw [hrun]
    unfold splice
    rw [hbl, hml, List.append_assoc]
    rfl
  · have hm0 : m = 0 := by omega
    subst hm0
    have hb0 : b = [] := List.eq_nil_of_length_eq_zero hml
    subst hb0
    refine ⟨w, fun ty => run_copy_none (P := Try.prog) w 32 32 ty 5 dp B dLen dCap 0 mc Try.underlying32 (by kernel_rfl) (Nat.zero_min _), ?_, Mod.refl _ _⟩
    have e : splice l off [] = l := by unfold splice; simp
    rw [e]; exact h
def setLo (o : Lo) (i : Int) (q c : Nat) : Lo := { o with pb := fun k => if k = i then some ⟨q, 0, none⟩ else o.pb k, pc := fun k => if k = i then c else o.pc k }
/-- A frame has other bytes, in a new block q. -/
theorem PWo.bytT {w w' : World} {base d lb g pp bc : Nat} {F : Nat → Prop} {bA : Option Addr} {o : Lo} {s : St} {i : Int} {f f' : Fr} {q c : Nat} (h : PWo w base d lb g pp F bA bc o s) (hf : s.P.fr i = some f) (hm : Mod (fun k => k = o.blk i ∨ w.heap.size ≤ k) w w') (hok : FrOk f') (hq : w.heap.size ≤ q) (hc : c ≤ maxLen)
    (how : OwB w' base (some ⟨q, 0, none⟩) 512 c f'.p)
    (hat : At w' (o.blk i) #[.slice (some ⟨q, 0, none⟩) 512 c, .bool f'.dirty, .int .u64 f'.since, .int .i64 f'.pins, .int .i64 f'.used] 105) :
    PWo w' base d lb g pp F bA bc (setLo o i q c) ⟨setFr s.P i f', s.D, s.L⟩ ∧ Grew (FTo g pp F bA o s.P) (FTo g pp F bA (setLo o i q c) (setFr s.P i f')) w.heap.size := by
  have hbw := h.bw
  obtain ⟨n1, n2, n3, n4⟩ := h.p.ne_fr hf
  obtain ⟨a1, a2, a3⟩ := h.p.frs i f hf
  have hlt := h.p.lts
  have hupd : ∀ k, (setFr s.P i f').fr k = if k = i then some f' else s.P.fr k := fun _ => rfl
  have hm2 : Mod (fun k => k = o.blk i) w w' := ⟨hm.os, hm.tape, hm.output, hm.size, fun k hk hn => hm.block k hk (fun hs => hs.elim hn (fun h => by omega))⟩
  have hcap : 512 ≤ c := by
    rcases how.2.2.2 with ⟨hv, -⟩ | ⟨g2, cap, cur2, hv, b1, b2, b3, -⟩
    · cases hv
    · injection hv with _ _ e3; subst e3; exact b3
  refine h.pool hm2 (fun k hk => hk ▸ .inr (.inr (.inr ⟨i, f, hf, .inl rfl⟩))) (h.p.turn (o' := setLo o i q c) (P' := setFr s.P i f') hm2 i (h.p.at_.mod hm2 (Ne.symm n1)) ?_ (h.p.gm.mod hm2 (Ne.symm n3)) ⟨rfl, rfl, fun k hk => ⟨rfl, if_neg hk, if_neg hk⟩⟩ (fun k hk => by rw [hupd, if_neg hk]) (fun k fk hk hfk => ⟨fun e => hk (h.p.inj k i fk f hfk hf e), fun b hb e => n4 k fk hfk (e ▸ hb)⟩) (fun fx hfx => ?_)) (h.ok.frT hf hok) (fun k hk => ?_)
  · have := setFr_map (o := o) (f' := f') hf
    show MpR EF w' o.fb (fun k => ((setFr s.P i f').fr k).map (fun _ => o.blk k)) s.P.ks
    rw [this]; exact h.p.fm.mod hm2 (Ne.symm n2)
  · rw [hupd, if_pos rfl] at hfx
    injection hfx with hfx
    subst hfx
    have e2 : (setLo o i q c).pb i = some ⟨q, 0, none⟩ := if_pos rfl
    have e3 : (setLo o i q c).pc i = c := if_pos rfl
    rw [e2, e3]
    have hbs : BsR w' q (q + 1) (some ⟨q, 0, none⟩) 512 f'.p := by
      have hr := how.reads
      refine ⟨hr.1, hr.2.1, fun hp => ?_⟩
      obtain ⟨gb, go', hA, -, -, hcc⟩ := hr.2.2 hp
      injection hA with hA
      injection hA with e1 e2
      subst e1; subst e2
      exact ⟨q, 0, rfl, Nat.le_refl _, Nat.lt_succ_self _, hcc⟩
    refine ⟨⟨hat, a2, ⟨⟨q, rfl, by omega, hbs, (how.lt q rfl).2⟩, hcap, hc, fun _ => how⟩⟩, fun k fk hk hfk => ⟨fun e => hk (h.p.inj k i fk f hfk hf e), fun e => ?_⟩⟩
    have := (hlt q (.inr (.inr (.inr ⟨k, fk, hfk, .inr e⟩)))).2
    omega
  · rcases hk with hk | hk | hk | ⟨j, fj, hj, hk⟩
    · exact .inl (.inl hk)
    · exact .inl (.inr (.inl hk))
    · exact .inl (.inr (.inr (.inl hk)))
    · rw [hupd] at hj
      by_cases hji : j = i
      · subst hji
        rcases hk with hk | hk
        · exact .inl (.inr (.inr (.inr ⟨j, f, hf, .inl hk⟩)))
        · right
          have e2 : (setLo o j q c).pb j = some ⟨q, 0, none⟩ := if_pos rfl
          rw [e2] at hk
          have : q = k := by simpa [ownBlk] using hk
          omega
      · rw [if_neg hji] at hj
        left
        have e2 : (setLo o i q c).pb j = o.pb j := if_neg hji
        rw [e2] at hk
        exact .inr (.inr (.inr ⟨j, fj, hj, hk⟩))
end Go.Proofs.Ytggeepihkeocmaa
