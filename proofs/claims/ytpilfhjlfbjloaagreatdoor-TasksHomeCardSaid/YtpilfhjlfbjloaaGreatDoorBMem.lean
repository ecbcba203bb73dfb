/-
  The board's two maps, whose keys are places, in memory. Conditions: none.
  'MapIs w b n f': block b of w is a map of at most n entries, in which the place (t, g) has the value f t g. A blackboard in memory. Conditions: none.
  'IsBd k w m S': in the world w the blocks of m are the blackboard S, on which at most k calls were done.
-/
import Derived.Test.YtpilfhjlfbjloaaGreatDoorRows
import Derived.Test.YtpilfhjlfbjloaaGreatDoorLib
import Derived.Maps.OwnSet
import Derived.Maps.Keyed
import Derived.DeepKeys4
import Derived.WideKeyEntry
import Derived.WalkArith
import Derived.Test.YtpilfhjlfbjloaaGreatDoorBPick
import Derived.Test.YtpilfhjlfbjloaaGreatDoorBDecide
namespace Go.Proofs.YtpilfhjlfbjloaaGreatDoor
open Go.RowKit
open Go.Maps (Keyed IsMap Tidy)
open Go.ChangeMaps (setBlock heap_setBlock_same)


theorem Tryz.laidOut : laidOutB Tryz.prog = true := by kernel_rfl
theorem Tryz.rowPlace : (79 : TypeId) < Tryz.prog.types.size := of_decide_eq_true (by kernel_rfl)
theorem Tryz.deepPlace : Tryz.prog.keyTypeAt 2 79 = true := by kernel_rfl
theorem Tryz.widePlace : (match Tryz.prog.underlying 79 with | some (.array _ _) | some (.struct _) => true | _ => false) = true := by kernel_rfl
set_option maxRecDepth 100000 in
theorem placeLaw : WideMaps.KeyLaw Tryz.prog 79 := deep_law_laid Tryz.laidOut (m := 2) (by omega) Tryz.rowPlace Tryz.deepPlace Tryz.widePlace
theorem placeKeyed : Keyed Tryz.prog 79 := Keyed.of_law placeLaw

abbrev kvV (t g : Nat) : Value := .agg #[.int .i64 t, .int .u64 g]

theorem keyType_place : Tryz.prog.keyType 79 = true := by kernel_rfl
noncomputable abbrev placeFs : Array Field := match Tryz.prog.underlying 79 with | some (.struct fs) => fs | _ => #[]
theorem struct_place : Tryz.prog.underlying 79 = some (.struct placeFs) ∧ placeFs.all (·.name != "_") = true ∧ placeFs.toList.map (fun f => (f.type, f.offset)) = [(3, 0), (39, 1)] := ⟨by kernel_rfl, by kernel_rfl, by kernel_rfl⟩
theorem cells_place : Tryz.prog.cellsOf 79 = 2 := by kernel_rfl
theorem formed_place (t g : Nat) : (kvV t g).formed Tryz.prog 79 = true := by
  obtain ⟨hu, -⟩ := struct_place
  simp [Value.formed, hu, cells_place]

theorem cells_int : Tryz.prog.cellsOf 3 = 1 := by kernel_rfl
theorem cells_u64 : Tryz.prog.cellsOf 39 = 1 := by kernel_rfl
theorem row_size : Tryz.prog.types.size = Tryz.prog.types.size - 1 + 1 := by kernel_rfl
theorem und_int : Tryz.prog.underlying 3 = some (.int .i64) := by kernel_rfl
theorem und_u64 : Tryz.prog.underlying 39 = some (.int .u64) := by kernel_rfl

def klit (t g : Nat) : Lit := .string (keyBytes [.int .i64 t, .int .u64 g])

theorem keyOf_place (t g : Nat) (ht : t < 9223372036854775808) (hg : g < 18446744073709551616) : keyOf Tryz.prog 79 (kvV t g) = some (klit t g) := by
  obtain ⟨hu, hb, hf⟩ := struct_place
  generalize placeFs = fs at hu hb hf
  obtain ⟨m, hm⟩ : ∃ m, Tryz.prog.types.size = m + 1 := ⟨_, row_size⟩
  have h1 : Tryz.prog.keyLits (m + 1 + 1) 79 [.int .i64 t, .int .u64 g] = some [.int .i64 t, .int .u64 g] := by
    have hfl : ∃ f1 f2, fs.toList = [f1, f2] ∧ f1.type = 3 ∧ f1.offset = 0 ∧ f2.type = 39 ∧ f2.offset = 1 := by
      generalize fs.toList = l at hf
      cases l with
      | nil => simp at hf
      | cons f1 l => cases l with
        | nil => simp at hf
        | cons f2 l => cases l with
          | nil => simp at hf; exact ⟨f1, f2, rfl, hf.1.1, hf.1.2, hf.2.1, hf.2.2⟩
          | cons f3 l => simp at hf
    obtain ⟨f1, f2, hfl, a1, a2, a3, a4⟩ := hfl
    have w1 : (Lit.int .i64 (t : Int)).wf = true := WalkArith.wf_i64 ⟨by omega, by omega⟩
    have w2 : (Lit.int .u64 (g : Int)).wf = true := WalkArith.wf_u64 ⟨by omega, by omega⟩
    unfold Program.keyLits
    simp only [hu, cells_place, List.length_cons, List.length_nil, hb, and_self, if_true, hfl, List.mapM_cons, List.mapM_nil, a1, a2, a3, a4, cells_int, cells_u64]
    unfold Program.keyLits
    simp [w1, w2]
  unfold keyOf
  simp only [hu, keyType_place, formed_place, Bool.and_self, if_true, Value.cells, hm, h1, Option.map_some]
  rfl

theorem klit_inj {t g t' g' : Nat} (ht : t < 9223372036854775808) (hg : g < 18446744073709551616) (ht' : t' < 9223372036854775808) (hg' : g' < 18446744073709551616) (h : klit t g = klit t' g') : t = t' ∧ g = g' := by
  have h1 := keyOf_place t g ht hg
  have h2 := keyOf_place t' g' ht' hg'
  rw [← h] at h2
  have := placeKeyed.inj h1 h2
  simp at this
  omega

theorem same_key : ∀ {l : List MapEntry}, (l.map (·.key)).Nodup → ∀ {a b : MapEntry}, a ∈ l → b ∈ l → a.key = b.key → a = b
  | [], _, _, _, ha, _, _ => by cases ha
  | c :: l, hn, a, b, ha, hb, h => by
    simp only [List.map_cons, List.nodup_cons] at hn
    rcases List.mem_cons.1 ha with he | ha
    · rcases List.mem_cons.1 hb with he' | hb
      · rw [he, he']
      · exact absurd (List.mem_map.2 ⟨b, hb, by rw [← h, he]⟩) hn.1
    · rcases List.mem_cons.1 hb with he' | hb
      · exact absurd (List.mem_map.2 ⟨a, ha, by rw [h, he']⟩) hn.1
      · exact same_key hn.2 ha hb h

abbrev rawR : Value → Option (DataW Value × List MemPlace) := fun v => some (.held v, [])

/-- Block b is a map of at most n entries: f. -/
def MapIs (w : World) (b n : Nat) (f : Nat → Nat → Option Value) : Prop :=
  ∃ D : DataW Value, w.ownsMap Tryz.prog 79 rawR b n D ∧ ∀ t g, t < 9223372036854775808 → g < 18446744073709551616 → (∀ z, D.atKey (klit t g) (.held z) = .held ((f t g).getD z)) ∧ Maps.has D (klit t g) = (f t g).isSome

section
variable {w w' : World} {b n : Nat} {f : Nat → Nat → Option Value} {T e : TypeId} {z : Value}

theorem MapIs.keep (h : MapIs w b n f) (hk : w'.heap[b]? = w.heap[b]?) : MapIs w' b n f := by
  obtain ⟨D, ⟨es, clock, hb, r⟩, hf⟩ := h
  exact ⟨D, ⟨es, clock, hk.trans hb, r⟩, hf⟩

theorem MapIs.mono (h : MapIs w b n f) {m : Nat} (hm : n ≤ m) : MapIs w b m f := by
  obtain ⟨D, hD, hf⟩ := h
  exact ⟨D, hD.mono hm, hf⟩

theorem MapIs.lt (h : MapIs w b n f) : b < w.heap.size := by
  obtain ⟨D, hD, hf⟩ := h
  exact hD.lt

theorem MapIs.made (w : World) : MapIs (w.alloc (.map #[] 0)) w.heap.size 0 (fun _ _ => none) :=
  ⟨.map [], World.ownsMap_made w _ _ _, fun _ _ _ _ => ⟨fun _ => rfl, rfl⟩⟩

theorem MapIs.lookup (h : MapIs w b n f) (hT : Tryz.prog.underlying T = some (.map 79 e)) (hz : ∀ u, (zeroValue e).run Tryz.prog u = .ok z u) {t g : Nat} (ht : t < 9223372036854775808) (hg : g < 18446744073709551616) :
    (Instr.lookup T (.map (some b)) (kvV t g) false).run Tryz.prog w = .ok ((f t g).getD z) w := by
  obtain ⟨D, hD, hf⟩ := h
  obtain ⟨v, ps, hrun, hv⟩ := hD.lookup placeKeyed hT (hz w) (zd := .held z) (zp := []) rfl (keyOf_place t g ht hg)
  rw [((hf t g ht hg).1 z)] at hv
  simp at hv
  rw [hrun, hv.1]

theorem MapIs.look_ok (h : MapIs w b n f) (hT : Tryz.prog.underlying T = some (.map 79 e)) (hz : ∀ u, (zeroValue e).run Tryz.prog u = .ok z u) {t g : Nat} (ht : t < 9223372036854775808) (hg : g < 18446744073709551616) :
    (Instr.lookup T (.map (some b)) (kvV t g) true).run Tryz.prog w = .ok (.tuple #[(f t g).getD z, .bool (f t g).isSome]) w := by
  obtain ⟨D, hD, hf⟩ := h
  obtain ⟨v, ps, hrun, hv⟩ := hD.look_ok placeKeyed hT (hz w) (zd := .held z) (zp := []) rfl (keyOf_place t g ht hg)
  rw [((hf t g ht hg).1 z)] at hv
  simp at hv
  rw [hrun, hv.1, (hf t g ht hg).2]

theorem isKey (t g : Nat) : WideAt.IsKeyLit (klit t g) := trivial

/-- The one entry that is laid in. -/
def laidIn (f : Nat → Nat → Option Value) (t g : Nat) (v : Value) : Nat → Nat → Option Value := fun t' g' => if t' = t ∧ g' = g then some v else f t' g'
def takenOut (f : Nat → Nat → Option Value) (t g : Nat) : Nat → Nat → Option Value := fun t' g' => if t' = t ∧ g' = g then none else f t' g'

theorem MapIs.store (h : MapIs w b n f) (hn : n < maxLen) (hT : Tryz.prog.underlying T = some (.map 79 e)) {t g : Nat} (ht : t < 9223372036854775808) (hg : g < 18446744073709551616) (val : Value) :
    ∃ w', (Instr.mapUpdate T (.map (some b)) (kvV t g) val).run Tryz.prog w = .ok () w' ∧ MapIs w' b (n + 1) (laidIn f t g val) ∧ w.mapTurned w' b := by
  obtain ⟨D, hD, hf⟩ := h
  obtain ⟨w', hrun, hD', hturn⟩ := hD.store placeKeyed hT hn (keyOf_place t g ht hg) (val := val) (d := .held val) (ps := []) rfl
  refine ⟨w', hrun, ⟨_, hD', fun t' g' ht' hg' => ?_⟩, hturn⟩
  unfold laidIn
  by_cases he : t' = t ∧ g' = g
  · obtain ⟨rfl, rfl⟩ := he
    simp [Maps.atKey_put_same hD.isMap (isKey t' g'), Maps.has_put_same hD.isMap (isKey t' g')]
  · have hne : klit t' g' ≠ klit t g := fun e => he (klit_inj ht' hg' ht hg e)
    rw [if_neg he]
    simp only [Maps.atKey_put_other hne, Maps.has_put_other hne]
    exact hf t' g' ht' hg'

theorem MapIs.drop (h : MapIs w b n f) (hT : Tryz.prog.underlying T = some (.map 79 e)) {t g : Nat} (ht : t < 9223372036854775808) (hg : g < 18446744073709551616) (ty : TypeId) :
    ∃ w', (Builtin.delete_ #[T, 79] ty #[.map (some b), kvV t g]).run Tryz.prog w = .ok (.tuple #[]) w' ∧ MapIs w' b n (takenOut f t g) ∧ w.mapTurned w' b := by
  obtain ⟨D, hD, hf⟩ := h
  obtain ⟨w', hrun, hD', hturn⟩ := hD.drop placeKeyed hT (keyOf_place t g ht hg) ty
  refine ⟨w', hrun, ⟨_, hD', fun t' g' ht' hg' => ?_⟩, hturn⟩
  unfold takenOut
  by_cases he : t' = t ∧ g' = g
  · obtain ⟨rfl, rfl⟩ := he
    simp [Maps.atKey_del_same, Maps.has_del_same]
  · have hne : klit t' g' ≠ klit t g := fun e => he (klit_inj ht' hg' ht hg e)
    rw [if_neg he]
    simp only [Maps.atKey_del_other hne, Maps.has_del_other hne]
    exact hf t' g' ht' hg'

/-- 'm[k] op= v': its two steps, nothing being laid in between. A look-up in between tells what one ahead of both tells. -/
theorem MapIs.entry (h : MapIs w b n f) (hn : n < maxLen) (hT : Tryz.prog.underlying T = some (.map 79 e)) (hz : ∀ u, (zeroValue e).run Tryz.prog u = .ok z u) {t g : Nat} (ht : t < 9223372036854775808) (hg : g < 18446744073709551616) :
    ∃ (st : Nat) (w1 : World), (Instr.mapEntry T (.map (some b)) (kvV t g)).run Tryz.prog w = .ok (.tuple #[(f t g).getD z, goInt st]) w1 ∧ w.mapTurned w1 b ∧
      (Instr.lookup T (.map (some b)) (kvV t g) false).run Tryz.prog w1 = .ok ((f t g).getD z) w1 ∧
      ∀ (val : Value), ∃ w3, (Instr.entryStore T (.map (some b)) (goInt st) val).run Tryz.prog w1 = .ok () w3 ∧ MapIs w3 b (n + 1) (laidIn f t g val) ∧ w1.mapTurned w3 b := by
  have hl := h.lookup hT hz ht hg
  have hs := fun val => h.store hn hT ht hg val
  have h0 := h
  obtain ⟨D, hD, hf⟩ := h
  obtain ⟨es, clock, hb, F, hsz, rfl⟩ := hD
  obtain ⟨v0, st, es1, clock1, h1, h2, h3⟩ := WideElems.entry_then_store placeLaw hT hz hb F (keyOf_place t g ht hg)
  have hend : ∀ val, ∃ w3, (Instr.entryStore T (.map (some b)) (goInt st) val).run Tryz.prog (setBlock w b (.map es1 clock1)) = .ok () w3 ∧ MapIs w3 b (n + 1) (laidIn f t g val) ∧ (setBlock w b (.map es1 clock1)).mapTurned w3 b := by
    intro val
    have hw2 := heap_setBlock_same (o := .map es1 clock1) hb
    obtain ⟨es', clock', h4, h5⟩ := h3 _ val hw2
    obtain ⟨w', hrun, hM, -⟩ := hs val
    rw [h5] at hrun
    cases hrun
    refine ⟨_, h4, hM.keep ?_, ⟨es1, clock1, es', clock', hw2, rfl⟩⟩
    rw [heap_setBlock_same hw2, heap_setBlock_same hb]
  rcases placeKeyed.find w (keyOf_place t g ht hg) es.toList F.keys with ⟨f1, f2⟩ | ⟨j, e0, f1, f2, f3⟩
  · have hz0 : (f t g).getD z = z := by
      simp [Instr.lookup, run_underlying hT, MapKept.run_getObj_map hb, placeKeyed.check w _ (keyOf_place t g ht hg), f1, hz, Result.andThen] at hl
      exact hl.symm
    have hm1 : (Instr.mapEntry T (.map (some b)) (kvV t g)).run Tryz.prog w = .ok (.tuple #[z, goInt clock]) (setBlock w b (.map (es.push ⟨kvV t g, z, clock⟩) (clock + 1))) := by
      simp [Instr.mapEntry, run_underlying hT, MapKept.run_getObj_map hb, placeKeyed.check w false (keyOf_place t g ht hg), f1, hz, MapKept.run_setObj_map _ hb, Result.andThen, setBlock]
    have hu1 : (Instr.mapUpdate T (.map (some b)) (kvV t g) z).run Tryz.prog w = .ok () (setBlock w b (.map (es.push ⟨kvV t g, z, clock⟩) (clock + 1))) := by
      simp [Instr.mapUpdate, run_underlying hT, MapKept.run_getObj_map hb, placeKeyed.check w false (keyOf_place t g ht hg), f1, MapKept.run_setObj_map _ hb, Result.andThen, setBlock]
    obtain ⟨w', hrun, hM, hturn⟩ := hs z
    rw [hu1] at hrun
    cases hrun
    rw [h1] at hm1
    injection hm1 with hv hw
    have hlk := hM.lookup (T := T) hT hz ht hg
    rw [← hw] at hlk hturn
    have hv0 : v0 = z := by simp at hv; exact hv.1
    refine ⟨st, _, by rw [h1, hv0, hz0], hturn, ?_, hend⟩
    rw [hlk, hz0]
    simp [laidIn]
  · have hv0 : (f t g).getD z = e0.val := by
      simp [Instr.lookup, run_underlying hT, MapKept.run_getObj_map hb, placeKeyed.check w _ (keyOf_place t g ht hg), f1, Result.andThen] at hl
      exact hl.symm
    have hj : es[j]? = some e0 := by simpa using f2
    have hsame : es.modify j (fun e => { e with key := kvV t g }) = es := by
      apply Array.ext'
      rw [Array.toList_modify, ChangeMaps.modify_eq_set _ _ _ _ f2]
      have : ({ e0 with key := kvV t g } : MapEntry) = e0 := by rw [← f3]
      rw [this]
      exact WideElems.set_self _ _ _ f2
    have hm1 : (Instr.mapEntry T (.map (some b)) (kvV t g)).run Tryz.prog w = .ok (.tuple #[e0.val, goInt e0.born]) (setBlock w b (.map es clock)) := by
      simp [Instr.mapEntry, run_underlying hT, MapKept.run_getObj_map hb, placeKeyed.check w false (keyOf_place t g ht hg), f1, hj, f3, placeKeyed.stays w (keyOf_place t g ht hg), hsame, MapKept.run_setObj_map _ hb, Result.andThen, setBlock]
    rw [h1] at hm1
    injection hm1 with hv hw
    have hv1 : v0 = e0.val := by simp at hv; exact hv.1
    have hk1 : MapIs (setBlock w b (.map es clock)) b n f := h0.keep ((heap_setBlock_same (o := .map es clock) hb).trans hb.symm)
    have hlk := hk1.lookup (T := T) hT hz ht hg
    rw [← hw] at hlk
    exact ⟨st, _, by rw [h1, hv1, hv0], ⟨es, clock, es1, clock1, hb, rfl⟩, hlk, hend⟩
end

end Go.Proofs.YtpilfhjlfbjloaaGreatDoor

namespace Go.Proofs.YtpilfhjlfbjloaaGreatDoor
open Go.RowKit

/-- The blocks and values of a blackboard. -/
structure Mem where
  bb : Nat
  rb : Nat
  gb : Nat
  gc : Nat
  ob : Nat
  sb : Nat
  tv : Value
  rows : List Value
  rv : Nat → Nat → Option Value

/-- What is written, and what is read alone. -/
def Mem.own (m : Mem) (i : Nat) : Prop := i = m.bb ∨ i = m.rb ∨ i = m.gb ∨ i = m.ob ∨ i = m.sb ∨ ∃ v ∈ m.rows, v.ownBlock = some i
def Mem.ro (m : Mem) (i : Nat) : Prop := m.tv.ownBlock = some i ∨ ∃ t g v, m.rv t g = some v ∧ v.ownBlock = some i

/-- What stands firm of a blackboard on which at most k calls were done. -/
structure Inv (k : Nat) (S : Bd) : Prop where
  tasks : 1 ≤ S.tasks ∧ S.tasks ≤ 8
  tlen : 1 ≤ S.tp.length ∧ S.tp.length ≤ 64
  tp : ∀ p ∈ S.tp, 1 ≤ p.2.1 ∧ p.2.1 ≤ 64 ∧ 2 ≤ p.2.2 ∧ p.2.2 ≤ 16
  glen : S.gens.length = S.tp.length
  gk : ∀ g ∈ S.gens, g ≤ k
  slen : S.subs.length = S.tasks
  sub8 : ∀ l ∈ S.subs, l.length ≤ 8
  subs : ∀ l ∈ S.subs, ∀ s ∈ l, s.topic < S.tp.length ∧ s.rank ≤ 255 ∧ 1 ≤ s.cu.cap ∧ s.cu.cap ≤ 15 ∧ s.cu.next ≤ k + 1 ∧ s.cu.got + s.cu.lost + 1 ≤ s.cu.next
  owns : ∀ t, S.own t < 256
  reg : modeB S.st.mode = true ∧ sourceB S.st.source = true ∧ healthB S.st.flags = true ∧ (S.st.hold = true → S.st.source = 3) ∧ S.st.epoch ≤ k
  recs : ∀ t g ws, S.recs t g = some ws → 1 ≤ ws.length ∧ ws.length ≤ 100
  kept : ∀ t, t < S.gens.length → ∃ ws, S.recs t (S.gen t) = some ws

abbrev u64V (l : List Int) : List Value := l.map (Value.int .u64)
abbrev gsV (m : Mem) (S : Bd) : Value := .slice (some ⟨m.gb, 0, none⟩) S.gens.length m.gc
abbrev ssV (m : Mem) (S : Bd) : Value := .slice (some ⟨m.sb, 0, none⟩) S.tasks S.tasks
abbrev bdO (m : Mem) (S : Bd) : Obj := .cells #[.int .i64 S.tasks, m.tv, .int .i64 S.tries, .int .i64 S.log, .map (some m.rb), gsV m S, .map (some m.ob), ssV m S,
  .int .i64 S.st.mode, .int .i64 S.st.source, .bool S.st.hold, .int .i64 S.st.flags, .int .u64 S.st.epoch] 77

structure IsBd (k : Nat) (w : World) (m : Mem) (S : Bd) : Prop where
  inv : Inv k S
  kk : k ≤ 1000000
  blk : w.heap[m.bb]? = some (bdO m S)
  gens : w.ownsRow 0 39 1 (gsV m S) S.gens.length (natL S.gens)
  recs : MapIs w m.rb (64 + k) m.rv
  owns : MapIs w m.ob k (fun t g => if g = 0 ∧ S.own t ≠ 0 then some (.int .i64 (S.own t)) else none)
  subs : w.heap[m.sb]? = some (.cells m.rows.toArray 131)
  rlen : m.rows.length = S.tasks
  rows : ∀ (t : Nat) (v : Value) (l : List Sb), m.rows[t]? = some v → S.subs[t]? = some l → w.ownsRow 0 137 6 v l.length (flatSb l)
  topics : Rd w m.tv 3 S.tp.length (flatT S.tp)
  rd : ∀ t g v, m.rv t g = some v → ∃ ws, S.recs t g = some ws ∧ Rd w v 1 ws.length (u64V ws)
  rn : ∀ t g, m.rv t g = none → S.recs t g = none
  nd : [m.bb, m.rb, m.gb, m.ob, m.sb].Nodup
  rown : ∀ v ∈ m.rows, ∀ q, v.ownBlock = some q → q ≠ m.bb ∧ q ≠ m.rb ∧ q ≠ m.gb ∧ q ≠ m.ob ∧ q ≠ m.sb
  rdis : ∀ (i j : Nat) (v u : Value), m.rows[i]? = some v → m.rows[j]? = some u → i ≠ j → ∀ q, v.ownBlock = some q → u.ownBlock ≠ some q
  disj : ∀ i, m.own i → ¬ m.ro i
  lt : ∀ i, m.own i ∨ m.ro i → i < w.heap.size

theorem Rd.keepAt {w w' : World} {v : Value} {size n : Nat} {xs : List Value} (h : Rd w v size n xs) (hs : w.heap.size ≤ w'.heap.size) (hk : ∀ q, v.ownBlock = some q → w'.heap[q]? = w.heap[q]?) : Rd w' v size n xs := by
  refine ⟨h.len, ?_⟩
  obtain ⟨A, c, hv, h1, h2, h3⟩ := h.shape
  refine ⟨A, c, hv, h1, h2, fun hn => ?_⟩
  obtain ⟨b, o, hA, hb, hc⟩ := h3 hn
  subst hv hA
  exact ⟨b, o, rfl, by omega, fun j u hu => (World.cell?_of_block (a := ⟨b, o + j, none⟩) (hk b rfl)).trans (hc j u hu)⟩

theorem own_keepAt {w w' : World} {base : Nat} {e : TypeId} {size : Nat} {v : Value} {n : Nat} {xs : List Value} (h : w.ownsRow base e size v n xs) (hk : ∀ q, v.ownBlock = some q → w'.heap[q]? = w.heap[q]?) : w'.ownsRow base e size v n xs := by
  refine ⟨h.1, ?_⟩
  rcases h.2 with hn | ⟨g, cap, cur, rfl, hb, hg, rest⟩
  · exact .inl hn
  · exact .inr ⟨g, cap, cur, rfl, hb, (hk g rfl).trans hg, rest⟩

/-- The frame: what is neither written nor read may be anything. -/
theorem IsBd.frame {k : Nat} {w w' : World} {m : Mem} {S : Bd} (h : IsBd k w m S) (hs : w.heap.size ≤ w'.heap.size) (hk : ∀ i, m.own i ∨ m.ro i → w'.heap[i]? = w.heap[i]?) : IsBd k w' m S where
  inv := h.inv
  kk := h.kk
  blk := (hk m.bb (.inl (.inl rfl))).trans h.blk
  gens := own_keepAt h.gens (fun q hq => by cases hq; exact hk m.gb (.inl (.inr (.inr (.inl rfl)))))
  recs := h.recs.keep (hk m.rb (.inl (.inr (.inl rfl))))
  owns := h.owns.keep (hk m.ob (.inl (.inr (.inr (.inr (.inl rfl))))))
  subs := (hk m.sb (.inl (.inr (.inr (.inr (.inr (.inl rfl))))))).trans h.subs
  rlen := h.rlen
  rows := fun t v l hv hl => own_keepAt (h.rows t v l hv hl) (fun q hq => hk q (.inl (.inr (.inr (.inr (.inr (.inr ⟨v, List.mem_of_getElem? hv, hq⟩)))))))
  topics := h.topics.keepAt hs (fun q hq => hk q (.inr (.inl hq)))
  rd := fun t g v hv => by
    obtain ⟨ws, h1, h2⟩ := h.rd t g v hv
    exact ⟨ws, h1, h2.keepAt hs (fun q hq => hk q (.inr (.inr ⟨t, g, v, hv, hq⟩)))⟩
  rn := h.rn
  nd := h.nd
  rown := h.rown
  rdis := h.rdis
  disj := h.disj
  lt := fun i hi => Nat.lt_of_lt_of_le (h.lt i hi) hs

theorem IsBd.below {k : Nat} {w w' : World} {m : Mem} {S : Bd} (h : IsBd k w m S) (hb : Below w.heap.size w w') : IsBd k w' m S := h.frame hb.size fun i hi => hb.block i (h.lt i hi)

theorem Inv.mono {k k' : Nat} {S : Bd} (h : Inv k S) (hk : k ≤ k') : Inv k' S :=
  ⟨h.tasks, h.tlen, h.tp, h.glen, fun g hg => Nat.le_trans (h.gk g hg) hk, h.slen, h.sub8, fun l hl s hs => by have := h.subs l hl s hs; omega, h.owns, ⟨h.reg.1, h.reg.2.1, h.reg.2.2.1, h.reg.2.2.2.1, Nat.le_trans h.reg.2.2.2.2 hk⟩, h.recs, h.kept⟩

theorem IsBd.mono {k k' : Nat} {w : World} {m : Mem} {S : Bd} (h : IsBd k w m S) (hk : k ≤ k') (hk' : k' ≤ 1000000) : IsBd k' w m S :=
  { h with inv := h.inv.mono hk, kk := hk', recs := h.recs.mono (by omega), owns := h.owns.mono hk }

/-- What a call may turn. -/
structure Turns (w w' : World) (m m' : Mem) : Prop where
  os : w'.os = w.os
  tape : w'.tape = w.tape
  output : w'.output = w.output
  size : w.heap.size ≤ w'.heap.size
  block : ∀ i, i < w.heap.size → ¬ m.own i → w'.heap[i]? = w.heap[i]?
  own : ∀ i, m'.own i → m.own i ∨ w.heap.size ≤ i
  ro : ∀ i, m'.ro i → m.ro i ∨ w.heap.size ≤ i
  bb : m'.bb = m.bb

theorem Turns.of_below {w w' : World} (m : Mem) (h : Below w.heap.size w w') : Turns w w' m m := ⟨h.os, h.tape, h.output, h.size, fun i hi _ => h.block i hi, fun _ hi => .inl hi, fun _ hi => .inl hi, rfl⟩

theorem Turns.trans {w1 w2 w3 : World} {m1 m2 m3 : Mem} (h : Turns w1 w2 m1 m2) (h' : Turns w2 w3 m2 m3) : Turns w1 w3 m1 m3 where
  os := h'.os.trans h.os
  tape := h'.tape.trans h.tape
  output := h'.output.trans h.output
  size := Nat.le_trans h.size h'.size
  block := fun i hi hn => (h'.block i (Nat.lt_of_lt_of_le hi h.size) (fun ho => (h.own i ho).elim hn (fun hge => by omega))).trans (h.block i hi hn)
  own := fun i hi => (h'.own i hi).elim (h.own i) (fun hge => .inr (Nat.le_trans h.size hge))
  ro := fun i hi => (h'.ro i hi).elim (h.ro i) (fun hge => .inr (Nat.le_trans h.size hge))
  bb := h'.bb.trans h.bb

abbrev anV (a : An) (gv wv : Value) : Value := .agg #[.int .i64 a.code, .int .i64 a.sub, .int .u64 a.gen, .int .i64 a.count, .int .u64 a.lost, .int .i64 a.st.mode, .int .i64 a.st.source, .bool a.st.hold, .int .i64 a.st.flags, .int .u64 a.st.epoch, gv, wv]

/-- What a call leaves. -/
def DoPost (k : Nat) (w : World) (m : Mem) (x : Bd × An) (e : Ending) (w' : World) : Prop :=
  ∃ m' gv wv, e = .returned (anV x.2 gv wv) ∧ IsBd k w' m' x.1 ∧ Turns w w' m m' ∧ w'.ownsRow w.heap.size 39 1 gv x.2.gens.length (natL x.2.gens) ∧ w'.ownsRow w.heap.size 39 1 wv x.2.words.length (u64V x.2.words) ∧
    (∀ q, gv.ownBlock = some q ∨ wv.ownBlock = some q → ¬ m'.own q ∧ ¬ m'.ro q)

theorem post_plain {k : Nat} {w w' : World} {m : Mem} {S : Bd} {a : An} (h : IsBd k w m S) (hb : Below w.heap.size w w') (h1 : a.gens = []) (h2 : a.words = []) : DoPost k w m (S, a) (.returned (anV a nilS nilS)) w' :=
  ⟨m, nilS, nilS, rfl, h.below hb, Turns.of_below m hb, by rw [h1]; exact World.ownsRow_nil _ _ _ _, by rw [h2]; exact World.ownsRow_nil _ _ _ _, fun q hq => by rcases hq with hq | hq <;> cases hq⟩

end Go.Proofs.YtpilfhjlfbjloaaGreatDoor
