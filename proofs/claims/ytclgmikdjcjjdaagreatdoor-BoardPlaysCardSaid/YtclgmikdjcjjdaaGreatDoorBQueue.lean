/-
  The board's two maps, whose keys are places, in memory. Conditions: none.
  'MapIs w b n f': block b of w is a map of at most n entries, in which the place (t, g) has the value f t g. The walks of package queue's functions. Conditions: a cursor's numbers are bounded, its room is 1 to 15.
-/
import Derived.Test.YtclgmikdjcjjdaaGreatDoorRows
import Derived.Test.YtclgmikdjcjjdaaGreatDoorLib
import Derived.Maps.OwnSet
import Derived.Maps.Keyed
import Derived.DeepKeys4
import Derived.WideKeyEntry
import Derived.WalkArith
import Derived.Test.YtclgmikdjcjjdaaGreatDoorBLib
namespace Go.Proofs.YtclgmikdjcjjdaaGreatDoor
open Go.RowKit
open Go.Maps (Keyed IsMap Tidy)
open Go.ChangeMaps (setBlock heap_setBlock_same)


theorem Tryz.laidOut : laidOutB Tryz.prog = true := by kernel_rfl
theorem Tryz.rowPlace : (77 : TypeId) < Tryz.prog.types.size := of_decide_eq_true (by kernel_rfl)
theorem Tryz.deepPlace : Tryz.prog.keyTypeAt 2 77 = true := by kernel_rfl
theorem Tryz.widePlace : (match Tryz.prog.underlying 77 with | some (.array _ _) | some (.struct _) => true | _ => false) = true := by kernel_rfl
set_option maxRecDepth 100000 in
theorem placeLaw : WideMaps.KeyLaw Tryz.prog 77 := deep_law_laid Tryz.laidOut (m := 2) (by omega) Tryz.rowPlace Tryz.deepPlace Tryz.widePlace
theorem placeKeyed : Keyed Tryz.prog 77 := Keyed.of_law placeLaw

abbrev kvV (t g : Nat) : Value := .agg #[.int .i64 t, .int .u64 g]

theorem keyType_place : Tryz.prog.keyType 77 = true := by kernel_rfl
noncomputable abbrev placeFs : Array Field := match Tryz.prog.underlying 77 with | some (.struct fs) => fs | _ => #[]
theorem struct_place : Tryz.prog.underlying 77 = some (.struct placeFs) ∧ placeFs.all (·.name != "_") = true ∧ placeFs.toList.map (fun f => (f.type, f.offset)) = [(3, 0), (36, 1)] := ⟨by kernel_rfl, by kernel_rfl, by kernel_rfl⟩
theorem cells_place : Tryz.prog.cellsOf 77 = 2 := by kernel_rfl
theorem formed_place (t g : Nat) : (kvV t g).formed Tryz.prog 77 = true := by
  obtain ⟨hu, -⟩ := struct_place
  simp [Value.formed, hu, cells_place]

theorem cells_int : Tryz.prog.cellsOf 3 = 1 := by kernel_rfl
theorem cells_u64 : Tryz.prog.cellsOf 36 = 1 := by kernel_rfl
theorem row_size : Tryz.prog.types.size = Tryz.prog.types.size - 1 + 1 := by kernel_rfl
theorem und_int : Tryz.prog.underlying 3 = some (.int .i64) := by kernel_rfl
theorem und_u64 : Tryz.prog.underlying 36 = some (.int .u64) := by kernel_rfl

def klit (t g : Nat) : Lit := .string (keyBytes [.int .i64 t, .int .u64 g])

theorem keyOf_place (t g : Nat) (ht : t < 9223372036854775808) (hg : g < 18446744073709551616) : keyOf Tryz.prog 77 (kvV t g) = some (klit t g) := by
  obtain ⟨hu, hb, hf⟩ := struct_place
  generalize placeFs = fs at hu hb hf
  obtain ⟨m, hm⟩ : ∃ m, Tryz.prog.types.size = m + 1 := ⟨_, row_size⟩
  have h1 : Tryz.prog.keyLits (m + 1 + 1) 77 [.int .i64 t, .int .u64 g] = some [.int .i64 t, .int .u64 g] := by
    have hfl : ∃ f1 f2, fs.toList = [f1, f2] ∧ f1.type = 3 ∧ f1.offset = 0 ∧ f2.type = 36 ∧ f2.offset = 1 := by
      generalize fs.toList = l at hf
      cases l with
      | nil => simp at hf
      | cons f1 l => cases l with
        | nil => simp at hf
        | cons f2 l => cases l with
          | nil => simp at hf; exact ⟨f1, f2, rfl, hf.1.1, hf.1.2, hf.2.1, hf.2.2⟩
          | cons f3 l => simp at hf
    obtain ⟨f1, f2, hfl, a1, a2, a3, a4⟩ := hfl
    have w1 : (Lit.int .i64 (t : Int)).wf = true := WalkArith.wf_i64 ⟨by omega, by omega⟩
    have w2 : (Lit.int .u64 (g : Int)).wf = true := WalkArith.wf_u64 ⟨by omega, by omega⟩
    unfold Program.keyLits
    simp only [hu, cells_place, List.length_cons, List.length_nil, hb, and_self, if_true, hfl, List.mapM_cons, List.mapM_nil, a1, a2, a3, a4, cells_int, cells_u64]
    unfold Program.keyLits
    simp [w1, w2]
  unfold keyOf
  simp only [hu, keyType_place, formed_place, Bool.and_self, if_true, Value.cells, hm, h1, Option.map_some]
  rfl

theorem klit_inj {t g t' g' : Nat} (ht : t < 9223372036854775808) (hg : g < 18446744073709551616) (ht' : t' < 9223372036854775808) (hg' : g' < 18446744073709551616) (h : klit t g = klit t' g') : t = t' ∧ g = g' := by
  have h1 := keyOf_place t g ht hg
  have h2 := keyOf_place t' g' ht' hg'
  rw [← h] at h2
  have := placeKeyed.inj h1 h2
  simp at this
  omega

theorem same_key : ∀ {l : List MapEntry}, (l.map (·.key)).Nodup → ∀ {a b : MapEntry}, a ∈ l → b ∈ l → a.key = b.key → a = b
  | [], _, _, _, ha, _, _ => by cases ha
  | c :: l, hn, a, b, ha, hb, h => by
    simp only [List.map_cons, List.nodup_cons] at hn
    rcases List.mem_cons.1 ha with he | ha
    · rcases List.mem_cons.1 hb with he' | hb
      · rw [he, he']
      · exact absurd (List.mem_map.2 ⟨b, hb, by rw [← h, he]⟩) hn.1
    · rcases List.mem_cons.1 hb with he' | hb
      · exact absurd (List.mem_map.2 ⟨a, ha, by rw [h, he']⟩) hn.1
      · exact same_key hn.2 ha hb h

abbrev rawR : Value → Option (DataW Value × List MemPlace) := fun v => some (.held v, [])

/-- Block b is a map of at most n entries: f. -/
def MapIs (w : World) (b n : Nat) (f : Nat → Nat → Option Value) : Prop :=
  ∃ D : DataW Value, w.ownsMap Tryz.prog 77 rawR b n D ∧ ∀ t g, t < 9223372036854775808 → g < 18446744073709551616 → (∀ z, D.atKey (klit t g) (.held z) = .held ((f t g).getD z)) ∧ Maps.has D (klit t g) = (f t g).isSome

section
variable {w w' : World} {b n : Nat} {f : Nat → Nat → Option Value} {T e : TypeId} {z : Value}

theorem MapIs.keep (h : MapIs w b n f) (hk : w'.heap[b]? = w.heap[b]?) : MapIs w' b n f := by
  obtain ⟨D, ⟨es, clock, hb, r⟩, hf⟩ := h
  exact ⟨D, ⟨es, clock, hk.trans hb, r⟩, hf⟩

theorem MapIs.mono (h : MapIs w b n f) {m : Nat} (hm : n ≤ m) : MapIs w b m f := by
  obtain ⟨D, hD, hf⟩ := h
  exact ⟨D, hD.mono hm, hf⟩

theorem MapIs.lt (h : MapIs w b n f) : b < w.heap.size := by
  obtain ⟨D, hD, hf⟩ := h
  exact hD.lt

theorem MapIs.made (w : World) : MapIs (w.alloc (.map #[] 0)) w.heap.size 0 (fun _ _ => none) :=
  ⟨.map [], World.ownsMap_made w _ _ _, fun _ _ _ _ => ⟨fun _ => rfl, rfl⟩⟩

theorem MapIs.lookup (h : MapIs w b n f) (hT : Tryz.prog.underlying T = some (.map 77 e)) (hz : ∀ u, (zeroValue e).run Tryz.prog u = .ok z u) {t g : Nat} (ht : t < 9223372036854775808) (hg : g < 18446744073709551616) :
    (Instr.lookup T (.map (some b)) (kvV t g) false).run Tryz.prog w = .ok ((f t g).getD z) w := by
  obtain ⟨D, hD, hf⟩ := h
  obtain ⟨v, ps, hrun, hv⟩ := hD.lookup placeKeyed hT (hz w) (zd := .held z) (zp := []) rfl (keyOf_place t g ht hg)
  rw [((hf t g ht hg).1 z)] at hv
  simp at hv
  rw [hrun, hv.1]

theorem MapIs.look_ok (h : MapIs w b n f) (hT : Tryz.prog.underlying T = some (.map 77 e)) (hz : ∀ u, (zeroValue e).run Tryz.prog u = .ok z u) {t g : Nat} (ht : t < 9223372036854775808) (hg : g < 18446744073709551616) :
    (Instr.lookup T (.map (some b)) (kvV t g) true).run Tryz.prog w = .ok (.tuple #[(f t g).getD z, .bool (f t g).isSome]) w := by
  obtain ⟨D, hD, hf⟩ := h
  obtain ⟨v, ps, hrun, hv⟩ := hD.look_ok placeKeyed hT (hz w) (zd := .held z) (zp := []) rfl (keyOf_place t g ht hg)
  rw [((hf t g ht hg).1 z)] at hv
  simp at hv
  rw [hrun, hv.1, (hf t g ht hg).2]

theorem isKey (t g : Nat) : WideAt.IsKeyLit (klit t g) := trivial

/-- The one entry that is laid in. -/
def laidIn (f : Nat → Nat → Option Value) (t g : Nat) (v : Value) : Nat → Nat → Option Value := fun t' g' => if t' = t ∧ g' = g then some v else f t' g'
def takenOut (f : Nat → Nat → Option Value) (t g : Nat) : Nat → Nat → Option Value := fun t' g' => if t' = t ∧ g' = g then none else f t' g'

theorem MapIs.store (h : MapIs w b n f) (hn : n < maxLen) (hT : Tryz.prog.underlying T = some (.map 77 e)) {t g : Nat} (ht : t < 9223372036854775808) (hg : g < 18446744073709551616) (val : Value) :
    ∃ w', (Instr.mapUpdate T (.map (some b)) (kvV t g) val).run Tryz.prog w = .ok () w' ∧ MapIs w' b (n + 1) (laidIn f t g val) ∧ w.mapTurned w' b := by
  obtain ⟨D, hD, hf⟩ := h
  obtain ⟨w', hrun, hD', hturn⟩ := hD.store placeKeyed hT hn (keyOf_place t g ht hg) (val := val) (d := .held val) (ps := []) rfl
  refine ⟨w', hrun, ⟨_, hD', fun t' g' ht' hg' => ?_⟩, hturn⟩
  unfold laidIn
  by_cases he : t' = t ∧ g' = g
  · obtain ⟨rfl, rfl⟩ := he
    simp [Maps.atKey_put_same hD.isMap (isKey t' g'), Maps.has_put_same hD.isMap (isKey t' g')]
  · have hne : klit t' g' ≠ klit t g := fun e => he (klit_inj ht' hg' ht hg e)
    rw [if_neg he]
    simp only [Maps.atKey_put_other hne, Maps.has_put_other hne]
    exact hf t' g' ht' hg'

theorem MapIs.drop (h : MapIs w b n f) (hT : Tryz.prog.underlying T = some (.map 77 e)) {t g : Nat} (ht : t < 9223372036854775808) (hg : g < 18446744073709551616) (ty : TypeId) :
    ∃ w', (Builtin.delete_ #[T, 77] ty #[.map (some b), kvV t g]).run Tryz.prog w = .ok (.tuple #[]) w' ∧ MapIs w' b n (takenOut f t g) ∧ w.mapTurned w' b := by
  obtain ⟨D, hD, hf⟩ := h
  obtain ⟨w', hrun, hD', hturn⟩ := hD.drop placeKeyed hT (keyOf_place t g ht hg) ty
  refine ⟨w', hrun, ⟨_, hD', fun t' g' ht' hg' => ?_⟩, hturn⟩
  unfold takenOut
  by_cases he : t' = t ∧ g' = g
  · obtain ⟨rfl, rfl⟩ := he
    simp [Maps.atKey_del_same, Maps.has_del_same]
  · have hne : klit t' g' ≠ klit t g := fun e => he (klit_inj ht' hg' ht hg e)
    rw [if_neg he]
    simp only [Maps.atKey_del_other hne, Maps.has_del_other hne]
    exact hf t' g' ht' hg'

/-- 'm[k] op= v': its two steps, nothing being laid in between. A look-up in between tells what one ahead of both tells. -/
theorem MapIs.entry (h : MapIs w b n f) (hn : n < maxLen) (hT : Tryz.prog.underlying T = some (.map 77 e)) (hz : ∀ u, (zeroValue e).run Tryz.prog u = .ok z u) {t g : Nat} (ht : t < 9223372036854775808) (hg : g < 18446744073709551616) :
    ∃ (st : Nat) (w1 : World), (Instr.mapEntry T (.map (some b)) (kvV t g)).run Tryz.prog w = .ok (.tuple #[(f t g).getD z, goInt st]) w1 ∧ w.mapTurned w1 b ∧
      (Instr.lookup T (.map (some b)) (kvV t g) false).run Tryz.prog w1 = .ok ((f t g).getD z) w1 ∧
      ∀ (val : Value), ∃ w3, (Instr.entryStore T (.map (some b)) (goInt st) val).run Tryz.prog w1 = .ok () w3 ∧ MapIs w3 b (n + 1) (laidIn f t g val) ∧ w1.mapTurned w3 b := by
  have hl := h.lookup hT hz ht hg
  have hs := fun val => h.store hn hT ht hg val
  have h0 := h
  obtain ⟨D, hD, hf⟩ := h
  obtain ⟨es, clock, hb, F, hsz, rfl⟩ := hD
  obtain ⟨v0, st, es1, clock1, h1, h2, h3⟩ := WideElems.entry_then_store placeLaw hT hz hb F (keyOf_place t g ht hg)
  have hend : ∀ val, ∃ w3, (Instr.entryStore T (.map (some b)) (goInt st) val).run Tryz.prog (setBlock w b (.map es1 clock1)) = .ok () w3 ∧ MapIs w3 b (n + 1) (laidIn f t g val) ∧ (setBlock w b (.map es1 clock1)).mapTurned w3 b := by
    intro val
    have hw2 := heap_setBlock_same (o := .map es1 clock1) hb
    obtain ⟨es', clock', h4, h5⟩ := h3 _ val hw2
    obtain ⟨w', hrun, hM, -⟩ := hs val
    rw [h5] at hrun
    cases hrun
    refine ⟨_, h4, hM.keep ?_, ⟨es1, clock1, es', clock', hw2, rfl⟩⟩
    rw [heap_setBlock_same hw2, heap_setBlock_same hb]
  rcases placeKeyed.find w (keyOf_place t g ht hg) es.toList F.keys with ⟨f1, f2⟩ | ⟨j, e0, f1, f2, f3⟩
  · have hz0 : (f t g).getD z = z := by
      simp [Instr.lookup, run_underlying hT, MapKept.run_getObj_map hb, placeKeyed.check w _ (keyOf_place t g ht hg), f1, hz, Result.andThen] at hl
      exact hl.symm
    have hm1 : (Instr.mapEntry T (.map (some b)) (kvV t g)).run Tryz.prog w = .ok (.tuple #[z, goInt clock]) (setBlock w b (.map (es.push ⟨kvV t g, z, clock⟩) (clock + 1))) := by
      simp [Instr.mapEntry, run_underlying hT, MapKept.run_getObj_map hb, placeKeyed.check w false (keyOf_place t g ht hg), f1, hz, MapKept.run_setObj_map _ hb, Result.andThen, setBlock]
    have hu1 : (Instr.mapUpdate T (.map (some b)) (kvV t g) z).run Tryz.prog w = .ok () (setBlock w b (.map (es.push ⟨kvV t g, z, clock⟩) (clock + 1))) := by
      simp [Instr.mapUpdate, run_underlying hT, MapKept.run_getObj_map hb, placeKeyed.check w false (keyOf_place t g ht hg), f1, MapKept.run_setObj_map _ hb, Result.andThen, setBlock]
    obtain ⟨w', hrun, hM, hturn⟩ := hs z
    rw [hu1] at hrun
    cases hrun
    rw [h1] at hm1
    injection hm1 with hv hw
    have hlk := hM.lookup (T := T) hT hz ht hg
    rw [← hw] at hlk hturn
    have hv0 : v0 = z := by simp at hv; exact hv.1
    refine ⟨st, _, by rw [h1, hv0, hz0], hturn, ?_, hend⟩
    rw [hlk, hz0]
    simp [laidIn]
  · have hv0 : (f t g).getD z = e0.val := by
      simp [Instr.lookup, run_underlying hT, MapKept.run_getObj_map hb, placeKeyed.check w _ (keyOf_place t g ht hg), f1, Result.andThen] at hl
      exact hl.symm
    have hj : es[j]? = some e0 := by simpa using f2
    have hsame : es.modify j (fun e => { e with key := kvV t g }) = es := by
      apply Array.ext'
      rw [Array.toList_modify, ChangeMaps.modify_eq_set _ _ _ _ f2]
      have : ({ e0 with key := kvV t g } : MapEntry) = e0 := by rw [← f3]
      rw [this]
      exact WideElems.set_self _ _ _ f2
    have hm1 : (Instr.mapEntry T (.map (some b)) (kvV t g)).run Tryz.prog w = .ok (.tuple #[e0.val, goInt e0.born]) (setBlock w b (.map es clock)) := by
      simp [Instr.mapEntry, run_underlying hT, MapKept.run_getObj_map hb, placeKeyed.check w false (keyOf_place t g ht hg), f1, hj, f3, placeKeyed.stays w (keyOf_place t g ht hg), hsame, MapKept.run_setObj_map _ hb, Result.andThen, setBlock]
    rw [h1] at hm1
    injection hm1 with hv hw
    have hv1 : v0 = e0.val := by simp at hv; exact hv.1
    have hk1 : MapIs (setBlock w b (.map es clock)) b n f := h0.keep ((heap_setBlock_same (o := .map es clock) hb).trans hb.symm)
    have hlk := hk1.lookup (T := T) hT hz ht hg
    rw [← hw] at hlk
    exact ⟨st, _, by rw [h1, hv1, hv0], ⟨es, clock, es1, clock1, hb, rfl⟩, hlk, hend⟩
end

end Go.Proofs.YtclgmikdjcjjdaaGreatDoor

namespace Go.Proofs.YtclgmikdjcjjdaaGreatDoor
open Go.RowKit

abbrev cuV (c : Cu) : Value := .agg #[.int .u64 c.next, .int .i64 c.cap, .int .u64 c.got, .int .u64 c.lost]
abbrev cuZ : Value := .agg #[.int .u64 0, .int .i64 0, .int .u64 0, .int .u64 0]

set_option maxRecDepth 100000 in
set_option maxHeartbeats 800000 in
theorem qmay_any (n : Nat) (w : World) (h1 : 1 ≤ n) (h2 : n ≤ 15) : Calls Tryz.prog 76 #[.int .i64 n] w fun e w' => e = .returned (.bool true) ∧ w' = w := by
  go_enter Tryz.func76, Tryz.ntmps76
  go_wp2
  go_ret
  exact ⟨by simp; omega, rfl⟩

set_option maxRecDepth 100000 in
set_option maxHeartbeats 800000 in
theorem right_any (a b c d : Nat) (w : World) (h1 : 1 ≤ b) (h2 : b ≤ 15) (ha : a ≤ 1152921504606846976) : Calls Tryz.prog 71 #[.agg #[.int .u64 a, .int .i64 b, .int .u64 c, .int .u64 d]] w fun e w' => e = .returned (.bool true) ∧ Below w.heap.size w w' := by
  go_enter Tryz.func71, Tryz.ntmps71
  go_wp2_with fail
  refine (qmay_any b _ h1 h2).mono ?_
  rintro e w' ⟨rfl, rfl⟩
  go_wp2
  go_ret
  exact ⟨by simp; omega, below_new _ _⟩

theorem big_no {g : Nat} (h : g ≤ 1152921504606846976) : decide ((9223372036854775808 : Int) ≤ (g : Int)) = false := by simp; omega
theorem u64_same {g : Nat} (h : g ≤ 18446744073709551615) : (g : Int) % 18446744073709551616 = (g : Int) := by omega

set_option maxRecDepth 100000 in
set_option maxHeartbeats 800000 in
theorem qnew_any (g n : Nat) (w : World) (h1 : 1 ≤ n) (h2 : n ≤ 15) (hg : g ≤ 1152921504606846976) : Calls Tryz.prog 57 #[.int .u64 g, .int .i64 n] w fun e w' => e = .returned (.tuple #[cuV ⟨g + 1, n, 0, 0⟩, .int .i64 0]) ∧ Below w.heap.size w w' := by
  have hge := big_no hg
  obtain ⟨r, hr⟩ : ∃ r, r = g + 1 := ⟨_, rfl⟩
  have hw : IntKind.u64.wrap ((g : Int) + 1) = (r : Int) := by rw [IntKind.wrap_u64]; omega
  rw [← hr]
  clear hg hr
  go_enter Tryz.func57, Tryz.ntmps57
  go_wp2_with fail
  refine (qmay_any n _ h1 h2).mono ?_
  rintro e w' ⟨rfl, rfl⟩
  go_wp2
  have hresl : Tryz.f57.results = #[.cell 4 95, .tmp 5] := by kernel_rfl
  refine bodyPost_ret (v := .tuple #[cuV ⟨r, n, 0, 0⟩, .int .i64 0]) ?_ rfl ?_
  · simp only [results, hresl]
    go_simp
  · refine ⟨rfl, ?_⟩
    repeat (first | refine Below.setCell ?_ (by simp <;> omega) _ | refine Below.alloc ?_ (by simp <;> omega) _ | refine below_drewN ?_ _)
    exact Below.refl _ _

set_option maxRecDepth 100000 in
set_option maxHeartbeats 800000 in
theorem see_raw (a b c d g : Nat) (w : World) (h1 : 1 ≤ b) (h2 : b ≤ 15) (ha : a ≤ 1152921504606846976) (hd : d ≤ 1152921504606846976) (hg : g ≤ 1152921504606846976) :
    Calls Tryz.prog 42 #[.agg #[.int .u64 a, .int .i64 b, .int .u64 c, .int .u64 d], .int .u64 g] w fun e w' =>
      e = .returned (.tuple #[cuV (seeS ⟨a, b, c, d⟩ g), .int .i64 0]) ∧ Below w.heap.size w w' := by
  have Ha := hide ha
  have hge := big_no hg
  by_cases hlt : g < a
  · have hlt' : decide ((g : Int) < (a : Int)) = true := by simp; omega
    have HS := hide (show seeS ⟨a, b, c, d⟩ g = ⟨a, b, c, d⟩ by simp [seeS, hlt])
    clear ha hd hg
    go_enter Tryz.func42, Tryz.ntmps42
    go_wp2_with fail
    refine (right_any a b c d _ h1 h2 Ha.out).mono ?_
    rintro e w1 ⟨rfl, hb1⟩
    obtain ⟨hc1, hf1, hz1⟩ := bcell hb1
    obtain ⟨t0, t1, t2, t3, tf, tl⟩ := row4 ((hb1.block w.heap.size (by simp; omega)).trans (heap_two w (.cells #[.int .u64 a, .int .i64 b, .int .u64 c, .int .u64 d] 95) (.cells #[.int .u64 0, .int .i64 0, .int .u64 0, .int .u64 0] 95)).1)
    go_wp2
    have hresl : Tryz.f42.results = #[.cell 4 95, .tmp 5] := by kernel_rfl
    refine bodyPost_ret (v := .tuple #[cuV ⟨a, b, c, d⟩, .int .i64 0]) ?_ rfl ?_
    · simp only [results, hresl]
      go_simp
    · refine ⟨by rw [HS.out], ?_⟩
      repeat (first | refine Below.setCell ?_ (by simp <;> omega) _ | refine Below.alloc ?_ (by simp <;> omega) _ | refine below_drewN ?_ _)
      exact (below_new2 w _ _).trans (hb1.mono (by simp; omega))
  · have hlt' : decide ((g : Int) < (a : Int)) = false := by simp; omega
    obtain ⟨q, hq⟩ : ∃ q, q = g - a := ⟨_, rfl⟩
    obtain ⟨r, hr⟩ : ∃ r, r = q + 1 := ⟨_, rfl⟩
    have hw1 : IntKind.u64.wrap ((g : Int) - (a : Int)) = (q : Int) := by rw [IntKind.wrap_u64]; omega
    have hw2 : IntKind.u64.wrap ((q : Int) + 1) = (r : Int) := by rw [IntKind.wrap_u64]; omega
    by_cases hgt : b < r
    · have hgt' : decide ((b : Int) < (r : Int)) = true := by simp; omega
      obtain ⟨s, hs⟩ : ∃ s, s = r - b := ⟨_, rfl⟩
      obtain ⟨a', ha'⟩ : ∃ a', a' = a + s := ⟨_, rfl⟩
      obtain ⟨d', hd'⟩ : ∃ d', d' = d + s := ⟨_, rfl⟩
      have hw3 : IntKind.u64.wrap ((r : Int) - (b : Int)) = (s : Int) := by rw [IntKind.wrap_u64]; omega
      have hw4 : IntKind.u64.wrap ((a : Int) + (s : Int)) = (a' : Int) := by rw [IntKind.wrap_u64]; omega
      have hw5 : IntKind.u64.wrap ((d : Int) + (s : Int)) = (d' : Int) := by rw [IntKind.wrap_u64]; omega
      have hwb : IntKind.u64.wrap (b : Int) = (b : Int) := by rw [IntKind.wrap_u64]; omega
      have HS := hide (show seeS ⟨a, b, c, d⟩ g = ⟨a', b, c, d'⟩ by
        have e1 : b < g - a + 1 := by omega
        simp [seeS, hlt, e1]
        omega)
      clear ha hd hg hq hr hs ha' hd'
      go_enter Tryz.func42, Tryz.ntmps42
      go_wp2_with fail
      refine (right_any a b c d _ h1 h2 Ha.out).mono ?_
      rintro e w1 ⟨rfl, hb1⟩
      obtain ⟨hc1, hf1, hz1⟩ := bcell hb1
      obtain ⟨t0, t1, t2, t3, tf, tl⟩ := row4 ((hb1.block w.heap.size (by simp; omega)).trans (heap_two w (.cells #[.int .u64 a, .int .i64 b, .int .u64 c, .int .u64 d] 95) (.cells #[.int .u64 0, .int .i64 0, .int .u64 0, .int .u64 0] 95)).1)
      go_wp2_with fail
      go_quiet (fail)
      go_wp2
      have hresl : Tryz.f42.results = #[.cell 4 95, .tmp 5] := by kernel_rfl
      refine bodyPost_ret (v := .tuple #[cuV ⟨a', b, c, d'⟩, .int .i64 0]) ?_ rfl ?_
      · simp only [results, hresl]
        go_simp
      · refine ⟨by rw [HS.out], ?_⟩
        repeat (first | refine Below.setCell ?_ (by simp <;> omega) _ | refine Below.alloc ?_ (by simp <;> omega) _ | refine below_drewN ?_ _)
        exact (below_new2 w _ _).trans (hb1.mono (by simp; omega))
    · have hgt' : decide ((b : Int) < (r : Int)) = false := by simp; omega
      have hwb : IntKind.u64.wrap (b : Int) = (b : Int) := by rw [IntKind.wrap_u64]; omega
      have HS := hide (show seeS ⟨a, b, c, d⟩ g = ⟨a, b, c, d⟩ by
        have e1 : ¬ b < g - a + 1 := by omega
        simp [seeS, hlt, e1])
      clear ha hd hg hq hr
      go_enter Tryz.func42, Tryz.ntmps42
      go_wp2_with fail
      refine (right_any a b c d _ h1 h2 Ha.out).mono ?_
      rintro e w1 ⟨rfl, hb1⟩
      obtain ⟨hc1, hf1, hz1⟩ := bcell hb1
      obtain ⟨t0, t1, t2, t3, tf, tl⟩ := row4 ((hb1.block w.heap.size (by simp; omega)).trans (heap_two w (.cells #[.int .u64 a, .int .i64 b, .int .u64 c, .int .u64 d] 95) (.cells #[.int .u64 0, .int .i64 0, .int .u64 0, .int .u64 0] 95)).1)
      go_wp2_with fail
      go_quiet (fail)
      go_wp2
      have hresl : Tryz.f42.results = #[.cell 4 95, .tmp 5] := by kernel_rfl
      refine bodyPost_ret (v := .tuple #[cuV ⟨a, b, c, d⟩, .int .i64 0]) ?_ rfl ?_
      · simp only [results, hresl]
        go_simp
      · refine ⟨by rw [HS.out], ?_⟩
        repeat (first | refine Below.setCell ?_ (by simp <;> omega) _ | refine Below.alloc ?_ (by simp <;> omega) _ | refine below_drewN ?_ _)
        exact (below_new2 w _ _).trans (hb1.mono (by simp; omega))

theorem see_some (a b c d g : Nat) (h1 : 1 ≤ b) (h2 : b ≤ 15) (ha : a ≤ 1152921504606846976) (hd : d ≤ 1152921504606846976) (hg : g ≤ 1152921504606846976) :
    ∃ a' d' : Nat, seeS ⟨a, b, c, d⟩ g = ⟨a', b, c, d'⟩ ∧ a ≤ a' ∧ a' ≤ 1152921504606846977 ∧ ∀ w, Calls Tryz.prog 42 #[.agg #[.int .u64 a, .int .i64 b, .int .u64 c, .int .u64 d], .int .u64 g] w fun e w' =>
      e = .returned (.tuple #[.agg #[.int .u64 a', .int .i64 b, .int .u64 c, .int .u64 d'], .int .i64 0]) ∧ Below w.heap.size w w' := by
  have hc := seeS_cap ⟨a, b, c, d⟩ g
  have hgo := seeS_got ⟨a, b, c, d⟩ g
  have hle := seeS_le ⟨a, b, c, d⟩ g
  have hn : (seeS ⟨a, b, c, d⟩ g).next ≤ 1152921504606846977 := by unfold seeS; repeat' split
                                                                   all_goals (simp <;> omega)
  have H := fun w => see_raw a b c d g w h1 h2 ha hd hg
  generalize seeS ⟨a, b, c, d⟩ g = S at *
  obtain ⟨a', b', c', d'⟩ := S
  simp only at hc hgo hle hn
  subst hc hgo
  exact ⟨a', d', rfl, hle, hn, H⟩

set_option maxRecDepth 100000 in
set_option maxHeartbeats 800000 in
theorem count_any (a b c d g : Nat) (w : World) (h1 : 1 ≤ b) (h2 : b ≤ 15) (ha : a ≤ 1152921504606846976) (hd : d ≤ 1152921504606846976) (hg : g ≤ 1152921504606846976) :
    Calls Tryz.prog 43 #[.agg #[.int .u64 a, .int .i64 b, .int .u64 c, .int .u64 d], .int .u64 g] w fun e w' =>
      e = .returned (.int .i64 (countS ⟨a, b, c, d⟩ g)) ∧ Below w.heap.size w w' := by
  obtain ⟨a', d', hS, hle, ha', H⟩ := see_some a b c d g h1 h2 ha hd hg
  have H := hide H
  have hcount : countS ⟨a, b, c, d⟩ g = g + 1 - a' := by rw [countS, hS]
  rw [hcount]
  by_cases hlt : g < a'
  · obtain ⟨r, hr⟩ : ∃ r, r = g + 1 - a' := ⟨_, rfl⟩
    have hr0 : r = 0 := by omega
    rw [← hr]
    subst hr0
    clear ha hd hg hcount hle ha' hS hr
    go_enter Tryz.func43, Tryz.ntmps43
    go_wp2_with fail
    refine (H.out _).mono ?_
    rintro e w1 ⟨rfl, hb1⟩
    obtain ⟨hc1, hf1, hz1⟩ := bcell hb1
    go_wp2
    go_ret
    exact ⟨by simp, ((below_new w _).trans (hb1.mono (by simp))).alloc (by have := hb1.size; simp at this; omega) _⟩
  · obtain ⟨q, hq⟩ : ∃ q, q = g - a' := ⟨_, rfl⟩
    obtain ⟨r, hr⟩ : ∃ r, r = g + 1 - a' := ⟨_, rfl⟩
    have hw1 : IntKind.u64.wrap ((g : Int) - (a' : Int)) = (q : Int) := by rw [IntKind.wrap_u64]; omega
    have hw2 : IntKind.u64.wrap ((q : Int) + 1) = (r : Int) := by rw [IntKind.wrap_u64]; omega
    have hw3 : IntKind.i64.wrap (r : Int) = (r : Int) := by rw [IntKind.wrap_i64]; omega
    rw [← hr]
    clear ha hd hg hcount hle ha' hS hr hq
    go_enter Tryz.func43, Tryz.ntmps43
    go_wp2_with fail
    refine (H.out _).mono ?_
    rintro e w1 ⟨rfl, hb1⟩
    obtain ⟨hc1, hf1, hz1⟩ := bcell hb1
    go_wp2
    go_ret
    exact ⟨by simp, ((below_new w _).trans (hb1.mono (by simp))).alloc (by have := hb1.size; simp at this; omega) _⟩

set_option maxRecDepth 100000 in
set_option maxHeartbeats 800000 in
theorem take_any (a b c d g : Nat) (w : World) (h1 : 1 ≤ b) (h2 : b ≤ 15) (ha : a ≤ 1152921504606846976) (hd : d ≤ 1152921504606846976) (hc : c ≤ 1152921504606846976) (hg : g ≤ 1152921504606846976)
    (hq : (seeS ⟨a, b, c, d⟩ g).next ≤ g) :
    Calls Tryz.prog 59 #[.agg #[.int .u64 a, .int .i64 b, .int .u64 c, .int .u64 d], .int .u64 g] w fun e w' =>
      e = .returned (.tuple #[.int .u64 (seeS ⟨a, b, c, d⟩ g).next, cuV (takeS ⟨a, b, c, d⟩ g), .int .i64 0]) ∧ Below w.heap.size w w' := by
  obtain ⟨a', d', hS, hle, ha', H⟩ := see_some a b c d g h1 h2 ha hd hg
  have H := hide H
  have ht : takeS ⟨a, b, c, d⟩ g = ⟨a' + 1, b, c + 1, d'⟩ := by rw [takeS, hS]
  rw [hS] at hq
  rw [ht, hS]
  have hlt : ¬ g < a' := by simpa using hq
  obtain ⟨a2, h2a⟩ : ∃ q, q = a' + 1 := ⟨_, rfl⟩
  obtain ⟨c2, h2c⟩ : ∃ q, q = c + 1 := ⟨_, rfl⟩
  have hw1 : IntKind.u64.wrap ((a' : Int) + 1) = (a2 : Int) := by rw [IntKind.wrap_u64]; omega
  have hw2 : IntKind.u64.wrap ((c : Int) + 1) = (c2 : Int) := by rw [IntKind.wrap_u64]; omega
  rw [← h2a, ← h2c]
  clear ha hd hg hc ht hle ha' hS hq h2a h2c
  go_enter Tryz.func59, Tryz.ntmps59
  go_wp2_with fail
  refine (H.out _).mono ?_
  rintro e w1 ⟨rfl, hb1⟩
  obtain ⟨hc1, hf1, hz1⟩ := bcell hb1
  have hs1 : w.heap.size + 1 + 1 ≤ w1.heap.size := by have := hb1.size; simp at this; omega
  obtain ⟨t0, t1, t2, t3, tf, tl⟩ := row4 ((hb1.block (w.heap.size + 1) (by simp)).trans (heap_two w (.cells #[.int .u64 a, .int .i64 b, .int .u64 c, .int .u64 d] 95) (.cells #[.int .u64 0, .int .i64 0, .int .u64 0, .int .u64 0] 95)).2)
  go_wp2_with fail
  go_region
  go_wp2
  have hresl : Tryz.f59.results = #[.tmp 4, .cell 5 95, .tmp 6] := by kernel_rfl
  refine bodyPost_ret (v := .tuple #[.int .u64 a', cuV ⟨a2, b, c2, d'⟩, .int .i64 0]) ?_ rfl ?_
  · simp only [results, hresl]
    go_simp
  · refine ⟨rfl, ?_⟩
    repeat (first | refine Below.setCell ?_ (by simp <;> omega) _ | refine Below.alloc ?_ (by simp <;> omega) _ | refine below_drewN ?_ _)
    exact (below_new2 w _ _).trans (hb1.mono (by simp; omega))

end Go.Proofs.YtclgmikdjcjjdaaGreatDoor
