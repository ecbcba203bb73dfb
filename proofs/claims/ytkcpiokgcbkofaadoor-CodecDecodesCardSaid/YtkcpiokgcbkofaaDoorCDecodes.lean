/-
  The claim CodecDecodes: contract, witness, statement, card. Conditions: none.
-/
import Derived.Test.YtkcpiokgcbkofaaDoorFrame
import Derived.Test.YtkcpiokgcbkofaaDoorLawDecodes
import Derived.ChangeSlices
namespace Go.Proofs.YtkcpiokgcbkofaaDoor.cDecodes
open Go.ChangeShapes Go.WideShapes Go.ChangeAt Go.RowKit Go.Deep

set_option maxRecDepth 100000 in
/-- An argument that is a slice of words: its numbers. -/
theorem open_words {H : Type} {enc : TypeId × Value → H} {w : World} {base : Nat} {held : Bool} {v : Value} {d : DataW H} {p : List MemPlace}
    (hok : Value.okWide Tryd.prog w .any base 37 v) (h : DataW.Trod enc Tryd.prog w 0 (fun _ => true) held 37 v d p) :
    ∃ ws : List Nat, Rd w v 1 ws.length (flatW ws) ∧ ∀ x ∈ ws, x < 18446744073709551616 := by
  obtain ⟨a0, l0, c0, rfl⟩ := okWide_slice Tryd.underlying37 hok
  obtain ⟨fuel, hf⟩ := h
  rcases open_ints Tryd.underlying37 Tryd.underlying57 (by kernel_rfl) hf with ⟨hcs, hx⟩ | ⟨a, len, cap, zs, hcs, hb, hl, hm, hzl, hx, hi, hwf⟩
  · simp [Value.cells] at hcs
    obtain ⟨rfl, rfl, rfl⟩ := hcs
    exact ⟨[], Rd.nil w 1, fun x hx => by simp at hx⟩
  · simp [Value.cells] at hcs
    obtain ⟨rfl, rfl, rfl⟩ := hcs
    have hlz : l0 ≤ zs.length := by rw [hzl]; split <;> omega
    obtain ⟨b, o, spot⟩ := a
    have hbd : ∀ n ∈ zs, 0 ≤ n ∧ n < 18446744073709551616 := by
      intro n hn
      have := hwf n hn
      simp [Lit.wf, IntKind.min, IntKind.max, IntKind.signed, IntKind.bits] at this
      omega
    have hat : ∀ i (hil : i < l0), w.cell? (Addr.add ⟨b, o, spot⟩ i) = some (.int .u64 ((zs[i]'(by omega)).toNat : Int)) := by
      intro i hil
      have h1 := hi i (by omega)
      have h2 := hbd _ (List.getElem_mem (l := zs) (show i < zs.length by omega))
      rw [List.getD_eq_getElem?_getD, List.getElem?_eq_getElem (by omega)] at h1
      rw [Int.toNat_of_nonneg h2.1]
      exact h1
    have hln : (((zs.take l0).map Int.toNat)).length = l0 := by simp; omega
    refine ⟨(zs.take l0).map Int.toNat, ⟨by simp [flatW], some ⟨b, o, spot⟩, c0, by rw [hln], by omega, hm, fun hpos => ?_⟩, fun x hx => ?_⟩
    · rw [hln] at hpos
      have h0 := hat 0 hpos
      have hspot : spot = none := by simpa [Addr.add] using World.cell?_spot h0
      subst hspot
      refine ⟨b, o, rfl, ?_, fun j u hj => ?_⟩
      · have hc := h0
        simp only [World.cell?, Addr.add] at hc
        by_cases hbl : b < w.heap.size
        · exact hbl
        · have hn : w.heap[b]? = none := Array.getElem?_eq_none (Nat.le_of_not_lt hbl)
          simp [hn] at hc
      · have hj2 : j < l0 := by
          have : j < (flatW ((zs.take l0).map Int.toNat)).length := (List.getElem?_eq_some_iff.1 hj).1
          rw [show (flatW ((zs.take l0).map Int.toNat)).length = ((zs.take l0).map Int.toNat).length from by simp [flatW], hln] at this
          exact this
        have h1 := hat j hj2
        rw [flatW_at _ j (by omega)] at hj
        cases hj
        rw [add_at] at h1
        simpa using h1
    · obtain ⟨z, hz, rfl⟩ := List.mem_map.1 hx
      have := hbd z (List.mem_of_mem_take hz)
      omega

set_option maxRecDepth 100000 in
theorem contract (H : Type) (enc : TypeId × Value → H) (W : World) (base : Nat) (args : Array Value) (ds gs : List (DataW H)) (before : List MemPlace)
    (hval : ∀ (j : Nat) t v, Tryd.f5.params[j]? = some t → args[j]? = some v → Value.okWide Tryd.prog W .any base t v)
    (hW : DataW.Whole enc Tryd.prog Tryd.f5.params.toList Rows.codecDecodesSpec.vars false W args.toList ds gs before) :
    Calls Tryd.prog 5 args W fun e W' => ∃ v, e = .returned v ∧ Rows.codecDecodesSpec.post enc Tryd.prog Tryd.f5 false true false false W args v W' := by
  have hW' := hW
  obtain ⟨p, q, hA0, hV, rfl, hfz, hnd⟩ := hW
  have hA : DataW.TrodAll enc Tryd.prog W 0 (fun _ => true) true Tryd.f5.params.toList args.toList ds p := hA0
  rw [Tryd.params5] at hA hval
  obtain ⟨v0, vs0, d0, ds0, p0, q0, hargs, rfl, rfl, h0, r0⟩ := trodAll_cons hA
  obtain ⟨v1, vs1, d1, ds1, p1, q1, hargs1, rfl, rfl, h1, r1⟩ := trodAll_cons r0
  obtain ⟨rfl, rfl, rfl⟩ := trodAll_nil r1
  subst hargs1
  obtain rfl : args = #[v0, v1] := by cases args; simp_all
  obtain ⟨rfl, rfl⟩ := trodVars_none hV
  clear hA0
  have hlt0 : ∀ x ∈ p0, x.block < W.heap.size := fun x hx => hW'.lt x (by simp [hx])
  have hlt1 : ∀ x ∈ p1, x.block < W.heap.size := fun x hx => hW'.lt x (by simp [hx])
  obtain ⟨ps, hr⟩ := open_parts (hval 0 _ v0 rfl rfl) h0
  obtain ⟨ws, hw, hlt⟩ := open_words (hval 1 _ v1 rfl rfl) h1
  refine (lawdecodes_any ps ws v0 v1 W hr hw hlt).mono fun e W' ⟨he, hb⟩ => ?_
  subst he
  exact ⟨_, rfl, [d0, d1], [], p0 ++ p1, [], p0 ++ (p1 ++ []), [], by simpa using hW', trodAll_cons_mk (shut_bool Tryd.underlying4 _) trodAll_mk0,
    trodAll_cons_mk (Below.trod laidOut (by kernel_rfl) (of_decide_eq_true (by kernel_rfl)) h0 hb hlt0) (trodAll_cons_mk (Below.trod laidOut (by kernel_rfl) (of_decide_eq_true (by kernel_rfl)) h1 hb hlt1) trodAll_mk0), rfl, hb.frame _, fun h => by cases h⟩

theorem laid_met (os : Os) : laidMet Tryd.prog Rows.codecDecodesRow.laid ((World.doorLaid Tryd.prog 400 os).forCall (fun _ _ => 0) ⟨#[], #[.slice none 0 0, .slice none 0 0], []⟩).memory :=
  laidMet_of_run' 8 (by kernel_rfl) (by kernel_rfl)
theorem reads (os : Os) {H : Type} (enc : TypeId × Value → H) : ∃ places, DataW.whole enc Tryd.prog ((World.doorLaid Tryd.prog 400 os).forCall (fun _ _ => 0) ⟨#[], #[.slice none 0 0, .slice none 0 0], []⟩).memory Tryd.f5.params.toList Rows.codecDecodesSpec.vars false #[Value.slice none 0 0, Value.slice none 0 0].toList 8 = some ([.nil, .nil], [], places) :=
  ⟨[], by kernel_rfl⟩

set_option maxRecDepth 100000 in
theorem lifted (os : Os) (started : os.Started) (H : Type) (enc : TypeId × Value → H) (F : Stop.Interp) :
    ReturnsInHanded {} Tryd.checked os 5 .any ((OpenSpec.ofChange Rows.codecDecodesSpec).preRow enc Tryd.prog Tryd.f5 Rows.codecDecodesRow.domain false Rows.codecDecodesRow.laid) (((OpenSpec.ofChange Rows.codecDecodesSpec).at F).post enc Tryd.prog Tryd.f5 false true false false) := by
  obtain ⟨places, hx⟩ := reads os enc
  refine returnsInHanded_of_row (C := Tryd.checked) (s := OpenSpec.ofChange Rows.codecDecodesSpec) own started (by kernel_rfl) Tryd.func5
    (witness_row_at (enc := enc) (C := Tryd.checked) false (World.doorLaid Tryd.prog 400 os) #[.slice none 0 0, .slice none 0 0] rfl (by kernel_rfl) (by kernel_rfl) (by kernel_rfl)
      (OpenSpec.preRow_of_cond 8 hx (by kernel_rfl) (fun k hk => by cases hk) (by kernel_rfl) (laid_met os))) ?_
  intro W base args ds gs before hval hW _ _ _ _ _ _
  exact contract H enc W base args ds gs before hval hW

theorem said : Rows.CodecDecodesSaid :=
  OpenClaim.holds_of_cond 5 Tryd.f5 rfl rfl rfl rfl rfl rfl rfl ⟨rfl, rfl, rfl, rfl, rfl⟩ rfl rfl rfl rfl rfl (by kernel_rfl) Tryd.func5 (by kernel_rfl)
    (of_decide_eq_true (by kernel_rfl)) (by unfold Func.isWrapper; first | (rw [if_pos (by decide +kernel)]; kernel_rfl) | (rw [if_neg (by decide +kernel)]; exact ⟨rfl, rfl⟩))
    (fun os started H enc _ F => by rw [OpenClaim.pre_eq_preRow]; exact lifted os started H enc F)

/-- No parameter wants a stand-in. -/
theorem plain (f : FuncId) (fn : Func) (hf : Tryd.pinned.checked.prog.funcNamed "aileron/aileronlaw04.CodecDecodes" = some f) (hfn : Tryd.pinned.checked.prog.funcs[f]? = some fn) :
    true = Tryd.pinned.checked.prog.looks [] ∧ ∀ (j : Nat) t, fn.params[j]? = some t → Tryd.pinned.checked.prog.wantsStandIn t = false := by
  obtain rfl : f = 5 := Option.some.inj ((show Tryd.prog.funcNamed "aileron/aileronlaw04.CodecDecodes" = some 5 by kernel_rfl).symm.trans hf) |>.symm
  obtain rfl : fn = Tryd.f5 := (Option.some.inj (Tryd.func5.symm.trans hfn)).symm
  refine ⟨by kernel_rfl, fun j t ht => ?_⟩
  rw [Tryd.params5] at ht
  have ht' : t = 22 ∨ t = 37 := by simpa using Array.mem_of_getElem? ht
  rcases ht' with rfl | rfl
  · exact (show Tryd.prog.wantsStandIn 22 = false by kernel_rfl)
  · exact (show Tryd.prog.wantsStandIn 37 = false by kernel_rfl)

/-- The card. -/
theorem card : Rows.CodecDecodesCardSaid :=
  Claim7.holds_tied_plain_at .later [] _ _ _ _ said (fun _ h => by cases h) (by kernel_rfl) (fun _ h => by cases h) codecDecodes_row_tie rfl ⟨rfl, rfl⟩ (by kernel_rfl) rfl plain (by kernel_rfl)
end Go.Proofs.YtkcpiokgcbkofaaDoor.cDecodes
