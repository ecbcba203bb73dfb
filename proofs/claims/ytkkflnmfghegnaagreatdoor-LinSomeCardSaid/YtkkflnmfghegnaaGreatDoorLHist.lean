/-
  The walk of the law's history. Conditions: at most sixty calls, of at most a hundred elements, two hundred picks; the calls' fields and the ways between modes in memory.
-/
import Derived.Test.YtkkflnmfghegnaaGreatDoorLAppend
import Derived.Test.YtkkflnmfghegnaaGreatDoorLSmallP
import Derived.Test.YtkkflnmfghegnaaGreatDoorLLegal
namespace Go.Proofs.YtkkflnmfghegnaaGreatDoor
open Go.RowKit

/-- What history tells. -/
def HistPost (a : Int) (ts : List Tp) (b c : Int) (calls : List Ac) (w : World) (e : Ending) (w' : World) : Prop :=
  Below w.heap.size w w' ∧ ((checkS a ts b c ≠ (0, 0) ∧ e = .returned (.tuple #[.slice none 0 0, .bool false])) ∨
    (checkS a ts b c = (0, 0) ∧ ∃ v l t i n s, e = .returned (.tuple #[v, .bool true]) ∧ Runs calls (newS a ts b c) t i n s ∧ evsOf l = s.l ∧ EvsAt w' v l))

theorem wrap64_id {n : Int} (h0 : -9223372036854775808 ≤ n) (h1 : n ≤ 9223372036854775807) : wrap64 n = n := by unfold wrap64; omega
theorem mod8 (t : Int) : ∃ W : Nat, W < 8 ∧ (wrap64 (t.tmod 8 + 8)).tmod 8 = W ∧ t % 8 = W := by
  have h1 := Int.tmod_lt_of_pos t (show (0 : Int) < 8 by decide)
  have h2 := Int.lt_tmod_of_pos t (show (0 : Int) < 8 by decide)
  have h3 := Int.tmod_eq_emod (a := t) (b := 8)
  rw [wrap64_id (by omega) (by omega)]
  refine ⟨(t % 8).toNat, by omega, ?_, by omega⟩
  rw [Int.tmod_eq_emod_of_nonneg (by omega)]
  split at h3 <;> omega
theorem mod3 (t : Int) : ∃ M : Nat, 1 ≤ M ∧ M ≤ 3 ∧ wrap64 ((wrap64 (t.tmod 3 + 3)).tmod 3 + 1) = M := by
  have h1 := Int.tmod_lt_of_pos t (show (0 : Int) < 3 by decide)
  have h2 := Int.lt_tmod_of_pos t (show (0 : Int) < 3 by decide)
  rw [wrap64_id (n := t.tmod 3 + 3) (by omega) (by omega), Int.tmod_eq_emod_of_nonneg (by omega), wrap64_id (by omega) (by omega)]
  exact ⟨((t.tmod 3 + 3) % 3 + 1).toNat, by omega, by omega, by omega⟩

theorem start_mem (w w1 : World) (m : Mem) (S : Bd) (pl : Array Value) (hIs : IsBd 0 w1 m S) (hb : Below w.heap.size w w1) (hb1 : Below (w.alloc (.cells pl 54)).heap.size (w.alloc (.cells pl 54)) w1)
    (hX : (w.alloc (.cells pl 54)).heap[w.heap.size]? = some (.cells pl 54)) (hown : ∀ i, m.own i ∨ m.ro i → (w.alloc (.cells pl 54)).heap.size ≤ i) :
    HMem w (((w1.alloc (Obj.cells #[] 38)).alloc (Obj.cells #[Value.int .i64 0, Value.int .i64 0, Value.int .i64 0, Value.int .i64 0, Value.int .i64 0, Value.int .i64 0, Value.int .i64 0, Value.int .i64 0] 84)).alloc (Obj.cells #[Value.int .i64 (-1), Value.int .i64 (-1), Value.int .i64 (-1), Value.int .i64 (-1), Value.int .i64 (-1), Value.int .i64 (-1), Value.int .i64 (-1), Value.int .i64 (-1)] 84))
      (3 * 0) w.heap.size (w1.heap.size + 1) (w1.heap.size + 1 + 1) pl m S (.slice (some ⟨w1.heap.size, 0, none⟩) 0 0) [] (List.replicate 8 0) (List.replicate 8 (-1)) := by
  obtain ⟨o1, h1⟩ : ∃ o : Obj, o = Obj.cells #[] 38 := ⟨_, rfl⟩
  obtain ⟨o2, h2⟩ : ∃ o : Obj, o = Obj.cells #[Value.int .i64 0, Value.int .i64 0, Value.int .i64 0, Value.int .i64 0, Value.int .i64 0, Value.int .i64 0, Value.int .i64 0, Value.int .i64 0] 84 := ⟨_, rfl⟩
  obtain ⟨o3, h3⟩ : ∃ o : Obj, o = Obj.cells #[Value.int .i64 (-1), Value.int .i64 (-1), Value.int .i64 (-1), Value.int .i64 (-1), Value.int .i64 (-1), Value.int .i64 (-1), Value.int .i64 (-1), Value.int .i64 (-1)] 84 := ⟨_, rfl⟩
  rw [← h1, ← h2, ← h3]
  have hs1 : (w1.alloc o1).heap.size = w1.heap.size + 1 := by simp
  have hs2 : ((w1.alloc o1).alloc o2).heap.size = w1.heap.size + 1 + 1 := by simp
  have hs3 : (((w1.alloc o1).alloc o2).alloc o3).heap.size = w1.heap.size + 1 + 1 + 1 := by simp
  have b1 := below_new w1 o1
  have b2 := below_new (w1.alloc o1) o2
  have b3 := below_new ((w1.alloc o1).alloc o2) o3
  have hall : Below w1.heap.size w1 (((w1.alloc o1).alloc o2).alloc o3) := below2 (below2 b1 b2) b3
  have hsz : w.heap.size + 1 ≤ w1.heap.size := by have := hb1.size; simpa using this
  have hlt : ∀ i, m.own i ∨ m.ro i → w.heap.size + 1 ≤ i ∧ i < w1.heap.size := fun i hi => ⟨by have := hown i hi; simpa using this, hIs.lt i hi⟩
  refine ⟨⟨hIs.below hall, below2 hb hall, fun i hi => by have := (hlt i (.inl hi)).1; omega⟩, ?_, ?_, ?_, ?_, ⟨by omega, by omega, by omega, by omega, by omega⟩, fun q hq => ?_, fun q hq => ?_, fun e he => by cases he⟩
  · exact (hall.block _ (by omega)).trans ((hb1.block _ (by simp)).trans hX)
  · rw [b3.block _ (by omega), ← hs1, heap_alloc_new, h2]
    rfl
  · rw [← hs2, heap_alloc_new, h3]
    rfl
  · have := World.ownsRow_made (base := w.heap.size) (e := 38) (size := 27) w1 #[] 0 (by omega) (by decide) rfl
    rw [h1]
    exact (this.alloc _).alloc _
  · obtain rfl : w1.heap.size = q := by simpa [Value.ownBlock] using hq
    refine ⟨by omega, by omega, by omega, fun hm => ?_, fun hm => ?_⟩
    · have := (hlt _ (.inl hm)).2; omega
    · have := (hlt _ (.inr hm)).2; omega
  · have := hlt q hq
    exact ⟨by omega, by omega, by omega⟩

/-- What the beginning of a call looks at. -/
theorem hist_held {w z1 wq : World} {K X A U : Nat} {pl : Array Value} {m : Mem} {S : Bd} {v : Value} {l : List Em} {at_ : List Nat} {un : List Int} {W a : Nat} {va vb vc vd ve vf : Value} {b o : Nat} {cl : Ac} (h : HMem w z1 K X A U pl m S v l at_ un) (hpl : pl = #[va, vb, vc, vd, ve, vf]) (ha : at_[W]? = some a) (hc : AcAt w b o cl) (hb : Below z1.heap.size z1 wq) :
    wq.cell? ⟨X, 4, none⟩ = some ve ∧ wq.cell? ⟨A, W, none⟩ = some (.int .i64 a) ∧ wq.cell? ⟨b, o + 1, none⟩ = some (.int .i64 cl.c.kind) ∧ wq.cell? ⟨b, o + 2, none⟩ = some (.int .i64 cl.c.topic) ∧ wq.cell? ⟨b, o + 3, none⟩ = some (.int .i64 cl.c.sub) ∧ wq.cell? ⟨b, o + 4, none⟩ = some (.int .i64 cl.c.cap) ∧ wq.cell? ⟨b, o + 5, none⟩ = some (.int .i64 cl.c.rank) ∧ wq.cell? ⟨b, o + 6, none⟩ = some (.int .i64 cl.c.source) ∧ wq.cell? ⟨b, o + 7, none⟩ = some (.int .i64 cl.c.mode) ∧ wq.cell? ⟨b, o + 8, none⟩ = some (.int .i64 cl.c.flags) ∧ wq.cell? ⟨b, o + 9, none⟩ = some (.bool cl.c.free) ∧ wq.cell? ⟨b, o + 10, none⟩ = some cl.sv ∧ wq.cell? ⟨b, o + 11, none⟩ = some cl.wv := by
  have hm := h.on hb
  have hx := hm.x
  rw [hpl] at hx
  have hc' := hc.below hm.play.below
  exact ⟨(row6 hx).2.2.2.2.1, (cell_of hm.a W).trans (natC_at ha), hc'.c1, hc'.c2, hc'.c3, hc'.c4, hc'.c5, hc'.c6, hc'.c7, hc'.c8, hc'.c9, hc'.c10, hc'.c11⟩

set_option maxRecDepth 100000 in
set_option maxHeartbeats 6400000 in
theorem history_any (a b c : Int) (ts : List Tp) (cv : Value) (calls : List Ac) (lv : Value) (picks : List Pk) (pv : Value) (w : World) (hr : Rd w cv 3 ts.length (flatT ts)) (hts : ∀ t ∈ ts, t.1.size ≤ 9223372036854775807) (hl : ActsAt w lv calls)
    (hp : Rd w pv 2 picks.length (flatK picks)) (hF : FieldsAt w) (hW : WaysAt w) (hcl : calls.length ≤ 60) (hpl : picks.length ≤ 200) (hsm : ∀ a ∈ calls, a.c.set.length ≤ 100 ∧ a.c.words.length ≤ 100) :
    Calls Tryz.prog 18 #[playV a cv b c lv pv] w (HistPost a ts b c calls w) := by
  have HNB := hide (fun w' (hb : Below w.heap.size w w') hck => newbad_any a b c ts cv w' (hr.below hb) hts hck)
  have HNew := hide (fun w' (hb : Below w.heap.size w w') hck => new_any a b c ts cv w' (hr.below hb) hts hck)
  obtain ⟨A0, c0, rfl, -⟩ := id hr.shape
  obtain ⟨PA, pc, rfl, -⟩ := id hp.shape
  obtain ⟨tn, htn⟩ : ∃ n, n = ts.length := ⟨_, rfl⟩
  obtain ⟨pn, hpn⟩ : ∃ n, n = picks.length := ⟨_, rfl⟩
  obtain ⟨n, hn⟩ : ∃ n, n = calls.length := ⟨_, rfl⟩
  have HCl := hide hl
  obtain ⟨LA, lc, rfl, hl1, hl2, hopen⟩ := hl
  rw [← hn] at hopen hl1 HCl hcl ⊢
  rw [← hpn] at hp hpl ⊢
  rw [← htn] at HNB HNew ⊢
  have Hopen := hide hopen
  have Hp := hide hp
  have Hn := hide hn
  have Hpn := hide hpn
  have HF := hide hF
  have HW := hide hW
  have Hsm := hide hsm
  have hbn : n ≤ 9223372036854775807 := by omega
  have hbp : pn ≤ 9223372036854775807 := by omega
  obtain ⟨pl, hpq⟩ : ∃ pl : Array Value, pl = #[.int .i64 a, .slice A0 tn c0, .int .i64 b, .int .i64 c, .slice LA n lc, .slice PA pn pc] := ⟨_, rfl⟩
  have hb0 := below_new w (.cells #[.int .i64 a, .slice A0 tn c0, .int .i64 b, .int .i64 c, .slice LA n lc, .slice PA pn pc] 54)
  have hX := heap_alloc_new w (.cells #[.int .i64 a, .slice A0 tn c0, .int .i64 b, .int .i64 c, .slice LA n lc, .slice PA pn pc] 54)
  have Hb0 := hide hb0
  have HX := hide hX
  clear hr hp hn hpn hF hW hsm hts htn hopen hl1 hl2 hb0 hX
  by_cases hck : checkS a ts b c = (0, 0)
  · have HN := hide (fun w' hb => HNew.out w' hb hck)
    have Hck := hide hck
    clear HNB HNew hck
    go_enter Tryz.func18, Tryz.ntmps18
    go_wp2_with fail
    refine (HN.out _ Hb0.out).mono ?_
    rintro e w1 ⟨m, rfl, hIs, hb1, hown⟩
    have Hb1 := hide (below2 Hb0.out hb1)
    clear HN
    go_wp2_with fail
    have hz := start_mem w w1 m (newS a ts b c) _ hIs Hb1.out hb1 HX.out hown
    obtain ⟨X, hXe⟩ : ∃ x, x = w.heap.size := ⟨_, rfl⟩
    obtain ⟨z, hze⟩ : ∃ z, z = (((w1.alloc (Obj.cells #[] 38)).alloc (Obj.cells #[Value.int .i64 0, Value.int .i64 0, Value.int .i64 0, Value.int .i64 0, Value.int .i64 0, Value.int .i64 0, Value.int .i64 0, Value.int .i64 0] 84)).alloc (Obj.cells #[Value.int .i64 (-1), Value.int .i64 (-1), Value.int .i64 (-1), Value.int .i64 (-1), Value.int .i64 (-1), Value.int .i64 (-1), Value.int .i64 (-1), Value.int .i64 (-1)] 84)) := ⟨_, rfl⟩
    obtain ⟨A, hA⟩ : ∃ x, x = w1.heap.size + 1 := ⟨_, rfl⟩
    obtain ⟨U, hU⟩ : ∃ x, x = w1.heap.size + 1 + 1 := ⟨_, rfl⟩
    obtain ⟨G0, hG0⟩ : ∃ x, x = w1.heap.size := ⟨_, rfl⟩
    obtain ⟨S0, hS0⟩ : ∃ x, x = newS a ts b c := ⟨_, rfl⟩
    obtain ⟨B, hB⟩ : ∃ x, x = m.bb := ⟨_, rfl⟩
    rw [← hpq, ← hze, ← hU, ← hA, ← hG0, ← hS0, ← hXe] at hz
    rw [← hze, ← hU, ← hA, ← hG0, ← hB, ← hXe]
    have Hz := hide hz
    have HB := hide hB
    have HS := hide hS0
    have Hpl := hide hpq
    clear hz hze hU hA hG0 hS0 hB hIs hb1 hown HX hpq hXe Hb1
    go_loopw [6, 9] (fun vl vi wr => ∃ (i : Nat) (m : Mem) (l : List Em) (w' n' : Nat) (s : Hs), i ≤ pn ∧ vi = .int .i64 i ∧ Hid (Runs calls S0 i w' n' s) ∧ Hid (evsOf l = s.l) ∧ Hid (HMem w wr (3 * i) X A U pl m s.S vl l s.at_ s.un) ∧ Hid (B = m.bb)) (fun _ vi _ => pn - (intOf vi).toNat)
    case atStart => exact ⟨0, m, [], 0, 0, _, Nat.zero_le _, rfl, hide .start, hide rfl, Hz, HB⟩
    case round =>
      obtain ⟨i, m, l, w', n', s, hi, rfl, HR, Hl, HM, HB⟩ := hrel
      have hx := HM.out.x
      rw [Hpl.out] at hx
      obtain ⟨y0, y1, y2, y3, y4, y5, yf, yl⟩ := row6 hx
      clear hx
      by_cases hlt : i < pn
      · obtain ⟨pk, hpk⟩ : ∃ x, picks[i]? = some x := ⟨picks[i]'(by have := Hpn.out; omega), List.getElem?_eq_getElem _⟩
        obtain ⟨pb, po, _, hv, -, -, hpb, hpc⟩ := (Hp.out.below HM.out.play.below).open_ (by omega)
        cases hv
        have p0 := hpc _ _ (flatK_at picks i pk 0 _ hpk rfl)
        have p1 := hpc _ _ (flatK_at picks i pk 1 _ hpk rfl)
        have hin : (i : Int) < (pn : Int) := by omega
        rw [Nat.add_zero] at p0
        rw [← Nat.add_assoc] at p1
        obtain ⟨tk, mu⟩ := pk
        simp only at p0 p1
        clear hpc hpk
        go_wp2_with fail
        obtain ⟨W, hW8, hW1, -⟩ := mod8 tk
        obtain ⟨M, hM1, hM3, hM2⟩ := mod3 mu
        rw [hW1, hM2]
        have HR := hide (Runs.tick HR.out hW8)
        clear p0 p1 hW1 hM2 y0 y1 y2 y3 y4 y5 yf yl hM1
        go_loopw [6, 12] (fun vl vj wr => ∃ (j : Nat) (m : Mem) (l : List Em) (s : Hs), j ≤ M ∧ vj = .int .i64 j ∧ Hid (Runs calls S0 (i + 1) W j s) ∧ Hid (evsOf l = s.l) ∧ Hid (HMem w wr (3 * i + j) X A U pl m s.S vl l s.at_ s.un) ∧ Hid (B = m.bb)) (fun _ vj _ => M - (intOf vj).toNat)
        case atStart => exact ⟨0, m, l, s, Nat.zero_le _, rfl, HR, Hl, HM, HB⟩
        case round =>
          clear HM Hl HB HR
          obtain ⟨j, m, l, s, hj, rfl, HR, Hl, HM, HB⟩ := hrel
          have hx := HM.out.x
          rw [Hpl.out] at hx
          obtain ⟨y0, y1, y2, y3, y4, y5, yf, yl⟩ := row6 hx
          clear hx
          by_cases hjm : j < M
          · have hjm' : (j : Int) < (M : Int) := by omega
            obtain ⟨u, hu⟩ : ∃ x, s.un[W]? = some x := ⟨s.un[W]'(by rw [HR.out.inv.unl]; exact hW8), List.getElem?_eq_getElem _⟩
            have k0 := (cell_of HM.out.u W).trans (intC_at hu)
            have Hu := hide hu
            clear hu
            have hul := block_lt HM.out.u
            have huf := frozen_of HM.out.u W
            have hW8' : (W : Int) < 8 := by omega
            by_cases hu0 : u < 0
            · by_cases hj0 : 0 < j
              · have hj0' : (0 : Int) < (j : Int) := by omega
                go_wp2
                go_roundw
                case rel => exact ⟨i + 1, m, l, W, _, s, by omega, by go_num, HR, Hl, hide (by first | exact HM.out.mono (by omega) (by omega) | exact (HM.out.drewN _).mono (by omega) (by omega)), HB⟩
                case measure => simp [intOf]; omega
              · obtain rfl : j = 0 := by omega
                clear hj0
                go_wp2_with fail
                clear k0 y0 y1 y2 y3 y4 y5 yf yl hul huf
                go_loopw [] (fun wr => ∃ s', Hid (Runs calls S0 (i + 1) W 0 s') ∧ Hid (evsOf l = s'.l) ∧ Hid (s'.un[W]? = some u) ∧ Hid (HMem w wr (3 * i + 0) X A U pl m s'.S u6 l s'.at_ s'.un)) (fun wr => match wr.cell? ⟨A, W, none⟩ with | some v => n - (intOf v).toNat | none => 0)
                case atStart => exact ⟨s, HR, Hl, Hu, HM⟩
                case round =>
                  clear HR Hl Hu HM
                  obtain ⟨s, HR, Hl, Hu, HM⟩ := hrel
                  have hx := HM.out.x
                  rw [Hpl.out] at hx
                  obtain ⟨y0, y1, y2, y3, y4, y5, yf, yl⟩ := row6 hx
                  clear hx
                  obtain ⟨at', ha⟩ : ∃ x, s.at_[W]? = some x := ⟨s.at_[W]'(by rw [HR.out.inv.atl]; exact hW8), List.getElem?_eq_getElem _⟩
                  have k0 := (cell_of HM.out.a W).trans (natC_at ha)
                  have hul := block_lt HM.out.a
                  have huf := frozen_of HM.out.a W
                  have k1 := (cell_of HM.out.u W).trans (intC_at Hu.out)
                  have hul2 := block_lt HM.out.u
                  have huf2 := frozen_of HM.out.u W
                  have Ha := hide ha
                  clear ha
                  by_cases han : at' < n
                  · have han' : (at' : Int) < (n : Int) := by omega
                    obtain ⟨cl, hc⟩ : ∃ x, calls[at']? = some x := ⟨calls[at']'(by have := Hn.out; omega), List.getElem?_eq_getElem _⟩
                    obtain ⟨cb, co, hLA, hcb, hcc⟩ := Hopen.out (by omega)
                    subst hLA
                    have hca := (hcc at' cl hc).below HM.out.play.below
                    have q0 := hca.c0
                    have hcbl := hca.lt
                    obtain ⟨W2, hV8, hV1, hV2⟩ := mod8 cl.task
                    by_cases hWW : W2 = W
                    · have hww : (((wrap64 (cl.task.tmod 8 + 8)).tmod 8) != (W : Int)) = false := by rw [hV1, hWW]; simp
                      -- <A
                      subst hWW
                      have HR2 := hide (Runs.begin HR.out Hu.out hu0 Ha.out hc hV2)
                      have HAc := hide (hcc at' cl hc)
                      clear hV1 hV2 hcc hca hc
                      go_wp2_with fail
                      go_quiet (fail)
                      go_wp2
                      go_quiet (fail)
                      obtain ⟨A9, c9, hv9, hln, -⟩ := (Rd.of_own HM.out.row).shape
                      subst hv9
                      obtain ⟨ln, hle⟩ : ∃ x, x = l.length := ⟨_, rfl⟩
                      rw [← hle] at HM hln
                      simp only [← hle]
                      have Hle := hide hle
                      clear hle
                      go_wp2_with fail
                      generalize hz1 : (World.setCell _ ⟨U, W2, none⟩ _) = z1
                      have HM3 : Hid (HMem w z1 (3 * i + 0) X A U pl m s.S (.slice A9 ln c9) l s.at_ (s.un.set W2 (ln : Int))) := hide (by rw [← hz1]; exact (HM.out.drewN _).setUn W2 (ln : Int))
                      clear hz1 y0 y1 y2 y3 y4 y5 yf yl k0 k1 hul huf hul2 huf2 q0
                      have HK := hide (fun wq (hb : Below z1.heap.size z1 wq) => hist_held (wq := wq) HM3.out Hpl.out Ha.out (HAc.out) hb)
                      obtain ⟨y4, k0, q1, q2, q3, q4, q5, q6, q7, q8, q9, q10, q11⟩ := HK.out z1 (Below.refl _ _)
                      obtain ⟨sp, sc, hsv, -⟩ := HAc.out.set.shape
                      obtain ⟨wp, wc, hwv, -⟩ := HAc.out.words.shape
                      rw [hsv] at q10 HK
                      rw [hwv] at q11 HK
                      have Hsv := hide hsv
                      have Hwv := hide hwv
                      have hzA := block_lt HM3.out.a
                      have hzX := block_lt HM3.out.x
                      have hzb := Nat.lt_of_lt_of_le HAc.out.lt HM3.out.play.below.size
                      obtain ⟨i0, hi0, hz0, hz1, hz2⟩ := info_parts info_ev
                      have hll : ln ≤ 60 := by have := HR.out.inv.len; rw [← Hl.out, evsOf, List.length_map] at this; have := Hle.out; have := Hn.out; omega
                      have hwle := HM3.out.play.below.size
                      have Hrow := hide (show z1.ownsRow w.heap.size 38 27 (.slice A9 ln c9) ln (flatE l) by have h := HM3.out.row; rw [← Hle.out] at h; exact h)
                      clear hsv hwv
                      have Hrd := hide (show Rd w (.slice sp cl.c.set.length sc) 1 cl.c.set.length (cl.c.set.map (Value.int .i64)) ∧ Rd w (.slice wp cl.c.words.length wc) 1 cl.c.words.length (u64V cl.c.words) by rw [← Hsv.out, ← Hwv.out]; exact ⟨HAc.out.set, HAc.out.words⟩)
                      refine wp_region_ext_tail 13 (by kernel_rfl) (by kernel_rfl) (fun _ _ d _ _ h => by cases d <;> exact h) ?_
                      simp only [List.take_succ_cons, List.take_zero, List.drop_succ_cons, List.drop_zero]
                      repeat (first
                        | go_big_quiet_skip
                        | (go_big_quiet_want
                           first
                             | (apply quiet_val
                                · intro wq hq
                                  have hcq := hq.cells
                                  have hzq := hq.lift
                                  go_simp
                                  try go_bits
                                  first | done | with_reducible rfl
                                (try simp only [Act.put, List.setIfInBounds_toArray, List.set_cons_zero, List.set_cons_succ])
                                go_big_quiet_on)))
                      refine wpQuiet_nil ?_
                      intro wz hz
                      have hzz := hz.below
                      have HM4 := hide (HM3.out.on hzz)
                      have Hrow4 := hide (show wz.ownsRow w.heap.size 38 27 (.slice A9 ln c9) ln (flatE l) by have h := HM4.out.row; rw [← Hle.out] at h; exact h)
                      have hwz := Nat.le_trans hwle hzz.size
                      have Hzz := hide hzz
                      clear y4 k0 q1 q2 q3 q4 q5 q6 q7 q8 q9 q10 q11 hzz hz
                      go_wp2_with (at_builtin; refine wpList_append_lies _ rfl (.tmp 101) (.tmp 114) 24 rfl w.heap.size 38 i0 _ 27 280 und_evs hi0 hz0 hz1 hz2 rfl (by decide) (.slice A9 ln c9) ln (flatE l) rfl (Hrow4.out.alloc _) ⟨wz.heap.size, 0, none⟩ 1 1 (cellsE (emB W2 ⟨cl.c.kind, cl.c.topic, cl.c.sub, cl.c.cap, cl.c.rank, cl.c.source, cl.c.mode, cl.c.flags, cl.c.free, cl.c.set, cl.c.words⟩ ((i : Int) + 1) sp sc wp wc)) rfl rfl (newsE _ _ _) (one_cellsE _) (by omega) (by unfold maxLen; omega) (by omega) (by simp; omega) _ rfl ?_; intro g cap w2 hown hgrow hat hltg; have HM5 := hide ((HM4.out.on (below_new wz _)).append' (e := emB W2 cl.c ((i : Int) + 1) sp sc wp wc) Hle.out hgrow hown rfl hat (by simp) Hrd.out ⟨rfl, rfl, rfl, rfl, rfl, rfl⟩); have k0 := (cell_of HM5.out.a W2).trans (natC_at Ha.out); have hul := block_lt HM5.out.a; have huf := frozen_of HM5.out.a W2; clear hown hgrow hat hltg hi0 hz0 hz1 hz2)
                      go_roundw
                      case rel => exact ⟨0 + 1, m, _, _, by omega, by go_num, HR2, hide (by show evsOf (l ++ [emB W2 cl.c ((i : Int) + 1) sp sc wp wc]) = _; rw [evsOf, List.map_append, ← evsOf, Hl.out]; rfl), hide (by
                        have h9 : ln = s.l.length := by rw [← Hl.out, evsOf, List.length_map]; exact Hle.out
                        have h := HMem.mono (K := 3 * i + 0) (K' := 3 * i + (0 + 1)) (HM5.out.setAt' W2 (at' + 1) ((at' : Int) + 1) (by omega)) (by omega) (by omega)
                        rw [show ((ln : Nat) : Int) = ((s.l.length : Nat) : Int) by rw [h9]] at h
                        exact h), HB⟩
                      case measure => simp [intOf]; omega
                      -- A>
                    · have hww : (((wrap64 (cl.task.tmod 8 + 8)).tmod 8) != (W : Int)) = true := by rw [hV1]; simp; omega
                      have HR2 := hide (Runs.skip HR.out Ha.out hc (by rw [hV2]; omega))
                      clear hV1 hV2 hcc hca hc
                      go_wp2_with fail
                      go_quiet (fail)
                      go_wp2
                      go_roundw
                      case rel => exact ⟨_, HR2, Hl, Hu, hide ((HM.out.drewN _).setAt' W (at' + 1) _ (by omega))⟩
                      case measure =>
                        rw [k0, (cell_of ((HM.out.drewN nq).setAt' W (at' + 1) _ (by omega)).a W).trans (natC_at (at_set Ha.out))]
                        simp [intOf]
                        omega
                  · have han' : ¬ (at' : Int) < (n : Int) := by omega
                    have han2 : (n : Int) ≤ (at' : Int) := by omega
                    go_wp2
                    go_quiet (fail)
                    go_wp2
                    go_quiet (fail)
                    go_wp2
                    go_roundw
                    case rel => exact ⟨i + 1, m, l, W, _, s, by omega, by go_num, HR, Hl, hide (by first | exact HM.out.mono (by omega) (by omega) | exact (HM.out.drewN _).mono (by omega) (by omega)), HB⟩
                    case measure => simp [intOf]; omega
            · obtain ⟨k, rfl, hk⟩ : ∃ k : Nat, u = k ∧ k < s.l.length := (HR.out.inv.un_lt W u Hu.out).resolve_left hu0
              rw [← Hl.out, evsOf, List.length_map] at hk
              obtain ⟨g, c9, rfl, hnc, hcm, hgw, hgl⟩ := own_open HM.out.row (by omega)
              obtain ⟨ln, hle⟩ : ∃ x, x = l.length := ⟨_, rfl⟩
              rw [← hle] at HM hk hnc
              simp only [← hle]
              obtain ⟨e, he⟩ : ∃ x, l[k]? = some x := ⟨l[k]'(by omega), List.getElem?_eq_getElem _⟩
              have Hle := hide hle
              have He := hide he
              have q25 := HM.out.cell hle he (j := 25) rfl
              have qf := HM.out.frozen hle (j := k * 27 + 25)
              have hkl : (k : Int) < (ln : Int) := by omega
              have hkc : (k : Int) < (c9 : Int) := by omega
              clear hle he
              by_cases e0 : e.e.at' = 0
              · have b0 : (e.e.at' == 0) = true := by simpa using e0
                -- <B
                have hem := List.mem_of_getElem? He.out
                have hEv := HM.out.evs e hem
                obtain ⟨e1, he1⟩ : ∃ x : Em, x = { e with e := { e.e with at' := ((i + 1 : Nat) : Int) } } := ⟨_, rfl⟩
                have HM2 := hide (fun (x : Int) (hx : x = ((i + 1 : Nat) : Int)) => HM.out.put Hle.out He.out [(25, .int .i64 x)] (by simp) (e' := e1) (by subst hx; subst he1; rfl) (by subst he1; exact ⟨hEv.set, hEv.words, hEv.gens, hEv.ans, hEv.far⟩))
                have hc1 : e1.e.c = e.e.c ∧ e1.sp = e.sp ∧ e1.sc = e.sc ∧ e1.wp = e.wp ∧ e1.wc = e.wc := by subst he1; exact ⟨rfl, rfl, rfl, rfl, rfl⟩
                have Hc1 := hide hc1
                have He1 := hide he1
                have Hsz := hide (show e.e.c.set.length ≤ 100 ∧ e.e.c.words.length ≤ 100 by
                  obtain ⟨x, hx, hxc⟩ := HR.out.inv.call (e := e.e) (by rw [← Hl.out]; exact List.mem_map_of_mem hem)
                  rw [hxc]
                  exact Hsm.out x hx)
                have Hll := hide (show ln = (l.set k e1).length by rw [List.length_set]; exact Hle.out)
                have He2 := hide (show (l.set k e1)[k]? = some e1 from at_set He.out)
                clear hem hEv hc1 he1
                go_upto_region 26 with fail
                generalize hz1 : (World.setCell wr ⟨g, k * 27 + 25, none⟩ _) = z1
                have HM3 : Hid (HMem w z1 (3 * i + j) X A U pl m s.S (.slice (some ⟨g, 0, none⟩) ln c9) (l.set k e1) s.at_ s.un) := hide (by rw [← hz1]; exact HM2.out _ (by omega))
                clear hz1 y0 y1 y2 y3 y4 y5 yf yl k0 q25 qf hul huf HM2
                obtain ⟨g1, g2, g3, g4, g5, g6, g7, g8, g9, g10, g11⟩ := HM3.out.call_cells Hll.out He2.out
                rw [Hc1.out.1] at g1 g2 g3 g4 g5 g6 g7 g8 g9 g10 g11
                rw [Hc1.out.2.1, Hc1.out.2.2.1] at g10
                rw [Hc1.out.2.2.2.1, Hc1.out.2.2.2.2] at g11
                have hgl1 := (HM3.out.row.lt g rfl).2
                have hEv := HM3.out.evs e1 (List.mem_of_getElem? He2.out)
                have hrs := hEv.set.below HM3.out.play.below
                have hrw := hEv.words.below HM3.out.play.below
                have hwo : 0 < e1.e.c.words.length → ∀ q, (Value.slice e1.wp e1.e.c.words.length e1.wc).ownBlock = some q → ¬ m.own q := fun hn q hq ho => by
                  obtain ⟨b', o', c', hv, -, -, hb', -⟩ := hEv.words.open_ hn
                  rw [hv] at hq
                  cases hq
                  have h9 : w.heap.size ≤ b' := HM3.out.play.own _ ho
                  omega
                rw [Hc1.out.1, Hc1.out.2.1, Hc1.out.2.2.1] at hrs
                rw [Hc1.out.1, Hc1.out.2.2.2.1, Hc1.out.2.2.2.2] at hrw hwo
                have HD := hide (HM3.out.play.act HF.out HW.out (by omega) (W : Int) e.e.c _ _ hrs hrw Hsz.out.1 Hsz.out.2 hwo)
                obtain ⟨R, hRR⟩ : ∃ R, R = doS s.S W e.e.c := ⟨_, rfl⟩
                rw [← hRR, ← HB.out] at HD
                have HRR := hide hRR
                clear hEv hrs hrw hwo hRR
                go_wp2_with fail
                refine HD.out.mono ?_
                rintro e' w2 ⟨m2, gv, wv, rfl, hP2, hT2, hgv, hwv, hfar⟩
                obtain ⟨Ag, kg, rfl, -⟩ := (Rd.of_own hgv).shape
                obtain ⟨Aw, kw, rfl, -⟩ := (Rd.of_own hwv).shape
                have HM4 := hide (HM3.out.turn hP2 hT2)
                have HB4 := hide (show B = m2.bb from HB.out.trans hT2.bb.symm)
                have hzs := HM3.out.play.below.size
                clear g1 g2 g3 g4 g5 g6 g7 g8 g9 g10 g11
                have hzA := block_lt HM3.out.a
                have hzX := block_lt HM3.out.x
                have hzU := block_lt HM3.out.u
                have hEv4 := HM4.out.evs e1 (List.mem_of_getElem? He2.out)
                obtain ⟨e2, he2⟩ : ∃ x : Em, x = { e1 with e := { e1.e with a := R.2 }, gp := Ag, gc := kg, up := Aw, uc := kw } := ⟨_, rfl⟩
                have hE2 : EvOwn w w2 m2 X A U (.slice (some ⟨g, 0, none⟩) ln c9) e2 := by
                  subst he2
                  refine ⟨hEv4.set, hEv4.words, own_mono hgv hzs, own_mono hwv hzs, fun q hq => ?_⟩
                  have hq2 : z1.heap.size ≤ q := by
                    rcases hq with hq | hq
                    · exact (hgv.lt q hq).1
                    · exact (hwv.lt q hq).1
                  have hq3 := hfar q hq
                  exact ⟨⟨by omega, by omega, by omega, hq3.1, hq3.2⟩, fun hgq => by
                    obtain rfl : g = q := by simpa [Value.ownBlock] using hgq
                    omega⟩
                have HM5 := hide (HM4.out.put Hll.out He2.out [(12, .int .i64 R.2.code), (13, .int .i64 R.2.sub), (14, .int .u64 R.2.gen), (15, .int .i64 R.2.count), (16, .int .u64 R.2.lost), (17, .int .i64 R.2.st.mode), (18, .int .i64 R.2.st.source), (19, .bool R.2.st.hold), (20, .int .i64 R.2.st.flags), (21, .int .u64 R.2.st.epoch), (22, .slice Ag R.2.gens.length kg), (23, .slice Aw R.2.words.length kw)] (by simp) (e' := e2) (by subst he2; rfl) hE2)
                obtain ⟨g1, g2, g3, g4, g5, g6, g7, g8, g9, g10, g11, g12⟩ := HM4.out.ans_cells Hll.out He2.out
                have hqf := fun j => HM4.out.frozen Hll.out (j := j)
                have hgl2 := (HM4.out.row.lt g rfl).2
                have Hee := hide (show e2.e = evD e.e (i + 1) R.2 by rw [he2, He1.out]; rfl)
                clear hE2 hEv4 he2 hgv hwv hP2 hT2 hfar HM3 HD
                have HR5 := hide (Runs.effect HR.out Hu.out (by rw [← Hl.out]; exact evs_at He.out) e0)
                rw [← HRR.out] at HR5
                go_wp2
                go_roundw
                case rel => exact ⟨j + 1, m2, _, _, by omega, by go_num, HR5, hide (by rw [← Hl.out]; show evsOf ((l.set k e1).set k e2) = _; rw [List.set_set, evsOf, List.map_set, Hee.out]), hide (by
                  have h := HM5.out.mono (K' := 3 * i + (j + 1)) (by omega) (by omega)
                  simp only [setsW] at h
                  simp only [Nat.add_assoc, Nat.reduceAdd] at h ⊢
                  exact h), HB4⟩
                case measure => simp [intOf]; omega
                -- B>
              · have b0 : (e.e.at' == 0) = false := by simpa using e0
                -- <C
                have qf26 := HM.out.frozen Hle.out (j := k * 27 + 26)
                have q26 := HM.out.cell Hle.out He.out (j := 26) rfl
                have hUl := block_lt HM.out.u
                have hUf := frozen_of HM.out.u W
                have hne := HM.out.vne g rfl
                have HM2 := hide (fun (x : Int) (hx : x = ((i + 1 : Nat) : Int)) => HM.out.put Hle.out He.out [(26, .int .i64 x)] (by simp) (e' := { e with e := evT2 e.e (i + 1) }) (by subst hx; rfl) (have h := HM.out.evs e (List.mem_of_getElem? He.out); ⟨h.set, h.words, h.gens, h.ans, h.far⟩))
                go_wp2
                go_roundw
                case rel => exact ⟨j + 1, m, _, _, by omega, by go_num, hide (Runs.done HR.out Hu.out (by rw [← Hl.out]; exact evs_at He.out) e0), hide (by rw [← Hl.out]; simp [evsOf, List.map_set]), hide (((HM2.out _ (by omega)).setUn W (-1)).mono (by omega) (by omega)), HB⟩
                case measure => simp [intOf]; omega
                -- C>
          · have hjm2 : j = M := by omega
            subst hjm2
            clear hjm
            go_wp2
            go_roundw
            case rel => exact ⟨i + 1, m, l, W, _, s, by omega, by go_num, HR, Hl, hide (by first | exact HM.out.mono (by omega) (by omega) | exact (HM.out.drewN _).mono (by omega) (by omega)), HB⟩
            case measure => simp [intOf]; omega
      · have hin : i = pn := by omega
        subst hin
        go_wp2
        go_ret2
        exact ⟨HM.out.play.below, .inr ⟨Hck.out, _, l, i, w', n', s, rfl, by rw [← HS.out]; exact HR.out, Hl.out, HM.out.at⟩⟩
  · have HN := hide (fun w' hb => HNB.out w' hb hck)
    obtain ⟨x, hx⟩ : ∃ x, x = (checkS a ts b c).2 := ⟨_, rfl⟩
    have hx0 : x ≠ 0 := by rw [hx]; exact checkS_code hck
    rw [← hx] at HN
    have Hck := hide hck
    clear HNB HNew hck hx
    go_enter Tryz.func18, Tryz.ntmps18
    go_wp2_with fail
    refine (HN.out _ Hb0.out).mono ?_
    rintro e w1 ⟨rfl, hb1⟩
    have Hb1 := hide (below2 Hb0.out hb1)
    clear hb1 HN
    go_wp2
    go_ret2
    exact ⟨Hb1.out, .inl ⟨Hck.out, rfl⟩⟩

end Go.Proofs.YtkkflnmfghegnaaGreatDoor
