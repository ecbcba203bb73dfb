/-
  The walk of codec.Print: it computes 'printS'. Conditions: a slice of parts (up to 300).
-/
import Derived.Test.YtkcpiokgcbkofaaGreatDoorSmall
import Derived.Test.YtkcpiokgcbkofaaGreatDoorPlacesFacts
import Derived.Test.YtkcpiokgcbkofaaGreatDoorShelf
namespace Go.Proofs.YtkcpiokgcbkofaaGreatDoor
open Go.RowKit

/-- The word of a part. -/
def partText (p : Int × Int) : List UInt8 := (nameS p.1).data.toList ++ (if loS p.1 < hiS p.1 then Lib.decDigits p.2.toNat else [])
def partBytes (p : Int × Int) : ByteArray := ⟨(partText p).toArray⟩
/-- The text of parts. -/
def printS (ps : List (Int × Int)) : List UInt8 := Lib.join (ps.map partText) [32]

theorem digits_len (l : Nat) (h : l < 100) : (Lib.decDigits l).length ≤ 2 := by
  have : ∀ l : Nat, l < 100 → (Lib.decDigits l).length ≤ 2 := by decide +kernel
  exact this l h

theorem name_size (k : Int) : (nameS k).size ≤ 5 := by
  unfold nameS
  repeat' split
  all_goals decide

theorem join_len (ps : List (Int × Int)) (h : ∀ p ∈ ps, 0 ≤ p.2 ∧ p.2 ≤ 64) : (Lib.join (ps.map partText) [32]).length ≤ 8 * ps.length := by
  have h1 : ∀ p ∈ ps, (partText p).length ≤ 7 := by
    intro p hp
    have a1 := name_size p.1
    have a2 := digits_len p.2.toNat (by have := h p hp; omega)
    have a3 : (nameS p.1).data.toList.length ≤ 5 := by rw [Array.length_toList]; exact a1
    unfold partText
    rw [List.length_append]
    split
    · omega
    · simp only [List.length_nil]; omega
  clear h
  unfold Lib.join
  induction ps with
  | nil => simp
  | cons p ps ih =>
    have hp := h1 p (by simp)
    have ih' := ih (fun q hq => h1 q (by simp [hq]))
    cases ps with
    | nil => simp; omega
    | cons q qs =>
      simp only [List.map_cons, List.intercalate_cons_cons, List.length_append, List.length_cons] at *
      simp at *
      omega

theorem add_text (k : Int) (l : Nat) (hl : l < 100) (h : loS k < hiS k) (w : World) :
    (Op.stringOp .add (nameS k) ⟨(Lib.decDigits l).toArray⟩).run Tryz.prog w = .ok (.string (partBytes (k, l))) w := by
  have h1 := name_size k
  have h2 := digits_len l hl
  have h3 : (⟨(Lib.decDigits l).toArray⟩ : ByteArray).size = (Lib.decDigits l).length := by simp [ByteArray.size]
  rw [run_string_add_sum w _ _ (by rw [h3]; omega)]
  have : nameS k ++ ⟨(Lib.decDigits l).toArray⟩ = partBytes (k, (l : Int)) := by
    simp only [partBytes, partText, h, if_true, Int.toNat_natCast]
    rw [← ByteArray.mk_append_mk]
  rw [this]

theorem Tryz.infoString : (Tryz.prog.info? 9).map (fun i => (i.zero, i.size, i.bytes)) = some (some (.string ByteArray.empty), 1, 16) := by kernel_rfl

set_option maxRecDepth 100000 in
set_option maxHeartbeats 1600000 in
theorem print_ok (ps : List (Int × Int)) (pl : List (Nat × Nat)) (m : Nat) (v : Value) (w : World) (hr : Rd w v 2 ps.length (flatP ps)) (hlen : ps.length ≤ 300) (hp : placesS ps = .ok (pl, m)) :
    Calls Tryz.prog 6 #[v] w fun e w' => e = .returned (.tuple #[.string ⟨(printS ps).toArray⟩, .int .i64 0]) ∧ Below w.heap.size w w' := by
  obtain ⟨i0, hi, hz0, hz1, hz2⟩ := info_parts Tryz.infoString
  have HC := hide (check_any ps v w hr hlen)
  have hcs : checkS ps = 0 := by rw [checkS, hp]
  rw [hcs] at HC
  have F := hide (places_facts hp)
  clear hp hcs
  obtain ⟨n, hn⟩ : ∃ n, ps.length = n := ⟨_, rfl⟩
  rw [hn] at hr hlen
  obtain ⟨A, c, rfl, hnc, hcm, hopen⟩ := hr.shape
  have Hn := hide hn
  have Hopen := hide hopen
  clear hn hopen hr
  go_enter Tryz.func6, Tryz.ntmps6
  go_wp2_with (first
    | (go_at_call 14; refine HC.out.mono ?_; rintro e w1 ⟨rfl, hb1⟩)
    | (at_make; refine wpList_make_full _ rfl (.tmp 15) (.tmp 15) 53 rfl w.heap.size 9 i0 _ 1 Tryz.underlying53 hi hz0 hz1 .i64 .i64 n n n rfl rfl rfl rfl (by rw [hz2]; omega) (by unfold maxLen; omega) hb1.size ?_; intro w2 hown2 hgr2))
  have hbel2 : Below w1.heap.size w1 w2 := (Below.refl _ _).grown hgr2 (Nat.le_refl _) (by simp)
  clear hgr2
  have hw2 : (madeCells (Value.string ByteArray.empty).cells (n * 1)).toList = (List.replicate n ByteArray.empty).map Value.string := by
    rw [Nat.mul_one]
    exact (toList_madeCells_one _ _).trans (by simp)
  rw [hw2] at hown2
  clear hw2
  go_loopw [19] (fun i wr => ∃ (k : Nat) (xs : List ByteArray), k ≤ n ∧ i = .int .i64 k ∧ xs.length = n ∧ Hid (∀ j (h : j < k) (h' : j < ps.length), xs[j]? = some (partBytes ps[j])) ∧
      wr.ownsRow w.heap.size 9 1 (.slice (some ⟨w1.heap.size, 0, none⟩) n n) n (xs.map Value.string) ∧ Below w1.heap.size w1 wr) (fun i _ => n - (intOf i).toNat)
  case atStart => exact ⟨0, List.replicate n ByteArray.empty, Nat.zero_le _, rfl, by simp, hide (fun j h => by omega), hown2, hbel2⟩
  case round =>
    obtain ⟨k, xs, hk, rfl, hxl, Hxs, hown, hbel⟩ := hrel
    clear hown2 hbel2
    by_cases hlt : k < n
    · have hkl : k < ps.length := by have := Hn.out; omega
      have hkp : k < pl.length := by have := F.out.2.2.1; omega
      have hR := F.out.2.2.2.2.2 k hkl hkp
      obtain ⟨kd, hkd⟩ : ∃ q, q = ps[k].1 := ⟨_, rfl⟩
      obtain ⟨ln, hln⟩ : ∃ q : Nat, (q : Int) = ps[k].2 := ⟨ps[k].2.toNat, by have := hR.len; have := lo_bd ps[k].1; omega⟩
      have hpt : partBytes ps[k] = partBytes (kd, ln) := by rw [hkd, hln]
      obtain ⟨b, o, rfl, hb, hc⟩ := Hopen.out (by omega)
      obtain ⟨hx0, hx1⟩ := flatP_at ps k hkl
      rw [← hkd] at hx0
      rw [← hln] at hx1
      have hbw := hb1.trans (hbel.mono hb1.size)
      have hl0 := (hbw.cell (p := ⟨b, o + k * 2, none⟩) hb).trans (hc _ _ hx0)
      have hl1 := (hbw.cell (p := ⟨b, o + k * 2 + 1, none⟩) hb).trans (hc _ _ hx1)
      have hbrg : w1.heap.size < wr.heap.size := (hown.lt _ rfl).2
      have hkb : 0 ≤ kd ∧ kd < 4 := by have := hR.kind; omega
      have hlb : 1 ≤ (ln : Int) ∧ (ln : Int) ≤ 64 := by have := hR.len; have := lo_bd ps[k].1; have := hi_bd ps[k].1; omega
      have Hpt := hide hpt
      clear hx0 hx1 hkd hln hkp hR hc Hopen hpt
      have hidx := entry_at kd hkb.1 hkb.2
      go_wp2_with fail
      go_region_held3 (fun w' => w'.cell? ⟨wr.heap.size, 0, none⟩ = some (.int .i64 kd) ∧ w'.cell? ⟨wr.heap.size, 1, none⟩ = some (.int .i64 ln) ∧ Below (wr.heap.size + 1) (wr.alloc (.cells #[.int .i64 kd, .int .i64 ln] 36)) w')
        (first | assumption | exact held2_start _ _ _ _ | exact held2 (by assumption) (by simp) hb2 | exact held2 (by assumption) (by simp) (below_new _ _) | exact held2 (held2 (held2_start _ _ _ _) (by simp) hb2) (by simp) (below_new _ _) | exact held2_set (held2_set (held2_set (by assumption) (by simp)) (by simp)) (by simp))
        (first | (go_at_call 15; refine (entries_any _).mono ?_; rintro e w2 ⟨rfl, hb2⟩; obtain ⟨hc2, hf2, hz2⟩ := bcell hb2))
      all_goals first
        | (have hb2' : Below (wr.alloc (.cells #[.int .i64 kd, .int .i64 ln] 36)).heap.size (wr.alloc (.cells #[.int .i64 kd, .int .i64 ln] 36)) w2 := below_of_drew hb2
           have hS : w2.cell? ⟨wr.heap.size, 0, none⟩ = some (.int .i64 kd) ∧ w2.cell? ⟨wr.heap.size, 1, none⟩ = some (.int .i64 ln) ∧ Below (wr.heap.size + 1) (wr.alloc (.cells #[.int .i64 kd, .int .i64 ln] 36)) w2 := held2 (held2_start _ _ _ _) (by simp) hb2
           have hbx : Below wr.heap.size wr (w2.alloc (.cells #[.string (nameS kd), .int .i64 (loS kd), .int .i64 (hiS kd)] 55)) := below2 (below2 (below_new wr _) hb2') (below_new _ _)
           have hx0 : (w2.alloc (.cells #[.string (nameS kd), .int .i64 (loS kd), .int .i64 (hiS kd)] 55)).cell? ⟨w2.heap.size, 0, none⟩ = some (.string (nameS kd)) := by simp [go_sem]
           have hx1 : (w2.alloc (.cells #[.string (nameS kd), .int .i64 (loS kd), .int .i64 (hiS kd)] 55)).cell? ⟨w2.heap.size, 1, none⟩ = some (.int .i64 (loS kd)) := by simp [go_sem]
           have hx2 : (w2.alloc (.cells #[.string (nameS kd), .int .i64 (loS kd), .int .i64 (hiS kd)] 55)).cell? ⟨w2.heap.size, 2, none⟩ = some (.int .i64 (hiS kd)) := by simp [go_sem]
           have hp0 : (w2.alloc (.cells #[.string (nameS kd), .int .i64 (loS kd), .int .i64 (hiS kd)] 55)).cell? ⟨wr.heap.size, 1, none⟩ = some (.int .i64 ln) := (World.cell?_alloc_lt w2 _ _ (block_lt_of_cell hS.2.1)).trans hS.2.1
           have hgz : wr.heap.size < w2.heap.size := block_lt_of_cell hS.1
           clear hS hc2 hf2 hz2 hb2 hb2'
           generalize w2.alloc (.cells #[.string (nameS kd), .int .i64 (loS kd), .int .i64 (hiS kd)] 55) = wx at *
           generalize w2.heap.size = gx at *)
        | (have hb2' : Below ((wr.alloc (.cells #[.int .i64 kd, .int .i64 ln] 36)).alloc (.cells #[.string ⟨#[]⟩, .int .i64 0, .int .i64 0] 55)).heap.size ((wr.alloc (.cells #[.int .i64 kd, .int .i64 ln] 36)).alloc (.cells #[.string ⟨#[]⟩, .int .i64 0, .int .i64 0] 55)) w2 := below_of_drew hb2
           have hblk : w2.heap[wr.heap.size + 1]? = some (.cells #[.string ⟨#[]⟩, .int .i64 0, .int .i64 0] 55 (0, 0)) := (hb2'.block _ (by simp)).trans (by simpa using heap_alloc_new (wr.alloc (.cells #[.int .i64 kd, .int .i64 ln] 36)) (.cells #[.string ⟨#[]⟩, .int .i64 0, .int .i64 0] 55))
           have hset := three_set (u0 := .string (nameS kd)) (u1 := .int .i64 (loS kd)) (u2 := .int .i64 (hiS kd)) hblk
           have hS : w2.cell? ⟨wr.heap.size, 0, none⟩ = some (.int .i64 kd) ∧ w2.cell? ⟨wr.heap.size, 1, none⟩ = some (.int .i64 ln) ∧ Below (wr.heap.size + 1) (wr.alloc (.cells #[.int .i64 kd, .int .i64 ln] 36)) w2 := held2 (held2 (held2_start0 _ _ _ _) (by simp) (below_new _ _)) (by simp) hb2'
           have hS3 := held2_set (p := ⟨wr.heap.size + 1, 2, none⟩) (u := .int .i64 (hiS kd)) (held2_set (p := ⟨wr.heap.size + 1, 1, none⟩) (u := .int .i64 (loS kd)) (held2_set (p := ⟨wr.heap.size + 1, 0, none⟩) (u := .string (nameS kd)) hS (by simp)) (by simp)) (by simp)
           have hbx : Below wr.heap.size wr (((w2.setCell ⟨wr.heap.size + 1, 0, none⟩ (.string (nameS kd))).setCell ⟨wr.heap.size + 1, 1, none⟩ (.int .i64 (loS kd))).setCell ⟨wr.heap.size + 1, 2, none⟩ (.int .i64 (hiS kd))) := below_past hS3.2.2
           have hx0 : (((w2.setCell ⟨wr.heap.size + 1, 0, none⟩ (.string (nameS kd))).setCell ⟨wr.heap.size + 1, 1, none⟩ (.int .i64 (loS kd))).setCell ⟨wr.heap.size + 1, 2, none⟩ (.int .i64 (hiS kd))).cell? ⟨wr.heap.size + 1, 0, none⟩ = some (.string (nameS kd)) := cell_of_row _ _ _ _ _ _ hset
           have hx1 : (((w2.setCell ⟨wr.heap.size + 1, 0, none⟩ (.string (nameS kd))).setCell ⟨wr.heap.size + 1, 1, none⟩ (.int .i64 (loS kd))).setCell ⟨wr.heap.size + 1, 2, none⟩ (.int .i64 (hiS kd))).cell? ⟨wr.heap.size + 1, 1, none⟩ = some (.int .i64 (loS kd)) := cell_of_row _ _ _ _ _ _ hset
           have hx2 : (((w2.setCell ⟨wr.heap.size + 1, 0, none⟩ (.string (nameS kd))).setCell ⟨wr.heap.size + 1, 1, none⟩ (.int .i64 (loS kd))).setCell ⟨wr.heap.size + 1, 2, none⟩ (.int .i64 (hiS kd))).cell? ⟨wr.heap.size + 1, 2, none⟩ = some (.int .i64 (hiS kd)) := cell_of_row _ _ _ _ _ _ hset
           have hp0 : (((w2.setCell ⟨wr.heap.size + 1, 0, none⟩ (.string (nameS kd))).setCell ⟨wr.heap.size + 1, 1, none⟩ (.int .i64 (loS kd))).setCell ⟨wr.heap.size + 1, 2, none⟩ (.int .i64 (hiS kd))).cell? ⟨wr.heap.size, 1, none⟩ = some (.int .i64 ln) := hS3.2.1
           have hgz : wr.heap.size < wr.heap.size + 1 := by omega
           clear hS hS3 hblk hset hc2 hf2 hz2 hb2 hb2'
           generalize ((w2.setCell ⟨wr.heap.size + 1, 0, none⟩ (.string (nameS kd))).setCell ⟨wr.heap.size + 1, 1, none⟩ (.int .i64 (loS kd))).setCell ⟨wr.heap.size + 1, 2, none⟩ (.int .i64 (hiS kd)) = wx at *
           generalize hgx : wr.heap.size + 1 = gx at *
           clear hgx)
      all_goals
        have hown3 := own_below hown hbx
        have hfg : wx.frozen? ⟨w1.heap.size, k, none⟩ = false := hown3.frozenAt k
        have hck : wx.cell? ⟨w1.heap.size, k, none⟩ = some (.string (xs[k]'(by omega))) := by
          rw [hown3.cellAt k (by omega)]
          simp [hxl, hlt]
        have hbz := hbel.trans (hbx.mono (by omega))
        have hgx : w1.heap.size < gx := by omega
        clear hbx hown hbel hbw hl0 hl1
        by_cases hlh : loS kd < hiS kd
        · have hadd := add_text kd ln (by omega) hlh
          go_wp2_with fail
          have hst := hown3.stored k (.string (nameS kd))
          have hy0 : (wx.setCell ⟨w1.heap.size, k, none⟩ (.string (nameS kd))).cell? ⟨w1.heap.size, k, none⟩ = some (.string (nameS kd)) := by
            rw [hst.1.cellAt k (by omega)]
            simp [hxl, hlt]
          have hy1 : (wx.setCell ⟨w1.heap.size, k, none⟩ (.string (nameS kd))).cell? ⟨wr.heap.size, 1, none⟩ = some (.int .i64 ln) := (World.cell?_setCell_other wx _ _ _ (fun e => by injection e with e; omega)).trans hp0
          have hyf := hst.1.frozenAt k
          have hys : wr.heap.size < (wx.setCell ⟨w1.heap.size, k, none⟩ (.string (nameS kd))).heap.size := block_lt_of_cell hy1
          have hyg : w1.heap.size < (wx.setCell ⟨w1.heap.size, k, none⟩ (.string (nameS kd))).heap.size := block_lt_of_cell hy0
          have hyo := hst.1
          have hyb : Below w1.heap.size w1 (wx.setCell ⟨w1.heap.size, k, none⟩ (.string (nameS kd))) := hbz.setCell (Nat.le_refl _) _
          clear hst hown3 hfg hck hbz hx0 hx1 hx2 hp0
          generalize wx.setCell ⟨w1.heap.size, k, none⟩ (.string (nameS kd)) = wy at *
          refine wp_region_ext_tail 9 (by kernel_rfl) (by kernel_rfl) (fun _ _ d _ _ h => by cases d <;> exact h) ?_
          simp only [List.take_succ_cons, List.take_zero, List.drop_succ_cons, List.drop_zero]
          repeat (first
            | go_big_quiet_skip
            | (go_big_quiet_want
               first
                 | (apply quiet_val
                    · intro wq hq
                      have hcq := hq.cells
                      have hzq := hq.lift
                      go_simp
                      try go_bits
                      first | done | with_reducible rfl
                    (try simp only [Act.put, List.setIfInBounds_toArray, List.set_cons_zero, List.set_cons_succ])
                    go_big_quiet_on)
                 | (apply quiet_call
                    · intro wq hq
                      have hcq := hq.cells
                      have hzq := hq.lift
                      go_simp
                      first
                        | ((go_at_call 16; exact (Tryz.strconv_Itoa_small ln (by omega) _).mono fun e w' hp => ⟨hp.1, by rw [hp.2]; exact hq⟩))
                    (try simp only [Act.put, List.setIfInBounds_toArray, List.set_cons_zero, List.set_cons_succ])
                    go_big_quiet_on)))
          refine wpQuiet_nil ?_
          intro wz hz
          obtain ⟨hcz, hfz, hzz⟩ := hz.facts
          have hyz := own_below hyo hz.below
          have hck : wz.cell? ⟨w1.heap.size, k, none⟩ = some (.string (nameS kd)) := (hcz _ _ (by omega)).trans hy0
          have hfk : wz.frozen? ⟨w1.heap.size, k, none⟩ = false := hyz.frozenAt k
          have hbz : Below w1.heap.size w1 wz := hyb.trans (hz.below.mono (by omega))
          clear hcz hfz hzz hz hyo hyb hys hyg hyf hy1 hy0 hadd
          go_wp2
          go_roundw
          case rel =>
            have hst := hyz.stored k (.string (partBytes (kd, ln)))
            refine ⟨k + 1, xs.set k (partBytes (kd, ln)), by omega, by go_num, by simp [hxl], hide (fun j h h' => ?_), ?_, hbz.setCell (Nat.le_refl _) _⟩
            · by_cases hjk : j = k
              · subst hjk
                rw [Hpt.out]
                simp [hxl, hlt]
              · rw [List.getElem?_set_ne (Ne.symm hjk)]
                exact Hxs.out j (by omega) h'
            · rw [List.map_set]
              simpa [List.set_set] using hst.1
          case measure => simp [intOf]; omega
        · go_wp2
          go_roundw
          case rel =>
            have hst := hown3.stored k (.string (nameS kd))
            refine ⟨k + 1, xs.set k (nameS kd), by omega, by go_num, by simp [hxl], hide (fun j h h' => ?_), ?_, hbz.setCell (Nat.le_refl _) _⟩
            · by_cases hjk : j = k
              · subst hjk
                rw [Hpt.out]
                simp [hxl, hlt, partBytes, partText, hlh]
              · rw [List.getElem?_set_ne (Ne.symm hjk)]
                exact Hxs.out j (by omega) h'
            · rw [List.map_set]
              exact hst.1
          case measure => simp [intOf]; omega
    · have hkn : k = n := by omega
      subst hkn
      have hpos : 0 < k := by have := F.out; have := Hn.out; omega
      have hfin : xs = ps.map partBytes := by
        apply List.ext_getElem?
        intro j
        by_cases hj : j < k
        · have hj' : j < ps.length := by have := Hn.out; omega
          rw [Hxs.out j hj hj']
          simp [hj']
        · rw [List.getElem?_eq_none (by omega), List.getElem?_eq_none (by have := Hn.out; simp; omega)]
      subst hfin
      have hcells : ∀ (j : Nat) (x : ByteArray), (ps.map partBytes)[j]? = some x → wr.cell? ⟨w1.heap.size, 0 + j, none⟩ = some (.string x) := by
        intro j x hx
        have hj : j < k := by
          have := (List.getElem?_eq_some_iff.1 hx).1
          omega
        rw [Nat.zero_add, hown.cellAt j (by omega), List.getElem?_map, hx]
        rfl
      have hlt' : w1.heap.size < wr.heap.size := (hown.lt _ rfl).2
      have hjl := join_len ps (fun p hp => by
        obtain ⟨i, hi, rfl⟩ := List.getElem_of_mem hp
        have hR := F.out.2.2.2.2.2 i hi (by have := F.out.2.2.1; omega)
        have := hR.len
        have := lo_bd ps[i].1
        have := hi_bd ps[i].1
        omega)
      have hmm : (ps.map partBytes).map (·.data.toList) = ps.map partText := by simp [partBytes, Function.comp_def]
      have hpk : ps.length = k := Hn.out
      have hl8 : 8 * ps.length ≤ 140737488355328 := by omega
      have hl7 : ps.length ≤ 140737488355328 := by omega
      have hJ := hide (Tryz.strings_Join w1.heap.size 0 k (ps.map partBytes) ⟨#[32]⟩ wr hcells hlt' (by rw [List.length_map]; exact hl7) (by rw [List.length_map, hpk]; exact Nat.le_refl _) (by rw [hmm]; exact Nat.le_trans hjl hl8))
      clear hl8 hl7 hpk
      rw [hmm] at hJ
      have Hxl := hide hxl
      clear hcells hlt Hopen Hxs F HC hmm hxl hjl
      go_wp2_with fail
      have hJ' := hJ.out
      rw [Hxl.out] at hJ'
      refine hJ'.mono ?_
      rintro e w5 ⟨rfl, hb5⟩
      go_wp2
      go_ret2
      refine ⟨?_, below2 (hb1.trans (hbel.mono hb1.size)) hb5⟩
      simp [printS]

end Go.Proofs.YtkcpiokgcbkofaaGreatDoor
