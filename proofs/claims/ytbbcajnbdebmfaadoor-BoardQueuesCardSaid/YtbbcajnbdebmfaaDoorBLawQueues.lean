/-
  The walk of the law BoardQueues: it answers true. Conditions: a config and acts in memory; the calls' fields and the ways between modes, in memory.
-/
import Derived.Test.YtbbcajnbdebmfaaDoorBWake
import Derived.Test.YtbbcajnbdebmfaaDoorBFew
import Derived.Test.YtbbcajnbdebmfaaDoorBQLoop
import Derived.Deep.AppendLies
import Derived.Deep.Cut
import Derived.Deep.RegionHeld3
namespace Go.Proofs.YtbbcajnbdebmfaaDoor
open Go.RowKit

theorem info_recs : (Tryd.prog.info? 39).map (fun i => (i.zero, i.size, i.bytes)) = some (some nilS, 1, 24) := by kernel_rfl
theorem und_recss : Tryd.prog.underlying 35 = some (.slice 39) := by kernel_rfl
theorem make_recs (n : Nat) (hn : n ≤ 100) (w : World) : (Instr.makeSlice 35 (.int .i64 (n : Int)) (.int .i64 (n : Int))).run Tryd.prog w = .ok (.slice (some ⟨w.heap.size, 0, none⟩) n n) (w.alloc (.cells (madeCells #[nilS] n) 39)) :=
  run_make_row' 35 39 nilS 24 und_recss info_recs rfl .i64 .i64 n (by omega) (by omega) w

set_option maxRecDepth 1000000 in
set_option maxHeartbeats 6400000 in
theorem lawqueues_any (a b c : Int) (ts : List Tp) (u lv : Value) (l : List Ac) (tk : Int) (w : World) (hr : Rd w u 3 ts.length (flatT ts)) (hl : ActsAt w lv l) (hF : FieldsAt w) (hW : WaysAt w) :
    Calls Tryd.prog 3 #[cfgV a u b c, lv, .int .i64 tk] w fun e w' => e = .returned (.bool true) ∧ Below w.heap.size w w' := by
  obtain ⟨A, cc, rfl, -⟩ := id hr.shape
  have hl0 := hl
  obtain ⟨LA, lc, rfl, hl1, hl2, hopen⟩ := hl0
  obtain ⟨n, hn⟩ : ∃ n, n = l.length := ⟨_, rfl⟩
  obtain ⟨tl, htl⟩ : ∃ tl, tl = ts.length := ⟨_, rfl⟩
  have HFew := hide (fun w' (hb : Below w.heap.size w w') => few18_any a b c ts (.slice A ts.length cc) (.slice LA l.length lc) l w' (hr.below hb) (hl.below hb))
  have HAw := hide (fun w' (hb : Below w.heap.size w w') => awake_any w' (hF.below hb) (hW.below hb))
  rw [← hn] at HFew hopen hl1 ⊢
  rw [← htl] at HFew ⊢
  have hb0 := below_new w (cfgO a (.slice A tl cc) b c)
  have Hopen := hide hopen
  have Hn := hide hn
  have HF := hide hF
  have HW := hide hW
  by_cases hfew : (fewS ts && fewA l) = true
  · have hfw := hfew
    rw [Bool.and_eq_true] at hfw
    have hts := (few_true hfw.1).2
    obtain ⟨h150, h100⟩ := fewA_true hfw.2
    have HC := hide (fun w' (hb : Below w.heap.size w w') => check_any a b c ts (.slice A ts.length cc) w' (hr.below hb) (fun t ht => by have := hts t ht; omega))
    rw [← htl] at HC
    rw [hfew] at HFew
    by_cases hck : checkS a ts b c = (0, 0)
    · rw [hck] at HC
      obtain ⟨⟨ka1, ka8⟩, ⟨kt1, kt64⟩, ktp⟩ := check_ok hck
      by_cases hlo : tk < 0
      · clear hfew hfw hts h150 h100 hck hr hl hopen hn htl hF hW
        go_enter Tryd.func3, Tryd.ntmps3
        go_wp2_with fail
        refine (HFew.out _ hb0).mono ?_
        rintro e w1 ⟨rfl, hb1⟩
        have hb01 := below2 hb0 hb1
        have hT1 : w1.heap[w.heap.size]? = some (cfgO a (.slice A tl cc) b c) := (hb1.block _ (by simp)).trans (heap_alloc_new w _)
        obtain ⟨q0, q1, q2, q3, qf, ql⟩ := row4 hT1
        go_wp2_with fail
        refine (HC.out _ hb01).mono ?_
        rintro e w2 ⟨rfl, hb2⟩
        have hb02 := below2 hb01 hb2
        have hT2 : w2.heap[w.heap.size]? = some (cfgO a (.slice A tl cc) b c) := (hb2.block _ (block_lt hT1)).trans hT1
        clear q0 q1 q2 q3 qf ql
        obtain ⟨q0, q1, q2, q3, qf, ql⟩ := row4 hT2
        go_wp2_with fail
        refine (HAw.out _ hb02).mono ?_
        rintro e w9 ⟨rfl, hb9⟩
        go_wp2
        go_ret
        exact ⟨by simp, below2 hb02 hb9⟩
      · by_cases hhi : a ≤ tk
        · clear hfew hfw hts h150 h100 hck hr hl hopen hn htl hF hW
          go_enter Tryd.func3, Tryd.ntmps3
          go_wp2_with fail
          refine (HFew.out _ hb0).mono ?_
          rintro e w1 ⟨rfl, hb1⟩
          have hb01 := below2 hb0 hb1
          have hT1 : w1.heap[w.heap.size]? = some (cfgO a (.slice A tl cc) b c) := (hb1.block _ (by simp)).trans (heap_alloc_new w _)
          obtain ⟨q0, q1, q2, q3, qf, ql⟩ := row4 hT1
          go_wp2_with fail
          refine (HC.out _ hb01).mono ?_
          rintro e w2 ⟨rfl, hb2⟩
          have hb02 := below2 hb01 hb2
          have hT2 : w2.heap[w.heap.size]? = some (cfgO a (.slice A tl cc) b c) := (hb2.block _ (block_lt hT1)).trans hT1
          clear q0 q1 q2 q3 qf ql
          obtain ⟨q0, q1, q2, q3, qf, ql⟩ := row4 hT2
          go_wp2_with fail
          refine (HAw.out _ hb02).mono ?_
          rintro e w9 ⟨rfl, hb9⟩
          go_wp2
          go_ret
          exact ⟨by simp, below2 hb02 hb9⟩
        · obtain ⟨k0, rfl⟩ : ∃ k0 : Nat, tk = k0 := ⟨tk.toNat, by omega⟩
          have HNew := hide (fun w' (hb : Below w.heap.size w w') => new_any a b c ts (.slice A ts.length cc) w' (hr.below hb) (fun t ht => by have := hts t ht; omega) hck)
          rw [← htl] at HNew kt1 kt64
          have H100 := hide h100
          have h150' : n ≤ 150 := by omega
          have Hr := hide hr
          have Htl := hide htl
          have Ktp := hide ktp
          have hka : (k0 : Int) < a := by omega
          clear hfew hfw hts h150 h100 hck hr hl hopen hn htl hF hW ktp hhi
          go_enter Tryd.func3, Tryd.ntmps3
          go_wp2_with fail
          refine (HFew.out _ hb0).mono ?_
          rintro e w1 ⟨rfl, hb1⟩
          have hb01 := below2 hb0 hb1
          have hT1 : w1.heap[w.heap.size]? = some (cfgO a (.slice A tl cc) b c) := (hb1.block _ (by simp)).trans (heap_alloc_new w _)
          obtain ⟨q0, q1, q2, q3, qf, ql⟩ := row4 hT1
          go_wp2_with fail
          refine (HC.out _ hb01).mono ?_
          rintro e w2 ⟨rfl, hb2⟩
          have hb02 := below2 hb01 hb2
          have hT2 : w2.heap[w.heap.size]? = some (cfgO a (.slice A tl cc) b c) := (hb2.block _ (block_lt hT1)).trans hT1
          clear q0 q1 q2 q3 qf ql
          obtain ⟨q0, q1, q2, q3, qf, ql⟩ := row4 hT2
          have HFz := hide (HF.out.below hb02)
          have HWz := hide (HW.out.below hb02)
          have Hopz := hide (fun (hp : 0 < n) => by
            obtain ⟨b1, o1, h1, h2, h3⟩ := Hopen.out hp
            exact (⟨b1, o1, h1, Nat.lt_of_lt_of_le h2 hb02.size, fun i a ha => (h3 i a ha).below hb02⟩ : ∃ b o, LA = some ⟨b, o, none⟩ ∧ b < w2.heap.size ∧ ∀ i a, l[i]? = some a → AcAt w2 b (o + i * 12) a))
          have Hb02 := hide hb02
          go_wp2_with fail
          refine (HNew.out _ hb02).mono ?_
          rintro e w4 ⟨m0, rfl, hIs, hb4, hown⟩
          have P0 : Play w2 w4 0 m0 (newS a ts b c) := ⟨hIs, hb4, fun i hi => hown i (.inl hi)⟩
          have hT4 : w4.heap[w.heap.size]? = some (cfgO a (.slice A tl cc) b c) := (hb4.block _ (block_lt hT2)).trans hT2
          obtain ⟨B, hB⟩ : ∃ B, B = m0.bb := ⟨_, rfl⟩
          rw [← hB]
          have HB := hide hB
          have HP0 := hide P0
          have Hr4 := hide (Hr.out.below (below2 hb02 hb4))
          have HT4 := hide hT4
          clear hB P0 hIs hown q0 q1 q2 q3 qf ql hT1 hb01 hb0 hb1 hb2 HNew HC HFew hb4 hb02 hT2 Hr
          obtain ⟨q0, q1, q2, q3, qf, ql⟩ := row4 hT4
          have HM := make_recs tl (by omega)
          have hR := heap_alloc_new w4 (.cells (madeCells #[nilS] tl) 39)
          have hRB := below_new w4 (.cells (madeCells #[nilS] tl) 39)
          have hRs : (w4.alloc (.cells (madeCells #[nilS] tl) 39)).heap.size = w4.heap.size + 1 := by simp
          have L0 : Lz w4 (w4.alloc (.cells (madeCells #[nilS] tl) 39)) w4.heap.size tl ts [] := {
            below := hRB
            rows := ⟨fun i a ha => by simp at ha, fun i j a b ha => by simp at ha, fun i a ha => by simp at ha, by rw [hRs]; omega⟩
            blk := by
              rw [hR]
              congr 2
              apply Array.toList_inj.1
              rw [toList_madeCells_one]
              simp
            cell := fun t a p ha => by simp at ha
            low := fun i hi => by
              rcases hi with e | ⟨a, ha, -⟩
              · omega
              · simp at ha }
          have HL0 := hide L0
          clear L0 hR hRB hRs hT4
          go_wp2_with fail
          clear HM q0 q1 q2 q3 qf ql
          generalize w4.alloc (.cells (madeCells #[nilS] tl) 39) = z0 at *
          obtain ⟨R, hRR⟩ : ∃ R, R = w4.heap.size := ⟨_, rfl⟩
          rw [← hRR] at HL0 ⊢
          have HRR := hide hRR
          clear hRR
          go_loopw [10] (fun i wr => ∃ (k : Nat) (es : List Ent), k ≤ tl ∧ i = .int .i64 k ∧ es.length = k ∧ Hid (Lz w4 wr R tl ts es)) (fun i _ => tl - (intOf i).toNat)
          case atStart => exact ⟨0, [], Nat.zero_le _, rfl, rfl, HL0⟩
          case round =>
            clear HL0
            obtain ⟨k, es, hk, rfl, hel, HL⟩ := hrel
            by_cases hlt : k < tl
            · have hbr := HL.out.below
              obtain ⟨q0, q1, q2, q3, qf, ql⟩ := row4 ((hbr.block _ (block_lt HT4.out)).trans HT4.out)
              obtain ⟨p, hp⟩ : ∃ p, ts[k]? = some p := ⟨ts[k]'(by rw [← Htl.out]; exact hlt), List.getElem?_eq_getElem (by rw [← Htl.out]; exact hlt)⟩
              obtain ⟨t1, t2, t3, t4⟩ := Ktp.out p (List.mem_of_getElem? hp)
              have hr1 := Hr4.out.below hbr
              rw [← Htl.out] at hr1
              obtain ⟨b1, o1, c1, hv1, -, -, hb1, hd1⟩ := hr1.open_ (by omega)
              have hf := flatT_at ts k (by rw [← Htl.out]; exact hlt)
              have hpk : ts[k]'(by rw [← Htl.out]; exact hlt) = p := by
                rw [List.getElem?_eq_getElem (by rw [← Htl.out]; exact hlt)] at hp
                exact Option.some.inj hp
              obtain ⟨W, hW⟩ : ∃ W : Nat, p.2.1 = (W : Int) := ⟨p.2.1.toNat, by omega⟩
              have e1 := hd1 _ _ hf.2.1
              rw [hpk, hW] at e1
              cases hv1
              simp only [← Nat.add_assoc] at e1
              have hki : (k : Int) < (tl : Int) := by omega
              have hM := make_u64 W (by omega)
              have hst := HL.out.step (by omega) k hel.symm hp W (by rw [hW]; simp) (by omega) (by omega)
              have hlR := HL.out.rows.ltR
              rw [World.setCell_alloc_past _ R k _ (by simp; omega), World.setCell_alloc_past _ R k _ hlR] at hst
              have Hst := hide hst
              clear hst hlR
              obtain ⟨hbk, hlr⟩ : wr.heap[R]? = some (.cells (es.map Ent.v ++ List.replicate (tl - es.length) nilS).toArray 39) ∧ R < wr.heap.size := ⟨HL.out.blk, HL.out.rows.ltR⟩
              obtain ⟨uo, huo⟩ : ∃ uo, ((wr.alloc (.cells (madeCells #[.int .u64 0] W) 41)).alloc (.cells #[.slice (some ⟨wr.heap.size, 0, none⟩) W W] 36)).cell? ⟨R, k, none⟩ = some uo := by
                have h1 := alloc_was _ (.cells #[.slice (some ⟨wr.heap.size, 0, none⟩) W W] 36) _ _ (alloc_was wr (.cells (madeCells #[.int .u64 0] W) 41) _ _ hbk)
                have h2 := cell_of h1 k
                rw [List.getElem?_toArray, List.getElem?_eq_getElem (by simp; omega)] at h2
                exact ⟨_, h2⟩
              have hfz : ∀ i, ((wr.alloc (.cells (madeCells #[.int .u64 0] W) 41)).alloc (.cells #[.slice (some ⟨wr.heap.size, 0, none⟩) W W] 36)).frozen? ⟨R, i, none⟩ = false := frozen_of (alloc_was _ (.cells #[.slice (some ⟨wr.heap.size, 0, none⟩) W W] 36) _ _ (alloc_was wr (.cells (madeCells #[.int .u64 0] W) 41) _ _ hbk))
              have Hel := hide hel
              clear hf hpk hW hp hd1 hr1 hbk hel t1 t2 t3 t4
              go_wp2
              go_roundw
              case rel => exact ⟨k + 1, es ++ [⟨.slice (some ⟨wr.heap.size + 1, 0, none⟩) 1 1, 36, [.slice (some ⟨wr.heap.size, 0, none⟩) W W]⟩], by omega, by go_num, by rw [List.length_append, Hel.out]; rfl, Hst⟩
              case measure => simp [intOf]; omega
            · have hkt : tl = k := by omega
              subst hkt
              clear hlt
              have LS0 := hide (HL.out.fin hel Htl.out.symm HP0.out)
              have HQI := hide (QI.new a b c ts k0)
              obtain ⟨s0, hs0⟩ : ∃ s, s = wr.heap.size := ⟨_, rfl⟩
              rw [← hs0] at LS0
              have Hs0 := hide (show w2.heap.size ≤ s0 by rw [hs0]; exact LS0.out.play.below.size)
              have Hel := hide hel
              have Hlow := hide (below2 Hb02.out HP0.out.below)
              have hR4 : w.heap.size < R := by rw [HRR.out]; exact block_lt HT4.out
              clear HL hel hs0
              go_wp2_with fail
              refine q_loop w2 B R n tl k0 s0 LA lc _ _ _ _ _ _ _ _ _ _ _ _ _ _ _ _ _ _ _ _ _ _ _ _ _ _ _ _ _ _ _ _ _ _ _ _ _ _ _ _ _ _ _ nilS nilS nilS nilS nilS _ _ _ _ _ _ _ _ _ _ _ _ _ _ _ _ _ _ _ _ _ _ _ _ _ _ _ _ _ _ _ _ _ _ _ _ _ _ _ _ _ _ _ _ _ _ _ _ _ _ _ _ _ _ _ _ _ _ _ _ _ _ _ _ _ _ _ _ _ _ _ _ _ _ _ _ _ _ _ _ _ _ _ _ _ _ _ _ _ _ _ _ _ _ _ _ _ _ _ _ _ _ _ _ _ _ _ _ _ _ _ _ _ _ _ _ _ _ _ _ _ _ _ _ _ _ _ _ _ _ _ _ _ _ _ _ _ _ _ _ _ _ _ _ _ _ _ _ _ _ _ _ _ _ _ _ _ _ _ _ _ _ _ _ _ _ _ _ _ _ _ _ _ _ _ _ _ _ _ _ _ _ _ _ _ _ _ _ _ _ _ _ _ _ _ _ _ _ _ _ _ _ _ _ _ _ _ _ _ _ _ _ _ _ _ _ _ _ _ _ _ _ _ _ _ _ _ _ _ _ _ _ _ _ _ _ _ _ _ _ _ _ _ _ _ _ _ _ _ _ _ _ _ _ _ _ _ _ _ _ _ _ _ _ _ _ _ _ _ _ _ _ _ _ _ _ _ _ _ _ _ _ _ _ _ _ _ _ _ _ _ _ _ _ _ _ _ _ _ _ _ _ _ _ _ _ _ _ _ _ _ _ _ _ _ _ _ _ _ _ _ _ _ _ _ _ _ _ Hs0 l Hn h150' H100 HFz HWz Hopz ⟨0, m0, _, es ++ nils5, _, Nat.zero_le _, HB.out.symm, Nat.zero_le _, LS0, HQI, hide (by simp only [newS]; omega), hide (by
                refine ⟨?_, ?_, ?_, ?_, ?_⟩
                · rw [List.getElem?_append_right (by rw [Hel.out]; omega), Hel.out, Nat.sub_self]; rfl
                all_goals (rw [List.getElem?_append_right (by rw [Hel.out]; omega), Hel.out, Nat.add_sub_cancel_left]; rfl))⟩ ?_
              intro a' w8 hX
              unfold QX at hX
              obtain ⟨tv, hX⟩ := hX
              obtain ⟨rv, hX⟩ := hX
              obtain ⟨fv, hX⟩ := hX
              obtain ⟨lv, hX⟩ := hX
              obtain ⟨kv, hX⟩ := hX
              obtain ⟨x6, hX⟩ := hX
              obtain ⟨x17, hX⟩ := hX
              obtain ⟨x18, hX⟩ := hX
              obtain ⟨x19, hX⟩ := hX
              obtain ⟨x20, hX⟩ := hX
              obtain ⟨x21, hX⟩ := hX
              obtain ⟨x22, hX⟩ := hX
              obtain ⟨x23, hX⟩ := hX
              obtain ⟨x64, hX⟩ := hX
              obtain ⟨x65, hX⟩ := hX
              obtain ⟨x66, hX⟩ := hX
              obtain ⟨x67, hX⟩ := hX
              obtain ⟨x68, hX⟩ := hX
              obtain ⟨x69, hX⟩ := hX
              obtain ⟨x70, hX⟩ := hX
              obtain ⟨x71, hX⟩ := hX
              obtain ⟨x72, hX⟩ := hX
              obtain ⟨x73, hX⟩ := hX
              obtain ⟨x74, hX⟩ := hX
              obtain ⟨x75, hX⟩ := hX
              obtain ⟨x76, hX⟩ := hX
              obtain ⟨x77, hX⟩ := hX
              obtain ⟨x78, hX⟩ := hX
              obtain ⟨x79, hX⟩ := hX
              obtain ⟨x80, hX⟩ := hX
              obtain ⟨x81, hX⟩ := hX
              obtain ⟨x82, hX⟩ := hX
              obtain ⟨x83, hX⟩ := hX
              obtain ⟨x84, hX⟩ := hX
              obtain ⟨x85, hX⟩ := hX
              obtain ⟨x86, hX⟩ := hX
              obtain ⟨x87, hX⟩ := hX
              obtain ⟨x88, hX⟩ := hX
              obtain ⟨x89, hX⟩ := hX
              obtain ⟨x90, hX⟩ := hX
              obtain ⟨x91, hX⟩ := hX
              obtain ⟨x92, hX⟩ := hX
              obtain ⟨x93, hX⟩ := hX
              obtain ⟨x94, hX⟩ := hX
              obtain ⟨x95, hX⟩ := hX
              obtain ⟨x96, hX⟩ := hX
              obtain ⟨x97, hX⟩ := hX
              obtain ⟨x98, hX⟩ := hX
              obtain ⟨x99, hX⟩ := hX
              obtain ⟨x100, hX⟩ := hX
              obtain ⟨x101, hX⟩ := hX
              obtain ⟨x102, hX⟩ := hX
              obtain ⟨x103, hX⟩ := hX
              obtain ⟨x104, hX⟩ := hX
              obtain ⟨x105, hX⟩ := hX
              obtain ⟨x106, hX⟩ := hX
              obtain ⟨x107, hX⟩ := hX
              obtain ⟨x108, hX⟩ := hX
              obtain ⟨x109, hX⟩ := hX
              obtain ⟨x110, hX⟩ := hX
              obtain ⟨x111, hX⟩ := hX
              obtain ⟨x112, hX⟩ := hX
              obtain ⟨x113, hX⟩ := hX
              obtain ⟨x114, hX⟩ := hX
              obtain ⟨x115, hX⟩ := hX
              obtain ⟨x116, hX⟩ := hX
              obtain ⟨x117, hX⟩ := hX
              obtain ⟨x118, hX⟩ := hX
              obtain ⟨x119, hX⟩ := hX
              obtain ⟨x120, hX⟩ := hX
              obtain ⟨x121, hX⟩ := hX
              obtain ⟨x122, hX⟩ := hX
              obtain ⟨x123, hX⟩ := hX
              obtain ⟨x124, hX⟩ := hX
              obtain ⟨x125, hX⟩ := hX
              obtain ⟨x126, hX⟩ := hX
              obtain ⟨x127, hX⟩ := hX
              obtain ⟨x128, hX⟩ := hX
              obtain ⟨x129, hX⟩ := hX
              obtain ⟨x130, hX⟩ := hX
              obtain ⟨x131, hX⟩ := hX
              obtain ⟨x132, hX⟩ := hX
              obtain ⟨x133, hX⟩ := hX
              obtain ⟨x134, hX⟩ := hX
              obtain ⟨x135, hX⟩ := hX
              obtain ⟨x136, hX⟩ := hX
              obtain ⟨x137, hX⟩ := hX
              obtain ⟨x138, hX⟩ := hX
              obtain ⟨x139, hX⟩ := hX
              obtain ⟨x140, hX⟩ := hX
              obtain ⟨x141, hX⟩ := hX
              obtain ⟨x142, hX⟩ := hX
              obtain ⟨x143, hX⟩ := hX
              obtain ⟨x144, hX⟩ := hX
              obtain ⟨x145, hX⟩ := hX
              obtain ⟨x146, hX⟩ := hX
              obtain ⟨x147, hX⟩ := hX
              obtain ⟨x148, hX⟩ := hX
              obtain ⟨x149, hX⟩ := hX
              obtain ⟨x150, hX⟩ := hX
              obtain ⟨x151, hX⟩ := hX
              obtain ⟨x152, hX⟩ := hX
              obtain ⟨x153, hX⟩ := hX
              obtain ⟨x154, hX⟩ := hX
              obtain ⟨x155, hX⟩ := hX
              obtain ⟨x156, hX⟩ := hX
              obtain ⟨x157, hX⟩ := hX
              obtain ⟨x158, hX⟩ := hX
              obtain ⟨x159, hX⟩ := hX
              obtain ⟨x160, hX⟩ := hX
              obtain ⟨x161, hX⟩ := hX
              obtain ⟨x162, hX⟩ := hX
              obtain ⟨x163, hX⟩ := hX
              obtain ⟨x164, hX⟩ := hX
              obtain ⟨x165, hX⟩ := hX
              obtain ⟨x166, hX⟩ := hX
              obtain ⟨x167, hX⟩ := hX
              obtain ⟨x168, hX⟩ := hX
              obtain ⟨x169, hX⟩ := hX
              obtain ⟨x170, hX⟩ := hX
              obtain ⟨x171, hX⟩ := hX
              obtain ⟨x172, hX⟩ := hX
              obtain ⟨x173, hX⟩ := hX
              obtain ⟨x174, hX⟩ := hX
              obtain ⟨x175, hX⟩ := hX
              obtain ⟨x176, hX⟩ := hX
              obtain ⟨x177, hX⟩ := hX
              obtain ⟨x178, hX⟩ := hX
              obtain ⟨x179, hX⟩ := hX
              obtain ⟨x180, hX⟩ := hX
              obtain ⟨x181, hX⟩ := hX
              obtain ⟨x182, hX⟩ := hX
              obtain ⟨x183, hX⟩ := hX
              obtain ⟨x184, hX⟩ := hX
              obtain ⟨x185, hX⟩ := hX
              obtain ⟨x186, hX⟩ := hX
              obtain ⟨x187, hX⟩ := hX
              obtain ⟨x188, hX⟩ := hX
              obtain ⟨x189, hX⟩ := hX
              obtain ⟨x190, hX⟩ := hX
              obtain ⟨x191, hX⟩ := hX
              obtain ⟨x192, hX⟩ := hX
              obtain ⟨x193, hX⟩ := hX
              obtain ⟨x194, hX⟩ := hX
              obtain ⟨x195, hX⟩ := hX
              obtain ⟨x196, hX⟩ := hX
              obtain ⟨x197, hX⟩ := hX
              obtain ⟨x198, hX⟩ := hX
              obtain ⟨x199, hX⟩ := hX
              obtain ⟨x200, hX⟩ := hX
              obtain ⟨x201, hX⟩ := hX
              obtain ⟨x202, hX⟩ := hX
              obtain ⟨x203, hX⟩ := hX
              obtain ⟨x204, hX⟩ := hX
              obtain ⟨x205, hX⟩ := hX
              obtain ⟨x206, hX⟩ := hX
              obtain ⟨x207, hX⟩ := hX
              obtain ⟨x208, hX⟩ := hX
              obtain ⟨x209, hX⟩ := hX
              obtain ⟨x210, hX⟩ := hX
              obtain ⟨x211, hX⟩ := hX
              obtain ⟨x212, hX⟩ := hX
              obtain ⟨x213, hX⟩ := hX
              obtain ⟨x214, hX⟩ := hX
              obtain ⟨x215, hX⟩ := hX
              obtain ⟨x216, hX⟩ := hX
              obtain ⟨x217, hX⟩ := hX
              obtain ⟨x218, hX⟩ := hX
              obtain ⟨x219, hX⟩ := hX
              obtain ⟨x220, hX⟩ := hX
              obtain ⟨x221, hX⟩ := hX
              obtain ⟨x222, hX⟩ := hX
              obtain ⟨x223, hX⟩ := hX
              obtain ⟨x224, hX⟩ := hX
              obtain ⟨x225, hX⟩ := hX
              obtain ⟨x226, hX⟩ := hX
              obtain ⟨x227, hX⟩ := hX
              obtain ⟨x228, hX⟩ := hX
              obtain ⟨x229, hX⟩ := hX
              obtain ⟨x230, hX⟩ := hX
              obtain ⟨x231, hX⟩ := hX
              obtain ⟨x232, hX⟩ := hX
              obtain ⟨x233, hX⟩ := hX
              obtain ⟨x234, hX⟩ := hX
              obtain ⟨x235, hX⟩ := hX
              obtain ⟨x236, hX⟩ := hX
              obtain ⟨x237, hX⟩ := hX
              obtain ⟨x238, hX⟩ := hX
              obtain ⟨x239, hX⟩ := hX
              obtain ⟨x240, hX⟩ := hX
              obtain ⟨x241, hX⟩ := hX
              obtain ⟨x242, hX⟩ := hX
              obtain ⟨x243, hX⟩ := hX
              obtain ⟨x244, hX⟩ := hX
              obtain ⟨x245, hX⟩ := hX
              obtain ⟨x246, hX⟩ := hX
              obtain ⟨x247, hX⟩ := hX
              obtain ⟨x248, hX⟩ := hX
              obtain ⟨x249, hX⟩ := hX
              obtain ⟨x250, hX⟩ := hX
              obtain ⟨x251, hX⟩ := hX
              obtain ⟨x252, hX⟩ := hX
              obtain ⟨x253, hX⟩ := hX
              obtain ⟨x254, hX⟩ := hX
              obtain ⟨x255, hX⟩ := hX
              obtain ⟨x256, hX⟩ := hX
              obtain ⟨x257, hX⟩ := hX
              obtain ⟨x258, hX⟩ := hX
              obtain ⟨x259, hX⟩ := hX
              obtain ⟨x260, hX⟩ := hX
              obtain ⟨x261, hX⟩ := hX
              obtain ⟨x262, hX⟩ := hX
              obtain ⟨x263, hX⟩ := hX
              obtain ⟨x264, hX⟩ := hX
              obtain ⟨x265, hX⟩ := hX
              obtain ⟨x266, hX⟩ := hX
              obtain ⟨x267, hX⟩ := hX
              obtain ⟨x268, hX⟩ := hX
              obtain ⟨x269, hX⟩ := hX
              obtain ⟨x270, hX⟩ := hX
              obtain ⟨x271, hX⟩ := hX
              obtain ⟨x272, hX⟩ := hX
              obtain ⟨x273, hX⟩ := hX
              obtain ⟨x274, hX⟩ := hX
              obtain ⟨x275, hX⟩ := hX
              obtain ⟨x276, hX⟩ := hX
              obtain ⟨x277, hX⟩ := hX
              obtain ⟨x278, hX⟩ := hX
              obtain ⟨x279, hX⟩ := hX
              obtain ⟨x280, hX⟩ := hX
              obtain ⟨x281, hX⟩ := hX
              obtain ⟨x282, hX⟩ := hX
              obtain ⟨x283, hX⟩ := hX
              obtain ⟨x284, hX⟩ := hX
              obtain ⟨x285, hX⟩ := hX
              obtain ⟨x286, hX⟩ := hX
              obtain ⟨x287, hX⟩ := hX
              obtain ⟨x288, hX⟩ := hX
              obtain ⟨x289, hX⟩ := hX
              obtain ⟨x290, hX⟩ := hX
              obtain ⟨x291, hX⟩ := hX
              obtain ⟨x292, hX⟩ := hX
              obtain ⟨x293, hX⟩ := hX
              obtain ⟨x294, hX⟩ := hX
              obtain ⟨x295, hX⟩ := hX
              obtain ⟨x296, hX⟩ := hX
              obtain ⟨x297, hX⟩ := hX
              obtain ⟨x298, hX⟩ := hX
              obtain ⟨x299, hX⟩ := hX
              obtain ⟨x300, hX⟩ := hX
              obtain ⟨x301, hX⟩ := hX
              obtain ⟨x302, hX⟩ := hX
              obtain ⟨x303, hX⟩ := hX
              obtain ⟨x304, hX⟩ := hX
              obtain ⟨x305, hX⟩ := hX
              obtain ⟨x306, hX⟩ := hX
              obtain ⟨x307, hX⟩ := hX
              obtain ⟨x308, hX⟩ := hX
              obtain ⟨x309, hX⟩ := hX
              obtain ⟨x310, hX⟩ := hX
              obtain ⟨x311, hX⟩ := hX
              obtain ⟨x312, hX⟩ := hX
              obtain ⟨x313, hX⟩ := hX
              obtain ⟨x314, hX⟩ := hX
              obtain ⟨x315, hX⟩ := hX
              obtain ⟨x316, hX⟩ := hX
              obtain ⟨x317, hX⟩ := hX
              obtain ⟨x318, hX⟩ := hX
              obtain ⟨x319, hX⟩ := hX
              obtain ⟨x320, hX⟩ := hX
              obtain ⟨x321, hX⟩ := hX
              obtain ⟨x322, hX⟩ := hX
              obtain ⟨x323, hX⟩ := hX
              obtain ⟨x324, hX⟩ := hX
              obtain ⟨x325, hX⟩ := hX
              obtain ⟨x326, hX⟩ := hX
              obtain ⟨x327, hX⟩ := hX
              obtain ⟨x328, hX⟩ := hX
              obtain ⟨x329, hX⟩ := hX
              obtain ⟨x330, hX⟩ := hX
              obtain ⟨x331, hX⟩ := hX
              obtain ⟨x332, hX⟩ := hX
              obtain ⟨x333, hX⟩ := hX
              obtain ⟨x334, hX⟩ := hX
              obtain ⟨x335, hX⟩ := hX
              obtain ⟨x336, hX⟩ := hX
              obtain ⟨x337, hX⟩ := hX
              obtain ⟨x338, hX⟩ := hX
              obtain ⟨x339, hX⟩ := hX
              obtain ⟨x340, hX⟩ := hX
              obtain ⟨x341, hX⟩ := hX
              obtain ⟨x342, hX⟩ := hX
              obtain ⟨x343, hX⟩ := hX
              obtain ⟨x344, hX⟩ := hX
              obtain ⟨x345, hX⟩ := hX
              obtain ⟨x346, hX⟩ := hX
              obtain ⟨x347, hX⟩ := hX
              obtain ⟨x348, hX⟩ := hX
              obtain ⟨x349, hX⟩ := hX
              obtain ⟨x350, hX⟩ := hX
              obtain ⟨x351, hX⟩ := hX
              obtain ⟨x352, hX⟩ := hX
              obtain ⟨x353, hX⟩ := hX
              obtain ⟨x354, hX⟩ := hX
              obtain ⟨x355, hX⟩ := hX
              obtain ⟨x356, hX⟩ := hX
              obtain ⟨x357, hX⟩ := hX
              obtain ⟨x358, hX⟩ := hX
              obtain ⟨x359, hX⟩ := hX
              obtain ⟨x360, hX⟩ := hX
              obtain ⟨x361, hX⟩ := hX
              obtain ⟨x362, hX⟩ := hX
              obtain ⟨x363, hX⟩ := hX
              obtain ⟨x364, hX⟩ := hX
              obtain ⟨x365, hX⟩ := hX
              obtain ⟨x366, hX⟩ := hX
              obtain ⟨x367, hX⟩ := hX
              obtain ⟨x368, hX⟩ := hX
              obtain ⟨x369, hX⟩ := hX
              obtain ⟨x370, hX⟩ := hX
              obtain ⟨x371, hX⟩ := hX
              obtain ⟨x372, hX⟩ := hX
              obtain ⟨x373, hX⟩ := hX
              obtain ⟨x374, hX⟩ := hX
              obtain ⟨x375, hX⟩ := hX
              obtain ⟨x376, hX⟩ := hX
              obtain ⟨x377, hX⟩ := hX
              obtain ⟨x378, hX⟩ := hX
              obtain ⟨x379, hX⟩ := hX
              obtain ⟨x380, hX⟩ := hX
              obtain ⟨x381, hX⟩ := hX
              obtain ⟨hb8, rfl⟩ := hX
              have Hb8 := hide (below2 Hb02.out hb8)
              clear hb8
              go_wp2_with fail
              refine (HAw.out _ Hb8.out).mono ?_
              rintro e w9 ⟨rfl, hb9⟩
              go_wp2
              go_ret
              exact ⟨by simp, below2 Hb8.out hb9⟩
    · obtain ⟨⟨F1, F2⟩, hFF⟩ : ∃ F, F = checkS a ts b c := ⟨_, rfl⟩
      rw [← hFF] at HC hck
      have hor : F1 ≠ 0 ∨ (F1 = 0 ∧ F2 ≠ 0) := by
        by_cases h1 : F1 = 0
        · right; exact ⟨h1, fun h2 => hck (by rw [h1, h2])⟩
        · exact .inl h1
      clear hfew hfw hts h150 h100 hck hFF hr hl hopen hn htl hF hW
      rcases hor with h1 | ⟨rfl, h1⟩
      · go_enter Tryd.func3, Tryd.ntmps3
        go_wp2_with fail
        refine (HFew.out _ hb0).mono ?_
        rintro e w1 ⟨rfl, hb1⟩
        have hb01 := below2 hb0 hb1
        have hT1 : w1.heap[w.heap.size]? = some (cfgO a (.slice A tl cc) b c) := (hb1.block _ (by simp)).trans (heap_alloc_new w _)
        obtain ⟨q0, q1, q2, q3, qf, ql⟩ := row4 hT1
        go_wp2_with fail
        refine (HC.out _ hb01).mono ?_
        rintro e w2 ⟨rfl, hb2⟩
        have hb02 := below2 hb01 hb2
        have hT2 : w2.heap[w.heap.size]? = some (cfgO a (.slice A tl cc) b c) := (hb2.block _ (block_lt hT1)).trans hT1
        clear q0 q1 q2 q3 qf ql
        obtain ⟨q0, q1, q2, q3, qf, ql⟩ := row4 hT2
        go_wp2_with fail
        refine (HAw.out _ hb02).mono ?_
        rintro e w9 ⟨rfl, hb9⟩
        go_wp2
        go_ret
        exact ⟨by simp, below2 hb02 hb9⟩
      · go_enter Tryd.func3, Tryd.ntmps3
        go_wp2_with fail
        refine (HFew.out _ hb0).mono ?_
        rintro e w1 ⟨rfl, hb1⟩
        have hb01 := below2 hb0 hb1
        have hT1 : w1.heap[w.heap.size]? = some (cfgO a (.slice A tl cc) b c) := (hb1.block _ (by simp)).trans (heap_alloc_new w _)
        obtain ⟨q0, q1, q2, q3, qf, ql⟩ := row4 hT1
        go_wp2_with fail
        refine (HC.out _ hb01).mono ?_
        rintro e w2 ⟨rfl, hb2⟩
        have hb02 := below2 hb01 hb2
        have hT2 : w2.heap[w.heap.size]? = some (cfgO a (.slice A tl cc) b c) := (hb2.block _ (block_lt hT1)).trans hT1
        clear q0 q1 q2 q3 qf ql
        obtain ⟨q0, q1, q2, q3, qf, ql⟩ := row4 hT2
        go_wp2_with fail
        refine (HAw.out _ hb02).mono ?_
        rintro e w9 ⟨rfl, hb9⟩
        go_wp2
        go_ret
        exact ⟨by simp, below2 hb02 hb9⟩
  · have hff : (fewS ts && fewA l) = false := by simpa using hfew
    rw [hff] at HFew
    clear hfew hff hr hl hopen hn htl hF hW
    go_enter Tryd.func3, Tryd.ntmps3
    go_wp2_with fail
    refine (HFew.out _ hb0).mono ?_
    rintro e w1 ⟨rfl, hb1⟩
    have hb01 := below2 hb0 hb1
    have hT1 : w1.heap[w.heap.size]? = some (cfgO a (.slice A tl cc) b c) := (hb1.block _ (by simp)).trans (heap_alloc_new w _)
    obtain ⟨q0, q1, q2, q3, qf, ql⟩ := row4 hT1
    go_wp2_with fail
    refine (HAw.out _ hb01).mono ?_
    rintro e w9 ⟨rfl, hb9⟩
    go_wp2
    go_ret
    exact ⟨by simp, below2 hb01 hb9⟩

end Go.Proofs.YtbbcajnbdebmfaaDoor
