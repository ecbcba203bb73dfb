/-
  The walk of the law's least. Conditions: at most a hundred events of calls of at most a hundred elements; the calls' fields and the ways between modes in memory.
-/
import Derived.Test.YtkkflnmfghegnaaGreatDoorLLegalP
import Derived.Test.YtkkflnmfghegnaaGreatDoorLJudged
import Derived.Test.YtkkflnmfghegnaaGreatDoorLSwapped
import Derived.Test.YtkkflnmfghegnaaGreatDoorLJudgP
namespace Go.Proofs.YtkkflnmfghegnaaGreatDoor
open Go.RowKit

/-- One branch of the law's own trying. -/
noncomputable def leastB (S0 : Bd) (l : List Ev) (f : Nat) (p : List Int) (k : Nat) : Option (List Int) := if failK l (k : Int) || p.contains (k : Int) then none else leastS S0 l f (p ++ [(k : Int)])
theorem leastS_succ (S0 : Bd) (l : List Ev) (f : Nat) (p : List Int) : leastS S0 l (f + 1) p = if (legalS S0 l p).2 = 0 then some p else (List.range l.length).findSome? (leastB S0 l f p) := rfl
theorem least_here {S0 : Bd} {l : List Ev} {f : Nat} {p : List Int} (h : (legalS S0 l p).2 = 0) : leastS S0 l (f + 1) p = some p := by rw [leastS_succ, if_pos h]
theorem least_none {S0 : Bd} {l : List Ev} {f : Nat} {p : List Int} (h : (legalS S0 l p).2 ≠ 0) (hq : ∀ q, q < l.length → leastB S0 l f p q = none) : leastS S0 l (f + 1) p = none := by
  rw [leastS_succ, if_neg h, List.findSome?_eq_none_iff]
  exact fun q hm => hq q (List.mem_range.1 hm)
theorem least_some {S0 : Bd} {l : List Ev} {f : Nat} {p r : List Int} {k : Nat} (h : (legalS S0 l p).2 ≠ 0) (hk : k < l.length) (hq : ∀ q, q < k → leastB S0 l f p q = none) (hr : leastB S0 l f p k = some r) : leastS S0 l (f + 1) p = some r := by
  rw [leastS_succ, if_neg h]
  have e : List.range l.length = List.range k ++ (List.range (l.length - k)).map (k + ·) := by rw [← List.range_add]; congr 1; omega
  rw [e, List.findSome?_append]
  have h1 : (List.range k).findSome? (leastB S0 l f p) = none := by
    rw [List.findSome?_eq_none_iff]
    exact fun q hm => hq q (List.mem_range.1 hm)
  rw [h1]
  obtain ⟨d, hd⟩ : ∃ d, l.length - k = d + 1 := ⟨l.length - k - 1, by omega⟩
  rw [hd, List.range_succ_eq_map]
  simp [hr]

/-- What least leaves. -/
def LeastPost (w : World) (r : Option (List Int)) (e : Ending) (w' : World) : Prop :=
  ∃ vr, e = .returned (.tuple #[vr, .bool r.isSome]) ∧ (∀ o, r = some o → Rd w' vr 1 o.length (intL o)) ∧ Below w.heap.size w w'

theorem contains_take {p : List Int} {i : Nat} {x k : Int} (h : p[i]? = some x) : (p.take (i + 1)).contains k = ((p.take i).contains k || (x == k)) := by
  rw [take_snoc h, List.contains_append]
  congr 1
  by_cases hx : x = k
  · subst hx; simp
  · have hx' : ¬ k = x := fun e => hx e.symm
    simp [hx, hx']

set_option maxRecDepth 100000 in
set_option maxHeartbeats 6400000 in
theorem least_any (a b c : Int) (ts : List Tp) (cv : Value) (l : List Em) (v : Value) (hck : checkS a ts b c = (0, 0)) (hts : ∀ t ∈ ts, t.1.size ≤ 9223372036854775807) (hll : l.length ≤ 100) (hsm : ∀ e ∈ l, e.e.c.set.length ≤ 100 ∧ e.e.c.words.length ≤ 100) :
    ∀ (f : Nat) (order : List Int) (vo : Value) (w : World) (_ : Rd w cv 3 ts.length (flatT ts)) (_ : EvsAt w v l) (_ : Rd w vo 1 order.length (intL order)) (_ : FieldsAt w) (_ : WaysAt w) (_ : Apart l.length order) (_ : l.length < f + order.length),
    Calls Tryz.prog 27 #[cfgV a cv b c, v, vo] w (LeastPost w (leastS (newS a ts b c) (evsOf l) f order)) := by
  intro f
  induction f with
  | zero =>
    intro order vo w hr h ho hF hW hap hf
    have := rem_apart hap
    omega
  | succ f ih =>
    intro order vo w hr h ho hF hW hap hf
    have hol : order.length ≤ l.length := by have := rem_apart hap; omega
    obtain ⟨R, hR⟩ : ∃ R, R = leastS (newS a ts b c) (evsOf l) (f + 1) order := ⟨_, rfl⟩
    rw [← hR]
    obtain ⟨A0, c0, rfl, -⟩ := id hr.shape
    obtain ⟨W0, hW0⟩ : ∃ W0, W0 = w.alloc (.cells #[.int .i64 a, .slice A0 ts.length c0, .int .i64 b, .int .i64 c] 50) := ⟨_, rfl⟩
    have hb0 := below_new w (.cells #[.int .i64 a, .slice A0 ts.length c0, .int .i64 b, .int .i64 c] 50)
    have hbx := heap_alloc_new w (.cells #[.int .i64 a, .slice A0 ts.length c0, .int .i64 b, .int .i64 c] 50)
    rw [← hW0] at hb0 hbx
    have hsz0 : w.heap.size < W0.heap.size := by rw [hW0]; simp
    have HBox := hide (fun x (hb : Below W0.heap.size W0 x) => (hb.block w.heap.size hsz0).trans hbx)
    have Hb0 := hide hb0
    have HJu := hide (judged_any a b c ts (.slice A0 ts.length c0) l v order vo W0 (hr.below hb0) hts (h.below hb0) (ho.below hb0) (hF.below hb0) (hW.below hb0) hll (by omega) hsm)
    have hJe : legalC a ts b c (evsOf l) order = legalS (newS a ts b c) (evsOf l) order := if_pos hck
    rw [hJe] at HJu
    have HIH := hide (fun (k : Nat) (vn : Value) (wq : World) (hb : Below w.heap.size w wq) (hk : k < l.length) (hkp : (k : Int) ∉ order) (hn : Rd wq vn 1 (order.length + 1) (intL (order ++ [(k : Int)]))) =>
      ih (order ++ [(k : Int)]) vn wq (hr.below hb) (h.below hb) (by rw [List.length_append]; exact hn) (hF.below hb) (hW.below hb)
        ⟨fun j hj => by
          rcases List.mem_append.1 hj with hj | hj
          · exact hap.lt j hj
          · simp at hj; omega, by
          rw [List.nodup_append]
          exact ⟨hap.nd, by simp, fun x hx y hy => by
            simp at hy
            subst hy
            rintro rfl
            exact hkp hx⟩⟩ (by simp; omega))
    obtain ⟨AM, cm, rfl, -⟩ := id h.1.shape
    obtain ⟨AO, co, rfl, -⟩ := id ho.shape
    obtain ⟨tn, htn⟩ : ∃ n, n = ts.length := ⟨_, rfl⟩
    obtain ⟨n, hn⟩ : ∃ n, n = l.length := ⟨_, rfl⟩
    obtain ⟨p, hp⟩ : ∃ p, p = order.length := ⟨_, rfl⟩
    rw [← htn, ← hn, ← hp]
    rw [← htn, ← hn, ← hp] at HJu
    rw [← htn] at HBox hW0
    have HW0 := hide hW0
    rw [← htn, ← hn, ← hp] at HIH
    rw [← hn, ← hp] at hol
    rw [← hn] at h hll
    rw [← hp] at ho
    have H := hide h
    have Ho := hide ho
    have Hn := hide hn
    have Hp := hide hp
    have HR := hide hR
    obtain ⟨⟨J1, J2⟩, hJ⟩ : ∃ J, J = legalS (newS a ts b c) (evsOf l) order := ⟨_, rfl⟩
    rw [← hJ] at HJu
    have HJ := hide hJ
    clear ih hr h ho hF hW hap hf hck hts hsm hR hJe htn hn hp hJ hW0 hb0 hbx hsz0
    go_enter Tryz.func27, Tryz.ntmps27
    go_wp2_with fail
    rw [← HW0.out]
    refine HJu.out.mono ?_
    rintro e w1 ⟨rfl, hb1⟩
    have Hb1 := hide hb1
    have Hc1 := hide (below2 Hb0.out hb1)
    clear hb1
    by_cases hj : J2 = 0
    · subst hj
      go_wp2
      go_ret2
      rw [HR.out, least_here (by rw [← HJ.out])]
      exact ⟨_, rfl, fun o ho => (by cases ho; rw [← Hp.out]; exact Ho.out.below Hc1.out), Hc1.out⟩
    · have hj0 : (J2 == 0) = false := by simpa using hj
      have Hj := hide hj
      clear hj
      go_wp2_with fail
      go_loopw [10] (fun vk wr => ∃ k : Nat, k ≤ n ∧ vk = .int .i64 k ∧ Hid (∀ q, q < k → leastB (newS a ts b c) (evsOf l) f order q = none) ∧ Below w1.heap.size w1 wr) (fun vk _ => n - (intOf vk).toNat)
      case atStart => exact ⟨0, Nat.zero_le _, rfl, hide (fun q h => by omega), Below.refl _ _⟩
      case round =>
        obtain ⟨k, hk, rfl, Hq, hbr⟩ := hrel
        have Hcr := hide (below2 Hc1.out hbr)
        have Hbr := hide (below2 Hb1.out hbr)
        by_cases hlt : k < n
        · have hkI : (k : Int) < (n : Int) := by omega
          obtain ⟨e, hE⟩ : ∃ e, l[k]? = some e := ⟨l[k]'(by have := Hn.out; omega), List.getElem?_eq_getElem _⟩
          obtain ⟨mb, mo, rfl, hmb, hma⟩ := EvsAt.open_n (H.out.below Hcr.out) Hn.out (by omega)
          have L1 := (hma k e hE).load
          obtain ⟨fe, hfe⟩ : ∃ u, u = failedB e.e := ⟨_, rfl⟩
          have hfa := failed19_any e wr
          rw [← hfe] at hfa
          have HFa := hide hfa
          have Hfe := hide hfe
          have HE := hide (evs_at hE)
          clear hma hfa hfe hE
          go_wp2_with fail
          refine HFa.out.mono ?_
          rintro e9 w8 ⟨rfl, hb8⟩
          have Hc8 := hide (below2 Hcr.out hb8)
          have Hb8 := hide (below2 Hbr.out hb8)
          have hb18 := below2 hbr hb8
          clear L1 hb8 HFa
          go_wp2_with fail
          go_loopw [11, 12] (fun vin vi wx => ∃ i : Nat, i ≤ p ∧ vi = .int .i64 i ∧ Hid (vin = .bool (fe || (order.take i).contains (k : Int))) ∧ ∃ qd, wx = w8.drewN qd) (fun _ vi _ => p - (intOf vi).toNat)
          case atStart => exact ⟨0, Nat.zero_le _, rfl, hide (by simp), 0, rfl⟩
          case round =>
            obtain ⟨i, hi, rfl, Hin, qd, rfl⟩ := hrel
            obtain ⟨u, hu⟩ : ∃ u, u = (fe || (order.take i).contains (k : Int)) := ⟨_, rfl⟩
            rw [← hu] at Hin
            have hin := Hin.out
            subst hin
            have Hu := hide hu
            clear hu Hin
            by_cases hip : i < p
            · have hiI : (i : Int) < (p : Int) := by omega
              obtain ⟨x, hx⟩ : ∃ x, order[i]? = some x := ⟨order[i]'(by have := Hp.out; omega), List.getElem?_eq_getElem _⟩
              obtain ⟨ob, oo, _, hv, -, -, hob, hoc⟩ := (Ho.out.below Hc8.out).open_ (by omega)
              cases hv
              have s0 := hoc i (.int .i64 x) (by simp [intL, hx])
              have Hct := hide (contains_take (k := (k : Int)) hx)
              clear hoc hx
              cases u with
              | true =>
                go_wp2
                go_roundw
                case rel => exact ⟨i + 1, by omega, by go_num, hide (by rw [Hct.out, ← Bool.or_assoc, ← Hu.out]; simp []), qd, rfl⟩
                case measure => simp [intOf]; omega
              | false =>
                by_cases hxk : x = (k : Int)
                · have b0 : (x == (k : Int)) = true := by simpa using hxk
                  go_wp2
                  go_roundw
                  case rel => exact ⟨i + 1, by omega, by go_num, hide (by rw [Hct.out, ← Bool.or_assoc, ← Hu.out]; simp [b0]), qd, rfl⟩
                  case measure => simp [intOf]; omega
                · have b0 : (x == (k : Int)) = false := by simpa using hxk
                  go_wp2
                  go_roundw
                  case rel => exact ⟨i + 1, by omega, by go_num, hide (by rw [Hct.out, ← Bool.or_assoc, ← Hu.out]; simp [b0]), qd, rfl⟩
                  case measure => simp [intOf]; omega
            · have hip2 : i = p := by omega
              subst hip2
              have hur : u = (failedB e.e || order.contains (k : Int)) := by rw [Hu.out, Hfe.out, List.take_of_length_le (by rw [← Hp.out]; exact Nat.le_refl _)]
              have hfk : failK (evsOf l) (k : Int) = failedB e.e := by unfold failK; rw [Int.toNat_natCast, HE.out]
              cases u with
              | true =>
                have hlb : leastB (newS a ts b c) (evsOf l) f order k = none := by unfold leastB; rw [hfk, if_pos hur.symm]
                have Hlb := hide hlb
                clear hur hfk hlb
                go_wp2
                go_roundw
                case rel => exact ⟨k + 1, by omega, by go_num, hide (fun q hq => by
                  by_cases hqk : q = k
                  · rw [hqk]; exact Hlb.out
                  · exact Hq.out q (by omega)), below_drewN hb18 qd⟩
                case measure => simp [intOf]; omega
              | false =>
                have hlb : leastB (newS a ts b c) (evsOf l) f order k = leastS (newS a ts b c) (evsOf l) f (order ++ [(k : Int)]) := by unfold leastB; rw [hfk, ← hur]; rfl
                have hkn : (k : Int) ∉ order := fun h => by
                  rw [List.contains_iff_mem.2 h, Bool.or_true] at hur
                  cases hur
                have Hlb := hide hlb
                have hcd := below_drewN Hc8.out qd
                have hbd := below_drewN Hb8.out qd
                have h1d := below_drewN hb18 qd
                obtain ⟨W8, hW8⟩ : ∃ x, x = w8.drewN qd := ⟨_, rfl⟩
                rw [← hW8] at hcd hbd h1d ⊢
                obtain ⟨v2, w2, hap1, ho2, hb2, -⟩ := append_ints (W8.alloc (.cells #[] 3)) W8.heap.size (.slice (some ⟨W8.heap.size, 0, none⟩) 0 0) 0 [] (World.ownsRow_made W8 #[] 0 (Nat.le_refl _) (by decide) rfl) (.slice AO i co) i order ((Ho.out.below hcd).alloc _) (by omega) (by simp)
                have hb82 := (below_new W8 (.cells #[] 3)).trans hb2
                rw [Nat.zero_add, List.nil_append] at ho2
                obtain ⟨v3, w3, hap2, ho3, hb3, -⟩ := append_ints (w2.alloc (.cells #[.int .i64 (k : Int)] 3)) W8.heap.size v2 i order (ho2.alloc _) _ 1 [(k : Int)] (rd_one w2 _ _) (by omega) (by have := hb82.size; simp; omega)
                have hb83 := (hb82.alloc hb82.size (.cells #[.int .i64 (k : Int)] 3)).trans hb3
                have Hc3 := hide (below2 hcd hb83)
                have Hb3 := hide (below2 hbd hb83)
                have h13 := below2 h1d hb83
                have hx := HBox.out w3 Hb3.out
                obtain ⟨z0, z1, z2, z3, zf, zl⟩ := row4 hx
                have HI3 := hide (HIH.out k v3 w3 Hc3.out hlt hkn (Rd.of_own ho3))
                rw [← Hlb.out] at HI3
                clear hx ho2 ho3 hb2 hb3 hb82 hb83 hcd hbd h1d hW8 hlb hkn hfk hur
                go_wp2_with (first | (at_builtin; refine Go.Lib.wpList_append_run_sl _ rfl _ _ 27 rfl _ _ rfl rfl hap1 ?_) | (at_builtin; refine Go.Lib.wpList_append_run_sl _ rfl _ _ 27 rfl _ _ rfl rfl hap2 ?_))
                refine HI3.out.mono ?_
                rintro e9 w9 ⟨vr, rfl, hrd, hb9⟩
                have Hc9 := hide (below2 Hc3.out hb9)
                have h19 := below2 h13 hb9
                cases hres : leastB (newS a ts b c) (evsOf l) f order k with
                | none =>
                  have Hres := hide hres
                  simp only [Option.isSome_none]
                  clear hrd hb9 hres
                  go_wp2
                  go_roundw
                  case rel => exact ⟨k + 1, by omega, by go_num, hide (fun q hq => by
                    by_cases hqk : q = k
                    · rw [hqk]; exact Hres.out
                    · exact Hq.out q (by omega)), h19⟩
                  case measure => simp [intOf]; omega
                | some r =>
                  have Hres := hide hres
                  have Hrd := hide (hrd r hres)
                  simp only [Option.isSome_some]
                  clear hrd hb9 hres
                  go_wp2
                  go_ret2
                  rw [HR.out, least_some (by rw [← HJ.out]; exact Hj.out) (by rw [evs_len, ← Hn.out]; exact hlt) Hq.out Hres.out]
                  exact ⟨_, rfl, fun o ho => (by cases ho; exact Hrd.out), Hc9.out⟩
        · have hkn : k = n := by omega
          subst hkn
          go_wp2
          go_ret2
          rw [HR.out, least_none (by rw [← HJ.out]; exact Hj.out) (by rw [evs_len, ← Hn.out]; exact Hq.out)]
          exact ⟨_, rfl, fun o ho => (by cases ho), Hcr.out⟩

end Go.Proofs.YtkkflnmfghegnaaGreatDoor
