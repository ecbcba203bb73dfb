/-
  The walks of lin.pairs at Check's two questions, and of Check. Conditions: none. The walk of lin.Check. Conditions: none. The walk of lin.whole: whether an order has what it must have, and nothing else. Conditions: rows of at most a hundred elements.
-/
import Derived.Test.YtkkflnmfghegnaaGreatDoorLSmall
import Derived.Test.YtkkflnmfghegnaaGreatDoorShelf
namespace Go.Proofs.YtkkflnmfghegnaaGreatDoor
open Go.RowKit

/-- No pair so far. -/
def NoPair (such : Ev → Ev → Bool) (l : List Ev) (k : Nat) : Prop := ∀ i j a b, i < k → j < i → l[j]? = some a → l[i]? = some b → such a b = false
/-- None with the k-th either, of the first m. -/
def NoMore (such : Ev → Ev → Bool) (l : List Ev) (k m : Nat) : Prop := ∀ j a b, j < m → l[j]? = some a → l[k]? = some b → such a b = false

theorem NoPair.succ {such : Ev → Ev → Bool} {l : List Ev} {k : Nat} (h : NoPair such l k) (h' : NoMore such l k k) : NoPair such l (k + 1) := fun i j a b hi hj ha hb => by
  by_cases hik : i = k
  · subst hik; exact h' j a b hj ha hb
  · exact h i j a b (by omega) hj ha hb
theorem NoPair.all {such : Ev → Ev → Bool} {l : List Ev} (h : NoPair such l l.length) : pairsB such l = false := by
  cases hp : pairsB such l with
  | false => rfl
  | true =>
    obtain ⟨i, j, a, b, hj, ha, hb, hs⟩ := (pairsB_iff _ _).1 hp
    have hi := (List.getElem?_eq_some_iff.1 hb).1
    rw [h i j a b hi hj ha hb] at hs
    cases hs
theorem NoMore.succ {such : Ev → Ev → Bool} {l : List Ev} {k m : Nat} {x y : Ev} (h : NoMore such l k m) (hx : l[m]? = some x) (hy : l[k]? = some y) (hs : such x y = false) : NoMore such l k (m + 1) := fun j a b hj ha hb => by
  by_cases hjm : j = m
  · subst hjm
    rw [hx] at ha
    rw [hy] at hb
    cases ha
    cases hb
    exact hs
  · exact h j a b (by omega) ha hb
theorem evs_at {l : List Em} {k : Nat} {a : Em} (h : l[k]? = some a) : (evsOf l)[k]? = some a.e := by simp [evsOf, h]
theorem evs_len (l : List Em) : (evsOf l).length = l.length := by simp [evsOf]

set_option maxRecDepth 100000 in
set_option maxHeartbeats 1600000 in
theorem pairs_same (l : List Em) (v : Value) (w : World) (h : EvsAt w v l) :
    Calls Tryz.prog 29 #[v, .func (.func 30) #[] #[]] w fun e w' => e = .returned (.bool (pairsB sameB (evsOf l))) ∧ Below w.heap.size w w' := by
  obtain ⟨n, hn⟩ : ∃ n, n = l.length := ⟨_, rfl⟩
  obtain ⟨A, cc, rfl, hnc, hcm, -⟩ := id h.1.shape
  have hbig : n ≤ 9223372036854775807 := by unfold maxLen at hcm; omega
  obtain ⟨R, hR⟩ : ∃ R, R = pairsB sameB (evsOf l) := ⟨_, rfl⟩
  rw [← hR]
  rw [← hn] at h ⊢
  have HC := hide (fun a b w' => same_any a b w')
  have HR := hide hR
  have Hn := hide hn
  have H := hide h
  have Hcm := hide hcm
  clear hR hn h hcm
  go_enter Tryz.func29, Tryz.ntmps29
  go_wp2_with fail
  go_loopw [11] (fun i wr => ∃ k : Nat, k ≤ n ∧ i = .int .i64 k ∧ Hid (NoPair sameB (evsOf l) k) ∧ Below w.heap.size w wr) (fun i _ => n - (intOf i).toNat)
  case atStart => exact ⟨0, Nat.zero_le _, rfl, hide (fun i j a b hi => by omega), Below.refl _ _⟩
  case round =>
    rename World => wo
    obtain ⟨k, hk, rfl, Hq, hbel⟩ := hrel
    by_cases hlt : k < n
    · obtain ⟨b, o, rfl, hb, hat⟩ := EvsAt.open_n (H.out.below hbel) Hn.out (by omega)
      obtain ⟨x, hx⟩ : ∃ x, l[k]? = some x := ⟨l[k]'(by have := Hn.out; omega), List.getElem?_eq_getElem _⟩
      have L := (hat k x hx).load
      have hkc : k ≤ cc := by have := Hn.out; omega
      have hkn' : (k : Int) < (n : Int) := by omega
      have Hat := hide hat
      have Hx := hide hx
      have Hb := hide hb
      clear hat hx hb
      go_wp2_with fail
      obtain ⟨Z, hZ⟩ : ∃ Z, Z = wo.alloc (evO x) := ⟨_, rfl⟩
      have hZb : Below w.heap.size w Z := by rw [hZ]; exact below2 hbel (below_new wo _)
      have hZw : Below wo.heap.size wo Z := by rw [hZ]; exact below_new wo _
      have hZx : Z.rangeAt wo.heap.size 0 (cellsE x) := by rw [hZ]; exact rng_new wo x _
      have hZl : wo.heap.size < Z.heap.size := by rw [hZ]; simp
      rw [← hZ]
      clear hZ L hkn'
      have HZb := hide hZb
      have HZw := hide hZw
      have HZx := hide hZx
      have HZl := hide hZl
      clear hZb hZw hZx hZl
      go_loopw [20] (fun i wi => ∃ m : Nat, m ≤ k ∧ i = .int .i64 m ∧ Hid (NoMore sameB (evsOf l) k m) ∧ Below Z.heap.size Z wi) (fun i _ => k - (intOf i).toNat)
      case atStart => exact ⟨0, Nat.zero_le _, rfl, hide (fun j a b hj => by omega), Below.refl _ _⟩
      case round =>
        obtain ⟨m, hm, rfl, Hqm, hbi⟩ := hrel
        by_cases hmk : m < k
        · obtain ⟨y, hy⟩ : ∃ y, l[m]? = some y := ⟨l[m]'(by have := Hn.out; omega), List.getElem?_eq_getElem _⟩
          have hbw : Below wo.heap.size wo wr := HZw.out.trans (hbi.mono HZw.out.size)
          have L := ((Hat.out m y hy).below hbw).load
          have hLx : ∀ w', Below wr.heap.size wr w' → (loadEv ⟨wo.heap.size, 0, none⟩).run Tryz.prog w' = .ok (evV x) w' := fun w' hb' => run_loadEv (rng_below (rng_below HZx.out HZl.out hbi) (Nat.lt_of_lt_of_le HZl.out hbi.size) hb')
          have L2 := hLx _ (below_new wr (evO y))
          have hmk' : (m : Int) < (k : Int) := by omega
          clear hLx hbw
          go_wp2_with fail
          refine (HC.out y x _).mono ?_
          rintro e w1 ⟨rfl, hb1⟩
          have hb9 := below2 hbi (below2 (below_new wr _) hb1)
          have Hb9 := hide hb9
          clear hb9 hb1 L L2
          cases hs : sameB y.e x.e with
          | false =>
            have Hs := hide hs
            clear hs
            go_wp2
            go_roundw
            case rel => exact ⟨m + 1, by omega, by go_num, hide (Hqm.out.succ (evs_at hy) (evs_at Hx.out) Hs.out), Hb9.out⟩
            case measure => simp [intOf]; omega
          | true =>
            have hRt : R = true := by rw [HR.out]; exact (pairsB_iff _ _).2 ⟨k, m, y.e, x.e, hmk, evs_at hy, evs_at Hx.out, hs⟩
            have HRt := hide hRt
            clear hs hRt HR
            go_wp2
            go_ret
            exact ⟨by rw [HRt.out]; rfl, HZb.out.trans (Hb9.out.mono HZb.out.size)⟩
        · have hmk2 : m = k := by omega
          subst hmk2
          have Hqk := hide (Hq.out.succ Hqm.out)
          clear hmk
          go_wp2
          go_roundw
          case rel => exact ⟨m + 1, by omega, by go_num, Hqk, HZb.out.trans (hbi.mono HZb.out.size)⟩
          case measure => simp [intOf]; omega
    · have hkn : k = n := by omega
      subst hkn
      have hRf : R = false := by rw [HR.out]; exact NoPair.all (by rw [evs_len, ← Hn.out]; exact Hq.out)
      have HRf := hide hRf
      clear hRf HR hlt
      go_wp2
      go_ret
      exact ⟨by rw [HRf.out]; rfl, hbel⟩
set_option maxRecDepth 100000 in
set_option maxHeartbeats 1600000 in
theorem pairs_both (l : List Em) (v : Value) (w : World) (h : EvsAt w v l) :
    Calls Tryz.prog 29 #[v, .func (.func 31) #[] #[]] w fun e w' => e = .returned (.bool (pairsB bothB (evsOf l))) ∧ Below w.heap.size w w' := by
  obtain ⟨n, hn⟩ : ∃ n, n = l.length := ⟨_, rfl⟩
  obtain ⟨A, cc, rfl, hnc, hcm, -⟩ := id h.1.shape
  have hbig : n ≤ 9223372036854775807 := by unfold maxLen at hcm; omega
  obtain ⟨R, hR⟩ : ∃ R, R = pairsB bothB (evsOf l) := ⟨_, rfl⟩
  rw [← hR]
  rw [← hn] at h ⊢
  have HC := hide (fun a b w' => both_any a b w')
  have HR := hide hR
  have Hn := hide hn
  have H := hide h
  have Hcm := hide hcm
  clear hR hn h hcm
  go_enter Tryz.func29, Tryz.ntmps29
  go_wp2_with fail
  go_loopw [11] (fun i wr => ∃ k : Nat, k ≤ n ∧ i = .int .i64 k ∧ Hid (NoPair bothB (evsOf l) k) ∧ Below w.heap.size w wr) (fun i _ => n - (intOf i).toNat)
  case atStart => exact ⟨0, Nat.zero_le _, rfl, hide (fun i j a b hi => by omega), Below.refl _ _⟩
  case round =>
    rename World => wo
    obtain ⟨k, hk, rfl, Hq, hbel⟩ := hrel
    by_cases hlt : k < n
    · obtain ⟨b, o, rfl, hb, hat⟩ := EvsAt.open_n (H.out.below hbel) Hn.out (by omega)
      obtain ⟨x, hx⟩ : ∃ x, l[k]? = some x := ⟨l[k]'(by have := Hn.out; omega), List.getElem?_eq_getElem _⟩
      have L := (hat k x hx).load
      have hkc : k ≤ cc := by have := Hn.out; omega
      have hkn' : (k : Int) < (n : Int) := by omega
      have Hat := hide hat
      have Hx := hide hx
      have Hb := hide hb
      clear hat hx hb
      go_wp2_with fail
      obtain ⟨Z, hZ⟩ : ∃ Z, Z = wo.alloc (evO x) := ⟨_, rfl⟩
      have hZb : Below w.heap.size w Z := by rw [hZ]; exact below2 hbel (below_new wo _)
      have hZw : Below wo.heap.size wo Z := by rw [hZ]; exact below_new wo _
      have hZx : Z.rangeAt wo.heap.size 0 (cellsE x) := by rw [hZ]; exact rng_new wo x _
      have hZl : wo.heap.size < Z.heap.size := by rw [hZ]; simp
      rw [← hZ]
      clear hZ L hkn'
      have HZb := hide hZb
      have HZw := hide hZw
      have HZx := hide hZx
      have HZl := hide hZl
      clear hZb hZw hZx hZl
      go_loopw [20] (fun i wi => ∃ m : Nat, m ≤ k ∧ i = .int .i64 m ∧ Hid (NoMore bothB (evsOf l) k m) ∧ Below Z.heap.size Z wi) (fun i _ => k - (intOf i).toNat)
      case atStart => exact ⟨0, Nat.zero_le _, rfl, hide (fun j a b hj => by omega), Below.refl _ _⟩
      case round =>
        obtain ⟨m, hm, rfl, Hqm, hbi⟩ := hrel
        by_cases hmk : m < k
        · obtain ⟨y, hy⟩ : ∃ y, l[m]? = some y := ⟨l[m]'(by have := Hn.out; omega), List.getElem?_eq_getElem _⟩
          have hbw : Below wo.heap.size wo wr := HZw.out.trans (hbi.mono HZw.out.size)
          have L := ((Hat.out m y hy).below hbw).load
          have hLx : ∀ w', Below wr.heap.size wr w' → (loadEv ⟨wo.heap.size, 0, none⟩).run Tryz.prog w' = .ok (evV x) w' := fun w' hb' => run_loadEv (rng_below (rng_below HZx.out HZl.out hbi) (Nat.lt_of_lt_of_le HZl.out hbi.size) hb')
          have L2 := hLx _ (below_new wr (evO y))
          have hmk' : (m : Int) < (k : Int) := by omega
          clear hLx hbw
          go_wp2_with fail
          refine (HC.out y x _).mono ?_
          rintro e w1 ⟨rfl, hb1⟩
          have hb9 := below2 hbi (below2 (below_new wr _) hb1)
          have Hb9 := hide hb9
          clear hb9 hb1 L L2
          cases hs : bothB y.e x.e with
          | false =>
            have Hs := hide hs
            clear hs
            go_wp2
            go_roundw
            case rel => exact ⟨m + 1, by omega, by go_num, hide (Hqm.out.succ (evs_at hy) (evs_at Hx.out) Hs.out), Hb9.out⟩
            case measure => simp [intOf]; omega
          | true =>
            have hRt : R = true := by rw [HR.out]; exact (pairsB_iff _ _).2 ⟨k, m, y.e, x.e, hmk, evs_at hy, evs_at Hx.out, hs⟩
            have HRt := hide hRt
            clear hs hRt HR
            go_wp2
            go_ret
            exact ⟨by rw [HRt.out]; rfl, HZb.out.trans (Hb9.out.mono HZb.out.size)⟩
        · have hmk2 : m = k := by omega
          subst hmk2
          have Hqk := hide (Hq.out.succ Hqm.out)
          clear hmk
          go_wp2
          go_roundw
          case rel => exact ⟨m + 1, by omega, by go_num, Hqk, HZb.out.trans (hbi.mono HZb.out.size)⟩
          case measure => simp [intOf]; omega
    · have hkn : k = n := by omega
      subst hkn
      have hRf : R = false := by rw [HR.out]; exact NoPair.all (by rw [evs_len, ← Hn.out]; exact Hq.out)
      have HRf := hide hRf
      clear hRf HR hlt
      go_wp2
      go_ret
      exact ⟨by rw [HRf.out]; rfl, hbel⟩

end Go.Proofs.YtkkflnmfghegnaaGreatDoor

namespace Go.Proofs.YtkkflnmfghegnaaGreatDoor
open Go.RowKit

theorem check_timed {l : List Ev} {k : Nat} {e : Ev} (h : l[k]? = some e) (ht : timedB e = false) : checkE l = 10 := by
  have : l.all timedB = false := by
    rw [List.all_eq_false]
    exact ⟨e, List.mem_of_getElem? h, by rw [ht]; simp⟩
  unfold checkE
  rw [if_pos this]
theorem all_timed {l : List Ev} (h : ∀ q e, q < l.length → l[q]? = some e → timedB e = true) : l.all timedB = true := by
  rw [List.all_eq_true]
  intro e he
  obtain ⟨q, hq, hqe⟩ := List.getElem_of_mem he
  exact h q e hq (by rw [List.getElem?_eq_getElem hq, hqe])

set_option maxRecDepth 100000 in
set_option maxHeartbeats 1600000 in
theorem lincheck_any (l : List Em) (v : Value) (w : World) (h : EvsAt w v l) :
    Calls Tryz.prog 10 #[v] w fun e w' => e = .returned (.int .i64 (checkE (evsOf l))) ∧ Below w.heap.size w w' := by
  obtain ⟨n, hn⟩ : ∃ n, n = l.length := ⟨_, rfl⟩
  have HP := hide (fun w' (hb : Below w.heap.size w w') => pairs_same l v w' (h.below hb))
  have HQ := hide (fun w' (hb : Below w.heap.size w w') => pairs_both l v w' (h.below hb))
  obtain ⟨A, cc, rfl, hnc, hcm, -⟩ := id h.1.shape
  have hbig : n ≤ 9223372036854775807 := by unfold maxLen at hcm; omega
  obtain ⟨R, hR⟩ : ∃ R, R = checkE (evsOf l) := ⟨_, rfl⟩
  rw [← hR]
  rw [← hn] at h HP HQ ⊢
  have HC := hide (fun a w' => timed_any a w')
  have HR := hide hR
  have Hn := hide hn
  have H := hide h
  have Hcm := hide hcm
  clear hR hn h hcm hnc
  go_enter Tryz.func10, Tryz.ntmps10
  go_wp2_with fail
  go_loopw [7] (fun i wr => ∃ k : Nat, k ≤ n ∧ i = .int .i64 k ∧ Hid (∀ q e, q < k → (evsOf l)[q]? = some e → timedB e = true) ∧ Below w.heap.size w wr) (fun i _ => n - (intOf i).toNat)
  case atStart => exact ⟨0, Nat.zero_le _, rfl, hide (fun q e hq => by omega), Below.refl _ _⟩
  case round =>
    obtain ⟨k, hk, rfl, Hq, hbel⟩ := hrel
    by_cases hlt : k < n
    · obtain ⟨b, o, rfl, hb, hat⟩ := EvsAt.open_n (H.out.below hbel) Hn.out (by omega)
      obtain ⟨x, hx⟩ : ∃ x, l[k]? = some x := ⟨l[k]'(by have := Hn.out; omega), List.getElem?_eq_getElem _⟩
      have L := (hat k x hx).load
      have Hx := hide hx
      have hkn' : (k : Int) < (n : Int) := by omega
      clear hat hx hb
      go_wp2_with fail
      refine (HC.out x _).mono ?_
      rintro e w1 ⟨rfl, hb1⟩
      have hb9 := below2 hbel (below2 (below_new wr _) hb1)
      have Hb9 := hide hb9
      clear hb9 hb1 L
      cases ht : timedB x.e with
      | false =>
        have hRt : R = 10 := by rw [HR.out]; exact check_timed (evs_at Hx.out) ht
        have HRt := hide hRt
        clear ht hRt HR
        go_wp2
        go_ret
        exact ⟨by rw [HRt.out]; rfl, Hb9.out⟩
      | true =>
        have Ht := hide ht
        clear ht
        go_wp2
        go_roundw
        case rel => exact ⟨k + 1, by omega, by go_num, hide (fun q e hq he => by
          by_cases hqk : q = k
          · subst hqk
            rw [evs_at Hx.out] at he
            cases he
            exact Ht.out
          · exact Hq.out q e (by omega) he), Hb9.out⟩
        case measure => simp [intOf]; omega
    · have hkn : k = n := by omega
      subst hkn
      have Hall := hide (all_timed (l := evsOf l) (fun q e hq => Hq.out q e (by rw [evs_len, ← Hn.out] at hq; exact hq)))
      clear hlt
      go_wp2_with fail
      refine (HP.out _ hbel).mono ?_
      rintro e w1 ⟨rfl, hb1⟩
      have Hb1 := hide (below2 hbel hb1)
      clear hb1
      cases hs : pairsB sameB (evsOf l) with
      | true =>
        have hRt : R = 15 := by rw [HR.out]; unfold checkE; rw [if_neg (by rw [Hall.out]; simp), if_pos hs]
        have HRt := hide hRt
        clear hs hRt HR
        go_wp2
        go_ret
        exact ⟨by rw [HRt.out]; rfl, Hb1.out⟩
      | false =>
        have Hs := hide hs
        clear hs
        go_wp2_with fail
        refine (HQ.out _ Hb1.out).mono ?_
        rintro e w2 ⟨rfl, hb2⟩
        have Hb2 := hide (below2 Hb1.out hb2)
        clear hb2
        cases ho : pairsB bothB (evsOf l) with
        | true =>
          have hRt : R = 18 := by rw [HR.out]; unfold checkE; rw [if_neg (by rw [Hall.out]; simp), if_neg (by rw [Hs.out]; simp), if_pos ho]
          have HRt := hide hRt
          clear ho hRt HR
          go_wp2
          go_ret
          exact ⟨by rw [HRt.out]; rfl, Hb2.out⟩
        | false =>
          have hRt : R = 0 := by rw [HR.out]; unfold checkE; rw [if_neg (by rw [Hall.out]; simp), if_neg (by rw [Hs.out]; simp), if_neg (by rw [ho]; simp)]
          have HRt := hide hRt
          clear ho hRt HR
          go_wp2
          go_ret
          exact ⟨by rw [HRt.out]; rfl, Hb2.out⟩

end Go.Proofs.YtkkflnmfghegnaaGreatDoor

namespace Go.Proofs.YtkkflnmfghegnaaGreatDoor
open Go.RowKit

abbrev intL (l : List Int) : List Value := l.map (Value.int .i64)
theorem intL_get (l : List Int) (k : Nat) (x : Int) (h : l[k]? = some x) : (intL l)[k]? = some (.int .i64 x) := by simp [intL, h]

/-- Does a row's beginning contain a number? -/
theorem contains_pre (l : List Int) (b o c i : Nat) (x : Int) (w : World) (hi : i ≤ l.length) (hl : l.length ≤ 1000) (hc : ∀ j u, (intL l)[j]? = some u → w.cell? ⟨b, o + j, none⟩ = some u) :
    Calls Tryz.prog 47 #[.slice (some ⟨b, o, none⟩) i c, .int .i64 x] w fun e w' => e = .returned (.bool ((l.take i).contains x)) ∧ w' = w :=
  Tryz.slices_Contains_int b o i c l x w hi (by omega) fun j hj => by
    have := hc j (.int .i64 l[j]) (by simp [intL, List.getElem?_eq_getElem hj])
    rw [this]
    simp [List.getD_eq_getElem?_getD, List.getElem?_eq_getElem hj]

theorem contains_any (l : List Int) (v : Value) (x : Int) (w : World) (h : Rd w v 1 l.length (intL l)) (hl : l.length ≤ 1000) :
    Calls Tryz.prog 47 #[v, .int .i64 x] w fun e w' => e = .returned (.bool (l.contains x)) ∧ w' = w := by
  by_cases hn : l.length = 0
  · obtain ⟨A, c, rfl, -⟩ := h.shape
    have : l = [] := List.eq_nil_of_length_eq_zero hn
    subst this
    exact (Tryz.slices_Contains_int_empty A c x w).mono fun _ _ h => by simpa using h
  · obtain ⟨b, o, c, rfl, -, -, -, hc⟩ := h.open_ (by omega)
    have := contains_pre l b o c l.length x w (Nat.le_refl _) hl hc
    rwa [List.take_length] at this

theorem whole_arg {l : List Ev} {o : List Int} {i : Nat} (hi : i < o.length) (h : ∀ q, q < i → argB l.length o q = false) (ha : argB l.length o i = true) : wholeS l o = ((i : Int), 1) := by
  unfold wholeS
  rw [firstB_some hi h ha]
theorem whole_miss {l : List Ev} {o : List Int} {k : Nat} (h : ∀ q, q < o.length → argB l.length o q = false) (hk : k < l.length) (hq : ∀ q, q < k → missB l o q = false) (hm : missB l o k = true) : wholeS l o = ((k : Int), 14) := by
  unfold wholeS
  rw [firstB_none h, firstB_some hk hq hm]
theorem whole_ok {l : List Ev} {o : List Int} (h : ∀ q, q < o.length → argB l.length o q = false) (hq : ∀ q, q < l.length → missB l o q = false) : wholeS l o = (0, 0) := by
  unfold wholeS
  rw [firstB_none h, firstB_none hq]
theorem arg_at {n : Nat} {o : List Int} {i : Nat} {k : Int} (h : o[i]? = some k) : argB n o i = (decide (k < 0) || decide ((n : Int) ≤ k) || (o.take i).contains k) := by
  unfold argB
  rw [h]
theorem miss_at {l : List Ev} {o : List Int} {k : Nat} {e : Ev} (h : l[k]? = some e) : missB l o k = (bindB e && !o.contains (k : Int)) := by
  unfold missB
  rw [h]
theorem ret_two {a b c d : Int} (h1 : a = c) (h2 : b = d) : Ending.returned (.tuple #[.int .i64 a, .int .i64 b]) = .returned (.tuple #[.int .i64 c, .int .i64 d]) := by rw [h1, h2]

set_option maxRecDepth 100000 in
set_option maxHeartbeats 1600000 in
theorem whole_any (l : List Em) (v : Value) (order : List Int) (vo : Value) (w : World) (h : EvsAt w v l) (ho : Rd w vo 1 order.length (intL order)) (hol : order.length ≤ 1000) (hll : l.length ≤ 1000) :
    Calls Tryz.prog 37 #[v, vo] w fun e w' => e = .returned (.tuple #[.int .i64 (wholeS (evsOf l) order).1, .int .i64 (wholeS (evsOf l) order).2]) ∧ Below w.heap.size w w' := by
  obtain ⟨n, hn⟩ : ∃ n, n = l.length := ⟨_, rfl⟩
  obtain ⟨p, hp⟩ : ∃ p, p = order.length := ⟨_, rfl⟩
  have HCo := hide (fun x w' (hb : Below w.heap.size w w') => contains_any order vo x w' (ho.below hb) hol)
  obtain ⟨A, cc, rfl, hnc, -⟩ := id h.1.shape
  obtain ⟨A', cc', rfl, hnc', -⟩ := id ho.shape
  obtain ⟨R, hR⟩ : ∃ R, R = wholeS (evsOf l) order := ⟨_, rfl⟩
  rw [← hR]
  rw [← hp] at ho HCo hnc' ⊢
  rw [← hn] at h hnc ⊢
  have hbig : n ≤ 9223372036854775807 := by omega
  have hbigp : p ≤ 9223372036854775807 := by omega
  have HB := hide (fun a w' => binding_any a w')
  have HR := hide hR
  have Hn := hide hn
  have Hp := hide hp
  have H := hide h
  have Ho := hide ho
  have Hol := hide hol
  clear hR hn h hp ho hol hll
  go_enter Tryz.func37, Tryz.ntmps37
  go_wp2_with fail
  go_loopw [12] (fun i wr => ∃ k : Nat, k ≤ p ∧ i = .int .i64 k ∧ Hid (∀ q, q < k → argB (evsOf l).length order q = false) ∧ Below w.heap.size w wr) (fun i _ => p - (intOf i).toNat)
  case atStart => exact ⟨0, Nat.zero_le _, rfl, hide (fun q hq => by omega), Below.refl _ _⟩
  case round =>
    obtain ⟨k, hk, rfl, Hq, hbel⟩ := hrel
    by_cases hlt : k < p
    · obtain ⟨x, hx⟩ : ∃ x, order[k]? = some x := ⟨order[k]'(by have := Hp.out; omega), List.getElem?_eq_getElem _⟩
      obtain ⟨b, o, c, hv, -, -, hb, hc⟩ := (Ho.out.below hbel).open_ (by omega)
      cases hv
      have hx0 := hc k _ (intL_get order k x hx)
      have HCp := hide (contains_pre order b o cc' k x wr (by have := Hp.out; omega) Hol.out hc)
      have ha := arg_at (n := (evsOf l).length) hx
      have hkc : k ≤ cc' := by omega
      have hkp : (k : Int) < (p : Int) := by omega
      rw [evs_len, ← Hn.out] at ha
      clear hc
      by_cases h1 : x < 0
      · have hRk : R = ((k : Int), 1) := by rw [HR.out]; exact whole_arg (by rw [← Hp.out]; exact hlt) Hq.out (by rw [evs_len, ← Hn.out, ha]; simp [h1])
        have HRk := hide hRk
        clear hRk HR ha hx
        go_wp2
        go_ret2
        exact ⟨by rw [HRk.out]; rfl, hbel⟩
      · by_cases h2 : (n : Int) ≤ x
        · have hRk : R = ((k : Int), 1) := by rw [HR.out]; exact whole_arg (by rw [← Hp.out]; exact hlt) Hq.out (by rw [evs_len, ← Hn.out, ha]; simp [h2])
          have HRk := hide hRk
          clear hRk HR ha hx
          go_wp2
          go_ret2
          exact ⟨by rw [HRk.out]; rfl, hbel⟩
        · obtain ⟨t, ht⟩ : ∃ t, t = (order.take k).contains x := ⟨_, rfl⟩
          rw [← ht] at ha HCp
          have hh1 : ¬ x < 0 := h1
          have hh2 : ¬ (n : Int) ≤ x := h2
          cases t with
          | true =>
            have hRk : R = ((k : Int), 1) := by rw [HR.out]; exact whole_arg (by rw [← Hp.out]; exact hlt) Hq.out (by rw [evs_len, ← Hn.out, ha]; simp)
            have HRk := hide hRk
            clear hRk HR ha hx ht
            go_wp2_with fail
            refine HCp.out.mono ?_
            rintro e w1 ⟨rfl, rfl⟩
            go_wp2
            go_ret2
            exact ⟨by rw [HRk.out]; rfl, hbel⟩
          | false =>
            have Ha := hide (show argB (evsOf l).length order k = false by rw [evs_len, ← Hn.out, ha]; simp [h1, h2])
            clear ha hx ht
            go_wp2_with fail
            refine HCp.out.mono ?_
            rintro e w1 ⟨rfl, rfl⟩
            go_wp2
            go_roundw
            case rel => exact ⟨k + 1, by omega, by go_num, hide (fun q hq => by
              by_cases hqk : q = k
              · subst hqk; exact Ha.out
              · exact Hq.out q (by omega)), hbel⟩
            case measure => simp [intOf]; omega
    · have hkn : k = p := by omega
      subst hkn
      have Hall := Hq
      clear hlt Hq
      go_wp2_with fail
      go_loopw [36] (fun i wr => ∃ q : Nat, q ≤ n ∧ i = .int .i64 q ∧ Hid (∀ j, j < q → missB (evsOf l) order j = false) ∧ Below w.heap.size w wr) (fun i _ => n - (intOf i).toNat)
      case atStart => exact ⟨0, Nat.zero_le _, rfl, hide (fun q hq => by omega), hbel⟩
      case round =>
        obtain ⟨q, hq, rfl, Hq, hbel⟩ := hrel
        by_cases hlt : q < n
        · obtain ⟨b, o, rfl, hb, hat⟩ := EvsAt.open_n (H.out.below hbel) Hn.out (by omega)
          obtain ⟨x, hx⟩ : ∃ x, l[q]? = some x := ⟨l[q]'(by have := Hn.out; omega), List.getElem?_eq_getElem _⟩
          have L := (hat q x hx).load
          have hm := miss_at (o := order) (evs_at hx)
          have hqn : (q : Int) < (n : Int) := by omega
          clear hat hx hb
          obtain ⟨t, ht⟩ : ∃ t, t = bindB x.e := ⟨_, rfl⟩
          obtain ⟨u, hu⟩ : ∃ u, u = order.contains (q : Int) := ⟨_, rfl⟩
          have HBx := hide (fun w' => HB.out x w')
          have HCx := hide (fun w' hb => HCo.out (q : Int) w' hb)
          rw [← ht, ← hu] at hm
          rw [← ht] at HBx
          rw [← hu] at HCx
          clear ht hu
          go_wp2_with fail
          refine (HBx.out _).mono ?_
          rintro e w1 ⟨rfl, hb1⟩
          have hb9 := below2 hbel (below2 (below_new wr _) hb1)
          have Hb9 := hide hb9
          clear hb9 hb1 L
          cases t with
          | false =>
            have Hm := hide (show missB (evsOf l) order q = false by rw [hm]; rfl)
            clear hm
            go_wp2
            go_roundw
            case rel => exact ⟨q + 1, by omega, by go_num, hide (fun j hj => by
              by_cases hjq : j = q
              · subst hjq; exact Hm.out
              · exact Hq.out j (by omega)), Hb9.out⟩
            case measure => simp [intOf]; omega
          | true =>
            cases u with
            | true =>
              have Hm := hide (show missB (evsOf l) order q = false by rw [hm]; rfl)
              clear hm
              go_wp2_with fail
              refine (HCx.out _ Hb9.out).mono ?_
              rintro e w2 ⟨rfl, rfl⟩
              go_wp2
              go_roundw
              case rel => exact ⟨q + 1, by omega, by go_num, hide (fun j hj => by
                by_cases hjq : j = q
                · subst hjq; exact Hm.out
                · exact Hq.out j (by omega)), Hb9.out⟩
              case measure => simp [intOf]; omega
            | false =>
              have hRk : R = ((q : Int), 14) := by rw [HR.out]; exact whole_miss (fun j hj => Hall.out j (by rw [Hp.out]; exact hj)) (by rw [evs_len, ← Hn.out]; exact hlt) Hq.out (by rw [hm]; rfl)
              have HRk := hide hRk
              clear hRk HR hm
              go_wp2_with fail
              refine (HCx.out _ Hb9.out).mono ?_
              rintro e w2 ⟨rfl, rfl⟩
              go_wp2
              go_ret2
              exact ⟨by rw [HRk.out]; rfl, Hb9.out⟩
        · have hqn : q = n := by omega
          subst hqn
          have hRk : R = (0, 0) := by rw [HR.out]; exact whole_ok (fun j hj => Hall.out j (by rw [Hp.out]; exact hj)) (fun j hj => Hq.out j (by rw [evs_len, ← Hn.out] at hj; exact hj))
          have HRk := hide hRk
          clear hRk HR hlt
          go_wp2
          go_ret2
          exact ⟨by rw [HRk.out]; rfl, hbel⟩

end Go.Proofs.YtkkflnmfghegnaaGreatDoor
