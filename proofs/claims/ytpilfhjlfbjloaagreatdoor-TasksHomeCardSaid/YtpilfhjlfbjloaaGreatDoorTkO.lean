/-
  The walk of (*Task).Next where a call that is made once is left; of Turn. Conditions: a task's block, its calls. The walk of slices.Clone at orders. Conditions: a slice of up to 64 orders. The walk of tasks.New. Conditions: a slice of orders, their parts being numbers.
-/
import Derived.Test.YtpilfhjlfbjloaaGreatDoorTkLb
namespace Go.Proofs.YtpilfhjlfbjloaaGreatDoor
open Go.RowKit
attribute [local irreducible] fI


/-- A call that is made once. -/
structure OnC where
  kind : Int
  topic : Int
  cap : Int
  rank : Int
def flatOn (l : List OnC) : List Value := l.flatMap fun c => [.int .i64 c.kind, .int .i64 c.topic, .int .i64 0, .int .i64 c.cap, .int .i64 c.rank, .int .i64 0, .int .i64 0, .int .i64 0, .bool false, .slice none 0 0, .slice none 0 0]

set_option maxRecDepth 100000 in
set_option maxHeartbeats 3200000 in
theorem next_once (T : Nat) (K : Tk) (ov tb : Value) (G o n : Nat) (c : OnC) (l : List OnC) (code sub : Int) (gen count lost : Value) (mode source : Int) (hold : Bool) (flags epoch : Int) (gens wv : Value) (w : World) (hn : n = l.length + 1) (hnb : n ≤ 3)
    (hT : w.heap[T]? = some (tkO K ov tb (.slice (some ⟨G, o, none⟩) n n) .nilFunc)) (hG : G < w.heap.size) (hc : ∀ j u, (flatOn (c :: l))[j]? = some u → w.cell? ⟨G, o + j, none⟩ = some u) :
    Calls Tryz.prog 10 #[.pointer (some ⟨T, 0, none⟩), ansA code sub gen count lost mode source hold flags epoch gens wv] w fun e w' =>
      e = .returned (.tuple #[callV c.kind c.topic 0 c.cap c.rank 0 0 0 false nilS nilS, .bool true]) ∧ w'.heap[T]? = some (tkO K ov tb (if l = [] then .slice (some ⟨G, o, none⟩) 0 0 else .slice (some ⟨G, o + 11, none⟩) l.length l.length) .nilFunc) ∧ w.grownBy w' (some T) := by
  have hfn1 := fn_nil
  have hTl := block_lt hT
  have hb0 := below_new2 w (ansB code sub gen count lost mode source hold flags epoch gens wv) callZ
  have hTY := (hb0.block T hTl).trans hT
  have hRY := heap_alloc_new (w.alloc (ansB code sub gen count lost mode source hold flags epoch gens wv)) callZ
  rw [alloc_size] at hRY
  have hGY := grown_below hb0 T
  have g0 := (hb0.cell (p := ⟨G, o, none⟩) hG).trans (hc 0 _ rfl)
  have g1 := (hb0.cell (p := ⟨G, o + 1, none⟩) hG).trans (hc 1 _ rfl)
  have g2 := (hb0.cell (p := ⟨G, o + 2, none⟩) hG).trans (hc 2 _ rfl)
  have g3 := (hb0.cell (p := ⟨G, o + 3, none⟩) hG).trans (hc 3 _ rfl)
  have g4 := (hb0.cell (p := ⟨G, o + 4, none⟩) hG).trans (hc 4 _ rfl)
  have g5 := (hb0.cell (p := ⟨G, o + 5, none⟩) hG).trans (hc 5 _ rfl)
  have g6 := (hb0.cell (p := ⟨G, o + 6, none⟩) hG).trans (hc 6 _ rfl)
  have g7 := (hb0.cell (p := ⟨G, o + 7, none⟩) hG).trans (hc 7 _ rfl)
  have g8 := (hb0.cell (p := ⟨G, o + 8, none⟩) hG).trans (hc 8 _ rfl)
  have g9 := (hb0.cell (p := ⟨G, o + 9, none⟩) hG).trans (hc 9 _ rfl)
  have g10 := (hb0.cell (p := ⟨G, o + 10, none⟩) hG).trans (hc 10 _ rfl)
  obtain ⟨ck, ct, cc, cr⟩ := c
  simp only at g0 g1 g3 g4
  have hnT : w.heap.size + 1 ≠ T := by omega
  clear hc
  cases l with
  | nil =>
    have hn1 : n = 1 := hn
    clear hn
    subst hn1
    rw [if_pos rfl]
    obtain ⟨t0, t1, t2, t3, t4, t5, t6, t7, t8, t9, t10, t11, t12, t13, t14, t15, tf⟩ := cells16 hTY
    go_enter Tryz.func10, Tryz.ntmps10
    go_wp2
    go_step3
    generalize (w.alloc (ansB code sub gen count lost mode source hold flags epoch gens wv)).alloc callZ = Y at *
    have hTYl := block_lt hTY
    have hRYl := block_lt hRY
    obtain ⟨r0, r1, r2, r3, r4, r5, r6, r7, r8, r9, r10, rf⟩ := cells11 hRY
    go_wp2_with fail
    have hs := heap_setCell_same Y T 5 _ 88 (.slice (some ⟨G, o, none⟩) 0 0) hTY
    try simp only [Exit.jump]
    try rw [Exit.noGoto_ret]
    have hresl : Tryz.f10.results = #[.cell 4 48, .tmp 5] := by kernel_rfl
    refine bodyPost_ret (v := .tuple #[callV ck ct 0 cc cr 0 0 0 false nilS nilS, .bool true]) ?_ rfl ⟨rfl, alloc_stays _ _ _ _ ((set11_other (Ne.symm hnT) _ _ _ _ _ _ _ _ _ _ _).trans (by simpa using hs)), grown_alloc (grown_set11 (grown_cell hGY T 5 _ (.inl rfl)) (Nat.le_succ _) _ _ _ _ _ _ _ _ _ _ _) _⟩
    simp only [results, hresl]
    go_simp
  | cons c' l' =>
    obtain ⟨m, hm⟩ : ∃ m, m = l'.length := ⟨_, rfl⟩
    have hn2 : n = m + 2 := by rw [hn, hm]; rfl
    subst hn2
    rw [if_neg (List.cons_ne_nil _ _), show (c' :: l').length = m + 1 by rw [hm]; rfl]
    clear hn hm
    have hm1 : m ≤ 1 := by omega
    rcases (show m = 0 ∨ m = 1 by omega) with rfl | rfl
    · obtain ⟨t0, t1, t2, t3, t4, t5, t6, t7, t8, t9, t10, t11, t12, t13, t14, t15, tf⟩ := cells16 hTY
      go_enter Tryz.func10, Tryz.ntmps10
      go_wp2
      go_step3
      generalize (w.alloc (ansB code sub gen count lost mode source hold flags epoch gens wv)).alloc callZ = Y at *
      have hTYl := block_lt hTY
      have hRYl := block_lt hRY
      obtain ⟨r0, r1, r2, r3, r4, r5, r6, r7, r8, r9, r10, rf⟩ := cells11 hRY
      go_wp2_with fail
      have hs := heap_setCell_same Y T 5 _ 88 (.slice (some ⟨G, o + 11, none⟩) 1 1) hTY
      try simp only [Exit.jump]
      try rw [Exit.noGoto_ret]
      have hresl : Tryz.f10.results = #[.cell 4 48, .tmp 5] := by kernel_rfl
      refine bodyPost_ret (v := .tuple #[callV ck ct 0 cc cr 0 0 0 false nilS nilS, .bool true]) ?_ rfl ⟨rfl, alloc_stays _ _ _ _ ((set11_other (Ne.symm hnT) _ _ _ _ _ _ _ _ _ _ _).trans (by simpa using hs)), grown_alloc (grown_set11 (grown_cell hGY T 5 _ (.inl rfl)) (Nat.le_succ _) _ _ _ _ _ _ _ _ _ _ _) _⟩
      simp only [results, hresl]
      go_simp
    · obtain ⟨t0, t1, t2, t3, t4, t5, t6, t7, t8, t9, t10, t11, t12, t13, t14, t15, tf⟩ := cells16 hTY
      go_enter Tryz.func10, Tryz.ntmps10
      go_wp2
      go_step3
      generalize (w.alloc (ansB code sub gen count lost mode source hold flags epoch gens wv)).alloc callZ = Y at *
      have hTYl := block_lt hTY
      have hRYl := block_lt hRY
      obtain ⟨r0, r1, r2, r3, r4, r5, r6, r7, r8, r9, r10, rf⟩ := cells11 hRY
      go_wp2_with fail
      have hs := heap_setCell_same Y T 5 _ 88 (.slice (some ⟨G, o + 11, none⟩) 2 2) hTY
      try simp only [Exit.jump]
      try rw [Exit.noGoto_ret]
      have hresl : Tryz.f10.results = #[.cell 4 48, .tmp 5] := by kernel_rfl
      refine bodyPost_ret (v := .tuple #[callV ck ct 0 cc cr 0 0 0 false nilS nilS, .bool true]) ?_ rfl ⟨rfl, alloc_stays _ _ _ _ ((set11_other (Ne.symm hnT) _ _ _ _ _ _ _ _ _ _ _).trans (by simpa using hs)), grown_alloc (grown_set11 (grown_cell hGY T 5 _ (.inl rfl)) (Nat.le_succ _) _ _ _ _ _ _ _ _ _ _ _) _⟩
      simp only [results, hresl]
      go_simp

end Go.Proofs.YtpilfhjlfbjloaaGreatDoor

namespace Go.Proofs.YtpilfhjlfbjloaaGreatDoor
open Go.RowKit
attribute [local irreducible] fI

theorem Tryz.infoOrder : (Tryz.prog.info? 37).map (fun i => (i.zero, i.size, i.bytes)) = some (some (.agg #[.int .i64 0, .int .i64 0, .int .i64 0, .complex .f64 0 0]), 4, 40) := by kernel_rfl
set_option maxRecDepth 100000 in
set_option maxHeartbeats 1600000 in
theorem clone_any (n : Nat) (cs : List Value) (b o c : Nat) (w : World) (hl : 0 < n) (hl2 : n ≤ 64) (hcs : cs.length = n * 4) (h1 : ∀ v ∈ cs, v.oneCell' = true) (hb : b < w.heap.size) (hc : ∀ j u, cs[j]? = some u → w.cell? ⟨b, o + j, none⟩ = some u) :
    Calls Tryz.prog 18 #[.slice (some ⟨b, o, none⟩) n c] w fun e w' => ∃ g cap, e = .returned (.slice (some ⟨g, 0, none⟩) n cap) ∧ w.heap.size ≤ g ∧ g < w'.heap.size ∧ Rd w' (.slice (some ⟨g, 0, none⟩) n cap) 4 n cs ∧ Below w.heap.size w w' := by
  obtain ⟨i0, hi, hz0, hz1, hz2⟩ := info_parts Tryz.infoOrder
  have heq : ∀ w, (binOp .eql 38 (.slice (some ⟨b, o, none⟩) n c) (.slice none 0 0)).run Tryz.prog w = .ok (.bool false) w := fun w => by kernel_rfl
  have Hcs := hide hcs
  clear hcs
  go_enter Tryz.func18, Tryz.ntmps18
  have hown : (w.alloc (.cells #[] 37)).ownsRow w.heap.size 37 4 (.slice (some ⟨w.heap.size, 0, none⟩) 0 0) 0 [] :=
    ⟨rfl, .inr ⟨w.heap.size, 0, #[], rfl, Nat.le_refl _, heap_alloc_new _ _, Nat.le_refl _, by decide, rfl, rfl⟩⟩
  go_wp2_with (first
    | (at_builtin; refine wpList_append_own _ rfl _ _ 38 rfl w.heap.size 37 i0 _ 4 40 Tryz.underlying38 hi hz0 hz1 hz2 rfl (by decide) (.slice (some ⟨w.heap.size, 0, none⟩) 0 0) 0 [] rfl hown ⟨b, o, none⟩ n c cs rfl Hcs.out ?_ h1 (by unfold maxLen; omega) (by omega) (by simp) ?_
       · exact fun j u hj => by rw [add_at]; exact (World.cell?_alloc_lt w _ ⟨b, o + j, none⟩ hb).trans (hc j u hj)
       intro v2 w2 hown2 hg2 _
       rw [Nat.zero_add, List.nil_append] at hown2))
  have hrd := Rd.of_own hown2
  have hbz : Below w.heap.size w w2 := (below_new w (.cells #[] 37)).grown hg2 (by simp) (fun q hq => by cases hq; exact Nat.le_refl _)
  obtain ⟨g, cap, rfl, hgb, hgl⟩ := hown2.form hl
  go_ret
  exact ⟨g, cap, rfl, hgb, hgl, hrd, hbz⟩

set_option maxRecDepth 100000 in
set_option maxHeartbeats 1600000 in
theorem clone_empty (b o c : Nat) (w : World) :
    Calls Tryz.prog 18 #[.slice (some ⟨b, o, none⟩) 0 c] w fun e w' => e = .returned (.slice (some ⟨w.heap.size, 0, none⟩) 0 0) ∧ w.heap.size < w'.heap.size ∧ Below w.heap.size w w' := by
  have heq : ∀ w, (binOp .eql 38 (.slice (some ⟨b, o, none⟩) 0 c) (.slice none 0 0)).run Tryz.prog w = .ok (.bool false) w := fun w => by kernel_rfl
  go_enter Tryz.func18, Tryz.ntmps18
  go_wp2
  go_ret
  exact ⟨rfl, by simp, below_new w _⟩

/-- A copy of orders, from a slice that is none's. -/
theorem clone_orders (n : Nat) (cs : List Value) (b o c : Nat) (w : World) (hl2 : n ≤ 64) (h1 : ∀ v ∈ cs, v.oneCell' = true) (hr : Rd w (.slice (some ⟨b, o, none⟩) n c) 4 n cs) :
    Calls Tryz.prog 18 #[.slice (some ⟨b, o, none⟩) n c] w fun e w' => ∃ g cap, e = .returned (.slice (some ⟨g, 0, none⟩) n cap) ∧ w.heap.size ≤ g ∧ g < w'.heap.size ∧ Rd w' (.slice (some ⟨g, 0, none⟩) n cap) 4 n cs ∧ Below w.heap.size w w' := by
  by_cases hl : 0 < n
  · have hlen := hr.len
    obtain ⟨b', o', c', hv, -, -, hb, hc⟩ := hr.open_ hl
    cases hv
    exact clone_any n cs b o c w hl hl2 hlen h1 hb hc
  · obtain rfl : n = 0 := by omega
    have hlen := hr.len
    obtain rfl : cs = [] := List.eq_nil_of_length_eq_zero (by omega)
    refine (clone_empty b o c w).mono ?_
    rintro e w' ⟨rfl, hlt, hb⟩
    exact ⟨_, 0, rfl, Nat.le_refl _, hlt, ⟨rfl, _, 0, rfl, Nat.le_refl _, by decide, fun h => absurd h (by decide)⟩, hb⟩

end Go.Proofs.YtpilfhjlfbjloaaGreatDoor

namespace Go.Proofs.YtpilfhjlfbjloaaGreatDoor
open Go.RowKit
attribute [local irreducible] fI

/-- An order, as handed in. -/
structure ROrd where
  turn : Int
  mode : Int
  flags : Int
  u : Nat
  v : Nat
def flatR (l : List ROrd) : List Value := l.flatMap fun o => [.int .i64 o.turn, .int .i64 o.mode, .int .i64 o.flags, .complex .f64 o.u o.v]
theorem flatR_at (l : List ROrd) (k : Nat) (h : k < l.length) : (flatR l)[k * 4]? = some (.int .i64 l[k].turn) ∧ (flatR l)[k * 4 + 1]? = some (.int .i64 l[k].mode) ∧ (flatR l)[k * 4 + 2]? = some (.int .i64 l[k].flags) ∧ (flatR l)[k * 4 + 3]? = some (.complex .f64 l[k].u l[k].v) := by
  induction l generalizing k with
  | nil => cases h
  | cons o l ih =>
    cases k with
    | zero => exact ⟨rfl, rfl, rfl, rfl⟩
    | succ k =>
      have := ih k (by simpa using h)
      rw [show (k + 1) * 4 = k * 4 + 4 by omega]
      simp only [flatR, List.flatMap_cons, List.cons_append, List.nil_append, List.getElem_cons_succ]
      refine ⟨?_, ?_, ?_, ?_⟩
      · rw [show k * 4 + 4 = (k * 4) + 1 + 1 + 1 + 1 by omega]; simpa [flatR] using this.1
      · rw [show k * 4 + 4 + 1 = (k * 4 + 1) + 1 + 1 + 1 + 1 by omega]; simpa [flatR] using this.2.1
      · rw [show k * 4 + 4 + 2 = (k * 4 + 2) + 1 + 1 + 1 + 1 by omega]; simpa [flatR] using this.2.2.1
      · rw [show k * 4 + 4 + 3 = (k * 4 + 3) + 1 + 1 + 1 + 1 by omega]; simpa [flatR] using this.2.2.2
theorem flatR_one (l : List ROrd) : ∀ v ∈ flatR l, v.oneCell' = true := by
  intro v hv
  simp only [flatR, List.mem_flatMap] at hv
  obtain ⟨o, -, hv⟩ := hv
  simp at hv
  rcases hv with rfl | rfl | rfl | rfl <;> rfl

/-- May an order not be? -/
def badO (turns : Int) (o : ROrd) : Bool := decide (o.turn < 0) || decide (turns ≤ o.turn) || decide (o.mode < 0) || decide (8 ≤ o.mode) || decide (o.flags < 0) || decide (63 < o.flags) || !(mayF o.u && mayF o.v)
/-- Is it not behind the one ahead? -/
def lateO : Option Int → ROrd → Bool
  | some q, o => decide (o.turn ≤ q)
  | none, _ => false
/-- The orders, from one on. -/
def chkO (turns : Int) : Option Int → List ROrd → Int
  | _, [] => 0
  | p, o :: r => if badO turns o = true then 10 else if lateO p o = true then 18 else chkO turns (some o.turn) r
theorem chk_cons (turns : Int) (p : Option Int) (o : ROrd) (r : List ROrd) : chkO turns p (o :: r) = if badO turns o = true then 10 else if lateO p o = true then 18 else chkO turns (some o.turn) r := rfl
theorem chk_nil (turns : Int) (p : Option Int) : chkO turns p [] = 0 := by unfold chkO; rfl
def tnewS (kind turns : Int) (l : List ROrd) : Int := if kind < 0 ∨ 3 < kind then 1 else if turns < 0 ∨ 1000 < turns then 10 else if 64 < l.length then 12 else chkO turns none l
/-- The turn of the order ahead. -/
def prevO (l : List ROrd) (k : Nat) : Option Int := if k = 0 then none else (l[k - 1]?).map (·.turn)

theorem chk_step (turns : Int) (l : List ROrd) (k : Nat) (h : k < l.length) : chkO turns (prevO l k) (l.drop k) = if badO turns l[k] = true then 10 else if lateO (prevO l k) l[k] = true then 18 else chkO turns (prevO l (k + 1)) (l.drop (k + 1)) := by
  have h2 : prevO l (k + 1) = some l[k].turn := by simp [prevO, h]
  rw [List.drop_eq_getElem_cons h, chk_cons, h2]

set_option maxRecDepth 100000 in
set_option maxHeartbeats 3200000 in
theorem new_loop (kind turns : Int) (l : List ROrd) (b o c : Nat) (w : World) (hk : ¬ (kind < 0 ∨ 3 < kind)) (ht : ¬ (turns < 0 ∨ 1000 < turns)) (hl : l.length ≤ 64) (hr : Rd w (.slice (some ⟨b, o, none⟩) l.length c) 4 l.length (flatR l)) (hN : ∀ x ∈ l, Numb x.u ∧ Numb x.v) (hbad : chkO turns none l ≠ 0) :
    Calls Tryz.prog 8 #[.int .i64 kind, .int .i64 turns, .slice (some ⟨b, o, none⟩) l.length c] w fun e w' => e = .returned (.tuple #[.pointer none, .int .i64 (chkO turns none l)]) ∧ Below w.heap.size w w' := by
  obtain ⟨C, hC⟩ : ∃ C, C = chkO turns none l := ⟨_, rfl⟩
  rw [← hC] at hbad ⊢
  have HC := hide hC
  clear hC
  have HN := hide hN
  have hk1 : decide (kind < 0) = false := by simp; omega
  have hk2 : decide (3 < kind) = false := by simp; omega
  have ht1 : decide (turns < 0) = false := by simp; omega
  have ht2 : decide (1000 < turns) = false := by simp; omega
  have hl2 : decide (64 < l.length) = false := by simp; omega
  have HR := hide hr
  obtain ⟨n, hn⟩ : ∃ n, n = l.length := ⟨_, rfl⟩
  rw [← hn] at hl hl2 ⊢
  have Hn := hide hn
  clear hn hr hN hk ht
  go_enter Tryz.func8, Tryz.ntmps8
  go_wp2_with fail
  go_loopw [28] (fun i wr => ∃ k : Nat, k ≤ n ∧ i = .int .i64 k ∧ Below w.heap.size w wr ∧ Hid (C = chkO turns (prevO l k) (l.drop k))) (fun i _ => n - (intOf i).toNat)
  case atStart => exact ⟨0, Nat.zero_le _, rfl, Below.refl _ _, HC⟩
  case round =>
    obtain ⟨k, hkn, rfl, hbel, HCk⟩ := hrel
    by_cases hlt : k < n
    · have hkl : k < l.length := by rw [← Hn.out]; exact hlt
      rw [chk_step turns l k hkl] at HCk
      obtain ⟨b', o', c', hv, -, -, hbl, hc⟩ := HR.out.open_ (by omega)
      cases hv
      obtain ⟨f0, f1, f2, f3⟩ := flatR_at l k hkl
      have g0 := (hbel.cell (p := ⟨b, o + k * 4, none⟩) hbl).trans (hc _ _ f0)
      have g1 := (hbel.cell (p := ⟨b, o + (k * 4 + 1), none⟩) hbl).trans (hc _ _ f1)
      have g2 := (hbel.cell (p := ⟨b, o + (k * 4 + 2), none⟩) hbl).trans (hc _ _ f2)
      have g3 := (hbel.cell (p := ⟨b, o + (k * 4 + 3), none⟩) hbl).trans (hc _ _ f3)
      rw [← Nat.add_assoc] at g1 g2 g3
      obtain ⟨hnu, hnv⟩ := HN.out l[k] (List.getElem_mem hkl)
      have HM := hide (fun w => gmay_num hnu hnv w)
      clear f0 f1 f2 f3 hc hnu hnv
      have hbk : b < wr.heap.size := Nat.lt_of_lt_of_le hbl hbel.size
      obtain ⟨qt, hqt⟩ : ∃ q, q = prevO l k := ⟨_, rfl⟩
      have hnx : prevO l (k + 1) = some l[k].turn := by simp [prevO, hkl]
      rw [← hqt] at HCk
      have Hqt := hide hqt
      clear hqt hnx
      have HCk2 := HCk
      generalize hod : l[k] = od at *
      obtain ⟨ot, om, of, ou, oc⟩ := od
      simp only at *
      have Hod := hide hod
      clear hod
      have hso := store_last wr (.int .i64 ot) (.int .i64 om) (.int .i64 of) ou oc
      have hbo := hbel.alloc hbel.size (.cells #[.int .i64 ot, .int .i64 om, .int .i64 of, .complex .f64 ou oc] 37)
      by_cases d1 : ot < 0
      · have hb : badO turns ⟨ot, om, of, ou, oc⟩ = true := by simp [badO, d1]
        have hC10 : C = 10 := by rw [HCk.out, if_pos hb]
        clear HCk HC HCk2
        subst hC10
        go_wp2
        go_ret2
        exact ⟨rfl, hbo⟩
      by_cases d2 : turns ≤ ot
      · have hb : badO turns ⟨ot, om, of, ou, oc⟩ = true := by simp [badO, d2]
        have hC10 : C = 10 := by rw [HCk.out, if_pos hb]
        clear HCk HC HCk2
        subst hC10
        go_wp2
        go_ret2
        exact ⟨rfl, hbo⟩
      by_cases d3 : om < 0
      · have hb : badO turns ⟨ot, om, of, ou, oc⟩ = true := by simp [badO, d3]
        have hC10 : C = 10 := by rw [HCk.out, if_pos hb]
        clear HCk HC HCk2
        subst hC10
        go_wp2
        go_ret2
        exact ⟨rfl, hbo⟩
      by_cases d4 : 8 ≤ om
      · have hb : badO turns ⟨ot, om, of, ou, oc⟩ = true := by simp [badO, d4]
        have hC10 : C = 10 := by rw [HCk.out, if_pos hb]
        clear HCk HC HCk2
        subst hC10
        go_wp2
        go_ret2
        exact ⟨rfl, hbo⟩
      by_cases d5 : of < 0
      · have hb : badO turns ⟨ot, om, of, ou, oc⟩ = true := by simp [badO, d5]
        have hC10 : C = 10 := by rw [HCk.out, if_pos hb]
        clear HCk HC HCk2
        subst hC10
        go_wp2
        go_ret2
        exact ⟨rfl, hbo⟩
      by_cases d6 : 63 < of
      · have hb : badO turns ⟨ot, om, of, ou, oc⟩ = true := by simp [badO, d6]
        have hC10 : C = 10 := by rw [HCk.out, if_pos hb]
        clear HCk HC HCk2
        subst hC10
        go_wp2
        go_ret2
        exact ⟨rfl, hbo⟩
      cases hm : (mayF ou && mayF oc) with
      | false =>
        rw [hm] at HM
        have hb : badO turns ⟨ot, om, of, ou, oc⟩ = true := by simp [badO, hm]
        have hC10 : C = 10 := by rw [HCk.out, if_pos hb]
        clear HCk HC HCk2
        subst hC10
        go_wp2_with fail
        refine (HM.out _).mono ?_
        rintro e w' ⟨rfl, rfl⟩
        go_wp2
        go_ret2
        exact ⟨rfl, hbo⟩
      | true =>
        rw [hm] at HM
        have hb : badO turns ⟨ot, om, of, ou, oc⟩ = false := by simp [badO, hm]; omega
        rw [if_neg (by rw [hb]; decide)] at HCk
        have hwk : IntKind.i64.wrap ((k : Int) + 1) = (k : Int) + 1 := wrap_id (by omega) (by omega)
        clear HCk2
        by_cases hk0 : k = 0
        · subst hk0
          simp only [Nat.zero_mul, Nat.add_zero] at g0 g1 g2 g3
          have hq : qt = none := Hqt.out
          subst hq
          have HCn : Hid (C = chkO turns (prevO l (0 + 1)) (l.drop (0 + 1))) := HCk
          go_wp2_with fail
          refine (HM.out _).mono ?_
          rintro e w' ⟨rfl, rfl⟩
          go_wp2_with fail
          go_quiet (fail)
          go_wp2
          exact ⟨⟨1, by omega, by simp, below_drewN hbo nq, HCn⟩, by simp [intOf]; omega⟩
        · obtain ⟨m, rfl⟩ : ∃ m, k = m + 1 := ⟨k - 1, by omega⟩
          have hml : m < l.length := by omega
          have hq : qt = some l[m].turn := by rw [Hqt.out]; simp [prevO, hml]
          obtain ⟨b', o', c', hv, -, -, -, hc⟩ := HR.out.open_ (by omega)
          cases hv
          have g4 := (hbel.cell (p := ⟨b, o + m * 4, none⟩) hbl).trans (hc _ _ (flatR_at l m hml).1)
          clear hc
          generalize l[m].turn = tq at *
          have hwm : IntKind.i64.wrap (m : Int) = (m : Int) := wrap_id (by omega) (by omega)
          have hmn : decide (m < n) = true := by simp; omega
          have hm64 : m < n := by omega
          rw [hq] at HCk
          clear hq
          cases hlate : decide (ot ≤ tq) with
          | true =>
            have hC18 : C = 18 := by rw [HCk.out, if_pos (by simpa [lateO] using hlate)]
            clear HCk HC
            subst hC18
            go_wp2_with fail
            refine (HM.out _).mono ?_
            rintro e w' ⟨rfl, rfl⟩
            go_wp2_with fail
            go_quiet (fail)
            go_wp2
            go_ret2
            exact ⟨rfl, below_drewN hbo nq⟩
          | false =>
            have HCn : Hid (C = chkO turns (prevO l (m + 1 + 1)) (l.drop (m + 1 + 1))) := hide (by rw [HCk.out, if_neg (by simpa [lateO] using hlate)])
            clear HCk HC
            go_wp2_with fail
            refine (HM.out _).mono ?_
            rintro e w' ⟨rfl, rfl⟩
            go_wp2_with fail
            go_quiet (fail)
            go_wp2
            exact ⟨⟨m + 1 + 1, by omega, by simp, below_drewN hbo nq, HCn⟩, by simp [intOf]; omega⟩
    · exfalso
      apply hbad
      rw [HCk.out, List.drop_eq_nil_of_le (by have := Hn.out; omega)]
      exact chk_nil _ _

end Go.Proofs.YtpilfhjlfbjloaaGreatDoor
