/-
  tasks.New and the reference's May as a whole; the reference's Begin. Conditions: slices of up to 70 orders. The walk of the law's begin. Conditions: a task as the law has it, of up to 70 orders. What New leaves, kept where another block is written. Conditions: none.
-/
import Derived.Test.YtpilfhjlfbjloaaGreatDoorTkR
namespace Go.Proofs.YtpilfhjlfbjloaaGreatDoor
open Go.RowKit
attribute [local irreducible] fI

set_option maxRecDepth 100000 in
set_option maxHeartbeats 1600000 in
theorem may23_any (kind turns : Int) (l : List MOrd) (b o c : Nat) (w : World) (hr : Rd w (.slice (some ⟨b, o, none⟩) l.length c) 5 l.length (flatM l)) :
    Calls Tryz.prog 46 #[.int .i64 kind, .int .i64 turns, .slice (some ⟨b, o, none⟩) l.length c] w fun e w' => e = .returned (.int .i64 (mayM kind turns l)) ∧ Below w.heap.size w w' := by
  unfold mayM
  by_cases k1 : kind < 0
  · rw [if_pos (.inl k1)]
    go_enter Tryz.func46, Tryz.ntmps46
    go_wp2
    go_ret
    exact ⟨rfl, Below.refl _ _⟩
  by_cases k2 : 3 < kind
  · rw [if_pos (.inr k2)]
    go_enter Tryz.func46, Tryz.ntmps46
    go_wp2
    go_ret
    exact ⟨rfl, Below.refl _ _⟩
  by_cases k3 : turns < 0
  · rw [if_neg (by omega), if_pos (.inl k3)]
    go_enter Tryz.func46, Tryz.ntmps46
    go_wp2
    go_ret
    exact ⟨rfl, Below.refl _ _⟩
  by_cases k4 : 1000 < turns
  · rw [if_neg (by omega), if_pos (.inr k4)]
    go_enter Tryz.func46, Tryz.ntmps46
    go_wp2
    go_ret
    exact ⟨rfl, Below.refl _ _⟩
  by_cases k5 : 64 < l.length
  · rw [if_neg (by omega), if_neg (by omega), if_pos k5]
    obtain ⟨n, hn⟩ : ∃ n, n = l.length := ⟨_, rfl⟩
    rw [← hn] at k5 ⊢
    clear hn hr
    have k6 : decide (64 < n) = true := by simp; omega
    go_enter Tryz.func46, Tryz.ntmps46
    go_wp2
    go_ret
    exact ⟨rfl, Below.refl _ _⟩
  rw [if_neg (by omega), if_neg (by omega), if_neg k5]
  exact may_loop kind turns l b o c w (by omega) (by omega) (by omega) hr

set_option maxRecDepth 100000 in
set_option maxHeartbeats 1600000 in
theorem new_bad (kind turns : Int) (l : List ROrd) (b o c : Nat) (w : World) (hr : Rd w (.slice (some ⟨b, o, none⟩) l.length c) 4 l.length (flatR l)) (hN : ∀ x ∈ l, Numb x.u ∧ Numb x.v) (hbad : tnewS kind turns l ≠ 0) :
    Calls Tryz.prog 8 #[.int .i64 kind, .int .i64 turns, .slice (some ⟨b, o, none⟩) l.length c] w fun e w' => e = .returned (.tuple #[.pointer none, .int .i64 (tnewS kind turns l)]) ∧ Below w.heap.size w w' := by
  have Hbad := hide hbad
  clear hbad
  unfold tnewS
  by_cases k1 : kind < 0
  · rw [if_pos (.inl k1)]
    go_enter Tryz.func8, Tryz.ntmps8
    go_wp2
    go_ret2
    exact ⟨rfl, Below.refl _ _⟩
  by_cases k2 : 3 < kind
  · rw [if_pos (.inr k2)]
    go_enter Tryz.func8, Tryz.ntmps8
    go_wp2
    go_ret2
    exact ⟨rfl, Below.refl _ _⟩
  by_cases k3 : turns < 0
  · rw [if_neg (by omega), if_pos (.inl k3)]
    go_enter Tryz.func8, Tryz.ntmps8
    go_wp2
    go_ret2
    exact ⟨rfl, Below.refl _ _⟩
  by_cases k4 : 1000 < turns
  · rw [if_neg (by omega), if_pos (.inr k4)]
    go_enter Tryz.func8, Tryz.ntmps8
    go_wp2
    go_ret2
    exact ⟨rfl, Below.refl _ _⟩
  by_cases k5 : 64 < l.length
  · rw [if_neg (by omega), if_neg (by omega), if_pos k5]
    obtain ⟨n, hn⟩ : ∃ n, n = l.length := ⟨_, rfl⟩
    rw [← hn] at k5 ⊢
    clear hn hr
    have k6 : decide (64 < n) = true := by simp; omega
    go_enter Tryz.func8, Tryz.ntmps8
    go_wp2
    go_ret2
    exact ⟨rfl, Below.refl _ _⟩
  rw [if_neg (by omega), if_neg (by omega), if_neg k5]
  exact new_loop kind turns l b o c w (by omega) (by omega) (by omega) hr hN (fun h => Hbad.out (by unfold tnewS; rw [if_neg (by omega), if_neg (by omega), if_neg k5, h]))

theorem new_good (kind turns : Int) (l : List ROrd) (b o c : Nat) (w : World) (hr : Rd w (.slice (some ⟨b, o, none⟩) l.length c) 4 l.length (flatR l)) (hN : ∀ x ∈ l, Numb x.u ∧ Numb x.v) (hgood : tnewS kind turns l = 0) :
    ∃ kd : Nat, kd < 4 ∧ kind = kd ∧ Calls Tryz.prog 8 #[.int .i64 kind, .int .i64 turns, .slice (some ⟨b, o, none⟩) l.length c] w (NewPost kd turns l w) := by
  unfold tnewS at hgood
  split at hgood
  · cases hgood
  rename_i hk
  split at hgood
  · cases hgood
  rename_i ht
  split at hgood
  · cases hgood
  rename_i hl
  rcases (show kind = 0 ∨ kind = 1 ∨ kind = 2 ∨ kind = 3 by omega) with rfl | rfl | rfl | rfl
  · exact ⟨0, by omega, rfl, new_zero turns l b o c w ht (by omega) hr hN hgood⟩
  · exact ⟨1, by omega, rfl, new_one turns l b o c w ht (by omega) hr hN hgood⟩
  · exact ⟨2, by omega, rfl, new_two turns l b o c w ht (by omega) hr hN hgood⟩
  · exact ⟨3, by omega, rfl, new_three turns l b o c w ht (by omega) hr hN hgood⟩

theorem Tryz.infoMOrder : (Tryz.prog.info? 108).map (fun i => (i.zero, i.size, i.bytes)) = some (some (.agg #[.int .i64 0, .int .i64 0, .int .i64 0, .int .i64 0, .int .i64 0]), 5, 40) := by kernel_rfl
theorem flatM_one (l : List MOrd) : ∀ v ∈ flatM l, v.oneCell' = true := by
  intro v hv
  simp only [flatM, List.mem_flatMap] at hv
  obtain ⟨o, -, hv⟩ := hv
  simp at hv
  rcases hv with rfl | rfl | rfl | rfl | rfl <;> rfl

set_option maxRecDepth 100000 in
set_option maxHeartbeats 1600000 in
theorem begin23_any (kind turns : Int) (n : Nat) (cs : List Value) (b o c : Nat) (w : World) (hl2 : n ≤ 70) (h1 : ∀ v ∈ cs, v.oneCell' = true) (hr : Rd w (.slice (some ⟨b, o, none⟩) n c) 5 n cs) :
    Calls Tryz.prog 45 #[.int .i64 kind, .int .i64 turns, .slice (some ⟨b, o, none⟩) n c] w fun e w' => (∃ v, e = .returned v) ∧ Below w.heap.size w w' := by
  obtain ⟨i0, hi, hz0, hz1, hz2⟩ := info_parts Tryz.infoMOrder
  by_cases hl : 0 < n
  · have Hcs := hide hr.len
    obtain ⟨b', o', c', hv, -, -, hb, hc⟩ := hr.open_ hl
    cases hv
    clear hr
    go_enter Tryz.func45, Tryz.ntmps45
    have hown : (w.alloc (.cells #[] 108)).ownsRow w.heap.size 108 5 (.slice (some ⟨w.heap.size, 0, none⟩) 0 0) 0 [] :=
      ⟨rfl, .inr ⟨w.heap.size, 0, #[], rfl, Nat.le_refl _, heap_alloc_new _ _, Nat.le_refl _, by decide, rfl, rfl⟩⟩
    go_wp2_with (first
      | (at_builtin; refine wpList_append_own _ rfl _ _ 103 rfl w.heap.size 108 i0 _ 5 40 Tryz.underlying103 hi hz0 hz1 hz2 rfl (by decide) (.slice (some ⟨w.heap.size, 0, none⟩) 0 0) 0 [] rfl hown ⟨b, o, none⟩ n c cs rfl Hcs.out ?_ h1 (by unfold maxLen; omega) (by omega) (by simp) ?_
         · exact fun j u hj => by rw [add_at]; exact (World.cell?_alloc_lt w _ ⟨b, o + j, none⟩ hb).trans (hc j u hj)
         intro v2 w2 hown2 hg2 _
         rw [Nat.zero_add, List.nil_append] at hown2
         obtain ⟨g2, c2, rfl, -, -⟩ := hown2.form hl
         have hbz : Below w.heap.size w w2 := (below_new w (.cells #[] 108)).grown hg2 (by simp) (fun q hq => by cases hq; exact Nat.le_refl _)))
    go_ret
    exact ⟨⟨_, rfl⟩, hbz.alloc hbz.size _⟩
  · obtain rfl : n = 0 := by omega
    clear hr
    go_enter Tryz.func45, Tryz.ntmps45
    go_wp2
    go_ret
    exact ⟨⟨_, rfl⟩, below_new2 _ _ _⟩

end Go.Proofs.YtpilfhjlfbjloaaGreatDoor

namespace Go.Proofs.YtpilfhjlfbjloaaGreatDoor
open Go.RowKit
attribute [local irreducible] fI

def flatL (l : List LOrd) : List Value := l.flatMap fun o => [.int .i64 o.turn, .int .i64 o.mode, .int .i64 o.flags, .int .i64 o.re, .int .i64 o.im, .int .i64 o.kind]
theorem flatL_at (l : List LOrd) (k : Nat) (h : k < l.length) : (flatL l)[k * 6]? = some (.int .i64 l[k].turn) ∧ (flatL l)[k * 6 + 1]? = some (.int .i64 l[k].mode) ∧ (flatL l)[k * 6 + 2]? = some (.int .i64 l[k].flags) ∧ (flatL l)[k * 6 + 3]? = some (.int .i64 l[k].re) ∧ (flatL l)[k * 6 + 4]? = some (.int .i64 l[k].im) ∧ (flatL l)[k * 6 + 5]? = some (.int .i64 l[k].kind) := by
  induction l generalizing k with
  | nil => cases h
  | cons o l ih =>
    cases k with
    | zero => exact ⟨rfl, rfl, rfl, rfl, rfl, rfl⟩
    | succ k =>
      have := ih k (by simpa using h)
      rw [show (k + 1) * 6 = k * 6 + 6 by omega]
      simp only [flatL, List.flatMap_cons, List.cons_append, List.nil_append, List.getElem_cons_succ]
      refine ⟨?_, ?_, ?_, ?_, ?_, ?_⟩
      · rw [show k * 6 + 6 = (k * 6) + 1 + 1 + 1 + 1 + 1 + 1 by omega]; simpa [flatL] using this.1
      · rw [show k * 6 + 6 + 1 = (k * 6 + 1) + 1 + 1 + 1 + 1 + 1 + 1 by omega]; simpa [flatL] using this.2.1
      · rw [show k * 6 + 6 + 2 = (k * 6 + 2) + 1 + 1 + 1 + 1 + 1 + 1 by omega]; simpa [flatL] using this.2.2.1
      · rw [show k * 6 + 6 + 3 = (k * 6 + 3) + 1 + 1 + 1 + 1 + 1 + 1 by omega]; simpa [flatL] using this.2.2.2.1
      · rw [show k * 6 + 6 + 4 = (k * 6 + 4) + 1 + 1 + 1 + 1 + 1 + 1 by omega]; simpa [flatL] using this.2.2.2.2.1
      · rw [show k * 6 + 6 + 5 = (k * 6 + 5) + 1 + 1 + 1 + 1 + 1 + 1 by omega]; simpa [flatL] using this.2.2.2.2.2
def toM (o : LOrd) : MOrd := ⟨o.turn, o.mode, o.flags, if o.kind = 1 then 1048576 else o.re, o.im⟩

theorem flatR_len (l : List ROrd) : (flatR l).length = l.length * 4 := by
  induction l with
  | nil => rfl
  | cons o l ih => simp only [flatR, List.flatMap_cons, List.length_append, List.length_cons] at *; simp at *; omega
theorem flatR_snoc (l : List ROrd) (o : ROrd) : flatR (l ++ [o]) = flatR l ++ [.int .i64 o.turn, .int .i64 o.mode, .int .i64 o.flags, .complex .f64 o.u o.v] := by simp [flatR]
theorem flatM_snoc (l : List MOrd) (o : MOrd) : flatM (l ++ [o]) = flatM l ++ [.int .i64 o.turn, .int .i64 o.mode, .int .i64 o.flags, .int .i64 o.re, .int .i64 o.im] := by simp [flatM]
theorem news_at (w : World) (cs : List Value) (t : TypeId) : ∀ j u, cs[j]? = some u → (w.alloc (.cells cs.toArray t)).cell? ((⟨w.heap.size, 0, none⟩ : Addr).add j) = some u := fun j u hj => by
  rw [add_at, Nat.zero_add]
  exact (cell_of (heap_alloc_new w (.cells cs.toArray t)) j).trans (by rw [List.getElem?_toArray]; exact hj)
/-- A row stays where another one is written. -/
theorem own_grown {w w' : World} {base : Nat} {e : TypeId} {size g n c : Nat} {xs : List Value} {r : Option Nat} (h : w.ownsRow base e size (.slice (some ⟨g, 0, none⟩) n c) n xs) (hg : w.grownBy w' r) (hne : r ≠ some g) : w'.ownsRow base e size (.slice (some ⟨g, 0, none⟩) n c) n xs := by
  refine ⟨h.1, ?_⟩
  rcases h.2 with ⟨h1, -⟩ | ⟨g', cap, cur, h1, h2, h3, h4⟩
  · cases h1
  · cases h1
    exact .inr ⟨g, c, cur, rfl, h2, (hg.block g (block_lt h3) (fun e => hne e.symm)).trans h3, h4⟩

/-- The law's memory on the way. -/
structure Way (w0 : World) (l : List LOrd) (k g6 c6 g7 c7 : Nat) (y : World) : Prop where
  o6 : y.ownsRow w0.heap.size 37 4 (.slice (some ⟨g6, 0, none⟩) k c6) k (flatR ((l.take k).map toR))
  o7 : y.ownsRow w0.heap.size 108 5 (.slice (some ⟨g7, 0, none⟩) k c7) k (flatM ((l.take k).map toM))
  ne : g6 ≠ g7
  l6 : g6 < y.heap.size
  l7 : g7 < y.heap.size
  below : Below w0.heap.size w0 y


end Go.Proofs.YtpilfhjlfbjloaaGreatDoor

namespace Go.Proofs.YtpilfhjlfbjloaaGreatDoor
open Go.RowKit
attribute [local irreducible] fI

/-- What New leaves, without what it tells. -/
def TNewAt (kd : Nat) (turns : Int) (l : List ROrd) (B : Nat) (tv : Value) (w' : World) : Prop :=
  ∃ T F on g cap, tv = .pointer (some ⟨T, 0, none⟩) ∧ B ≤ T ∧ w'.heap[T]? = some (newO turns (.slice (some ⟨g, 0, none⟩) l.length cap) (.slice (some ⟨F, 0, none⟩) (lenT kd) (lenT kd)) on) ∧
    Rd w' (.slice (some ⟨g, 0, none⟩) l.length cap) 4 l.length (flatR l) ∧ g ≠ T ∧ (B ≤ g ∧ B ≤ F ∧ ∀ b, on.ownBlock = some b → B ≤ b) ∧ TabIs w' T kd F ∧ OnIs w' T on (onceL kd)

theorem TNewAt.grown {kd : Nat} {turns : Int} {l : List ROrd} {B q : Nat} {tv : Value} {w w' : World} (h : TNewAt kd turns l B tv w) (hg : w.grownBy w' (some q)) (hq : q < B) : TNewAt kd turns l B tv w' := by
  obtain ⟨T, F, on, g, cap, rfl, h1, h2, h3, h4, ⟨h5, h6, h7⟩, h8, h9⟩ := h
  have keep : ∀ b o u, B ≤ b → b < w.heap.size → w.cell? ⟨b, o, none⟩ = some u → w'.cell? ⟨b, o, none⟩ = some u := fun b o u hb hl hc =>
    (World.cell?_of_block (hg.block b hl (fun e => by have := Option.some.inj e; omega))).trans hc
  refine ⟨T, F, on, g, cap, rfl, h1, (hg.block T (block_lt h2) (fun e => by have := Option.some.inj e; omega)).trans h2, rd_grown h3 (fun e => ?_) hg, h4, ⟨h5, h6, h7⟩, ⟨h8.ne, Nat.lt_of_lt_of_le h8.lt hg.size, fun j hj => keep _ _ _ h6 h8.lt (h8.cell j hj)⟩, ?_⟩
  · have : g = q := by simpa [Value.ownBlock] using e
    omega
  · rcases h9 with h9 | ⟨G, o, h10, h11, h12, h13⟩
    · exact .inl h9
    · exact .inr ⟨G, o, h10, h11, Nat.lt_of_lt_of_le h12 hg.size, fun j u hu => keep _ _ _ (h7 G (by rw [h10]; rfl)) h12 (h13 j u hu)⟩

theorem TNewAt.le {kd : Nat} {turns : Int} {l : List ROrd} {B B' : Nat} {tv : Value} {w : World} (h : TNewAt kd turns l B tv w) (hB : B' ≤ B) : TNewAt kd turns l B' tv w := by
  obtain ⟨T, F, on, g, cap, rfl, h1, h2, h3, h4, ⟨h5, h6, h7⟩, h8, h9⟩ := h
  exact ⟨T, F, on, g, cap, rfl, Nat.le_trans hB h1, h2, h3, h4, ⟨Nat.le_trans hB h5, Nat.le_trans hB h6, fun b hb => Nat.le_trans hB (h7 b hb)⟩, h8, h9⟩

theorem tnew_any (kind turns : Int) (l : List ROrd) (b o c : Nat) (w : World) (hr : Rd w (.slice (some ⟨b, o, none⟩) l.length c) 4 l.length (flatR l)) (hN : ∀ x ∈ l, Numb x.u ∧ Numb x.v) :
    Calls Tryz.prog 8 #[.int .i64 kind, .int .i64 turns, .slice (some ⟨b, o, none⟩) l.length c] w fun e w' => ∃ tv, e = .returned (.tuple #[tv, .int .i64 (tnewS kind turns l)]) ∧ Below w.heap.size w w' ∧
      (tnewS kind turns l ≠ 0 → tv = .pointer none) ∧ (tnewS kind turns l = 0 → ∃ kd : Nat, kd < 4 ∧ kind = kd ∧ TNewAt kd turns l w.heap.size tv w') := by
  by_cases h : tnewS kind turns l = 0
  · obtain ⟨kd, h1, h2, h3⟩ := new_good kind turns l b o c w hr hN h
    refine h3.mono ?_
    rintro e w' ⟨T, F, on, g, cap, rfl, p1, p2, p3, p4, p5, p6, p7, p8⟩
    rw [h]
    exact ⟨_, rfl, p8, fun h => absurd rfl h, fun _ => ⟨kd, h1, h2, T, F, on, g, cap, rfl, p1, p2, p3, p4, p5, p6, p7⟩⟩
  · refine (new_bad kind turns l b o c w hr hN h).mono ?_
    rintro e w' ⟨rfl, hb⟩
    exact ⟨_, rfl, hb, fun _ => rfl, fun h' => absurd h' h⟩

end Go.Proofs.YtpilfhjlfbjloaaGreatDoor
