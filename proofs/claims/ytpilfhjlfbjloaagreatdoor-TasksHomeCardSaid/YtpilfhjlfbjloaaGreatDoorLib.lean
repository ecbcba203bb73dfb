/-
  Words for memory that all walks of this seat use. Conditions: none.
  'Rd w v size n xs': the slice value v has n elements of 'size' cells each, and they read xs in the world w.
-/
import Derived.WalkKit
import Derived.WalkSpells
import Derived.WalkLawsBesides
import Derived.Deep.Draws
import Derived.BigQuiet
import Derived.Deep.QuietTactic
import Derived.KernelRfl
import Derived.StillTail
namespace Go.Proofs.YtpilfhjlfbjloaaGreatDoor
open Go.RowKit

theorem hide {p : Prop} (h : p) : Hid p := h

/-- Below, and its two rules for the walk. -/
theorem bcell {W w1 : World} (hb : Below W.heap.size W w1) : (∀ b o, b < W.heap.size → w1.cell? ⟨b, o, none⟩ = W.cell? ⟨b, o, none⟩) ∧ (∀ b o, b < W.heap.size → w1.frozen? ⟨b, o, none⟩ = W.frozen? ⟨b, o, none⟩) ∧ (∀ b, b < W.heap.size → b < w1.heap.size) :=
  ⟨fun b o h => hb.cell (p := ⟨b, o, none⟩) h, fun b o h => hb.frozen (p := ⟨b, o, none⟩) h, fun _ h => Nat.lt_of_lt_of_le h hb.size⟩

theorem below_drewN {B : Nat} {a w : World} (h : Below B a w) (n : Nat) : Below B a (w.drewN n) := ⟨h.os, h.tape, h.output, h.size, h.block⟩

/-- A slice that reads as a list of cells; nil and empty ones are let in. -/
structure Rd (w : World) (v : Value) (size n : Nat) (xs : List Value) : Prop where
  len : xs.length = n * size
  shape : ∃ A c, v = .slice A n c ∧ n ≤ c ∧ c ≤ maxLen ∧ (0 < n → ∃ b o, A = some ⟨b, o, none⟩ ∧ b < w.heap.size ∧ ∀ j u, xs[j]? = some u → w.cell? ⟨b, o + j, none⟩ = some u)

section
variable {w w' : World} {v : Value} {size n : Nat} {xs : List Value}

theorem Rd.nil (w : World) (size : Nat) : Rd w (.slice none 0 0) size 0 [] := ⟨by simp, none, 0, rfl, Nat.le_refl _, by simp [maxLen], fun h => absurd h (by omega)⟩

theorem Rd.keep (h : Rd w v size n xs) (hs : w.heap.size ≤ w'.heap.size) (hk : ∀ b o, b < w.heap.size → w'.cell? ⟨b, o, none⟩ = w.cell? ⟨b, o, none⟩) : Rd w' v size n xs :=
  ⟨h.len, by
    obtain ⟨A, c, hv, h1, h2, h3⟩ := h.shape
    refine ⟨A, c, hv, h1, h2, fun hn => ?_⟩
    obtain ⟨b, o, hA, hb, hc⟩ := h3 hn
    exact ⟨b, o, hA, by omega, fun j u hu => (hk _ _ hb).trans (hc j u hu)⟩⟩

theorem Rd.below (h : Rd w v size n xs) (hb : Below w.heap.size w w') : Rd w' v size n xs := h.keep hb.size fun _ _ hp => hb.cell hp
theorem Rd.drew (h : Rd w v size n xs) : Rd w.drew v size n xs := h.keep (Nat.le_refl _) fun _ _ _ => rfl
theorem Rd.drewN (h : Rd w v size n xs) (k : Nat) : Rd (w.drewN k) v size n xs := h.keep (Nat.le_refl _) fun _ _ _ => rfl
theorem Rd.alloc (h : Rd w v size n xs) (o : Obj) : Rd (w.alloc o) v size n xs := h.keep (by simp) fun b f hb => World.cell?_alloc_lt w o ⟨b, f, none⟩ hb

/-- The round's facts: the slice's own form and the cells of element k. -/
theorem Rd.open_ {n : Nat} (h : Rd w v size n xs) (hn : 0 < n) :
    ∃ b o c, v = .slice (some ⟨b, o, none⟩) n c ∧ n ≤ c ∧ c ≤ maxLen ∧ b < w.heap.size ∧ ∀ j u, xs[j]? = some u → w.cell? ⟨b, o + j, none⟩ = some u := by
  obtain ⟨A, c, hv, h1, h2, h3⟩ := h.shape
  obtain ⟨b, o, rfl, hb, hc⟩ := h3 hn
  exact ⟨b, o, c, hv, h1, h2, hb, hc⟩

theorem Rd.of_own {base : Nat} {e : TypeId} (h : w.ownsRow base e size v n xs) : Rd w v size n xs := by
  refine ⟨h.1, ?_⟩
  rcases h.2 with ⟨rfl, rfl⟩ | ⟨g, cap, cur, rfl, hg, hh, hnc, hm, hcs, hpre⟩
  · exact ⟨none, 0, rfl, Nat.le_refl _, by simp [maxLen], fun h => absurd h (by omega)⟩
  · refine ⟨some ⟨g, 0, none⟩, cap, rfl, hnc, hm, fun _ => ⟨g, 0, rfl, ?_, ?_⟩⟩
    · rcases Nat.lt_or_ge g w.heap.size with h' | h'
      · exact h'
      · rw [Array.getElem?_eq_none h'] at hh; cases hh
    · intro j u hu
      have := h.cells (g := g) (by simp [Value.ownBlock]) j u hu
      by_cases hj : j = 0
      · subst hj; simpa [Addr.add] using this
      · simpa [Addr.add, hj] using this
end

/-- A slice literal. -/
theorem Rd.new (w : World) (cs : List Value) (t : TypeId) (size n : Nat) (h : cs.length = n * size) (hn : n ≤ maxLen) : Rd (w.alloc (.cells cs.toArray t)) (.slice (some ⟨w.heap.size, 0, none⟩) n n) size n cs := by
  refine ⟨h, some ⟨w.heap.size, 0, none⟩, n, rfl, Nat.le_refl _, hn, fun _ => ⟨w.heap.size, 0, rfl, by simp, fun j u hu => ?_⟩⟩
  rw [Nat.zero_add]
  exact (cell_of_row _ _ _ _ _ _ (heap_alloc_new w (.cells cs.toArray t))).trans (by simpa using hu)

/-- What is owned stays owned where nothing that was there has turned. -/
theorem own_below {w w' : World} {base : Nat} {e : TypeId} {size : Nat} {v : Value} {n : Nat} {xs : List Value} (h : w.ownsRow base e size v n xs) (hb : Below w.heap.size w w') : w'.ownsRow base e size v n xs :=
  h.kept (row := none) ⟨hb.os, hb.tape, hb.output, hb.size, fun i hi _ => hb.block i hi⟩ (by cases hv : v.ownBlock <;> simp)

theorem below_of_drew {w x : World} (h : Below w.drew.heap.size w.drew x) : Below w.heap.size w x := ⟨h.os, h.tape, h.output, h.size, h.block⟩
theorem below2 {w1 w2 w3 : World} (h1 : Below w1.heap.size w1 w2) (h2 : Below w2.heap.size w2 w3) : Below w1.heap.size w1 w3 := h1.trans (h2.mono h1.size)
theorem below3 {w1 w2 w3 w4 : World} (h1 : Below w1.heap.size w1 w2) (h2 : Below w2.heap.size w2 w3) (h3 : Below w3.heap.size w3 w4) : Below w1.heap.size w1 w4 := below2 (below2 h1 h2) h3
theorem below_new (w : World) (o : Obj) : Below w.heap.size w (w.alloc o) := (Below.refl _ _).alloc (Nat.le_refl _) _
theorem below_new2 (w : World) (o p : Obj) : Below w.heap.size w ((w.alloc o).alloc p) := below2 (below_new w o) (below_new _ p)

/-! ### Regions that draw their order, whose operations read, and whose callees make memory of their own -/
/-- What was there is as it was. -/
def Ext (W w : World) : Prop := Below W.heap.size W w

theorem Ext.refl (W : World) : Ext W W := Below.refl _ _
theorem Ext.below {W w : World} (h : Ext W w) : Below W.heap.size W w := h
theorem Ext.size {W w : World} (h : Ext W w) : W.heap.size ≤ w.heap.size := Below.size h
theorem Ext.call {W w w' : World} (h : Ext W w) (hb : Below w.heap.size w w') : Ext W w' := Below.trans h (hb.mono (Below.size h))
theorem Ext.cells {W w : World} (h : Ext W w) : (∀ b o, b < W.heap.size → w.cell? ⟨b, o, none⟩ = W.cell? ⟨b, o, none⟩) := fun b o hb => Below.cell (p := ⟨b, o, none⟩) h hb
theorem Ext.lift {W w : World} (h : Ext W w) : ∀ b, b < W.heap.size → b < w.heap.size := fun _ hb => Nat.lt_of_lt_of_le hb (Below.size h)
theorem Ext.facts {W w : World} (h : Ext W w) : (∀ b o, b < W.heap.size → w.cell? ⟨b, o, none⟩ = W.cell? ⟨b, o, none⟩) ∧ (∀ b o, b < W.heap.size → w.frozen? ⟨b, o, none⟩ = W.frozen? ⟨b, o, none⟩) ∧ (∀ b, b < W.heap.size → b < w.heap.size) := bcell h

section
variable {P : Program} {ops : Array Oper}
theorem wp_region_ext {id : Nat} {Q : Exit → Act → World → Prop} {a : Act} {w : World} {l : List Oper} (hm : P.follows .mixedOrders = true) (hB : Region.lexB .any l.toArray = true)
    (h : wpQuiet P l.toArray (Ext w) (fun a' => ∀ w', Ext w w' → Q .normal a' w') l a) : (Code.region id l.toArray true).wp P Q a w :=
  wp_region_quiet (C := Ext w) hm hB ⟨rfl, rfl, rfl, Nat.le_refl _, fun _ _ => rfl⟩ (by simpa using h)

theorem quiet_val {C : World → Prop} {o : Oper} {a : Act} {K : Act → Prop} (v : Value) (h : ∀ w, C w → (execOp a.eval o).run P w = .ok (.value v) w) (hk : K (a.put o.dst v)) : o.quiet P a C K :=
  ⟨v, fun w hw => by unfold Oper.quietAt; rw [h w hw]; exact ⟨rfl, rfl⟩, hk⟩

theorem quiet_call {C : World → Prop} {o : Oper} {a : Act} {K : Act → Prop} (v : Value) (h : ∀ w, C w → o.quietAt P a C w v) (hk : K (a.put o.dst v)) : o.quiet P a C K := ⟨v, h, hk⟩
end

/-! ### The same, where the last operations, in one forced order, write. Takings apart of a call's answer may come whenever they like -/
section
variable {P : Program} {ops : Array Oper} {md : Region.Mode} {C : World → Prop}

/-- An operation that hangs on no world. -/
def floatB (ops : Array Oper) (i : Nat) : Bool :=
  match ops[i]? with
  | some o => match o.op with
    | .extract _ _ => true
    | .move _ => true
    | _ => false
  | none => false

theorem extract_run (P : Program) (V : Value) (ix : Nat) : (∃ u, ∀ w, (Instr.extract V ix).run P w = .ok u w) ∨ ∀ w, ∃ h, (Instr.extract V ix).run P w = .halt h w := by
  unfold Instr.extract
  cases V with
  | tuple vs =>
    cases hv : vs[ix]? with
    | some u => exact .inl ⟨u, fun w => by simp [hv]⟩
    | none => exact .inr fun w => by simp only [hv]; exact ⟨_, rfl⟩
  | _ => exact .inr fun w => ⟨_, rfl⟩

theorem float_yields {i : Nat} {o : Oper} (hi : ops[i]? = some o) (hf : floatB ops i = true) (hC : ∃ w, C w) {v : Value} {a : Act} (hy : YieldsIn P ops C o v a) : Yields P ops o v a := by
  rcases hy with ⟨hw, hv⟩ | h
  · refine .inl ⟨hw, ?_⟩
    obtain ⟨w0, hw0⟩ := hC
    have h0 := hv w0 hw0
    unfold floatB at hf
    rw [hi] at hf
    unfold Oper.quietAt at h0
    intro w
    cases ho : o.op with
    | move x =>
      simp only [execOp, ho, Sem.run_pure, Oper.quietUpon] at h0 ⊢
      rw [h0.2]
    | extract t ix =>
      simp only [execOp, ho, Sem.run_bind] at h0 ⊢
      rcases extract_run P (a.eval t) ix with ⟨u, hu⟩ | hh
      · rw [hu] at h0
        simp only [Result.andThen_ok, Sem.run_pure, Oper.quietUpon] at h0
        rw [hu, h0.2]
        rfl
      · obtain ⟨x, hx⟩ := hh w0
        rw [hx] at h0
        simp [Result.andThen, Oper.quietUpon] at h0
    | _ => simp [ho] at hf
  · exact .inr h

/-- Number n, the first of the tail, waits for number i, step by step. -/
def sunkB (md : Region.Mode) (ops : Array Oper) (n : Nat) : Nat → Nat → Bool
  | 0, i => decide (i = n)
  | f + 1, i => decide (i = n) || (List.range (n + 1)).any fun j => decide (i < j) && Region.waitsFor md ops j i && sunkB md ops n f j

theorem sunk_waits {n : Nat} {listed : Array Bool} (hc : Region.chainB md ops n = true) (hn : n < ops.size) (inv : HeadInv md ops n listed) :
    ∀ (f i : Nat), sunkB md ops n f i = true → i < n → listed.getD i true = false → ∀ t, n ≤ t → t ∉ Region.ready md ops listed := by
  intro f
  induction f with
  | zero =>
    intro i hs hi
    simp only [sunkB, decide_eq_true_eq] at hs
    omega
  | succ f ih =>
    intro i hs hi hun t ht hr
    obtain ⟨_, ot, hot, hall⟩ := mem_ready.1 hr
    have htlt : t < ops.size := (Array.getElem?_eq_some_iff.1 hot).1
    by_cases htn : t = n
    · subst htn
      simp only [sunkB, Bool.or_eq_true, decide_eq_true_eq] at hs
      rcases hs with hs | hs
      · omega
      obtain ⟨j, hj, hj2⟩ := List.any_eq_true.1 hs
      simp only [Bool.and_eq_true, decide_eq_true_eq] at hj2
      obtain ⟨⟨hij, hw⟩, hsj⟩ := hj2
      obtain ⟨oj, hoj, e, he, hb, hon⟩ := Region.waitsFor_spec hw
      have hjle : j ≤ t := by have := List.mem_range.1 hj; omega
      by_cases hjt : j = t
      · subst hjt
        have : oj = ot := Option.some.inj (hoj.symm.trans hot)
        subst this
        have h2 := hall e he hb
        rw [hon, getD_both hun] at h2
        cases h2
      · cases hl : listed.getD j false with
        | true =>
          have h2 := inv.closed j oj hoj hl e he hb
          rw [hon, getD_both hun] at h2
          cases h2
        | false =>
          have hjs : j < listed.size := by rw [inv.size]; omega
          exact ih j hsj (by omega) (getD_in hjs hl) t (Nat.le_refl _) hr
    · have h1 := List.all_eq_true.1 hc t (List.mem_range.2 htlt)
      simp only [Bool.or_eq_true, decide_eq_true_eq] at h1
      rcases h1 with h1 | h1
      · omega
      · obtain ⟨o', ho', e, he, hb, hon⟩ := Region.waitsFor_spec h1
        have : o' = ot := Option.some.inj (ho'.symm.trans hot)
        subst this
        have h2 := hall e he hb
        rw [hon, getD_both (inv.tail (t - 1) (by omega) (by omega))] at h2
        cases h2

/-- Whatever order is picked: the first n operations are quiet; whichever of the others comes up goes on as it may. -/
def wpAnyG (P : Program) (md : Region.Mode) (ops : Array Oper) (C : World → Prop) (Q : Exit → Act → World → Prop) (n : Nat) : Nat → Array Bool → Act → Prop
  | 0, listed, a => Region.ready md ops listed = [] ∧ ∀ w, C w → Q .normal a w
  | f + 1, listed, a => (Region.ready md ops listed = [] → ∀ w, C w → Q .normal a w) ∧ ∀ i ∈ Region.ready md ops listed,
      (i < n → qOp P ops C i (wpAnyG P md ops C Q n f (listed.setIfInBounds i true)) a) ∧
      (n ≤ i → ∀ w, C w → wpOp P ops Q i (wpAny P md ops Q f (listed.setIfInBounds i true)) a w)

variable {Q : Exit → Act → World → Prop} {n : Nat}

theorem wpAny_of_G : ∀ (f : Nat) (listed : Array Bool) (a : Act) (w : World), C w → wpAnyG P md ops C Q n f listed a → wpAny P md ops Q f listed a w
  | 0, listed, a, w, hw, h => ⟨h.1, h.2 w hw⟩
  | f + 1, listed, a, w, hw, h => by
    refine ⟨fun h0 => h.1 h0 w hw, fun i hi => ?_⟩
    rcases Nat.lt_or_ge i n with hin | hin
    · exact wpOp_of_qOp hw (fun a' w' hw' h' => wpAny_of_G f _ a' w' hw' h') ((h.2 i hi).1 hin)
    · exact (h.2 i hi).2 hin w hw

theorem wpAnyG_first {i : Nat} {oi : Oper} {v : Value} (hi : ops[i]? = some oi) (hsel : ∀ (j : Nat) (o : Oper) cs b, ops[j]? = some o → o.op ≠ .select cs b)
    (hC : ∃ w, C w) (hc : Region.chainB md ops n = true) (hn : n < ops.size) (hin : i < n) (hfs : floatB ops i = true ∨ ∃ k, sunkB md ops n k i = true)
    (hQ : ∀ c a (d : Option Tmp) (u : Value) w, Q (.panic c) (a.put d u) w → Q (.panic c) a w) :
    ∀ (f : Nat) (listed : Array Bool) (a : Act), HeadInv md ops n listed →
      (∀ j oj, ops[j]? = some oj → j ≠ i → listed.getD j true = false → (∀ e ∈ oj.after, Region.binds md e = true → e.on ≠ i) → oi.apart ops oj = true) →
      i ∈ Region.ready md ops listed → YieldsIn P ops C oi v a →
      wpAnyG P md ops C Q n f (listed.setIfInBounds i true) (a.put oi.dst v) → wpAnyG P md ops C Q n (f + 1) listed a := by
  intro f
  induction f with
  | zero =>
    intro listed a inv _ hr hy H
    refine ⟨fun h => (by rw [h] at hr; cases hr), fun j hj => ?_⟩
    by_cases hji : j = i
    · subst hji; exact ⟨fun _ => hy.qOp hi H, fun h => absurd h (by omega)⟩
    · have := ready_mono hj hji
      rw [H.1] at this
      cases this
  | succ f ih =>
    intro listed a inv hfree hr hy H
    have hun := (mem_ready.1 hr).1
    refine ⟨fun h => (by rw [h] at hr; cases hr), fun j hj => ?_⟩
    by_cases hji : j = i
    · subst hji; exact ⟨fun _ => hy.qOp hi H, fun h => absurd h (by omega)⟩
    have h1 := H.2 j (ready_mono hj hji)
    obtain ⟨hjun, oj, hoj, hall⟩ := mem_ready.1 hj
    have hnot : ∀ e ∈ oj.after, Region.binds md e = true → e.on ≠ i := fun e he hb heq => by
      have h1 := hall e he hb
      rw [heq, getD_both hun] at h1
      cases h1
    have hap := hfree j oj hoj hji hjun hnot
    have hfree' : ∀ k ok, ops[k]? = some ok → k ≠ i → (listed.setIfInBounds j true).getD k true = false →
        (∀ e ∈ ok.after, Region.binds md e = true → e.on ≠ i) → oi.apart ops ok = true := fun k ok hk hki hun hno => by
      refine hfree k ok hk hki ?_ hno
      by_cases hjk : j = k
      · subst hjk; exact hjun
      · rw [getD_set_ne true hjk] at hun; exact hun
    refine ⟨fun hjn => ?_, fun hjn w hw => ?_⟩
    · have h2 := qOp_put hoj hap (fun cs b => hsel i oi cs b hi) (fun cs b => hsel j oj cs b hoj) hy (h1.1 hjn)
      refine qOp_mono (fun a' h3 => ih (listed.setIfInBounds j true) a' (inv.set hj hjn) hfree' (ready_mono hr (Ne.symm hji)) h3.1 ?_) h2
      rw [Array.setIfInBounds_comm _ _ hji]
      exact h3.2
    · rcases hfs with hfl | ⟨k, hs⟩
      · have h2 := wpOp_put hoj hap (fun cs b => hsel i oi cs b hi) (fun cs b => hsel j oj cs b hoj) (fun c a w h => hQ c a oi.dst v w h) (float_yields hi hfl hC hy) (h1.2 hjn w hw)
        refine wpOp_mono (fun a' w' h3 => wpAny_first hi hsel (fun c a w h => hQ c a oi.dst v w h) f (listed.setIfInBounds j true) a' w' hfree' (ready_mono hr (Ne.symm hji)) h3.1 ?_) h2
        rw [Array.setIfInBounds_comm _ _ hji]
        exact h3.2
      · exact absurd hj (sunk_waits hc hn inv k i hs hin hun j hjn)

theorem wpAnyG_of_tail (hC : ∃ w, C w) : ∀ (g : Nat) (listed : Array Bool) (a : Act), (∀ j ∈ Region.ready md ops listed, n ≤ j) → (∀ w, C w → wpAny P md ops Q g listed a w) → wpAnyG P md ops C Q n g listed a
  | 0, listed, a, _, h => ⟨by obtain ⟨w, hw⟩ := hC; exact (h w hw).1, fun w hw => (h w hw).2⟩
  | g + 1, listed, a, hj, h => ⟨fun h0 w hw => (h w hw).1 h0, fun i hi => ⟨fun hlt => absurd (hj i hi) (by omega), fun _ w hw => (h w hw).2 i hi⟩⟩

def lexHead2 (md : Region.Mode) (ops : Array Oper) (n g : Nat) : Nat → Nat → Array Bool → Bool
  | 0, k, listed => Region.seqB md ops g k listed
  | f + 1, k, listed => (Region.ready md ops listed).contains k && Region.free md ops listed k && (floatB ops k || sunkB md ops n n k) && lexHead2 md ops n g f (k + 1) (listed.setIfInBounds k true)

def lexTail2B (md : Region.Mode) (ops : Array Oper) (n : Nat) : Bool :=
  Region.noSelect ops && decide (n < ops.size) && Region.chainB md ops n && lexHead2 md ops n (ops.size - n) n 0 (Array.replicate ops.size false)

theorem wpAnyG_lex {g : Nat} (hC : ∃ w, C w) (hsel : Region.noSelect ops = true) (hc : Region.chainB md ops n = true) (hn : n < ops.size)
    (hQ : ∀ c a (d : Option Tmp) (u : Value) w, Q (.panic c) (a.put d u) w → Q (.panic c) a w) :
    ∀ (l : List Oper) (k : Nat) (listed : Array Bool) (a : Act), (∀ j, j < l.length → l[j]? = ops[k + j]?) → k + l.length = n → HeadInv md ops n listed →
    lexHead2 md ops n g l.length k listed = true →
    wpQuiet P ops C (fun a' => ∀ listed', Region.seqB md ops g n listed' = true → ∀ w, C w → wpAny P md ops Q g listed' a' w) l a →
    wpAnyG P md ops C Q n (l.length + g) listed a
  | [], k, listed, a, _, hk, _, hB, h => by
    have : k = n := by simpa using hk
    subst this
    rw [List.length_nil, Nat.zero_add]
    exact wpAnyG_of_tail hC g listed a (seqB_ready hB) (fun w hw => h listed hB w hw)
  | o :: l, k, listed, a, hl, hk, inv, hB, h => by
    have h0 : ops[k]? = some o := by simpa using (hl 0 (by simp)).symm
    simp only [List.length_cons, lexHead2, Bool.and_eq_true, Bool.or_eq_true] at hB
    obtain ⟨⟨⟨hr, hf⟩, hfs⟩, hB'⟩ := hB
    have hkn : k < n := by simp only [List.length_cons] at hk; omega
    have hr' : k ∈ Region.ready md ops listed := by simpa using hr
    have hst : qOp P ops C k (wpQuiet P ops C (fun a' => ∀ listed', Region.seqB md ops g n listed' = true → ∀ w, C w → wpAny P md ops Q g listed' a' w) l) a := by unfold qOp; simp only [h0]; exact h
    obtain ⟨v, hy, hK⟩ := yieldsIn_of_qOp h0 hst
    have e : (o :: l).length + g = (l.length + g) + 1 := by simp; omega
    rw [e]
    exact wpAnyG_first h0 (Region.noSelect_spec hsel) hC hc hn hkn (hfs.imp id fun h => ⟨_, h⟩) hQ (l.length + g) listed a inv (Region.free_spec h0 hf) hr' hy
      (wpAnyG_lex hC hsel hc hn hQ l (k + 1) _ _ (fun j hj => by have := hl (j + 1) (by simp; omega); simpa [Nat.add_assoc, Nat.add_comm 1 j] using this) (by simp only [List.length_cons] at hk; omega) (inv.set hr' hkn) hB' hK)

/-- The first n operations are quiet in every world that has grown; the others come one behind the other. -/
theorem wp_region_ext_tail {id : Nat} {a : Act} {w : World} {l : List Oper} (n : Nat) (hm : P.follows .mixedOrders = true) (hB : lexTail2B .any l.toArray n = true)
    (hQ : ∀ c a (d : Option Tmp) (u : Value) w, Q (.panic c) (a.put d u) w → Q (.panic c) a w)
    (h : wpQuiet P l.toArray (Ext w) (fun a' => ∀ w', Ext w w' → wpList P l.toArray Q (l.drop n) a' w') (l.take n) a) : (Code.region id l.toArray true).wp P Q a w := by
  simp only [lexTail2B, Bool.and_eq_true, decide_eq_true_eq] at hB
  obtain ⟨⟨⟨hsel, hn⟩, hc⟩, hlex⟩ := hB
  have hn' : n < l.length := by simpa using hn
  have htl : (l.take n).length = n := by simp; omega
  have hdl : (l.drop n).length = l.toArray.size - n := by simp
  have inv0 : HeadInv .any l.toArray n (Array.replicate l.toArray.size false) :=
    ⟨by simp, fun j oj _ hl => (by rw [getD_replicate_false] at hl; cases hl), fun t _ ht => getD_in (by simpa using ht) (getD_replicate_false _ _)⟩
  refine wp_region_any hm ?_
  have h' : wpQuiet P l.toArray (Ext w) (fun a' => ∀ listed', Region.seqB .any l.toArray (l.drop n).length n listed' = true → ∀ w', Ext w w' → wpAny P .any l.toArray Q (l.drop n).length listed' a' w') (l.take n) a := by
    revert h
    generalize l.take n = hd
    intro h
    induction hd generalizing a with
    | nil => exact fun listed' hl w' hw' => wpAny_of_seq (l.drop n) n listed' _ w' (fun j => by simp) hl (h w' hw')
    | cons o rest ih =>
      unfold wpQuiet at h ⊢
      split
      · rename_i hw
        rw [if_pos hw] at h
        exact Oper.quiet_mono (fun a' => ih) h
      · rename_i hw
        rw [if_neg hw] at h
        exact ih h
  have hE : Ext w { w with drawn := w.drawn + 1 } := ⟨rfl, rfl, rfl, Nat.le_refl _, fun _ _ => rfl⟩
  have h1 := wpAnyG_lex (Q := Q) (g := (l.drop n).length) ⟨_, hE⟩ hsel hc hn hQ (l.take n) 0 (Array.replicate l.toArray.size false) a (fun j hj => by
    rw [htl] at hj
    simp [hj]) (by omega) inv0 (by rw [htl, hdl]; exact hlex) h'
  have h2 := wpAny_of_G _ _ a { w with drawn := w.drawn + 1 } hE h1
  have hsz : (l.take n).length + (l.drop n).length = l.toArray.size := by rw [htl, hdl]; simp; omega
  rw [hsz] at h2
  exact h2
end

/-- Two cells of a block that a region reads, kept over a call that makes memory. -/
theorem held2 {W0 x y : World} {g : Nat} {c0 c1 : Value} (h : x.cell? ⟨g, 0, none⟩ = some c0 ∧ x.cell? ⟨g, 1, none⟩ = some c1 ∧ Below (g + 1) W0 x) (hW : g < W0.heap.size) (hb : Below x.heap.size x y) :
    y.cell? ⟨g, 0, none⟩ = some c0 ∧ y.cell? ⟨g, 1, none⟩ = some c1 ∧ Below (g + 1) W0 y := by
  have hs := h.2.2.size
  exact ⟨(hb.cell (p := ⟨g, 0, none⟩) (Nat.lt_of_lt_of_le hW hs)).trans h.1, (hb.cell (p := ⟨g, 1, none⟩) (Nat.lt_of_lt_of_le hW hs)).trans h.2.1, h.2.2.trans (hb.mono (by omega))⟩

theorem held2_set {W0 x : World} {g : Nat} {c0 c1 u : Value} {p : Addr} (h : x.cell? ⟨g, 0, none⟩ = some c0 ∧ x.cell? ⟨g, 1, none⟩ = some c1 ∧ Below (g + 1) W0 x) (hp : g + 1 ≤ p.block) :
    (x.setCell p u).cell? ⟨g, 0, none⟩ = some c0 ∧ (x.setCell p u).cell? ⟨g, 1, none⟩ = some c1 ∧ Below (g + 1) W0 (x.setCell p u) :=
  ⟨(World.cell?_setCell_other x p _ u (fun e => by subst e; simp at hp; omega)).trans h.1, (World.cell?_setCell_other x p _ u (fun e => by subst e; simp at hp; omega)).trans h.2.1, h.2.2.setCell hp u⟩

/-- A block of three cells, stored into one by one. -/
theorem three_set {x : World} {g : Nat} {a b c u0 u1 u2 : Value} {t : TypeId} (h : x.heap[g]? = some (.cells #[a, b, c] t (0, 0))) :
    (((x.setCell ⟨g, 0, none⟩ u0).setCell ⟨g, 1, none⟩ u1).setCell ⟨g, 2, none⟩ u2).heap[g]? = some (.cells #[u0, u1, u2] t (0, 0)) := by
  have h1 := heap_setCell_same x g 0 _ t u0 h
  have h2 := heap_setCell_same _ g 1 _ t u1 h1
  have h3 := heap_setCell_same _ g 2 _ t u2 h2
  simpa using h3

theorem held2_start (w : World) (c0 c1 : Value) (t : TypeId) :
    (w.alloc (.cells #[c0, c1] t)).drew.cell? ⟨w.heap.size, 0, none⟩ = some c0 ∧ (w.alloc (.cells #[c0, c1] t)).drew.cell? ⟨w.heap.size, 1, none⟩ = some c1 ∧ Below (w.heap.size + 1) (w.alloc (.cells #[c0, c1] t)) (w.alloc (.cells #[c0, c1] t)).drew :=
  ⟨by simp [go_sem], by simp [go_sem], (Below.refl _ _).drew⟩

/-- An append onto a row of the call's own, as a step of a region that draws. -/
theorem step_append_own {P : Program} (w : World) {ops : Array Oper} {o : Oper} {a : Act} {K : Act → World → Prop} {Q : Exit → Act → World → Prop} {E : Prop} (hgd : o.guard = none) (s x : Operand) (t : TypeId)
    (ho : o.op = .call { callee := .builtin .append, args := #[s, x], argTypes := #[t, t] })
    (base : Nat) (e : TypeId) (i : TypeInfo) (z : Value) (size bytes : Nat) (ht : P.underlying t = some (.slice e)) (hi : P.info? e = some i) (hz : i.zero = some z)
    (hsize : i.size = size) (hby : i.bytes = bytes) (hzs : z.cells.size = size) (hsz : 0 < size)
    (v : Value) (n : Nat) (xs : List Value) (hs : a.eval s = v) (hown : w.ownsRow base e size v n xs)
    (ad : Addr) (m c : Nat) (news : List Value) (hx : a.eval x = .slice (some ad) m c) (hl : news.length = m * size) (hnews : ∀ j u, news[j]? = some u → w.cell? (ad.add j) = some u) (h1 : ∀ u ∈ news, u.oneCell' = true)
    (h63 : n + m ≤ maxLen) (hbytes : (n + m) * bytes ≤ 140737488355328) (hbase : base ≤ w.heap.size)
    (h : ∀ v' w', w'.ownsRow base e size v' (n + m) (xs ++ news) → w.grownBy w' v.ownBlock → (v' = .slice none 0 0 ↔ v = .slice none 0 0 ∧ m = 0) → K (a.put o.dst v') w') :
    if Region.wanted o (yielded ops a.tmps) = true then Oper.wp P o a w K Q else E := by
  rw [if_pos (by simp [Region.wanted, hgd])]
  exact wp_append_own w s x t ho base e i z size bytes ht hi hz hsize hby hzs hsz v n xs hs hown ad m c news hx hl hnews h1 h63 hbytes hbase h

theorem held2_start0 (w : World) (c0 c1 : Value) (t : TypeId) :
    (w.alloc (.cells #[c0, c1] t)).cell? ⟨w.heap.size, 0, none⟩ = some c0 ∧ (w.alloc (.cells #[c0, c1] t)).cell? ⟨w.heap.size, 1, none⟩ = some c1 ∧ Below (w.heap.size + 1) (w.alloc (.cells #[c0, c1] t)) (w.alloc (.cells #[c0, c1] t)) :=
  ⟨by simp [go_sem], by simp [go_sem], Below.refl _ _⟩

theorem below_past {w x : World} {o : Obj} (h : Below (w.heap.size + 1) (w.alloc o) x) : Below w.heap.size w x :=
  ((Below.refl _ w).alloc (Nat.le_refl _) o).trans (h.mono (by omega))

/-- The two cells of a new block, as an append's source. -/
theorem news2 (w : World) (c0 c1 : Value) (t : TypeId) : ∀ (j : Nat) (u : Value), [c0, c1][j]? = some u → (w.alloc (.cells #[c0, c1] t)).cell? ((⟨w.heap.size, 0, none⟩ : Addr).add j) = some u := by
  intro j u hj
  match j, hj with
  | 0, hj => simp at hj; subst hj; simp [Addr.add, go_sem]
  | 1, hj => simp at hj; subst hj; simp [Addr.add, go_sem]

end Go.Proofs.YtpilfhjlfbjloaaGreatDoor
