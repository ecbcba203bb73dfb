/-
  The walks of codec.Encode at values that have a record. Conditions: each value is what its part may have. Plain facts on places: no program in sight. Conditions: none. The walk of codec.Encode at values that have a record. Conditions: parts that are a record's (up to 300), each value one that its part may have.
-/
import Derived.Test.YtpilfhjlfbjloaaGreatDoorPlaces
import Derived.Test.YtpilfhjlfbjloaaGreatDoorBits
namespace Go.Proofs.YtpilfhjlfbjloaaGreatDoor
open Go.RowKit

set_option maxHeartbeats 400000 in
theorem set_any (a n : Int) (x y : Nat) (w : World) (ha : 0 ≤ a) (hn : 1 ≤ n) (h : a + n ≤ 64) (hx : x < 18446744073709551616) (hy : y < 18446744073709551616) :
    Calls Tryz.prog 144 #[.agg #[.int .i64 a, .int .i64 n], .int .u64 x, .int .u64 y] w fun e w' => e = .returned (.int .u64 (setS a.toNat n.toNat x y)) ∧ Below w.heap.size w w' := by
  have Hx := hide hx
  have Hy := hide hy
  clear hx hy
  go_enter Tryz.func144, Tryz.ntmps144
  go_wp2_with fail
  refine wp_region_ext (by kernel_rfl) (by kernel_rfl) ?_
  repeat (first
    | go_big_quiet_skip
    | (go_big_quiet_want
       first
         | (apply quiet_val
            · intro wq hq
              have hcq := hq.cells
              have hzq := hq.lift
              go_simp
              try go_bits
              first | done | with_reducible rfl
            (try simp only [Act.put, List.setIfInBounds_toArray, List.set_cons_zero, List.set_cons_succ])
            go_big_quiet_on)
         | (apply quiet_call
            · intro wq hq
              have hcq := hq.cells
              have hzq := hq.lift
              go_simp
              first
                | (go_at_call 106; exact (max_any _ _ _ ha hn h).mono fun e w' hp => ⟨hp.1, hq.call hp.2⟩)
            (try simp only [Act.put, List.setIfInBounds_toArray, List.set_cons_zero, List.set_cons_succ])
            go_big_quiet_on)))
  refine wpQuiet_nil ?_
  intro wz hz
  go_wp2
  go_ret
  exact ⟨by simpa using set_eq a n x y ha hn h Hx.out Hy.out, ((Below.refl _ _).alloc (Nat.le_refl _) _).trans (hz.below.mono (by simp))⟩

set_option maxHeartbeats 400000 in
theorem put_ok (a n : Int) (x y : Nat) (w : World) (ha : 0 ≤ a) (hn : 1 ≤ n) (h : a + n ≤ 64) (hx : x < 18446744073709551616) (hy : y ≤ 2 ^ n.toNat - 1) :
    Calls Tryz.prog 135 #[.agg #[.int .i64 a, .int .i64 n], .int .u64 x, .int .u64 y] w fun e w' => e = .returned (.tuple #[.int .u64 (setS a.toNat n.toNat x y), .int .i64 0]) ∧ Below w.heap.size w w' := by
  have h2 : 2 ^ n.toNat ≤ 2 ^ 64 := Nat.pow_le_pow_right (by omega) (by omega)
  have h3 : 0 < 2 ^ n.toNat := Nat.two_pow_pos _
  have hy' : y < 18446744073709551616 := by omega
  have hcmp : decide (2 ^ n.toNat - 1 < y) = false := by simp; omega
  have Hy := hide hy'
  have Hx := hide hx
  clear h2 h3 hy hy' hx
  go_enter Tryz.func135, Tryz.ntmps135
  go_wp2_with (first
    | (go_at_call 131; refine (may_any _ _ _ ha hn h).mono ?_; rintro e w1 ⟨rfl, hb1⟩; obtain ⟨hc1, hf1, hz1⟩ := bcell hb1)
    | (go_at_call 106; refine (max_any _ _ _ ha hn h).mono ?_; rintro e w2 ⟨rfl, hb2⟩; obtain ⟨hc2, hf2, hz2⟩ := bcell hb2)
    | (go_at_call 144; refine (set_any _ _ _ _ _ ha hn h Hx.out Hy.out).mono ?_; rintro e w3 ⟨rfl, hb3⟩; obtain ⟨hc3, hf3, hz3⟩ := bcell hb3))
  go_ret2
  exact ⟨by simp, ((Below.refl _ _).alloc (Nat.le_refl _) _).trans ((hb1.mono (by simp)).trans ((hb2.mono (by have := hb1.size; simp at this; omega)).trans (hb3.mono (by have := hb1.size; have := hb2.size; simp at *; omega))))⟩

set_option maxHeartbeats 400000 in
theorem putsigned_ok (a n : Int) (x : Nat) (X : Int) (hX : X = x) (z : Int) (w : World) (ha : 0 ≤ a) (hn : 1 ≤ n) (h : a + n ≤ 64) (hx : x < 18446744073709551616) (h1 : -2 ^ (n.toNat - 1) ≤ z) (h2 : z < 2 ^ (n.toNat - 1)) :
    Calls Tryz.prog 134 #[.agg #[.int .i64 a, .int .i64 n], .int .u64 X, .int .i64 z] w fun e w' => e = .returned (.tuple #[.int .u64 (setS a.toNat n.toNat x (uw z)), .int .i64 0]) ∧ Below w.heap.size w w' := by
  subst hX
  have hs := sgn_set (a := a.toNat) (n := n.toNat) (x := x) (z := z) (by omega) (by omega) h1 h2
  have hcmp : (sgnS a.toNat n.toNat (setS a.toNat n.toNat x (uw z)) != z) = false := by rw [hs]; simp
  have hlt := setS_lt (a := a.toNat) (n := n.toNat) (x := x) (y := uw z) (by omega) hx
  have Hlt := hide hlt
  have Hx := hide hx
  have huw := uw_eq z
  clear hs hlt hx h1 h2
  go_enter Tryz.func134, Tryz.ntmps134
  go_wp2_with (first
    | (go_at_call 131; refine (may_any _ _ _ ha hn h).mono ?_; rintro e w1 ⟨rfl, hb1⟩; obtain ⟨hc1, hf1, hz1⟩ := bcell hb1)
    | (go_at_call 144; refine (set_any _ _ _ _ _ ha hn h Hx.out (uw_lt _)).mono ?_; rintro e w2 ⟨rfl, hb2⟩; obtain ⟨hc2, hf2, hz2⟩ := bcell hb2)
    | (go_at_call 129; refine (signed_any _ _ _ _ ha hn h Hlt.out).mono ?_; rintro e w3 ⟨rfl, hb3⟩; obtain ⟨hc3, hf3, hz3⟩ := bcell hb3))
  go_ret2
  exact ⟨by simp, ((Below.refl _ _).alloc (Nat.le_refl _) _).trans ((hb1.mono (by simp)).trans ((hb2.mono (by have := hb1.size; simp at this; omega)).trans (hb3.mono (by have := hb1.size; have := hb2.size; simp at *; omega))))⟩

/-- A float that is a whole number which a Point may have. -/
structure Half (x : Nat) (n : Int) : Prop where
  ge : (FloatKind.f64.format.order x 13970166044103278592 == some .gt || FloatKind.f64.format.order x 13970166044103278592 == some .eq) = true
  lt : (FloatKind.f64.format.order x 4746794007248502784 == some .lt) = true
  val : floatToIntVal .f64 x .i64 = some n
  eq : (FloatKind.f64.format.order x (floatOfInt .f64 n) == some .eq) = true
  lo : -2147483648 ≤ n
  hi : n < 2147483648

set_option maxHeartbeats 400000 in
theorem half_ok (x : Nat) (n : Int) (w : World) (h : Half x n) :
    Calls Tryz.prog 143 #[.float .f64 x] w fun e w' => e = .returned (.tuple #[.int .i64 n, .bool true]) ∧ w = w' := by
  have h1 := h.ge
  have h2 := h.lt
  have h3 := h.eq
  have hcv := fun w : World => run_convert_float_int (P := Tryz.prog) w 35 2 .f64 .i64 x n (by kernel_rfl) (by kernel_rfl) h.val
  clear h
  go_enter Tryz.func143, Tryz.ntmps143
  go_wp2
  go_ret2
  exact ⟨by simp, rfl⟩

set_option maxHeartbeats 400000 in
theorem halves_any (w : World) : Calls Tryz.prog 128 #[] w fun e w' => e = .returned (.tuple #[.agg #[.int .i64 0, .int .i64 32], .agg #[.int .i64 32, .int .i64 32]]) ∧ Below w.heap.size w w' := by
  go_enter Tryz.func128, Tryz.ntmps128
  go_wp2
  exact bodyPost_ret (v := .tuple #[.agg #[.int .i64 0, .int .i64 32], .agg #[.int .i64 32, .int .i64 32]]) (by simp [results, Tryz.results128, go_sem]) rfl ⟨rfl, ((Below.refl _ _).alloc (Nat.le_refl _) _).alloc (by simp) _⟩

set_option maxRecDepth 100000 in
set_option maxHeartbeats 800000 in
theorem point_ok (re im : Nat) (a b : Int) (w : World) (ha : Half re a) (hb : Half im b) :
    Calls Tryz.prog 133 #[.agg #[.int .i64 0, .complex .f64 re im]] w fun e w' => e = .returned (.tuple #[.int .u64 (setS 32 32 (setS 0 32 0 (uw a)) (uw b)), .int .i64 0]) ∧ Below w.heap.size w w' := by
  have hlt := setS_lt (a := 0) (n := 32) (x := 0) (y := uw a) (by omega) (by omega)
  have Hlt := hide hlt
  clear hlt
  go_enter Tryz.func133, Tryz.ntmps133
  go_wp2_with fail
  refine (half_ok _ _ _ ha).mono ?_
  rintro e w' ⟨rfl, rfl⟩
  go_wp2_with fail
  refine (half_ok _ _ _ hb).mono ?_
  rintro e w' ⟨rfl, rfl⟩
  go_wp2_with fail
  refine (halves_any _).mono ?_
  rintro e w1 ⟨rfl, hb1⟩
  obtain ⟨hc1, hf1, hz1⟩ := bcell hb1
  go_wp2_with fail
  refine (putsigned_ok 0 32 0 0 rfl a _ (by omega) (by omega) (by omega) (by omega) ha.lo ha.hi).mono ?_
  rintro e w2 ⟨rfl, hb2⟩
  obtain ⟨hc2, hf2, hz2⟩ := bcell hb2
  go_wp2_with fail
  refine (putsigned_ok 32 32 (setS 0 32 0 (uw a)) _ rfl b _ (by omega) (by omega) (by omega) Hlt.out hb.lo hb.hi).mono ?_
  rintro e w3 ⟨rfl, hb3⟩
  obtain ⟨hc3, hf3, hz3⟩ := bcell hb3
  go_wp2
  go_ret2
  exact ⟨rfl, below3 (below_new w _) (below3 hb1 (below_new2 _ _ _) hb2) hb3⟩

/-- A complex number that is 0. -/
def zeroZ (re im : Nat) : Bool := FloatKind.f64.format.order re 0 == some .eq && FloatKind.f64.format.order im 0 == some .eq

/-- A value that its part may have, and the word with it. -/
structure PutOk (k ln : Int) (bit x : Nat) (v : Int × Nat × Nat) (y : Nat) : Prop where
  point : k = 3 → v.1 = 0 ∧ ∃ a b, Half v.2.1 a ∧ Half v.2.2 b ∧ y = setS 32 32 (setS 0 32 0 (uw a)) (uw b)
  zero : k ≠ 3 → zeroZ v.2.1 v.2.2 = true
  whole : k = 2 → -2 ^ (ln.toNat - 1) ≤ v.1 ∧ v.1 < 2 ^ (ln.toNat - 1) ∧ y = setS bit ln.toNat x (uw v.1)
  count : k ≠ 3 → k ≠ 2 → 0 ≤ v.1 ∧ v.1.toNat ≤ 2 ^ ln.toNat - 1 ∧ y = setS bit ln.toNat x v.1.toNat

set_option maxRecDepth 100000 in
set_option maxHeartbeats 800000 in
theorem partput_ok (k ln : Int) (bit x : Nat) (n : Int) (re im y : Nat) (w : World) (hn : 1 ≤ ln) (hb : (bit : Int) + ln ≤ 64) (hx : x < 18446744073709551616) (h : PutOk k ln bit x (n, re, im) y) :
    Calls Tryz.prog 109 #[.agg #[.int .i64 k, .int .i64 ln], .int .u64 x, .int .i64 bit, .agg #[.int .i64 n, .complex .f64 re im]] w fun e w' => e = .returned (.tuple #[.int .u64 y, .int .i64 0]) ∧ Below w.heap.size w w' := by
  have H := hide h
  have Hx := hide hx
  clear h hx
  by_cases h3 : k = 3
  · subst h3
    obtain ⟨rfl, a, b, ha, hb', hy⟩ := H.out.point rfl
    subst hy
    clear H Hx
    go_enter Tryz.func109, Tryz.ntmps109
    go_wp2_with fail
    refine (point_ok _ _ a b _ ha hb').mono ?_
    rintro e w1 ⟨rfl, hb1⟩
    obtain ⟨hc1, hf1, hz1⟩ := bcell hb1
    go_wp2
    go_ret2
    exact ⟨rfl, below2 (below2 (below_new2 w _ _) (below_new _ _)) hb1⟩
  · have hk3 : (k == 3) = false := by simpa using h3
    have hz := H.out.zero h3
    have hz' : (FloatKind.f64.format.order re 0 == some .eq && FloatKind.f64.format.order im 0 == some .eq) = true := hz
    clear hz
    by_cases h2 : k = 2
    · subst h2
      obtain ⟨hlo, hhi, hy⟩ := H.out.whole rfl
      subst hy
      clear H
      have Hlo := hide hlo
      have Hhi := hide hhi
      clear hlo hhi hk3 h3
      go_enter Tryz.func109, Tryz.ntmps109
      go_wp2_with fail
      refine (putsigned_ok _ _ x _ rfl n _ (by omega) (by omega) (by omega) Hx.out Hlo.out Hhi.out).mono ?_
      rintro e w1 ⟨rfl, hb1⟩
      obtain ⟨hc1, hf1, hz1⟩ := bcell hb1
      go_wp2
      go_ret2
      exact ⟨by simp, below2 (below2 (below_new2 w _ _) (below_new _ _)) hb1⟩
    · have hk2 : (k == 2) = false := by simpa using h2
      obtain ⟨hlo, hhi, hy⟩ := H.out.count h3 h2
      subst hy
      clear H h2 h3
      obtain ⟨m, rfl⟩ := Int.eq_ofNat_of_zero_le hlo
      have huw : IntKind.u64.wrap (m : Int) = (m : Int) := by
        have h2 : 2 ^ ln.toNat ≤ 2 ^ 64 := Nat.pow_le_pow_right (by omega) (by omega)
        have h3 : 0 < 2 ^ ln.toNat := Nat.two_pow_pos _
        simp at hhi
        rw [IntKind.wrap_u64]; omega
      rw [Int.toNat_natCast] at *
      have Hhi := hide hhi
      clear hhi
      go_enter Tryz.func109, Tryz.ntmps109
      go_wp2_with fail
      refine (put_ok _ _ x m _ (by omega) (by omega) (by omega) Hx.out Hhi.out).mono ?_
      rintro e w1 ⟨rfl, hb1⟩
      obtain ⟨hc1, hf1, hz1⟩ := bcell hb1
      go_wp2
      go_ret2
      exact ⟨by simp, below2 (below2 (below_new2 w _ _) (below_new _ _)) hb1⟩

end Go.Proofs.YtpilfhjlfbjloaaGreatDoor

namespace Go.Proofs.YtpilfhjlfbjloaaGreatDoor

/-- What holds of a part that is right, and of where it begins. -/
structure Right (p : Int × Int) (q : Nat × Nat) (lo hi : Nat) : Prop where
  kind : 0 ≤ p.1 ∧ p.1 < 4
  len : loS p.1 ≤ p.2 ∧ p.2 ≤ hiS p.1
  fits : (q.2 : Int) + p.2 ≤ 64
  word : lo ≤ q.1 ∧ q.1 < hi

theorem go_facts {ps : List (Int × Int)} : ∀ {a t : Nat} {acc pl : List (Nat × Nat)} {m : Nat}, placesGo ps a t acc = .ok (pl, m) → t ≤ 64 → a ≤ 63 →
    ∃ l, pl = acc ++ l ∧ l.length = ps.length ∧ a < m ∧ m ≤ 64 ∧ ∀ i (h : i < ps.length) (h' : i < l.length), Right ps[i] l[i] a m := by
  induction ps with
  | nil =>
    intro a t acc pl m h ht ha
    simp only [placesGo, Except.ok.injEq, Prod.mk.injEq] at h
    obtain ⟨rfl, rfl⟩ := h
    exact ⟨[], by simp, rfl, by omega, by omega, fun i h => by simp at h⟩
  | cons p ps ih =>
    obtain ⟨k, n⟩ := p
    intro a t acc pl m h ht ha
    by_cases h1 : k < 0 ∨ 4 ≤ k
    · rw [go_kind h1] at h; cases h
    by_cases h2 : n < loS k ∨ hiS k < n
    · rw [go_len h1 h2] at h; cases h
    have hlo := lo_bd k
    have hhi := hi_bd k
    by_cases h3 : 64 - (t : Int) < n
    · by_cases h4 : 63 ≤ a
      · rw [go_full h1 h2 h3 h4] at h; cases h
      · rw [go_next h1 h2 h3 h4] at h
        obtain ⟨l, rfl, hl, hm, hm', hi⟩ := ih h (by omega) (by omega)
        refine ⟨(a + 1, 0) :: l, by simp, by simp [hl], by omega, hm', fun i h h' => ?_⟩
        cases i with
        | zero => exact ⟨by simp; omega, by simp; omega, by simp; omega, by simp; omega⟩
        | succ i =>
          have := hi i (by simpa using h) (by simpa using h')
          exact ⟨this.kind, this.len, this.fits, by have := this.word; simp at this ⊢; omega⟩
    · rw [go_here h1 h2 h3] at h
      obtain ⟨l, rfl, hl, hm, hm', hi⟩ := ih h (by omega) ha
      refine ⟨(a, t) :: l, by simp, by simp [hl], hm, hm', fun i h h' => ?_⟩
      cases i with
      | zero => exact ⟨by simp; omega, by simp; omega, by simp; omega, by simp; omega⟩
      | succ i => exact hi i (by simpa using h) (by simpa using h')

theorem places_facts {ps : List (Int × Int)} {pl : List (Nat × Nat)} {m : Nat} (h : placesS ps = .ok (pl, m)) :
    0 < m ∧ m ≤ 64 ∧ pl.length = ps.length ∧ 0 < ps.length ∧ ps.length ≤ 256 ∧ ∀ i (h : i < ps.length) (h' : i < pl.length), Right ps[i] pl[i] 0 m := by
  unfold placesS at h
  split at h
  · cases h
  · obtain ⟨l, rfl, hl, hm, hm', hi⟩ := go_facts h (by omega) (by omega)
    exact ⟨hm, hm', hl, by omega, by omega, hi⟩

end Go.Proofs.YtpilfhjlfbjloaaGreatDoor

namespace Go.Proofs.YtpilfhjlfbjloaaGreatDoor
open Go.RowKit

/-- The cells of values. -/
def flatV (vs : List (Int × Nat × Nat)) : List Value := vs.flatMap fun v => [.int .i64 v.1, .complex .f64 v.2.1 v.2.2]
/-- The cells of words. -/
def flatW (ws : List Nat) : List Value := ws.map fun (x : Nat) => .int .u64 (x : Int)

theorem flatV_at (vs : List (Int × Nat × Nat)) (k : Nat) (h : k < vs.length) : (flatV vs)[k * 2]? = some (.int .i64 vs[k].1) ∧ (flatV vs)[k * 2 + 1]? = some (.complex .f64 vs[k].2.1 vs[k].2.2) := by
  induction vs generalizing k with
  | nil => simp at h
  | cons p ps ih =>
    cases k with
    | zero => simp [flatV]
    | succ k =>
      have := ih k (by simpa using h)
      have e : flatV (p :: ps) = .int .i64 p.1 :: .complex .f64 p.2.1 p.2.2 :: flatV ps := by simp [flatV]
      rw [e, show (k + 1) * 2 = k * 2 + 2 from by omega, show k * 2 + 2 + 1 = (k * 2 + 1) + 2 from by omega]
      simpa using this

theorem flatA_at (vs : List (Nat × Nat)) (k : Nat) (h : k < vs.length) : (flatA vs)[k * 2]? = some (.int .i64 vs[k].1) ∧ (flatA vs)[k * 2 + 1]? = some (.int .i64 vs[k].2) := by
  induction vs generalizing k with
  | nil => simp at h
  | cons p ps ih =>
    cases k with
    | zero => simp [flatA]
    | succ k =>
      have := ih k (by simpa using h)
      have e : flatA (p :: ps) = .int .i64 p.1 :: .int .i64 p.2 :: flatA ps := by simp [flatA]
      rw [e, show (k + 1) * 2 = k * 2 + 2 from by omega, show k * 2 + 2 + 1 = (k * 2 + 1) + 2 from by omega]
      simpa using this

/-- Words with values put into them, one by one. -/
def EncOk : List (Int × Int) → List (Nat × Nat) → List (Int × Nat × Nat) → List Nat → List Nat → Prop
  | [], [], [], ws, ws' => ws = ws'
  | (k, ln) :: ps, (a, t) :: pl, v :: vs, ws, ws' => ∃ y, PutOk k ln t (ws.getD a 0) v y ∧ a < ws.length ∧ EncOk ps pl vs (ws.set a y) ws'
  | _, _, _, _, _ => False

theorem Tryz.infoU64 : (Tryz.prog.info? 39).map (fun i => (i.zero, i.size, i.bytes)) = some (some (.int .u64 0), 1, 8) := by kernel_rfl

theorem putok_lt {k ln : Int} {t x : Nat} {v : Int × Nat × Nat} {y : Nat} (h : PutOk k ln t x v y) (hn : 1 ≤ ln) (hb : (t : Int) + ln ≤ 64) (hx : x < 18446744073709551616) : y < 18446744073709551616 := by
  by_cases h3 : k = 3
  · obtain ⟨_, a, b, _, _, rfl⟩ := h.point h3
    exact setS_lt (by omega) (setS_lt (by omega) (by omega))
  · by_cases h2 : k = 2
    · obtain ⟨_, _, rfl⟩ := h.whole h2
      exact setS_lt (by omega) hx
    · obtain ⟨_, _, rfl⟩ := h.count h3 h2
      exact setS_lt (by omega) hx

set_option maxRecDepth 100000 in
set_option maxHeartbeats 1600000 in
theorem encode_ok (ps : List (Int × Int)) (vs : List (Int × Nat × Nat)) (pl : List (Nat × Nat)) (m : Nat) (wf : List Nat) (v vv : Value) (w : World)
    (hr : Rd w v 2 ps.length (flatP ps)) (hlen : ps.length ≤ 300) (hp : placesS ps = .ok (pl, m)) (hv : Rd w vv 2 ps.length (flatV vs)) (hvl : vs.length = ps.length) (he : EncOk ps pl vs (List.replicate m 0) wf) :
    Calls Tryz.prog 86 #[v, vv] w fun e w' => ∃ v', e = .returned (.tuple #[v', .int .i64 0]) ∧ w'.ownsRow w.heap.size 39 1 v' m (flatW wf) ∧ Below w.heap.size w w' := by
  obtain ⟨i0, hi, hz0, hz1, hz2⟩ := info_parts Tryz.infoU64
  have HP := hide (places_any ps v w hr hlen)
  have F := hide (places_facts hp)
  have Hp := hide hp
  have He := hide he
  have Hvl := hide hvl
  clear hp he hvl
  obtain ⟨n, hn⟩ : ∃ n, ps.length = n := ⟨_, rfl⟩
  rw [hn] at hr hlen hv
  obtain ⟨A, c, rfl, hnc, hcm, hopen⟩ := hr.shape
  obtain ⟨A', c', rfl, hnc', hcm', hopen'⟩ := hv.shape
  have Hn := hide hn
  have Hopen := hide hopen
  have Hopen' := hide hopen'
  have hm64 : m ≤ 64 := F.out.2.1
  have hpl : pl.length = n := by have := F.out; omega
  have Hpl := hide hpl
  clear hpl
  clear hn hopen hopen' hr hv
  go_enter Tryz.func86, Tryz.ntmps86
  go_wp2_with (first
    | (go_at_call 104; refine HP.out.mono ?_; rintro e w1 ⟨hb1, he⟩; rw [Hp.out] at he; obtain ⟨v1, he, hown1⟩ := he; subst he; obtain ⟨b1, o1, c1, hv1, hnc1, hcm1, hb1', hc1⟩ := (Rd.of_own hown1).open_ (show 0 < pl.length by have := F.out; omega); rw [Hpl.out] at hv1; subst hv1; have Hc1 := hide hc1; clear hc1)
    | (at_make; refine wpList_make_full _ rfl (.tmp 27) (.tmp 27) 42 rfl w.heap.size 39 i0 _ 1 Tryz.underlying42 hi hz0 hz1 .i64 .i64 m m m rfl rfl rfl rfl (by rw [hz2]; omega) (by unfold maxLen; omega) hb1.size ?_; intro w2 hown2 hgr2))
  have hbel2 : Below w1.heap.size w1 w2 := (Below.refl _ _).grown hgr2 (Nat.le_refl _) (by simp)
  clear hgr2
  rw [Hpl.out] at hown1 hnc1
  have hw2 : (madeCells (Value.int IntKind.u64 0).cells (m * 1)).toList = flatW (List.replicate m 0) := by
    rw [Nat.mul_one]
    exact (toList_madeCells_one _ _).trans (by simp [flatW])
  rw [hw2] at hown2
  clear hw2
  go_loopw [8, 31] (fun e8 i wr => ∃ (k : Nat) (ws : List Nat), k ≤ n ∧ i = .int .i64 k ∧ e8 = .int .i64 0 ∧ Hid (EncOk (ps.drop k) (pl.drop k) (vs.drop k) ws wf) ∧ ws.length = m ∧ Hid (∀ x ∈ ws, x < 18446744073709551616) ∧
      wr.ownsRow w.heap.size 39 1 (.slice (some ⟨w1.heap.size, 0, none⟩) m m) m (flatW ws) ∧ Below w1.heap.size w1 wr) (fun _ i _ => n - (intOf i).toNat)
  case atStart => exact ⟨0, List.replicate m 0, Nat.zero_le _, rfl, rfl, He, by simp, hide (fun x hx => by simp at hx; omega), hown2, hbel2⟩
  case round =>
    obtain ⟨k, ws, hk, rfl, rfl, Hgo, hwl, Hlt, hown, hbel⟩ := hrel
    clear hown2 hbel2
    by_cases hlt : k < n
    · have hkl : k < ps.length := by have := Hn.out; omega
      have hkp : k < pl.length := by have := Hpl.out; omega
      have hkv : k < vs.length := by have := Hvl.out; omega
      have hR := F.out.2.2.2.2.2 k hkl hkp
      obtain ⟨kd, hkd⟩ : ∃ q, q = ps[k].1 := ⟨_, rfl⟩
      obtain ⟨ln, hln⟩ : ∃ q, q = ps[k].2 := ⟨_, rfl⟩
      obtain ⟨a, ha⟩ : ∃ q, q = pl[k].1 := ⟨_, rfl⟩
      obtain ⟨t, ht⟩ : ∃ q, q = pl[k].2 := ⟨_, rfl⟩
      obtain ⟨nn, hnn⟩ : ∃ q, q = vs[k].1 := ⟨_, rfl⟩
      obtain ⟨re, hre⟩ : ∃ q, q = vs[k].2.1 := ⟨_, rfl⟩
      obtain ⟨im, him⟩ : ∃ q, q = vs[k].2.2 := ⟨_, rfl⟩
      obtain ⟨b, o, rfl, hb, hc⟩ := Hopen.out (by omega)
      obtain ⟨b', o', rfl, hb', hc'⟩ := Hopen'.out (by omega)
      obtain ⟨hx0, hx1⟩ := flatP_at ps k hkl
      obtain ⟨hy0, hy1⟩ := flatA_at pl k hkp
      obtain ⟨hz0, hz1⟩ := flatV_at vs k hkv
      rw [← hkd] at hx0
      rw [← hln] at hx1
      rw [← ha] at hy0
      rw [← ht] at hy1
      rw [← hnn] at hz0
      rw [← hre, ← him] at hz1
      have hbw := hb1.trans (hbel.mono hb1.size)
      have hl0 := (hbw.cell (p := ⟨b, o + k * 2, none⟩) hb).trans (hc _ _ hx0)
      have hl1 := (hbw.cell (p := ⟨b, o + k * 2 + 1, none⟩) hb).trans (hc _ _ hx1)
      have ha0 := (hbel.cell (p := ⟨b1, o1 + k * 2, none⟩) hb1').trans (Hc1.out _ _ hy0)
      have ha1 := (hbel.cell (p := ⟨b1, o1 + k * 2 + 1, none⟩) hb1').trans (Hc1.out _ _ hy1)
      have hv0 := (hbw.cell (p := ⟨b', o' + k * 2, none⟩) hb').trans (hc' _ _ hz0)
      have hv1 := (hbw.cell (p := ⟨b', o' + k * 2 + 1, none⟩) hb').trans (hc' _ _ hz1)
      have hbr1 : b1 < wr.heap.size := Nat.lt_of_lt_of_le hb1' hbel.size
      have hbr' : b' < wr.heap.size := Nat.lt_of_lt_of_le hb' hbw.size
      have hbrg : w1.heap.size < wr.heap.size := (hown.lt _ rfl).2
      have hl1' : 1 ≤ ln := by have := hR.len; have := lo_bd ps[k].1; omega
      have hfit : (t : Int) + ln ≤ 64 := by have := hR.fits; omega
      have ham : a < m := by have := hR.word; omega
      have hd : Hid (∃ y, PutOk kd ln t (ws.getD a 0) (nn, re, im) y ∧ a < ws.length ∧ EncOk (ps.drop (k + 1)) (pl.drop (k + 1)) (vs.drop (k + 1)) (ws.set a y) wf) := by
        have e1 : ps.drop k = (kd, ln) :: ps.drop (k + 1) := by rw [List.drop_eq_getElem_cons hkl, hkd, hln]
        have e2 : pl.drop k = (a, t) :: pl.drop (k + 1) := by rw [List.drop_eq_getElem_cons hkp, ha, ht]
        have e3 : vs.drop k = (nn, re, im) :: vs.drop (k + 1) := by rw [List.drop_eq_getElem_cons hkv, hnn, hre, him]
        have := Hgo.out
        rw [e1, e2, e3] at this
        exact this
      clear hx0 hx1 hy0 hy1 hz0 hz1 hkd hln ha ht hnn hre him hkl hkp hkv hR hc hc' Hgo Hopen Hopen' Hc1 hbw
      obtain ⟨y, hput, hal, hnext⟩ := hd.out
      obtain ⟨x, hx⟩ : ∃ x, x = ws.getD a 0 := ⟨_, rfl⟩
      rw [← hx] at hput
      have hxlt : x < 18446744073709551616 := by
        have e : ws.getD a 0 = ws[a] := by simp [hal]
        rw [hx, e]; exact Hlt.out _ (List.getElem_mem _)
      have hcx : wr.cell? ⟨w1.heap.size, a, none⟩ = some (.int .u64 x) := by
        rw [hown.cellAt a (by omega), hx]
        simp [flatW, hal]
      have hylt := putok_lt hput hl1' hfit hxlt
      have Hput := hide hput
      have Hnext := hide hnext
      have Hxlt := hide hxlt
      clear hput hnext hx hd
      go_wp2_with fail
      refine wp_region_ext_tail 19 (by kernel_rfl) (by kernel_rfl) (fun _ _ d _ _ h => by cases d <;> exact h) ?_
      simp only [List.take_succ_cons, List.take_zero, List.drop_succ_cons, List.drop_zero]
      repeat (first
        | go_big_quiet_skip
        | (go_big_quiet_want
           first
             | (apply quiet_val
                · intro wq hq
                  have hcq := hq.cells
                  have hzq := hq.lift
                  go_simp
                  try go_bits
                  first | done | with_reducible rfl
                (try simp only [Act.put, List.setIfInBounds_toArray, List.set_cons_zero, List.set_cons_succ])
                go_big_quiet_on)
             | (apply quiet_call
                · intro wq hq
                  have hcq := hq.cells
                  have hzq := hq.lift
                  go_simp
                  first
                    | (go_at_call 109; exact (partput_ok _ _ _ _ _ _ _ _ _ hl1' hfit Hxlt.out Hput.out).mono fun e w' hp => ⟨hp.1, hq.call hp.2⟩)
                (try simp only [Act.put, List.setIfInBounds_toArray, List.set_cons_zero, List.set_cons_succ])
                go_big_quiet_on)))
      refine wpQuiet_nil ?_
      intro wz hz
      obtain ⟨hcz, hfz, hzz⟩ := hz.facts
      have hcg : wz.cell? ⟨w1.heap.size, a, none⟩ = some (.int .u64 x) := (hcz _ _ (by simp; omega)).trans ((World.cell?_alloc_lt wr _ _ (by simpa using hbrg)).trans hcx)
      have hfg : wz.frozen? ⟨w1.heap.size, a, none⟩ = false := (hfz _ _ (by simp; omega)).trans (((below_new wr _).frozen (p := ⟨w1.heap.size, a, none⟩) hbrg).trans (hown.frozenAt a))
      have hownz : wz.ownsRow w.heap.size 39 1 (.slice (some ⟨w1.heap.size, 0, none⟩) m m) m (flatW ws) := own_below (own_below hown (below_new wr _)) hz.below
      have hbelz : Below w1.heap.size w1 wz := hbel.trans ((below2 (below_new wr _) hz.below).mono (by omega))
      clear hcz hfz hzz hz hbel hown hl0 hl1 ha0 ha1 hv0 hv1 hcx
      go_wp2
      go_roundw
      case rel =>
        refine ⟨k + 1, ws.set a y, by omega, by go_num, rfl, Hnext, by simp [hwl], hide (fun x hx => ?_), ?_, hbelz.setCell (Nat.le_refl _) _⟩
        · rcases List.mem_or_eq_of_mem_set hx with h | h
          · exact Hlt.out x h
          · subst h; exact hylt
        · have := hownz.stored a (.int .u64 (y : Int))
          rw [show flatW (ws.set a y) = (flatW ws).set a (.int .u64 (y : Int)) from by simp [flatW, List.map_set]]
          exact this.1
      case measure => simp [intOf]; omega
    · have hkn : k = n := by omega
      subst hkn
      have hfin : ws = wf := by
        have h1 : ps.drop k = [] := List.drop_eq_nil_of_le (by have := Hn.out; omega)
        have h2 : pl.drop k = [] := List.drop_eq_nil_of_le (by have := Hpl.out; omega)
        have h3 : vs.drop k = [] := List.drop_eq_nil_of_le (by have := Hn.out; have := Hvl.out; omega)
        have := Hgo.out
        rw [h1, h2, h3] at this
        exact this
      subst hfin
      clear hlt Hopen Hopen' Hgo Hlt He Hc1 hown1 Hvl F Hp HP
      go_wp2
      go_ret2
      exact ⟨_, rfl, hown, hb1.trans (hbel.mono hb1.size)⟩

end Go.Proofs.YtpilfhjlfbjloaaGreatDoor
