/-
  The walk of config.line: it computes 'lineS'. Conditions: numbers below 100, words of up to 100000 bytes.
-/
import Derived.Test.YtelacngphgebiaaDoorGRefCut
namespace Go.Proofs.YtelacngphgebiaaDoor
set_option pp.deepTerms true
set_option pp.maxSteps 1000000
open Go.RowKit

theorem ba_app (x y : ByteArray) : x ++ y = ⟨(x.data.toList ++ y.data.toList).toArray⟩ := by
  apply ByteArray.ext
  rw [ByteArray.data_append]
  simp

/-- A line. -/
def lineS (a b c x : List UInt8) (y z : Nat) : List UInt8 := a ++ 32 :: (x ++ 32 :: (b ++ 32 :: (Lib.decDigits y ++ 32 :: (c ++ 32 :: (Lib.decDigits z ++ [10])))))

theorem join_line (a b c x y z : List UInt8) : Lib.join [a, x, b, y, c, z] [32] ++ [10] = a ++ 32 :: (x ++ 32 :: (b ++ 32 :: (y ++ 32 :: (c ++ 32 :: (z ++ [10]))))) := by
  simp only [join_two, Lib.join_one, List.append_assoc, List.cons_append]

theorem digits_small : ∀ n : Fin 100, (Lib.decDigits n.val).length ≤ 2 ∧ Lib.decDigits n.val ≠ [] := by decide +kernel

theorem digits_len {n : Nat} (h : n < 100) : (Lib.decDigits n).length ≤ 2 := (digits_small ⟨n, h⟩).1

theorem lineS_len (a b c x : List UInt8) {y z : Nat} (hy : y < 100) (hz : z < 100) : (lineS a b c x y z).length ≤ a.length + b.length + c.length + x.length + 10 := by
  have h1 := digits_len hy
  have h2 := digits_len hz
  simp only [lineS, List.length_append, List.length_cons, List.length_nil]
  omega

set_option maxRecDepth 100000 in
set_option maxHeartbeats 1600000 in
theorem line_any (A B C X : ByteArray) (y z : Nat) (w : World) (hy : y < 100) (hz : z < 100) (hA : A.size ≤ 100) (hB : B.size ≤ 100) (hC : C.size ≤ 100) (hX : X.size ≤ 100000) :
    Calls Tryd.prog 37 #[.string A, .string B, .string C, .string X, .int .i64 y, .int .i64 z] w fun e w' => e = .returned (.string ⟨(lineS A.data.toList B.data.toList C.data.toList X.data.toList y z).toArray⟩) ∧ Below w.heap.size w w' := by
  have HY := hide (fun w => Tryd.strconv_Itoa_small y hy w)
  have HZ := hide (fun w => Tryd.strconv_Itoa_small z hz w)
  have h1 := digits_len hy
  have h2 := digits_len hz
  have sA := Lib.size_eq A
  have sB := Lib.size_eq B
  have sC := Lib.size_eq C
  have sX := Lib.size_eq X
  have hline : lineS A.data.toList B.data.toList C.data.toList X.data.toList y z = Lib.join [A.data.toList, X.data.toList, B.data.toList, Lib.decDigits y, C.data.toList, Lib.decDigits z] [32] ++ [10] := by rw [join_line, lineS]
  have hjl : (Lib.join [A.data.toList, X.data.toList, B.data.toList, Lib.decDigits y, C.data.toList, Lib.decDigits z] [32]).length ≤ 100000000 := by
    have h3 := lineS_len A.data.toList B.data.toList C.data.toList X.data.toList hy hz
    rw [hline, List.length_append, List.length_singleton] at h3
    omega
  obtain ⟨dy, hdy⟩ : ∃ d : ByteArray, d = ⟨(Lib.decDigits y).toArray⟩ := ⟨_, rfl⟩
  obtain ⟨dz, hdz⟩ : ∃ d : ByteArray, d = ⟨(Lib.decDigits z).toArray⟩ := ⟨_, rfl⟩
  have ey : Lib.decDigits y = dy.data.toList := by rw [hdy]
  have ez : Lib.decDigits z = dz.data.toList := by rw [hdz]
  rw [← hdy] at HY
  rw [← hdz] at HZ
  rw [ey, ez] at hline hjl
  have HJ : Hid (∀ w1, w1 = w.alloc (.cells ([A, X, B, dy, C, dz].map Value.string).toArray 9) → Calls Tryd.prog 54 #[.slice (some ⟨w.heap.size, 0, none⟩) 6 6, .string ⟨#[32]⟩] w1 fun e w' => e = .returned (.string ⟨(Lib.join [A.data.toList, X.data.toList, B.data.toList, dy.data.toList, C.data.toList, dz.data.toList] [32]).toArray⟩) ∧ Below w1.heap.size w1 w') := hide (fun w1 hw1 => by
    obtain ⟨p0, p1, p2, p3, p4, p5⟩ := six_cells hw1
    exact Tryd.strings_Join w.heap.size 0 6 [A, X, B, dy, C, dz] ⟨#[32]⟩ w1 (fun j x hj => by
      match j, hj with
      | 0, hj => simp at hj; subst hj; simpa using p0
      | 1, hj => simp at hj; subst hj; simpa using p1
      | 2, hj => simp at hj; subst hj; simpa using p2
      | 3, hj => simp at hj; subst hj; simpa using p3
      | 4, hj => simp at hj; subst hj; simpa using p4
      | 5, hj => simp at hj; subst hj; simpa using p5
      | j + 6, hj => simp at hj) (by rw [hw1]; simp) (by simp) (by simp) (by
        have e : ([A, X, B, dy, C, dz].map (fun x : ByteArray => x.data.toList)) = [A.data.toList, X.data.toList, B.data.toList, dy.data.toList, C.data.toList, dz.data.toList] := rfl
        have e2 : (⟨#[32]⟩ : ByteArray).data.toList = [32] := rfl
        rw [e, e2]
        omega))
  obtain ⟨J, hJ⟩ : ∃ J : ByteArray, J = ⟨(Lib.join [A.data.toList, X.data.toList, B.data.toList, dy.data.toList, C.data.toList, dz.data.toList] [32]).toArray⟩ := ⟨_, rfl⟩
  rw [← hJ] at HJ
  have hJs : J.size ≤ 100000000 := by rw [hJ]; simpa [ByteArray.size] using hjl
  have hJl : J.data.toList = Lib.join [A.data.toList, X.data.toList, B.data.toList, dy.data.toList, C.data.toList, dz.data.toList] [32] := by rw [hJ]
  have Hline := hide (show (⟨(lineS A.data.toList B.data.toList C.data.toList X.data.toList y z).toArray⟩ : ByteArray) = J ++ ⟨#[10]⟩ from by
    rw [hline, ← hJl, ba_app])
  clear hJ hJl hdy hdz ey ez hline hjl sA sB sC sX h1 h2
  go_enter Tryd.func37, Tryd.ntmps37
  go_wp2_with fail
  refine (HY.out _).mono ?_
  rintro e w' ⟨rfl, rfl⟩
  go_wp2_with fail
  refine (HZ.out _).mono ?_
  rintro e w' ⟨rfl, rfl⟩
  go_wp2_with fail
  refine (HJ.out _ rfl).mono ?_
  rintro e w1 ⟨rfl, hb1⟩
  go_wp2
  go_ret
  refine ⟨?_, below2 (below_new _ _) hb1⟩
  rw [Hline.out]
  simp

end Go.Proofs.YtelacngphgebiaaDoor
