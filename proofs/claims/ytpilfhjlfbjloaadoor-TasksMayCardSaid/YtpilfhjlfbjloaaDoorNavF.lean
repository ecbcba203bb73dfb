/-
  The walks of nav.Encode, nav.Decode, tasks.word, tasks.number. Conditions: parts of 32 bits where something is encoded.
-/
import Derived.Test.YtpilfhjlfbjloaaDoorNavE
import Derived.Test.YtpilfhjlfbjloaaDoorDecode
namespace Go.Proofs.YtpilfhjlfbjloaaDoor
open Go.RowKit
attribute [local irreducible] fI

set_option maxRecDepth 100000 in
set_option maxHeartbeats 1600000 in
/-- Words of another number. -/
theorem decode_width (ps : List (Int × Int)) (pl : List (Nat × Nat)) (m : Nat) (v : Value) (A : Option Addr) (n c : Nat) (w : World) (hr : Rd w v 2 ps.length (flatP ps)) (hlen : ps.length ≤ 300) (hp : placesS ps = .ok (pl, m)) (hn : n ≠ m) :
    Calls Tryd.prog 47 #[v, .slice A n c] w fun e w' => e = .returned (.tuple #[.slice none 0 0, .int .i64 17]) ∧ Below w.heap.size w w' := by
  have HP := hide (places_any ps v w hr hlen)
  have hne : ((n : Int) != (m : Int)) = true := by simp; omega
  have Hp := hide hp
  clear hp hr hn
  go_enter Tryd.func47, Tryd.ntmps47
  go_wp2_with fail
  refine HP.out.mono ?_
  rintro e w1 ⟨hb, he⟩
  rw [Hp.out] at he
  obtain ⟨v1, rfl, hown1⟩ := he
  go_wp2
  go_ret2
  exact ⟨rfl, hb⟩

theorem set64 (x : Nat) (h : x < 18446744073709551616) : setS 0 64 x 0 = 0 := by
  unfold setS
  simp
  omega
theorem clr1 (x : Nat) (h : x < 18446744073709551616) : clearS ([(3, 64)].zip [(0, 0)]) [x] = [0] := by
  simp [clearS, clear1, set64 x h]
theorem clr3 (x y z : Nat) (h1 : x < 18446744073709551616) (h2 : y < 18446744073709551616) (h3 : z < 18446744073709551616) : clearS ([(3, 64), (3, 64), (3, 64)].zip [(0, 0), (1, 0), (2, 0)]) [x, y, z] = [0, 0, 0] := by
  simp [clearS, clear1, set64 x h1, set64 y h2, set64 z h3]
theorem mayB_h {a : Int} (h : mayB a = true) : H32 a := by simp [mayB] at h; unfold H32; omega
theorem okZ_h {a b : Int} (h : okZ a b = true) : H32 a ∧ H32 b := by
  simp only [okZ, Bool.and_eq_true] at h
  exact ⟨mayB_h h.1, mayB_h h.2⟩
theorem nose_h {a b : Int} (h : noseB a b = true) : H32 a ∧ H32 b := by
  simp [noseB] at h
  rcases h with ((⟨rfl, rfl⟩ | ⟨rfl, rfl⟩) | ⟨rfl, rfl⟩) | ⟨rfl, rfl⟩ <;> constructor <;> (unfold H32; decide)
/-- The two halves of a word. -/
def loW (x : Nat) : Int := sgnS 0 32 x
def hiW (x : Nat) : Int := sgnS 32 32 x
theorem sgn_bd (a x : Nat) : H32 (sgnS a 32 x) := by
  have h : getS a 32 x < 4294967296 := Nat.mod_lt _ (by decide)
  unfold sgnS H32
  split <;> omega
theorem dec1 (x : Nat) (h : x < 18446744073709551616) : decodeS [(3, 64)] [x] = .ok [(0, fI (loW x), fI (hiW x))] := by
  unfold decodeS
  rw [places1]
  simp only [List.length_cons, List.length_nil]
  rw [if_neg (by decide), clr1 x h, if_pos (by decide)]
  simp [valS, getV, fltS, fI_ofInt, loW, hiW]
theorem dec3 (x y z : Nat) (h1 : x < 18446744073709551616) (h2 : y < 18446744073709551616) (h3 : z < 18446744073709551616) : decodeS [(3, 64), (3, 64), (3, 64)] [x, y, z] = .ok [(0, fI (loW x), fI (hiW x)), (0, fI (loW y), fI (hiW y)), (0, fI (loW z), fI (hiW z))] := by
  unfold decodeS
  rw [places3]
  simp only [List.length_cons, List.length_nil]
  rw [if_neg (by decide), clr3 x y z h1 h2 h3, if_pos (by decide)]
  simp [valS, getV, fltS, fI_ofInt, loW, hiW]

theorem enc1 {a b : Int} (ha : H32 a) (hb : H32 b) : EncOk [(3, 64)] [(0, 0)] [(0, fI a, fI b)] (List.replicate 1 0) [wordZ a b] :=
  ⟨_, ⟨fun _ => ⟨rfl, a, b, half_fI ha, half_fI hb, rfl⟩, fun h => absurd rfl h, fun h => (by cases h), fun h => absurd rfl h⟩, by decide, rfl⟩
theorem enc3 {a b c d e f : Int} (ha : H32 a) (hb : H32 b) (hc : H32 c) (hd : H32 d) (he : H32 e) (hf : H32 f) : EncOk [(3, 64), (3, 64), (3, 64)] [(0, 0), (1, 0), (2, 0)] [(0, fI a, fI b), (0, fI c, fI d), (0, fI e, fI f)] (List.replicate 3 0) [wordZ a b, wordZ c d, wordZ e f] :=
  ⟨_, ⟨fun _ => ⟨rfl, a, b, half_fI ha, half_fI hb, rfl⟩, fun h => absurd rfl h, fun h => (by cases h), fun h => absurd rfl h⟩, by simp,
   _, ⟨fun _ => ⟨rfl, c, d, half_fI hc, half_fI hd, rfl⟩, fun h => absurd rfl h, fun h => (by cases h), fun h => absurd rfl h⟩, by simp,
   _, ⟨fun _ => ⟨rfl, e, f, half_fI he, half_fI hf, rfl⟩, fun h => absurd rfl h, fun h => (by cases h), fun h => absurd rfl h⟩, by simp, rfl⟩

set_option maxRecDepth 100000 in
set_option maxHeartbeats 1600000 in
theorem word_any {a b : Int} (ha : H32 a) (hb : H32 b) (w : World) : Calls Tryd.prog 40 #[cI a b] w fun e w' => ∃ g c, e = .returned (.slice (some ⟨g, 0, none⟩) 1 c) ∧ Rd w' (.slice (some ⟨g, 0, none⟩) 1 c) 1 1 (flatW [wordZ a b]) ∧ w.heap.size ≤ g ∧ Below w.heap.size w w' := by
  have HE := hide (fun v vv w hr hv => encode_ok [(3, 64)] [(0, fI a, fI b)] [(0, 0)] 1 [wordZ a b] v vv w hr (by decide) places1 hv rfl (enc1 ha hb))
  have h1 := fun w => fadd0_run ha.sm w
  have h2 := fun w => fadd0_run hb.sm w
  clear ha hb
  go_enter Tryd.func40, Tryd.ntmps40
  go_wp2_with fail
  refine (form_any _).mono ?_
  rintro e w' ⟨rfl, rfl⟩
  have hp := below_new2 w (.cells #[.int .i64 3, .int .i64 64] 124) (.cells #[.int .i64 0, cI a b] 110)
  have hr := (Rd.new w [.int .i64 3, .int .i64 64] 124 2 1 rfl (by decide)).alloc (.cells #[.int .i64 0, cI a b] 110)
  have hv := Rd.new (w.alloc (.cells #[.int .i64 3, .int .i64 64] 124)) [.int .i64 0, cI a b] 110 2 1 rfl (by decide)
  rw [alloc_size] at hv
  go_wp2_with fail
  refine (HE.out _ _ _ hr hv).mono ?_
  rintro e w1 ⟨v', rfl, hown, hb1⟩
  have hrd := Rd.of_own hown
  obtain ⟨g, cc, rfl, hgb, -⟩ := hown.form (by decide)
  have hgw := Nat.le_trans hp.size hgb
  clear hown hgb
  go_wp2
  go_ret
  exact ⟨_, _, rfl, hrd, hgw, below2 hp hb1⟩

set_option maxRecDepth 100000 in
set_option maxHeartbeats 1600000 in
theorem nencode_any (p : Pose) (hp : checkP p = 0) (w : World) : Calls Tryd.prog 39 #[poseV p] w fun e w' => ∃ g c, e = .returned (.tuple #[.slice (some ⟨g, 0, none⟩) 3 c, .int .i64 0]) ∧
    Rd w' (.slice (some ⟨g, 0, none⟩) 3 c) 1 3 (flatW [wordZ p.ar p.ai, wordZ p.gr p.gi, wordZ p.nr p.ni]) ∧ w.heap.size ≤ g ∧ Below w.heap.size w w' := by
  have hs := check_sm hp
  obtain ⟨h1, h2, h3⟩ := pose_ok hp
  have H1 := hide (fun w => ncheck_any p hs w)
  rw [hp] at H1
  have HE := hide (fun v vv w hr hv => encode_ok [(3, 64), (3, 64), (3, 64)] [(0, fI p.ar, fI p.ai), (0, fI p.gr, fI p.gi), (0, fI p.nr, fI p.ni)] [(0, 0), (1, 0), (2, 0)] 3 [wordZ p.ar p.ai, wordZ p.gr p.gi, wordZ p.nr p.ni] v vv w hr (by decide) places3 hv rfl
    (enc3 (okZ_h h1).1 (okZ_h h1).2 (okZ_h h2).1 (okZ_h h2).2 (nose_h h3).1 (nose_h h3).2))
  have P1 := hide (fun w => nplain_any hs.ar hs.ai w)
  have P2 := hide (fun w => nplain_any hs.gr hs.gi w)
  have P3 := hide (fun w => nplain_any hs.nr hs.ni w)
  obtain ⟨ar, ai, gr, gi, nr, ni⟩ := p
  simp only at *
  clear hs h1 h2 h3 hp
  go_enter Tryd.func39, Tryd.ntmps39
  have hP := heap_alloc_new w (.cells #[cI ar ai, cI gr gi, cI nr ni] 68)
  have hbw := below_new w (.cells #[cI ar ai, cI gr gi, cI nr ni] 68)
  go_wp2_with fail
  refine (H1.out _).mono ?_
  rintro e w1 ⟨rfl, hb1⟩
  replace hP := (hb1.block _ (block_lt hP)).trans hP
  replace hbw := below2 hbw hb1
  clear hb1
  obtain ⟨c0, c1, c2, cf⟩ := cells3 hP
  have HK := hide (fun (y : World) (h : Below w1.heap.size w1 y) => cells3 ((h.block _ (block_lt hP)).trans hP))
  go_wp2_with fail
  go_region_held3 (fun y => y.cell? ⟨w.heap.size, 0, none⟩ = some (cI ar ai) ∧ y.cell? ⟨w.heap.size, 1, none⟩ = some (cI gr gi) ∧ y.cell? ⟨w.heap.size, 2, none⟩ = some (cI nr ni) ∧ ∀ i, y.frozen? ⟨w.heap.size, i, none⟩ = false)
    (first | with_reducible assumption | (refine HK.out _ ?_; (repeat (first | with_reducible assumption | refine Below.drew ?_ | refine Below.alloc ?_ hb2.size _ | with_reducible exact Below.refl _ _))))
    (first | (go_at_call 56; refine (nform_any _).mono ?_; rintro e w2 ⟨v2, rfl, hr2, hb2⟩; replace hb2 := below_of_drew hb2) | (go_at_call 57; with_reducible refine (P1.out _).mono ?_; rintro e w' ⟨rfl, rfl⟩) | (go_at_call 57; with_reducible refine (P2.out _).mono ?_; rintro e w' ⟨rfl, rfl⟩) | (go_at_call 57; with_reducible refine (P3.out _).mono ?_; rintro e w' ⟨rfl, rfl⟩) | (go_at_call 55; refine (HE.out v2 _ _ (hr2.alloc _) (Rd.new _ [.int .i64 0, cI ar ai, .int .i64 0, cI gr gi, .int .i64 0, cI nr ni] 110 2 3 rfl (by decide))).mono ?_; rintro e w3 ⟨v3, rfl, hown3, hb3⟩; have hrd := Rd.of_own hown3; obtain ⟨g3, cc, rfl, hgb, hgl⟩ := hown3.form (by decide); have hbz := below2 (Below.alloc hb2 hb2.size _) hb3) | fail)
  all_goals
    go_wp2
    go_ret2
    exact ⟨g3, cc, rfl, hrd, Nat.le_trans (Nat.le_trans hbw.size hb2.size) (Nat.le_trans (by simp) hgb), below2 hbw hbz⟩

end Go.Proofs.YtpilfhjlfbjloaaDoor
