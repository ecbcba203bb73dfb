/-
  The walks of nav.Encode, nav.Decode, tasks.word, tasks.number. Conditions: parts of 32 bits where something is encoded. The walks of nav.Decode, tasks.number. Conditions: words below 2^64.
-/
import Derived.Test.YtpilfhjlfbjloaaGreatDoorNavE
import Derived.Test.YtpilfhjlfbjloaaGreatDoorDecode
namespace Go.Proofs.YtpilfhjlfbjloaaGreatDoor
open Go.RowKit
attribute [local irreducible] fI

set_option maxRecDepth 100000 in
set_option maxHeartbeats 1600000 in
/-- Words of another number. -/
theorem decode_width (ps : List (Int × Int)) (pl : List (Nat × Nat)) (m : Nat) (v : Value) (A : Option Addr) (n c : Nat) (w : World) (hr : Rd w v 2 ps.length (flatP ps)) (hlen : ps.length ≤ 300) (hp : placesS ps = .ok (pl, m)) (hn : n ≠ m) :
    Calls Tryz.prog 78 #[v, .slice A n c] w fun e w' => e = .returned (.tuple #[.slice none 0 0, .int .i64 17]) ∧ Below w.heap.size w w' := by
  have HP := hide (places_any ps v w hr hlen)
  have hne : ((n : Int) != (m : Int)) = true := by simp; omega
  have Hp := hide hp
  clear hp hr hn
  go_enter Tryz.func78, Tryz.ntmps78
  go_wp2_with fail
  refine HP.out.mono ?_
  rintro e w1 ⟨hb, he⟩
  rw [Hp.out] at he
  obtain ⟨v1, rfl, hown1⟩ := he
  go_wp2
  go_ret2
  exact ⟨rfl, hb⟩

theorem set64 (x : Nat) (h : x < 18446744073709551616) : setS 0 64 x 0 = 0 := by
  unfold setS
  simp
  omega
theorem clr1 (x : Nat) (h : x < 18446744073709551616) : clearS ([(3, 64)].zip [(0, 0)]) [x] = [0] := by
  simp [clearS, clear1, set64 x h]
theorem clr3 (x y z : Nat) (h1 : x < 18446744073709551616) (h2 : y < 18446744073709551616) (h3 : z < 18446744073709551616) : clearS ([(3, 64), (3, 64), (3, 64)].zip [(0, 0), (1, 0), (2, 0)]) [x, y, z] = [0, 0, 0] := by
  simp [clearS, clear1, set64 x h1, set64 y h2, set64 z h3]
theorem mayB_h {a : Int} (h : mayB a = true) : H32 a := by simp [mayB] at h; unfold H32; omega
theorem okZ_h {a b : Int} (h : okZ a b = true) : H32 a ∧ H32 b := by
  simp only [okZ, Bool.and_eq_true] at h
  exact ⟨mayB_h h.1, mayB_h h.2⟩
theorem nose_h {a b : Int} (h : noseB a b = true) : H32 a ∧ H32 b := by
  simp [noseB] at h
  rcases h with ((⟨rfl, rfl⟩ | ⟨rfl, rfl⟩) | ⟨rfl, rfl⟩) | ⟨rfl, rfl⟩ <;> constructor <;> (unfold H32; decide)
/-- The two halves of a word. -/
def loW (x : Nat) : Int := sgnS 0 32 x
def hiW (x : Nat) : Int := sgnS 32 32 x
theorem sgn_bd (a x : Nat) : H32 (sgnS a 32 x) := by
  have h : getS a 32 x < 4294967296 := Nat.mod_lt _ (by decide)
  unfold sgnS H32
  split <;> omega
theorem dec1 (x : Nat) (h : x < 18446744073709551616) : decodeS [(3, 64)] [x] = .ok [(0, fI (loW x), fI (hiW x))] := by
  unfold decodeS
  rw [places1]
  simp only [List.length_cons, List.length_nil]
  rw [if_neg (by decide), clr1 x h, if_pos (by decide)]
  simp [valS, getV, fltS, fI_ofInt, loW, hiW]
theorem dec3 (x y z : Nat) (h1 : x < 18446744073709551616) (h2 : y < 18446744073709551616) (h3 : z < 18446744073709551616) : decodeS [(3, 64), (3, 64), (3, 64)] [x, y, z] = .ok [(0, fI (loW x), fI (hiW x)), (0, fI (loW y), fI (hiW y)), (0, fI (loW z), fI (hiW z))] := by
  unfold decodeS
  rw [places3]
  simp only [List.length_cons, List.length_nil]
  rw [if_neg (by decide), clr3 x y z h1 h2 h3, if_pos (by decide)]
  simp [valS, getV, fltS, fI_ofInt, loW, hiW]

theorem enc1 {a b : Int} (ha : H32 a) (hb : H32 b) : EncOk [(3, 64)] [(0, 0)] [(0, fI a, fI b)] (List.replicate 1 0) [wordZ a b] :=
  ⟨_, ⟨fun _ => ⟨rfl, a, b, half_fI ha, half_fI hb, rfl⟩, fun h => absurd rfl h, fun h => (by cases h), fun h => absurd rfl h⟩, by decide, rfl⟩
theorem enc3 {a b c d e f : Int} (ha : H32 a) (hb : H32 b) (hc : H32 c) (hd : H32 d) (he : H32 e) (hf : H32 f) : EncOk [(3, 64), (3, 64), (3, 64)] [(0, 0), (1, 0), (2, 0)] [(0, fI a, fI b), (0, fI c, fI d), (0, fI e, fI f)] (List.replicate 3 0) [wordZ a b, wordZ c d, wordZ e f] :=
  ⟨_, ⟨fun _ => ⟨rfl, a, b, half_fI ha, half_fI hb, rfl⟩, fun h => absurd rfl h, fun h => (by cases h), fun h => absurd rfl h⟩, by simp,
   _, ⟨fun _ => ⟨rfl, c, d, half_fI hc, half_fI hd, rfl⟩, fun h => absurd rfl h, fun h => (by cases h), fun h => absurd rfl h⟩, by simp,
   _, ⟨fun _ => ⟨rfl, e, f, half_fI he, half_fI hf, rfl⟩, fun h => absurd rfl h, fun h => (by cases h), fun h => absurd rfl h⟩, by simp, rfl⟩

set_option maxRecDepth 100000 in
set_option maxHeartbeats 1600000 in
theorem word_any {a b : Int} (ha : H32 a) (hb : H32 b) (w : World) : Calls Tryz.prog 54 #[cI a b] w fun e w' => ∃ g c, e = .returned (.slice (some ⟨g, 0, none⟩) 1 c) ∧ Rd w' (.slice (some ⟨g, 0, none⟩) 1 c) 1 1 (flatW [wordZ a b]) ∧ w.heap.size ≤ g ∧ Below w.heap.size w w' := by
  have HE := hide (fun v vv w hr hv => encode_ok [(3, 64)] [(0, fI a, fI b)] [(0, 0)] 1 [wordZ a b] v vv w hr (by decide) places1 hv rfl (enc1 ha hb))
  have h1 := fun w => fadd0_run ha.sm w
  have h2 := fun w => fadd0_run hb.sm w
  clear ha hb
  go_enter Tryz.func54, Tryz.ntmps54
  go_wp2_with fail
  refine (form_any _).mono ?_
  rintro e w' ⟨rfl, rfl⟩
  have hp := below_new2 w (.cells #[.int .i64 3, .int .i64 64] 184) (.cells #[.int .i64 0, cI a b] 165)
  have hr := (Rd.new w [.int .i64 3, .int .i64 64] 184 2 1 rfl (by decide)).alloc (.cells #[.int .i64 0, cI a b] 165)
  have hv := Rd.new (w.alloc (.cells #[.int .i64 3, .int .i64 64] 184)) [.int .i64 0, cI a b] 165 2 1 rfl (by decide)
  rw [alloc_size] at hv
  go_wp2_with fail
  refine (HE.out _ _ _ hr hv).mono ?_
  rintro e w1 ⟨v', rfl, hown, hb1⟩
  have hrd := Rd.of_own hown
  obtain ⟨g, cc, rfl, hgb, -⟩ := hown.form (by decide)
  have hgw := Nat.le_trans hp.size hgb
  clear hown hgb
  go_wp2
  go_ret
  exact ⟨_, _, rfl, hrd, hgw, below2 hp hb1⟩

set_option maxRecDepth 100000 in
set_option maxHeartbeats 1600000 in
theorem nencode_any (p : Pose) (hp : checkP p = 0) (w : World) : Calls Tryz.prog 53 #[poseV p] w fun e w' => ∃ g c, e = .returned (.tuple #[.slice (some ⟨g, 0, none⟩) 3 c, .int .i64 0]) ∧
    Rd w' (.slice (some ⟨g, 0, none⟩) 3 c) 1 3 (flatW [wordZ p.ar p.ai, wordZ p.gr p.gi, wordZ p.nr p.ni]) ∧ w.heap.size ≤ g ∧ Below w.heap.size w w' := by
  have hs := check_sm hp
  obtain ⟨h1, h2, h3⟩ := pose_ok hp
  have H1 := hide (fun w => ncheck_any p hs w)
  rw [hp] at H1
  have HE := hide (fun v vv w hr hv => encode_ok [(3, 64), (3, 64), (3, 64)] [(0, fI p.ar, fI p.ai), (0, fI p.gr, fI p.gi), (0, fI p.nr, fI p.ni)] [(0, 0), (1, 0), (2, 0)] 3 [wordZ p.ar p.ai, wordZ p.gr p.gi, wordZ p.nr p.ni] v vv w hr (by decide) places3 hv rfl
    (enc3 (okZ_h h1).1 (okZ_h h1).2 (okZ_h h2).1 (okZ_h h2).2 (nose_h h3).1 (nose_h h3).2))
  have P1 := hide (fun w => nplain_any hs.ar hs.ai w)
  have P2 := hide (fun w => nplain_any hs.gr hs.gi w)
  have P3 := hide (fun w => nplain_any hs.nr hs.ni w)
  obtain ⟨ar, ai, gr, gi, nr, ni⟩ := p
  simp only at *
  clear hs h1 h2 h3 hp
  go_enter Tryz.func53, Tryz.ntmps53
  have hP := heap_alloc_new w (.cells #[cI ar ai, cI gr gi, cI nr ni] 83)
  have hbw := below_new w (.cells #[cI ar ai, cI gr gi, cI nr ni] 83)
  go_wp2_with fail
  refine (H1.out _).mono ?_
  rintro e w1 ⟨rfl, hb1⟩
  replace hP := (hb1.block _ (block_lt hP)).trans hP
  replace hbw := below2 hbw hb1
  clear hb1
  obtain ⟨c0, c1, c2, cf⟩ := cells3 hP
  have HK := hide (fun (y : World) (h : Below w1.heap.size w1 y) => cells3 ((h.block _ (block_lt hP)).trans hP))
  go_wp2_with fail
  go_region_held3 (fun y => y.cell? ⟨w.heap.size, 0, none⟩ = some (cI ar ai) ∧ y.cell? ⟨w.heap.size, 1, none⟩ = some (cI gr gi) ∧ y.cell? ⟨w.heap.size, 2, none⟩ = some (cI nr ni) ∧ ∀ i, y.frozen? ⟨w.heap.size, i, none⟩ = false)
    (first | with_reducible assumption | (refine HK.out _ ?_; (repeat (first | with_reducible assumption | refine Below.drew ?_ | refine Below.alloc ?_ hb2.size _ | with_reducible exact Below.refl _ _))))
    (first | (go_at_call 87; refine (nform_any _).mono ?_; rintro e w2 ⟨v2, rfl, hr2, hb2⟩; replace hb2 := below_of_drew hb2) | (go_at_call 88; with_reducible refine (P1.out _).mono ?_; rintro e w' ⟨rfl, rfl⟩) | (go_at_call 88; with_reducible refine (P2.out _).mono ?_; rintro e w' ⟨rfl, rfl⟩) | (go_at_call 88; with_reducible refine (P3.out _).mono ?_; rintro e w' ⟨rfl, rfl⟩) | (go_at_call 86; refine (HE.out v2 _ _ (hr2.alloc _) (Rd.new _ [.int .i64 0, cI ar ai, .int .i64 0, cI gr gi, .int .i64 0, cI nr ni] 165 2 3 rfl (by decide))).mono ?_; rintro e w3 ⟨v3, rfl, hown3, hb3⟩; have hrd := Rd.of_own hown3; obtain ⟨g3, cc, rfl, hgb, hgl⟩ := hown3.form (by decide); have hbz := below2 (Below.alloc hb2 hb2.size _) hb3) | fail)
  all_goals
    go_wp2
    go_ret2
    exact ⟨g3, cc, rfl, hrd, Nat.le_trans (Nat.le_trans hbw.size hb2.size) (Nat.le_trans (by simp) hgb), below2 hbw hbz⟩

end Go.Proofs.YtpilfhjlfbjloaaGreatDoor

namespace Go.Proofs.YtpilfhjlfbjloaaGreatDoor
open Go.RowKit
attribute [local irreducible] fI

/-- The number of a record. -/
def numZ (ws : List Nat) : Option (Int × Int) := match ws with
  | [x] => if okZ (loW x) (hiW x) = true then some (loW x, hiW x) else none
  | _ => none
/-- The pose of a record. -/
def poseOf (x y z : Nat) : Pose := ⟨loW x, hiW x, loW y, hiW y, loW z, hiW z⟩
def decP (ws : List Nat) : Option Pose := match ws with
  | [x, y, z] => if checkP (poseOf x y z) = 0 then some (poseOf x y z) else none
  | _ => none
/-- Words, as a slice has them. -/
structure Ws (w : World) (v : Value) (ws : List Nat) : Prop where
  rd : Rd w v 1 ws.length (flatW ws)
  lt : ∀ x ∈ ws, x < 18446744073709551616
theorem Ws.below {w w' : World} {v : Value} {ws : List Nat} (h : Ws w v ws) (hb : Below w.heap.size w w') : Ws w' v ws := ⟨h.rd.below hb, h.lt⟩

theorem decode_one (x : Nat) (hx : x < 18446744073709551616) (v vw : Value) (w : World) (hr : Rd w v 2 1 (flatP [(3, 64)])) (hw : Rd w vw 1 1 (flatW [x])) :
    Calls Tryz.prog 78 #[v, vw] w fun e w' => ∃ v, e = .returned (.tuple #[v, .int .i64 0]) ∧ Rd w' v 2 1 (flatV [(0, fI (loW x), fI (hiW x))]) ∧ Below w.heap.size w w' := by
  refine (decode_any [(3, 64)] [x] v vw w hr (by decide) hw (by simp) (by simpa using hx)).mono ?_
  rintro e w' ⟨hb, h⟩
  rw [dec1 x hx] at h
  obtain ⟨v, rfl, h⟩ := h
  exact ⟨v, rfl, h, hb⟩
theorem decode_three (x y z : Nat) (hx : x < 18446744073709551616) (hy : y < 18446744073709551616) (hz : z < 18446744073709551616) (v vw : Value) (w : World) (hr : Rd w v 2 3 (flatP [(3, 64), (3, 64), (3, 64)])) (hw : Rd w vw 1 3 (flatW [x, y, z])) :
    Calls Tryz.prog 78 #[v, vw] w fun e w' => ∃ v, e = .returned (.tuple #[v, .int .i64 0]) ∧ Rd w' v 2 3 (flatV [(0, fI (loW x), fI (hiW x)), (0, fI (loW y), fI (hiW y)), (0, fI (loW z), fI (hiW z))]) ∧ Below w.heap.size w w' := by
  refine (decode_any [(3, 64), (3, 64), (3, 64)] [x, y, z] v vw w hr (by decide) hw (by simp) (by simp; exact ⟨hx, hy, hz⟩)).mono ?_
  rintro e w' ⟨hb, h⟩
  rw [dec3 x y z hx hy hz] at h
  obtain ⟨v, rfl, h⟩ := h
  exact ⟨v, rfl, h, hb⟩

set_option maxRecDepth 100000 in
set_option maxHeartbeats 1600000 in
theorem number_one (x : Nat) (hx : x < 18446744073709551616) (vw : Value) (w : World) (hw : Rd w vw 1 1 (flatW [x])) :
    Calls Tryz.prog 49 #[vw] w fun e w' => e = .returned (if okZ (loW x) (hiW x) = true then .tuple #[cI (loW x) (hiW x), .bool true] else .tuple #[.complex .f64 0 0, .bool false]) ∧ Below w.heap.size w w' := by
  have HD := hide (fun v w hr hw => decode_one x hx v vw w hr hw)
  have hM := fun w => gm_any (sgn_bd 0 x).sm (sgn_bd 32 x).sm w
  have HM := hide hM
  have Hw := hide hw
  have hp := below_new w (.cells #[.int .i64 3, .int .i64 64] 184)
  have hr := Rd.new w [.int .i64 3, .int .i64 64] 184 2 1 rfl (by decide)
  clear hM hx hw
  obtain ⟨lo, hlo⟩ : ∃ a, a = loW x := ⟨_, rfl⟩
  obtain ⟨hi, hhi⟩ : ∃ a, a = hiW x := ⟨_, rfl⟩
  rw [show sgnS 0 32 x = loW x from rfl, show sgnS 32 32 x = hiW x from rfl, ← hlo, ← hhi] at HM
  rw [← hlo, ← hhi] at HD ⊢
  clear hlo hhi
  cases hk : okZ lo hi with
  | false =>
    rw [hk] at HM
    rw [if_neg (by decide)]
    go_enter Tryz.func49, Tryz.ntmps49
    go_wp2_with fail
    refine (form_any _).mono ?_
    rintro e w' ⟨rfl, rfl⟩
    go_wp2_with fail
    refine (HD.out _ _ hr (Hw.out.below hp)).mono ?_
    rintro e w1 ⟨v', rfl, hrd, hb1⟩
    obtain ⟨b, o, c, rfl, hnc, hcm, hbl, hc⟩ := hrd.open_ (by decide)
    have hcell := hc 1 _ rfl
    clear hc
    go_wp2_with fail
    refine (HM.out _).mono ?_
    rintro e w'' ⟨rfl, rfl⟩
    go_wp2
    go_ret2
    exact ⟨rfl, below2 hp hb1⟩
  | true =>
    rw [hk] at HM
    rw [if_pos rfl]
    go_enter Tryz.func49, Tryz.ntmps49
    go_wp2_with fail
    refine (form_any _).mono ?_
    rintro e w' ⟨rfl, rfl⟩
    go_wp2_with fail
    refine (HD.out _ _ hr (Hw.out.below hp)).mono ?_
    rintro e w1 ⟨v', rfl, hrd, hb1⟩
    obtain ⟨b, o, c, rfl, hnc, hcm, hbl, hc⟩ := hrd.open_ (by decide)
    have hcell := hc 1 _ rfl
    clear hc
    go_wp2_with fail
    refine (HM.out _).mono ?_
    rintro e w'' ⟨rfl, rfl⟩
    go_wp2
    go_ret2
    exact ⟨rfl, below2 hp hb1⟩

theorem news2o (w : World) (A B : Obj) : ((w.alloc A).alloc B).heap[w.heap.size]? = some A ∧ ((w.alloc A).alloc B).heap[w.heap.size + 1]? = some B := by
  have h1 := alloc_stays _ B _ _ (heap_alloc_new w A)
  have h2 := heap_alloc_new (w.alloc A) B
  rw [alloc_size] at h2
  exact ⟨h1, h2⟩

set_option maxRecDepth 100000 in
set_option maxHeartbeats 1600000 in
theorem number_width (A : Option Addr) (n c : Nat) (hn : n ≠ 1) (w : World) :
    Calls Tryz.prog 49 #[.slice A n c] w fun e w' => e = .returned (.tuple #[.complex .f64 0 0, .bool false]) ∧ Below w.heap.size w w' := by
  have HD := hide (fun v w hr => decode_width [(3, 64)] [(0, 0)] 1 v A n c w hr (by decide) places1 hn)
  have hp := below_new w (.cells #[.int .i64 3, .int .i64 64] 184)
  have hr := Rd.new w [.int .i64 3, .int .i64 64] 184 2 1 rfl (by decide)
  clear hn
  go_enter Tryz.func49, Tryz.ntmps49
  go_wp2_with fail
  refine (form_any _).mono ?_
  rintro e w' ⟨rfl, rfl⟩
  go_wp2_with fail
  refine (HD.out _ _ hr).mono ?_
  rintro e w1 ⟨rfl, hb1⟩
  go_wp2
  go_ret2
  exact ⟨rfl, below2 hp hb1⟩

/-- What number tells of words. -/
def numV (ws : List Nat) : Value := match numZ ws with
  | some z => .tuple #[cI z.1 z.2, .bool true]
  | none => .tuple #[.complex .f64 0 0, .bool false]

theorem number_any (ws : List Nat) (vw : Value) (w : World) (hw : Ws w vw ws) :
    Calls Tryz.prog 49 #[vw] w fun e w' => e = .returned (numV ws) ∧ Below w.heap.size w w' := by
  by_cases h : ws.length = 1
  · obtain ⟨x, rfl⟩ := List.length_eq_one_iff.1 h
    refine (number_one x (hw.lt x (by simp)) vw w hw.rd).mono ?_
    rintro e w' ⟨rfl, hb⟩
    refine ⟨?_, hb⟩
    unfold numV numZ
    cases hk : okZ (loW x) (hiW x) <;> simp [hk]
  · obtain ⟨A, c, rfl, -, -, -⟩ := hw.rd.shape
    refine (number_width A ws.length c h w).mono ?_
    rintro e w' ⟨rfl, hb⟩
    refine ⟨?_, hb⟩
    unfold numV numZ
    match ws, h with
    | [], _ => rfl
    | [x], h => exact absurd rfl h
    | x :: y :: l, _ => rfl

theorem numZ_ok {ws : List Nat} {z : Int × Int} (h : numZ ws = some z) : okZ z.1 z.2 = true := by
  unfold numZ at h
  split at h
  · split at h
    · cases h; assumption
    · cases h
  · cases h
theorem decP_ok {ws : List Nat} {p : Pose} (h : decP ws = some p) : checkP p = 0 := by
  unfold decP at h
  split at h
  · split at h
    · cases h; assumption
    · cases h
  · cases h

set_option maxRecDepth 100000 in
set_option maxHeartbeats 1600000 in
theorem ndecode_width (A : Option Addr) (n c : Nat) (hn : n ≠ 3) (w : World) :
    Calls Tryz.prog 57 #[.slice A n c] w fun e w' => e = .returned (.tuple #[poseZ, .int .i64 17]) ∧ Below w.heap.size w w' := by
  have hne : ((n : Int) != 3) = true := by simp; omega
  have hR := heap_alloc_new w (.cells #[.complex .f64 0 0, .complex .f64 0 0, .complex .f64 0 0] 83)
  have hbw := below_new w (.cells #[.complex .f64 0 0, .complex .f64 0 0, .complex .f64 0 0] 83)
  obtain ⟨c0, c1, c2, cf⟩ := cells3 hR
  have s0 := store_complex ⟨w.heap.size, 0, none⟩ 0 0 _ _ c0 (cf 0)
  have s1 := store_complex ⟨w.heap.size, 1, none⟩ 0 0 _ _ c1 (cf 1)
  have s2 := store_complex ⟨w.heap.size, 2, none⟩ 0 0 _ _ c2 (cf 2)
  clear hn
  go_enter Tryz.func57, Tryz.ntmps57
  go_wp2
  have hresl : Tryz.f57.results = #[.cell 2 83, .tmp 3] := by kernel_rfl
  refine bodyPost_ret (v := .tuple #[poseZ, .int .i64 17]) ?_ rfl ⟨rfl, ?_⟩
  · simp only [results, hresl]
    go_simp
  · exact hbw

/-- Three stores into a block that was made just now, behind a draw. -/
theorem new3 (w : World) (a0 a1 a2 a3 a4 a5 : Int) :
    (store ⟨w.heap.size, 0, none⟩ (cI a0 a1)).run Tryz.prog (w.alloc (.cells #[.complex .f64 0 0, .complex .f64 0 0, .complex .f64 0 0] 83)).drew = .ok () (w.alloc (.cells #[cI a0 a1, .complex .f64 0 0, .complex .f64 0 0] 83)).drew ∧
    (store ⟨w.heap.size, 1, none⟩ (cI a2 a3)).run Tryz.prog (w.alloc (.cells #[cI a0 a1, .complex .f64 0 0, .complex .f64 0 0] 83)).drew = .ok () (w.alloc (.cells #[cI a0 a1, cI a2 a3, .complex .f64 0 0] 83)).drew ∧
    (store ⟨w.heap.size, 2, none⟩ (cI a4 a5)).run Tryz.prog (w.alloc (.cells #[cI a0 a1, cI a2 a3, .complex .f64 0 0] 83)).drew = .ok () (w.alloc (.cells #[cI a0 a1, cI a2 a3, cI a4 a5] 83)).drew := by
  have key : ∀ (c0 c1 c2 : Value), (w.alloc (.cells #[c0, c1, c2] 83)).drew.heap[w.heap.size]? = some (.cells #[c0, c1, c2] 83) := fun c0 c1 c2 => heap_alloc_new w _
  refine ⟨?_, ?_, ?_⟩
  · obtain ⟨c0, c1, c2, cf⟩ := cells3 (key (.complex .f64 0 0) (.complex .f64 0 0) (.complex .f64 0 0))
    rw [store_complex _ _ _ _ _ c0 (cf 0)]
    exact congrArg (fun x => Result.ok () (World.drew x)) (World.setCell_alloc_new _ _ 0 _)
  · obtain ⟨c0, c1, c2, cf⟩ := cells3 (key (cI a0 a1) (.complex .f64 0 0) (.complex .f64 0 0))
    rw [store_complex _ _ _ _ _ c1 (cf 1)]
    exact congrArg (fun x => Result.ok () (World.drew x)) (World.setCell_alloc_new _ _ 1 _)
  · obtain ⟨c0, c1, c2, cf⟩ := cells3 (key (cI a0 a1) (cI a2 a3) (.complex .f64 0 0))
    rw [store_complex _ _ _ _ _ c2 (cf 2)]
    exact congrArg (fun x => Result.ok () (World.drew x)) (World.setCell_alloc_new _ _ 2 _)

set_option maxRecDepth 100000 in
set_option maxHeartbeats 1600000 in
theorem ndecode_three (x y z : Nat) (hx : x < 18446744073709551616) (hy : y < 18446744073709551616) (hz : z < 18446744073709551616) (vw : Value) (w : World) (hw : Rd w vw 1 3 (flatW [x, y, z])) :
    Calls Tryz.prog 57 #[vw] w fun e w' => e = .returned (if checkP (poseOf x y z) = 0 then .tuple #[poseV (poseOf x y z), .int .i64 0] else .tuple #[poseZ, .int .i64 11]) ∧ Below w.heap.size w w' := by
  have HD := hide (fun v vw w hr hw => decode_three x y z hx hy hz v vw w hr hw)
  have HC := hide (fun w => ncheck_any (poseOf x y z) ⟨(sgn_bd 0 x).sm, (sgn_bd 32 x).sm, (sgn_bd 0 y).sm, (sgn_bd 32 y).sm, (sgn_bd 0 z).sm, (sgn_bd 32 z).sm⟩ w)
  have Hw := hide hw
  have hR := heap_alloc_new w (.cells #[.complex .f64 0 0, .complex .f64 0 0, .complex .f64 0 0] 83)
  have hbw := below_new w (.cells #[.complex .f64 0 0, .complex .f64 0 0, .complex .f64 0 0] 83)
  clear hx hy hz
  obtain ⟨A, cv, rfl, hA1, hA2, -⟩ := hw.shape
  clear hw
  obtain ⟨P, hP⟩ : ∃ P, P = poseOf x y z := ⟨_, rfl⟩
  rw [← hP] at HC ⊢
  obtain ⟨C, hC⟩ : ∃ C, C = checkP P := ⟨_, rfl⟩
  rw [← hC] at HC ⊢
  have hPV : poseV P = .agg #[cI (loW x) (hiW x), cI (loW y) (hiW y), cI (loW z) (hiW z)] := by rw [hP]; rfl
  rw [hPV] at HC ⊢
  clear hP hC hPV
  generalize loW x = a0 at *
  generalize hiW x = a1 at *
  generalize loW y = a2 at *
  generalize hiW y = a3 at *
  generalize loW z = a4 at *
  generalize hiW z = a5 at *
  go_enter Tryz.func57, Tryz.ntmps57
  go_wp2_with fail
  refine (nform_any _).mono ?_
  rintro e w1 ⟨v1, rfl, hr1, hb1⟩
  replace hR := (hb1.block _ (block_lt hR)).trans hR
  replace hbw := below2 hbw hb1
  go_wp2_with fail
  refine (HD.out _ _ _ hr1 (Hw.out.below hbw)).mono ?_
  rintro e w2 ⟨v2, rfl, hr2, hb2⟩
  replace hR := (hb2.block _ (block_lt hR)).trans hR
  replace hbw := below2 hbw hb2
  obtain ⟨b, o, c, rfl, hnc, hcm, hbl, hc⟩ := hr2.open_ (by decide)
  have d0 := hc 1 _ rfl
  have d1 := hc 3 _ rfl
  have d2 := hc 5 _ rfl
  clear hc hb1 hb2
  obtain ⟨n0, n1, n2⟩ := new3 w2 a0 a1 a2 a3 a4 a5
  go_wp2_with fail
  go_region
  have hbz : Below w.heap.size w (w2.alloc (.cells #[cI a0 a1, cI a2 a3, cI a4 a5] 83)).drew := (hbw.alloc hbw.size _).drew
  have hN := heap_alloc_new w2 (.cells #[cI a0 a1, cI a2 a3, cI a4 a5] 83)
  have hN : (w2.alloc (.cells #[cI a0 a1, cI a2 a3, cI a4 a5] 83)).drew.heap[w2.heap.size]? = _ := hN
  have hR : (w2.alloc (.cells #[cI a0 a1, cI a2 a3, cI a4 a5] 83)).drew.heap[w.heap.size]? = _ := alloc_stays w2 _ _ _ hR
  clear n0 n1 n2 d0 d1 d2
  go_wp2_with fail
  refine (HC.out _).mono ?_
  rintro e w3 ⟨rfl, hb3⟩
  replace hR := (hb3.block _ (block_lt hR)).trans hR
  replace hN := (hb3.block _ (block_lt hN)).trans hN
  replace hbz := below2 hbz hb3
  obtain ⟨e0, e1, e2, ef⟩ := cells3 hN
  obtain ⟨r0, r1, r2, rf⟩ := cells3 hR
  obtain ⟨s0, s1, s2⟩ := put3 hR
  have hresl : Tryz.f57.results = #[.cell 2 83, .tmp 3] := by kernel_rfl
  clear hb3 HC HD Hw hr1 hr2 hbw
  by_cases hC : C = 0
  · subst hC
    go_wp2
    refine bodyPost_ret (v := .tuple #[.agg #[cI a0 a1, cI a2 a3, cI a4 a5], .int .i64 0]) ?_ rfl ⟨rfl, ?_⟩
    · simp only [results, hresl]
      go_simp
    · exact ((hbz.setCell (Nat.le_refl _) _).setCell (Nat.le_refl _) _).setCell (Nat.le_refl _) _
  · have hC' : (C != 0) = true := by simpa using hC
    go_wp2
    refine bodyPost_ret (v := .tuple #[poseZ, .int .i64 11]) ?_ rfl ⟨rfl, ?_⟩
    · simp only [results, hresl]
      go_simp
    · exact ((hbz.setCell (Nat.le_refl _) _).setCell (Nat.le_refl _) _).setCell (Nat.le_refl _) _

/-- What Decode tells of words. -/
structure DecPost (ws : List Nat) (w : World) (e : Ending) (w' : World) : Prop where
  some_ : ∀ p, decP ws = some p → e = .returned (.tuple #[poseV p, .int .i64 0])
  none_ : decP ws = none → ∃ c : Int, (c == 0) = false ∧ e = .returned (.tuple #[poseZ, .int .i64 c])
  below : Below w.heap.size w w'

theorem ndecode_any (ws : List Nat) (vw : Value) (w : World) (hw : Ws w vw ws) :
    Calls Tryz.prog 57 #[vw] w (DecPost ws w) := by
  by_cases h : ws.length = 3
  · obtain ⟨x, y, z, rfl⟩ : ∃ x y z, ws = [x, y, z] := by
      match ws, h with
      | [x, y, z], _ => exact ⟨x, y, z, rfl⟩
    refine (ndecode_three x y z (hw.lt x (by simp)) (hw.lt y (by simp)) (hw.lt z (by simp)) vw w hw.rd).mono ?_
    rintro e w' ⟨rfl, hb⟩
    refine ⟨fun p hp => ?_, fun hp => ?_, hb⟩
    · unfold decP at hp
      by_cases hk : checkP (poseOf x y z) = 0
      · simp only [hk, if_true] at hp ⊢
        cases hp
        rfl
      · simp [hk] at hp
    · unfold decP at hp
      by_cases hk : checkP (poseOf x y z) = 0
      · simp [hk] at hp
      · rw [if_neg hk]
        exact ⟨11, rfl, rfl⟩
  · obtain ⟨A, c, rfl, -, -, -⟩ := hw.rd.shape
    refine (ndecode_width A ws.length c h w).mono ?_
    rintro e w' ⟨rfl, hb⟩
    refine ⟨fun p hp => ?_, fun _ => ⟨17, rfl, rfl⟩, hb⟩
    exfalso
    unfold decP at hp
    split at hp
    · exact h rfl
    · cases hp

end Go.Proofs.YtpilfhjlfbjloaaGreatDoor
