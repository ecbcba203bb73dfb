/-
  The walk of codec.Parse: it computes 'parseS'. Conditions: a text of up to 3000 bytes; the library's one variable that Split reads holds an int.
-/
import Derived.Test.YtkcpiokgcbkofaaGreatDoorRead
namespace Go.Proofs.YtkcpiokgcbkofaaGreatDoor
open Go.RowKit

set_option maxRecDepth 100000 in
theorem places_long (ps : List (Int × Int)) (v : Value) (w : World) (hr : Rd w v 2 ps.length (flatP ps)) (hlen : 300 < ps.length) :
    Calls Tryz.prog 11 #[v] w fun e w' => e = .returned (.tuple #[.slice none 0 0, .int .i64 0, .int .i64 12]) ∧ Below w.heap.size w w' := by
  obtain ⟨A, c, rfl, hnc, hcm, -⟩ := hr.shape
  clear hr
  generalize ps.length = n at *
  have hb : ((n : Int) == 0) = false := by simp; omega
  have h0 : 256 < n := by omega
  go_enter Tryz.func11, Tryz.ntmps11
  go_wp2
  go_step3
  go_wp2
  try rw [Exit.noGoto_ret]
  go_ret3
  exact ⟨rfl, Below.refl _ _⟩

/-- Check, of however many parts. -/
theorem check_all (ps : List (Int × Int)) (v : Value) (w : World) (hr : Rd w v 2 ps.length (flatP ps)) :
    Calls Tryz.prog 14 #[v] w fun e w' => e = .returned (.int .i64 (checkS ps)) ∧ Below w.heap.size w w' := by
  by_cases hlen : ps.length ≤ 300
  · exact check_any ps v w hr hlen
  · have H := hide (places_long ps v w hr (by omega))
    have hcs : checkS ps = 12 := by rw [checkS, placesS, if_pos (.inr (by omega))]
    rw [hcs]
    clear hcs hr
    go_enter Tryz.func14, Tryz.ntmps14
    go_wp2_with (go_at_call 11; refine H.out.mono ?_; rintro e w1 ⟨rfl, hb⟩)
    go_ret
    exact ⟨by simp, hb⟩

/-- What Parse tells. -/
def ParsePost (l : List UInt8) (w : World) (e : Ending) (w' : World) : Prop :=
  Below w.heap.size w w' ∧
  match parseS l with
  | .error c => e = .returned (.tuple #[.slice none 0 0, .int .i64 c])
  | .ok ps => ∃ v, e = .returned (.tuple #[v, .int .i64 0]) ∧ Rd w' v 2 ps.length (flatP ps)

theorem parse_err {l : List UInt8} {w w' : World} {c : Int} (h : parseS l = .error c) (hb : Below w.heap.size w w') : ParsePost l w (.returned (.tuple #[.slice none 0 0, .int .i64 c])) w' :=
  ⟨hb, by rw [h]⟩
theorem parse_ok {l : List UInt8} {w w' : World} {ps : List (Int × Int)} {v : Value} (h : parseS l = .ok ps) (hb : Below w.heap.size w w') (hr : Rd w' v 2 ps.length (flatP ps)) : ParsePost l w (.returned (.tuple #[v, .int .i64 0])) w' :=
  ⟨hb, by rw [h]; exact ⟨v, rfl, hr⟩⟩

/-- What is read so far, and what is left. -/
def parseFrom (qs : List (Int × Int)) (l : List (List UInt8)) : Except Int (List (Int × Int)) :=
  match parseW l with
  | .error c => .error c
  | .ok ps => .ok (qs ++ ps)

theorem parseFrom_nil (l : List (List UInt8)) : parseFrom [] l = parseW l := by
  unfold parseFrom
  split
  · rename_i h; rw [h]
  · rename_i h; rw [h]; rfl

theorem parseFrom_step {qs : List (Int × Int)} {x : List UInt8} {r : List (List UInt8)} {p : Int × Int} (h : readS x = .ok p) : parseFrom qs (x :: r) = parseFrom (qs ++ [p]) r := by
  simp only [parseFrom, parseW, h]
  cases parseW r with
  | error c => rfl
  | ok ps => simp

theorem parseFrom_err {qs : List (Int × Int)} {x : List UInt8} {r : List (List UInt8)} {c : Int} (h : readS x = .error c) : parseFrom qs (x :: r) = .error c := by
  simp only [parseFrom, parseW, h]

theorem read_code {x : List UInt8} {c : Int} (h : readS x = .error c) : c = 13 ∨ c = 11 := by
  unfold readS at h
  split at h
  · cases h; exact .inl rfl
  · unfold longS at h
    split at h
    · split at h
      · cases h
      · cases h; exact .inr rfl
    · split at h
      · cases h; exact .inr rfl
      · cases h

theorem check_code (ps : List (Int × Int)) : checkS ps = 0 ∨ checkS ps = 1 ∨ checkS ps = 10 ∨ checkS ps = 12 := by
  unfold checkS
  split
  · rename_i c h
    rcases places_code h with h | h | h <;> subst h <;> simp
  · exact .inl rfl

theorem splitL_sizes (s : List UInt8) : ∀ x ∈ splitL s, x.length ≤ s.length := by
  induction s with
  | nil => intro x hx; simp [splitL] at hx; subst hx; simp
  | cons c s ih =>
    intro x hx
    rw [splitL] at hx
    split at hx
    · rcases List.mem_cons.1 hx with rfl | h
      · simp
      · have := ih x h; simp; omega
    · cases hs : splitL s with
      | nil => exact absurd hs (splitL_ne s)
      | cons y r =>
        rw [hs] at hx ih
        rcases List.mem_cons.1 hx with rfl | h
        · have := ih y (by simp); simp; omega
        · have := ih x (by simp [h]); simp; omega

/-- The library's pieces are the words. -/
theorem pieces_words (s : ByteArray) : (Lib.splitB ⟨#[32]⟩ 0 (Lib.countB s ⟨#[32]⟩) s).map (·.data.toList) = splitL s.data.toList := by
  rw [Lib.splitB_data]
  exact splitK_all _ _ rfl

theorem Tryz.infoPart : (Tryz.prog.info? 36).map (fun i => (i.zero, i.size, i.bytes)) = some (some (.agg #[.int .i64 0, .int .i64 0]), 2, 16) := by kernel_rfl

theorem flatP_snoc (ps : List (Int × Int)) (p : Int × Int) : flatP (ps ++ [p]) = flatP ps ++ [.int .i64 p.1, .int .i64 p.2] := by simp [flatP]

set_option maxRecDepth 100000 in
set_option maxHeartbeats 1600000 in
theorem parse_any (s : ByteArray) (mx : Int) (w : World) (hs : s.size ≤ 3000) (hm : w.cell? ⟨1, 0, none⟩ = some (.int .i64 mx)) :
    Calls Tryz.prog 9 #[.string s] w (ParsePost s.data.toList w) := by
  obtain ⟨i0, hi, hz0, hz1, hz2⟩ := info_parts Tryz.infoPart
  have hpw := pieces_words s
  have hpl := Lib.splitB_all ⟨#[32]⟩ (by decide) 0 _ s rfl
  have HS := hide (Tryz.strings_Split s ⟨#[32]⟩ mx w (by omega) hm (by decide))
  obtain ⟨n, hn⟩ : ∃ n, n = Lib.countB s ⟨#[32]⟩ + 1 := ⟨_, rfl⟩
  obtain ⟨PB, hPB⟩ : ∃ PB, PB = Lib.splitB ⟨#[32]⟩ 0 (Lib.countB s ⟨#[32]⟩) s := ⟨_, rfl⟩
  rw [← hPB, ← hn] at HS
  rw [← hPB] at hpw hpl
  rw [← hn] at hpl
  have hn3 : n ≤ 3001 := by
    have h1 := splitL_len s.data.toList
    rw [← hpw, List.length_map, hpl, ← Lib.size_eq] at h1
    omega
  have Hpw := hide hpw
  have Hpl := hide hpl
  have hpsz : ∀ x ∈ PB, x.size ≤ 3000 := by
    intro x hx
    have h1 : x.data.toList ∈ splitL s.data.toList := by rw [← hpw]; exact List.mem_map.2 ⟨x, hx, rfl⟩
    have h2 := splitL_sizes s.data.toList _ h1
    rw [← Lib.size_eq, ← Lib.size_eq] at h2
    omega
  have Hpsz := hide hpsz
  clear hpw hpl hn hPB hpsz
  go_enter Tryz.func9, Tryz.ntmps9
  go_wp2_with (go_at_call 20; refine HS.out.mono ?_; rintro e w1 ⟨rfl, hw1⟩; have Hw1 := hide hw1; clear hw1)
  have hN1 : w.heap.size < w1.heap.size := by rw [Hw1.out]; simp
  have hb1 : Below w.heap.size w w1 := by rw [Hw1.out]; exact below_new _ _
  have Hpc := hide (show ∀ k (h : k < PB.length), w1.cell? ⟨w.heap.size, k, none⟩ = some (.string PB[k]) from by
    intro k h
    rw [Hw1.out, World.cell?_alloc_at _ _ _ _ rfl]
    simp [h])
  clear Hw1 HS
  go_loopw [4, 13] (fun vo i wx => ∃ (k : Nat) (qs : List (Int × Int)), k ≤ n ∧ i = .int .i64 k ∧ qs.length = k ∧ Hid (parseW (PB.map (·.data.toList)) = parseFrom qs ((PB.map (·.data.toList)).drop k)) ∧
      wx.ownsRow w1.heap.size 36 2 vo k (flatP qs) ∧ Below w1.heap.size w1 wx) (fun _ i _ => n - (intOf i).toNat)
  case atStart => exact ⟨0, [], Nat.zero_le _, rfl, rfl, hide (by rw [List.drop_zero, parseFrom_nil]), World.ownsRow_nil _ _ _ _, Below.refl _ _⟩
  case round =>
    obtain ⟨k, qs, hk, rfl, hqs, Hpf, hown, hbel⟩ := hrel
    by_cases hlt : k < n
    · have hkl : k < PB.length := by have := Hpl.out; omega
      obtain ⟨x, hx⟩ : ∃ x, x = PB[k] := ⟨_, rfl⟩
      have p0 : wr.cell? ⟨w.heap.size, k, none⟩ = some (.string x) := (hbel.cell (p := ⟨w.heap.size, k, none⟩) hN1).trans (by rw [hx]; exact Hpc.out k hkl)
      have hNr : w.heap.size < wr.heap.size := Nat.lt_of_lt_of_le hN1 hbel.size
      have Hdr := hide (show (PB.map (·.data.toList)).drop k = x.data.toList :: (PB.map (·.data.toList)).drop (k + 1) from by
        rw [List.drop_eq_getElem_cons (by simp; exact hkl)]
        simp [hx])
      have hxs : x.size ≤ 3000 := by rw [hx]; exact Hpsz.out _ (List.getElem_mem _)
      have HR := hide (fun w => read_any x w hxs)
      clear hx hkl
      cases hrd : readS x.data.toList with
      | error c =>
        have hc0 : (c != 0) = true := by rcases read_code hrd with h | h <;> subst h <;> rfl
        have Hrd := hide hrd
        have Hres := hide (show parseS s.data.toList = .error c from by rw [parseS, ← Hpw.out, Hpf.out, Hdr.out, parseFrom_err hrd])
        clear hrd
        go_wp2_with (go_at_call 21; refine (HR.out _).mono ?_; rintro e w2 ⟨he, hb2⟩; rw [Hrd.out, partOf] at he; subst he; obtain ⟨hc2, hf2, hz2'⟩ := bcell hb2)
        go_ret2
        exact parse_err Hres.out ((hb1.trans (hbel.mono hb1.size)).trans ((below2 hb2 (below_new _ _)).mono (Nat.le_trans hb1.size hbel.size)))
      | ok p =>
        have Hrd := hide hrd
        have Hnx := hide (show parseW (PB.map (·.data.toList)) = parseFrom (qs ++ [p]) ((PB.map (·.data.toList)).drop (k + 1)) from by rw [Hpf.out, Hdr.out, parseFrom_step hrd])
        clear hrd
        go_wp2_with (first
          | (go_at_call 21; refine (HR.out _).mono ?_; rintro e w2 ⟨he, hb2⟩; rw [Hrd.out, partOf] at he; subst he; obtain ⟨hc2, hf2, hz2'⟩ := bcell hb2; have hown2 := own_below hown hb2; have hbel2 := hbel.trans (hb2.mono hbel.size))
          | (at_builtin; refine wpList_append_own _ rfl (.tmp 25) (.tmp 27) 22 rfl w1.heap.size 36 i0 _ 2 16 Tryz.underlying22 hi hz0 hz1 hz2 rfl (by decide) u4 k _ rfl ((hown2.alloc _).alloc _) ⟨w2.heap.size + 1, 0, none⟩ 1 1 [.int .i64 p.1, .int .i64 p.2] rfl rfl ?_ (by simp [Value.oneCell']) (by unfold maxLen; omega) (by omega) (by have := hbel2.size; simp; omega) ?_
             · have e1 : (w2.alloc (.cells #[.int .i64 p.1, .int .i64 p.2] 36)).heap.size = w2.heap.size + 1 := by simp
               have := news2 (w2.alloc (.cells #[.int .i64 p.1, .int .i64 p.2] 36)) (.int .i64 p.1) (.int .i64 p.2) 36
               rw [e1] at this
               exact this
             intro v4 w4 hown4 hg4 _))
        have hbel4 : Below w1.heap.size w1 w4 := ((hbel2.alloc hbel2.size _).alloc (by have := hbel2.size; simp; omega) _).grown hg4 (by have := hbel2.size; simp; omega) (fun q hq => (hown2.lt q hq).1)
        clear hown hown2 hbel hbel2 hg4 hc2 hf2 hz2' p0
        go_wp2
        go_roundw
        case rel => exact ⟨k + 1, qs ++ [p], by omega, by go_num, by simp [hqs], Hnx, by rw [flatP_snoc]; exact hown4, hbel4⟩
        case measure => simp [intOf]; omega
    · have hkn : k = n := by omega
      subst hkn
      have hdn : (PB.map (·.data.toList)).drop k = [] := List.drop_eq_nil_of_le (by simp; have := Hpl.out; omega)
      have Hpw2 := hide (show parseW (splitL s.data.toList) = .ok qs from by rw [← Hpw.out, Hpf.out, hdn]; simp [parseFrom, parseW])
      clear hdn Hpf hlt
      have hrd : Rd wr u4 2 qs.length (flatP qs) := by rw [hqs]; exact Rd.of_own hown
      have hbw1 := hb1.trans (hbel.mono hb1.size)
      by_cases hck : checkS qs = 0
      · have Hres := hide (show parseS s.data.toList = .ok qs from by rw [parseS, Hpw2.out]; simp [hck])
        go_wp2_with (go_at_call 14; refine (check_all qs _ _ hrd).mono ?_; rintro e w2 ⟨he, hb2⟩; rw [hck] at he; subst he)
        go_ret2
        exact parse_ok Hres.out (hbw1.trans (hb2.mono hbw1.size)) (hrd.below hb2)
      · have Hres := hide (show parseS s.data.toList = .error (checkS qs) from by rw [parseS, Hpw2.out]; simp [hck])
        obtain ⟨c, hc⟩ : ∃ c, c = checkS qs := ⟨_, rfl⟩
        have hc0 : (c != 0) = true := by rw [hc]; simpa using hck
        rw [← hc] at Hres
        have HC := hide (check_all qs _ _ hrd)
        rw [← hc] at HC
        clear hc hck
        go_wp2_with (go_at_call 14; refine HC.out.mono ?_; rintro e w2 ⟨rfl, hb2⟩)
        go_ret2
        exact parse_err Hres.out (hbw1.trans (hb2.mono hbw1.size))

end Go.Proofs.YtkcpiokgcbkofaaGreatDoor
