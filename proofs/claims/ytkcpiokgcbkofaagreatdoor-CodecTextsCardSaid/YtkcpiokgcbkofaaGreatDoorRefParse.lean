/-
  The walk of the reference's Parse: it computes 'parseS'. Conditions: a text of up to 3000 bytes.
-/
import Derived.Test.YtkcpiokgcbkofaaGreatDoorRefText
namespace Go.Proofs.YtkcpiokgcbkofaaGreatDoor
open Go.RowKit

set_option maxRecDepth 100000 in
theorem refplaces_long (ps : List (Int × Int)) (v : Value) (w : World) (hr : Rd w v 2 ps.length (flatP ps)) (hlen : 300 < ps.length) :
    Calls Tryz.prog 18 #[v] w (PlacesPost ps w) := by
  have hres : placesS ps = .error 12 := by rw [placesS, if_pos (.inr (by omega))]
  have Hres := hide hres
  obtain ⟨A, c, rfl, hnc, hcm, -⟩ := hr.shape
  clear hr hres
  generalize ps.length = n at *
  have hb : ((n : Int) == 0) = false := beq_eq_false_iff_ne.2 (by omega)
  have h0 : 256 < n := by omega
  go_enter Tryz.func18, Tryz.ntmps18
  go_wp2
  go_ret3
  exact places_err Hres.out (Below.refl _ _)

theorem refplaces_all (ps : List (Int × Int)) (v : Value) (w : World) (hr : Rd w v 2 ps.length (flatP ps)) :
    Calls Tryz.prog 18 #[v] w (PlacesPost ps w) := by
  by_cases hlen : ps.length ≤ 300
  · exact refplaces_any ps v w hr hlen
  · exact refplaces_long ps v w hr (by omega)

/-- Where the reading stands. -/
def At (l : List UInt8) (qs : List (Int × Int)) (f i : Nat) : Prop :=
  (i ≤ l.length ∧ f ≤ i ∧ (∀ b ∈ (l.drop f).take (i - f), b ≠ 32) ∧ parseW (splitL l) = parseFrom qs (splitL (l.drop f))) ∨ (i = l.length + 1 ∧ parseW (splitL l) = .ok qs)

theorem at_more {l : List UInt8} {f i : Nat} {c : UInt8} (h1 : f ≤ i) (hc : l[i]? = some c) (hb : ∀ b ∈ (l.drop f).take (i - f), b ≠ 32) (hn : c ≠ 32) : ∀ b ∈ (l.drop f).take (i + 1 - f), b ≠ 32 := by
  have e : i + 1 - f = (i - f) + 1 := by omega
  rw [e, List.take_add_one, List.getElem?_drop, show f + (i - f) = i by omega, hc, Option.toList_some]
  intro b hbm
  rcases List.mem_append.1 hbm with h | h
  · exact hb b h
  · rw [List.mem_singleton] at h; rw [h]; exact hn

theorem at_blank {l : List UInt8} {f i : Nat} (h1 : f ≤ i) (hc : l[i]? = some 32) (hb : ∀ b ∈ (l.drop f).take (i - f), b ≠ 32) :
    splitL (l.drop f) = (l.drop f).take (i - f) :: splitL (l.drop (i + 1)) := by
  have hi : i < l.length := (List.getElem?_eq_some_iff.1 hc).1
  have e : l.drop f = (l.drop f).take (i - f) ++ 32 :: l.drop (i + 1) := by
    conv => lhs; rw [← List.take_append_drop (i - f) (l.drop f)]
    rw [List.drop_drop, show f + (i - f) = i by omega, List.drop_eq_getElem_cons hi]
    have := List.getElem?_eq_getElem hi
    rw [hc] at this
    rw [← Option.some.inj this]
  conv => lhs; rw [e]
  exact split_cons _ _ hb

theorem at_last {l : List UInt8} {f : Nat} (hb : ∀ b ∈ (l.drop f).take (l.length - f), b ≠ 32) : splitL (l.drop f) = [(l.drop f).take (l.length - f)] := by
  have e : (l.drop f).take (l.length - f) = l.drop f := List.take_of_length_le (by simp)
  rw [e] at hb ⊢
  exact split_word _ hb

set_option maxRecDepth 100000 in
set_option maxHeartbeats 1600000 in
theorem refparse_any (s : ByteArray) (w : World) (hs : s.size ≤ 3000) :
    Calls Tryz.prog 10 #[.string s] w (ParsePost s.data.toList w) := by
  obtain ⟨i0, hi, hz0, hz1, hz2⟩ := info_parts Tryz.infoPart4
  have hsz := Lib.size_eq s
  have Hat := hide (show ∀ q (h : q < s.size), s.data.toList[q]? = some (s[q]'h) from fun q h => by
    rw [List.getElem?_eq_getElem (by omega)]; rfl)
  have Hsz := hide hsz
  clear hsz
  go_enter Tryz.func10, Tryz.ntmps10
  go_wp2_with fail
  go_loopw [4, 5, 6] (fun vo vf vi wx => ∃ (k f i : Nat) (qs : List (Int × Int)), qs.length = k ∧ k ≤ i ∧ vf = .int .i64 f ∧ vi = .int .i64 i ∧ Hid (At s.data.toList qs f i) ∧
      wx.ownsRow w.heap.size 37 2 vo k (flatP qs) ∧ Below w.heap.size w wx) (fun _ _ i _ => s.size + 1 - (intOf i).toNat)
  case atStart => exact ⟨0, 0, 0, [], rfl, Nat.le_refl _, rfl, rfl, hide (.inl ⟨Nat.zero_le _, Nat.le_refl _, by simp, by rw [List.drop_zero, parseFrom_nil]⟩), World.ownsRow_nil _ _ _ _, Below.refl _ _⟩
  case round =>
    obtain ⟨k, f, i, qs, hqs, hki, rfl, rfl, Ha, hown, hbel⟩ := hrel
    rcases Ha.out with ⟨hil, hfi, hb, hpf⟩ | ⟨hil, hpf⟩
    · have his : i ≤ s.size := by have := Hsz.out; omega
      clear Ha hil
      have hle : decide (i ≤ s.size) = true := decide_eq_true his
      by_cases hlt : i < s.size
      · have hd : decide (i < s.size) = true := decide_eq_true hlt
        have hat := Hat.out i hlt
        by_cases h32 : s[i]'hlt = 32
        · have hne : ((((s[i]'hlt).toNat : Int)) != 32) = false := by rw [h32]; rfl
          rw [h32] at hat
          have hsp := at_blank hfi hat hb
          clear hat
          obtain ⟨x, hx⟩ : ∃ x, s.extract f i = x := ⟨_, rfl⟩
          have hxl : x.data.toList = (s.data.toList.drop f).take (i - f) := by rw [← hx, Lib.extract_data]
          have hxs : x.size ≤ 3000 := by rw [← hx]; simp; omega
          have HR := hide (fun w => refword_any x w hxs)
          rw [← hxl] at hsp
          cases hrd : readS x.data.toList with
          | error c =>
            have hc0 : (c != 0) = true := by rcases read_code hrd with h | h <;> subst h <;> rfl
            have Hrd := hide hrd
            have Hres := hide (show parseS s.data.toList = .error c from by rw [parseS, hpf, hsp, parseFrom_err hrd])
            clear hrd hpf hsp hb hxl
            go_wp2_with (go_at_call 22; refine (HR.out _).mono ?_; rintro e w2 ⟨he, hb2⟩; rw [Hrd.out, partOf] at he; subst he; obtain ⟨hc2, hf2, hz2'⟩ := bcell hb2)
            go_ret2
            exact parse_err Hres.out (hbel.trans ((below2 hb2 (below_new _ _)).mono hbel.size))
          | ok p =>
            have Hrd := hide hrd
            rw [hsp, parseFrom_step hrd] at hpf
            have Hpf := hide hpf
            clear hrd hpf hsp hb hxl
            go_wp2_with (first
              | (go_at_call 22; refine (HR.out _).mono ?_; rintro e w2 ⟨he, hb2⟩; rw [Hrd.out, partOf] at he; subst he; obtain ⟨hc2, hf2, hz2'⟩ := bcell hb2; have hown2 := own_below hown hb2; have hbel2 := hbel.trans (hb2.mono hbel.size))
              | (at_builtin; refine wpList_append_own _ rfl (.tmp 39) (.tmp 41) 29 rfl w.heap.size 37 i0 _ 2 16 Tryz.underlying29 hi hz0 hz1 hz2 rfl (by decide) u4 k _ rfl ((hown2.alloc _).alloc _) ⟨w2.heap.size + 1, 0, none⟩ 1 1 [.int .i64 p.1, .int .i64 p.2] rfl rfl ?_ (by simp [Value.oneCell']) (by unfold maxLen; omega) (by omega) (by have := hbel2.size; simp; omega) ?_
                 · have e1 : (w2.alloc (.cells #[.int .i64 p.1, .int .i64 p.2] 37)).heap.size = w2.heap.size + 1 := by simp
                   have := news2 (w2.alloc (.cells #[.int .i64 p.1, .int .i64 p.2] 37)) (.int .i64 p.1) (.int .i64 p.2) 37
                   rw [e1] at this
                   exact this
                 intro v4 w4 hown4 hg4 _))
            have hbel4 : Below w.heap.size w w4 := ((hbel2.alloc hbel2.size _).alloc (by have := hbel2.size; simp; omega) _).grown hg4 (by have := hbel2.size; simp; omega) (fun q hq => (hown2.lt q hq).1)
            clear hown hown2 hbel hbel2 hg4 hc2 hf2 hz2'
            go_wp2
            go_roundw
            case rel => exact ⟨k + 1, i + 1, i + 1, qs ++ [p], by simp [hqs], by omega, by go_num, by go_num, hide (.inl ⟨by have :=Hsz.out;omega,Nat.le_refl _,by simp,Hpf.out⟩), by rw [flatP_snoc]; exact hown4, hbel4⟩
            case measure => simp [intOf]; omega
        · have hne : ((((s[i]'hlt).toNat : Int)) != 32) = true := by
            rw [bne_iff_ne]
            intro h
            exact h32 (UInt8.toNat_inj.1 (by have h' : (32 : UInt8).toNat = 32 := rfl; omega))
          have Hm := hide (at_more hfi hat hb h32)
          have Hpf := hide hpf
          clear hat hb hpf
          go_wp2
          go_roundw
          case rel => exact ⟨k, f, i + 1, qs, hqs, by omega, rfl, by go_num, hide (.inl ⟨by have := Hsz.out; omega, by omega, Hm.out, Hpf.out⟩), hown, hbel⟩
          case measure => simp [intOf]; omega
      · have hd : decide (i < s.size) = false := decide_eq_false hlt
        have hie : i = s.data.toList.length := by have := Hsz.out; omega
        have hsp : splitL (s.data.toList.drop f) = (s.data.toList.drop f).take (i - f) :: [] := by
          rw [hie] at hb ⊢
          exact at_last hb
        clear hie
        obtain ⟨x, hx⟩ : ∃ x, s.extract f i = x := ⟨_, rfl⟩
        have hxl : x.data.toList = (s.data.toList.drop f).take (i - f) := by rw [← hx, Lib.extract_data]
        have hxs : x.size ≤ 3000 := by rw [← hx]; simp; omega
        have HR := hide (fun w => refword_any x w hxs)
        rw [← hxl] at hsp
        cases hrd : readS x.data.toList with
        | error c =>
          have hc0 : (c != 0) = true := by rcases read_code hrd with h | h <;> subst h <;> rfl
          have Hrd := hide hrd
          have Hres := hide (show parseS s.data.toList = .error c from by rw [parseS, hpf, hsp, parseFrom_err hrd])
          clear hrd hpf hsp hb hxl
          go_wp2_with (go_at_call 22; refine (HR.out _).mono ?_; rintro e w2 ⟨he, hb2⟩; rw [Hrd.out, partOf] at he; subst he; obtain ⟨hc2, hf2, hz2'⟩ := bcell hb2)
          go_ret2
          exact parse_err Hres.out (hbel.trans ((below2 hb2 (below_new _ _)).mono hbel.size))
        | ok p =>
          have Hrd := hide hrd
          rw [hsp, parseFrom_step hrd] at hpf
          have Hpf := hide hpf
          clear hrd hpf hsp hb hxl
          go_wp2_with (first
            | (go_at_call 22; refine (HR.out _).mono ?_; rintro e w2 ⟨he, hb2⟩; rw [Hrd.out, partOf] at he; subst he; obtain ⟨hc2, hf2, hz2'⟩ := bcell hb2; have hown2 := own_below hown hb2; have hbel2 := hbel.trans (hb2.mono hbel.size))
            | (at_builtin; refine wpList_append_own _ rfl (.tmp 39) (.tmp 41) 29 rfl w.heap.size 37 i0 _ 2 16 Tryz.underlying29 hi hz0 hz1 hz2 rfl (by decide) u4 k _ rfl ((hown2.alloc _).alloc _) ⟨w2.heap.size + 1, 0, none⟩ 1 1 [.int .i64 p.1, .int .i64 p.2] rfl rfl ?_ (by simp [Value.oneCell']) (by unfold maxLen; omega) (by omega) (by have := hbel2.size; simp; omega) ?_
               · have e1 : (w2.alloc (.cells #[.int .i64 p.1, .int .i64 p.2] 37)).heap.size = w2.heap.size + 1 := by simp
                 have := news2 (w2.alloc (.cells #[.int .i64 p.1, .int .i64 p.2] 37)) (.int .i64 p.1) (.int .i64 p.2) 37
                 rw [e1] at this
                 exact this
               intro v4 w4 hown4 hg4 _))
          have hbel4 : Below w.heap.size w w4 := ((hbel2.alloc hbel2.size _).alloc (by have := hbel2.size; simp; omega) _).grown hg4 (by have := hbel2.size; simp; omega) (fun q hq => (hown2.lt q hq).1)
          clear hown hown2 hbel hbel2 hg4 hc2 hf2 hz2'
          go_wp2
          go_roundw
          case rel => exact ⟨k + 1, i + 1, i + 1, qs ++ [p], by simp [hqs], by omega, by go_num, by go_num, hide (.inr ⟨by have :=Hsz.out;omega,by have :=Hpf.out;simpa [parseFrom,parseW] using this⟩), by rw [flatP_snoc]; exact hown4, hbel4⟩
          case measure => simp [intOf]; omega
    · have hie : i = s.size + 1 := by have := Hsz.out; omega
      subst hie
      have hle : decide (s.size + 1 ≤ s.size) = false := decide_eq_false (by omega)
      have hrd : Rd wr u4 2 qs.length (flatP qs) := by rw [hqs]; exact Rd.of_own hown
      have HP := hide (refplaces_all qs _ _ hrd)
      cases hp : placesS qs with
      | error c =>
        have hc0 : (c != 0) = true := by rcases places_code hp with h | h | h <;> subst h <;> rfl
        have hck : checkS qs = c := by rw [checkS, hp]
        have Hres := hide (show parseS s.data.toList = .error c from by
          rw [parseS, hpf]
          have hne : ¬ c = 0 := bne_iff_ne.1 hc0
          simp [hck, hne])
        have Hp := hide hp
        clear hp hpf Ha hck
        go_wp2_with (go_at_call 18; refine HP.out.mono ?_; rintro e w1 ⟨hb1, he⟩; rw [Hp.out] at he; subst he)
        go_ret2
        exact parse_err Hres.out (hbel.trans (hb1.mono hbel.size))
      | ok r =>
        obtain ⟨pl, m⟩ := r
        have hck : checkS qs = 0 := by rw [checkS, hp]
        have Hres := hide (show parseS s.data.toList = .ok qs from by
          rw [parseS, hpf]
          simp [hck])
        have Hp := hide hp
        clear hp hpf Ha hck
        go_wp2_with (go_at_call 18; refine HP.out.mono ?_; rintro e w1 ⟨hb1, he⟩; rw [Hp.out] at he; obtain ⟨v1, he, -⟩ := he; subst he)
        go_ret2
        exact parse_ok Hres.out (hbel.trans (hb1.mono hbel.size)) (hrd.below hb1)

end Go.Proofs.YtkcpiokgcbkofaaGreatDoor
