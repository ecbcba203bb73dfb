/-
  The walk of the reference's Check of a call. Conditions: a call's lists of up to 100 elements.
-/
import Derived.Test.YtclgmikdjcjjdaaGreatDoorBRef17K
namespace Go.Proofs.YtclgmikdjcjjdaaGreatDoor
open Go.RowKit

set_option maxRecDepth 100000 in
set_option maxHeartbeats 6400000 in
theorem check17_any (c : Cl) (sv : Value) (A' : Option Addr) (n n' cA' : Nat) (w : World) (hn : n = c.set.length) (hnb : n ≤ 100) (hn' : n' = c.words.length) (hnb' : n' ≤ 100) (hr : Rd w sv 1 n (c.set.map (Value.int .i64))) :
    Calls Tryz.prog 35 #[clV c sv (.slice A' n' cA')] w fun e w' => e = .returned (.int .i64 (callS c)) ∧ Below w.heap.size w w' := by
  obtain ⟨A, cA, rfl, hA1, hA2, -⟩ := id hr.shape
  have HB0 := hide (fun (w : World) h0 h9 => bare_any c A n cA A' n' cA' w h0 h9)
  obtain ⟨X, cX, hX⟩ := bare_set c A cA
  obtain ⟨Y, cY, hY⟩ := bare_words c A' cA'
  rw [← hn] at hX
  rw [← hn'] at hY
  rw [hX, hY] at HB0
  obtain ⟨R, hR⟩ : ∃ R, R = callS c := ⟨_, rfl⟩
  rw [← hR]
  obtain ⟨nn, hnn⟩ : ∃ x, x = (bareS c).set.length := ⟨_, rfl⟩
  obtain ⟨nw, hnw⟩ : ∃ x, x = (bareS c).words.length := ⟨_, rfl⟩
  have hbl : nn ≤ 100 := by
    rw [hnn]
    show (if c.kind = 3 then [] else c.set).length ≤ 100
    split
    · simp
    · omega
  have hbw : nw ≤ 100 := by
    rw [hnw]
    show (if c.kind = 1 then [] else c.words).length ≤ 100
    split
    · simp
    · omega
  rw [← hnn, ← hnw] at HB0
  have HN0 := hide (fun (w : World) h0 h9 => show Calls Tryz.prog 63 #[clV (bareS c) (.slice X nn cX) (.slice Y nw cY)] w fun e w' => e = .returned (.bool (!badS c)) ∧ Below w.heap.size w w' by
    rw [← none_bare h0 h9, ← hnn, ← hnw]
    exact none_any _ _ _ _ _ _ _ _ _ _ _ _ _ _ _ w (by omega) (by omega))
  have HR := hide hR
  by_cases h0 : c.kind < 0
  · have hc := call_out (c := c) (by unfold betweenB; simp; omega)
    clear hn hn' hX hY hnn hnw hR
    go_enter Tryz.func35, Tryz.ntmps35
    go_wp2
    go_ret
    exact ⟨by rw [HR.out, hc]; simp, below_new w _⟩
  by_cases h9 : c.kind > 9
  · have hc := call_out (c := c) (by unfold betweenB; simp; omega)
    clear hn hn' hX hY hnn hnw hR
    go_enter Tryz.func35, Tryz.ntmps35
    go_wp2
    go_ret
    exact ⟨by rw [HR.out, hc]; simp, below_new w _⟩
  obtain ⟨kd, tp, sb, cp, rk, so, md, fl, fr, set, ws⟩ := c
  simp only at h0 h9 hn hn'
  have h0' : 0 ≤ kd := by omega
  have h9' : kd ≤ 9 := by omega
  have Hn := hide hn
  have Hn' := hide hn'
  clear hn hn' hX hY hnn hnw hR
  rcases (by omega : kd = 0 ∨ kd = 1 ∨ kd = 2 ∨ kd = 3 ∨ kd = 4 ∨ kd = 5 ∨ kd = 6 ∨ kd = 7 ∨ kd = 8 ∨ kd = 9) with rfl | rfl | rfl | rfl | rfl | rfl | rfl | rfl | rfl | rfl
  · have hc := call_fin (c := ⟨0, tp, sb, cp, rk, so, md, fl, fr, set, ws⟩) (by rfl) (by rfl)
    go_enter Tryz.func35, Tryz.ntmps35
    go_wp2_with fail
    refine (HB0.out _ h0' h9').mono ?_
    rintro e w1 ⟨rfl, hb1⟩
    have Hb1 := hide (below2 (below_new w _) hb1)
    clear hb1
    go_wp2_with fail
    refine (HN0.out _ h0' h9').mono ?_
    rintro e w2 ⟨rfl, hb2⟩
    have Hb2 := hide (below2 Hb1.out hb2)
    clear hb2
    obtain ⟨bd, hbd⟩ : ∃ x, x = badS ⟨0, tp, sb, cp, rk, so, md, fl, fr, set, ws⟩ := ⟨_, rfl⟩
    rw [← hbd] at hc ⊢
    have Hc := hide hc
    clear hbd hc
    cases bd
    · go_wp2
      go_ret
      exact ⟨by rw [HR.out, Hc.out]; simp, Hb2.out⟩
    · go_wp2
      go_ret
      exact ⟨by rw [HR.out, Hc.out]; simp, Hb2.out⟩
  · by_cases g0 : n' < 1
    · have g1 : (n' : Int) < 1 := by omega
      have hc := call_own (c := ⟨1, tp, sb, cp, rk, so, md, fl, fr, set, ws⟩) (e := 17) (by rfl) (by unfold ownS betweenB; rw [if_pos rfl, if_neg]; simp; have := Hn'.out; omega) (by decide)
      go_enter Tryz.func35, Tryz.ntmps35
      go_wp2
      go_ret
      exact ⟨by rw [HR.out, hc]; simp, below_new w _⟩
    by_cases g2 : n' > 64
    · have g3 : (n' : Int) > 64 := by omega
      have hc := call_own (c := ⟨1, tp, sb, cp, rk, so, md, fl, fr, set, ws⟩) (e := 17) (by rfl) (by unfold ownS betweenB; rw [if_pos rfl, if_neg]; simp; have := Hn'.out; omega) (by decide)
      go_enter Tryz.func35, Tryz.ntmps35
      go_wp2
      go_ret
      exact ⟨by rw [HR.out, hc]; simp, below_new w _⟩
    have hc := call_fin (c := ⟨1, tp, sb, cp, rk, so, md, fl, fr, set, ws⟩) (by rfl) (by unfold ownS betweenB; rw [if_pos rfl, if_pos]; simp; have := Hn'.out; omega)
    go_enter Tryz.func35, Tryz.ntmps35
    go_wp2_with fail
    refine (HB0.out _ h0' h9').mono ?_
    rintro e w1 ⟨rfl, hb1⟩
    have Hb1 := hide (below2 (below_new w _) hb1)
    clear hb1
    go_wp2_with fail
    refine (HN0.out _ h0' h9').mono ?_
    rintro e w2 ⟨rfl, hb2⟩
    have Hb2 := hide (below2 Hb1.out hb2)
    clear hb2
    obtain ⟨bd, hbd⟩ : ∃ x, x = badS ⟨1, tp, sb, cp, rk, so, md, fl, fr, set, ws⟩ := ⟨_, rfl⟩
    rw [← hbd] at hc ⊢
    have Hc := hide hc
    clear hbd hc
    cases bd
    · go_wp2
      go_ret
      exact ⟨by rw [HR.out, Hc.out]; simp, Hb2.out⟩
    · go_wp2
      go_ret
      exact ⟨by rw [HR.out, Hc.out]; simp, Hb2.out⟩
  · have hc := call_fin (c := ⟨2, tp, sb, cp, rk, so, md, fl, fr, set, ws⟩) (by rfl) (by rfl)
    go_enter Tryz.func35, Tryz.ntmps35
    go_wp2_with fail
    refine (HB0.out _ h0' h9').mono ?_
    rintro e w1 ⟨rfl, hb1⟩
    have Hb1 := hide (below2 (below_new w _) hb1)
    clear hb1
    go_wp2_with fail
    refine (HN0.out _ h0' h9').mono ?_
    rintro e w2 ⟨rfl, hb2⟩
    have Hb2 := hide (below2 Hb1.out hb2)
    clear hb2
    obtain ⟨bd, hbd⟩ : ∃ x, x = badS ⟨2, tp, sb, cp, rk, so, md, fl, fr, set, ws⟩ := ⟨_, rfl⟩
    rw [← hbd] at hc ⊢
    have Hc := hide hc
    clear hbd hc
    cases bd
    · go_wp2
      go_ret
      exact ⟨by rw [HR.out, Hc.out]; simp, Hb2.out⟩
    · go_wp2
      go_ret
      exact ⟨by rw [HR.out, Hc.out]; simp, Hb2.out⟩
  · exact HR.out ▸ check17_set tp sb cp rk so md fl fr set ws A A' X Y n n' cA cA' nn nw cX cY w Hn.out hnb hr HB0 HN0
  · by_cases g0 : cp < 1
    · skip
      have hc := call_own (c := ⟨4, tp, sb, cp, rk, so, md, fl, fr, set, ws⟩) (e := 10) (by rfl) (by unfold ownS betweenB; rw [if_neg (by simp), if_neg (by simp), if_pos rfl, if_neg]; simp; omega) (by decide)
      go_enter Tryz.func35, Tryz.ntmps35
      go_wp2
      go_ret
      exact ⟨by rw [HR.out, hc]; simp, below_new w _⟩
    by_cases g1 : cp > 15
    · skip
      have hc := call_own (c := ⟨4, tp, sb, cp, rk, so, md, fl, fr, set, ws⟩) (e := 10) (by rfl) (by unfold ownS betweenB; rw [if_neg (by simp), if_neg (by simp), if_pos rfl, if_neg]; simp; omega) (by decide)
      go_enter Tryz.func35, Tryz.ntmps35
      go_wp2
      go_ret
      exact ⟨by rw [HR.out, hc]; simp, below_new w _⟩
    by_cases g2 : rk < 0
    · skip
      have hc := call_own (c := ⟨4, tp, sb, cp, rk, so, md, fl, fr, set, ws⟩) (e := 10) (by rfl) (by unfold ownS betweenB; rw [if_neg (by simp), if_neg (by simp), if_pos rfl, if_neg]; simp; omega) (by decide)
      go_enter Tryz.func35, Tryz.ntmps35
      go_wp2
      go_ret
      exact ⟨by rw [HR.out, hc]; simp, below_new w _⟩
    by_cases g3 : rk > 255
    · skip
      have hc := call_own (c := ⟨4, tp, sb, cp, rk, so, md, fl, fr, set, ws⟩) (e := 10) (by rfl) (by unfold ownS betweenB; rw [if_neg (by simp), if_neg (by simp), if_pos rfl, if_neg]; simp; omega) (by decide)
      go_enter Tryz.func35, Tryz.ntmps35
      go_wp2
      go_ret
      exact ⟨by rw [HR.out, hc]; simp, below_new w _⟩
    have hc := call_fin (c := ⟨4, tp, sb, cp, rk, so, md, fl, fr, set, ws⟩) (by rfl) (by unfold ownS betweenB; rw [if_neg (by simp), if_neg (by simp), if_pos rfl, if_pos]; simp; omega)
    go_enter Tryz.func35, Tryz.ntmps35
    go_wp2_with fail
    refine (HB0.out _ h0' h9').mono ?_
    rintro e w1 ⟨rfl, hb1⟩
    have Hb1 := hide (below2 (below_new w _) hb1)
    clear hb1
    go_wp2_with fail
    refine (HN0.out _ h0' h9').mono ?_
    rintro e w2 ⟨rfl, hb2⟩
    have Hb2 := hide (below2 Hb1.out hb2)
    clear hb2
    obtain ⟨bd, hbd⟩ : ∃ x, x = badS ⟨4, tp, sb, cp, rk, so, md, fl, fr, set, ws⟩ := ⟨_, rfl⟩
    rw [← hbd] at hc ⊢
    have Hc := hide hc
    clear hbd hc
    cases bd
    · go_wp2
      go_ret
      exact ⟨by rw [HR.out, Hc.out]; simp, Hb2.out⟩
    · go_wp2
      go_ret
      exact ⟨by rw [HR.out, Hc.out]; simp, Hb2.out⟩
  · have hc := call_fin (c := ⟨5, tp, sb, cp, rk, so, md, fl, fr, set, ws⟩) (by rfl) (by rfl)
    go_enter Tryz.func35, Tryz.ntmps35
    go_wp2_with fail
    refine (HB0.out _ h0' h9').mono ?_
    rintro e w1 ⟨rfl, hb1⟩
    have Hb1 := hide (below2 (below_new w _) hb1)
    clear hb1
    go_wp2_with fail
    refine (HN0.out _ h0' h9').mono ?_
    rintro e w2 ⟨rfl, hb2⟩
    have Hb2 := hide (below2 Hb1.out hb2)
    clear hb2
    obtain ⟨bd, hbd⟩ : ∃ x, x = badS ⟨5, tp, sb, cp, rk, so, md, fl, fr, set, ws⟩ := ⟨_, rfl⟩
    rw [← hbd] at hc ⊢
    have Hc := hide hc
    clear hbd hc
    cases bd
    · go_wp2
      go_ret
      exact ⟨by rw [HR.out, Hc.out]; simp, Hb2.out⟩
    · go_wp2
      go_ret
      exact ⟨by rw [HR.out, Hc.out]; simp, Hb2.out⟩
  · have hc := call_fin (c := ⟨6, tp, sb, cp, rk, so, md, fl, fr, set, ws⟩) (by rfl) (by rfl)
    go_enter Tryz.func35, Tryz.ntmps35
    go_wp2_with fail
    refine (HB0.out _ h0' h9').mono ?_
    rintro e w1 ⟨rfl, hb1⟩
    have Hb1 := hide (below2 (below_new w _) hb1)
    clear hb1
    go_wp2_with fail
    refine (HN0.out _ h0' h9').mono ?_
    rintro e w2 ⟨rfl, hb2⟩
    have Hb2 := hide (below2 Hb1.out hb2)
    clear hb2
    obtain ⟨bd, hbd⟩ : ∃ x, x = badS ⟨6, tp, sb, cp, rk, so, md, fl, fr, set, ws⟩ := ⟨_, rfl⟩
    rw [← hbd] at hc ⊢
    have Hc := hide hc
    clear hbd hc
    cases bd
    · go_wp2
      go_ret
      exact ⟨by rw [HR.out, Hc.out]; simp, Hb2.out⟩
    · go_wp2
      go_ret
      exact ⟨by rw [HR.out, Hc.out]; simp, Hb2.out⟩
  · by_cases g0 : so < 0
    · skip
      have hc := call_own (c := ⟨7, tp, sb, cp, rk, so, md, fl, fr, set, ws⟩) (e := 10) (by rfl) (by unfold ownS betweenB; rw [if_neg (by simp), if_neg (by simp), if_neg (by simp), if_pos rfl, if_neg]; simp; omega) (by decide)
      go_enter Tryz.func35, Tryz.ntmps35
      go_wp2
      go_ret
      exact ⟨by rw [HR.out, hc]; simp, below_new w _⟩
    by_cases g1 : so > 3
    · skip
      have hc := call_own (c := ⟨7, tp, sb, cp, rk, so, md, fl, fr, set, ws⟩) (e := 10) (by rfl) (by unfold ownS betweenB; rw [if_neg (by simp), if_neg (by simp), if_neg (by simp), if_pos rfl, if_neg]; simp; omega) (by decide)
      go_enter Tryz.func35, Tryz.ntmps35
      go_wp2
      go_ret
      exact ⟨by rw [HR.out, hc]; simp, below_new w _⟩
    by_cases g2 : md < 0
    · skip
      have hc := call_own (c := ⟨7, tp, sb, cp, rk, so, md, fl, fr, set, ws⟩) (e := 10) (by rfl) (by unfold ownS betweenB; rw [if_neg (by simp), if_neg (by simp), if_neg (by simp), if_pos rfl, if_neg]; simp; omega) (by decide)
      go_enter Tryz.func35, Tryz.ntmps35
      go_wp2
      go_ret
      exact ⟨by rw [HR.out, hc]; simp, below_new w _⟩
    by_cases g3 : md > 7
    · skip
      have hc := call_own (c := ⟨7, tp, sb, cp, rk, so, md, fl, fr, set, ws⟩) (e := 10) (by rfl) (by unfold ownS betweenB; rw [if_neg (by simp), if_neg (by simp), if_neg (by simp), if_pos rfl, if_neg]; simp; omega) (by decide)
      go_enter Tryz.func35, Tryz.ntmps35
      go_wp2
      go_ret
      exact ⟨by rw [HR.out, hc]; simp, below_new w _⟩
    have hc := call_fin (c := ⟨7, tp, sb, cp, rk, so, md, fl, fr, set, ws⟩) (by rfl) (by unfold ownS betweenB; rw [if_neg (by simp), if_neg (by simp), if_neg (by simp), if_pos rfl, if_pos]; simp; omega)
    go_enter Tryz.func35, Tryz.ntmps35
    go_wp2_with fail
    refine (HB0.out _ h0' h9').mono ?_
    rintro e w1 ⟨rfl, hb1⟩
    have Hb1 := hide (below2 (below_new w _) hb1)
    clear hb1
    go_wp2_with fail
    refine (HN0.out _ h0' h9').mono ?_
    rintro e w2 ⟨rfl, hb2⟩
    have Hb2 := hide (below2 Hb1.out hb2)
    clear hb2
    obtain ⟨bd, hbd⟩ : ∃ x, x = badS ⟨7, tp, sb, cp, rk, so, md, fl, fr, set, ws⟩ := ⟨_, rfl⟩
    rw [← hbd] at hc ⊢
    have Hc := hide hc
    clear hbd hc
    cases bd
    · go_wp2
      go_ret
      exact ⟨by rw [HR.out, Hc.out]; simp, Hb2.out⟩
    · go_wp2
      go_ret
      exact ⟨by rw [HR.out, Hc.out]; simp, Hb2.out⟩
  · by_cases g0 : fl < 0
    · skip
      have hc := call_own (c := ⟨8, tp, sb, cp, rk, so, md, fl, fr, set, ws⟩) (e := 10) (by rfl) (by unfold ownS betweenB; rw [if_neg (by simp), if_neg (by simp), if_neg (by simp), if_neg (by simp), if_pos rfl, if_neg]; simp; omega) (by decide)
      go_enter Tryz.func35, Tryz.ntmps35
      go_wp2
      go_ret
      exact ⟨by rw [HR.out, hc]; simp, below_new w _⟩
    by_cases g1 : fl > 63
    · skip
      have hc := call_own (c := ⟨8, tp, sb, cp, rk, so, md, fl, fr, set, ws⟩) (e := 10) (by rfl) (by unfold ownS betweenB; rw [if_neg (by simp), if_neg (by simp), if_neg (by simp), if_neg (by simp), if_pos rfl, if_neg]; simp; omega) (by decide)
      go_enter Tryz.func35, Tryz.ntmps35
      go_wp2
      go_ret
      exact ⟨by rw [HR.out, hc]; simp, below_new w _⟩
    have hc := call_fin (c := ⟨8, tp, sb, cp, rk, so, md, fl, fr, set, ws⟩) (by rfl) (by unfold ownS betweenB; rw [if_neg (by simp), if_neg (by simp), if_neg (by simp), if_neg (by simp), if_pos rfl, if_pos]; simp; omega)
    go_enter Tryz.func35, Tryz.ntmps35
    go_wp2_with fail
    refine (HB0.out _ h0' h9').mono ?_
    rintro e w1 ⟨rfl, hb1⟩
    have Hb1 := hide (below2 (below_new w _) hb1)
    clear hb1
    go_wp2_with fail
    refine (HN0.out _ h0' h9').mono ?_
    rintro e w2 ⟨rfl, hb2⟩
    have Hb2 := hide (below2 Hb1.out hb2)
    clear hb2
    obtain ⟨bd, hbd⟩ : ∃ x, x = badS ⟨8, tp, sb, cp, rk, so, md, fl, fr, set, ws⟩ := ⟨_, rfl⟩
    rw [← hbd] at hc ⊢
    have Hc := hide hc
    clear hbd hc
    cases bd
    · go_wp2
      go_ret
      exact ⟨by rw [HR.out, Hc.out]; simp, Hb2.out⟩
    · go_wp2
      go_ret
      exact ⟨by rw [HR.out, Hc.out]; simp, Hb2.out⟩
  · have hc := call_fin (c := ⟨9, tp, sb, cp, rk, so, md, fl, fr, set, ws⟩) (by rfl) (by rfl)
    go_enter Tryz.func35, Tryz.ntmps35
    go_wp2_with fail
    refine (HB0.out _ h0' h9').mono ?_
    rintro e w1 ⟨rfl, hb1⟩
    have Hb1 := hide (below2 (below_new w _) hb1)
    clear hb1
    go_wp2_with fail
    refine (HN0.out _ h0' h9').mono ?_
    rintro e w2 ⟨rfl, hb2⟩
    have Hb2 := hide (below2 Hb1.out hb2)
    clear hb2
    obtain ⟨bd, hbd⟩ : ∃ x, x = badS ⟨9, tp, sb, cp, rk, so, md, fl, fr, set, ws⟩ := ⟨_, rfl⟩
    rw [← hbd] at hc ⊢
    have Hc := hide hc
    clear hbd hc
    cases bd
    · go_wp2
      go_ret
      exact ⟨by rw [HR.out, Hc.out]; simp, Hb2.out⟩
    · go_wp2
      go_ret
      exact ⟨by rw [HR.out, Hc.out]; simp, Hb2.out⟩

end Go.Proofs.YtclgmikdjcjjdaaGreatDoor
