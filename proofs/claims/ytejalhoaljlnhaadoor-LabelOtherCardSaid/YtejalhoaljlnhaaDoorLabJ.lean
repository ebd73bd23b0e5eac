/- The law LabelBack, walked. -/
import Derived.Test.YtejalhoaljlnhaaDoorLabI
namespace Go.Proofs.YtejalhoaljlnhaaDoor.Rk
open Go.RowKit
set_option linter.unusedVariables false
set_option linter.unusedSimpArgs false
set_option maxRecDepth 100000

theorem lmay_empty (n : Int) : lmay [] n = false := rfl
/-- Beyond the bounds a law answers at once what awake answers. -/
theorem long_or {a b : List UInt8} (hok : ¬ (a.length ≤ 200 ∧ b.length ≤ 600)) : (decide ((200 : Int) < (a.length : Int)) = true ∧ decide (200 < a.length) = true) ∨ (decide ((200 : Int) < (a.length : Int)) = false ∧ decide (200 < a.length) = false ∧ decide ((600 : Int) < (b.length : Int)) = true) := by
  simp only [decide_eq_true_eq, decide_eq_false_iff_not]; omega
set_option maxHeartbeats 4000000 in
theorem LabelBack_walk (s : List UInt8) (n : Int) (b : List UInt8) {A : Option Addr} {c : Nat} (hs : s.length ≤ maxLen) (hn : R64 n) (w : World) (ha : Sl Kd.byte w (fun _ => True) A c b) (ht : Tab w) :
    Calls Tryd.prog 4 #[.string (ofL s), .int .i64 n, .slice A b.length c] w fun e w' => e = .returned (.bool true) ∧ Below w.heap.size w w' := by
  have hle := ha.le
  have Ha := Au.mk ha
  have Ht := Au.mk ht
  have hsz : (ofL s).size = s.length := ofL_size s
  clear ha ht hs
  by_cases hok : s.length ≤ 200 ∧ b.length ≤ 600
  · obtain ⟨h2, h6⟩ := hok
    have c2 : decide ((200 : Int) < (s.length : Int)) = false := by simp; omega
    have c2n : decide (200 < s.length) = false := by simp; omega
    have c6 : decide ((600 : Int) < (b.length : Int)) = false := by simp; omega
    clear h2 h6
    -- what was put is got
    have one : ∃ (m : Bool) (p : List UInt8) (l : List UInt8) (k er : Int), lmay s n = m ∧ (lput s n).getD [] = p ∧ (lput s n).isSome = m ∧ lget p = (l, k, er) ∧ (m = true → l = s ∧ k = n ∧ er = 0) := by
      cases hm : lmay s n with
      | true =>
        have hp := lput_yes hm
        exact ⟨true, _, s, n, 0, rfl, rfl, by rw [hp]; rfl, by rw [hp]; exact lget_put hp, fun _ => ⟨rfl, rfl, rfl⟩⟩
      | false =>
        have hp := lput_no hm
        exact ⟨false, _, _, _, _, rfl, rfl, by rw [hp]; rfl, rfl, fun h => by cases h⟩
    obtain ⟨m, p, l, k, er, hm, hp, hb, hg, h1⟩ := one
    have two : ∃ (t : List UInt8) (o fr : Int) (q : List UInt8) (can : Bool), lget b = (t, o, fr) ∧ (lput t o).getD [] = q ∧ (lput t o).isSome = can ∧ R64 o ∧ ((fr = 0 ∧ can = true ∧ q = b) ∨ ((fr == 0) = false ∧ (fr != 0) = true ∧ t = [] ∧ o = 0)) := by
      rcases lget_cases b with ⟨h0, e⟩ | ⟨h0, t, o, e, hp'⟩ | ⟨h0, e, _⟩
      · exact ⟨_, _, _, _, _, e, rfl, rfl, ⟨by decide, by decide⟩, .inr ⟨by simpa using h0, by simpa using h0, rfl, rfl⟩⟩
      · refine ⟨_, _, _, _, _, e, rfl, rfl, ?_, .inl ⟨rfl, by rw [hp']; rfl, by rw [hp']; rfl⟩⟩
        have hm' : lmay t o = true := by
          cases e : lmay t o with
          | true => rfl
          | false => rw [lput_no e] at hp'; cases hp'
        obtain ⟨_, _, _, a4, a5⟩ := lmay_iff.1 hm'
        exact ⟨by omega, by omega⟩
      · exact ⟨_, _, _, _, _, e, rfl, rfl, ⟨by decide, by decide⟩, .inr ⟨rfl, rfl, rfl, rfl⟩⟩
    obtain ⟨t, o, fr, q, can, hg2, hq, hcan, ho, h3⟩ := two
    have Hm := Au.mk hm
    have Hp := Au.mk hp
    have Hb := Au.mk hb
    have Hg := Au.mk hg
    have Hg2 := Au.mk hg2
    have Hq := Au.mk hq
    have Hcan := Au.mk hcan
    have H1 := Au.mk h1
    have H3 := Au.mk h3
    clear hm hp hb hg hg2 hq hcan h1 h3
    go_enter Tryd.func4, Tryd.ntmps4
    go_wp2_with fail
    refine (awake14_calls _ Ht.out).mono ?_
    rintro e w1 ⟨rfl, b1⟩
    go_wp2_with fail
    refine (lput_calls s n hn Hp.out Hb.out _ (Ht.out.below b1)).mono ?_
    rintro e w2 ⟨A2, c2, rfl, s2, b2⟩
    have e2 := bt b1 b2
    clear b1 b2
    go_wp2_with fail
    refine (lget_calls p Hg.out _ s2 (Ht.out.below e2)).mono ?_
    rintro e w3 ⟨rfl, b3⟩
    have e3 := bt e2 b3
    clear e2 b3 s2
    go_wp2_with fail
    refine (lmay_calls s n Hm.out _).mono ?_
    rintro e w4 ⟨rfl, rfl⟩
    cases m
    · go_wp2_with fail
      refine (lget_calls b Hg2.out _ (Ha.out.below e3) (Ht.out.below e3)).mono ?_
      rintro e w5 ⟨rfl, b5⟩
      have e5 := bt e3 b5
      clear e3 b5
      go_wp2_with fail
      refine (lput_calls t o ho Hq.out Hcan.out _ (Ht.out.below e5)).mono ?_
      rintro e w6 ⟨A6, c6, rfl, s6, b6⟩
      have e6 := bt e5 b6
      have t1 := str_of s6
      have t2 := str_of (Ha.out.below e6)
      clear e5 b6 s6
      rcases H3.out with ⟨rfl, rfl, rfl⟩ | ⟨f1, f2, rfl, rfl⟩
      all_goals
        go_wp2_with fail
        go_ret
        exact ⟨ret_true (by simp [*]), e6⟩
    · obtain ⟨rfl, rfl, rfl⟩ := H1.out rfl
      go_wp2_with fail
      refine (lget_calls b Hg2.out _ (Ha.out.below e3) (Ht.out.below e3)).mono ?_
      rintro e w5 ⟨rfl, b5⟩
      have e5 := bt e3 b5
      clear e3 b5
      go_wp2_with fail
      refine (lput_calls t o ho Hq.out Hcan.out _ (Ht.out.below e5)).mono ?_
      rintro e w6 ⟨A6, c6, rfl, s6, b6⟩
      have e6 := bt e5 b6
      have t1 := str_of s6
      have t2 := str_of (Ha.out.below e6)
      clear e5 b6 s6
      rcases H3.out with ⟨rfl, rfl, rfl⟩ | ⟨f1, f2, rfl, rfl⟩
      all_goals
        go_wp2_with fail
        go_ret
        exact ⟨ret_true (by simp [*]), e6⟩
  · have hor := long_or hok
    clear hok
    rcases hor with ⟨c1, c2⟩ | ⟨c1, c2, c3⟩
    all_goals
      go_enter Tryd.func4, Tryd.ntmps4
      go_wp2_with fail
      refine (awake14_calls _ Ht.out).mono ?_
      rintro e w1 ⟨rfl, b1⟩
      go_wp2_with fail
      go_ret
      exact ⟨rfl, b1⟩
end Go.Proofs.YtejalhoaljlnhaaDoor.Rk
