/- The law LabelApart, walked. -/
import Derived.Test.YtejalhoaljlnhaaDoorLabJ
namespace Go.Proofs.YtejalhoaljlnhaaDoor.Rk
open Go.RowKit
set_option linter.unusedVariables false
set_option linter.unusedSimpArgs false
set_option maxRecDepth 100000

set_option maxHeartbeats 4000000 in
theorem LabelApart_walk (s : List UInt8) (n : Int) (t : List UInt8) (m : Int) (hs : s.length ≤ maxLen) (hn : R64 n) (hs2 : t.length ≤ maxLen) (hm : R64 m) (w : World) (ht : Tab w) :
    Calls Tryd.prog 5 #[.string (ofL s), .int .i64 n, .string (ofL t), .int .i64 m] w fun e w' => e = .returned (.bool true) ∧ Below w.heap.size w w' := by
  have Ht := Au.mk ht
  have hsz : (ofL s).size = s.length := ofL_size s
  have hsz2 : (ofL t).size = t.length := ofL_size t
  clear ht hs hs2
  by_cases hok : s.length ≤ 200 ∧ t.length ≤ 200
  · obtain ⟨h2, h6⟩ := hok
    have c2 : decide ((200 : Int) < (s.length : Int)) = false := by simp; omega
    have c2n : decide (200 < s.length) = false := by simp; omega
    have c6 : decide ((200 : Int) < (t.length : Int)) = false := by simp; omega
    have c6n : decide (200 < t.length) = false := by simp; omega
    clear h2 h6
    have one : ∃ (b1 b2 : Bool) (p q x y : List UInt8), lmay s n = b1 ∧ lmay t m = b2 ∧ (lput s n).getD [] = p ∧ (lput s n).isSome = b1 ∧ (lput t m).getD [] = q ∧ (lput t m).isSome = b2 ∧
        (if lmay s n then lname s n else []) = x ∧ (if lmay t m then lname t m else []) = y ∧ (b1 = true → b2 = true → (p == q) = (s == t && n == m) ∧ (x == y) = (s == t && n == m) ∧ x.length ≤ 100) := by
      refine ⟨lmay s n, lmay t m, _, _, _, _, rfl, rfl, rfl, ?_, rfl, ?_, rfl, rfl, ?_⟩
      · cases h : lmay s n with
        | true => rw [lput_yes h]; rfl
        | false => rw [lput_no h]; rfl
      · cases h : lmay t m with
        | true => rw [lput_yes h]; rfl
        | false => rw [lput_no h]; rfl
      · intro h1 h2
        have p1 := lput_yes h1
        have p2 := lput_yes h2
        rw [if_pos h1, if_pos h2]
        refine ⟨?_, ?_, ?_⟩
        · rw [Bool.eq_iff_iff, beq_iff_eq, Bool.and_eq_true, beq_iff_eq, beq_iff_eq]
          constructor
          · intro e
            rw [p1, p2] at e
            simp only [Option.getD_some] at e
            exact lput_inj p1 (by rw [p2, e])
          · rintro ⟨rfl, rfl⟩; rfl
        · rw [Bool.eq_iff_iff, beq_iff_eq, Bool.and_eq_true, beq_iff_eq, beq_iff_eq]
          constructor
          · intro e
            obtain ⟨e4, e5⟩ := lname_inj h1 h2 e
            obtain ⟨_, _, _, a4, a5⟩ := lmay_iff.1 h1
            obtain ⟨_, _, _, b4, b5⟩ := lmay_iff.1 h2
            exact ⟨e4, itoa_inj a4 a5 b4 b5 e5⟩
          · rintro ⟨rfl, rfl⟩; rfl
        · obtain ⟨_, a2, _, a4, a5⟩ := lmay_iff.1 h1
          obtain ⟨_, d2, _⟩ := itoa_digits a4 a5
          unfold lname
          simp only [List.length_append]
          have : vol.length = 8 := rfl
          omega
    obtain ⟨b1, b2, p, q, x, y, hm1, hm2, hp, hb, hq, hc, hx, hy, h3⟩ := one
    obtain ⟨same, Hs⟩ := au (s == t && n == m)
    rw [Hs.out] at h3
    have xsz : (ofL x).size = x.length := ofL_size x
    have Hm1 := Au.mk hm1
    have Hm2 := Au.mk hm2
    have Hp := Au.mk hp
    have Hb := Au.mk hb
    have Hq := Au.mk hq
    have Hc := Au.mk hc
    have Hx := Au.mk hx
    have Hy := Au.mk hy
    have H3 := Au.mk h3
    clear hm1 hm2 hp hb hq hc hx hy h3
    go_enter Tryd.func5, Tryd.ntmps5
    go_wp2_with fail
    refine (awake14_calls _ Ht.out).mono ?_
    rintro e w1 ⟨rfl, f1⟩
    go_wp2_with fail
    refine (lput_calls s n hn Hp.out Hb.out _ (Ht.out.below f1)).mono ?_
    rintro e w2 ⟨A2, k2, rfl, s2, f2⟩
    have e2 := bt f1 f2
    clear f1 f2
    go_wp2_with fail
    refine (lput_calls t m hm Hq.out Hc.out _ (Ht.out.below e2)).mono ?_
    rintro e w3 ⟨A3, k3, rfl, s3, f3⟩
    have e3 := bt e2 f3
    have s2b := s2.below f3
    clear e2 f3 s2
    go_wp2_with fail
    refine (lname_calls s n hn Hm1.out Hx.out _ (Ht.out.below e3)).mono ?_
    rintro e w4 ⟨rfl, f4⟩
    have e4 := bt e3 f4
    have s2c := s2b.below f4
    have s3c := s3.below f4
    clear e3 f4 s2b s3
    go_wp2_with fail
    refine (lname_calls t m hm Hm2.out Hy.out _ (Ht.out.below e4)).mono ?_
    rintro e w5 ⟨rfl, f5⟩
    have e5 := bt e4 f5
    have t1 := str_of (s2c.below f5)
    have t2 := str_of (s3c.below f5)
    clear e4 f5 s2c s3c
    have four : ((s == t) = false ∧ same = false) ∨ ((s == t) = true ∧ (n == m) = same) := by
      have := Hs.out
      cases e : (s == t)
      · rw [e] at this; exact .inl ⟨rfl, this.symm⟩
      · rw [e] at this; exact .inr ⟨rfl, this⟩
    cases b1
    · rcases four with ⟨f1, rfl⟩ | ⟨f1, f2⟩
      all_goals
        go_wp2_with fail
        go_ret
        exact ⟨ret_true (by simp), e5⟩
    · cases b2
      · rcases four with ⟨f1, rfl⟩ | ⟨f1, f2⟩
        all_goals
          go_wp2_with fail
          go_ret
          exact ⟨ret_true (by simp), e5⟩
      · obtain ⟨r1, r2, r3⟩ := H3.out rfl rfl
        have r4 : decide ((x.length : Int) ≤ 100) = true := by simp; omega
        have r5 : decide (x.length ≤ 100) = true := by simp; omega
        clear H3 Hs
        rcases four with ⟨f1, rfl⟩ | ⟨f1, f2⟩
        · go_wp2_with fail
          go_ret
          exact ⟨ret_true (by simp [*]), e5⟩
        · cases same
          all_goals
            go_wp2_with fail
            go_ret
            exact ⟨ret_true (by simp [*]), e5⟩
  · have hor : (decide ((200 : Int) < (s.length : Int)) = true ∧ decide (200 < s.length) = true) ∨ (decide ((200 : Int) < (s.length : Int)) = false ∧ decide (200 < s.length) = false ∧ decide ((200 : Int) < (t.length : Int)) = true ∧ decide (200 < t.length) = true) := by
      simp only [decide_eq_true_eq, decide_eq_false_iff_not]; omega
    clear hok
    rcases hor with ⟨c1, c2⟩ | ⟨c1, c2, c3, c4⟩
    all_goals
      go_enter Tryd.func5, Tryd.ntmps5
      go_wp2_with fail
      refine (awake14_calls _ Ht.out).mono ?_
      rintro e w1 ⟨rfl, b1⟩
      go_wp2_with fail
      go_ret
      exact ⟨rfl, b1⟩
end Go.Proofs.YtejalhoaljlnhaaDoor.Rk
