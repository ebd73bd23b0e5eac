/- The law LabelLong, walked. -/
import Derived.Test.YtejalhoaljlnhaaDoorLabL
namespace Go.Proofs.YtejalhoaljlnhaaDoor.Rk
open Go.RowKit
set_option linter.unusedVariables false
set_option linter.unusedSimpArgs false
set_option maxRecDepth 100000

set_option maxHeartbeats 4000000 in
theorem LabelLong_walk (s : List UInt8) (n : Int) (hs : s.length ≤ maxLen) (hn : R64 n) (w : World) (ht : Tab w) :
    Calls Tryd.prog 8 #[.string (ofL s), .int .i64 n] w fun e w' => e = .returned (.bool true) ∧ Below w.heap.size w w' := by
  have Ht := Au.mk ht
  have hsz : (ofL s).size = s.length := ofL_size s
  clear ht hs
  by_cases hok : s.length ≤ 200 ∧ 1 ≤ n ∧ n ≤ 999
  · obtain ⟨h2, h3, h4⟩ := hok
    have c2 : decide ((200 : Int) < (s.length : Int)) = false := by simp; omega
    have c2n : decide (200 < s.length) = false := by simp; omega
    have c3 : decide (n < 1) = false := by simp; omega
    have c4 : decide (999 < n) = false := by simp; omega
    obtain ⟨a1, A1⟩ := au (decide ((1 : Int) ≤ s.length))
    obtain ⟨a2, A2⟩ := au (decide ((s.length : Int) ≤ 88))
    have d1 := A1.out
    have d2 := A2.out
    have d2n : decide (s.length ≤ 88) = a2 := by rw [← d2]; simp only [decide_eq_decide]; omega
    have d1n : decide (1 ≤ s.length) = a1 := by rw [← d1]; simp only [decide_eq_decide]; omega
    have hlaw : lmay s n = ((a1 && a2) && !s.contains 0) := by
      rw [← d2n, ← d1n, Bool.eq_iff_iff, lmay_iff]
      simp only [Bool.and_eq_true, decide_eq_true_eq, Bool.not_eq_true', List.contains_eq_mem, decide_eq_false_iff_not]
      constructor
      · rintro ⟨h1, h2, h3, h4, h5⟩
        have : 0 < s.length := List.length_pos_iff.2 h1
        exact ⟨⟨by omega, h2⟩, h3⟩
      · rintro ⟨⟨h1, h2⟩, h0⟩
        exact ⟨by rintro rfl; simp at h1, h2, h0, h3, h4⟩
    obtain ⟨p, Hp⟩ := au ((lput s n).getD [])
    have Hb : Au ((lput s n).isSome = lmay s n) := ⟨by
      cases h : lmay s n with
      | true => rw [lput_yes h]; rfl
      | false => rw [lput_no h]; rfl⟩
    have Hlen : Au (lmay s n = true → p.length = 512) := ⟨fun h => by
      rw [← Hp.out, lput_yes h]; exact blockOf_length _ (hdL_fits h)⟩
    have Hlaw := Au.mk hlaw
    have HA : Au (decide ((1 : Int) ≤ s.length) = a1 ∧ decide ((s.length : Int) ≤ 88) = a2) := ⟨d1, d2⟩
    clear hlaw A1 A2 h3 h4
    obtain ⟨gd, Hgd⟩ := au (a1 && a2)
    rw [Hgd.out] at Hlaw
    cases a1
    all_goals
      go_enter Tryd.func8, Tryd.ntmps8
      go_wp2_with fail
      refine (awake14_calls _ Ht.out).mono ?_
      rintro e w1 ⟨rfl, b1⟩
      go_wp2_with fail
      go_loop [6, 7] (fun v i => ∃ (k : Nat) (t : Bool), k ≤ s.length ∧ i = .int .i64 k ∧ v = .bool t ∧ Au (t = (gd && !(s.take k).contains 0))) (fun _ i => s.length - (intOf i).toNat)
      case atStart => exact ⟨0, _, Nat.zero_le _, rfl, rfl, ⟨by have := Hgd.out; simpa using this⟩⟩
      case round =>
        obtain ⟨k, t, hk, rfl, rfl, Ht2⟩ := hrel
        by_cases hlt : k < s.length
        · have hk2 : k < (ofL s).size := by rw [ofL_size]; exact hlt
          obtain ⟨x, hx⟩ : ∃ x, (ofL s)[k] = x := ⟨_, rfl⟩
          have hxs : s[k] = x := by rw [← hx]; rfl
          obtain ⟨q, hq⟩ : ∃ q, (x == 0) = q := ⟨_, rfl⟩
          have hqi : ((x.toNat : Int) == 0) = q := by
            rw [← hq]
            have := byte_beq x 0
            simpa using this
          have hqn : ((x.toNat : Int) != 0) = !q := by rw [bne, hqi]
          have hstep : (gd && !(s.take (k + 1)).contains 0) = ((gd && !(s.take k).contains 0) && !q) := by
            have he : s.take (k + 1) = s.take k ++ [x] := by rw [← hxs]; exact List.take_succ_eq_append_getElem hlt
            rw [he, ← hq]
            simp only [List.contains_eq_mem, List.mem_append, List.mem_singleton]
            by_cases h0 : (0 : UInt8) ∈ s.take k
            · simp [h0]
            · by_cases h1 : x = 0
              · subst h1; simp
              · simp [h0, Ne.symm h1, h1]
          rw [← Ht2.out] at hstep
          have Hstep := Au.mk hstep
          clear hstep hxs hq
          cases t
          · go_wp2_with fail
            go_round
            case rel => exact ⟨k + 1, false, by omega, by go_num, rfl, ⟨by rw [Hstep.out]; rfl⟩⟩
            case measure => simp [intOf]; omega
          · go_wp2_with fail
            go_round
            case rel => exact ⟨k + 1, !q, by omega, by go_num, by first | rfl | simp [hqn], ⟨by rw [Hstep.out]; cases q <;> rfl⟩⟩
            case measure => simp [intOf]; omega
        · have hlast := Ht2.out
          rw [List.take_of_length_le (by omega), ← Hlaw.out] at hlast
          have Hm : Au (lmay s n = t) := ⟨hlast.symm⟩
          have Hb2 : Au ((lput s n).isSome = t) := ⟨by rw [Hb.out, Hm.out]⟩
          have Hl2 : Au (t = true → p.length = 512) := ⟨fun h => Hlen.out (by rw [Hm.out, h])⟩
          clear hlast
          go_wp2_with fail
          refine (lput_calls s n hn Hp.out Hb2.out _ (Ht.out.below b1)).mono ?_
          rintro e w2 ⟨A2, k2, rfl, s2, b2⟩
          have e2 := bt b1 b2
          clear s2 b2 b1
          go_wp2_with fail
          refine (lmay_calls s n Hm.out _).mono ?_
          rintro e w3 ⟨rfl, rfl⟩
          cases t
          · go_wp2_with fail
            go_ret
            exact ⟨ret_true (by simp), e2⟩
          · have h512 := Hl2.out rfl
            have h5 : ((p.length : Int) == 512) = true := by rw [h512]; rfl
            go_wp2_with fail
            go_ret
            exact ⟨ret_true (by simp [*]), e2⟩
  · have hor : (decide ((200 : Int) < (s.length : Int)) = true ∧ decide (200 < s.length) = true) ∨ (decide ((200 : Int) < (s.length : Int)) = false ∧ decide (200 < s.length) = false ∧ decide (n < 1) = true) ∨ (decide ((200 : Int) < (s.length : Int)) = false ∧ decide (200 < s.length) = false ∧ decide (n < 1) = false ∧ decide (999 < n) = true) := by
      simp only [decide_eq_true_eq, decide_eq_false_iff_not]; omega
    clear hok
    rcases hor with ⟨c1, c2⟩ | ⟨c1, c2, c3⟩ | ⟨c1, c2, c3, c4⟩
    all_goals
      go_enter Tryd.func8, Tryd.ntmps8
      go_wp2_with fail
      refine (awake14_calls _ Ht.out).mono ?_
      rintro e w1 ⟨rfl, b1⟩
      go_wp2_with fail
      go_ret
      exact ⟨rfl, b1⟩
end Go.Proofs.YtejalhoaljlnhaaDoor.Rk
