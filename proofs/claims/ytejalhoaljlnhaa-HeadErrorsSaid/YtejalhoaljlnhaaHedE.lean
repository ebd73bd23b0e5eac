/- The laws HeadErrors, HeadSum, walked. -/
import Derived.Test.YtejalhoaljlnhaaHedD
namespace Go.Proofs.Ytejalhoaljlnhaa.Rk
open Go.RowKit
set_option linter.unusedVariables false
set_option linter.unusedSimpArgs false

set_option maxHeartbeats 2000000 in
theorem HeadErrors_walk (b : List UInt8) {A : Option Addr} {c : Nat} (w : World) (hs : Sl Kd.byte w (fun _ => True) A c b) :
    Calls Try.prog 14 #[.slice A b.length c] w fun e w' => e = .returned (.bool true) ∧ Below w.heap.size w w' := by
  have hle := hs.le
  by_cases h600 : b.length ≤ 600
  · have c6 : decide ((600 : Int) < b.length) = false := by simp; omega
    obtain ⟨er, Her⟩ := au (hget b).2
    obtain ⟨g, Hg⟩ := au (hget b).1
    obtain ⟨z, Hz⟩ := au (isZero b)
    have hc := hget_cases b
    rw [Hz.out] at hc
    have hcs : (er = 1 ∧ ((b.length : Int) != 512) = true) ∨ (er = 4 ∧ ((b.length : Int) != 512) = false ∧ z = true) ∨ (er = 3 ∧ ((b.length : Int) != 512) = false ∧ z = false) ∨ (er = 0 ∧ ((b.length : Int) != 512) = false ∧ z = false) ∨ (er = 2 ∧ ((b.length : Int) != 512) = false ∧ z = false) := by
      rw [← Her.out]
      rcases hc with ⟨e, h1⟩ | ⟨e, h1, h2⟩ | ⟨e, h1, h2⟩ | ⟨e, h1, h2, _⟩ | ⟨e, h1, h2⟩ <;> rw [e]
      · exact .inl ⟨rfl, by simp; omega⟩
      · exact .inr (.inl ⟨rfl, by simp [h1], h2⟩)
      · exact .inr (.inr (.inl ⟨rfl, by simp [h1], h2⟩))
      · exact .inr (.inr (.inr (.inl ⟨rfl, by simp [h1], h2⟩)))
      · exact .inr (.inr (.inr (.inr ⟨rfl, by simp [h1], h2⟩)))
    clear hc
    rcases hcs with ⟨rfl, c1⟩ | ⟨rfl, c1, rfl⟩ | ⟨rfl, c1, rfl⟩ | ⟨rfl, c1, rfl⟩ | ⟨rfl, c1, rfl⟩
    all_goals
      go_enter Try.func14, Try.ntmps14
      go_wp2_with fail
      refine (awake04_calls _).mono ?_
      rintro e w1 ⟨rfl, b1⟩
      have s1 := hs.below b1
      go_wp2_with fail
      go_loop [4, 5] (fun v i => ∃ (k : Nat) (t : Bool), k ≤ b.length ∧ i = .int .i64 k ∧ v = .bool t ∧ Au (isZero (b.take k) = t)) (fun _ i => b.length - (intOf i).toNat)
      case atStart => exact ⟨0, true, Nat.zero_le _, rfl, rfl, ⟨rfl⟩⟩
      case round =>
        obtain ⟨k, t, hk, rfl, rfl, Ht⟩ := hrel
        by_cases hlt : k < b.length
        · obtain ⟨ab, ao, rfl, ck⟩ := s1.byte_at k hlt
          obtain ⟨x, hx⟩ : ∃ x, b[k] = x := ⟨_, rfl⟩
          rw [hx] at ck
          have hstep : isZero (b.take (k + 1)) = (isZero (b.take k) && (x == 0)) := by
            unfold isZero
            rw [List.take_succ_eq_append_getElem hlt, hx]
            simp [List.all_append]
          rw [Ht.out] at hstep
          have Hstep := Au.mk hstep
          obtain ⟨q, hq⟩ : ∃ q, (x == 0) = q := ⟨_, rfl⟩
          have hqi : ((x.toNat : Int) == 0) = q := by
            rw [← hq]
            have := byte_beq x 0
            simpa using this
          clear hx hstep
          cases t
          · go_wp2_with fail
            go_round
            case rel => exact ⟨k + 1, false, by omega, by go_num, rfl, ⟨by rw [Hstep.out]; rfl⟩⟩
            case measure => simp [intOf]; omega
          · go_wp2_with fail
            go_round
            case rel => exact ⟨k + 1, q, by omega, by go_num, rfl, ⟨by rw [Hstep.out, hq]; rfl⟩⟩
            case measure => simp [intOf]; omega
        · have hz2 := Ht.out
          rw [List.take_of_length_le (by omega), Hz.out] at hz2
          subst hz2
          go_wp2_with fail
          refine (hget_view b Hg.out Her.out _ s1).mono ?_
          rintro e w2 ⟨rfl, b2⟩
          have e2 := bt b1 b2
          unfold Hd.agg
          go_wp2_with fail
          go_ret
          exact ⟨ret_true (by simp [*]), e2.alloc e2.size _⟩
  · have c6 : decide ((600 : Int) < b.length) = true := by simp; omega
    clear h600
    go_enter Try.func14, Try.ntmps14
    go_wp2_with fail
    refine (awake04_calls _).mono ?_
    rintro e w1 ⟨rfl, b1⟩
    go_wp2_with fail
    go_ret
    exact ⟨rfl, b1⟩
end Go.Proofs.Ytejalhoaljlnhaa.Rk
