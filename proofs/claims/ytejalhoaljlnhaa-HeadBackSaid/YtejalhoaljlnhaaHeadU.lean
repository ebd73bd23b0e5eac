/- Walks: the document's answers for headers: word, fits, May. -/
import Derived.Test.YtejalhoaljlnhaaHeadT
import Derived.Test.YtejalhoaljlnhaaNumU
namespace Go.Proofs.Ytejalhoaljlnhaa.Rk
open Go.RowKit
set_option linter.unusedVariables false
set_option linter.unusedSimpArgs false

theorem mem_take_succ {l : List UInt8} {k : Nat} (hk : k < l.length) {x : UInt8} (hx : l[k] = x) (h0 : (0 : UInt8) ∉ l.take k) (h : x ≠ 0) : (0 : UInt8) ∉ l.take (k + 1) := by
  rw [List.take_succ_eq_append_getElem hk, hx]
  simp [h0, Ne.symm h]
theorem word_calls (l : List UInt8) {n : Int} {r : Bool} (hl : l.length ≤ 9223372036854775807) (hr : (decide ((l.length : Int) ≤ n) && !l.contains 0) = r) (w : World) :
    Calls Try.prog 52 #[.string (ofL l), .int .i64 n] w fun e w' => e = .returned (.bool r) ∧ w = w' := by
  have Hr := Au.mk hr
  clear hr
  have hlen : (ofL l).size = l.length := ofL_size l
  go_enter Try.func52, Try.ntmps52
  go_wp2_with fail
  go_loop [5] (fun i => ∃ k : Nat, k ≤ l.length ∧ i = .int .i64 k ∧ Au ((0 : UInt8) ∉ l.take k)) (fun i => l.length - (intOf i).toNat)
  case atStart => exact ⟨0, Nat.zero_le _, rfl, ⟨by simp⟩⟩
  case round =>
    obtain ⟨k, hk, rfl, H0⟩ := hrel
    by_cases hlt : k < l.length
    · have hk2 : k < (ofL l).size := by rw [ofL_size]; exact hlt
      obtain ⟨x, hx⟩ : ∃ x, (ofL l)[k] = x := ⟨_, rfl⟩
      have hxs : l[k] = x := by rw [← hx]; rfl
      have Hx := Au.mk hxs
      clear hxs
      by_cases h0 : x = 0
      · subst h0
        go_wp2_with fail
        go_ret
        refine ⟨ret_bool ?_, rfl⟩
        rw [← Hr.out]
        have : (0 : UInt8) ∈ l := by rw [← Hx.out]; exact List.getElem_mem hlt
        simp [this]
      · have hx0 : ((x.toNat : Int) == 0) = false := by
          rw [beq_eq_false_iff_ne]; intro h
          exact h0 (UInt8.toNat_inj.1 (by simpa using h))
        have H0' := Au.mk h0
        clear h0
        go_wp2_with fail
        go_round
        case rel => exact ⟨k + 1, by omega, by go_num, ⟨mem_take_succ hlt Hx.out H0.out H0'.out⟩⟩
        case measure => simp [intOf]; omega
    · have hk2 : k = l.length := by omega
      have h0 : (0 : UInt8) ∉ l := by have := H0.out; rwa [hk2, List.take_length] at this
      have hr2 : decide ((l.length : Int) ≤ n) = r := by rw [← Hr.out]; simp [h0]
      clear h0 hk2
      go_wp2_with fail
      go_ret
      exact ⟨rfl, rfl⟩
theorem fits_calls {n wide : Int} {r : Bool} (hr : (put n wide).isSome = r) (hn : R64 n) (w : World) :
    Calls Try.prog 53 #[.int .i64 n, .int .i64 wide] w fun e w' => e = .returned (.bool r) ∧ Below w.heap.size w w' := by
  obtain ⟨p, Hp⟩ := au ((put n wide).getD [])
  have Hr := Au.mk hr
  clear hr
  go_enter Try.func53, Try.ntmps53
  go_wp2_with fail
  refine (rput_view Hp.out Hr.out hn _).mono ?_
  rintro e w1 ⟨A, c, rfl, s1, b1⟩
  go_wp2_with fail
  go_ret
  exact ⟨rfl, b1⟩
end Go.Proofs.Ytejalhoaljlnhaa.Rk
