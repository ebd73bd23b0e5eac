/- Walks: bytes.Equal, block.Zero. -/
import Derived.Test.YtejalhoaljlnhaaHeadA
namespace Go.Proofs.Ytejalhoaljlnhaa.Rk
open Go.RowKit
set_option linter.unusedVariables false
set_option linter.unusedSimpArgs false

theorem bequal_calls (l m : List UInt8) (A B : Option Addr) (c d : Nat) (F G : Nat → Prop) (w : World) (ha : Sl Kd.byte w F A c l) (hb : Sl Kd.byte w G B d m) :
    Calls Try.prog 48 #[.slice A l.length c, .slice B m.length d] w fun e w' => e = .returned (.bool (l == m)) ∧ w = w' := by
  have t1 := str_of ha
  have t2 := str_of hb
  go_enter Try.func48, Try.ntmps48
  go_wp2_with fail
  go_ret
  exact ⟨rfl, rfl⟩

theorem zero1_calls (x : UInt8) (w : World) : Calls Try.prog 56 #[.int .u8 x.toNat] w fun e w' => e = .returned (.bool (x != 0)) ∧ w = w' := by
  have h := byte_beq x 0
  go_enter Try.func56, Try.ntmps56
  go_wp2_with fail
  go_ret
  refine ⟨ret_bool ?_, rfl⟩
  have h0 : ((x.toNat : Int) == 0) = (x == 0) := h
  simp only [bne, h0]

/-- Are bytes noughts? -/
def isZero (l : List UInt8) : Bool := l.all (· == 0)

theorem indexFunc0_calls (l : List UInt8) (A : Option Addr) (c : Nat) (F : Nat → Prop) (w : World) (ha : Sl Kd.byte w F A c l) :
    Calls Try.prog 60 #[.slice A l.length c, .func (.func 56) #[] #[]] w fun e w' => ∃ n : Int, e = .returned (.int .i64 n) ∧ Au (decide (0 ≤ n) = !isZero l) ∧ w = w' := by
  have hle := ha.le
  go_enter Try.func60, Try.ntmps60
  go_wp2_with fail
  go_loop [8] (fun i => ∃ k : Nat, k ≤ l.length ∧ i = .int .i64 k ∧ Au (isZero (l.take k) = true)) (fun i => l.length - (intOf i).toNat)
  case atStart => exact ⟨0, Nat.zero_le _, rfl, ⟨rfl⟩⟩
  case round =>
    obtain ⟨k, hk, rfl, Hz⟩ := hrel
    by_cases hlt : k < l.length
    · obtain ⟨b, o, rfl, hc⟩ := ha.byte_at k hlt
      obtain ⟨x, Hx⟩ := au l[k]
      rw [Hx.out] at hc
      have hsplit : l = l.take k ++ x :: l.drop (k + 1) := by
        rw [← Hx.out, ← List.drop_eq_getElem_cons hlt, List.take_append_drop]
      by_cases hx : x = 0
      · have e1 : (x != 0) = false := by simp [hx]
        have Hx0 := Au.mk hx
        have Hs := Au.mk hsplit
        clear hx hsplit
        go_wp2_with fail
        refine (zero1_calls _ _).mono ?_
        rintro e w1 ⟨rfl, rfl⟩
        go_wp2_with fail
        go_round
        case rel =>
          refine ⟨k + 1, by omega, by go_num, ⟨?_⟩⟩
          have h1 := Hz.out
          unfold isZero at h1 ⊢
          rw [List.take_succ_eq_append_getElem hlt, List.all_append, h1, Hx.out, Hx0.out]
          rfl
        case measure => simp [intOf]; omega
      · have e1 : (x != 0) = true := by simpa using hx
        have hr : isZero l = false := by
          rw [hsplit]
          unfold isZero
          rw [List.all_append, List.all_cons, show (x == 0) = false from by simpa using hx]
          simp
        have Hr := Au.mk hr
        clear hx hsplit hr
        go_wp2_with fail
        refine (zero1_calls _ _).mono ?_
        rintro e w1 ⟨rfl, rfl⟩
        go_wp2_with fail
        go_ret
        refine ⟨_, rfl, ⟨?_⟩, rfl⟩
        rw [Hr.out]; simp
    · obtain rfl : k = l.length := by omega
      have h1 := Hz.out
      rw [List.take_length] at h1
      have Hr := Au.mk h1
      clear h1
      go_wp2_with fail
      go_ret
      refine ⟨_, rfl, ⟨?_⟩, rfl⟩
      rw [Hr.out]; rfl

theorem zero_calls (l : List UInt8) (A : Option Addr) (c : Nat) (F : Nat → Prop) (w : World) (ha : Sl Kd.byte w F A c l) :
    Calls Try.prog 47 #[.slice A l.length c] w fun e w' => e = .returned (.bool (isZero l)) ∧ w = w' := by
  obtain ⟨r, Hr⟩ := au (isZero l)
  rw [Hr.out]
  go_enter Try.func47, Try.ntmps47
  go_wp2_with (first | (go_at_call 60; refine (indexFunc0_calls l _ _ _ _ ha).mono ?_; rintro e w1 ⟨n, rfl, Hn, rfl⟩) | go_in)
  go_ret
  refine ⟨ret_bool ?_, rfl⟩
  have := Hn.out
  rw [Hr.out] at this
  cases r <;> simp_all
end Go.Proofs.Ytejalhoaljlnhaa.Rk
