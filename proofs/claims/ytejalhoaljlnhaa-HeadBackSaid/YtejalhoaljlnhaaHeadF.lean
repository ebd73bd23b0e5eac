/- head.Sum, (signed).sum, and the document's. -/
import Derived.Test.YtejalhoaljlnhaaHeadE
import Derived.Test.YtejalhoaljlnhaaNumT
namespace Go.Proofs.Ytejalhoaljlnhaa.Rk
open Go.RowKit
set_option linter.unusedVariables false
set_option linter.unusedSimpArgs false

/-- What a byte at a place counts in the sum. -/
def sumB (i : Nat) (x : UInt8) : Nat := if 148 ≤ i ∧ i < 156 then 32 else x.toNat
def sumK (b : List UInt8) : Nat → Nat
  | 0 => 0
  | k + 1 => sumK b k + sumB k (b[k]?.getD 0)
def hsum (b : List UInt8) : Int := if b.length = 512 then (sumK b 512 : Int) else -1
theorem sumB_le (i : Nat) (x : UInt8) : sumB i x ≤ 255 := by
  unfold sumB; split <;> have := x.toNat_lt <;> omega
theorem sumK_le (b : List UInt8) (k : Nat) : sumK b k ≤ 255 * k := by
  induction k with
  | zero => simp [sumK]
  | succ k ih => have := sumB_le k (b[k]?.getD 0); simp only [sumK]; omega
theorem sumK_step {b : List UInt8} {k : Nat} (h : k < b.length) : sumK b (k + 1) = sumK b k + sumB k b[k] := by simp [sumK, h]

set_option maxRecDepth 100000 in
theorem sum_walk (l : List UInt8) {A : Option Addr} {c : Nat} {F : Nat → Prop} (w : World) (ha : Sl Kd.byte w F A c l) (hl : l.length = 512) :
    Calls Try.prog 34 #[.slice A l.length c] w fun e w' => e = .returned (.int .i64 (sumK l 512)) ∧ w = w' := by
  have c1 : ((l.length : Int) != 512) = false := by simp [hl]
  have Hl := Au.mk hl
  clear hl
  go_enter Try.func34, Try.ntmps34
  go_wp2_with fail
  go_loop [3, 11] (fun n i => ∃ k : Nat, k ≤ 512 ∧ i = .int .i64 k ∧ n = .int .i64 (sumK l k : Int)) (fun _ i => 512 - (intOf i).toNat)
  case atStart => exact ⟨0, by omega, rfl, rfl⟩
  case round =>
    obtain ⟨k, hk, rfl, rfl⟩ := hrel
    by_cases hlt : k < 512
    · have hkl : k < l.length := by have := Hl.out; omega
      obtain ⟨a1, a2, rfl, ca⟩ := ha.byte_at k hkl
      obtain ⟨x, hx⟩ : ∃ x, x = l[k] := ⟨_, rfl⟩
      rw [← hx] at ca
      have hs := sumK_step hkl
      rw [← hx] at hs
      have hb := sumK_le l k
      have Hs := Au.mk hs
      clear hs hx
      have hx2 := x.toNat_lt
      by_cases h1 : 148 ≤ k
      · by_cases h2 : k < 156
        · have hs2 : sumK l (k + 1) = sumK l k + 32 := by rw [Hs.out]; simp [sumB, h1, h2]
          have Hs2 := Au.mk hs2
          clear hs2
          go_wp2_with fail
          go_round
          case rel => exact ⟨k + 1, by omega, by go_num, by rw [Hs2.out]; go_num⟩
          case measure => simp [intOf]; omega
        · have hs2 : sumK l (k + 1) = sumK l k + x.toNat := by rw [Hs.out]; simp [sumB, h2]
          have Hs2 := Au.mk hs2
          clear hs2
          go_wp2_with fail
          go_round
          case rel => exact ⟨k + 1, by omega, by go_num, by rw [Hs2.out]; go_num⟩
          case measure => simp [intOf]; omega
      · have hs2 : sumK l (k + 1) = sumK l k + x.toNat := by rw [Hs.out]; simp [sumB, h1]
        have Hs2 := Au.mk hs2
        clear hs2
        go_wp2_with fail
        go_round
        case rel => exact ⟨k + 1, by omega, by go_num, by rw [Hs2.out]; go_num⟩
        case measure => simp [intOf]; omega
    · obtain rfl : k = 512 := by omega
      have hle : l.length < 513 := by have := Hl.out; omega
      go_wp2_with fail
      go_ret
      exact ⟨rfl, rfl⟩
theorem sum_calls (l : List UInt8) {n : Int} (hn : hsum l = n) {A : Option Addr} {c : Nat} {F : Nat → Prop} (w : World) (ha : Sl Kd.byte w F A c l) :
    Calls Try.prog 34 #[.slice A l.length c] w fun e w' => e = .returned (.int .i64 n) ∧ w = w' := by
  subst hn
  by_cases hl : l.length = 512
  · have := sum_walk l w ha hl
    unfold hsum
    rw [if_pos hl]
    exact this
  · have c1 : ((l.length : Int) != 512) = true := by simp; omega
    unfold hsum
    rw [if_neg hl]
    clear hl
    go_enter Try.func34, Try.ntmps34
    go_wp2_with fail
    go_ret
    exact ⟨rfl, rfl⟩
set_option maxRecDepth 100000 in
theorem rsum_walk (l : List UInt8) {A : Option Addr} {c : Nat} {F : Nat → Prop} (w : World) (ha : Sl Kd.byte w F A c l) (hl : l.length = 512) :
    Calls Try.prog 35 #[.slice A l.length c] w fun e w' => e = .returned (.int .i64 (sumK l 512)) ∧ w = w' := by
  have c1 : ((l.length : Int) != 512) = false := by simp [hl]
  have Hl := Au.mk hl
  clear hl
  go_enter Try.func35, Try.ntmps35
  go_wp2_with fail
  go_loop [3, 4] (fun n i => ∃ k : Nat, k ≤ 512 ∧ i = .int .i64 k ∧ n = .int .i64 (sumK l k : Int)) (fun _ i => 512 - (intOf i).toNat)
  case atStart => exact ⟨0, by omega, rfl, rfl⟩
  case round =>
    obtain ⟨k, hk, rfl, rfl⟩ := hrel
    by_cases hlt : k < 512
    · have hkl : k < l.length := by have := Hl.out; omega
      obtain ⟨a1, a2, rfl, ca⟩ := ha.byte_at k hkl
      obtain ⟨x, hx⟩ : ∃ x, x = l[k] := ⟨_, rfl⟩
      rw [← hx] at ca
      have hs := sumK_step hkl
      rw [← hx] at hs
      have hb := sumK_le l k
      have Hs := Au.mk hs
      clear hs hx
      have hx2 := x.toNat_lt
      by_cases h1 : 148 ≤ k
      · by_cases h2 : k < 156
        · have hs2 : sumK l (k + 1) = sumK l k + 32 := by rw [Hs.out]; simp [sumB, h1, h2]
          have Hs2 := Au.mk hs2
          clear hs2
          go_wp2_with fail
          go_round
          case rel => exact ⟨k + 1, by omega, by go_num, by rw [Hs2.out]; go_num⟩
          case measure => simp [intOf]; omega
        · have hs2 : sumK l (k + 1) = sumK l k + x.toNat := by rw [Hs.out]; simp [sumB, h2]
          have Hs2 := Au.mk hs2
          clear hs2
          go_wp2_with fail
          go_round
          case rel => exact ⟨k + 1, by omega, by go_num, by rw [Hs2.out]; go_num⟩
          case measure => simp [intOf]; omega
      · have hs2 : sumK l (k + 1) = sumK l k + x.toNat := by rw [Hs.out]; simp [sumB, h1]
        have Hs2 := Au.mk hs2
        clear hs2
        go_wp2_with fail
        go_round
        case rel => exact ⟨k + 1, by omega, by go_num, by rw [Hs2.out]; go_num⟩
        case measure => simp [intOf]; omega
    · obtain rfl : k = 512 := by omega
      have hle : l.length < 513 := by have := Hl.out; omega
      go_wp2_with fail
      go_ret
      exact ⟨rfl, rfl⟩
theorem rsum_calls (l : List UInt8) {n : Int} (hn : hsum l = n) {A : Option Addr} {c : Nat} {F : Nat → Prop} (w : World) (ha : Sl Kd.byte w F A c l) :
    Calls Try.prog 35 #[.slice A l.length c] w fun e w' => e = .returned (.int .i64 n) ∧ w = w' := by
  subst hn
  by_cases hl : l.length = 512
  · have := rsum_walk l w ha hl
    unfold hsum
    rw [if_pos hl]
    exact this
  · have c1 : ((l.length : Int) != 512) = true := by simp; omega
    unfold hsum
    rw [if_neg hl]
    clear hl
    go_enter Try.func35, Try.ntmps35
    go_wp2_with fail
    go_ret
    exact ⟨rfl, rfl⟩
end Go.Proofs.Ytejalhoaljlnhaa.Rk
