/- The laws of headers: spoilt bytes, the sum, the errors. Plain Lean. -/
import Derived.Test.YtejalhoaljlnhaaHeadS
namespace Go.Proofs.Ytejalhoaljlnhaa.Rk
open Go.RowKit
set_option linter.unusedVariables false
set_option linter.unusedSimpArgs false

theorem sumK_set {b : List UInt8} {i : Nat} {c x : UInt8} (hx : b[i]? = some x) : ∀ k, sumK (b.set i c) k + (if i < k then sumB i x else 0) = sumK b k + (if i < k then sumB i c else 0)
  | 0 => by simp [sumK]
  | k + 1 => by
    have ih := sumK_set (b := b) (i := i) (c := c) (x := x) hx k
    have hlt := (List.getElem?_eq_some_iff.1 hx).1
    simp only [sumK]
    by_cases h1 : i < k
    · rw [if_pos h1, if_pos h1] at ih
      rw [if_pos (by omega), if_pos (by omega), List.getElem?_set_ne (by omega)]
      omega
    · rw [if_neg h1, if_neg h1] at ih
      by_cases h2 : i = k
      · subst h2
        rw [if_pos (by omega), if_pos (by omega), List.getElem?_set_self hlt, hx]
        simp only [Option.getD_some]
        omega
      · rw [if_neg (by omega), if_neg (by omega), List.getElem?_set_ne h2]
        omega
theorem sum_set {b : List UInt8} {i : Nat} {c x : UInt8} (hx : b[i]? = some x) (hi : i < 512) : sumK (b.set i c) 512 + sumB i x = sumK b 512 + sumB i c := by
  have := sumK_set (c := c) hx 512
  rwa [if_pos hi, if_pos hi] at this
theorem sgn_inj {b c : List UInt8} (h : sgn b = sgn c) : sumK b 512 = sumK c 512 := by
  unfold sgn at h
  have h1 := sumK_le b 512
  have h2 := sumK_le c 512
  exact octL_inj (k := 6) (by omega) (by omega) (List.append_cancel_right h)
theorem two_marks {b : List UInt8} (hb : (b.drop 257).take 8 = ustar) (i : Nat) (c : UInt8) : isZero (b.set i c) = false := by
  have h0 : b[257]? = some 117 := by
    have := congrArg (fun l => l[0]?) hb
    simpa [List.getElem?_take, List.getElem?_drop, ustar] using this
  have h1 : b[258]? = some 115 := by
    have := congrArg (fun l => l[1]?) hb
    simpa [List.getElem?_take, List.getElem?_drop, ustar] using this
  rw [isZero, List.all_eq_false]
  by_cases h : i = 257
  · refine ⟨115, List.mem_of_getElem? (i := 258) ?_, by decide⟩
    rw [List.getElem?_set_ne (by omega)]; exact h1
  · refine ⟨117, List.mem_of_getElem? (i := 257) ?_, by decide⟩
    rw [List.getElem?_set_ne (by omega)]; exact h0
/-- One byte changed: the sum is another one, or its place is. -/
theorem spoilt (h : Hd) (f : Fits h) {i : Nat} {x c : UInt8} (hx : (blockOf h)[i]? = some x) (hc : x ≠ c) : hget ((blockOf h).set i c) = (hd0, 3) := by
  have hl := blockOf_length h f
  have hi : i < 512 := by have := (List.getElem?_eq_some_iff.1 hx).1; omega
  have hs := sgn_length (layB h (zeros 8))
  have hz : isZero ((blockOf h).set i c) = false := two_marks (b := blockOf h) (at_ustar h f _ hs) i c
  have e0 : ((blockOf h).drop 148).take 8 = sgn (blockOf h) := by rw [sgn_block h f]; exact at_sum h f _ hs
  have key : ((((blockOf h).set i c).drop 148).take 8 == sgn ((blockOf h).set i c)) = false := by
    rw [beq_eq_false_iff_ne]
    intro e
    have hs2 := sum_set (c := c) hx hi
    by_cases h1 : 148 ≤ i ∧ i < 156
    · have h2 : sumK ((blockOf h).set i c) 512 = sumK (blockOf h) 512 := by
        unfold sumB at hs2; rw [if_pos h1, if_pos h1] at hs2; omega
      have h3 : sgn ((blockOf h).set i c) = sgn (blockOf h) := by unfold sgn; rw [h2]
      rw [h3, ← e0] at e
      have h4 := congrArg (fun l => l[i - 148]?) e
      simp only [List.getElem?_take, List.getElem?_drop] at h4
      rw [if_pos (by omega), if_pos (by omega), show 148 + (i - 148) = i from by omega, hx, List.getElem?_set_self (by omega)] at h4
      injection h4 with h4
      exact hc h4.symm
    · have h2 : (((blockOf h).set i c).drop 148).take 8 = ((blockOf h).drop 148).take 8 := by
        apply List.ext_getElem?
        intro j
        rw [List.getElem?_take, List.getElem?_take]
        by_cases hj : j < 8
        · rw [if_pos hj, if_pos hj, List.getElem?_drop, List.getElem?_drop, List.getElem?_set_ne (by omega)]
        · rw [if_neg hj, if_neg hj]
      rw [h2, e0] at e
      have h3 := sgn_inj e
      unfold sumB at hs2; rw [if_neg h1, if_neg h1] at hs2
      have : x.toNat = c.toNat := by omega
      exact hc (UInt8.toNat_inj.1 this)
  unfold hget
  rw [if_neg (by simp; omega), if_neg (by simp [hz]), if_pos key]
theorem sumK_ge (b : List UInt8) : 256 ≤ sumK b 512 := by
  have key : ∀ k, k ≤ 8 → 32 * k ≤ sumK b (148 + k) := by
    intro k
    induction k with
    | zero => intro _; omega
    | succ k ih =>
      intro hk
      have := ih (by omega)
      show 32 * (k + 1) ≤ sumK b (148 + k) + sumB (148 + k) (b[148 + k]?.getD 0)
      have : sumB (148 + k) (b[148 + k]?.getD 0) = 32 := by unfold sumB; rw [if_pos (by omega)]
      omega
  have mono : ∀ k, sumK b 156 ≤ sumK b (156 + k) := by
    intro k
    induction k with
    | zero => exact Nat.le_refl _
    | succ k ih =>
      show sumK b 156 ≤ sumK b (156 + k) + sumB (156 + k) (b[156 + k]?.getD 0)
      exact Nat.le_trans ih (Nat.le_add_right _ _)
  have h1 := key 8 (by omega)
  have h2 := mono 356
  exact Nat.le_trans h1 h2
theorem hget_err (b : List UInt8) : (b.length ≠ 512 → (hget b).2 = 1) ∧ (b.length = 512 → ((hget b).2 = 4 ↔ isZero b = true)) ∧ (b.length = 512 → (hget b).2 = 0 ∨ (hget b).2 = 4 ∨ (hget b).2 = 3 ∨ (hget b).2 = 2) := by
  rcases hget_cases b with ⟨e, h1⟩ | ⟨e, h1, h2⟩ | ⟨e, h1, h2⟩ | ⟨e, h1, h2, _⟩ | ⟨e, h1, h2⟩ <;> rw [e] <;> simp [*]
end Go.Proofs.Ytejalhoaljlnhaa.Rk
