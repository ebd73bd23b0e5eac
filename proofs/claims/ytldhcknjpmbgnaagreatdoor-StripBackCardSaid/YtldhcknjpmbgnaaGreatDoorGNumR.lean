/- GNumR: NumR NumQ NumT NumU -/
import Derived.Test.YtldhcknjpmbgnaaGreatDoorGNum
set_option maxRecDepth 100000
/- Walks: the document's answers for numbers: Octal, Plain. -/
namespace Go.Proofs.YtldhcknjpmbgnaaGreatDoor.Rk
open Go.RowKit
set_option linter.unusedVariables false
set_option linter.unusedSimpArgs false

theorem digit_cut : ∀ a : Nat, a < 8 → (⟨#[48, 49, 50, 51, 52, 53, 54, 55]⟩ : ByteArray).extract a (a + 1) = ofL [UInt8.ofNat (48 + a)] := by
  intro a ha
  have : a = 0 ∨ a = 1 ∨ a = 2 ∨ a = 3 ∨ a = 4 ∨ a = 5 ∨ a = 6 ∨ a = 7 := by omega
  rcases this with rfl | rfl | rfl | rfl | rfl | rfl | rfl | rfl <;> rfl

/-- (string, bool) as two values. -/
theorem strOr_two (o : Option (List UInt8)) : strOr o = .tuple #[.string (ofL (o.getD [])), .bool o.isSome] := by cases o <;> rfl
end Go.Proofs.YtldhcknjpmbgnaaGreatDoor.Rk
/- Walks: the document's answers for numbers: Put. -/
namespace Go.Proofs.YtldhcknjpmbgnaaGreatDoor.Rk
open Go.RowKit
set_option linter.unusedVariables false
set_option linter.unusedSimpArgs false

end Go.Proofs.YtldhcknjpmbgnaaGreatDoor.Rk
/- Walks: the document's answers for numbers: Get. -/
namespace Go.Proofs.YtldhcknjpmbgnaaGreatDoor.Rk
open Go.RowKit
set_option linter.unusedVariables false
set_option linter.unusedSimpArgs false

/-- One byte more, as the document has it. -/
def accR (mk : Bool) : List UInt8 → Int → Option Int
  | [], n => some n
  | c :: l, n =>
    if mk = true ∧ 36028797018963967 < n then none
    else accR mk l (if mk then wrap64 (wrap64 (256 * n) + (c.toNat : Int)) else if 48 ≤ c.toNat ∧ c.toNat ≤ 55 then wrap64 (wrap64 (8 * n) + ((c.toNat : Int) - 48) % 256) else n)
theorem accR_oct (k n : Nat) (hn : n < 9223372036854775808) : ∀ j, j ≤ k → accR false (octL j n) ((n / 8 ^ j : Nat) : Int) = some (n : Int) := by
  intro j
  induction j with
  | zero => intro _; simp [octL, accR]
  | succ j ih =>
    intro hj
    have hle : n / 8 ^ (j + 1) = n / 8 ^ j / 8 := by rw [Nat.pow_succ, Nat.div_div_eq_div_mul]
    have hm := Nat.div_le_self n (8 ^ j)
    rw [octL, accR, if_neg (by simp)]
    rw [← ih (by omega)]
    congr 1
    rw [hle]
    clear ih hle
    generalize n / 8 ^ j = q at hm
    have : (UInt8.ofNat (48 + q % 8)).toNat = 48 + q % 8 := by simp; omega
    rw [this, if_neg (by simp), if_pos (by omega)]
    simp only [wrap64]
    omega
theorem accR_bin (k n : Nat) (hn : n < 9223372036854775808) : ∀ j, j ≤ k → accR true (binL j n) ((n / 256 ^ j : Nat) : Int) = some (n : Int) := by
  intro j
  induction j with
  | zero => intro _; simp [binL, accR]
  | succ j ih =>
    intro hj
    have hle : n / 256 ^ (j + 1) = n / 256 ^ j / 256 := by rw [Nat.pow_succ, Nat.div_div_eq_div_mul]
    have hm := Nat.div_le_self n (256 ^ j)
    have hlt : n / 256 ^ (j + 1) < 36028797018963968 := by rw [hle]; omega
    rw [binL, accR, if_neg (by generalize n / 256 ^ (j + 1) = q at hlt; simp; omega)]
    rw [← ih (by omega)]
    congr 1
    rw [hle]
    clear ih hle hlt
    generalize n / 256 ^ j = q at hm
    have : (UInt8.ofNat (q % 256)).toNat = q % 256 := by simp
    rw [this]
    simp only [if_true, wrap64]
    omega
def getR (b : List UInt8) : Option Int := if b.head? = some 128 then accR true b.tail 0 else accR false b.dropLast 0
theorem getR_of_get {b : List UInt8} {n : Int} (h : get b = some n) : getR b = some n := by
  have hR : R64 n := by have := get_R64 b; rw [h] at this; exact this
  obtain ⟨n0, h1, h2, h⟩ := put_iff.1 (put_of_get h)
  obtain ⟨k, hk⟩ : ∃ k, (b.length : Int).toNat - 1 = k + 1 := ⟨b.length - 2, by omega⟩
  obtain ⟨m, rfl⟩ := Int.eq_ofNat_of_zero_le n0
  rw [hk] at h
  simp only [Int.toNat_natCast] at h
  have hm : m < 9223372036854775808 := by have := hR.2; omega
  unfold getR
  rcases h with ⟨a1, hb⟩ | ⟨a0, a1, hb⟩
  · have hd := octL_digit (k + 1) m
    have hne : ¬ b.head? = some 128 := by
      intro h
      rw [hb, octL] at h
      rw [octL] at hd
      simp only [List.cons_append, List.head?_cons, Option.some.injEq] at h
      have := hd _ List.mem_cons_self
      rw [h] at this; simp at this
    rw [if_neg hne, hb, List.dropLast_concat]
    have := accR_oct (k + 1) m hm (k + 1) (Nat.le_refl _)
    rwa [Nat.div_eq_of_lt a1] at this
  · rw [hb, if_pos (by simp), List.tail_cons]
    have := accR_bin (k + 1) m hm (k + 1) (Nat.le_refl _)
    rwa [Nat.div_eq_of_lt a1] at this
theorem get_of_R {b : List UInt8} {n : Int} (hn : R64 n) (h : getR b = some n) : get b = if put n b.length = some b then some n else none := by
  split
  · rename_i hp
    exact (get_iff hn.2).2 hp
  · rename_i hp
    cases hg : get b with
    | none => rfl
    | some m =>
      have := getR_of_get hg
      rw [h] at this
      injection this with this
      subst this
      exact absurd (put_of_get hg) hp
theorem get_of_Rnone {b : List UInt8} (h : getR b = none) : get b = none := by
  cases hg : get b with
  | none => rfl
  | some m => have := getR_of_get hg; rw [h] at this; cases this

theorem accR_true_lt {c : UInt8} {l : List UInt8} {n : Int} (h : n ≤ 36028797018963967) : accR true (c :: l) n = accR true l (wrap64 (wrap64 (256 * n) + (c.toNat : Int))) := by
  rw [accR, if_neg (by simp; omega)]; rfl
theorem accR_true_ge {c : UInt8} {l : List UInt8} {n : Int} (h : 36028797018963967 < n) : accR true (c :: l) n = none := by
  rw [accR, if_pos ⟨rfl, h⟩]
theorem accR_false {c : UInt8} {l : List UInt8} {n : Int} : accR false (c :: l) n = accR false l (if 48 ≤ c.toNat ∧ c.toNat ≤ 55 then wrap64 (wrap64 (8 * n) + ((c.toNat : Int) - 48) % 256) else n) := by
  rw [accR, if_neg (by simp)]; rfl
theorem accR_true_end {l : List UInt8} {n : Int} (h : 36028797018963967 < n) (hl : l ≠ []) : accR true l n = none := by
  cases l with
  | nil => exact absurd rfl hl
  | cons c l => exact accR_true_ge h

end Go.Proofs.YtldhcknjpmbgnaaGreatDoor.Rk
/- Walks: NumTells. -/
namespace Go.Proofs.YtldhcknjpmbgnaaGreatDoor.Rk
open Go.RowKit
set_option linter.unusedVariables false
set_option linter.unusedSimpArgs false

end Go.Proofs.YtldhcknjpmbgnaaGreatDoor.Rk
