/- Plain Lean: numbers in fields, as num's functions answer. -/
import Derived.Below
import Derived.IntWalk
import Derived.RowKit
namespace Go.Proofs.Ytejalhoaljlnhaa.Rk
open Go.RowKit

/-- The last k octal digits of n. -/
def octL : Nat → Nat → List UInt8
  | 0, _ => []
  | k + 1, n => UInt8.ofNat (48 + n / 8 ^ k % 8) :: octL k n
theorem octL_length (k n : Nat) : (octL k n).length = k := by
  induction k with
  | zero => rfl
  | succ k ih => simp [octL, ih]
/-- The last k bytes of n. -/
def binL : Nat → Nat → List UInt8
  | 0, _ => []
  | k + 1, n => UInt8.ofNat (n / 256 ^ k % 256) :: binL k n
theorem binL_length (k n : Nat) : (binL k n).length = k := by
  induction k with
  | zero => rfl
  | succ k ih => simp [binL, ih]

def octal (n d : Int) : Option (List UInt8) :=
  if n < 0 ∨ d < 1 ∨ 20 < d ∨ 0 < n.toNat / 8 ^ d.toNat then none else some (octL d.toNat n.toNat)
theorem octal_some {n d : Nat} (hd0 : 1 ≤ d) (hd1 : d ≤ 20) (h : n / 8 ^ d = 0) : octal n d = some (octL d n) := by
  unfold octal; rw [if_neg (by simp [h]; omega)]; simp
theorem octal_none {n d : Nat} (h : 0 < n / 8 ^ d) : octal n d = none := by
  unfold octal; rw [if_pos (by simp [h])]
theorem octal_iff {n d : Int} {l : List UInt8} : octal n d = some l ↔ 0 ≤ n ∧ 1 ≤ d ∧ d ≤ 20 ∧ n.toNat < 8 ^ d.toNat ∧ l = octL d.toNat n.toNat := by
  unfold octal
  have hp : 0 < 8 ^ d.toNat := Nat.pow_pos (by decide)
  have he : 0 < n.toNat / 8 ^ d.toNat ↔ ¬ n.toNat < 8 ^ d.toNat := by
    rw [Nat.div_pos_iff]; omega
  split
  · rename_i h
    rw [he] at h
    constructor
    · intro h'; cases h'
    · rintro ⟨h1, h2, h3, h4, _⟩; omega
  · rename_i h
    rw [he] at h
    constructor
    · intro h'; injection h' with h'; exact ⟨by omega, by omega, by omega, by omega, h'.symm⟩
    · rintro ⟨_, _, _, _, rfl⟩; rfl

def width (n : Int) : Bool := decide (2 ≤ n ∧ n ≤ 20)
def plain (n wide : Int) : Bool := width wide && (octal n (wide - 1)).isSome
def put (n wide : Int) : Option (List UInt8) :=
  if n < 0 ∨ width wide = false then none
  else match octal n (wide - 1) with
  | some l => some (l ++ [0])
  | none => if 0 < n.toNat / 256 ^ (wide.toNat - 1) then none else some (128 :: binL (wide.toNat - 1) n.toNat)

/-! ### digits tell the number -/
theorem octL_mod (k n m : Nat) (h : n % 8 ^ k = m % 8 ^ k) : octL k n = octL k m := by
  induction k with
  | zero => rfl
  | succ k ih =>
    have h1 : n % 8 ^ k = m % 8 ^ k := by
      have := congrArg (· % 8 ^ k) h
      simpa [Nat.pow_succ, Nat.mod_mul_right_mod] using this
    have h2 : n / 8 ^ k % 8 = m / 8 ^ k % 8 := by
      rw [← Nat.mod_mul_right_div_self, ← Nat.mod_mul_right_div_self, ← Nat.pow_succ, h]
    simp only [octL, ih h1, h2]
theorem octL_digit (k n : Nat) : ∀ c ∈ octL k n, 48 ≤ c.toNat ∧ c.toNat ≤ 55 := by
  induction k with
  | zero => simp [octL]
  | succ k ih =>
    intro c hc
    rcases List.mem_cons.1 hc with rfl | hc
    · simp; omega
    · exact ih c hc
theorem octL_inj {k n m : Nat} (hn : n < 8 ^ k) (hm : m < 8 ^ k) (h : octL k n = octL k m) : n = m := by
  have key : ∀ k n m, octL k n = octL k m → n % 8 ^ k = m % 8 ^ k := by
    intro k
    induction k with
    | zero => intro n m _; simp [Nat.mod_one]
    | succ k ih =>
      intro n m h
      simp only [octL, List.cons.injEq] at h
      have h1 := ih n m h.2
      have h2 : n / 8 ^ k % 8 = m / 8 ^ k % 8 := by
        have := congrArg UInt8.toNat h.1
        simp at this; omega
      rw [Nat.pow_succ, Nat.mod_mul, Nat.mod_mul, h1, h2]
  have := key k n m h
  rwa [Nat.mod_eq_of_lt hn, Nat.mod_eq_of_lt hm] at this
theorem binL_inj {k n m : Nat} (hn : n < 256 ^ k) (hm : m < 256 ^ k) (h : binL k n = binL k m) : n = m := by
  have key : ∀ k n m, binL k n = binL k m → n % 256 ^ k = m % 256 ^ k := by
    intro k
    induction k with
    | zero => intro n m _; simp [Nat.mod_one]
    | succ k ih =>
      intro n m h
      simp only [binL, List.cons.injEq] at h
      have h1 := ih n m h.2
      have h2 : n / 256 ^ k % 256 = m / 256 ^ k % 256 := by
        have := congrArg UInt8.toNat h.1
        simp at this; omega
      rw [Nat.pow_succ, Nat.mod_mul, Nat.mod_mul, h1, h2]
  have := key k n m h
  rwa [Nat.mod_eq_of_lt hn, Nat.mod_eq_of_lt hm] at this

/-- What is put, case by case. -/
theorem put_iff {n wide : Int} {l : List UInt8} : put n wide = some l ↔ 0 ≤ n ∧ 2 ≤ wide ∧ wide ≤ 20 ∧
    ((n.toNat < 8 ^ (wide.toNat - 1) ∧ l = octL (wide.toNat - 1) n.toNat ++ [0]) ∨ (8 ^ (wide.toNat - 1) ≤ n.toNat ∧ n.toNat < 256 ^ (wide.toNat - 1) ∧ l = 128 :: binL (wide.toNat - 1) n.toNat)) := by
  unfold put
  by_cases h0 : n < 0 ∨ width wide = false
  · rw [if_pos h0]
    constructor
    · intro h; cases h
    · rintro ⟨h1, h2, h3, _⟩
      simp [width] at h0; omega
  · rw [if_neg h0]
    simp [width] at h0
    have hd : (wide - 1).toNat = wide.toNat - 1 := by omega
    cases ho : octal n (wide - 1) with
    | some s =>
      have ⟨a1, a2, a3, a4, a5⟩ := octal_iff.1 ho
      rw [hd] at a4 a5
      subst a5
      constructor
      · intro h; injection h with h; exact ⟨by omega, by omega, by omega, .inl ⟨a4, h.symm⟩⟩
      · rintro ⟨_, _, _, ⟨_, rfl⟩ | ⟨h, _⟩⟩
        · rfl
        · omega
    | none =>
      have hn : ¬ n.toNat < 8 ^ (wide.toNat - 1) := by
        intro h
        have : octal n (wide - 1) = some (octL (wide - 1).toNat n.toNat) := octal_iff.2 ⟨by omega, by omega, by omega, by rwa [hd], rfl⟩
        rw [ho] at this; cases this
      have hp : 0 < 256 ^ (wide.toNat - 1) := Nat.pow_pos (by decide)
      have he : 0 < n.toNat / 256 ^ (wide.toNat - 1) ↔ ¬ n.toNat < 256 ^ (wide.toNat - 1) := by rw [Nat.div_pos_iff]; omega
      simp only []
      split
      · rename_i h
        rw [he] at h
        constructor
        · intro h'; cases h'
        · rintro ⟨_, _, _, ⟨h', _⟩ | ⟨_, h', _⟩⟩ <;> contradiction
      · rename_i h
        rw [he] at h
        constructor
        · intro h'; injection h' with h'; exact ⟨by omega, by omega, by omega, .inr ⟨by omega, by omega, h'.symm⟩⟩
        · rintro ⟨_, _, _, ⟨h', _⟩ | ⟨_, h', rfl⟩⟩
          · contradiction
          · rfl
theorem put_length {n wide : Int} {l : List UInt8} (h : put n wide = some l) : (l.length : Int) = wide := by
  obtain ⟨_, h1, h2, ⟨_, rfl⟩ | ⟨_, _, rfl⟩⟩ := put_iff.1 h
  · simp [octL_length]; omega
  · simp [binL_length]; omega
theorem put_inj {n m wide : Int} {l : List UInt8} (hn : put n wide = some l) (hm : put m wide = some l) : n = m := by
  obtain ⟨n0, h1, h2, hn⟩ := put_iff.1 hn
  obtain ⟨m0, _, _, hm⟩ := put_iff.1 hm
  obtain ⟨k, hk⟩ : ∃ k, wide.toNat - 1 = k + 1 := ⟨wide.toNat - 2, by omega⟩
  rw [hk] at hn hm
  rcases hn with ⟨a1, a2⟩ | ⟨a0, a1, a2⟩ <;> rcases hm with ⟨b1, b2⟩ | ⟨b0, b1, b2⟩
  · have := octL_inj a1 b1 (List.append_cancel_right (a2.symm.trans b2)); omega
  · have e := a2.symm.trans b2
    have hd := octL_digit (k + 1) n.toNat
    rw [octL] at e hd
    simp only [List.cons_append, List.cons.injEq] at e
    have := hd _ List.mem_cons_self
    rw [e.1] at this; simp at this
  · have e := b2.symm.trans a2
    have hd := octL_digit (k + 1) m.toNat
    rw [octL] at e hd
    simp only [List.cons_append, List.cons.injEq] at e
    have := hd _ List.mem_cons_self
    rw [e.1] at this; simp at this
  · have e := a2.symm.trans b2
    have := binL_inj a1 b1 (by simpa using e); omega

/-! ### the number of bytes -/
/-- One byte more, as the code has it. -/
def accW (oct : Bool) : List UInt8 → Int → Option Int
  | [], n => some n
  | c :: l, n =>
    if (oct = false ∧ 36028797018963968 ≤ n) ∨ 1152921504606846976 ≤ n then none
    else accW oct l (wrap64 (wrap64 (n * if oct then 8 else 256) + if oct then ((c.toNat : Int) - 48) % 256 else (c.toNat : Int)))
def getN (b : List UInt8) : Option Int := if b.head? = some 128 then accW false b.tail 0 else accW true b.dropLast 0
def get (b : List UInt8) : Option Int :=
  if width b.length = false then none
  else match getN b with
  | none => none
  | some n => if put n b.length = some b then some n else none
theorem acc_oct (k n : Nat) (hn : n < 9223372036854775808) : ∀ j, j ≤ k → accW true (octL j n) ((n / 8 ^ j : Nat) : Int) = some (n : Int) := by
  intro j
  induction j with
  | zero => intro _; simp [octL, accW]
  | succ j ih =>
    intro hj
    have hle : n / 8 ^ (j + 1) = n / 8 ^ j / 8 := by rw [Nat.pow_succ, Nat.div_div_eq_div_mul]
    have hm := Nat.div_le_self n (8 ^ j)
    have hlt : n / 8 ^ (j + 1) < 1152921504606846976 := by rw [hle]; omega
    rw [octL, accW, if_neg (by generalize n / 8 ^ (j + 1) = q at hlt; simp; omega)]
    have e : wrap64 (wrap64 (((n / 8 ^ (j + 1) : Nat) : Int) * if true = true then 8 else 256) + if true = true then (((UInt8.ofNat (48 + n / 8 ^ j % 8)).toNat : Int) - 48) % 256 else ((UInt8.ofNat (48 + n / 8 ^ j % 8)).toNat : Int)) = ((n / 8 ^ j : Nat) : Int) := by
      rw [hle]
      clear ih hle hlt
      generalize n / 8 ^ j = q at hm
      have : (UInt8.ofNat (48 + q % 8)).toNat = 48 + q % 8 := by simp; omega
      rw [this]
      simp only [if_true, wrap64]
      omega
    rw [e]
    exact ih (by omega)
theorem acc_bin (k n : Nat) (hn : n < 9223372036854775808) : ∀ j, j ≤ k → accW false (binL j n) ((n / 256 ^ j : Nat) : Int) = some (n : Int) := by
  intro j
  induction j with
  | zero => intro _; simp [binL, accW]
  | succ j ih =>
    intro hj
    have hle : n / 256 ^ (j + 1) = n / 256 ^ j / 256 := by rw [Nat.pow_succ, Nat.div_div_eq_div_mul]
    have hm := Nat.div_le_self n (256 ^ j)
    have hlt : n / 256 ^ (j + 1) < 36028797018963968 := by rw [hle]; omega
    rw [binL, accW, if_neg (by generalize n / 256 ^ (j + 1) = q at hlt; simp; omega)]
    have e : wrap64 (wrap64 (((n / 256 ^ (j + 1) : Nat) : Int) * if false = true then 8 else 256) + if false = true then (((UInt8.ofNat (n / 256 ^ j % 256)).toNat : Int) - 48) % 256 else ((UInt8.ofNat (n / 256 ^ j % 256)).toNat : Int)) = ((n / 256 ^ j : Nat) : Int) := by
      rw [hle]
      clear ih hle hlt
      generalize n / 256 ^ j = q at hm
      have : (UInt8.ofNat (q % 256)).toNat = q % 256 := by simp
      rw [this]
      simp only [Bool.false_eq_true, if_false, wrap64]
      omega
    rw [e]
    exact ih (by omega)
theorem getN_put {n wide : Int} {b : List UInt8} (hn : n < 9223372036854775808) (h : put n wide = some b) : getN b = some n := by
  obtain ⟨n0, h1, h2, h⟩ := put_iff.1 h
  obtain ⟨k, hk⟩ : ∃ k, wide.toNat - 1 = k + 1 := ⟨wide.toNat - 2, by omega⟩
  obtain ⟨m, rfl⟩ := Int.eq_ofNat_of_zero_le n0
  rw [hk] at h
  simp only [Int.toNat_natCast] at h
  unfold getN
  rcases h with ⟨a1, rfl⟩ | ⟨a0, a1, rfl⟩
  · have hd := octL_digit (k + 1) m
    have hne : ¬ (octL (k + 1) m ++ [0]).head? = some 128 := by
      intro h
      rw [octL] at h hd
      simp only [List.cons_append, List.head?_cons, Option.some.injEq] at h
      have := hd _ List.mem_cons_self
      rw [h] at this; simp at this
    rw [if_neg hne, List.dropLast_concat]
    have := acc_oct (k + 1) m (by omega) (k + 1) (Nat.le_refl _)
    rwa [Nat.div_eq_of_lt a1] at this
  · rw [if_pos (by simp), List.tail_cons]
    have := acc_bin (k + 1) m (by omega) (k + 1) (Nat.le_refl _)
    rwa [Nat.div_eq_of_lt a1] at this
theorem get_iff {b : List UInt8} {n : Int} (hn : n < 9223372036854775808) : get b = some n ↔ put n b.length = some b := by
  unfold get
  constructor
  · intro h
    split at h
    · cases h
    · split at h
      · cases h
      · split at h
        · injection h with h; subst h; assumption
        · cases h
  · intro h
    obtain ⟨_, h1, h2, _⟩ := put_iff.1 h
    rw [if_neg (by simp [width]; omega), getN_put hn h]
    simp [h]
theorem put_of_get {b : List UInt8} {n : Int} (h : get b = some n) : put n b.length = some b := by
  unfold get at h
  split at h
  · cases h
  · split at h
    · cases h
    · split at h
      · injection h with h; subst h; assumption
      · cases h
theorem get_put {n wide : Int} {b : List UInt8} (hn : n < 9223372036854775808) (h : put n wide = some b) : get b = some n := by
  rw [get_iff hn, put_length h]; exact h
end Go.Proofs.Ytejalhoaljlnhaa.Rk
