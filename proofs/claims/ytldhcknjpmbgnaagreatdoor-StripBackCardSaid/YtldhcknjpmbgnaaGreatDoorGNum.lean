/- GNum: NumS NumA NumB NumC NumD NumE NumL1 NumF -/
import Derived.Test.YtldhcknjpmbgnaaGreatDoorGRow
import Derived.Below
import Derived.IntWalk
import Derived.RowKit
import Derived.Test.YtldhcknjpmbgnaaGreatDoorProg
import Derived.Test.YtldhcknjpmbgnaaGreatDoorGBase
set_option maxRecDepth 100000
/- Plain Lean: numbers in fields, as num's functions answer. -/
namespace Go.Proofs.YtldhcknjpmbgnaaGreatDoor.Rk
open Go.RowKit

/-- The last k octal digits of n. -/
def octL : Nat → Nat → List UInt8
  | 0, _ => []
  | k + 1, n => UInt8.ofNat (48 + n / 8 ^ k % 8) :: octL k n
theorem octL_length (k n : Nat) : (octL k n).length = k := by
  induction k with
  | zero => rfl
  | succ k ih => simp [octL, ih]
/-- The last k bytes of n. -/
def binL : Nat → Nat → List UInt8
  | 0, _ => []
  | k + 1, n => UInt8.ofNat (n / 256 ^ k % 256) :: binL k n
theorem binL_length (k n : Nat) : (binL k n).length = k := by
  induction k with
  | zero => rfl
  | succ k ih => simp [binL, ih]

def octal (n d : Int) : Option (List UInt8) :=
  if n < 0 ∨ d < 1 ∨ 20 < d ∨ 0 < n.toNat / 8 ^ d.toNat then none else some (octL d.toNat n.toNat)
theorem octal_some {n d : Nat} (hd0 : 1 ≤ d) (hd1 : d ≤ 20) (h : n / 8 ^ d = 0) : octal n d = some (octL d n) := by
  unfold octal; rw [if_neg (by simp [h]; omega)]; simp
theorem octal_none {n d : Nat} (h : 0 < n / 8 ^ d) : octal n d = none := by
  unfold octal; rw [if_pos (by simp [h])]
theorem octal_iff {n d : Int} {l : List UInt8} : octal n d = some l ↔ 0 ≤ n ∧ 1 ≤ d ∧ d ≤ 20 ∧ n.toNat < 8 ^ d.toNat ∧ l = octL d.toNat n.toNat := by
  unfold octal
  have hp : 0 < 8 ^ d.toNat := Nat.pow_pos (by decide)
  have he : 0 < n.toNat / 8 ^ d.toNat ↔ ¬ n.toNat < 8 ^ d.toNat := by
    rw [Nat.div_pos_iff]; omega
  split
  · rename_i h
    rw [he] at h
    constructor
    · intro h'; cases h'
    · rintro ⟨h1, h2, h3, h4, _⟩; omega
  · rename_i h
    rw [he] at h
    constructor
    · intro h'; injection h' with h'; exact ⟨by omega, by omega, by omega, by omega, h'.symm⟩
    · rintro ⟨_, _, _, _, rfl⟩; rfl

def width (n : Int) : Bool := decide (2 ≤ n ∧ n ≤ 20)
def plain (n wide : Int) : Bool := width wide && (octal n (wide - 1)).isSome
def put (n wide : Int) : Option (List UInt8) :=
  if n < 0 ∨ width wide = false then none
  else match octal n (wide - 1) with
  | some l => some (l ++ [0])
  | none => if 0 < n.toNat / 256 ^ (wide.toNat - 1) then none else some (128 :: binL (wide.toNat - 1) n.toNat)

/-! ### digits tell the number -/
theorem octL_mod (k n m : Nat) (h : n % 8 ^ k = m % 8 ^ k) : octL k n = octL k m := by
  induction k with
  | zero => rfl
  | succ k ih =>
    have h1 : n % 8 ^ k = m % 8 ^ k := by
      have := congrArg (· % 8 ^ k) h
      simpa [Nat.pow_succ, Nat.mod_mul_right_mod] using this
    have h2 : n / 8 ^ k % 8 = m / 8 ^ k % 8 := by
      rw [← Nat.mod_mul_right_div_self, ← Nat.mod_mul_right_div_self, ← Nat.pow_succ, h]
    simp only [octL, ih h1, h2]
theorem octL_digit (k n : Nat) : ∀ c ∈ octL k n, 48 ≤ c.toNat ∧ c.toNat ≤ 55 := by
  induction k with
  | zero => simp [octL]
  | succ k ih =>
    intro c hc
    rcases List.mem_cons.1 hc with rfl | hc
    · simp; omega
    · exact ih c hc
theorem octL_inj {k n m : Nat} (hn : n < 8 ^ k) (hm : m < 8 ^ k) (h : octL k n = octL k m) : n = m := by
  have key : ∀ k n m, octL k n = octL k m → n % 8 ^ k = m % 8 ^ k := by
    intro k
    induction k with
    | zero => intro n m _; simp [Nat.mod_one]
    | succ k ih =>
      intro n m h
      simp only [octL, List.cons.injEq] at h
      have h1 := ih n m h.2
      have h2 : n / 8 ^ k % 8 = m / 8 ^ k % 8 := by
        have := congrArg UInt8.toNat h.1
        simp at this; omega
      rw [Nat.pow_succ, Nat.mod_mul, Nat.mod_mul, h1, h2]
  have := key k n m h
  rwa [Nat.mod_eq_of_lt hn, Nat.mod_eq_of_lt hm] at this
theorem binL_inj {k n m : Nat} (hn : n < 256 ^ k) (hm : m < 256 ^ k) (h : binL k n = binL k m) : n = m := by
  have key : ∀ k n m, binL k n = binL k m → n % 256 ^ k = m % 256 ^ k := by
    intro k
    induction k with
    | zero => intro n m _; simp [Nat.mod_one]
    | succ k ih =>
      intro n m h
      simp only [binL, List.cons.injEq] at h
      have h1 := ih n m h.2
      have h2 : n / 256 ^ k % 256 = m / 256 ^ k % 256 := by
        have := congrArg UInt8.toNat h.1
        simp at this; omega
      rw [Nat.pow_succ, Nat.mod_mul, Nat.mod_mul, h1, h2]
  have := key k n m h
  rwa [Nat.mod_eq_of_lt hn, Nat.mod_eq_of_lt hm] at this

/-- What is put, case by case. -/
theorem put_iff {n wide : Int} {l : List UInt8} : put n wide = some l ↔ 0 ≤ n ∧ 2 ≤ wide ∧ wide ≤ 20 ∧
    ((n.toNat < 8 ^ (wide.toNat - 1) ∧ l = octL (wide.toNat - 1) n.toNat ++ [0]) ∨ (8 ^ (wide.toNat - 1) ≤ n.toNat ∧ n.toNat < 256 ^ (wide.toNat - 1) ∧ l = 128 :: binL (wide.toNat - 1) n.toNat)) := by
  unfold put
  by_cases h0 : n < 0 ∨ width wide = false
  · rw [if_pos h0]
    constructor
    · intro h; cases h
    · rintro ⟨h1, h2, h3, _⟩
      simp [width] at h0; omega
  · rw [if_neg h0]
    simp [width] at h0
    have hd : (wide - 1).toNat = wide.toNat - 1 := by omega
    cases ho : octal n (wide - 1) with
    | some s =>
      have ⟨a1, a2, a3, a4, a5⟩ := octal_iff.1 ho
      rw [hd] at a4 a5
      subst a5
      constructor
      · intro h; injection h with h; exact ⟨by omega, by omega, by omega, .inl ⟨a4, h.symm⟩⟩
      · rintro ⟨_, _, _, ⟨_, rfl⟩ | ⟨h, _⟩⟩
        · rfl
        · omega
    | none =>
      have hn : ¬ n.toNat < 8 ^ (wide.toNat - 1) := by
        intro h
        have : octal n (wide - 1) = some (octL (wide - 1).toNat n.toNat) := octal_iff.2 ⟨by omega, by omega, by omega, by rwa [hd], rfl⟩
        rw [ho] at this; cases this
      have hp : 0 < 256 ^ (wide.toNat - 1) := Nat.pow_pos (by decide)
      have he : 0 < n.toNat / 256 ^ (wide.toNat - 1) ↔ ¬ n.toNat < 256 ^ (wide.toNat - 1) := by rw [Nat.div_pos_iff]; omega
      simp only []
      split
      · rename_i h
        rw [he] at h
        constructor
        · intro h'; cases h'
        · rintro ⟨_, _, _, ⟨h', _⟩ | ⟨_, h', _⟩⟩ <;> contradiction
      · rename_i h
        rw [he] at h
        constructor
        · intro h'; injection h' with h'; exact ⟨by omega, by omega, by omega, .inr ⟨by omega, by omega, h'.symm⟩⟩
        · rintro ⟨_, _, _, ⟨h', _⟩ | ⟨_, h', rfl⟩⟩
          · contradiction
          · rfl
theorem put_length {n wide : Int} {l : List UInt8} (h : put n wide = some l) : (l.length : Int) = wide := by
  obtain ⟨_, h1, h2, ⟨_, rfl⟩ | ⟨_, _, rfl⟩⟩ := put_iff.1 h
  · simp [octL_length]; omega
  · simp [binL_length]; omega
theorem put_inj {n m wide : Int} {l : List UInt8} (hn : put n wide = some l) (hm : put m wide = some l) : n = m := by
  obtain ⟨n0, h1, h2, hn⟩ := put_iff.1 hn
  obtain ⟨m0, _, _, hm⟩ := put_iff.1 hm
  obtain ⟨k, hk⟩ : ∃ k, wide.toNat - 1 = k + 1 := ⟨wide.toNat - 2, by omega⟩
  rw [hk] at hn hm
  rcases hn with ⟨a1, a2⟩ | ⟨a0, a1, a2⟩ <;> rcases hm with ⟨b1, b2⟩ | ⟨b0, b1, b2⟩
  · have := octL_inj a1 b1 (List.append_cancel_right (a2.symm.trans b2)); omega
  · have e := a2.symm.trans b2
    have hd := octL_digit (k + 1) n.toNat
    rw [octL] at e hd
    simp only [List.cons_append, List.cons.injEq] at e
    have := hd _ List.mem_cons_self
    rw [e.1] at this; simp at this
  · have e := b2.symm.trans a2
    have hd := octL_digit (k + 1) m.toNat
    rw [octL] at e hd
    simp only [List.cons_append, List.cons.injEq] at e
    have := hd _ List.mem_cons_self
    rw [e.1] at this; simp at this
  · have e := a2.symm.trans b2
    have := binL_inj a1 b1 (by simpa using e); omega

/-! ### the number of bytes -/
/-- One byte more, as the code has it. -/
def accW (oct : Bool) : List UInt8 → Int → Option Int
  | [], n => some n
  | c :: l, n =>
    if (oct = false ∧ 36028797018963968 ≤ n) ∨ 1152921504606846976 ≤ n then none
    else accW oct l (wrap64 (wrap64 (n * if oct then 8 else 256) + if oct then ((c.toNat : Int) - 48) % 256 else (c.toNat : Int)))
def getN (b : List UInt8) : Option Int := if b.head? = some 128 then accW false b.tail 0 else accW true b.dropLast 0
def get (b : List UInt8) : Option Int :=
  if width b.length = false then none
  else match getN b with
  | none => none
  | some n => if put n b.length = some b then some n else none
theorem acc_oct (k n : Nat) (hn : n < 9223372036854775808) : ∀ j, j ≤ k → accW true (octL j n) ((n / 8 ^ j : Nat) : Int) = some (n : Int) := by
  intro j
  induction j with
  | zero => intro _; simp [octL, accW]
  | succ j ih =>
    intro hj
    have hle : n / 8 ^ (j + 1) = n / 8 ^ j / 8 := by rw [Nat.pow_succ, Nat.div_div_eq_div_mul]
    have hm := Nat.div_le_self n (8 ^ j)
    have hlt : n / 8 ^ (j + 1) < 1152921504606846976 := by rw [hle]; omega
    rw [octL, accW, if_neg (by generalize n / 8 ^ (j + 1) = q at hlt; simp; omega)]
    have e : wrap64 (wrap64 (((n / 8 ^ (j + 1) : Nat) : Int) * if true = true then 8 else 256) + if true = true then (((UInt8.ofNat (48 + n / 8 ^ j % 8)).toNat : Int) - 48) % 256 else ((UInt8.ofNat (48 + n / 8 ^ j % 8)).toNat : Int)) = ((n / 8 ^ j : Nat) : Int) := by
      rw [hle]
      clear ih hle hlt
      generalize n / 8 ^ j = q at hm
      have : (UInt8.ofNat (48 + q % 8)).toNat = 48 + q % 8 := by simp; omega
      rw [this]
      simp only [if_true, wrap64]
      omega
    rw [e]
    exact ih (by omega)
theorem acc_bin (k n : Nat) (hn : n < 9223372036854775808) : ∀ j, j ≤ k → accW false (binL j n) ((n / 256 ^ j : Nat) : Int) = some (n : Int) := by
  intro j
  induction j with
  | zero => intro _; simp [binL, accW]
  | succ j ih =>
    intro hj
    have hle : n / 256 ^ (j + 1) = n / 256 ^ j / 256 := by rw [Nat.pow_succ, Nat.div_div_eq_div_mul]
    have hm := Nat.div_le_self n (256 ^ j)
    have hlt : n / 256 ^ (j + 1) < 36028797018963968 := by rw [hle]; omega
    rw [binL, accW, if_neg (by generalize n / 256 ^ (j + 1) = q at hlt; simp; omega)]
    have e : wrap64 (wrap64 (((n / 256 ^ (j + 1) : Nat) : Int) * if false = true then 8 else 256) + if false = true then (((UInt8.ofNat (n / 256 ^ j % 256)).toNat : Int) - 48) % 256 else ((UInt8.ofNat (n / 256 ^ j % 256)).toNat : Int)) = ((n / 256 ^ j : Nat) : Int) := by
      rw [hle]
      clear ih hle hlt
      generalize n / 256 ^ j = q at hm
      have : (UInt8.ofNat (q % 256)).toNat = q % 256 := by simp
      rw [this]
      simp only [Bool.false_eq_true, if_false, wrap64]
      omega
    rw [e]
    exact ih (by omega)
theorem getN_put {n wide : Int} {b : List UInt8} (hn : n < 9223372036854775808) (h : put n wide = some b) : getN b = some n := by
  obtain ⟨n0, h1, h2, h⟩ := put_iff.1 h
  obtain ⟨k, hk⟩ : ∃ k, wide.toNat - 1 = k + 1 := ⟨wide.toNat - 2, by omega⟩
  obtain ⟨m, rfl⟩ := Int.eq_ofNat_of_zero_le n0
  rw [hk] at h
  simp only [Int.toNat_natCast] at h
  unfold getN
  rcases h with ⟨a1, rfl⟩ | ⟨a0, a1, rfl⟩
  · have hd := octL_digit (k + 1) m
    have hne : ¬ (octL (k + 1) m ++ [0]).head? = some 128 := by
      intro h
      rw [octL] at h hd
      simp only [List.cons_append, List.head?_cons, Option.some.injEq] at h
      have := hd _ List.mem_cons_self
      rw [h] at this; simp at this
    rw [if_neg hne, List.dropLast_concat]
    have := acc_oct (k + 1) m (by omega) (k + 1) (Nat.le_refl _)
    rwa [Nat.div_eq_of_lt a1] at this
  · rw [if_pos (by simp), List.tail_cons]
    have := acc_bin (k + 1) m (by omega) (k + 1) (Nat.le_refl _)
    rwa [Nat.div_eq_of_lt a1] at this
theorem get_iff {b : List UInt8} {n : Int} (hn : n < 9223372036854775808) : get b = some n ↔ put n b.length = some b := by
  unfold get
  constructor
  · intro h
    split at h
    · cases h
    · split at h
      · cases h
      · split at h
        · injection h with h; subst h; assumption
        · cases h
  · intro h
    obtain ⟨_, h1, h2, _⟩ := put_iff.1 h
    rw [if_neg (by simp [width]; omega), getN_put hn h]
    simp [h]
theorem put_of_get {b : List UInt8} {n : Int} (h : get b = some n) : put n b.length = some b := by
  unfold get at h
  split at h
  · cases h
  · split at h
    · cases h
    · split at h
      · injection h with h; subst h; assumption
      · cases h
theorem get_put {n wide : Int} {b : List UInt8} (hn : n < 9223372036854775808) (h : put n wide = some b) : get b = some n := by
  rw [get_iff hn, put_length h]; exact h
end Go.Proofs.YtldhcknjpmbgnaaGreatDoor.Rk
/- Walks: num.Octal. -/
namespace Go.Proofs.YtldhcknjpmbgnaaGreatDoor.Rk
open Go.RowKit
set_option linter.unusedVariables false
set_option linter.unusedSimpArgs false

theorem etBytes : ET Tryz.prog 46 5 (.int .u8 0) 1 1 := ⟨Tryz.underlying46, by kernel_rfl, rfl, by decide⟩

theorem i64_and7 (n : Int) (h0 : 0 ≤ n) (h1 : n < 9223372036854775808) : bits .and .i64 n 7 = n % 8 := by
  have h := bits_mask .i64 63 (by decide) (fun m a b => by rw [show (2 : Int) ^ 63 = 9223372036854775808 from by decide] at b; rw [IntKind.wrap_i64]; omega) 3 (by decide) n h0 (by rw [show (2 : Int) ^ 63 = 9223372036854775808 from by decide]; exact h1)
  rw [show (2 : Int) ^ 3 - 1 = 7 from by decide, show (2 : Int) ^ 3 = 8 from by decide] at h
  exact h

theorem next_calls (p : Addr) (n : Int) (w : World) (hc : w.cell? p = some (.int .i64 n)) (hf : w.frozen? p = false) (h0 : 0 ≤ n) (h1 : n < 9223372036854775808) :
    Calls Tryz.prog 167 #[.pointer (some p)] w fun e w' => e = .returned (.int .u8 (48 + n % 8)) ∧ w' = w.setCell p (.int .i64 (n / 8)) := by
  have H := i64_and7 n h0 h1
  go_enter Tryz.func167, Tryz.ntmps167
  go_wp2
  go_ret
  refine ⟨?_, rfl⟩
  have e : (48 + n % 8 % 256) % 256 = 48 + n % 8 := by omega
  first | rw [e] | (simp [e])


def octRow (d i n : Nat) : List UInt8 := List.replicate (d - i) 0 ++ octL i n
theorem octRow_step (d i n : Nat) (h : i < d) : (octRow d i n).set (d - 1 - i) (UInt8.ofNat (48 + n / 8 ^ i % 8)) = octRow d (i + 1) n := by
  unfold octRow
  have e : d - i = (d - (i + 1)) + 1 := by omega
  rw [e, List.replicate_succ', List.append_assoc, List.set_append_right _ _ (by simp; omega)]
  simp [octL, show d - 1 - i - (d - (i + 1)) = 0 from by omega]

theorem octal_walk (n d : Nat) (w : World) (h1 : n < 9223372036854775808) (hd0 : 1 ≤ d) (hd1 : d ≤ 20) :
    Calls Tryz.prog 143 #[.int .i64 n, .int .i64 (d : Int)] w fun e w' =>
      e = .returned (strOr (octal n d)) ∧ Below w.heap.size w w' := by
  have km := make_bytes etBytes d (by omega)
  have c1 : decide ((n : Int) < 0) = false := by simp
  have c2 : decide ((d : Int) < 1) = false := by simp; omega
  have c3 : decide ((20 : Int) < d) = false := by simp; omega
  go_enter Tryz.func143, Tryz.ntmps143
  go_wp2_with fail
  clear c2 c3 km
  go_loopw [25] (fun i wr => ∃ k m : Nat, ∃ cs : List Value, k ≤ d ∧ i = .int .i64 k ∧ Au (m = n / 8 ^ k) ∧ Au (cs = bcs (octRow d k n)) ∧ Au (wr.heap[w.heap.size]? = some (.cells cs.toArray 5 (0, 0))) ∧ wr.heap[w.heap.size + 1]? = some (.cells #[.int .i64 (m : Int)] 3 (0, 0)) ∧ Below w.heap.size w wr) (fun i _ => d - (intOf i).toNat)
  case atStart =>
    refine ⟨0, n, bcs (List.replicate d 0), Nat.zero_le _, rfl, ⟨(Nat.div_one n).symm⟩, ⟨by simp [octRow, octL]⟩, ⟨?_⟩, ?_, ?_⟩
    · rw [Below.heap_alloc _ _ _ (by simp), heap_alloc_new]
    · rw [show w.heap.size + 1 = (w.alloc (.cells (bcs (List.replicate d 0)).toArray 5)).heap.size from by simp, heap_alloc_new]
    · exact ((Below.refl _ _).alloc (Nat.le_refl _) _).alloc (by simp) _
  case round =>
    obtain ⟨k, m, cs, hk, rfl, ⟨hm⟩, ⟨hcs⟩, ⟨hb0⟩, hb1, hb⟩ := hrel
    have hle : m < 9223372036854775808 := by have := Nat.div_le_self n (8 ^ k); omega
    have hln : cs.length = d := by rw [hcs]; simp [bcs, octRow, octL_length]; omega
    have Hm := Au.mk hm
    have Hcs := Au.mk hcs
    have Hb0 := Au.mk hb0
    have q1 := cell_of_one hb1
    have q2 := free_of_one hb1
    clear hm hcs
    by_cases hlt : k < d
    · obtain ⟨v, hv⟩ : ∃ v, cs[d - 1 - k]? = some v := ⟨_, List.getElem?_eq_getElem (by omega)⟩
      have q3 := blk_cell hb0 (d - 1 - k) hv
      have q4 := blk_free hb0 (d - 1 - k)
      clear hln hb0 hv
      go_wp2_with (go_at_call 167; refine (next_calls _ (m : Int) _ q1 q2 (Int.natCast_nonneg _) (by omega)).mono ?_; rintro e w' ⟨rfl, rfl⟩)
      go_roundw
      case rel =>
        refine ⟨k + 1, m / 8, cs.set (d - 1 - k) (.int .u8 (48 + m % 8)), by omega, by go_num, ⟨?_⟩, ⟨?_⟩, ⟨?_⟩, ?_, ?_⟩
        · rw [Hm.out, Nat.div_div_eq_div_mul, Nat.pow_succ]
        · rw [Hcs.out, ← octRow_step d k n (by omega), bcs, bcs, List.map_set, ← Hm.out]
          congr 2
          simp; omega
        · exact blk_set (blk_far Hb0.out (by simp) _) _ _
        · exact blk_far (one_setCell hb1) (by simp) _
        · exact (hb.setCell (by simp) _).setCell (by simp) _
      case measure => simp [intOf]; omega
    · have hkd : k = d := by omega
      subst hkd
      obtain ⟨l, hl, hll⟩ : ∃ l, l = octL k n ∧ cs = bcs l := ⟨_, rfl, by rw [Hcs.out]; simp [octRow]⟩
      subst hll
      have kc := bytes_str (dst := 9) Tryz.underlying46 Tryz.underlying5 Tryz.underlying9 (cells_of_blk hb0) k k (by simpa [bcs] using hln.symm)
      have HL := Au.mk hl
      clear hl hln hb0
      by_cases hz : m < 1
      · go_wp2_with fail
        go_ret2
        refine ⟨?_, hb⟩
        rw [octal_some hd0 hd1 (by rw [← Hm.out]; omega), ← HL.out]
        rfl
      · have hz' : 0 < m := by omega
        clear hz
        go_wp2_with fail
        go_ret2
        refine ⟨?_, hb⟩
        rw [octal_none (by rw [← Hm.out]; omega)]
        rfl

theorem octal_calls (n d : Int) (w : World) (h0 : -9223372036854775808 ≤ n) (h1 : n < 9223372036854775808) :
    Calls Tryz.prog 143 #[.int .i64 n, .int .i64 d] w fun e w' => e = .returned (strOr (octal n d)) ∧ Below w.heap.size w w' := by
  by_cases hn : n < 0
  · have hr : octal n d = none := by unfold octal; rw [if_pos (.inl hn)]
    rw [hr]
    have c1 : decide (n < 0) = true := by simpa using hn
    clear hr
    go_enter Tryz.func143, Tryz.ntmps143
    go_wp2_with fail
    go_ret2
    exact ⟨rfl, Below.refl _ _⟩
  · by_cases hd : d < 1
    · have hr : octal n d = none := by unfold octal; rw [if_pos (.inr (.inl hd))]
      rw [hr]
      have c1 : decide (n < 0) = false := by simpa using hn
      have c2 : decide (d < 1) = true := by simpa using hd
      clear hr
      go_enter Tryz.func143, Tryz.ntmps143
      go_wp2_with fail
      go_ret2
      exact ⟨rfl, Below.refl _ _⟩
    · by_cases he : 20 < d
      · have hr : octal n d = none := by unfold octal; rw [if_pos (.inr (.inr (.inl he)))]
        rw [hr]
        have c1 : decide (n < 0) = false := by simpa using hn
        have c2 : decide (d < 1) = false := by simpa using hd
        have c3 : decide (20 < d) = true := by simpa using he
        clear hr
        go_enter Tryz.func143, Tryz.ntmps143
        go_wp2_with fail
        go_ret2
        exact ⟨rfl, Below.refl _ _⟩
      · obtain ⟨n', rfl⟩ := Int.eq_ofNat_of_zero_le (by omega : 0 ≤ n)
        obtain ⟨d', rfl⟩ := Int.eq_ofNat_of_zero_le (by omega : 0 ≤ d)
        exact octal_walk n' d' w (by omega) (by omega) (by omega)
end Go.Proofs.YtldhcknjpmbgnaaGreatDoor.Rk
/- Walks: num.width, slices.Equal of bytes, num.Plain. -/
namespace Go.Proofs.YtldhcknjpmbgnaaGreatDoor.Rk
open Go.RowKit
set_option linter.unusedVariables false
set_option linter.unusedSimpArgs false

theorem width_calls (n : Int) (w : World) : Calls Tryz.prog 146 #[.int .i64 n] w fun e w' => e = .returned (.bool (width n)) ∧ w = w' := by
  by_cases h1 : 2 ≤ n
  · by_cases h2 : n ≤ 20
    · have hr : width n = true := by simp [width]; omega
      rw [hr]
      clear hr
      go_enter Tryz.func146, Tryz.ntmps146
      go_wp2
      go_ret
      exact ⟨by simp; try omega, rfl⟩
    · have hr : width n = false := by simp [width]; omega
      rw [hr]
      clear hr
      go_enter Tryz.func146, Tryz.ntmps146
      go_wp2
      go_ret
      exact ⟨by simp; try omega, rfl⟩
  · have hr : width n = false := by simp [width]; omega
    rw [hr]
    clear hr
    go_enter Tryz.func146, Tryz.ntmps146
    go_wp2
    go_ret
    exact ⟨by simp; try omega, rfl⟩

theorem ne_of_at {l m : List UInt8} {k : Nat} (h1 : k < l.length) (h2 : k < m.length) (h : l[k] ≠ m[k]) : (l == m) = false := by
  rw [beq_eq_false_iff_ne]
  rintro rfl
  exact h rfl
theorem byte_beq (a b : UInt8) : ((a.toNat : Int) == (b.toNat : Int)) = (a == b) := by
  rw [Bool.eq_iff_iff, beq_iff_eq, beq_iff_eq, ← UInt8.toNat_inj]; omega

theorem equal_calls (l m : List UInt8) (A B : Option Addr) (c d : Nat) (F G : Nat → Prop) (w : World) (ha : Sl Kd.byte w F A c l) (hb : Sl Kd.byte w G B d m) :
    Calls Tryz.prog 128 #[.slice A l.length c, .slice B m.length d] w fun e w' => e = .returned (.bool (l == m)) ∧ Drawn w w' := by
  generalize hr : (l == m) = r
  have Hr := Au.mk hr
  clear hr
  by_cases hlen : l.length = m.length
  · have c1 : ((l.length : Int) != (m.length : Int)) = false := by simp [hlen]
    have c1' : (l.length == m.length) = true := by simp [hlen]
    have hle := ha.le
    have Hlen := Au.mk hlen
    clear hlen
    go_enter Tryz.func128, Tryz.ntmps128
    go_wp2_with fail
    go_loopw [13] (fun i wr => ∃ k : Nat, k ≤ l.length ∧ i = .int .i64 k ∧ Au (l.take k = m.take k) ∧ Drawn w wr) (fun i _ => l.length - (intOf i).toNat)
    case atStart => exact ⟨0, Nat.zero_le _, rfl, ⟨rfl⟩, Drawn.refl _⟩
    case round =>
      obtain ⟨k, hk, rfl, ht, ⟨nd, rfl⟩⟩ := hrel
      by_cases hlt : k < l.length
      · obtain ⟨a1, a2, rfl, ca⟩ := ha.byte_at k hlt
        obtain ⟨b1, b2, rfl, cb⟩ := hb.byte_at k (Hlen.out ▸ hlt)
        have hlt2 : k < m.length := Hlen.out ▸ hlt
        obtain ⟨x, hx⟩ : ∃ x, x = l[k] := ⟨_, rfl⟩
        obtain ⟨y, hy⟩ : ∃ y, y = m[k] := ⟨_, rfl⟩
        rw [← hx] at ca
        rw [← hy] at cb
        have Hx := Au.mk hx
        have Hy := Au.mk hy
        clear hx hy
        by_cases hxy : x = y
        · have c2 : ((x.toNat : Int) == (y.toNat : Int)) = true := by simp [hxy]
          have c2' : ((x.toNat : Int) != (y.toNat : Int)) = false := by simp [hxy]
          have c2'' : (x.toNat == y.toNat) = true := by simp [hxy]
          have Hxy := Au.mk hxy
          clear hxy
          go_wp2_with fail
          go_quiet (fail)
          go_wp2_with fail
          go_roundw
          case rel =>
            refine ⟨k + 1, by omega, by go_num, ⟨?_⟩, ⟨_, rfl⟩⟩
            rw [List.take_succ_eq_append_getElem hlt, List.take_succ_eq_append_getElem hlt2, ht.out, ← Hx.out, ← Hy.out, Hxy.out]
          case measure => simp [intOf]; omega
        · have c2 : ((x.toNat : Int) == (y.toNat : Int)) = false := by rw [byte_beq]; simpa using hxy
          have c2' : ((x.toNat : Int) != (y.toNat : Int)) = true := by rw [bne, c2]; rfl
          have c2'' : (x.toNat == y.toNat) = false := by simpa [UInt8.toNat_inj] using hxy
          have Hxy := Au.mk hxy
          clear hxy
          have hr2 : r = false := by rw [← Hr.out]; exact ne_of_at hlt hlt2 (by rw [← Hx.out, ← Hy.out]; exact Hxy.out)
          subst hr2
          go_wp2_with fail
          go_quiet (fail)
          go_wp2_with fail
          go_ret
          exact ⟨rfl, by first | exact ⟨_, rfl⟩ | exact (Drawn.step ⟨nd, rfl⟩ _)⟩
      · have hkl : k = l.length := by omega
        have he : (l == m) = true := by
          have := ht.out
          rw [List.take_of_length_le (by omega), List.take_of_length_le (by rw [← Hlen.out]; omega)] at this
          simp [this]
        rw [Hr.out] at he
        subst he
        clear hkl
        go_wp2_with fail
        go_ret
        exact ⟨rfl, ⟨nd, rfl⟩⟩
  · have he : (l == m) = false := by
      rw [beq_eq_false_iff_ne]; rintro rfl; exact hlen rfl
    rw [Hr.out] at he
    subst he
    have c1 : ((l.length : Int) != (m.length : Int)) = true := by simp; omega
    have c1' : (l.length == m.length) = false := by simp [hlen]
    go_enter Tryz.func128, Tryz.ntmps128
    go_wp2_with fail
    go_ret
    exact ⟨rfl, Drawn.refl _⟩

theorem strOr_some (l : List UInt8) : strOr (some l) = .tuple #[.string (ofL l), .bool true] := rfl
theorem strOr_none : strOr none = .tuple #[.string ⟨#[]⟩, .bool false] := rfl
theorem octal_yes {n d : Int} {l : List UInt8} (h : octal n d = some l) (w : World) (h0 : -9223372036854775808 ≤ n) (h1 : n < 9223372036854775808) :
    Calls Tryz.prog 143 #[.int .i64 n, .int .i64 d] w fun e w' => e = .returned (.tuple #[.string (ofL l), .bool true]) ∧ Below w.heap.size w w' := by
  have := octal_calls n d w h0 h1
  rw [h] at this; exact this
theorem octal_no {n d : Int} (h : octal n d = none) (w : World) (h0 : -9223372036854775808 ≤ n) (h1 : n < 9223372036854775808) :
    Calls Tryz.prog 143 #[.int .i64 n, .int .i64 d] w fun e w' => e = .returned (.tuple #[.string ⟨#[]⟩, .bool false]) ∧ Below w.heap.size w w' := by
  have := octal_calls n d w h0 h1
  rw [h] at this; exact this
/-- Whatever it answers. -/
theorem octal_any (n d : Int) (w : World) (h0 : -9223372036854775808 ≤ n) (h1 : n < 9223372036854775808) :
    Calls Tryz.prog 143 #[.int .i64 n, .int .i64 d] w fun e w' => ∃ s b, e = .returned (.tuple #[.string s, .bool b]) ∧ Below w.heap.size w w' := by
  refine (octal_calls n d w h0 h1).mono ?_
  rintro e w' ⟨rfl, hb⟩
  cases octal n d with
  | none => exact ⟨_, _, rfl, hb⟩
  | some l => exact ⟨_, _, rfl, hb⟩

end Go.Proofs.YtldhcknjpmbgnaaGreatDoor.Rk
/- Walks: num.Put. -/
namespace Go.Proofs.YtldhcknjpmbgnaaGreatDoor.Rk
open Go.RowKit
set_option linter.unusedVariables false
set_option linter.unusedSimpArgs false

theorem put_octal {n wide : Int} {l : List UInt8} (w : World) (h0 : 0 ≤ n) (h1 : n < 9223372036854775808) (hw0 : 2 ≤ wide) (hw1 : wide ≤ 20) (ho : octal n (wide - 1) = some l) :
    Calls Tryz.prog 147 #[.int .i64 n, .int .i64 wide] w (bytesOr w (some (l ++ [0]))) := by
  have Ho := Au.mk ho
  have hll : l.length < 20 := by
    obtain ⟨_, _, _, _, rfl⟩ := octal_iff.1 ho
    rw [octL_length]; omega
  clear ho
  have hw : width wide = true := by simp [width]; omega
  have kb := fun W => str_bytes (P := Tryz.prog) (dst := 46) Tryz.underlying9 Tryz.underlying46 Tryz.underlying5 l W
  go_enter Tryz.func147, Tryz.ntmps147
  go_wp2_with (first | (go_at_call 143; refine (octal_yes Ho.out _ (by omega) h1).mono ?_; rintro e w' ⟨rfl, hb⟩) | (go_at_call 146; refine (width_calls _ _).mono ?_; rintro e w' ⟨rfl, rfl⟩) | (at_builtin; refine wpList_append_row _ rfl etBytes _ _ rfl rfl ((bytesWorld_row _ _ l (by omega) _ hb.size).alloc _) rfl (cells_new1 _ _ _) rfl (by simp [Value.oneCell']) (by simp only [maxLen]; omega) (by omega) (by simp [Lib.bytesWorld_size]; have := hb.size; omega) ?_))
  intro v' w1 hrow hg _
  go_wp2_with fail
  go_ret2
  have hb1 : Below w.heap.size w w1 := (((below_then hb (bytesWorld_below _ _ _) hb.size).alloc (by simp [Lib.bytesWorld_size]; have := hb.size; omega) _).grown hg (by simp [Lib.bytesWorld_size]; have := hb.size; omega) (by
    intro k hk; simp [Value.ownBlock] at hk; have := hb.size; omega))
  have hr : Row w1 w.heap.size 1 v' (l ++ [0]).length (bcs (l ++ [0])) := by simpa [bcs] using hrow
  obtain ⟨A, c, rfl, hs⟩ := hr.sl_bytes
  exact ⟨hb1, A, c, rfl, hs⟩

/-- The row of bytes while the number is put, k of them laid. -/
def binRow (d k n : Nat) : List UInt8 := 128 :: (List.replicate (d - k) 0 ++ binL k n)
theorem binRow_step (d k n : Nat) (h : k < d) : (binRow d k n).set (d - k) (UInt8.ofNat (n / 256 ^ k % 256)) = binRow d (k + 1) n := by
  unfold binRow
  obtain ⟨j, hj⟩ : ∃ j, d - k = j + 1 := ⟨d - k - 1, by omega⟩
  have e2 : d - (k + 1) = j := by omega
  rw [hj, e2, List.set_cons_succ, List.replicate_succ', List.append_assoc, List.set_append_right _ _ (by simp)]
  simp [binL]

theorem octal_no_big {n wd : Nat} (w : World) (h1 : n < 9223372036854775808) (hw0 : 2 ≤ wd) (hw1 : wd ≤ 20) (ho : octal n ((wd : Int) - 1) = none) : 8 ^ (wd - 1) ≤ n ∧ True := by
  refine ⟨?_, trivial⟩
  rcases Nat.lt_or_ge n (8 ^ (wd - 1)) with h | h
  · have : octal n ((wd : Int) - 1) = some (octL ((wd : Int) - 1).toNat n) := octal_iff.2 ⟨by omega, by omega, by omega, by rw [show ((wd : Int) - 1).toNat = wd - 1 from by omega]; simpa using h, rfl⟩
    rw [ho] at this; cases this
  · exact h

theorem put_bin {n wd : Nat} (w : World) (h1 : n < 9223372036854775808) (hw0 : 2 ≤ wd) (hw1 : wd ≤ 20) (ho : octal n ((wd : Int) - 1) = none) (o : Option (List UInt8)) (hp : put n wd = o) :
    Calls Tryz.prog 147 #[.int .i64 n, .int .i64 (wd : Int)] w (bytesOr w o) := by
  have Ho := Au.mk ho
  have Hp := Au.mk hp
  clear ho hp
  have hw : width (wd : Int) = true := by simp [width]; omega
  have km := make_bytes etBytes wd (by omega)
  generalize hz : bcs (List.replicate wd 0) = z at km
  have hz0 : z[0]? = some (.int .u8 0) := by
    obtain ⟨j, rfl⟩ : ∃ j, wd = j + 1 := ⟨wd - 1, by omega⟩
    rw [← hz]; simp [bcs, List.replicate_succ]
  have Hz := Au.mk hz
  clear hz
  have c1 : decide ((n : Int) < 0) = false := by simp
  go_enter Tryz.func147, Tryz.ntmps147
  go_wp2_with (first | (go_at_call 143; (with_reducible refine (octal_no Ho.out _ (by omega) (by omega)).mono ?_); rintro e w' ⟨rfl, hb⟩) | (go_at_call 146; (with_reducible refine (width_calls _ _).mono ?_); rintro e w' ⟨rfl, rfl⟩))
  clear km hw c1 hz0
  go_loopw [9, 37] (fun x i wr => ∃ k m : Nat, ∃ cs : List Value, k + 1 ≤ wd ∧ x = .int .i64 (m : Int) ∧ i = .int .i64 k ∧ Au (m = n / 256 ^ k) ∧ Au (cs = bcs (binRow (wd - 1) k n)) ∧ Au (wr.heap[w'.heap.size]? = some (.cells cs.toArray 5 (0, 0))) ∧ Below w.heap.size w wr) (fun _ i _ => wd - (intOf i).toNat)
  case atStart =>
    refine ⟨0, n, z.set 0 (.int .u8 128), by omega, rfl, rfl, ⟨(Nat.div_one n).symm⟩, ⟨?_⟩, ⟨heap_alloc_new _ _⟩, hb.alloc hb.size _⟩
    rw [← Hz.out]
    obtain ⟨j, rfl⟩ : ∃ j, wd = j + 1 := ⟨wd - 1, by omega⟩
    simp [bcs, binRow, binL, List.replicate_succ]
  case round =>
    obtain ⟨k, m, cs, hk, rfl, rfl, Hm, Hcs, Hb0, hb2⟩ := hrel
    have hle : m < 9223372036854775808 := by have := Nat.div_le_self n (256 ^ k); have := Hm.out; omega
    by_cases hlt : k + 1 < wd
    · obtain ⟨v, hv⟩ : ∃ v, cs[wd - 1 - k]? = some v := ⟨_, List.getElem?_eq_getElem (by rw [Hcs.out]; simp [bcs, binRow, binL_length]; omega)⟩
      have q3 := blk_cell Hb0.out (wd - 1 - k) hv
      have q4 := blk_free Hb0.out (wd - 1 - k)
      clear hv
      go_wp2_with fail
      go_roundw
      case rel =>
        refine ⟨k + 1, m / 256, cs.set (wd - 1 - k) (.int .u8 (m % 256)), by omega, by first | rfl | go_num, by go_num, ⟨?_⟩, ⟨?_⟩, ⟨?_⟩, ?_⟩
        · rw [Hm.out, Nat.div_div_eq_div_mul, Nat.pow_succ]
        · rw [Hcs.out, ← binRow_step (wd - 1) k n (by omega), bcs, bcs, List.map_set, ← Hm.out]
          congr 2
          simp
        · exact blk_set Hb0.out _ _
        · exact hb2.setCell hb.size _
      case measure => simp [intOf]; omega
    · have hkd : k = wd - 1 := by omega
      have hlen : cs.length = wd := by rw [Hcs.out]; simp [bcs, binRow, binL_length]; omega
      have hcs2 : cs = bcs (128 :: binL (wd - 1) n) := by rw [Hcs.out, hkd]; simp [binRow]
      have Hcs2 := Au.mk hcs2
      have Hkd := Au.mk hkd
      have Hlen := Au.mk hlen
      clear hlen hcs2 hkd
      have ⟨q1, q2⟩ := octal_no_big w h1 hw0 hw1 Ho.out
      by_cases hz : m < 1
      · go_wp2_with fail
        go_ret2
        refine ⟨hb2, ?_⟩
        have ho : o = some (128 :: binL (wd - 1) n) := by
          rw [← Hp.out, put_iff]
          refine ⟨by omega, by omega, by omega, .inr ⟨?_, ?_, ?_⟩⟩
          · simpa using q1
          · have := Hm.out
            rw [Hkd.out] at this
            have h0 : n / 256 ^ (wd - 1) = 0 := by omega
            have hp : 0 < 256 ^ (wd - 1) := Nat.pow_pos (by decide)
            have := (Nat.div_eq_zero_iff_lt hp).1 h0
            simpa using this
          · simp
        have hll : (128 :: binL (wd - 1) n).length = wd := by simp [binL_length]; omega
        rw [ho]
        simp only [hll]
        refine ⟨_, _, rfl, Sl.of_bytes (by rw [hll]; exact Nat.le_refl _) (by omega) fun W hW => ?_⟩
        rw [← Hcs2.out]
        exact cells_of_blk ((hW _ hb.size (lt_of_block Hb0.out)).trans Hb0.out)
      · have hz' : 0 < m := by omega
        clear hz
        go_wp2_with fail
        go_ret2
        refine ⟨hb2, ?_⟩
        have ho : o = none := by
          rw [← Hp.out]
          cases hq : put n wd with
          | none => rfl
          | some l =>
            obtain ⟨_, _, _, ⟨h, _⟩ | ⟨_, h, _⟩⟩ := put_iff.1 hq
            · exact absurd (by simpa using h) (by simpa using q1)
            · have := Hm.out
              rw [Hkd.out, Nat.div_eq_of_lt (by simpa using h)] at this
              omega
        rw [ho]
        rfl

theorem put_calls (n wide : Int) (w : World) (h0 : -9223372036854775808 ≤ n) (h1 : n < 9223372036854775808) :
    Calls Tryz.prog 147 #[.int .i64 n, .int .i64 wide] w (bytesOr w (put n wide)) := by
  by_cases hn : n < 0
  · have hr : put n wide = none := by unfold put; rw [if_pos (.inl hn)]
    rw [hr]
    clear hr
    go_enter Tryz.func147, Tryz.ntmps147
    go_wp2_with (first | (go_at_call 146; (with_reducible refine (width_calls _ _).mono ?_); rintro e w' ⟨rfl, rfl⟩))
    go_ret2
    exact ⟨Below.refl _ _, rfl⟩
  · by_cases hw : width wide = true
    · have hb : 2 ≤ wide ∧ wide ≤ 20 := by simpa [width] using hw
      obtain ⟨b1, b2⟩ := hb
      cases ho : octal n (wide - 1) with
      | some l =>
        have hr : put n wide = some (l ++ [0]) := by unfold put; rw [if_neg (by simp [hw]; omega), ho]
        rw [hr]
        exact put_octal w (by omega) h1 b1 b2 ho
      | none =>
        obtain ⟨n', rfl⟩ := Int.eq_ofNat_of_zero_le (by omega : 0 ≤ n)
        obtain ⟨wd, rfl⟩ := Int.eq_ofNat_of_zero_le (by omega : 0 ≤ wide)
        exact put_bin w (by omega) (by omega) (by omega) ho _ rfl
    · have hw' : width wide = false := by simpa using hw
      have hr : put n wide = none := by unfold put; rw [if_pos (.inr hw')]
      rw [hr]
      have c1 : decide (n < 0) = false := by simpa using hn
      clear hr hw
      go_enter Tryz.func147, Tryz.ntmps147
      go_wp2_with (first | (go_at_call 146; (with_reducible refine (width_calls _ _).mono ?_); rintro e w' ⟨rfl, rfl⟩))
      go_ret2
      exact ⟨Below.refl _ _, rfl⟩
end Go.Proofs.YtldhcknjpmbgnaaGreatDoor.Rk
/- Walks: num.Get. -/
namespace Go.Proofs.YtldhcknjpmbgnaaGreatDoor.Rk
open Go.RowKit
set_option linter.unusedVariables false
set_option linter.unusedSimpArgs false

/-- (int, bool): a number, or none. -/
def numOr : Option Int → Value
  | some n => .tuple #[.int .i64 n, .bool true]
  | none => .tuple #[.int .i64 0, .bool false]

theorem get_short {l : List UInt8} {A : Option Addr} {c : Nat} {F : Nat → Prop} (w : World) (ha : Sl Kd.byte w F A c l) (hw : width l.length = false) :
    Calls Tryz.prog 100 #[.slice A l.length c] w fun e w' => e = .returned (numOr none) ∧ Below w.heap.size w w' := by
  go_enter Tryz.func100, Tryz.ntmps100
  go_wp2_with (first | (go_at_call 146; (with_reducible refine (width_calls _ _).mono ?_); rintro e w' ⟨rfl, rfl⟩))
  go_ret2
  exact ⟨rfl, Below.refl _ _⟩


theorem wrap64_lo (n : Int) : -9223372036854775808 ≤ wrap64 n ∧ wrap64 n < 9223372036854775808 := by unfold wrap64; omega
theorem get_of_acc {l : List UInt8} (hw : width l.length = true) {n : Int} (h : getN l = some n) : get l = if put n l.length = some l then some n else none := by
  unfold get; rw [if_neg (by simp [hw]), h]
theorem get_of_none {l : List UInt8} (hw : width l.length = true) (h : getN l = none) : get l = none := by
  unfold get; rw [if_neg (by simp [hw]), h]
theorem acc_cons_lt {oct : Bool} {c : UInt8} {l : List UInt8} {n : Int} (h : ¬ ((oct = false ∧ 36028797018963968 ≤ n) ∨ 1152921504606846976 ≤ n)) :
    accW oct (c :: l) n = accW oct l (wrap64 (wrap64 (n * if oct then 8 else 256) + if oct then ((c.toNat : Int) - 48) % 256 else (c.toNat : Int))) := by
  rw [accW, if_neg h]
theorem acc_cons_ge {oct : Bool} {c : UInt8} {l : List UInt8} {n : Int} (h : (oct = false ∧ 36028797018963968 ≤ n) ∨ 1152921504606846976 ≤ n) : accW oct (c :: l) n = none := by
  rw [accW, if_pos h]
theorem wrap64_wrap (a b : Int) : wrap64 (wrap64 a + b) = wrap64 (a + b) := by unfold wrap64; omega

set_option maxHeartbeats 1000000 in
theorem get_oct {l : List UInt8} {A : Option Addr} {c : Nat} {F : Nat → Prop} (w : World) (ha : Sl Kd.byte w F A c l) (hw0 : 2 ≤ l.length) (hw1 : l.length ≤ 20) (hm : l.head? ≠ some 128) (r : Option Int) (ho : get l = r) :
    Calls Tryz.prog 100 #[.slice A l.length c] w fun e w' => e = .returned (numOr r) ∧ Below w.heap.size w w' := by
  have Ho := Au.mk ho
  clear ho
  have hw : width (l.length : Int) = true := by simp [width]; omega
  obtain ⟨b, o, rfl, hcell⟩ := ha.byte_at 0 (by omega)
  have hcap := ha.1
  have hcap2 := ha.2.1
  obtain ⟨x, hx⟩ : ∃ x, x = l[0]'(by omega) := ⟨_, rfl⟩
  rw [← hx, Nat.add_zero] at hcell
  have hne : ((x.toNat : Int) == 128) = false := by
    rw [beq_eq_false_iff_ne]
    intro h
    apply hm
    rw [List.head?_eq_getElem?, List.getElem?_eq_getElem (by omega), ← hx]
    congr 1
    rw [← UInt8.toNat_inj]; simp; omega
  obtain ⟨q, hq⟩ : ∃ q, q = l.dropLast := ⟨_, rfl⟩
  have hqn : getN l = accW true q 0 := by rw [hq]; unfold getN; rw [if_neg hm]
  have hql : q.length = l.length - 1 := by rw [hq]; simp
  have hqc : ∀ k, k < q.length → ∃ y, q[k]? = some y ∧ w.cell? ⟨b, o + k, none⟩ = some (.int .u8 (y.toNat : Int)) := by
    intro k hk
    obtain ⟨b', o', e, h⟩ := ha.byte_at k (by omega)
    cases e
    exact ⟨l[k]'(by omega), by simp [hq, List.dropLast_eq_take, List.getElem?_take, List.getElem?_eq_getElem (show k < l.length by omega)]; omega, h⟩
  have Hx := Au.mk hx
  have Hqn := Au.mk hqn
  have Hql := Au.mk hql
  have Hqc := Au.mk hqc
  have Hw := Au.mk hw
  clear hx hq hqn hql hqc
  have hpos : 0 < l.length := by omega
  go_enter Tryz.func100, Tryz.ntmps100
  go_wp2_with (first | (go_at_call 146; (with_reducible refine (width_calls _ _).mono ?_); rintro e w' ⟨rfl, rfl⟩))
  clear hne hcell hw
  go_loop [4, 9, 30] (fun v _ i => ∃ (k : Nat) (n : Int), k ≤ l.length - 1 ∧ i = .int .i64 k ∧ v = .int .i64 n ∧ -9223372036854775808 ≤ n ∧ n < 9223372036854775808 ∧ Au (accW true (q.drop k) n = accW true q 0)) (fun _ _ i => l.length - (intOf i).toNat)
  case atStart => exact ⟨0, 0, Nat.zero_le _, rfl, rfl, by omega, by omega, ⟨by simp⟩⟩
  case round =>
    obtain ⟨k, n, hk, rfl, rfl, hn0, hn1, Hacc⟩ := hrel
    by_cases hlt : k < l.length - 1
    · obtain ⟨y, hy, hyc⟩ := Hqc.out k (by rw [Hql.out]; exact hlt)
      have hdrop : q.drop k = y :: q.drop (k + 1) := by
        rw [List.drop_eq_getElem_cons (by rw [Hql.out]; exact hlt)]
        congr 1
        rw [List.getElem?_eq_getElem (by rw [Hql.out]; exact hlt)] at hy
        injection hy
      have Hdrop := Au.mk hdrop
      clear hdrop hy
      have hyb := y.toNat_lt
      by_cases hbig : 1152921504606846976 ≤ n
      · have c2 : decide (1152921504606846976 ≤ n) = true := by simpa using hbig
        go_wp2_with fail
        go_ret2
        have hr : r = none := by
          rw [← Ho.out]
          refine get_of_none Hw.out ?_
          rw [Hqn.out, ← Hacc.out, Hdrop.out]
          exact acc_cons_ge (by right; exact hbig)
        refine ⟨?_, Below.refl _ _⟩
        rw [hr]
        rfl
      · have hbig' : n < 1152921504606846976 := by omega
        clear hbig
        go_wp2_with fail
        all_goals
          go_round
          case rel =>
            refine ⟨k + 1, _, by omega, by go_num, rfl, by first | exact (wrap64_lo _).1 | omega, by first | exact (wrap64_lo _).2 | omega, ⟨?_⟩⟩
            rw [← Hacc.out, Hdrop.out, acc_cons_lt (by simp; omega)]
            congr 1
            all_goals try simp only [if_true, Bool.false_eq_true, if_false]
            all_goals try (first | rfl | rw [wrap64_wrap] | (unfold wrap64; omega))
          case measure => simp [intOf]; omega
    · have hkd : k = l.length - 1 := by omega
      have hgn : getN l = some n := by
        rw [Hqn.out, ← Hacc.out, List.drop_of_length_le (by rw [Hql.out]; omega)]
        rfl
      have Hgn := Au.mk hgn
      have hget := get_of_acc Hw.out hgn
      rw [Ho.out] at hget
      clear hkd hgn
      cases hp : put n l.length with
      | none =>
        have hr : r = none := by rw [hget, hp]; simp
        clear hget
        have Hp := Au.mk hp
        clear hp
        go_wp2_with (first | (go_at_call 147; (with_reducible refine (put_calls n (l.length : Int) _ hn0 hn1).mono ?_); rw [Hp.out]; rintro e w' ⟨hb, rfl⟩))
        go_ret2
        refine ⟨?_, hb⟩
        rw [hr]
        rfl
      | some p =>
        have hr : r = if p = l then some n else none := by rw [hget, hp]; simp
        have hpl := put_length hp
        clear hget
        have Hp := Au.mk hp
        have Hr := Au.mk hr
        clear hp hr
        by_cases hpe : p = l
        · have hpe' : (p == l) = true := by simpa using hpe
          have Hpe := Au.mk hpe
          clear hpe
          go_wp2_with (first | (go_at_call 147; (with_reducible refine (put_calls n (l.length : Int) _ hn0 hn1).mono ?_); rw [Hp.out]; rintro e w' ⟨hb, A, c', rfl, hs⟩) | (go_at_call 128; (with_reducible refine (equal_calls p l _ _ _ _ _ _ _ hs (ha.below hb)).mono ?_); rintro e w2 ⟨rfl, ⟨nd, rfl⟩⟩))
          go_ret2
          refine ⟨?_, by first | exact hb | exact below_drewN hb _⟩
          rw [Hr.out, if_pos Hpe.out]
          rfl
        · have hpe' : (p == l) = false := by simpa using hpe
          have Hpe := Au.mk hpe
          clear hpe
          go_wp2_with (first | (go_at_call 147; (with_reducible refine (put_calls n (l.length : Int) _ hn0 hn1).mono ?_); rw [Hp.out]; rintro e w' ⟨hb, A, c', rfl, hs⟩) | (go_at_call 128; (with_reducible refine (equal_calls p l _ _ _ _ _ _ _ hs (ha.below hb)).mono ?_); rintro e w2 ⟨rfl, ⟨nd, rfl⟩⟩))
          go_ret2
          refine ⟨?_, by first | exact hb | exact below_drewN hb _⟩
          rw [Hr.out, if_neg Hpe.out]
          rfl

set_option maxHeartbeats 1000000 in
theorem get_bin {l : List UInt8} {A : Option Addr} {c : Nat} {F : Nat → Prop} (w : World) (ha : Sl Kd.byte w F A c l) (hw0 : 2 ≤ l.length) (hw1 : l.length ≤ 20) (hm : l.head? = some 128) (r : Option Int) (ho : get l = r) :
    Calls Tryz.prog 100 #[.slice A l.length c] w fun e w' => e = .returned (numOr r) ∧ Below w.heap.size w w' := by
  have Ho := Au.mk ho
  clear ho
  have hw : width (l.length : Int) = true := by simp [width]; omega
  obtain ⟨b, o, rfl, hcell⟩ := ha.byte_at 0 (by omega)
  have hcap := ha.1
  have hcap2 := ha.2.1
  obtain ⟨x, hx⟩ : ∃ x, x = l[0]'(by omega) := ⟨_, rfl⟩
  rw [← hx, Nat.add_zero] at hcell
  have hne : ((x.toNat : Int) == 128) = true := by
    rw [beq_iff_eq]
    have h := hm
    rw [List.head?_eq_getElem?, List.getElem?_eq_getElem (by omega), ← hx] at h
    injection h with h
    rw [h]; rfl
  have hc1 : ¬ c = 1 := by omega
  obtain ⟨q, hq⟩ : ∃ q, q = l.tail := ⟨_, rfl⟩
  have hqn : getN l = accW false q 0 := by rw [hq]; unfold getN; rw [if_pos hm]
  have hql : q.length = l.length - 1 := by rw [hq]; simp
  have hqc : ∀ k, k < q.length → ∃ y, q[k]? = some y ∧ w.cell? ⟨b, o + 1 + k, none⟩ = some (.int .u8 (y.toNat : Int)) := by
    intro k hk
    obtain ⟨b', o', e, h⟩ := ha.byte_at (k + 1) (by omega)
    cases e
    exact ⟨l[k + 1]'(by omega), by simp [hq, List.getElem?_tail, List.getElem?_eq_getElem (show k + 1 < l.length by omega)], by rw [show o + 1 + k = o + (k + 1) from by omega]; exact h⟩
  have Hx := Au.mk hx
  have Hqn := Au.mk hqn
  have Hql := Au.mk hql
  have Hqc := Au.mk hqc
  have Hw := Au.mk hw
  clear hx hq hqn hql hqc
  have hpos : 0 < l.length := by omega
  go_enter Tryz.func100, Tryz.ntmps100
  go_wp2_with (first | (go_at_call 146; (with_reducible refine (width_calls _ _).mono ?_); rintro e w' ⟨rfl, rfl⟩))
  clear hne hcell hw
  go_loop [4, 9, 30] (fun v _ i => ∃ (k : Nat) (n : Int), k ≤ l.length - 1 ∧ i = .int .i64 k ∧ v = .int .i64 n ∧ -9223372036854775808 ≤ n ∧ n < 9223372036854775808 ∧ Au (accW false (q.drop k) n = accW false q 0)) (fun _ _ i => l.length - (intOf i).toNat)
  case atStart => exact ⟨0, 0, Nat.zero_le _, rfl, rfl, by omega, by omega, ⟨by simp⟩⟩
  case round =>
    obtain ⟨k, n, hk, rfl, rfl, hn0, hn1, Hacc⟩ := hrel
    by_cases hlt : k < l.length - 1
    · obtain ⟨y, hy, hyc⟩ := Hqc.out k (by rw [Hql.out]; exact hlt)
      have hdrop : q.drop k = y :: q.drop (k + 1) := by
        rw [List.drop_eq_getElem_cons (by rw [Hql.out]; exact hlt)]
        congr 1
        rw [List.getElem?_eq_getElem (by rw [Hql.out]; exact hlt)] at hy
        injection hy
      have Hdrop := Au.mk hdrop
      clear hdrop hy
      have hyb := y.toNat_lt
      by_cases hbig : 36028797018963968 ≤ n
      · have c2 : decide (36028797018963968 ≤ n) = true := by simpa using hbig
        go_wp2_with fail
        go_ret2
        have hr : r = none := by
          rw [← Ho.out]
          refine get_of_none Hw.out ?_
          rw [Hqn.out, ← Hacc.out, Hdrop.out]
          exact acc_cons_ge (by left; exact ⟨rfl, hbig⟩)
        refine ⟨?_, Below.refl _ _⟩
        rw [hr]
        rfl
      · have hbig' : n < 36028797018963968 := by omega
        clear hbig
        go_wp2_with fail
        all_goals
          go_round
          case rel =>
            refine ⟨k + 1, _, by omega, by go_num, rfl, by first | exact (wrap64_lo _).1 | omega, by first | exact (wrap64_lo _).2 | omega, ⟨?_⟩⟩
            rw [← Hacc.out, Hdrop.out, acc_cons_lt (by simp; omega)]
            congr 1
            all_goals try simp only [if_true, Bool.false_eq_true, if_false]
            all_goals try (first | rfl | rw [wrap64_wrap] | (unfold wrap64; omega))
          case measure => simp [intOf]; omega
    · have hkd : k = l.length - 1 := by omega
      have hgn : getN l = some n := by
        rw [Hqn.out, ← Hacc.out, List.drop_of_length_le (by rw [Hql.out]; omega)]
        rfl
      have Hgn := Au.mk hgn
      have hget := get_of_acc Hw.out hgn
      rw [Ho.out] at hget
      clear hkd hgn
      cases hp : put n l.length with
      | none =>
        have hr : r = none := by rw [hget, hp]; simp
        clear hget
        have Hp := Au.mk hp
        clear hp
        go_wp2_with (first | (go_at_call 147; (with_reducible refine (put_calls n (l.length : Int) _ hn0 hn1).mono ?_); rw [Hp.out]; rintro e w' ⟨hb, rfl⟩))
        go_ret2
        refine ⟨?_, hb⟩
        rw [hr]
        rfl
      | some p =>
        have hr : r = if p = l then some n else none := by rw [hget, hp]; simp
        have hpl := put_length hp
        clear hget
        have Hp := Au.mk hp
        have Hr := Au.mk hr
        clear hp hr
        by_cases hpe : p = l
        · have hpe' : (p == l) = true := by simpa using hpe
          have Hpe := Au.mk hpe
          clear hpe
          go_wp2_with (first | (go_at_call 147; (with_reducible refine (put_calls n (l.length : Int) _ hn0 hn1).mono ?_); rw [Hp.out]; rintro e w' ⟨hb, A, c', rfl, hs⟩) | (go_at_call 128; (with_reducible refine (equal_calls p l _ _ _ _ _ _ _ hs (ha.below hb)).mono ?_); rintro e w2 ⟨rfl, ⟨nd, rfl⟩⟩))
          go_ret2
          refine ⟨?_, by first | exact hb | exact below_drewN hb _⟩
          rw [Hr.out, if_pos Hpe.out]
          rfl
        · have hpe' : (p == l) = false := by simpa using hpe
          have Hpe := Au.mk hpe
          clear hpe
          go_wp2_with (first | (go_at_call 147; (with_reducible refine (put_calls n (l.length : Int) _ hn0 hn1).mono ?_); rw [Hp.out]; rintro e w' ⟨hb, A, c', rfl, hs⟩) | (go_at_call 128; (with_reducible refine (equal_calls p l _ _ _ _ _ _ _ hs (ha.below hb)).mono ?_); rintro e w2 ⟨rfl, ⟨nd, rfl⟩⟩))
          go_ret2
          refine ⟨?_, by first | exact hb | exact below_drewN hb _⟩
          rw [Hr.out, if_neg Hpe.out]
          rfl

theorem get_calls {l : List UInt8} {A : Option Addr} {c : Nat} {F : Nat → Prop} (w : World) (ha : Sl Kd.byte w F A c l) :
    Calls Tryz.prog 100 #[.slice A l.length c] w fun e w' => e = .returned (numOr (get l)) ∧ Below w.heap.size w w' := by
  by_cases hw : 2 ≤ l.length ∧ l.length ≤ 20
  · by_cases hm : l.head? = some 128
    · exact get_bin w ha hw.1 hw.2 hm _ rfl
    · exact get_oct w ha hw.1 hw.2 hm _ rfl
  · have hwf : width (l.length : Int) = false := by simp [width]; omega
    have : get l = none := by unfold get; rw [if_pos hwf]
    rw [this]
    exact get_short w ha hwf
end Go.Proofs.YtldhcknjpmbgnaaGreatDoor.Rk
/- num's contracts, answer by answer; the laws' awake. -/
namespace Go.Proofs.YtldhcknjpmbgnaaGreatDoor.Rk
open Go.RowKit
set_option linter.unusedVariables false
set_option linter.unusedSimpArgs false

theorem put_yes {n wide : Int} {l : List UInt8} (h : put n wide = some l) (hn : R64 n) (w : World) :
    Calls Tryz.prog 147 #[.int .i64 n, .int .i64 wide] w fun e w' => ∃ A c, e = .returned (.tuple #[.slice A l.length c, .bool true]) ∧ Sl Kd.byte w' (fun k => w.heap.size ≤ k) A c l ∧ Below w.heap.size w w' := by
  have := put_calls n wide w hn.1 hn.2
  rw [h] at this
  exact this.mono fun e w' ⟨h1, A, c, h2, h3⟩ => ⟨A, c, h2, h3, h1⟩
theorem put_no {n wide : Int} (h : put n wide = none) (hn : R64 n) (w : World) :
    Calls Tryz.prog 147 #[.int .i64 n, .int .i64 wide] w fun e w' => e = .returned (.tuple #[.slice none 0 0, .bool false]) ∧ Below w.heap.size w w' := by
  have := put_calls n wide w hn.1 hn.2
  rw [h] at this
  exact this.mono fun e w' ⟨h1, h2⟩ => ⟨h2, h1⟩
theorem get_yes {l : List UInt8} {n : Int} (h : get l = some n) {A : Option Addr} {c : Nat} {F : Nat → Prop} {w : World} (ha : Sl Kd.byte w F A c l) :
    Calls Tryz.prog 100 #[.slice A l.length c] w fun e w' => e = .returned (.tuple #[.int .i64 n, .bool true]) ∧ Below w.heap.size w w' := by
  have := get_calls w ha
  rw [h] at this; exact this
theorem get_no {l : List UInt8} (h : get l = none) {A : Option Addr} {c : Nat} {F : Nat → Prop} {w : World} (ha : Sl Kd.byte w F A c l) :
    Calls Tryz.prog 100 #[.slice A l.length c] w fun e w' => e = .returned (.tuple #[.int .i64 0, .bool false]) ∧ Below w.heap.size w w' := by
  have := get_calls w ha
  rw [h] at this; exact this
/-- string(b) behind a call. -/
theorem str_of {l : List UInt8} {A : Option Addr} {c : Nat} {F : Nat → Prop} {w : World} (ha : Sl Kd.byte w F A c l) : (convert 46 9 (.slice A l.length c)).run Tryz.prog w = .ok (.string (ofL l)) w :=
  bytes_str Tryz.underlying46 Tryz.underlying5 Tryz.underlying9 ha.bytes _ _ rfl

end Go.Proofs.YtldhcknjpmbgnaaGreatDoor.Rk
/- Walks: the laws of num, first part. -/
namespace Go.Proofs.YtldhcknjpmbgnaaGreatDoor.Rk
open Go.RowKit
set_option linter.unusedVariables false
set_option linter.unusedSimpArgs false

/-- Whether it is put. -/
theorem put_is {n wide : Int} {b : Bool} (h : (put n wide).isSome = b) (hn : R64 n) (w : World) :
    Calls Tryz.prog 147 #[.int .i64 n, .int .i64 wide] w fun e w' => ∃ v, e = .returned (.tuple #[v, .bool b]) ∧ Below w.heap.size w w' := by
  subst h
  cases hp : put n wide with
  | none => exact (put_no hp hn w).mono fun e w' ⟨h1, h2⟩ => ⟨_, h1, h2⟩
  | some l => exact (put_yes hp hn w).mono fun e w' ⟨A, c, h1, _, h2⟩ => ⟨_, h1, h2⟩

theorem wide_law (n wide : Int) (hn : R64 n) (h2 : 2 ≤ wide) (h19 : wide ≤ 19) :
    ((put n wide).isSome = true → (put n (wide + 1)).isSome = true) ∧ (9 ≤ wide → ((put n wide).isSome = true ↔ 0 ≤ n)) ∧ ((put n wide).isSome = true → 0 ≤ n) := by
  have key : ∀ w : Int, 2 ≤ w → w ≤ 20 → ((put n w).isSome = true ↔ 0 ≤ n ∧ n.toNat < 256 ^ (w.toNat - 1)) := by
    intro w h2 h20
    have hle : 8 ^ (w.toNat - 1) ≤ 256 ^ (w.toNat - 1) := Nat.pow_le_pow_left (by decide) _
    constructor
    · intro h
      obtain ⟨l, hl⟩ := Option.isSome_iff_exists.1 h
      obtain ⟨h0, _, _, ⟨h1, _⟩ | ⟨_, h1, _⟩⟩ := put_iff.1 hl
      · exact ⟨h0, by omega⟩
      · exact ⟨h0, h1⟩
    · rintro ⟨h0, h1⟩
      rcases Nat.lt_or_ge n.toNat (8 ^ (w.toNat - 1)) with h | h
      · rw [(put_iff (l := octL (w.toNat - 1) n.toNat ++ [0])).2 ⟨h0, h2, h20, .inl ⟨h, rfl⟩⟩]; rfl
      · rw [(put_iff (l := 128 :: binL (w.toNat - 1) n.toNat)).2 ⟨h0, h2, h20, .inr ⟨h, h1, rfl⟩⟩]; rfl
  refine ⟨?_, ?_, ?_⟩
  · rw [key wide h2 (by omega), key (wide + 1) (by omega) (by omega)]
    rintro ⟨a, b⟩
    refine ⟨a, Nat.lt_of_lt_of_le b (Nat.pow_le_pow_right (by decide) (by omega))⟩
  · intro h9
    rw [key wide h2 (by omega)]
    refine ⟨fun h => h.1, fun h => ⟨h, ?_⟩⟩
    have : 256 ^ 8 ≤ 256 ^ (wide.toNat - 1) := Nat.pow_le_pow_right (by decide) (by omega)
    have := hn.2
    omega
  · rw [key wide h2 (by omega)]; exact fun h => h.1

end Go.Proofs.YtldhcknjpmbgnaaGreatDoor.Rk
/- num's contracts, both answers at once. -/
namespace Go.Proofs.YtldhcknjpmbgnaaGreatDoor.Rk
open Go.RowKit
set_option linter.unusedVariables false
set_option linter.unusedSimpArgs false

theorem put_view {n wide : Int} {p : List UInt8} {b : Bool} (hp : (put n wide).getD [] = p) (hb : (put n wide).isSome = b) (hn : R64 n) (w : World) :
    Calls Tryz.prog 147 #[.int .i64 n, .int .i64 wide] w fun e w' => ∃ A c, e = .returned (.tuple #[.slice A p.length c, .bool b]) ∧ Sl Kd.byte w' (fun k => w.heap.size ≤ k) A c p ∧ Below w.heap.size w w' := by
  subst hp hb
  cases h : put n wide with
  | none => exact (put_no h hn w).mono fun e w' ⟨h1, h2⟩ => ⟨none, 0, h1, Sl.nil _ _ _, h2⟩
  | some l => exact put_yes h hn w
theorem get_view {l : List UInt8} {n : Int} {b : Bool} (hn : (get l).getD 0 = n) (hb : (get l).isSome = b) {A : Option Addr} {c : Nat} {F : Nat → Prop} {w : World} (ha : Sl Kd.byte w F A c l) :
    Calls Tryz.prog 100 #[.slice A l.length c] w fun e w' => e = .returned (.tuple #[.int .i64 n, .bool b]) ∧ Below w.heap.size w w' := by
  subst hn hb
  cases h : get l with
  | none => exact get_no h ha
  | some n => exact get_yes h ha
theorem octal_view {n d : Int} {s : List UInt8} {b : Bool} (hs : (octal n d).getD [] = s) (hb : (octal n d).isSome = b) (hn : R64 n) (w : World) :
    Calls Tryz.prog 143 #[.int .i64 n, .int .i64 d] w fun e w' => e = .returned (.tuple #[.string (ofL s), .bool b]) ∧ Below w.heap.size w w' := by
  subst hs hb
  cases h : octal n d with
  | none => exact octal_no h w hn.1 hn.2
  | some l => exact octal_yes h w hn.1 hn.2
theorem get_R64 (l : List UInt8) : R64 ((get l).getD 0) := by
  cases h : get l with
  | none => exact ⟨by decide, by decide⟩
  | some n =>
    have hacc : ∀ (o : Bool) (l : List UInt8) (a n : Int), R64 a → accW o l a = some n → R64 n := by
      intro o l
      induction l with
      | nil => intro a n ha h; simp [accW] at h; subst h; exact ha
      | cons c l ih =>
        intro a n ha h
        rw [accW] at h
        split at h
        · cases h
        · exact ih _ _ (wrap64_lo _) h
    unfold get at h
    split at h
    · cases h
    · split at h
      · cases h
      · rename_i m hm
        split at h
        · injection h with h
          subst h
          unfold getN at hm
          split at hm
          · exact hacc _ _ _ _ ⟨by decide, by decide⟩ hm
          · exact hacc _ _ _ _ ⟨by decide, by decide⟩ hm
        · cases h

theorem back1 (n wide : Int) (hn : R64 n) {p : List UInt8} {b : Bool} {x : Int} {g : Bool} (hp : (put n wide).getD [] = p) (hb : (put n wide).isSome = b) (hx : (get p).getD 0 = x) (hg : (get p).isSome = g) :
    b = true → g = true ∧ x = n ∧ (p.length : Int) = wide ∧ 0 ≤ n := by
  intro h
  subst hb
  obtain ⟨l, hl⟩ := Option.isSome_iff_exists.1 h
  rw [hl] at hp
  simp at hp
  subst hp
  rw [get_put hn.2 hl] at hx hg
  simp at hx hg
  exact ⟨by simpa using hg.symm, hx.symm, put_length hl, (put_iff.1 hl).1⟩
theorem back2 (n m wide : Int) {p q : List UInt8} {a b : Bool} (hp : (put n wide).getD [] = p) (ha : (put n wide).isSome = a) (hq : (put m wide).getD [] = q) (hb : (put m wide).isSome = b) :
    a = true → b = true → (p = q ↔ n = m) := by
  intro h1 h2
  subst ha hb
  obtain ⟨l, hl⟩ := Option.isSome_iff_exists.1 h1
  obtain ⟨k, hk⟩ := Option.isSome_iff_exists.1 h2
  rw [hl] at hp
  rw [hk] at hq
  simp at hp hq
  subst hp hq
  constructor
  · rintro rfl; exact put_inj hl hk
  · rintro rfl; rw [hl] at hk; injection hk
theorem back3 (b : List UInt8) {y : Int} {g : Bool} {r : List UInt8} {f : Bool} (hy : (get b).getD 0 = y) (hg : (get b).isSome = g) (hr : (put y b.length).getD [] = r) (hf : (put y b.length).isSome = f) :
    (g = false → y = 0) ∧ (g = true → f = true ∧ r = b ∧ 0 ≤ y) := by
  subst hy hg hr hf
  cases h : get b with
  | none => simp
  | some n =>
    have hp := put_of_get h
    simp [hp, (put_iff.1 hp).1]

end Go.Proofs.YtldhcknjpmbgnaaGreatDoor.Rk
