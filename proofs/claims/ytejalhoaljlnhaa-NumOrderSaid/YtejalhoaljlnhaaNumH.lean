/- Walks: NumOrder, NumDigits. -/
import Derived.Test.YtejalhoaljlnhaaNumG
namespace Go.Proofs.Ytejalhoaljlnhaa.Rk
open Go.RowKit
set_option linter.unusedVariables false
set_option linter.unusedSimpArgs false

theorem less_self (l : List UInt8) : (Op.bytesLess l l || l == l) = true := by simp
theorem octL_le (k : Nat) : ∀ n m, n % 8 ^ k ≤ m % 8 ^ k → (Op.bytesLess (octL k n) (octL k m) || octL k n == octL k m) = true := by
  induction k with
  | zero => intro n m _; rfl
  | succ k ih =>
    intro n m h
    rw [Nat.pow_succ, Nat.mod_mul, Nat.mod_mul] at h
    have hp : 0 < 8 ^ k := Nat.pow_pos (by decide)
    have b1 := Nat.mod_lt n hp
    have b2 := Nat.mod_lt m hp
    simp only [octL]
    generalize hd1 : n / 8 ^ k % 8 = d1 at h
    generalize hd2 : m / 8 ^ k % 8 = d2 at h
    have l1 : d1 < 8 := by omega
    have l2 : d2 < 8 := by omega
    rcases Nat.lt_trichotomy d1 d2 with hlt | heq | hgt
    · have : UInt8.ofNat (48 + d1) < UInt8.ofNat (48 + d2) := by
        rw [UInt8.lt_iff_toNat_lt]; simp; omega
      generalize UInt8.ofNat (48 + d1) = x at this ⊢
      generalize UInt8.ofNat (48 + d2) = y at this ⊢
      simp [Op.bytesLess, this]
    · subst heq
      have hih := ih n m (by omega)
      have hn : ¬ UInt8.ofNat (48 + d1) < UInt8.ofNat (48 + d1) := by simp
      simpa [Op.bytesLess] using hih
    · exfalso
      have : 8 ^ k * (d2 + 1) ≤ 8 ^ k * d1 := Nat.mul_le_mul_left _ hgt
      rw [Nat.mul_add] at this
      omega
theorem bytesLess_append_right : ∀ (l m k : List UInt8), l.length = m.length → Op.bytesLess (l ++ k) (m ++ k) = Op.bytesLess l m
  | [], [], k, _ => by simp [bytesLess_irrefl, Op.bytesLess]
  | a :: l, b :: m, k, h => by
    simp only [List.cons_append, Op.bytesLess]
    rw [bytesLess_append_right l m k (by simpa using h)]
theorem order_law {n m wide : Int} (h0 : 0 ≤ n) (h1 : n ≤ m) {p q : List UInt8} {b1 b2 l1 l2 : Bool} (hp : (put n wide).getD [] = p) (hb1 : (put n wide).isSome = b1) (hq : (put m wide).getD [] = q) (hb2 : (put m wide).isSome = b2)
    (hl1 : plain n wide = l1) (hl2 : plain m wide = l2) : (l2 = false ∧ b2 = false) ∨ (l2 = false ∧ b2 = true ∧ b1 = true) ∨ (l2 = true ∧ b2 = true ∧ b1 = true ∧ l1 = true ∧ (Op.bytesLess p q || p == q) = true) := by
  have hb : b2 = true → b1 = true := by
    intro h
    subst hb1 hb2
    obtain ⟨l, hl⟩ := Option.isSome_iff_exists.1 h
    obtain ⟨_, a1, a2, hc⟩ := put_iff.1 hl
    have hle : 8 ^ (wide.toNat - 1) ≤ 256 ^ (wide.toNat - 1) := Nat.pow_le_pow_left (by decide) _
    rcases Nat.lt_or_ge n.toNat (8 ^ (wide.toNat - 1)) with h | h
    · rw [(put_iff (l := octL (wide.toNat - 1) n.toNat ++ [0])).2 ⟨h0, a1, a2, .inl ⟨h, rfl⟩⟩]; rfl
    · rw [(put_iff (l := 128 :: binL (wide.toNat - 1) n.toNat)).2 ⟨h0, a1, a2, .inr ⟨h, by omega, rfl⟩⟩]; rfl
  cases l2 with
  | false =>
    cases b2 with
    | false => exact .inl ⟨rfl, rfl⟩
    | true => exact .inr (.inl ⟨rfl, rfl, hb rfl⟩)
  | true =>
    right; right
    simp only [plain, Bool.and_eq_true] at hl2
    obtain ⟨hw, ho⟩ := hl2
    obtain ⟨l, hl⟩ := Option.isSome_iff_exists.1 ho
    obtain ⟨_, a1, a2, a3, rfl⟩ := octal_iff.1 hl
    have hd : (wide - 1).toNat = wide.toNat - 1 := by omega
    rw [hd] at a3
    have hw' : 2 ≤ wide ∧ wide ≤ 20 := by simpa [width] using hw
    have a4 : n.toNat < 8 ^ (wide.toNat - 1) := Nat.lt_of_le_of_lt (Int.toNat_le_toNat h1) a3
    have hon : octal n (wide - 1) = some (octL (wide.toNat - 1) n.toNat) := octal_iff.2 ⟨h0, a1, a2, by rw [hd]; exact a4, by rw [hd]⟩
    have hpm : put m wide = some (octL (wide.toNat - 1) m.toNat ++ [0]) := put_iff.2 ⟨by omega, by omega, by omega, .inl ⟨a3, rfl⟩⟩
    have hpn : put n wide = some (octL (wide.toNat - 1) n.toNat ++ [0]) := put_iff.2 ⟨by omega, by omega, by omega, .inl ⟨a4, rfl⟩⟩
    rw [hpn] at hp hb1
    rw [hpm] at hq hb2
    simp at hp hb1 hq hb2
    subst hp hq hb1 hb2
    refine ⟨rfl, rfl, rfl, by rw [← hl1]; simp [plain, hw, hon], ?_⟩
    have := octL_le (wide.toNat - 1) n.toNat m.toNat (by rw [Nat.mod_eq_of_lt a4, Nat.mod_eq_of_lt a3]; omega)
    rw [bytesLess_append_right _ _ _ (by rw [octL_length, octL_length])]
    simpa using this

set_option maxHeartbeats 1000000 in
theorem NumOrder_walk (n m wide : Int) (hn : R64 n) (hm : R64 m) (hw : R64 wide) (w : World) : Calls Try.prog 8 #[.int .i64 n, .int .i64 m, .int .i64 wide] w fun e w' => e = .returned (.bool true) ∧ Below w.heap.size w w' := by
  by_cases hnm : 0 ≤ n ∧ n ≤ m
  · obtain ⟨h0, h1⟩ := hnm
    obtain ⟨p, Hp⟩ := au ((put n wide).getD [])
    obtain ⟨b1, Hb1⟩ := au (put n wide).isSome
    obtain ⟨q, Hq⟩ := au ((put m wide).getD [])
    obtain ⟨b2, Hb2⟩ := au (put m wide).isSome
    obtain ⟨l1, Hl1⟩ := au (plain n wide)
    obtain ⟨l2, Hl2⟩ := au (plain m wide)
    have hsplit := order_law h0 h1 Hp.out Hb1.out Hq.out Hb2.out Hl1.out Hl2.out
    rcases hsplit with ⟨rfl, rfl⟩ | ⟨rfl, rfl, rfl⟩ | ⟨rfl, rfl, rfl, rfl, hle⟩
    rotate_right
    · go_enter Try.func8, Try.ntmps8
      go_wp2_with (fail)
      refine (awake01_calls _).mono ?_
      rintro e w1 ⟨rfl, c1⟩
      go_wp2_with (fail)
      refine (put_view Hp.out Hb1.out hn _).mono ?_
      rintro e w2 ⟨A2, k2, rfl, s2, c2⟩
      go_wp2_with (fail)
      refine (put_view Hq.out Hb2.out hm _).mono ?_
      rintro e w3 ⟨A3, k3, rfl, s3, c3⟩
      go_wp2_with (fail)
      refine (plain_is Hl2.out hm _).mono ?_
      rintro e w4 ⟨rfl, c4⟩
      go_wp2_with (fail)
      refine (plain_is Hl1.out hn _).mono ?_
      rintro e w5 ⟨rfl, c5⟩
      have t1 := str_of (((s2.below c3).below c4).below c5)
      have t2 := str_of ((s3.below c4).below c5)
      have Hle := Au.mk hle
      clear hle
      go_wp2_with (fail)
      go_ret
      exact ⟨ret_true (by have := Hle.out; simp_all), bt (bt (bt (bt c1 c2) c3) c4) c5⟩
    all_goals
      go_enter Try.func8, Try.ntmps8
      go_wp2_with (fail)
      refine (awake01_calls _).mono ?_
      rintro e w1 ⟨rfl, c1⟩
      go_wp2_with (fail)
      refine (put_view Hp.out Hb1.out hn _).mono ?_
      rintro e w2 ⟨A2, k2, rfl, s2, c2⟩
      go_wp2_with (fail)
      refine (put_view Hq.out Hb2.out hm _).mono ?_
      rintro e w3 ⟨A3, k3, rfl, s3, c3⟩
      go_wp2_with (fail)
      refine (plain_is Hl2.out hm _).mono ?_
      rintro e w4 ⟨rfl, c4⟩
      go_wp2_with (fail)
      go_ret
      exact ⟨rfl, bt (bt (bt c1 c2) c3) c4⟩
  · have hor : n < 0 ∨ (0 ≤ n ∧ m < n) := by omega
    rcases hor with h2 | ⟨h2, h3⟩
    all_goals
      clear hnm
      go_enter Try.func8, Try.ntmps8
      go_wp2_with (fail)
      refine (awake01_calls _).mono ?_
      rintro e w1 ⟨rfl, c1⟩
      go_wp2_with (fail)
      go_ret
      exact ⟨rfl, c1⟩
end Go.Proofs.Ytejalhoaljlnhaa.Rk
