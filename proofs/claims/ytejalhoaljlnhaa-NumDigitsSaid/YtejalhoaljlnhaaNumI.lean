/- Walks: NumDigits. -/
import Derived.Test.YtejalhoaljlnhaaNumG
namespace Go.Proofs.Ytejalhoaljlnhaa.Rk
open Go.RowKit
set_option linter.unusedVariables false
set_option linter.unusedSimpArgs false

theorem digits_law {n d : Int} (h1 : 1 ≤ d) (h2 : d ≤ 19) {s t : List UInt8} {b c : Bool} (hs : (octal n d).getD [] = s) (hb : (octal n d).isSome = b) (ht : (octal n (d + 1)).getD [] = t) (hc : (octal n (d + 1)).isSome = c) :
    (b = true ∧ c = true ∧ t = 48 :: s ∧ (s.length : Int) = d ∧ (∀ x ∈ s, 48 ≤ x.toNat ∧ x.toNat ≤ 55) ∧ plain n (d + 1) = true) ∨
    (b = false ∧ s = [] ∧ (n < 0 ∨ (0 ≤ n ∧ c = false) ∨ (0 ≤ n ∧ c = true ∧ ∃ x r, t = x :: r ∧ x ≠ 48))) := by
  have hd : (d + 1).toNat = d.toNat + 1 := by omega
  subst hs hb ht hc
  cases ho : octal n d with
  | some l =>
    left
    obtain ⟨h0, _, _, h3, rfl⟩ := octal_iff.1 ho
    have hlt : n.toNat < 8 ^ (d.toNat + 1) := Nat.lt_of_lt_of_le h3 (Nat.pow_le_pow_right (by decide) (Nat.le_succ _))
    have h4 : octal n (d + 1) = some (octL (d.toNat + 1) n.toNat) := octal_iff.2 ⟨h0, by omega, by omega, by rw [hd]; exact hlt, by rw [hd]⟩
    have h5 : octL (d.toNat + 1) n.toNat = 48 :: octL d.toNat n.toNat := by
      simp [octL, Nat.div_eq_of_lt h3]
    refine ⟨rfl, by rw [h4]; rfl, by rw [h4, h5]; rfl, by simp [octL_length]; omega, octL_digit _ _, ?_⟩
    have : d + 1 - 1 = d := by omega
    simp [plain, width, this, ho]; omega
  | none =>
    right
    refine ⟨rfl, rfl, ?_⟩
    by_cases h0 : n < 0
    · exact .inl h0
    · right
      cases ht : octal n (d + 1) with
      | none => exact .inl ⟨by omega, rfl⟩
      | some l =>
        right
        obtain ⟨_, _, _, h3, rfl⟩ := octal_iff.1 ht
        rw [hd] at h3 ⊢
        refine ⟨by omega, rfl, _, _, rfl, ?_⟩
        have hge : 8 ^ d.toNat ≤ n.toNat := by
          rcases Nat.lt_or_ge n.toNat (8 ^ d.toNat) with h | h
          · have : octal n d = some (octL d.toNat n.toNat) := octal_iff.2 ⟨by omega, by omega, by omega, h, rfl⟩
            rw [ho] at this; cases this
          · exact h
        have hp : 0 < 8 ^ d.toNat := Nat.pow_pos (by decide)
        have q1 : 1 ≤ n.toNat / 8 ^ d.toNat := (Nat.le_div_iff_mul_le hp).2 (by omega)
        have q2 : n.toNat / 8 ^ d.toNat < 8 := by rw [Nat.div_lt_iff_lt_mul hp, Nat.mul_comm, ← Nat.pow_succ]; exact h3
        intro h
        have := congrArg UInt8.toNat h
        simp at this
        omega

set_option maxHeartbeats 1000000 in
theorem NumDigits_walk (n d : Int) (hn : R64 n) (hd : R64 d) (w : World) : Calls Try.prog 6 #[.int .i64 n, .int .i64 d] w fun e w' => e = .returned (.bool true) ∧ Below w.heap.size w w' := by
  by_cases h1 : 1 ≤ d
  · by_cases h19 : d ≤ 19
    · obtain ⟨s, Hs⟩ := au ((octal n d).getD [])
      obtain ⟨b, Hb⟩ := au (octal n d).isSome
      obtain ⟨t, Ht⟩ := au ((octal n (d + 1)).getD [])
      obtain ⟨c, Hc⟩ := au (octal n (d + 1)).isSome
      rcases digits_law h1 h19 Hs.out Hb.out Ht.out Hc.out with ⟨rfl, rfl, rfl, hl, hx, hp⟩ | ⟨rfl, rfl, hor⟩
      · have Hp := Au.mk hp
        have Hx := Au.mk hx
        have hsz : s.length ≤ 19 := by omega
        have hcat : (⟨#[48]⟩ : ByteArray) ++ ofL s = ofL (48 :: s) := ofL_append [48] s
        have hlen : (ofL s).size = s.length := ofL_size s
        have hsz2 : 1 + (ofL s).size ≤ 9223372036854775807 := by rw [ofL_size]; omega
        clear hp hx
        go_enter Try.func6, Try.ntmps6
        go_wp2_with (fail)
        refine (awake01_calls _).mono ?_
        rintro e w1 ⟨rfl, c1⟩
        go_wp2_with (fail)
        refine (octal_view Hs.out Hb.out hn _).mono ?_
        rintro e w2 ⟨rfl, c2⟩
        go_wp2_with (fail)
        refine (octal_view Ht.out Hc.out hn _).mono ?_
        rintro e w3 ⟨rfl, c3⟩
        go_wp2_with (fail)
        go_loop [10] (fun i => ∃ k : Nat, k ≤ s.length ∧ i = .int .i64 k) (fun i => s.length - (intOf i).toNat)
        case atStart => exact ⟨0, Nat.zero_le _, rfl⟩
        case round =>
          obtain ⟨k, hk, rfl⟩ := hrel
          by_cases hlt : k < s.length
          · have hk2 : k < (ofL s).size := by rw [ofL_size]; exact hlt
            have hxk := Hx.out s[k] (List.getElem_mem hlt)
            obtain ⟨x, hx⟩ : ∃ x, (ofL s)[k] = x := ⟨_, rfl⟩
            have hxs : x = s[k] := by rw [← hx]; rfl
            have hx1 : 48 ≤ x.toNat := by rw [hxs]; exact hxk.1
            have hx2 : x.toNat ≤ 55 := by rw [hxs]; exact hxk.2
            clear hxs hxk
            go_wp2_with (fail)
            go_round
            case rel => exact ⟨k + 1, by omega, by go_num⟩
            case measure => simp [intOf]; omega
          · obtain rfl : k = s.length := by omega
            go_wp2_with (fail)
            refine (plain_is Hp.out hn _).mono ?_
            rintro e w4 ⟨rfl, c4⟩
            go_wp2_with (fail)
            go_ret
            exact ⟨ret_true (by simp [*]), bt (bt (bt c1 c2) c3) c4⟩
      · rcases hor with hn0 | ⟨hn0, rfl⟩ | ⟨hn0, rfl, x, r, rfl, hx⟩
        · have e1 : decide (n < 0) = true := by simpa using hn0
          go_enter Try.func6, Try.ntmps6
          go_wp2_with (fail)
          refine (awake01_calls _).mono ?_
          rintro e w1 ⟨rfl, c1⟩
          go_wp2_with (fail)
          refine (octal_view Hs.out Hb.out hn _).mono ?_
          rintro e w2 ⟨rfl, c2⟩
          go_wp2_with (fail)
          refine (octal_view Ht.out Hc.out hn _).mono ?_
          rintro e w3 ⟨rfl, c3⟩
          go_wp2_with (fail)
          go_ret
          exact ⟨ret_true (by simp [*]), bt (bt c1 c2) c3⟩
        · have e1 : decide (n < 0) = false := by simpa using hn0
          go_enter Try.func6, Try.ntmps6
          go_wp2_with (fail)
          refine (awake01_calls _).mono ?_
          rintro e w1 ⟨rfl, c1⟩
          go_wp2_with (fail)
          refine (octal_view Hs.out Hb.out hn _).mono ?_
          rintro e w2 ⟨rfl, c2⟩
          go_wp2_with (fail)
          refine (octal_view Ht.out Hc.out hn _).mono ?_
          rintro e w3 ⟨rfl, c3⟩
          go_wp2_with (fail)
          go_ret
          exact ⟨ret_true (by simp [*]), bt (bt c1 c2) c3⟩
        · have e1 : decide (n < 0) = false := by simpa using hn0
          have e2 : (x == 48) = false := by simpa using hx
          have e3 : ((x.toNat : Int) == 48) = false := by
            have := byte_beq x 48
            rw [e2] at this; exact this
          have e4 : ((x.toNat : Int) != 48) = true := by rw [bne, e3]; rfl
          have e5 : 0 < (ofL (x :: r)).size := by rw [ofL_size]; simp
          have e6 : (ofL (x :: r))[0] = x := rfl
          have e7 : (x :: r == []) = false := rfl
          go_enter Try.func6, Try.ntmps6
          go_wp2_with (fail)
          refine (awake01_calls _).mono ?_
          rintro e w1 ⟨rfl, c1⟩
          go_wp2_with (fail)
          refine (octal_view Hs.out Hb.out hn _).mono ?_
          rintro e w2 ⟨rfl, c2⟩
          go_wp2_with (fail)
          refine (octal_view Ht.out Hc.out hn _).mono ?_
          rintro e w3 ⟨rfl, c3⟩
          go_wp2_with (fail)
          go_ret
          exact ⟨ret_true (by simp [*]), bt (bt c1 c2) c3⟩
    · have : 1 ≤ d := h1
      go_enter Try.func6, Try.ntmps6
      go_wp2_with (fail)
      refine (awake01_calls _).mono ?_
      rintro e w1 ⟨rfl, c1⟩
      go_wp2_with (fail)
      go_ret
      exact ⟨rfl, c1⟩
  · go_enter Try.func6, Try.ntmps6
    go_wp2_with (fail)
    refine (awake01_calls _).mono ?_
    rintro e w1 ⟨rfl, c1⟩
    go_wp2_with (fail)
    go_ret
    exact ⟨rfl, c1⟩
end Go.Proofs.Ytejalhoaljlnhaa.Rk
