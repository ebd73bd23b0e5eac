/- Walks: the document's answers for numbers: Octal, Plain. -/
import Derived.Test.YtejalhoaljlnhaaNumG
namespace Go.Proofs.Ytejalhoaljlnhaa.Rk
open Go.RowKit
set_option linter.unusedVariables false
set_option linter.unusedSimpArgs false

theorem digit_cut : ∀ a : Nat, a < 8 → (⟨#[48, 49, 50, 51, 52, 53, 54, 55]⟩ : ByteArray).extract a (a + 1) = ofL [UInt8.ofNat (48 + a)] := by
  intro a ha
  have : a = 0 ∨ a = 1 ∨ a = 2 ∨ a = 3 ∨ a = 4 ∨ a = 5 ∨ a = 6 ∨ a = 7 := by omega
  rcases this with rfl | rfl | rfl | rfl | rfl | rfl | rfl | rfl <;> rfl

theorem rOctal_walk (n d : Nat) (w : World) (h1 : n < 9223372036854775808) (hd0 : 1 ≤ d) (hd1 : d ≤ 20) :
    Calls Try.prog 19 #[.int .i64 n, .int .i64 (d : Int)] w fun e w' => e = .returned (strOr (octal n d)) ∧ w = w' := by
  have c1 : decide ((n : Int) < 0) = false := by simp
  have c2 : decide ((d : Int) < 1) = false := by simp; omega
  have c3 : decide ((20 : Int) < d) = false := by simp; omega
  go_enter Try.func19, Try.ntmps19
  go_wp2_with fail
  clear c1 c2 c3
  go_loop [0, 6, 7] (fun x s i => ∃ (k m : Nat) (o : List UInt8), k ≤ d ∧ i = .int .i64 k ∧ x = .int .i64 m ∧ s = .string (ofL o) ∧ Au (m = n / 8 ^ k) ∧ Au (o = octL k n)) (fun _ _ i => d - (intOf i).toNat)
  case atStart => exact ⟨0, n, [], Nat.zero_le _, rfl, rfl, rfl, ⟨(Nat.div_one n).symm⟩, ⟨rfl⟩⟩
  case round =>
    obtain ⟨k, m, o, hk, rfl, rfl, rfl, Hm, Ho⟩ := hrel
    have hle : m < 9223372036854775808 := by have := Nat.div_le_self n (8 ^ k); have := Hm.out; omega
    have hol : o.length ≤ 20 := by rw [Ho.out, octL_length]; omega
    by_cases hlt : k < d
    · obtain ⟨q, Hq⟩ := au (m % 8)
      have hq8 : q < 8 := by rw [← Hq.out]; exact Nat.mod_lt _ (by decide)
      obtain ⟨c, Hc⟩ := au (UInt8.ofNat (48 + q))
      have hcut := digit_cut q hq8
      rw [Hc.out] at hcut
      have hq9 : (q : Int) + 1 ≤ 8 := by omega
      have hq10 : (q : Int) ≤ q + 1 := by omega
      have hsz : (⟨#[48, 49, 50, 51, 52, 53, 54, 55]⟩ : ByteArray).size = 8 := rfl
      have hcat : ofL [c] ++ ofL o = ofL (c :: o) := ofL_append _ _
      have hmq : (m : Int) % 8 = (q : Int) := by have := Hq.out; omega
      have hs1 : (ofL o).size = o.length := ofL_size o
      have hs2 : (ofL [c]).size = 1 := ofL_size _
      go_wp2_with fail
      go_round
      case rel =>
        refine ⟨k + 1, m / 8, c :: o, by omega, by go_num, by first | rfl | go_num, by first | rfl | rw [hcat], ⟨?_⟩, ⟨?_⟩⟩
        · rw [Hm.out, Nat.div_div_eq_div_mul, Nat.pow_succ]
        · rw [octL, ← Ho.out, ← Hm.out, Hq.out, Hc.out]
      case measure => simp [intOf]; omega
    · obtain rfl : k = d := by omega
      by_cases hz : m < 1
      · go_wp2_with fail
        go_ret2
        refine ⟨?_, rfl⟩
        rw [octal_some hd0 hd1 (by rw [← Hm.out]; omega), ← Ho.out]
        rfl
      · have hz' : 0 < m := by omega
        clear hz
        go_wp2_with fail
        go_ret2
        refine ⟨?_, rfl⟩
        rw [octal_none (by rw [← Hm.out]; omega)]
        rfl

theorem rOctal_calls (n d : Int) (w : World) (hn : R64 n) :
    Calls Try.prog 19 #[.int .i64 n, .int .i64 d] w fun e w' => e = .returned (strOr (octal n d)) ∧ w = w' := by
  by_cases h0 : n < 0 ∨ d < 1 ∨ 20 < d
  · have hr : octal n d = none := by unfold octal; rw [if_pos (by omega)]
    rw [hr]
    clear hr
    have h3 : n < 0 ∨ (0 ≤ n ∧ d < 1) ∨ (0 ≤ n ∧ 1 ≤ d ∧ 20 < d) := by omega
    rcases h3 with h3 | ⟨h3, h4⟩ | ⟨h3, h4, h5⟩
    all_goals
      clear h0
      go_enter Try.func19, Try.ntmps19
      go_wp2_with fail
      go_ret2
      exact ⟨rfl, rfl⟩
  · obtain ⟨n', rfl⟩ := Int.eq_ofNat_of_zero_le (by omega : 0 ≤ n)
    obtain ⟨d', rfl⟩ := Int.eq_ofNat_of_zero_le (by omega : 0 ≤ d)
    exact rOctal_walk n' d' w (by have := hn.2; omega) (by omega) (by omega)
/-- (string, bool) as two values. -/
theorem strOr_two (o : Option (List UInt8)) : strOr o = .tuple #[.string (ofL (o.getD [])), .bool o.isSome] := by cases o <;> rfl
theorem rOctal_view {n d : Int} {s : List UInt8} {b : Bool} (hs : (octal n d).getD [] = s) (hb : (octal n d).isSome = b) (hn : R64 n) (w : World) :
    Calls Try.prog 19 #[.int .i64 n, .int .i64 d] w fun e w' => e = .returned (.tuple #[.string (ofL s), .bool b]) ∧ w = w' := by
  have h := rOctal_calls n d w hn
  subst hs hb
  rwa [strOr_two] at h
theorem rPlain_calls (n wide : Int) (w : World) (hn : R64 n) : Calls Try.prog 24 #[.int .i64 n, .int .i64 wide] w fun e w' => e = .returned (.bool (plain n wide)) ∧ w = w' := by
  obtain ⟨r, Hr⟩ := au (plain n wide)
  rw [Hr.out]
  by_cases h0 : 2 ≤ wide ∧ wide ≤ 20
  · obtain ⟨h1, h2⟩ := h0
    obtain ⟨s, Hs⟩ := au ((octal n (wide - 1)).getD [])
    obtain ⟨b, Hb⟩ := au (octal n (wide - 1)).isSome
    obtain rfl : b = r := by rw [← Hr.out, ← Hb.out]; simp [plain, width, h1, h2]
    go_enter Try.func24, Try.ntmps24
    go_wp2_with fail
    refine (rOctal_view Hs.out Hb.out hn _).mono ?_
    rintro e w1 ⟨rfl, rfl⟩
    go_wp2_with fail
    go_ret
    exact ⟨rfl, rfl⟩
  · obtain rfl : false = r := by rw [← Hr.out]; simp [plain, width]; intro a b; omega
    have h3 : wide < 2 ∨ (2 ≤ wide ∧ 20 < wide) := by omega
    rcases h3 with h3 | ⟨h3, h4⟩
    all_goals
      clear h0
      go_enter Try.func24, Try.ntmps24
      go_wp2_with fail
      go_ret
      exact ⟨rfl, rfl⟩
end Go.Proofs.Ytejalhoaljlnhaa.Rk
