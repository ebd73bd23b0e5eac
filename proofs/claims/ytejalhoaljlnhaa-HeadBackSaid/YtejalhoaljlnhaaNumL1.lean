/- Walks: the laws of num, first part. -/
import Derived.Test.YtejalhoaljlnhaaNumE
namespace Go.Proofs.Ytejalhoaljlnhaa.Rk
open Go.RowKit
set_option linter.unusedVariables false
set_option linter.unusedSimpArgs false

/-- Whether it is put. -/
theorem put_is {n wide : Int} {b : Bool} (h : (put n wide).isSome = b) (hn : R64 n) (w : World) :
    Calls Try.prog 20 #[.int .i64 n, .int .i64 wide] w fun e w' => ∃ v, e = .returned (.tuple #[v, .bool b]) ∧ Below w.heap.size w w' := by
  subst h
  cases hp : put n wide with
  | none => exact (put_no hp hn w).mono fun e w' ⟨h1, h2⟩ => ⟨_, h1, h2⟩
  | some l => exact (put_yes hp hn w).mono fun e w' ⟨A, c, h1, _, h2⟩ => ⟨_, h1, h2⟩

theorem wide_law (n wide : Int) (hn : R64 n) (h2 : 2 ≤ wide) (h19 : wide ≤ 19) :
    ((put n wide).isSome = true → (put n (wide + 1)).isSome = true) ∧ (9 ≤ wide → ((put n wide).isSome = true ↔ 0 ≤ n)) ∧ ((put n wide).isSome = true → 0 ≤ n) := by
  have key : ∀ w : Int, 2 ≤ w → w ≤ 20 → ((put n w).isSome = true ↔ 0 ≤ n ∧ n.toNat < 256 ^ (w.toNat - 1)) := by
    intro w h2 h20
    have hle : 8 ^ (w.toNat - 1) ≤ 256 ^ (w.toNat - 1) := Nat.pow_le_pow_left (by decide) _
    constructor
    · intro h
      obtain ⟨l, hl⟩ := Option.isSome_iff_exists.1 h
      obtain ⟨h0, _, _, ⟨h1, _⟩ | ⟨_, h1, _⟩⟩ := put_iff.1 hl
      · exact ⟨h0, by omega⟩
      · exact ⟨h0, h1⟩
    · rintro ⟨h0, h1⟩
      rcases Nat.lt_or_ge n.toNat (8 ^ (w.toNat - 1)) with h | h
      · rw [(put_iff (l := octL (w.toNat - 1) n.toNat ++ [0])).2 ⟨h0, h2, h20, .inl ⟨h, rfl⟩⟩]; rfl
      · rw [(put_iff (l := 128 :: binL (w.toNat - 1) n.toNat)).2 ⟨h0, h2, h20, .inr ⟨h, h1, rfl⟩⟩]; rfl
  refine ⟨?_, ?_, ?_⟩
  · rw [key wide h2 (by omega), key (wide + 1) (by omega) (by omega)]
    rintro ⟨a, b⟩
    refine ⟨a, Nat.lt_of_lt_of_le b (Nat.pow_le_pow_right (by decide) (by omega))⟩
  · intro h9
    rw [key wide h2 (by omega)]
    refine ⟨fun h => h.1, fun h => ⟨h, ?_⟩⟩
    have : 256 ^ 8 ≤ 256 ^ (wide.toNat - 1) := Nat.pow_le_pow_right (by decide) (by omega)
    have := hn.2
    omega
  · rw [key wide h2 (by omega)]; exact fun h => h.1

theorem NumWide_walk (n wide : Int) (hn : R64 n) (hw : R64 wide) (w : World) : Calls Try.prog 5 #[.int .i64 n, .int .i64 wide] w fun e w' => e = .returned (.bool true) ∧ Below w.heap.size w w' := by
  by_cases h2 : 2 ≤ wide
  · by_cases h19 : wide ≤ 19
    · have hL := wide_law n wide hn h2 h19
      generalize hb1 : (put n wide).isSome = b1 at hL
      generalize hb2 : (put n (wide + 1)).isSome = b2 at hL
      have H1 := Au.mk hb1
      have H2 := Au.mk hb2
      have HL := Au.mk hL
      clear hb1 hb2 hL
      go_enter Try.func5, Try.ntmps5
      go_wp2_with (fail)
      refine (awake01_calls _).mono ?_
      rintro e w1 ⟨rfl, c1⟩
      go_wp2_with (fail)
      refine (put_is H1.out hn _).mono ?_
      rintro e w2 ⟨v2, rfl, c2⟩
      go_wp2_with (fail)
      refine (put_is H2.out hn _).mono ?_
      rintro e w3 ⟨v3, rfl, c3⟩
      go_wp2_with (fail)
      all_goals
        go_ret
        refine ⟨ret_true ?_, bt (bt c1 c2) c3⟩
        obtain ⟨a1, a2, a3⟩ := HL.out
        first
          | rfl
          | (simp_all; done)
          | (simp_all; omega)
          | (exfalso; simp_all; omega)
    · go_enter Try.func5, Try.ntmps5
      go_wp2_with (fail)
      refine (awake01_calls _).mono ?_
      rintro e w1 ⟨rfl, c1⟩
      go_wp2_with (fail)
      go_ret
      exact ⟨rfl, c1⟩
  · go_enter Try.func5, Try.ntmps5
    go_wp2_with (fail)
    refine (awake01_calls _).mono ?_
    rintro e w1 ⟨rfl, c1⟩
    go_wp2_with (fail)
    go_ret
    exact ⟨rfl, c1⟩
end Go.Proofs.Ytejalhoaljlnhaa.Rk
