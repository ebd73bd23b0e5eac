/- Walks: the document's answers for numbers: Put. -/
import Derived.Test.YtejalhoaljlnhaaNumR
namespace Go.Proofs.Ytejalhoaljlnhaa.Rk
open Go.RowKit
set_option linter.unusedVariables false
set_option linter.unusedSimpArgs false

theorem rput_octal {n wide : Int} {l : List UInt8} (w : World) (hn : R64 n) (h0 : 0 ≤ n) (hw0 : 2 ≤ wide) (hw1 : wide ≤ 20) (hs : (octal n (wide - 1)).getD [] = l) (hb : (octal n (wide - 1)).isSome = true) (hll : l.length < 20) :
    Calls Try.prog 21 #[.int .i64 n, .int .i64 wide] w (bytesOr w (some (l ++ [0]))) := by
  have Hs := Au.mk hs
  have Hb := Au.mk hb
  clear hs hb
  have kb := fun W => str_bytes (P := Try.prog) (dst := 22) Try.underlying9 Try.underlying22 Try.underlying5 l W
  go_enter Try.func21, Try.ntmps21
  go_wp2_with (first | (go_at_call 19; (with_reducible refine (rOctal_view Hs.out Hb.out hn _).mono ?_); rintro e w' ⟨rfl, rfl⟩) | (at_builtin; refine wpList_append_row _ rfl etBytes _ _ rfl rfl ((bytesWorld_row _ _ l (by omega) _ (Nat.le_refl _)).alloc _) rfl (cells_new1 _ _ _) rfl (by simp [Value.oneCell']) (by simp only [maxLen]; omega) (by omega) (by simp [Lib.bytesWorld_size]; omega) ?_))
  intro v' w1 hrow hg _
  go_wp2_with fail
  go_ret2
  have hb1 : Below w.heap.size w w1 := (((bytesWorld_below w _ _)).alloc (by simp [Lib.bytesWorld_size]) _).grown hg (by simp [Lib.bytesWorld_size]; omega) (by
    intro k hk; simp [Value.ownBlock] at hk; omega)
  have hr : Row w1 w.heap.size 1 v' (l ++ [0]).length (bcs (l ++ [0])) := by simpa [bcs] using hrow
  obtain ⟨A, c, rfl, hs⟩ := hr.sl_bytes
  exact ⟨hb1, A, c, rfl, hs⟩

theorem rput_bin {n wd : Nat} (w : World) (h1 : n < 9223372036854775808) (hw0 : 2 ≤ wd) (hw1 : wd ≤ 20) (ho : octal n ((wd : Int) - 1) = none) (o : Option (List UInt8)) (hp : put n wd = o) :
    Calls Try.prog 21 #[.int .i64 n, .int .i64 (wd : Int)] w (bytesOr w o) := by
  have Ho := Au.mk ho
  have Hp := Au.mk hp
  have Hs : Au ((octal n ((wd : Int) - 1)).getD [] = []) := ⟨by rw [ho]; rfl⟩
  have Hb : Au ((octal n ((wd : Int) - 1)).isSome = false) := ⟨by rw [ho]; rfl⟩
  clear ho hp
  have c1 : decide ((n : Int) < 0) = false := by simp
  have hn : R64 (n : Int) := ⟨by omega, by omega⟩
  go_enter Try.func21, Try.ntmps21
  go_wp2_with (first | (go_at_call 19; (with_reducible refine (rOctal_view Hs.out Hb.out hn _).mono ?_); rintro e w' ⟨rfl, rfl⟩))
  clear c1
  go_loopw [0, 8, 9] (fun x v i wr => ∃ (k m : Nat) (A : Option Addr) (c : Nat) (l : List UInt8), k + 1 ≤ wd ∧ i = .int .i64 k ∧ x = .int .i64 m ∧ v = .slice A l.length c ∧ Au (m = n / 256 ^ k) ∧ Au (l = binL k n) ∧ Sl Kd.byte wr (fun g => w.heap.size ≤ g) A c l ∧ Below w.heap.size w wr) (fun _ _ i _ => wd - (intOf i).toNat)
  case atStart => exact ⟨0, n, none, 0, [], by omega, rfl, rfl, rfl, ⟨(Nat.div_one n).symm⟩, ⟨rfl⟩, Sl.nil _ _ _, Below.refl _ _⟩
  case round =>
    obtain ⟨k, m, A, c, l, hk, rfl, rfl, rfl, Hm, Hl, hs, hb⟩ := hrel
    have hle : m < 9223372036854775808 := by have := Nat.div_le_self n (256 ^ k); have := Hm.out; omega
    have hll : l.length ≤ 20 := by rw [Hl.out, binL_length]; omega
    by_cases hlt : k + 1 < wd
    · go_wp2_with (first | (at_builtin; refine wpList_append_row _ rfl etBytes _ _ rfl rfl (row_lit1 wr w.heap.size _ _ hb.size) rfl (hs.alloc _).bytes (by simp [bcs]) (bcs_one _) (by simp only [maxLen]; omega) (by omega) (by simp; have := hb.size; omega) ?_))
      intro v' w1 hrow hg _
      go_wp2_with fail
      go_roundw
      case rel =>
        have hb1 : Below w.heap.size w w1 := (hb.alloc hb.size _).grown hg (by simp; have := hb.size; omega) (by intro k hk; simp [Value.ownBlock] at hk; have := hb.size; omega)
        have hr : Row w1 w.heap.size 1 v' (UInt8.ofNat (m % 256) :: l).length (bcs (UInt8.ofNat (m % 256) :: l)) := by
          have e : bcs (UInt8.ofNat (m % 256) :: l) = [Value.int .u8 (m % 256)] ++ bcs l := by simp [bcs]
          rw [e, List.length_cons, Nat.add_comm]
          exact hrow
        obtain ⟨A1, c1, rfl, hs1⟩ := hr.sl_bytes
        refine ⟨k + 1, m / 256, A1, c1, _, by omega, by go_num, by first | rfl | go_num, rfl, ⟨?_⟩, ⟨?_⟩, hs1, hb1⟩
        · rw [Hm.out, Nat.div_div_eq_div_mul, Nat.pow_succ]
        · rw [binL, ← Hl.out, ← Hm.out]
      case measure => simp [intOf]; omega
    · have hkd : k = wd - 1 := by omega
      have Hkd := Au.mk hkd
      clear hkd
      have ⟨q1, _⟩ := octal_no_big w h1 hw0 hw1 Ho.out
      by_cases hz : m < 1
      · go_wp2_with (first | (at_builtin; refine wpList_append_row _ rfl etBytes _ _ rfl rfl (row_lit1 wr w.heap.size _ _ hb.size) rfl (hs.alloc _).bytes (by simp [bcs]) (bcs_one _) (by simp only [maxLen]; omega) (by omega) (by simp; have := hb.size; omega) ?_))
        intro v' w1 hrow hg _
        go_wp2_with fail
        go_ret2
        have hb1 : Below w.heap.size w w1 := (hb.alloc hb.size _).grown hg (by simp; have := hb.size; omega) (by intro k hk; simp [Value.ownBlock] at hk; have := hb.size; omega)
        have ho : o = some (128 :: l) := by
          rw [← Hp.out, put_iff]
          refine ⟨by omega, by omega, by omega, .inr ⟨?_, ?_, ?_⟩⟩
          · simpa using q1
          · have := Hm.out
            rw [Hkd.out] at this
            have h0 : n / 256 ^ (wd - 1) = 0 := by omega
            have hp : 0 < 256 ^ (wd - 1) := Nat.pow_pos (by decide)
            have := (Nat.div_eq_zero_iff_lt hp).1 h0
            simpa using this
          · rw [Hl.out, Hkd.out]; simp
        have hr : Row w1 w.heap.size 1 v' (128 :: l).length (bcs (128 :: l)) := by
          have e : bcs (128 :: l) = [Value.int .u8 128] ++ bcs l := by simp [bcs]
          rw [e, List.length_cons, Nat.add_comm]
          exact hrow
        obtain ⟨A1, c1, rfl, hs1⟩ := hr.sl_bytes
        rw [ho]
        exact ⟨hb1, A1, c1, rfl, hs1⟩
      · have hz' : 0 < m := by omega
        clear hz
        go_wp2_with fail
        go_ret2
        refine ⟨hb, ?_⟩
        have ho : o = none := by
          rw [← Hp.out]
          cases hq : put n wd with
          | none => rfl
          | some l =>
            obtain ⟨_, _, _, ⟨h, _⟩ | ⟨_, h, _⟩⟩ := put_iff.1 hq
            · exact absurd (by simpa using h) (by simpa using q1)
            · have := Hm.out
              rw [Hkd.out, Nat.div_eq_of_lt (by simpa using h)] at this
              omega
        rw [ho]
        rfl

theorem rput_calls (n wide : Int) (w : World) (hn : R64 n) :
    Calls Try.prog 21 #[.int .i64 n, .int .i64 wide] w (bytesOr w (put n wide)) := by
  by_cases hw : 2 ≤ wide ∧ wide ≤ 20 ∧ 0 ≤ n
  · obtain ⟨b1, b2, b3⟩ := hw
    have hw : width wide = true := by simp [width]; omega
    cases ho : octal n (wide - 1) with
    | some l =>
      have hr : put n wide = some (l ++ [0]) := by unfold put; rw [if_neg (by simp [hw]; omega), ho]
      rw [hr]
      exact rput_octal w hn b3 b1 b2 (by rw [ho]; rfl) (by rw [ho]; rfl) (by
        obtain ⟨_, _, _, _, rfl⟩ := octal_iff.1 ho
        rw [octL_length]; omega)
    | none =>
      obtain ⟨n', rfl⟩ := Int.eq_ofNat_of_zero_le b3
      obtain ⟨wd, rfl⟩ := Int.eq_ofNat_of_zero_le (by omega : 0 ≤ wide)
      exact rput_bin w (by have := hn.2; omega) (by omega) (by omega) ho _ rfl
  · have hr : put n wide = none := by unfold put; rw [if_pos (by simp [width]; omega)]
    rw [hr]
    clear hr
    have h3 : wide < 2 ∨ (2 ≤ wide ∧ 20 < wide) ∨ (2 ≤ wide ∧ wide ≤ 20 ∧ n < 0) := by omega
    rcases h3 with h3 | ⟨h3, h4⟩ | ⟨h3, h4, h5⟩
    all_goals
      clear hw
      go_enter Try.func21, Try.ntmps21
      go_wp2_with fail
      go_ret2
      exact ⟨Below.refl _ _, rfl⟩
theorem rput_view {n wide : Int} {p : List UInt8} {b : Bool} (hp : (put n wide).getD [] = p) (hb : (put n wide).isSome = b) (hn : R64 n) (w : World) :
    Calls Try.prog 21 #[.int .i64 n, .int .i64 wide] w fun e w' => ∃ A c, e = .returned (.tuple #[.slice A p.length c, .bool b]) ∧ Sl Kd.byte w' (fun k => w.heap.size ≤ k) A c p ∧ Below w.heap.size w w' := by
  have h0 := rput_calls n wide w hn
  subst hp hb
  cases h : put n wide with
  | none => rw [h] at h0; exact h0.mono fun e w' ⟨h1, h2⟩ => ⟨none, 0, h2, Sl.nil _ _ _, h1⟩
  | some l => rw [h] at h0; exact h0.mono fun e w' ⟨h1, A, c, h2, h3⟩ => ⟨A, c, h2, h3, h1⟩
end Go.Proofs.Ytejalhoaljlnhaa.Rk
