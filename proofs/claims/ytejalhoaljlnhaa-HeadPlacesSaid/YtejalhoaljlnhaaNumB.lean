/- Walks: num.width, slices.Equal of bytes, num.Plain. -/
import Derived.Test.YtejalhoaljlnhaaNumA
namespace Go.Proofs.Ytejalhoaljlnhaa.Rk
open Go.RowKit
set_option linter.unusedVariables false
set_option linter.unusedSimpArgs false

theorem width_calls (n : Int) (w : World) : Calls Try.prog 37 #[.int .i64 n] w fun e w' => e = .returned (.bool (width n)) ∧ w = w' := by
  by_cases h1 : 2 ≤ n
  · by_cases h2 : n ≤ 20
    · have hr : width n = true := by simp [width]; omega
      rw [hr]
      clear hr
      go_enter Try.func37, Try.ntmps37
      go_wp2
      go_ret
      exact ⟨by simp; try omega, rfl⟩
    · have hr : width n = false := by simp [width]; omega
      rw [hr]
      clear hr
      go_enter Try.func37, Try.ntmps37
      go_wp2
      go_ret
      exact ⟨by simp; try omega, rfl⟩
  · have hr : width n = false := by simp [width]; omega
    rw [hr]
    clear hr
    go_enter Try.func37, Try.ntmps37
    go_wp2
    go_ret
    exact ⟨by simp; try omega, rfl⟩

theorem ne_of_at {l m : List UInt8} {k : Nat} (h1 : k < l.length) (h2 : k < m.length) (h : l[k] ≠ m[k]) : (l == m) = false := by
  rw [beq_eq_false_iff_ne]
  rintro rfl
  exact h rfl
theorem byte_beq (a b : UInt8) : ((a.toNat : Int) == (b.toNat : Int)) = (a == b) := by
  rw [Bool.eq_iff_iff, beq_iff_eq, beq_iff_eq, ← UInt8.toNat_inj]; omega

theorem equal_calls (l m : List UInt8) (A B : Option Addr) (c d : Nat) (F G : Nat → Prop) (w : World) (ha : Sl Kd.byte w F A c l) (hb : Sl Kd.byte w G B d m) :
    Calls Try.prog 38 #[.slice A l.length c, .slice B m.length d] w fun e w' => e = .returned (.bool (l == m)) ∧ Drawn w w' := by
  generalize hr : (l == m) = r
  have Hr := Au.mk hr
  clear hr
  by_cases hlen : l.length = m.length
  · have c1 : ((l.length : Int) != (m.length : Int)) = false := by simp [hlen]
    have c1' : (l.length == m.length) = true := by simp [hlen]
    have hle := ha.le
    have Hlen := Au.mk hlen
    clear hlen
    go_enter Try.func38, Try.ntmps38
    go_wp2_with fail
    go_loopw [13] (fun i wr => ∃ k : Nat, k ≤ l.length ∧ i = .int .i64 k ∧ Au (l.take k = m.take k) ∧ Drawn w wr) (fun i _ => l.length - (intOf i).toNat)
    case atStart => exact ⟨0, Nat.zero_le _, rfl, ⟨rfl⟩, Drawn.refl _⟩
    case round =>
      obtain ⟨k, hk, rfl, ht, ⟨nd, rfl⟩⟩ := hrel
      by_cases hlt : k < l.length
      · obtain ⟨a1, a2, rfl, ca⟩ := ha.byte_at k hlt
        obtain ⟨b1, b2, rfl, cb⟩ := hb.byte_at k (Hlen.out ▸ hlt)
        have hlt2 : k < m.length := Hlen.out ▸ hlt
        obtain ⟨x, hx⟩ : ∃ x, x = l[k] := ⟨_, rfl⟩
        obtain ⟨y, hy⟩ : ∃ y, y = m[k] := ⟨_, rfl⟩
        rw [← hx] at ca
        rw [← hy] at cb
        have Hx := Au.mk hx
        have Hy := Au.mk hy
        clear hx hy
        by_cases hxy : x = y
        · have c2 : ((x.toNat : Int) == (y.toNat : Int)) = true := by simp [hxy]
          have c2' : ((x.toNat : Int) != (y.toNat : Int)) = false := by simp [hxy]
          have c2'' : (x.toNat == y.toNat) = true := by simp [hxy]
          have Hxy := Au.mk hxy
          clear hxy
          go_wp2_with fail
          go_quiet (fail)
          go_wp2_with fail
          go_roundw
          case rel =>
            refine ⟨k + 1, by omega, by go_num, ⟨?_⟩, ⟨_, rfl⟩⟩
            rw [List.take_succ_eq_append_getElem hlt, List.take_succ_eq_append_getElem hlt2, ht.out, ← Hx.out, ← Hy.out, Hxy.out]
          case measure => simp [intOf]; omega
        · have c2 : ((x.toNat : Int) == (y.toNat : Int)) = false := by rw [byte_beq]; simpa using hxy
          have c2' : ((x.toNat : Int) != (y.toNat : Int)) = true := by rw [bne, c2]; rfl
          have c2'' : (x.toNat == y.toNat) = false := by simpa [UInt8.toNat_inj] using hxy
          have Hxy := Au.mk hxy
          clear hxy
          have hr2 : r = false := by rw [← Hr.out]; exact ne_of_at hlt hlt2 (by rw [← Hx.out, ← Hy.out]; exact Hxy.out)
          subst hr2
          go_wp2_with fail
          go_quiet (fail)
          go_wp2_with fail
          go_ret
          exact ⟨rfl, by first | exact ⟨_, rfl⟩ | exact (Drawn.step ⟨nd, rfl⟩ _)⟩
      · have hkl : k = l.length := by omega
        have he : (l == m) = true := by
          have := ht.out
          rw [List.take_of_length_le (by omega), List.take_of_length_le (by rw [← Hlen.out]; omega)] at this
          simp [this]
        rw [Hr.out] at he
        subst he
        clear hkl
        go_wp2_with fail
        go_ret
        exact ⟨rfl, ⟨nd, rfl⟩⟩
  · have he : (l == m) = false := by
      rw [beq_eq_false_iff_ne]; rintro rfl; exact hlen rfl
    rw [Hr.out] at he
    subst he
    have c1 : ((l.length : Int) != (m.length : Int)) = true := by simp; omega
    have c1' : (l.length == m.length) = false := by simp [hlen]
    go_enter Try.func38, Try.ntmps38
    go_wp2_with fail
    go_ret
    exact ⟨rfl, Drawn.refl _⟩

theorem strOr_some (l : List UInt8) : strOr (some l) = .tuple #[.string (ofL l), .bool true] := rfl
theorem strOr_none : strOr none = .tuple #[.string ⟨#[]⟩, .bool false] := rfl
theorem octal_yes {n d : Int} {l : List UInt8} (h : octal n d = some l) (w : World) (h0 : -9223372036854775808 ≤ n) (h1 : n < 9223372036854775808) :
    Calls Try.prog 18 #[.int .i64 n, .int .i64 d] w fun e w' => e = .returned (.tuple #[.string (ofL l), .bool true]) ∧ Below w.heap.size w w' := by
  have := octal_calls n d w h0 h1
  rw [h] at this; exact this
theorem octal_no {n d : Int} (h : octal n d = none) (w : World) (h0 : -9223372036854775808 ≤ n) (h1 : n < 9223372036854775808) :
    Calls Try.prog 18 #[.int .i64 n, .int .i64 d] w fun e w' => e = .returned (.tuple #[.string ⟨#[]⟩, .bool false]) ∧ Below w.heap.size w w' := by
  have := octal_calls n d w h0 h1
  rw [h] at this; exact this
/-- Whatever it answers. -/
theorem octal_any (n d : Int) (w : World) (h0 : -9223372036854775808 ≤ n) (h1 : n < 9223372036854775808) :
    Calls Try.prog 18 #[.int .i64 n, .int .i64 d] w fun e w' => ∃ s b, e = .returned (.tuple #[.string s, .bool b]) ∧ Below w.heap.size w w' := by
  refine (octal_calls n d w h0 h1).mono ?_
  rintro e w' ⟨rfl, hb⟩
  cases octal n d with
  | none => exact ⟨_, _, rfl, hb⟩
  | some l => exact ⟨_, _, rfl, hb⟩

theorem plain_calls (n wide : Int) (w : World) (h0 : -9223372036854775808 ≤ n) (h1 : n < 9223372036854775808) :
    Calls Try.prog 25 #[.int .i64 n, .int .i64 wide] w fun e w' => e = .returned (.bool (plain n wide)) ∧ Below w.heap.size w w' := by
  generalize hr : plain n wide = r
  have Hr := Au.mk hr
  clear hr
  by_cases hw : width wide = true
  · have hb : 2 ≤ wide ∧ wide ≤ 20 := by simpa [width] using hw
    obtain ⟨b1, b2⟩ := hb
    cases ho : octal n (wide - 1) with
    | some l =>
      obtain rfl : true = r := by rw [← Hr.out]; simp [plain, hw, ho]
      have Ho := Au.mk ho
      clear ho
      go_enter Try.func25, Try.ntmps25
      go_wp2_with (first | (go_at_call 18; refine (octal_yes Ho.out _ h0 h1).mono ?_; rintro e w' ⟨rfl, hb⟩) | (go_at_call 37; refine (width_calls _ _).mono ?_; rintro e w' ⟨rfl, rfl⟩))
      go_ret
      exact ⟨rfl, hb⟩
    | none =>
      obtain rfl : false = r := by rw [← Hr.out]; simp [plain, hw, ho]
      have Ho := Au.mk ho
      clear ho
      go_enter Try.func25, Try.ntmps25
      go_wp2_with (first | (go_at_call 18; refine (octal_no Ho.out _ h0 h1).mono ?_; rintro e w' ⟨rfl, hb⟩) | (go_at_call 37; refine (width_calls _ _).mono ?_; rintro e w' ⟨rfl, rfl⟩))
      go_ret
      exact ⟨rfl, hb⟩
  · have hw' : width wide = false := by simpa using hw
    obtain rfl : false = r := by rw [← Hr.out]; simp [plain, hw']
    clear hw
    go_enter Try.func25, Try.ntmps25
    go_wp2_with (first | (go_at_call 18; refine (octal_any _ _ _ h0 h1).mono ?_; rintro e w' ⟨s, b, rfl, hb⟩) | (go_at_call 37; refine (width_calls _ _).mono ?_; rintro e w' ⟨rfl, rfl⟩))
    go_ret
    exact ⟨rfl, hb⟩
end Go.Proofs.Ytejalhoaljlnhaa.Rk
