/- num's contracts, answer by answer; the laws' awake. -/
import Derived.Test.YtejalhoaljlnhaaNumD
namespace Go.Proofs.Ytejalhoaljlnhaa.Rk
open Go.RowKit
set_option linter.unusedVariables false
set_option linter.unusedSimpArgs false

theorem put_yes {n wide : Int} {l : List UInt8} (h : put n wide = some l) (hn : R64 n) (w : World) :
    Calls Try.prog 20 #[.int .i64 n, .int .i64 wide] w fun e w' => ∃ A c, e = .returned (.tuple #[.slice A l.length c, .bool true]) ∧ Sl Kd.byte w' (fun k => w.heap.size ≤ k) A c l ∧ Below w.heap.size w w' := by
  have := put_calls n wide w hn.1 hn.2
  rw [h] at this
  exact this.mono fun e w' ⟨h1, A, c, h2, h3⟩ => ⟨A, c, h2, h3, h1⟩
theorem put_no {n wide : Int} (h : put n wide = none) (hn : R64 n) (w : World) :
    Calls Try.prog 20 #[.int .i64 n, .int .i64 wide] w fun e w' => e = .returned (.tuple #[.slice none 0 0, .bool false]) ∧ Below w.heap.size w w' := by
  have := put_calls n wide w hn.1 hn.2
  rw [h] at this
  exact this.mono fun e w' ⟨h1, h2⟩ => ⟨h2, h1⟩
theorem get_yes {l : List UInt8} {n : Int} (h : get l = some n) {A : Option Addr} {c : Nat} {F : Nat → Prop} {w : World} (ha : Sl Kd.byte w F A c l) :
    Calls Try.prog 22 #[.slice A l.length c] w fun e w' => e = .returned (.tuple #[.int .i64 n, .bool true]) ∧ Below w.heap.size w w' := by
  have := get_calls w ha
  rw [h] at this; exact this
theorem get_no {l : List UInt8} (h : get l = none) {A : Option Addr} {c : Nat} {F : Nat → Prop} {w : World} (ha : Sl Kd.byte w F A c l) :
    Calls Try.prog 22 #[.slice A l.length c] w fun e w' => e = .returned (.tuple #[.int .i64 0, .bool false]) ∧ Below w.heap.size w w' := by
  have := get_calls w ha
  rw [h] at this; exact this
theorem plain_is {n wide : Int} {b : Bool} (h : plain n wide = b) (hn : R64 n) (w : World) :
    Calls Try.prog 25 #[.int .i64 n, .int .i64 wide] w fun e w' => e = .returned (.bool b) ∧ Below w.heap.size w w' := by
  subst h
  exact plain_calls n wide w hn.1 hn.2
/-- string(b) behind a call. -/
theorem str_of {l : List UInt8} {A : Option Addr} {c : Nat} {F : Nat → Prop} {w : World} (ha : Sl Kd.byte w F A c l) : (convert 22 9 (.slice A l.length c)).run Try.prog w = .ok (.string (ofL l)) w :=
  bytes_str Try.underlying22 Try.underlying5 Try.underlying9 ha.bytes _ _ rfl

theorem awake01_calls (w : World) : Calls Try.prog 17 #[] w fun e w' => e = .returned (.bool true) ∧ Below w.heap.size w w' := by
  have p1 : put 8 4 = some [48, 49, 48, 0] := by decide
  have p2 : put 512 4 = some [128, 0, 2, 0] := by decide
  have p3 : get [128, 0, 2, 0] = some 512 := get_put (by decide) p2
  have p4 : octal 8 3 = some [48, 49, 48] := by decide
  have p5 : plain 8 4 = true := by decide
  have p6 : plain 512 4 = false := by decide
  have P1 := Au.mk p1
  have P2 := Au.mk p2
  have P3 := Au.mk p3
  have P4 := Au.mk p4
  have P5 := Au.mk p5
  have P6 := Au.mk p6
  clear p1 p2 p3 p4 p5 p6
  go_enter Try.func17, Try.ntmps17
  go_wp2_with (fail)
  refine (put_yes P1.out ⟨by decide, by decide⟩ _).mono ?_
  rintro e w1 ⟨A1, c1, rfl, s1, b1⟩
  go_wp2_with (fail)
  refine (put_yes P2.out ⟨by decide, by decide⟩ _).mono ?_
  rintro e w2 ⟨A2, c2, rfl, s2, b2⟩
  go_wp2_with (fail)
  refine (get_yes P3.out s2).mono ?_
  rintro e w3 ⟨rfl, b3⟩
  go_wp2_with (fail)
  refine (octal_yes P4.out _ (by decide) (by decide)).mono ?_
  rintro e w4 ⟨rfl, b4⟩
  have k1 : (convert 22 9 (.slice A1 4 c1)).run Try.prog w4 = _ := str_of ((((s1.below b2)).below b3).below b4)
  have k2 : (convert 22 9 (.slice A2 4 c2)).run Try.prog w4 = _ := str_of ((s2.below b3).below b4)
  go_wp2_with (fail)
  refine (plain_is P5.out ⟨by decide, by decide⟩ _).mono ?_
  rintro e w5 ⟨rfl, b5⟩
  go_wp2_with (fail)
  refine (plain_is P6.out ⟨by decide, by decide⟩ _).mono ?_
  rintro e w6 ⟨rfl, b6⟩
  go_wp2_with (fail)
  go_ret
  refine ⟨rfl, ?_⟩
  exact bt (bt (bt (bt (bt b1 b2) b3) b4) b5) b6
end Go.Proofs.Ytejalhoaljlnhaa.Rk
