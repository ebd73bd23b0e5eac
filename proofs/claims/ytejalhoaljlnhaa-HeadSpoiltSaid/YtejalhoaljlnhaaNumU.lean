/- Walks: NumTells. -/
import Derived.Test.YtejalhoaljlnhaaNumT
namespace Go.Proofs.Ytejalhoaljlnhaa.Rk
open Go.RowKit
set_option linter.unusedVariables false
set_option linter.unusedSimpArgs false

theorem rplain_is {n wide : Int} {b : Bool} (h : plain n wide = b) (hn : R64 n) (w : World) :
    Calls Try.prog 24 #[.int .i64 n, .int .i64 wide] w fun e w' => e = .returned (.bool b) ∧ w = w' := by
  subst h
  exact rPlain_calls n wide w hn

set_option maxHeartbeats 1000000 in
theorem NumTells_walk (n wide : Int) (b : List UInt8) {A : Option Addr} {c : Nat} (hn : R64 n) (hw : R64 wide) (w : World) (hs : Sl Kd.byte w (fun _ => True) A c b) :
    Calls Try.prog 3 #[.int .i64 n, .int .i64 wide, .slice A b.length c] w fun e w' => e = .returned (.bool true) ∧ Below w.heap.size w w' := by
  by_cases h60 : b.length ≤ 60
  · obtain ⟨s, Hs⟩ := au ((octal n wide).getD [])
    obtain ⟨b1, Hb1⟩ := au (octal n wide).isSome
    obtain ⟨p, Hp⟩ := au ((put n wide).getD [])
    obtain ⟨b2, Hb2⟩ := au (put n wide).isSome
    obtain ⟨x, Hx⟩ := au ((get b).getD 0)
    obtain ⟨b3, Hb3⟩ := au (get b).isSome
    obtain ⟨b4, Hb4⟩ := au (plain n wide)
    go_enter Try.func3, Try.ntmps3
    go_wp2_with (fail)
    refine (awake01_calls _).mono ?_
    rintro e w1 ⟨rfl, c1⟩
    go_wp2_with (fail)
    refine (octal_view Hs.out Hb1.out hn _).mono ?_
    rintro e w2 ⟨rfl, c2⟩
    go_wp2_with (fail)
    refine (rOctal_view Hs.out Hb1.out hn _).mono ?_
    rintro e w3 ⟨rfl, rfl⟩
    go_wp2_with (fail)
    refine (put_view Hp.out Hb2.out hn _).mono ?_
    rintro e w4 ⟨A4, k4, rfl, s4, c4⟩
    go_wp2_with (fail)
    refine (rput_view Hp.out Hb2.out hn _).mono ?_
    rintro e w5 ⟨A5, k5, rfl, s5, c5⟩
    have s0 := ((((hs.below c1).below c2).below c4).below c5)
    go_wp2_with (fail)
    refine (get_view Hx.out Hb3.out s0).mono ?_
    rintro e w6 ⟨rfl, c6⟩
    go_wp2_with (fail)
    refine (rget_view Hx.out Hb3.out (s0.below c6)).mono ?_
    rintro e w7 ⟨rfl, c7⟩
    go_wp2_with (fail)
    refine (rplain_is Hb4.out hn _).mono ?_
    rintro e w8 ⟨rfl, rfl⟩
    have t1 := str_of (((s4.below c5).below c6).below c7)
    have t2 := str_of ((s5.below c6).below c7)
    go_wp2_with (fail)
    refine (plain_is Hb4.out hn _).mono ?_
    rintro e w9 ⟨rfl, c9⟩
    go_wp2_with (fail)
    go_ret
    exact ⟨ret_true (by simp), bt (bt (bt (bt (bt (bt c1 c2) c4) c5) c6) c7) c9⟩
  · go_enter Try.func3, Try.ntmps3
    go_wp2_with (fail)
    refine (awake01_calls _).mono ?_
    rintro e w1 ⟨rfl, c1⟩
    go_wp2_with (fail)
    go_ret
    exact ⟨rfl, c1⟩
end Go.Proofs.Ytejalhoaljlnhaa.Rk
