/- Labels of volumes: awake, the law LabelTells, walked. -/
import Derived.Test.YtejalhoaljlnhaaDoorLabH
namespace Go.Proofs.YtejalhoaljlnhaaDoor.Rk
open Go.RowKit
set_option linter.unusedVariables false
set_option linter.unusedSimpArgs false
set_option maxRecDepth 100000

def full : List UInt8 := [102, 117, 108, 108]
theorem full_may : lmay full 12 = true := by decide
theorem full_name : lname full 12 = [102, 117, 108, 108, 32, 86, 111, 108, 117, 109, 101, 32, 49, 50] := by
  have : Lib.itoa 12 = [49, 50] := by
    rw [itoa_pos (by decide), show (12 : Int).toNat = 12 from rfl, Lib.decDigits, dif_neg (by decide), Lib.decDigits, dif_pos (by decide)]; rfl
  unfold lname
  rw [this]; rfl
set_option maxHeartbeats 2000000 in
theorem awake14_calls (w : World) (ht : Tab w) : Calls Tryd.prog 9 #[] w fun e w' => e = .returned (.bool true) ∧ Below w.heap.size w w' := by
  have hp := lput_yes full_may
  have hlen := blockOf_length _ (hdL_fits full_may)
  obtain ⟨B, HB⟩ := au (blockOf (hdL full 12))
  rw [HB.out] at hp hlen
  have hg := lget_put hp
  have Hx : Au ((if lmay full 12 then lname full 12 else []) = [102, 117, 108, 108, 32, 86, 111, 108, 117, 109, 101, 32, 49, 50]) := ⟨by rw [if_pos full_may, full_name]⟩
  have Hp : Au ((lput full 12).getD [] = B) := ⟨by rw [hp]; rfl⟩
  have Hb : Au ((lput full 12).isSome = true) := ⟨by rw [hp]; rfl⟩
  have Hg := Au.mk hg
  have Ht := Au.mk ht
  have HL := Au.mk hlen
  have h512 : ((B.length : Int) == 512) = true := by rw [hlen]; rfl
  have R12 : R64 12 := ⟨by decide, by decide⟩
  clear hp hg ht hlen
  go_enter Tryd.func9, Tryd.ntmps9
  go_wp2_with fail
  refine (lname_calls full 12 R12 full_may Hx.out _ Ht.out).mono ?_
  rintro e w1 ⟨rfl, b1⟩
  go_wp2_with fail
  refine (lput_calls full 12 R12 Hp.out Hb.out _ (Ht.out.below b1)).mono ?_
  rintro e w2 ⟨A, c, rfl, s2, b2⟩
  have e2 := bt b1 b2
  go_wp2_with fail
  refine (lget_calls B Hg.out _ s2 (Ht.out.below e2)).mono ?_
  rintro e w3 ⟨rfl, b3⟩
  have e3 := bt e2 b3
  unfold full
  go_wp2_with fail
  refine (lmay_calls full 12 full_may _).mono ?_
  rintro e w4 ⟨rfl, rfl⟩
  go_wp2_with fail
  go_ret
  exact ⟨ret_true (by first | rfl | simp), e3⟩

set_option maxHeartbeats 2000000 in
theorem LabelTells_walk (s : List UInt8) (n : Int) (b : List UInt8) {A : Option Addr} {c : Nat} (hs : s.length ≤ maxLen) (hn : R64 n) (w : World) (ha : Sl Kd.byte w (fun _ => True) A c b) (ht : Tab w) :
    Calls Tryd.prog 3 #[.string (ofL s), .int .i64 n, .slice A b.length c] w fun e w' => e = .returned (.bool true) ∧ Below w.heap.size w w' := by
  have hle := ha.le
  have Ha := Au.mk ha
  have Ht := Au.mk ht
  have hsz : (ofL s).size = s.length := ofL_size s
  clear ha ht hs
  by_cases hok : s.length ≤ 200 ∧ b.length ≤ 600
  · obtain ⟨h2, h6⟩ := hok
    have c2 : decide ((200 : Int) < (s.length : Int)) = false := by simp; omega
    have c2n : decide (200 < s.length) = false := by simp; omega
    have c6 : decide ((600 : Int) < (b.length : Int)) = false := by simp; omega
    have hs1 : s.length ≤ 1000 := by omega
    obtain ⟨m, Hm⟩ := au (lmay s n)
    obtain ⟨x, Hx⟩ := au (if lmay s n then lname s n else [])
    obtain ⟨p, Hp⟩ := au ((lput s n).getD [])
    obtain ⟨bb, Hb⟩ := au (lput s n).isSome
    obtain ⟨l, k, er, hg⟩ : ∃ l k er, lget b = (l, k, er) := ⟨_, _, _, rfl⟩
    have Hg := Au.mk hg
    clear hg h2 h6
    go_enter Tryd.func3, Tryd.ntmps3
    go_wp2_with fail
    refine (awake14_calls _ Ht.out).mono ?_
    rintro e w1 ⟨rfl, b1⟩
    go_wp2_with fail
    refine (lname_calls s n hn Hm.out Hx.out _ (Ht.out.below b1)).mono ?_
    rintro e w2 ⟨rfl, b2⟩
    have e2 := bt b1 b2
    clear b1 b2
    go_wp2_with fail
    refine (rlname_calls s n hs1 hn Hm.out Hx.out _).mono ?_
    rintro e w3 ⟨rfl, rfl⟩
    go_wp2_with fail
    refine (lput_calls s n hn Hp.out Hb.out _ (Ht.out.below e2)).mono ?_
    rintro e w4 ⟨A4, c4, rfl, s4, b4⟩
    have e4 := bt e2 b4
    clear b4 e2
    go_wp2_with fail
    refine (rlput_calls s n hs1 hn Hp.out Hb.out _).mono ?_
    rintro e w5 ⟨A5, c5, rfl, s5, b5⟩
    have e5 := bt e4 b5
    have s4b := s4.below b5
    clear b5 e4 s4
    go_wp2_with fail
    refine (lget_calls b Hg.out _ (Ha.out.below e5) (Ht.out.below e5)).mono ?_
    rintro e w6 ⟨rfl, b6⟩
    have e6 := bt e5 b6
    have s4c := s4b.below b6
    have s5c := s5.below b6
    clear b6 e5 s4b s5
    go_wp2_with fail
    refine (rlget_calls b Hg.out _ (Ha.out.below e6)).mono ?_
    rintro e w7 ⟨rfl, b7⟩
    have e7 := bt e6 b7
    have t1 := str_of (s4c.below b7)
    have t2 := str_of (s5c.below b7)
    clear b7 e6 s4c s5c
    go_wp2_with fail
    refine (rlmay_calls s n hs1 Hm.out _).mono ?_
    rintro e w8 ⟨rfl, rfl⟩
    go_wp2_with fail
    refine (lmay_calls s n Hm.out _).mono ?_
    rintro e w9 ⟨rfl, rfl⟩
    go_wp2_with fail
    go_ret
    exact ⟨ret_true (by simp), e7⟩
  · have hor : (decide ((200 : Int) < (s.length : Int)) = true ∧ decide (200 < s.length) = true) ∨ (decide ((200 : Int) < (s.length : Int)) = false ∧ decide (200 < s.length) = false ∧ decide ((600 : Int) < (b.length : Int)) = true) := by
      simp only [decide_eq_true_eq, decide_eq_false_iff_not]; omega
    clear hok
    rcases hor with ⟨c1, c2⟩ | ⟨c1, c2, c3⟩
    all_goals
      go_enter Tryd.func3, Tryd.ntmps3
      go_wp2_with fail
      refine (awake14_calls _ Ht.out).mono ?_
      rintro e w1 ⟨rfl, b1⟩
      go_wp2_with fail
      go_ret
      exact ⟨rfl, b1⟩
end Go.Proofs.YtejalhoaljlnhaaDoor.Rk
