/- The law LabelName, walked. -/
import Derived.Test.YtejalhoaljlnhaaDoorLabM
namespace Go.Proofs.YtejalhoaljlnhaaDoor.Rk
open Go.RowKit
set_option linter.unusedVariables false
set_option linter.unusedSimpArgs false
set_option maxRecDepth 100000

theorem digit_ne {k : Nat} (h0 : 0 < k) (h : k < 10) : UInt8.ofNat (48 + k) ≠ 48 := by
  intro e
  have := congrArg UInt8.toNat e
  rw [digit_byte h] at this
  have h48 : (48 : UInt8).toNat = 48 := rfl
  omega
/-- How many digits, and the first of them. -/
theorem itoa_first {n : Int} (h1 : 1 ≤ n) (h2 : n ≤ 999) : ∃ (c : UInt8) (l : List UInt8), Lib.itoa n = c :: l ∧ c ≠ 48 ∧
    ((l.length = 0 ∧ decide (9 < n) = false ∧ decide (99 < n) = false) ∨ (l.length = 1 ∧ decide (9 < n) = true ∧ decide (99 < n) = false) ∨ (l.length = 2 ∧ decide (9 < n) = true ∧ decide (99 < n) = true)) := by
  rw [itoa_pos h1]
  rcases dec_lt (u := n.toNat) (by omega) with ⟨a, e⟩ | ⟨a, b, e⟩ | ⟨a, e⟩ <;> rw [e]
  · exact ⟨_, _, rfl, digit_ne (by omega) (by omega), .inl ⟨rfl, by simp; omega, by simp; omega⟩⟩
  · exact ⟨_, _, rfl, digit_ne (by omega) (by omega), .inr (.inl ⟨rfl, by simp; omega, by simp; omega⟩)⟩
  · exact ⟨_, _, rfl, digit_ne (by omega) (by omega), .inr (.inr ⟨rfl, by simp; omega, by simp; omega⟩)⟩
set_option maxHeartbeats 4000000 in
theorem LabelName_walk (s : List UInt8) (n : Int) (hs : s.length ≤ maxLen) (hn : R64 n) (w : World) (ht : Tab w) :
    Calls Tryd.prog 7 #[.string (ofL s), .int .i64 n] w fun e w' => e = .returned (.bool true) ∧ Below w.heap.size w w' := by
  have Ht := Au.mk ht
  have hsz : (ofL s).size = s.length := ofL_size s
  clear ht hs
  by_cases hok : s.length ≤ 200
  · have c2 : decide ((200 : Int) < (s.length : Int)) = false := by simp; omega
    have c2n : decide (200 < s.length) = false := by simp; omega
    cases hm : lmay s n with
    | false =>
      have Hm := Au.mk hm
      have Hx : Au ((if lmay s n then lname s n else []) = []) := ⟨by rw [hm]; rfl⟩
      clear hm
      go_enter Tryd.func7, Tryd.ntmps7
      go_wp2_with fail
      refine (awake14_calls _ Ht.out).mono ?_
      rintro e w1 ⟨rfl, b1⟩
      go_wp2_with fail
      refine (lname_calls s n hn Hm.out Hx.out _ (Ht.out.below b1)).mono ?_
      rintro e w2 ⟨rfl, b2⟩
      have e2 := bt b1 b2
      have hem : (ofL []) = ⟨#[]⟩ := rfl
      go_wp2_with fail
      refine (lmay_calls s n Hm.out _).mono ?_
      rintro e w3 ⟨rfl, rfl⟩
      go_wp2_with fail
      go_ret
      exact ⟨ret_true (by simp), e2⟩
    | true =>
      have Hm := Au.mk hm
      obtain ⟨_, _, _, a4, a5⟩ := lmay_iff.1 hm
      obtain ⟨cc, ll, hit, hne, hdig⟩ := itoa_first a4 a5
      have hv : vol.length = 8 := rfl
      obtain ⟨x, hx⟩ : ∃ x, lname s n = x := ⟨_, rfl⟩
      have hxe : x = s ++ (vol ++ Lib.itoa n) := by rw [← hx, lname, List.append_assoc]
      have hxl : x.length = s.length + 8 + (ll.length + 1) := by rw [hxe]; simp only [List.length_append, hv, hit, List.length_cons]; omega
      have hlb := decN_itoa a4 a5
      have Hx : Au ((if lmay s n then lname s n else []) = x) := ⟨by rw [hm, hx]; rfl⟩
      have hx1 : (ofL x).extract 0 s.length = ofL s := by rw [ofL_extract, hxe]; simp
      have hx2 : (ofL x).extract s.length (s.length + 8) = ⟨#[32, 86, 111, 108, 117, 109, 101, 32]⟩ := by
        rw [ofL_extract, hxe, ← List.append_assoc, List.take_append_of_le_length (by simp [hv])]
        rw [List.take_of_length_le (by simp [hv]), List.drop_left]; rfl
      have hdrop : x.drop (s.length + 8) = Lib.itoa n := by
        rw [hxe, ← List.append_assoc, show s.length + 8 = (s ++ vol).length by simp [hv], List.drop_left]
      have Hend : Au (decN (x.drop (s.length + 8)) = n) := ⟨by rw [hdrop]; exact hlb⟩
      have hxz : (ofL x).size = x.length := ofL_size x
      have hq8 : s.length + 8 < x.length := by omega
      have hqz : s.length + 8 < (ofL x).size := by omega
      obtain ⟨y0, hy0⟩ : ∃ y, (ofL x)[s.length + 8] = y := ⟨_, rfl⟩
      have hy48 : ((y0.toNat : Int) != 48) = true := by
        have h1 : x[s.length + 8] = y0 := by rw [← hy0]; rfl
        have h2 : x[s.length + 8]? = some cc := by
          have := congrArg (fun l => l[0]?) hdrop
          simp only [List.getElem?_drop, Nat.add_zero] at this
          rw [this, hit]; rfl
        rw [List.getElem?_eq_getElem hq8] at h2
        have h2 : y0 = cc := by injection h2 with h2; exact h1.symm.trans h2
        rw [bne_iff_ne]
        intro h3
        apply hne
        rw [← h2]
        exact UInt8.toNat_inj.1 (by have h48 : (48 : UInt8).toNat = 48 := rfl; omega)
      have hsl : ∀ W : World, (Instr.slice 9 (.string (ofL x)) (some (.int .i64 (s.length : Int))) (some (.int .i64 ((s.length : Int) + 8))) none).run Tryd.prog W = .ok (.string ⟨#[32, 86, 111, 108, 117, 109, 101, 32]⟩) W := fun W => by
        have := run_slice_string (P := Tryd.prog) W 9 (ofL x) .i64 .i64 (s.length : Int) ((s.length : Int) + 8) Tryd.underlying9 (by omega) (by omega) (by rw [hxz]; omega)
        rw [this, show ((s.length : Int) + 8).toNat = s.length + 8 by omega, Int.toNat_natCast, hx2]
      have Hxl : Au (x.length ≤ s.length + 8 + 3) := ⟨by rcases hdig with ⟨h, _⟩ | ⟨h, _⟩ | ⟨h, _⟩ <;> omega⟩
      obtain ⟨dd, hdd⟩ : ∃ dd, ll.length = dd := ⟨_, rfl⟩
      rw [hdd] at hxl hdig
      clear hlb hdrop hxe hit hne hdd hm hx hv a4 a5
      rcases hdig with ⟨rfl, g1, g2⟩ | ⟨rfl, g1, g2⟩ | ⟨rfl, g1, g2⟩
      all_goals
        go_enter Tryd.func7, Tryd.ntmps7
        go_wp2_with fail
        refine (awake14_calls _ Ht.out).mono ?_
        rintro e w1 ⟨rfl, b1⟩
        go_wp2_with fail
        refine (lname_calls s n hn Hm.out Hx.out _ (Ht.out.below b1)).mono ?_
        rintro e w2 ⟨rfl, b2⟩
        have e2 := bt b1 b2
        clear b1 b2
        go_wp2_with fail
        go_loop [9, 10] (fun nv iv => ∃ (i : Nat) (m : Int), s.length + 8 ≤ i ∧ i ≤ x.length ∧ iv = .int .i64 i ∧ nv = .int .i64 m ∧ -23000 ≤ m ∧ m ≤ 23000 ∧ Au (m = decN ((x.take i).drop (s.length + 8)))) (fun _ iv => x.length - (intOf iv).toNat)
        case atStart =>
          refine ⟨s.length + 8, 0, Nat.le_refl _, by omega, ?_, rfl, by decide, by decide, ⟨?_⟩⟩
          · first | rfl | go_num | (congr 1; omega) | simp
          · rw [List.drop_take]; simp [decN]
        case round =>
          obtain ⟨i, m, hi8, hil, rfl, rfl, hm1, hm2, Hm3⟩ := hrel
          have h3 := Hxl.out
          by_cases hi : i < x.length
          · have hi2 : i < (ofL x).size := by rw [ofL_size]; exact hi
            obtain ⟨y, hy⟩ : ∃ y, (ofL x)[i] = y := ⟨_, rfl⟩
            have hyx : x[i]'hi = y := by rw [← hy]; rfl
            have hyl := y.toNat_lt
            have hnext : (x.take (i + 1)).drop (s.length + 8) = (x.take i).drop (s.length + 8) ++ [y] := by
              rw [List.take_succ_eq_append_getElem hi, hyx, List.drop_append_of_le_length (by rw [List.length_take]; omega)]
            have hm' : decN ((x.take (i + 1)).drop (s.length + 8)) = 10 * m + ((y.toNat : Int) - 48) := by rw [hnext, decN_snoc, Hm3.out]
            have hb3 := decN_le ((x.take (i + 1)).drop (s.length + 8)) (by rw [List.length_drop, List.length_take]; omega)
            rw [hm'] at hb3
            have Hm' := Au.mk hm'
            obtain ⟨hb31, hb32⟩ := hb3
            clear hnext hm' hyx
            go_wp2_with fail
            go_round
            case rel =>
              refine ⟨i + 1, 10 * m + ((y.toNat : Int) - 48), by omega, by omega, by go_num, ?_, hb31, hb32, ⟨Hm'.out.symm⟩⟩
              first | rfl | go_num | (congr 1; omega)
            case measure => simp [intOf]; omega
          · have hmn : m = n := by
              rw [Hm3.out, show i = x.length by omega, List.take_length]; exact Hend.out
            subst hmn
            go_wp2_with fail
            go_ret
            exact ⟨ret_true (by simp [*]), e2⟩
  · have c2 : decide ((200 : Int) < (s.length : Int)) = true := by simp; omega
    have c2n : decide (200 < s.length) = true := by simp; omega
    go_enter Tryd.func7, Tryd.ntmps7
    go_wp2_with fail
    refine (awake14_calls _ Ht.out).mono ?_
    rintro e w1 ⟨rfl, b1⟩
    go_wp2_with fail
    go_ret
    exact ⟨rfl, b1⟩
end Go.Proofs.YtejalhoaljlnhaaDoor.Rk
