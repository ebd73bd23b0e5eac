/- Walks: num.Get. -/
import Derived.Test.YtejalhoaljlnhaaNumC
namespace Go.Proofs.Ytejalhoaljlnhaa.Rk
open Go.RowKit
set_option linter.unusedVariables false
set_option linter.unusedSimpArgs false

/-- (int, bool): a number, or none. -/
def numOr : Option Int → Value
  | some n => .tuple #[.int .i64 n, .bool true]
  | none => .tuple #[.int .i64 0, .bool false]

theorem get_short {l : List UInt8} {A : Option Addr} {c : Nat} {F : Nat → Prop} (w : World) (ha : Sl Kd.byte w F A c l) (hw : width l.length = false) :
    Calls Try.prog 22 #[.slice A l.length c] w fun e w' => e = .returned (numOr none) ∧ Below w.heap.size w w' := by
  go_enter Try.func22, Try.ntmps22
  go_wp2_with (first | (go_at_call 37; (with_reducible refine (width_calls _ _).mono ?_); rintro e w' ⟨rfl, rfl⟩))
  go_ret2
  exact ⟨rfl, Below.refl _ _⟩


theorem wrap64_lo (n : Int) : -9223372036854775808 ≤ wrap64 n ∧ wrap64 n < 9223372036854775808 := by unfold wrap64; omega
theorem get_of_acc {l : List UInt8} (hw : width l.length = true) {n : Int} (h : getN l = some n) : get l = if put n l.length = some l then some n else none := by
  unfold get; rw [if_neg (by simp [hw]), h]
theorem get_of_none {l : List UInt8} (hw : width l.length = true) (h : getN l = none) : get l = none := by
  unfold get; rw [if_neg (by simp [hw]), h]
theorem acc_cons_lt {oct : Bool} {c : UInt8} {l : List UInt8} {n : Int} (h : ¬ ((oct = false ∧ 36028797018963968 ≤ n) ∨ 1152921504606846976 ≤ n)) :
    accW oct (c :: l) n = accW oct l (wrap64 (wrap64 (n * if oct then 8 else 256) + if oct then ((c.toNat : Int) - 48) % 256 else (c.toNat : Int))) := by
  rw [accW, if_neg h]
theorem acc_cons_ge {oct : Bool} {c : UInt8} {l : List UInt8} {n : Int} (h : (oct = false ∧ 36028797018963968 ≤ n) ∨ 1152921504606846976 ≤ n) : accW oct (c :: l) n = none := by
  rw [accW, if_pos h]
theorem wrap64_wrap (a b : Int) : wrap64 (wrap64 a + b) = wrap64 (a + b) := by unfold wrap64; omega

set_option maxHeartbeats 1000000 in
theorem get_oct {l : List UInt8} {A : Option Addr} {c : Nat} {F : Nat → Prop} (w : World) (ha : Sl Kd.byte w F A c l) (hw0 : 2 ≤ l.length) (hw1 : l.length ≤ 20) (hm : l.head? ≠ some 128) (r : Option Int) (ho : get l = r) :
    Calls Try.prog 22 #[.slice A l.length c] w fun e w' => e = .returned (numOr r) ∧ Below w.heap.size w w' := by
  have Ho := Au.mk ho
  clear ho
  have hw : width (l.length : Int) = true := by simp [width]; omega
  obtain ⟨b, o, rfl, hcell⟩ := ha.byte_at 0 (by omega)
  have hcap := ha.1
  have hcap2 := ha.2.1
  obtain ⟨x, hx⟩ : ∃ x, x = l[0]'(by omega) := ⟨_, rfl⟩
  rw [← hx, Nat.add_zero] at hcell
  have hne : ((x.toNat : Int) == 128) = false := by
    rw [beq_eq_false_iff_ne]
    intro h
    apply hm
    rw [List.head?_eq_getElem?, List.getElem?_eq_getElem (by omega), ← hx]
    congr 1
    rw [← UInt8.toNat_inj]; simp; omega
  obtain ⟨q, hq⟩ : ∃ q, q = l.dropLast := ⟨_, rfl⟩
  have hqn : getN l = accW true q 0 := by rw [hq]; unfold getN; rw [if_neg hm]
  have hql : q.length = l.length - 1 := by rw [hq]; simp
  have hqc : ∀ k, k < q.length → ∃ y, q[k]? = some y ∧ w.cell? ⟨b, o + k, none⟩ = some (.int .u8 (y.toNat : Int)) := by
    intro k hk
    obtain ⟨b', o', e, h⟩ := ha.byte_at k (by omega)
    cases e
    exact ⟨l[k]'(by omega), by simp [hq, List.dropLast_eq_take, List.getElem?_take, List.getElem?_eq_getElem (show k < l.length by omega)]; omega, h⟩
  have Hx := Au.mk hx
  have Hqn := Au.mk hqn
  have Hql := Au.mk hql
  have Hqc := Au.mk hqc
  have Hw := Au.mk hw
  clear hx hq hqn hql hqc
  have hpos : 0 < l.length := by omega
  go_enter Try.func22, Try.ntmps22
  go_wp2_with (first | (go_at_call 37; (with_reducible refine (width_calls _ _).mono ?_); rintro e w' ⟨rfl, rfl⟩))
  clear hne hcell hw
  go_loop [4, 9, 30] (fun v _ i => ∃ (k : Nat) (n : Int), k ≤ l.length - 1 ∧ i = .int .i64 k ∧ v = .int .i64 n ∧ -9223372036854775808 ≤ n ∧ n < 9223372036854775808 ∧ Au (accW true (q.drop k) n = accW true q 0)) (fun _ _ i => l.length - (intOf i).toNat)
  case atStart => exact ⟨0, 0, Nat.zero_le _, rfl, rfl, by omega, by omega, ⟨by simp⟩⟩
  case round =>
    obtain ⟨k, n, hk, rfl, rfl, hn0, hn1, Hacc⟩ := hrel
    by_cases hlt : k < l.length - 1
    · obtain ⟨y, hy, hyc⟩ := Hqc.out k (by rw [Hql.out]; exact hlt)
      have hdrop : q.drop k = y :: q.drop (k + 1) := by
        rw [List.drop_eq_getElem_cons (by rw [Hql.out]; exact hlt)]
        congr 1
        rw [List.getElem?_eq_getElem (by rw [Hql.out]; exact hlt)] at hy
        injection hy
      have Hdrop := Au.mk hdrop
      clear hdrop hy
      have hyb := y.toNat_lt
      by_cases hbig : 1152921504606846976 ≤ n
      · have c2 : decide (1152921504606846976 ≤ n) = true := by simpa using hbig
        go_wp2_with fail
        go_ret2
        have hr : r = none := by
          rw [← Ho.out]
          refine get_of_none Hw.out ?_
          rw [Hqn.out, ← Hacc.out, Hdrop.out]
          exact acc_cons_ge (by right; exact hbig)
        refine ⟨?_, Below.refl _ _⟩
        rw [hr]
        rfl
      · have hbig' : n < 1152921504606846976 := by omega
        clear hbig
        go_wp2_with fail
        all_goals
          go_round
          case rel =>
            refine ⟨k + 1, _, by omega, by go_num, rfl, by first | exact (wrap64_lo _).1 | omega, by first | exact (wrap64_lo _).2 | omega, ⟨?_⟩⟩
            rw [← Hacc.out, Hdrop.out, acc_cons_lt (by simp; omega)]
            congr 1
            all_goals try simp only [if_true, Bool.false_eq_true, if_false]
            all_goals try (first | rfl | rw [wrap64_wrap] | (unfold wrap64; omega))
          case measure => simp [intOf]; omega
    · have hkd : k = l.length - 1 := by omega
      have hgn : getN l = some n := by
        rw [Hqn.out, ← Hacc.out, List.drop_of_length_le (by rw [Hql.out]; omega)]
        rfl
      have Hgn := Au.mk hgn
      have hget := get_of_acc Hw.out hgn
      rw [Ho.out] at hget
      clear hkd hgn
      cases hp : put n l.length with
      | none =>
        have hr : r = none := by rw [hget, hp]; simp
        clear hget
        have Hp := Au.mk hp
        clear hp
        go_wp2_with (first | (go_at_call 20; (with_reducible refine (put_calls n (l.length : Int) _ hn0 hn1).mono ?_); rw [Hp.out]; rintro e w' ⟨hb, rfl⟩))
        go_ret2
        refine ⟨?_, hb⟩
        rw [hr]
        rfl
      | some p =>
        have hr : r = if p = l then some n else none := by rw [hget, hp]; simp
        have hpl := put_length hp
        clear hget
        have Hp := Au.mk hp
        have Hr := Au.mk hr
        clear hp hr
        by_cases hpe : p = l
        · have hpe' : (p == l) = true := by simpa using hpe
          have Hpe := Au.mk hpe
          clear hpe
          go_wp2_with (first | (go_at_call 20; (with_reducible refine (put_calls n (l.length : Int) _ hn0 hn1).mono ?_); rw [Hp.out]; rintro e w' ⟨hb, A, c', rfl, hs⟩) | (go_at_call 38; (with_reducible refine (equal_calls p l _ _ _ _ _ _ _ hs (ha.below hb)).mono ?_); rintro e w2 ⟨rfl, ⟨nd, rfl⟩⟩))
          go_ret2
          refine ⟨?_, by first | exact hb | exact below_drewN hb _⟩
          rw [Hr.out, if_pos Hpe.out]
          rfl
        · have hpe' : (p == l) = false := by simpa using hpe
          have Hpe := Au.mk hpe
          clear hpe
          go_wp2_with (first | (go_at_call 20; (with_reducible refine (put_calls n (l.length : Int) _ hn0 hn1).mono ?_); rw [Hp.out]; rintro e w' ⟨hb, A, c', rfl, hs⟩) | (go_at_call 38; (with_reducible refine (equal_calls p l _ _ _ _ _ _ _ hs (ha.below hb)).mono ?_); rintro e w2 ⟨rfl, ⟨nd, rfl⟩⟩))
          go_ret2
          refine ⟨?_, by first | exact hb | exact below_drewN hb _⟩
          rw [Hr.out, if_neg Hpe.out]
          rfl

set_option maxHeartbeats 1000000 in
theorem get_bin {l : List UInt8} {A : Option Addr} {c : Nat} {F : Nat → Prop} (w : World) (ha : Sl Kd.byte w F A c l) (hw0 : 2 ≤ l.length) (hw1 : l.length ≤ 20) (hm : l.head? = some 128) (r : Option Int) (ho : get l = r) :
    Calls Try.prog 22 #[.slice A l.length c] w fun e w' => e = .returned (numOr r) ∧ Below w.heap.size w w' := by
  have Ho := Au.mk ho
  clear ho
  have hw : width (l.length : Int) = true := by simp [width]; omega
  obtain ⟨b, o, rfl, hcell⟩ := ha.byte_at 0 (by omega)
  have hcap := ha.1
  have hcap2 := ha.2.1
  obtain ⟨x, hx⟩ : ∃ x, x = l[0]'(by omega) := ⟨_, rfl⟩
  rw [← hx, Nat.add_zero] at hcell
  have hne : ((x.toNat : Int) == 128) = true := by
    rw [beq_iff_eq]
    have h := hm
    rw [List.head?_eq_getElem?, List.getElem?_eq_getElem (by omega), ← hx] at h
    injection h with h
    rw [h]; rfl
  have hc1 : ¬ c = 1 := by omega
  obtain ⟨q, hq⟩ : ∃ q, q = l.tail := ⟨_, rfl⟩
  have hqn : getN l = accW false q 0 := by rw [hq]; unfold getN; rw [if_pos hm]
  have hql : q.length = l.length - 1 := by rw [hq]; simp
  have hqc : ∀ k, k < q.length → ∃ y, q[k]? = some y ∧ w.cell? ⟨b, o + 1 + k, none⟩ = some (.int .u8 (y.toNat : Int)) := by
    intro k hk
    obtain ⟨b', o', e, h⟩ := ha.byte_at (k + 1) (by omega)
    cases e
    exact ⟨l[k + 1]'(by omega), by simp [hq, List.getElem?_tail, List.getElem?_eq_getElem (show k + 1 < l.length by omega)], by rw [show o + 1 + k = o + (k + 1) from by omega]; exact h⟩
  have Hx := Au.mk hx
  have Hqn := Au.mk hqn
  have Hql := Au.mk hql
  have Hqc := Au.mk hqc
  have Hw := Au.mk hw
  clear hx hq hqn hql hqc
  have hpos : 0 < l.length := by omega
  go_enter Try.func22, Try.ntmps22
  go_wp2_with (first | (go_at_call 37; (with_reducible refine (width_calls _ _).mono ?_); rintro e w' ⟨rfl, rfl⟩))
  clear hne hcell hw
  go_loop [4, 9, 30] (fun v _ i => ∃ (k : Nat) (n : Int), k ≤ l.length - 1 ∧ i = .int .i64 k ∧ v = .int .i64 n ∧ -9223372036854775808 ≤ n ∧ n < 9223372036854775808 ∧ Au (accW false (q.drop k) n = accW false q 0)) (fun _ _ i => l.length - (intOf i).toNat)
  case atStart => exact ⟨0, 0, Nat.zero_le _, rfl, rfl, by omega, by omega, ⟨by simp⟩⟩
  case round =>
    obtain ⟨k, n, hk, rfl, rfl, hn0, hn1, Hacc⟩ := hrel
    by_cases hlt : k < l.length - 1
    · obtain ⟨y, hy, hyc⟩ := Hqc.out k (by rw [Hql.out]; exact hlt)
      have hdrop : q.drop k = y :: q.drop (k + 1) := by
        rw [List.drop_eq_getElem_cons (by rw [Hql.out]; exact hlt)]
        congr 1
        rw [List.getElem?_eq_getElem (by rw [Hql.out]; exact hlt)] at hy
        injection hy
      have Hdrop := Au.mk hdrop
      clear hdrop hy
      have hyb := y.toNat_lt
      by_cases hbig : 36028797018963968 ≤ n
      · have c2 : decide (36028797018963968 ≤ n) = true := by simpa using hbig
        go_wp2_with fail
        go_ret2
        have hr : r = none := by
          rw [← Ho.out]
          refine get_of_none Hw.out ?_
          rw [Hqn.out, ← Hacc.out, Hdrop.out]
          exact acc_cons_ge (by left; exact ⟨rfl, hbig⟩)
        refine ⟨?_, Below.refl _ _⟩
        rw [hr]
        rfl
      · have hbig' : n < 36028797018963968 := by omega
        clear hbig
        go_wp2_with fail
        all_goals
          go_round
          case rel =>
            refine ⟨k + 1, _, by omega, by go_num, rfl, by first | exact (wrap64_lo _).1 | omega, by first | exact (wrap64_lo _).2 | omega, ⟨?_⟩⟩
            rw [← Hacc.out, Hdrop.out, acc_cons_lt (by simp; omega)]
            congr 1
            all_goals try simp only [if_true, Bool.false_eq_true, if_false]
            all_goals try (first | rfl | rw [wrap64_wrap] | (unfold wrap64; omega))
          case measure => simp [intOf]; omega
    · have hkd : k = l.length - 1 := by omega
      have hgn : getN l = some n := by
        rw [Hqn.out, ← Hacc.out, List.drop_of_length_le (by rw [Hql.out]; omega)]
        rfl
      have Hgn := Au.mk hgn
      have hget := get_of_acc Hw.out hgn
      rw [Ho.out] at hget
      clear hkd hgn
      cases hp : put n l.length with
      | none =>
        have hr : r = none := by rw [hget, hp]; simp
        clear hget
        have Hp := Au.mk hp
        clear hp
        go_wp2_with (first | (go_at_call 20; (with_reducible refine (put_calls n (l.length : Int) _ hn0 hn1).mono ?_); rw [Hp.out]; rintro e w' ⟨hb, rfl⟩))
        go_ret2
        refine ⟨?_, hb⟩
        rw [hr]
        rfl
      | some p =>
        have hr : r = if p = l then some n else none := by rw [hget, hp]; simp
        have hpl := put_length hp
        clear hget
        have Hp := Au.mk hp
        have Hr := Au.mk hr
        clear hp hr
        by_cases hpe : p = l
        · have hpe' : (p == l) = true := by simpa using hpe
          have Hpe := Au.mk hpe
          clear hpe
          go_wp2_with (first | (go_at_call 20; (with_reducible refine (put_calls n (l.length : Int) _ hn0 hn1).mono ?_); rw [Hp.out]; rintro e w' ⟨hb, A, c', rfl, hs⟩) | (go_at_call 38; (with_reducible refine (equal_calls p l _ _ _ _ _ _ _ hs (ha.below hb)).mono ?_); rintro e w2 ⟨rfl, ⟨nd, rfl⟩⟩))
          go_ret2
          refine ⟨?_, by first | exact hb | exact below_drewN hb _⟩
          rw [Hr.out, if_pos Hpe.out]
          rfl
        · have hpe' : (p == l) = false := by simpa using hpe
          have Hpe := Au.mk hpe
          clear hpe
          go_wp2_with (first | (go_at_call 20; (with_reducible refine (put_calls n (l.length : Int) _ hn0 hn1).mono ?_); rw [Hp.out]; rintro e w' ⟨hb, A, c', rfl, hs⟩) | (go_at_call 38; (with_reducible refine (equal_calls p l _ _ _ _ _ _ _ hs (ha.below hb)).mono ?_); rintro e w2 ⟨rfl, ⟨nd, rfl⟩⟩))
          go_ret2
          refine ⟨?_, by first | exact hb | exact below_drewN hb _⟩
          rw [Hr.out, if_neg Hpe.out]
          rfl

theorem get_calls {l : List UInt8} {A : Option Addr} {c : Nat} {F : Nat → Prop} (w : World) (ha : Sl Kd.byte w F A c l) :
    Calls Try.prog 22 #[.slice A l.length c] w fun e w' => e = .returned (numOr (get l)) ∧ Below w.heap.size w w' := by
  by_cases hw : 2 ≤ l.length ∧ l.length ≤ 20
  · by_cases hm : l.head? = some 128
    · exact get_bin w ha hw.1 hw.2 hm _ rfl
    · exact get_oct w ha hw.1 hw.2 hm _ rfl
  · have hwf : width (l.length : Int) = false := by simp [width]; omega
    have : get l = none := by unfold get; rw [if_pos hwf]
    rw [this]
    exact get_short w ha hwf
end Go.Proofs.Ytejalhoaljlnhaa.Rk
