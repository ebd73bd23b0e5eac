/- CheckFinds, walked. -/
import Derived.Test.YtldhcknjpmbgnaaGreatDoorCkN
namespace Go.Proofs.YtldhcknjpmbgnaaGreatDoor.Rk
open Go.RowKit Go.Shelf
set_option linter.unusedVariables false
set_option linter.unusedSimpArgs false
set_option maxRecDepth 100000

theorem etTapes : ET Tryz.prog 26 38 (.agg #[.int .i64 0, .slice none 0 0, .bool false]) 3 40 := ⟨Tryz.underlying26, by kernel_rfl, rfl, by decide⟩
theorem finds_any {name : List UInt8} {num : Int} {l : List Tp} {k : Nat} {t : Tp} (hk : l[k]? = some t) : ((cfind l name num).map fun i : Nat => (i : Int)).any (· == (k : Int)) = hasT name num t := by
  rw [Bool.eq_iff_iff, List.any_eq_true]
  constructor
  · rintro ⟨x, hx, he⟩
    obtain ⟨i, hi, rfl⟩ := List.mem_map.1 hx
    obtain ⟨u, hu, h2⟩ := ((find_spec l name num).1 i).1 hi
    have : i = k := by simp at he; omega
    subst this
    rw [hk] at hu; injection hu with hu
    rw [hu]; exact h2
  · intro h
    exact ⟨(k : Int), List.mem_map.2 ⟨k, ((find_spec l name num).1 k).2 ⟨t, hk, h⟩, rfl⟩, by simp⟩
theorem finds_at {name : List UInt8} {num : Int} {l : List Tp} {xs : List Int} (hxs : ((cfind l name num).map fun i : Nat => (i : Int)) = xs) {j : Nat} {x : Int} (hx : xs[j]? = some x) :
    0 ≤ x ∧ x < l.length ∧ ∀ j', j = j' + 1 → ∃ y, xs[j']? = some y ∧ y < x := by
  subst hxs
  rw [List.getElem?_map, Option.map_eq_some_iff] at hx
  obtain ⟨i, hi, rfl⟩ := hx
  obtain ⟨u, hu, _⟩ := ((find_spec l name num).1 i).1 (List.mem_of_getElem? hi)
  have := (List.getElem?_eq_some_iff.1 hu).1
  refine ⟨by omega, by omega, fun j' hj => ?_⟩
  obtain ⟨h1, h2⟩ := List.getElem?_eq_some_iff.1 hi
  refine ⟨((cfind l name num)[j']'(by omega) : Int), by rw [List.getElem?_map, List.getElem?_eq_getElem (by omega)]; rfl, ?_⟩
  have := List.pairwise_iff_getElem.1 (find_spec l name num).2.1 j' j (by omega) (by omega) (by omega)
  rw [h2] at this; omega
set_option maxHeartbeats 4000000 in
theorem CheckFinds_walk (l : List Tp) (name : List UInt8) (num : Int) (i : Int) (hname : name.length ≤ maxLen) (hnum : R64 num) (hi : R64 i) {A : Option Addr} {c : Nat} {F : Nat → Prop} (w : World) (ha : Sl Kd.tp w F A c l) (hT : Tab w) :
    Calls Tryz.prog 4 #[.slice A l.length c, .string (ofL name), .int .i64 num, .int .i64 i] w fun e w' => e = .returned (.bool true) ∧ Below w.heap.size w w' := by
  have a0 := Au.mk ha.old
  have T0 := Au.mk hT
  have hll := ha.le
  have hz : (ofL name).size = name.length := ofL_size _
  clear ha hT hnum
  go_enter Tryz.func4, Tryz.ntmps4
  go_wp2_with fail
  refine (awake18_calls _ T0.out).mono ?_
  rintro e w1 ⟨rfl, b1⟩
  have e1 := Au.mk b1
  have T1 := Au.mk (T0.out.below b1)
  have a1 := Au.mk (a0.out.below b1)
  clear b1
  have C18 := Au.mk (few18_calls l rfl w1 a1.out)
  go_wp2_with fail
  refine C18.out.mono ?_
  rintro e w3 ⟨⟨two, rfl, htwo⟩, rfl⟩
  have Htwo := Au.mk htwo
  clear htwo C18
  cases two
  · go_wp2_with fail
    go_ret
    exact ⟨rfl, e1.out⟩
  by_cases h200 : (200 : Int) < name.length
  · go_wp2_with fail
    go_ret
    exact ⟨rfl, e1.out⟩
  have h15 : l.length ≤ 15 := Htwo.out rfl
  obtain ⟨xs, Xs⟩ := au ((cfind l name num).map fun i : Nat => (i : Int))
  obtain ⟨m, Xm⟩ := au xs.length
  have CD := Au.mk (find_calls name num l (by omega) rfl Xs.out Xm.out w1 T1.out a1.out)
  go_wp2_with fail
  refine CD.out.mono ?_
  rintro e w4 ⟨A4, c4, rfl, s4, b4⟩
  have e4 := Au.mk (below_then e1.out b4 e1.out.size)
  have T4 := Au.mk (T1.out.below b4)
  have a4 := Au.mk (a1.out.below b4)
  have S4 := Au.mk s4
  have hm4 := s4.le
  rw [Xm.out] at hm4
  have hm15 : m ≤ 15 := by
    rw [← Xm.out, ← Xs.out, List.length_map]
    have := places_len (p := hasT name num) l 0
    unfold cfind; omega
  clear s4 b4 CD
  go_wp2_with fail
  go_loopw [12, 13] (fun v i' wr => ∃ (j : Nat) (q : Bool), j ≤ m ∧ v = .bool q ∧ i' = .int .i64 j ∧ Au ((xs.take j).any (· == i) = q) ∧ Au (Below w4.heap.size w4 wr)) (fun _ i' _ => m - (intOf i').toNat)
  case atStart => exact ⟨0, false, Nat.zero_le _, rfl, rfl, ⟨by simp⟩, ⟨Below.refl _ _⟩⟩
  case round =>
    obtain ⟨j, q, hj, rfl, rfl, Hq, HB⟩ := hrel
    by_cases hlt : j < m
    · have hlti : (j : Int) < m := by omega
      obtain ⟨x, hx⟩ : ∃ x, xs[j]? = some x := ⟨_, List.getElem?_eq_getElem (by have := Xm.out; omega)⟩
      have S5 := Au.mk (S4.out.below HB.out)
      obtain ⟨-, b, o, hA4, ck⟩ := S5.out.intI_at hx
      obtain ⟨x0, x1, x2⟩ := finds_at Xs.out hx
      obtain ⟨d, Hd⟩ := au (x == i)
      have hd := Hd.out
      have Hx := Au.mk hx
      have Hnx := Au.mk (any_snoc hx i false)
      have p1 : decide (x < 0) = false := by simp; omega
      have p2 : decide ((l.length : Int) ≤ x) = false := by simp; omega
      clear hx x0 x1
      cases j with
      | zero =>
        subst hA4
        clear x2
        rw [Nat.add_zero] at ck
        go_wp2_with fail
        go_quiet (fail)
        have hbq := Au.mk (below_drewN HB.out nq)
        have ck2 : (wr.drewN nq).cell? ⟨b, o, none⟩ = some (.int .i64 x) := ck
        generalize wr.drewN nq = wq at hbq ck2 ⊢
        clear ck
        cases q
        · go_wp2_with fail
          go_roundw
          case rel =>
            refine ⟨0 + 1, d, by omega, rfl, by go_num, ⟨?_⟩, hbq⟩
            have := Hnx.out
            rw [Bool.false_or, Bool.false_or, Hq.out, Hd.out] at this
            exact this
          case measure => simp [intOf]; omega
        · go_wp2_with fail
          go_roundw
          case rel =>
            refine ⟨0 + 1, true, by omega, rfl, by go_num, ⟨?_⟩, hbq⟩
            have := Hnx.out
            rw [Bool.false_or, Bool.false_or, Hq.out, Bool.true_or] at this
            exact this
          case measure => simp [intOf]; omega
      | succ j =>
        obtain ⟨y, hy, hyx⟩ := x2 j rfl
        obtain ⟨-, b', o', hA5, ck'⟩ := S5.out.intI_at hy
        rw [hA4] at hA5
        injection hA5 with hA5
        injection hA5 with hA6 hA7
        subst hA6 hA7 hA4
        have p3 : decide (x ≤ y) = false := by simp; omega
        have p4 : decide ((0 : Int) < (j : Int) + 1) = true := decide_eq_true (by omega)
        clear x2 hy hyx
        go_wp2_with fail
        go_quiet (fail)
        have hbq := Au.mk (below_drewN HB.out nq)
        have ck2 : (wr.drewN nq).cell? ⟨b, o + (j + 1), none⟩ = some (.int .i64 x) := ck
        generalize wr.drewN nq = wq at hbq ck2 ⊢
        clear ck ck'
        cases q
        · go_wp2_with fail
          go_roundw
          case rel =>
            refine ⟨j + 1 + 1, d, by omega, rfl, by go_num, ⟨?_⟩, hbq⟩
            have := Hnx.out
            rw [Bool.false_or, Bool.false_or, Hq.out, Hd.out] at this
            exact this
          case measure => simp [intOf]; omega
        · go_wp2_with fail
          go_roundw
          case rel =>
            refine ⟨j + 1 + 1, true, by omega, rfl, by go_num, ⟨?_⟩, hbq⟩
            have := Hnx.out
            rw [Bool.false_or, Bool.false_or, Hq.out, Bool.true_or] at this
            exact this
          case measure => simp [intOf]; omega
    · have hge : ¬ ((j : Int) < m) := by omega
      have hqq : xs.any (· == i) = q := by
        have := Hq.out
        rwa [List.take_of_length_le (by have := Xm.out; omega)] at this
      have HQ := Au.mk hqq
      have a5 := Au.mk (a4.out.below HB.out)
      have T5 := Au.mk (T4.out.below HB.out)
      have e5 := Au.mk (below_then e4.out HB.out e4.out.size)
      have z5 := e5.out.size
      have R0 := Au.mk (RowD.nil Kd.tp wr (fun k => F k ∧ k < w.heap.size) wr.heap.size)
      have E0 := Au.mk a5.out.els
      have HG : Au (∀ k, (F k ∧ k < w.heap.size) → (F k ∧ k < w.heap.size) ∨ wr.heap.size ≤ k) := ⟨fun k hk => .inl hk⟩
      obtain ⟨xs2, Xs2⟩ := au ((cfind (l ++ l) name num).map fun i : Nat => (i : Int))
      have hx2 : xs2.length = 2 * m := by
        rw [← Xs2.out, List.length_map, (find_spec l name num).2.2, ← Xm.out, ← Xs.out, List.length_map]
      have Hx2 := Au.mk hx2
      clear hqq hx2 hlt
      go_upto_region 13 with fail
      have HO : Au (∀ g, (Value.slice none 0 0).ownBlock = some g → ¬ (F g ∧ g < w.heap.size)) := ⟨fun g hg => by simp [Value.ownBlock] at hg⟩
      have L1 : Au (([] : List Tp).length + l.length ≤ maxLen ∧ (([] : List Tp).length + l.length) * 40 ≤ 140737488355328) := ⟨by simp only [List.length_nil, maxLen]; omega⟩
      have L2 : Au (([] ++ l).length + l.length ≤ maxLen ∧ (([] ++ l).length + l.length) * 40 ≤ 140737488355328) := ⟨by simp only [List.nil_append, maxLen]; omega⟩
      go_wp2_with (first
        | (at_builtin; refine wpList_append_rowD (d := Kd.tp) (G := fun k => F k ∧ k < w.heap.size) (F2 := fun k => F k ∧ k < w.heap.size) (base := wr.heap.size) (xs := []) (ys := l) _ rfl etTapes _ _ rfl rfl R0.out rfl rfl E0.out HG.out HO.out L1.out.1 L1.out.2 (Nat.le_refl _) ?_; intro v1 W5 hr5 hg5 ho5; have hg5' : wr.grownBy W5 none := hg5; have Hl5 := Au.mk hr5.low; have Eg5 := Au.mk (a5.out.grown hg5' (fun g hg => by cases hg)).els; have Hz5 := Au.mk hg5'.size; have Bz5 := Au.mk ((Below.refl wr.heap.size wr).grown hg5' (Nat.le_refl _) (fun g hg => by cases hg)); have HO5 : Au (∀ g, v1.ownBlock = some g → ¬ (F g ∧ g < w.heap.size)) := ⟨fun g hg h => by have := Hl5.out g hg; omega⟩; obtain ⟨A5, c5, rfl⟩ := hr5.form; have Hr5 := Au.mk hr5; clear hr5 hg5 ho5 hg5' R0)
        | (at_builtin; refine wpList_append_rowD (d := Kd.tp) (G := fun k => F k ∧ k < w.heap.size) (F2 := fun k => F k ∧ k < w.heap.size) (base := wr.heap.size) (xs := [] ++ l) (ys := l) _ rfl etTapes _ _ rfl rfl Hr5.out rfl rfl Eg5.out HG.out HO5.out L2.out.1 L2.out.2 Hz5.out ?_; intro v2 W6 hr6 hg6 ho6; have Bz6 := Au.mk (Bz5.out.grown hg6 Hz5.out (fun g hg => Hl5.out g hg)); obtain ⟨A6, c6, hv6, s6⟩ := hr6.sl; subst hv6; have S6 := Au.mk s6; clear hr6 hg6 ho6 s6 Hr5))
      have S7 : Sl Kd.tp W6 (fun k => F k ∧ k < w.heap.size ∨ wr.heap.size ≤ k) A6 c6 (l ++ l) := S6.out
      obtain ⟨m2, M2⟩ := au (2 * m)
      have hx3 := Hx2.out
      rw [M2.out] at hx3
      have hw : IntKind.i64.wrap (2 * (m : Int)) = (m2 : Int) := by have := M2.out; rw [IntKind.wrap_i64]; omega
      have CD2 := Au.mk (find_calls name num (l ++ l) (by simp; omega) (ll := l.length + l.length) (by simp) Xs2.out hx3 W6 (T5.out.below Bz6.out) S7)
      have e6 := Au.mk (below_then e5.out Bz6.out e5.out.size)
      have T6 := Au.mk (T5.out.below Bz6.out)
      have a6 := Au.mk (a5.out.below Bz6.out)
      clear S7 S6 hx3
      refine CD2.out.mono ?_
      rintro e w7 ⟨A7, c7, rfl, -, b7⟩
      have e7 := Au.mk (below_then e6.out b7 e6.out.size)
      have T7 := Au.mk (T6.out.below b7)
      have a7 := Au.mk (a6.out.below b7)
      clear b7 CD2
      by_cases hk0 : i < 0
      · go_wp2_with fail
        go_ret
        exact ⟨rfl, e7.out⟩
      by_cases hkl : (l.length : Int) ≤ i
      · go_wp2_with fail
        go_ret
        exact ⟨rfl, e7.out⟩
      obtain ⟨kn, rfl⟩ : ∃ kn : Nat, i = (kn : Int) := ⟨i.toNat, by omega⟩
      obtain ⟨t, ht⟩ : ∃ t, l[kn]? = some t := ⟨_, List.getElem?_eq_getElem (by omega)⟩
      obtain ⟨b, o, A8, c8, rfl, hRt, g0, g1, g2, s8⟩ := a7.out.tp_at ht
      obtain ⟨mt, Hmt⟩ := au t.recs.length
      rw [Hmt.out] at g1
      obtain ⟨⟨own, no, er⟩, Hw⟩ := au (cwho t)
      have hany := finds_any (name := name) (num := num) ht
      rw [Xs.out, HQ.out] at hany
      have hkn : kn < l.length := by omega
      have CW := Au.mk (cwho_calls t hRt Hmt.out Hw.out w7 T7.out s8)
      obtain ⟨x, X1⟩ := au (er == 0)
      obtain ⟨y, Y1⟩ := au (own == name)
      obtain ⟨z, Z1⟩ := au (no == num)
      have hq3 : q = (x && (y && z)) := by
        rw [hany]; unfold hasT; rw [Hw.out, ← X1.out, ← Y1.out, ← Z1.out]
      have x1 := X1.out
      have y1 := Y1.out
      have z1 := Z1.out
      have Hq3 := Au.mk hq3
      clear ht s8 hany hq3
      go_wp2_with fail
      refine CW.out.mono ?_
      rintro e w8 ⟨rfl, b8⟩
      have e8 := Au.mk (below_then e7.out b8 e7.out.size)
      clear b8 g0 g1 g2 CW
      cases x
      · obtain rfl : q = false := Hq3.out
        go_wp2_with fail
        go_ret
        exact ⟨rfl, e8.out⟩
      cases y
      · obtain rfl : q = false := Hq3.out
        go_wp2_with fail
        go_ret
        exact ⟨rfl, e8.out⟩
      cases z
      · obtain rfl : q = false := Hq3.out
        go_wp2_with fail
        go_ret
        exact ⟨rfl, e8.out⟩
      obtain rfl : q = true := Hq3.out
      go_wp2_with fail
      go_ret
      exact ⟨rfl, e8.out⟩
end Go.Proofs.YtldhcknjpmbgnaaGreatDoor.Rk
