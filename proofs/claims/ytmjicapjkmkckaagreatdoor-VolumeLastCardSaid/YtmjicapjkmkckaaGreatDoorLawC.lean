/- VolumeLast -/
import Derived.Test.YtmjicapjkmkckaaGreatDoorLawP
import Derived.Test.YtmjicapjkmkckaaGreatDoorVOrd
namespace Go.Proofs.YtmjicapjkmkckaaGreatDoor.Rk
open Go.RowKit Go.Shelf
set_option linter.unusedVariables false
set_option linter.unusedSimpArgs false
set_option maxRecDepth 100000

theorem zeros_at {j : Nat} (h : j < (zeros 512).length) : (zeros 512)[j] = 0 := List.getElem_replicate ..
theorem sum_take {l : List (List (List UInt8))} {k : Nat} {x : List (List UInt8)} (h : l[k]? = some x) : ((l.take (k + 1)).map List.length).sum = ((l.take k).map List.length).sum + x.length := by
  have hlt := (List.getElem?_eq_some_iff.1 h).1
  rw [List.take_succ_eq_append_getElem hlt, List.map_append, List.sum_append]
  rw [List.getElem?_eq_getElem hlt] at h
  injection h with h
  simp [h]
theorem sum_le (l : List (List (List UInt8))) (k : Nat) : ((l.take k).map List.length).sum ≤ (l.map List.length).sum := by
  have h : (l.map List.length).sum = ((l.take k).map List.length).sum + ((l.drop k).map List.length).sum := by rw [← List.sum_append, ← List.map_append, List.take_append_drop]
  omega
set_option maxHeartbeats 2000000 in
theorem VolumeLast_walk (t : List Nd) (s : St) (hsb : R64 s.b) {A Ac : Option Addr} {c cc : Nat} {F G : Nat → Prop} (w : World) (ha : Sl Kd.nd w F A c t) (hs : Sl Kd.int w G Ac cc s.caps) (hT : Tab w) :
    Calls Tryz.prog 7 #[.slice A t.length c, s.agg Ac cc] w fun e w' => e = .returned (.bool true) ∧ Below w.heap.size w w' := by
  have J0 : Au ((w.alloc (.cells (s.cells Ac cc).toArray 25)).heap[w.heap.size]? = some (.cells (s.cells Ac cc).toArray 25 (0, 0))) := ⟨heap_alloc_new _ _⟩
  have e0 := (Below.refl w.heap.size w).alloc (Nat.le_refl _) (.cells (s.cells Ac cc).toArray 25)
  have s0 := Au.mk (hs.old.alloc (.cells (s.cells Ac cc).toArray 25))
  have a0 := Au.mk (ha.old.alloc (.cells (s.cells Ac cc).toArray 25))
  have T0 := Au.mk (hT.below e0)
  have hcc := hs.le
  have htt := ha.le
  have f0 := blk_cell J0.out 0 rfl
  have f1 := blk_cell J0.out 1 rfl
  have f2 := blk_cell J0.out 2 rfl
  obtain ⟨one, Hone⟩ := au (fewT t)
  obtain ⟨two, Htwo⟩ := au (fewS s)
  have F16 := Au.mk (fun W : World => few16_calls s Htwo.out (A := Ac) (c := cc) W)
  have CS := Au.mk (fun (hS : AllS t) (l : List (List (List UInt8))) (en : Int) (h : vsplit t s = (l, en)) (W : World) (hT : Tab W) (h1 : Sl Kd.nd W (fun k => F k ∧ k < w.heap.size) A c t) (h2 : Sl Kd.int W (fun k => G k ∧ k < w.heap.size) Ac cc s.caps) => split_calls t hS s h W hT h1 h2)
  have CN := Au.mk (fun (hS : AllS t) (r : Int) (h : vneeds t s = r) (W : World) (hT : Tab W) (h1 : Sl Kd.nd W (fun k => F k ∧ k < w.heap.size) A c t) (h2 : Sl Kd.int W (fun k => G k ∧ k < w.heap.size) Ac cc s.caps) => needs_calls t hS s h W hT h1 h2)
  have CM := Au.mk (fun (r : Bool) (h : smay s = r) (W : World) (h2 : Sl Kd.int W (fun k => G k ∧ k < w.heap.size) Ac cc s.caps) => smay_calls s h W h2)
  unfold St.agg at F16 CS CN CM ⊢
  unfold St.cells at f0 f1 f2 e0 s0 J0 a0 T0
  clear ha hs hT
  go_enter Tryz.func7, Tryz.ntmps7
  go_wp2_with fail
  refine (awake16_calls _ T0.out).mono ?_
  rintro e w1 ⟨rfl, b1⟩
  have e1 := below_then e0 b1 e0.size
  have J1 := Au.mk (blk_below J0.out b1 (lt_of_block J0.out))
  have T1 := Au.mk (T0.out.below b1)
  have a1 := Au.mk (a0.out.below b1)
  have s1 := Au.mk (s0.out.below b1)
  clear f0 f1 f2 b1
  have f0 := blk_cell J1.out 0 rfl
  have f1 := blk_cell J1.out 1 rfl
  have f2 := blk_cell J1.out 2 rfl
  go_wp2_with fail
  refine (few06_calls t Hone.out _ a1.out).mono ?_
  rintro e w2 ⟨rfl, b2⟩
  have e2 := below_then e1 b2 e1.size
  have J2 := Au.mk (blk_below J1.out b2 (lt_of_block J1.out))
  have T2 := Au.mk (T1.out.below b2)
  have a2 := Au.mk (a1.out.below b2)
  have s2 := Au.mk (s1.out.below b2)
  clear f0 f1 f2 b2
  have f0 := blk_cell J2.out 0 rfl
  have f1 := blk_cell J2.out 1 rfl
  have f2 := blk_cell J2.out 2 rfl
  go_wp2_with fail
  refine (F16.out _).mono ?_
  rintro e w3 ⟨rfl, b3⟩
  have e3 := below_then e2 b3 e2.size
  have J3 := Au.mk (blk_below J2.out b3 (lt_of_block J2.out))
  have T3 := Au.mk (T2.out.below b3)
  have a3 := Au.mk (a2.out.below b3)
  have s3 := Au.mk (s2.out.below b3)
  clear f0 f1 f2 b3
  have f0 := blk_cell J3.out 0 rfl
  have f1 := blk_cell J3.out 1 rfl
  have f2 := blk_cell J3.out 2 rfl
  cases one
  · go_wp2_with fail
    go_ret
    exact ⟨rfl, e3⟩
  cases two
  · go_wp2_with fail
    go_ret
    exact ⟨rfl, e3⟩
  have hS := (few_all Hone.out).1
  have ht30 := (few_all Hone.out).2
  obtain ⟨⟨l, en⟩, Hl⟩ := au (vsplit t s)
  obtain ⟨ll, Hll⟩ := au l.length
  go_wp2_with fail
  refine (CS.out hS l en Hl.out _ T3.out a3.out s3.out).mono ?_
  rintro e w4 ⟨A4, c4, rfl, v4, b4⟩
  rw [Hll.out]
  have V4 := Au.mk v4
  have e4 := below_then e3 b4 e3.size
  have J4 := Au.mk (blk_below J3.out b4 (lt_of_block J3.out))
  have T4 := Au.mk (T3.out.below b4)
  have a4 := Au.mk (a3.out.below b4)
  have s4 := Au.mk (s3.out.below b4)
  clear f0 f1 f2 b4
  have f0 := blk_cell J4.out 0 rfl
  have f1 := blk_cell J4.out 1 rfl
  have f2 := blk_cell J4.out 2 rfl
  clear v4
  obtain ⟨d, Hd⟩ := au (en != 0)
  have hd := Hd.out
  cases d
  · have hen : en = 0 := by simpa using hd
    subst hen
    obtain ⟨⟨v, z1, z2, z3⟩, z4, z5⟩ := last_ok Hl.out
    have hok := split_ok Hl.out
    obtain ⟨_, hB1, hB2, hc12, _⟩ := smay_iff hok.2.1
    have hlen := (bound_ok Hl.out).2.2.1
    obtain ⟨m, Hm⟩ := au (sall t).length
    obtain ⟨tot, Htot⟩ := au ((l.map List.length).sum)
    have hm1000 : m ≤ 1000 := by have := (sall_len hok.1).2; rw [Hm.out] at this; omega
    rw [Hm.out, Htot.out, Hll.out] at z4 z5
    rw [Hll.out] at hlen
    have hl0 : l ≠ [] := fun e => by rw [e] at z1; simp at z1
    have hl1 := List.length_pos_iff.2 hl0
    obtain ⟨k, rfl⟩ : ∃ k, ll = k + 1 := ⟨ll - 1, by rw [← Hll.out]; omega⟩
    have hv : l[k]? = some v := by rw [List.getLast?_eq_getElem?, Hll.out] at z1; exact z1
    have hv4 : v.length ≤ 4000 := by
      obtain ⟨_, cap, c1, _, c3, _⟩ := (room_ok Hl.out).2.2.2 k v hv
      have h6 := cap_range hok.2.1 k
      have hg : s.caps.getD k 0 = cap := by rw [List.getD_eq_getElem?_getD, c1]; rfl
      rw [hg] at h6
      omega
    obtain ⟨q, hq⟩ : ∃ q, v.length = q + 1 := ⟨v.length - 1, by omega⟩
    have hx : v[q]? = some (zeros 512) := by rw [List.getLast?_eq_getElem?, hq] at z3; exact z3
    obtain ⟨bb, oo, A5, c5, rfl, f3, v5⟩ := V4.out.slice_at hv
    obtain ⟨b6, o6, A6, c6, rfl, f4, v6⟩ := v5.slice_at hx
    have V6 := Au.mk v6
    rw [hq] at f3
    have e512 : (zeros 512).length = 512 := zeros512
    rw [e512] at f4
    have hk0 : (((k + 1 : Nat) : Int) == 0) = false := by rw [beq_eq_false_iff_ne]; omega
    have hk0' : (((k : Nat) : Int) + 1 == 0) = false := by rw [beq_eq_false_iff_ne]; omega
    have hq2' : ¬ ((q : Nat) : Int) + 1 < 2 := by omega
    have hk1' : IntKind.i64.wrap ((k : Int) + 1 - 1) = (k : Int) := by rw [IntKind.wrap_i64]; omega
    have hq1' : IntKind.i64.wrap ((q : Int) + 1 - 1) = (q : Int) := by rw [IntKind.wrap_i64]; omega
    have hk1 : IntKind.i64.wrap (((k + 1 : Nat) : Int) - 1) = (k : Int) := by rw [IntKind.wrap_i64]; omega
    have hq1 : IntKind.i64.wrap (((q + 1 : Nat) : Int) - 1) = (q : Int) := by rw [IntKind.wrap_i64]; omega
    have hq2 : ¬ ((q + 1 : Nat) : Int) < 2 := by omega
    have Hz := Au.mk (And.intro z4 z5)
    clear hok z1 z2 z3 z4 z5 hl0 hl1 hv hx v5 v6
    go_wp2_with fail
    go_loop [12, 13] (fun x i => ∃ j : Nat, j ≤ 512 ∧ i = .int .i64 (j : Int) ∧ x = .bool true) (fun _ i => 512 - (intOf i).toNat)
    case atStart => exact ⟨0, by omega, rfl, rfl⟩
    case round =>
      obtain ⟨j, hj, rfl, rfl⟩ := hrel
      by_cases hlt : j < 512
      · obtain ⟨b7, o7, rfl, f5⟩ := V6.out.byte_at j (by rw [e512]; exact hlt)
        rw [zeros_at] at f5
        have hjl : (j : Int) < 512 := by omega
        go_wp2_with fail
        go_round
        case rel => exact ⟨j + 1, by omega, by go_num, by rfl⟩
        case measure => simp [intOf]; omega
      · obtain rfl : j = 512 := by omega
        clear hlt
        go_wp2_with fail
        go_loop [14, 15] (fun x i => ∃ (j : Nat) (u : Nat), j ≤ k + 1 ∧ i = .int .i64 (j : Int) ∧ x = .int .i64 (u : Int) ∧ Au (u = ((l.take j).map List.length).sum)) (fun _ i => k + 1 - (intOf i).toNat)
        case atStart => exact ⟨0, 0, by omega, rfl, rfl, ⟨by simp⟩⟩
        case round =>
          obtain ⟨j, u, hj, rfl, rfl, Hu⟩ := hrel
          by_cases hlt : j < k + 1
          · obtain ⟨x, hx⟩ : ∃ x, l[j]? = some x := ⟨_, List.getElem?_eq_getElem (by rw [Hll.out]; exact hlt)⟩
            have e1' := sum_take hx
            have e2' := sum_le l (j + 1)
            rw [Htot.out, e1', ← Hu.out] at e2'
            obtain ⟨b7, o7, A7, c7, h7, f5, -⟩ := V4.out.slice_at hx
            injection h7 with h7
            injection h7 with h7 h9
            subst h7 h9
            obtain ⟨xl, Hxl⟩ := au x.length
            rw [Hxl.out] at e1' e2' f5
            have Hs : Au (u + xl = ((l.take (j + 1)).map List.length).sum) := ⟨by rw [e1', Hu.out]⟩
            have hjl : (j : Int) < k + 1 := by omega
            have hz := Hz.out
            have hw : IntKind.i64.wrap ((u : Int) + xl) = ((u + xl : Nat) : Int) := by rw [IntKind.wrap_i64]; omega
            clear hx e1' e2' hz
            go_wp2_with fail
            go_round
            case rel => exact ⟨j + 1, u + xl, by omega, by go_num, rfl, Hs⟩
            case measure => simp [intOf]; omega
          · obtain rfl : j = k + 1 := by omega
            have hut : Au (u = tot) := ⟨by rw [Hu.out, List.take_of_length_le (by rw [Hll.out]; exact Nat.le_refl _), Htot.out]⟩
            have := hut.out
            subst this
            obtain ⟨z4, z5⟩ := Hz.out
            have x1 : IntKind.i64.wrap ((m : Int) + ((k : Int) + 1)) = (m : Int) + ((k : Int) + 1) := by rw [IntKind.wrap_i64]; omega
            have x2 : decide ((m : Int) + ((k : Int) + 1) ≤ u) = true := by simp; omega
            have x3 : IntKind.i64.wrap ((u : Int) - m) = (u : Int) - m := by rw [IntKind.wrap_i64]; omega
            have x4 : IntKind.i64.wrap (4 * ((k : Int) + 1)) = 4 * ((k : Int) + 1) := by rw [IntKind.wrap_i64]; omega
            have x5 : IntKind.i64.wrap (4 * ((k : Int) + 1) + s.b) = 4 * ((k : Int) + 1) + s.b := by rw [IntKind.wrap_i64]; omega
            have x6 : IntKind.i64.wrap (4 * ((k : Int) + 1) + s.b - 1) = 4 * ((k : Int) + 1) + s.b - 1 := by rw [IntKind.wrap_i64]; omega
            have x7 : decide ((u : Int) - m ≤ 4 * ((k : Int) + 1) + s.b - 1) = true := by simp; omega
            have hmx : Tryz.prog.follows .mixedOrders = true := by kernel_rfl
            clear hlt z4 z5 hj
            go_wp2_with fail
            refine region_ord (fun w' => w'.cell? ⟨w.heap.size, 1, none⟩ = some (.int .i64 s.b) ∧ Sl Kd.nd w' (fun k => F k ∧ k < w.heap.size) A c t ∧ Below w.heap.size w w') [(true, 0), (true, 1), (true, 2), (true, 3), (true, 5), (true, 6), (false, 4), (true, 7), (true, 8), (true, 9), (true, 10), (true, 11), (true, 12), (true, 15), (true, 16), (true, 17), (true, 18), (true, 19), (true, 20), (true, 21), (false, 13), (true, 14), (true, 22), (true, 23), (true, 24)] hmx (by kernel_rfl) ⟨f1, a4.out.drewN 1, below_drewN e4 1⟩ ?_
            simp only [ordL, List.getElem?_toArray, List.getElem?_cons_succ, List.getElem?_cons_zero]
            iterate 6
              refine ⟨?_, Or.inl ⟨by rfl, fun w' hw' => ?_⟩, ?_⟩
              rotate_left 1
              · clear hw'
                go_simp
                all_goals (with_reducible rfl)
              try simp only [Act.put, List.setIfInBounds_toArray, List.set_cons_zero, List.set_cons_succ]
            refine ⟨by first | rfl | trivial, ?_⟩
            go_simp
            refine (smany_calls t hS Hm.out _ (a4.out.drewN 1)).mono ?_
            rintro e w5 ⟨rfl, b5⟩
            have e5 := below_then (below_drewN e4 1) b5 e4.size
            have a5 := Au.mk ((a4.out.drewN 1).below b5)
            have k1 := cell_below (w := w4.drew) f1 b5
            refine ⟨⟨k1, a5.out, e5⟩, ?_⟩
            try simp only [Act.put, List.setIfInBounds_toArray, List.set_cons_zero, List.set_cons_succ]
            iterate 13
              refine ⟨?_, Or.inl ⟨by rfl, fun w' hw' => ?_⟩, ?_⟩
              rotate_left 1
              · have g1 := hw'.1
                clear hw'
                go_simp
                all_goals (with_reducible rfl)
              try simp only [Act.put, List.setIfInBounds_toArray, List.set_cons_zero, List.set_cons_succ]
            refine ⟨by first | rfl | trivial, ?_⟩
            go_simp
            refine (smany_calls t hS Hm.out _ a5.out).mono ?_
            rintro e w6 ⟨rfl, b6⟩
            have e6 := below_then e5 b6 e5.size
            have a6 := Au.mk (a5.out.below b6)
            have k2 := cell_below k1 b6
            refine ⟨⟨k2, a6.out, e6⟩, ?_⟩
            try simp only [Act.put, List.setIfInBounds_toArray, List.set_cons_zero, List.set_cons_succ]
            iterate 4
              refine ⟨?_, Or.inl ⟨by rfl, fun w' hw' => ?_⟩, ?_⟩
              rotate_left 1
              · clear hw'
                go_simp
                all_goals (with_reducible rfl)
              try simp only [Act.put, List.setIfInBounds_toArray, List.set_cons_zero, List.set_cons_succ]
            go_wp2_with fail
            simp only [Calm]
            go_wp2_with fail
            go_ret
            exact ⟨rfl, e6⟩
  · go_wp2_with fail
    go_ret
    exact ⟨rfl, e4⟩
end Go.Proofs.YtmjicapjkmkckaaGreatDoor.Rk
