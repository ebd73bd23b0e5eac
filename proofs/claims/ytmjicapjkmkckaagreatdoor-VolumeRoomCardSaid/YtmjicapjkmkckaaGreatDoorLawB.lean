/- VolumeRoom -/
import Derived.Test.YtmjicapjkmkckaaGreatDoorLawP
namespace Go.Proofs.YtmjicapjkmkckaaGreatDoor.Rk
open Go.RowKit Go.Shelf
set_option linter.unusedVariables false
set_option linter.unusedSimpArgs false
set_option maxRecDepth 100000

set_option maxHeartbeats 2000000 in
theorem VolumeRoom_walk (t : List Nd) (s : St) (hsb : R64 s.b) (i : Int) (hir : R64 i) {A Ac : Option Addr} {c cc : Nat} {F G : Nat → Prop} (w : World) (ha : Sl Kd.nd w F A c t) (hs : Sl Kd.int w G Ac cc s.caps) (hT : Tab w) :
    Calls Tryz.prog 8 #[.slice A t.length c, s.agg Ac cc, .int .i64 i] w fun e w' => e = .returned (.bool true) ∧ Below w.heap.size w w' := by
  have J0 : Au ((w.alloc (.cells (s.cells Ac cc).toArray 25)).heap[w.heap.size]? = some (.cells (s.cells Ac cc).toArray 25 (0, 0))) := ⟨heap_alloc_new _ _⟩
  have e0 := (Below.refl w.heap.size w).alloc (Nat.le_refl _) (.cells (s.cells Ac cc).toArray 25)
  have s0 := Au.mk (hs.old.alloc (.cells (s.cells Ac cc).toArray 25))
  have a0 := Au.mk (ha.old.alloc (.cells (s.cells Ac cc).toArray 25))
  have T0 := Au.mk (hT.below e0)
  have hcc := hs.le
  have htt := ha.le
  have f0 := blk_cell J0.out 0 rfl
  have f1 := blk_cell J0.out 1 rfl
  have f2 := blk_cell J0.out 2 rfl
  obtain ⟨one, Hone⟩ := au (fewT t)
  obtain ⟨two, Htwo⟩ := au (fewS s)
  have F16 := Au.mk (fun W : World => few16_calls s Htwo.out (A := Ac) (c := cc) W)
  have CS := Au.mk (fun (hS : AllS t) (l : List (List (List UInt8))) (en : Int) (h : vsplit t s = (l, en)) (W : World) (hT : Tab W) (h1 : Sl Kd.nd W (fun k => F k ∧ k < w.heap.size) A c t) (h2 : Sl Kd.int W (fun k => G k ∧ k < w.heap.size) Ac cc s.caps) => split_calls t hS s h W hT h1 h2)
  have CN := Au.mk (fun (hS : AllS t) (r : Int) (h : vneeds t s = r) (W : World) (hT : Tab W) (h1 : Sl Kd.nd W (fun k => F k ∧ k < w.heap.size) A c t) (h2 : Sl Kd.int W (fun k => G k ∧ k < w.heap.size) Ac cc s.caps) => needs_calls t hS s h W hT h1 h2)
  have CM := Au.mk (fun (r : Bool) (h : smay s = r) (W : World) (h2 : Sl Kd.int W (fun k => G k ∧ k < w.heap.size) Ac cc s.caps) => smay_calls s h W h2)
  unfold St.agg at F16 CS CN CM ⊢
  unfold St.cells at f0 f1 f2 e0 s0 J0 a0 T0
  clear ha hs hT
  go_enter Tryz.func8, Tryz.ntmps8
  go_wp2_with fail
  refine (awake16_calls _ T0.out).mono ?_
  rintro e w1 ⟨rfl, b1⟩
  have e1 := below_then e0 b1 e0.size
  have J1 := Au.mk (blk_below J0.out b1 (lt_of_block J0.out))
  have T1 := Au.mk (T0.out.below b1)
  have a1 := Au.mk (a0.out.below b1)
  have s1 := Au.mk (s0.out.below b1)
  clear f0 f1 f2 b1
  have f0 := blk_cell J1.out 0 rfl
  have f1 := blk_cell J1.out 1 rfl
  have f2 := blk_cell J1.out 2 rfl
  go_wp2_with fail
  refine (few06_calls t Hone.out _ a1.out).mono ?_
  rintro e w2 ⟨rfl, b2⟩
  have e2 := below_then e1 b2 e1.size
  have J2 := Au.mk (blk_below J1.out b2 (lt_of_block J1.out))
  have T2 := Au.mk (T1.out.below b2)
  have a2 := Au.mk (a1.out.below b2)
  have s2 := Au.mk (s1.out.below b2)
  clear f0 f1 f2 b2
  have f0 := blk_cell J2.out 0 rfl
  have f1 := blk_cell J2.out 1 rfl
  have f2 := blk_cell J2.out 2 rfl
  go_wp2_with fail
  refine (F16.out _).mono ?_
  rintro e w3 ⟨rfl, b3⟩
  have e3 := below_then e2 b3 e2.size
  have J3 := Au.mk (blk_below J2.out b3 (lt_of_block J2.out))
  have T3 := Au.mk (T2.out.below b3)
  have a3 := Au.mk (a2.out.below b3)
  have s3 := Au.mk (s2.out.below b3)
  clear f0 f1 f2 b3
  have f0 := blk_cell J3.out 0 rfl
  have f1 := blk_cell J3.out 1 rfl
  have f2 := blk_cell J3.out 2 rfl
  cases one
  · go_wp2_with fail
    go_ret
    exact ⟨rfl, e3⟩
  cases two
  · go_wp2_with fail
    go_ret
    exact ⟨rfl, e3⟩
  have hS := (few_all Hone.out).1
  have ht30 := (few_all Hone.out).2
  obtain ⟨⟨l, en⟩, Hl⟩ := au (vsplit t s)
  obtain ⟨ll, Hll⟩ := au l.length
  obtain ⟨q1, q2, q3, q4⟩ := room_ok Hl.out
  rw [Hll.out] at q1 q2 q3 q4
  have Q4 := Au.mk q4
  have c1 : ¬ ((s.caps.length : Int) < ll) := by omega
  clear q4
  go_wp2_with fail
  refine (CS.out hS l en Hl.out _ T3.out a3.out s3.out).mono ?_
  rintro e w4 ⟨A4, c4, rfl, v4, b4⟩
  rw [Hll.out]
  have V4 := Au.mk v4
  have e4 := below_then e3 b4 e3.size
  have J4 := Au.mk (blk_below J3.out b4 (lt_of_block J3.out))
  have T4 := Au.mk (T3.out.below b4)
  have a4 := Au.mk (a3.out.below b4)
  have s4 := Au.mk (s3.out.below b4)
  clear f0 f1 f2 b4
  have f0 := blk_cell J4.out 0 rfl
  have f1 := blk_cell J4.out 1 rfl
  have f2 := blk_cell J4.out 2 rfl
  clear v4
  have cs : en = 0 ∨ en = 14 ∨ (en ≠ 0 ∧ en ≠ 14) := by omega
  rcases cs with rfl | rfl | ⟨n0, n14⟩
  · have x3 : ((ll : Int) == 0) = false := by have := q2 rfl; rw [beq_eq_false_iff_ne]; omega
    clear q2 q3
    by_cases hin : 0 ≤ i ∧ i < ll
    · obtain ⟨j, rfl⟩ : ∃ j : Nat, i = j := ⟨i.toNat, by omega⟩
      have hj : (j : Int) < ll := hin.2
      have hj0 : ¬ (j : Int) < 0 := by omega
      have hjn : ¬ (ll : Int) ≤ j := by omega
      obtain ⟨v, hv⟩ : ∃ v, l[j]? = some v := ⟨_, List.getElem?_eq_getElem (by rw [Hll.out]; omega)⟩
      obtain ⟨hsm, cap, k1, k2, k3, k4, k5, k6⟩ := Q4.out j v hv
      obtain ⟨bb, oo, A5, c5, rfl, f4, v5⟩ := V4.out.slice_at hv
      obtain ⟨hcapR, bb', oo', rfl, f3⟩ := s4.out.intI_at k1
      have hcr := cap_range hsm j
      have hg : s.caps.getD j 0 = cap := by rw [List.getD_eq_getElem?_getD, k1]; rfl
      rw [hg] at hcr
      obtain ⟨_, hB1, hB2, _, _⟩ := smay_iff hsm
      obtain ⟨pr, Hpr⟩ := au (s.b * cap)
      rw [Hpr.out] at hcr k3 k5
      have hw1 : IntKind.i64.wrap (s.b * cap) = pr := by rw [Hpr.out, IntKind.wrap_i64]; omega
      have hjc : (j : Int) < s.caps.length := by have := (List.getElem?_eq_some_iff.1 k1).1; omega
      obtain ⟨vl, Hvl⟩ := au v.length
      rw [Hvl.out] at k2 k3 k4 k5 f4
      have k2' : (2 : Int) ≤ vl := by omega
      have k4' : (vl : Int) % s.b = 0 := by
        have h1 : ((vl % s.b.toNat : Nat) : Int) = 0 := by rw [k4]; rfl
        rw [Int.natCast_emod, Int.toNat_of_nonneg (by omega)] at h1
        exact h1
      have k4'' : Int.tmod (vl : Int) s.b = 0 := by rw [Int.tmod_eq_emod_of_nonneg (by omega)]; exact k4'
      have hwr : IntKind.i64.wrap 0 = 0 := rfl
      have hsb0 : s.b ≠ 0 := by omega
      have hsb1 : ¬ s.b = -1 := by omega
      have hwl : IntKind.i64.wrap ((ll : Int) - 1) = (ll : Int) - 1 := by rw [IntKind.wrap_i64]; omega
      have HM := Au.mk (fun n => bmay_calls v Hvl.out k6 (w4.drewN n) (v5.drewN n))
      have K5 := Au.mk k5
      clear hv k1 k4 k5 k6 v5 hg hcapR hin hsm
      by_cases heq : (vl : Int) = pr
      · have hr2 : pr % s.b = 0 := by rw [← heq]; exact k4'
        have hr3 : (2 : Int) ≤ pr := by omega
        go_wp2_with fail
        go_quiet (fail)
        go_wp2_with fail
        refine (HM.out _).mono ?_
        rintro e w5 ⟨rfl, rfl⟩
        go_wp2_with fail
        go_ret
        exact ⟨rfl, below_drewN e4 _⟩
      · have hlast := K5.out.resolve_left heq
        have hq' : ((vl : Int) == pr) = false := by rw [beq_eq_false_iff_ne]; exact heq
        have hl9 : IntKind.i64.wrap ((ll : Int) - 1) = (j : Int) := by rw [hwl]; omega
        clear hwl hlast
        go_wp2_with fail
        go_quiet (fail)
        go_wp2_with fail
        refine (HM.out _).mono ?_
        rintro e w5 ⟨rfl, rfl⟩
        go_wp2_with fail
        go_ret
        exact ⟨rfl, below_drewN e4 _⟩
    · rcases Int.lt_or_le i 0 with hi | hi
      · go_wp2_with fail
        go_ret
        exact ⟨rfl, e4⟩
      have hi2 : (ll : Int) ≤ i := by omega
      have hi3 : ¬ i < 0 := by omega
      clear hin
      go_wp2_with fail
      go_ret
      exact ⟨rfl, e4⟩
  · have x4 : ((ll : Int) != s.caps.length) = false := by have := q3 rfl; simp; omega
    clear q2 q3
    by_cases hin : 0 ≤ i ∧ i < ll
    · obtain ⟨j, rfl⟩ : ∃ j : Nat, i = j := ⟨i.toNat, by omega⟩
      have hj : (j : Int) < ll := hin.2
      have hj0 : ¬ (j : Int) < 0 := by omega
      have hjn : ¬ (ll : Int) ≤ j := by omega
      obtain ⟨v, hv⟩ : ∃ v, l[j]? = some v := ⟨_, List.getElem?_eq_getElem (by rw [Hll.out]; omega)⟩
      obtain ⟨hsm, cap, k1, k2, k3, k4, k5, k6⟩ := Q4.out j v hv
      obtain ⟨bb, oo, A5, c5, rfl, f4, v5⟩ := V4.out.slice_at hv
      obtain ⟨hcapR, bb', oo', rfl, f3⟩ := s4.out.intI_at k1
      have hcr := cap_range hsm j
      have hg : s.caps.getD j 0 = cap := by rw [List.getD_eq_getElem?_getD, k1]; rfl
      rw [hg] at hcr
      obtain ⟨_, hB1, hB2, _, _⟩ := smay_iff hsm
      obtain ⟨pr, Hpr⟩ := au (s.b * cap)
      rw [Hpr.out] at hcr k3 k5
      have hw1 : IntKind.i64.wrap (s.b * cap) = pr := by rw [Hpr.out, IntKind.wrap_i64]; omega
      have hjc : (j : Int) < s.caps.length := by have := (List.getElem?_eq_some_iff.1 k1).1; omega
      obtain ⟨vl, Hvl⟩ := au v.length
      rw [Hvl.out] at k2 k3 k4 k5 f4
      have k2' : (2 : Int) ≤ vl := by omega
      have k4' : (vl : Int) % s.b = 0 := by
        have h1 : ((vl % s.b.toNat : Nat) : Int) = 0 := by rw [k4]; rfl
        rw [Int.natCast_emod, Int.toNat_of_nonneg (by omega)] at h1
        exact h1
      have k4'' : Int.tmod (vl : Int) s.b = 0 := by rw [Int.tmod_eq_emod_of_nonneg (by omega)]; exact k4'
      have hwr : IntKind.i64.wrap 0 = 0 := rfl
      have hsb0 : s.b ≠ 0 := by omega
      have hsb1 : ¬ s.b = -1 := by omega
      have hwl : IntKind.i64.wrap ((ll : Int) - 1) = (ll : Int) - 1 := by rw [IntKind.wrap_i64]; omega
      have HM := Au.mk (fun n => bmay_calls v Hvl.out k6 (w4.drewN n) (v5.drewN n))
      have K5 := Au.mk k5
      clear hv k1 k4 k5 k6 v5 hg hcapR hin hsm
      by_cases heq : (vl : Int) = pr
      · have hr2 : pr % s.b = 0 := by rw [← heq]; exact k4'
        have hr3 : (2 : Int) ≤ pr := by omega
        go_wp2_with fail
        go_quiet (fail)
        go_wp2_with fail
        refine (HM.out _).mono ?_
        rintro e w5 ⟨rfl, rfl⟩
        go_wp2_with fail
        go_ret
        exact ⟨rfl, below_drewN e4 _⟩
      · have hlast := K5.out.resolve_left heq
        exact absurd hlast.1 (by decide)
    · rcases Int.lt_or_le i 0 with hi | hi
      · go_wp2_with fail
        go_ret
        exact ⟨rfl, e4⟩
      have hi2 : (ll : Int) ≤ i := by omega
      have hi3 : ¬ i < 0 := by omega
      clear hin
      go_wp2_with fail
      go_ret
      exact ⟨rfl, e4⟩
  · have n0' : (en == 0) = false := by simpa using n0
    have n14' : (en == 14) = false := by simpa using n14
    clear q2 q3
    by_cases hin : 0 ≤ i ∧ i < ll
    · obtain ⟨j, rfl⟩ : ∃ j : Nat, i = j := ⟨i.toNat, by omega⟩
      have hj : (j : Int) < ll := hin.2
      have hj0 : ¬ (j : Int) < 0 := by omega
      have hjn : ¬ (ll : Int) ≤ j := by omega
      obtain ⟨v, hv⟩ : ∃ v, l[j]? = some v := ⟨_, List.getElem?_eq_getElem (by rw [Hll.out]; omega)⟩
      obtain ⟨hsm, cap, k1, k2, k3, k4, k5, k6⟩ := Q4.out j v hv
      obtain ⟨bb, oo, A5, c5, rfl, f4, v5⟩ := V4.out.slice_at hv
      obtain ⟨hcapR, bb', oo', rfl, f3⟩ := s4.out.intI_at k1
      have hcr := cap_range hsm j
      have hg : s.caps.getD j 0 = cap := by rw [List.getD_eq_getElem?_getD, k1]; rfl
      rw [hg] at hcr
      obtain ⟨_, hB1, hB2, _, _⟩ := smay_iff hsm
      obtain ⟨pr, Hpr⟩ := au (s.b * cap)
      rw [Hpr.out] at hcr k3 k5
      have hw1 : IntKind.i64.wrap (s.b * cap) = pr := by rw [Hpr.out, IntKind.wrap_i64]; omega
      have hjc : (j : Int) < s.caps.length := by have := (List.getElem?_eq_some_iff.1 k1).1; omega
      obtain ⟨vl, Hvl⟩ := au v.length
      rw [Hvl.out] at k2 k3 k4 k5 f4
      have k2' : (2 : Int) ≤ vl := by omega
      have k4' : (vl : Int) % s.b = 0 := by
        have h1 : ((vl % s.b.toNat : Nat) : Int) = 0 := by rw [k4]; rfl
        rw [Int.natCast_emod, Int.toNat_of_nonneg (by omega)] at h1
        exact h1
      have k4'' : Int.tmod (vl : Int) s.b = 0 := by rw [Int.tmod_eq_emod_of_nonneg (by omega)]; exact k4'
      have hwr : IntKind.i64.wrap 0 = 0 := rfl
      have hsb0 : s.b ≠ 0 := by omega
      have hsb1 : ¬ s.b = -1 := by omega
      have hwl : IntKind.i64.wrap ((ll : Int) - 1) = (ll : Int) - 1 := by rw [IntKind.wrap_i64]; omega
      have HM := Au.mk (fun n => bmay_calls v Hvl.out k6 (w4.drewN n) (v5.drewN n))
      have K5 := Au.mk k5
      clear hv k1 k4 k5 k6 v5 hg hcapR hin hsm
      by_cases heq : (vl : Int) = pr
      · have hr2 : pr % s.b = 0 := by rw [← heq]; exact k4'
        have hr3 : (2 : Int) ≤ pr := by omega
        go_wp2_with fail
        go_quiet (fail)
        go_wp2_with fail
        refine (HM.out _).mono ?_
        rintro e w5 ⟨rfl, rfl⟩
        go_wp2_with fail
        go_ret
        exact ⟨rfl, below_drewN e4 _⟩
      · have hlast := K5.out.resolve_left heq
        exact absurd hlast.1 n0
    · rcases Int.lt_or_le i 0 with hi | hi
      · go_wp2_with fail
        go_ret
        exact ⟨rfl, e4⟩
      have hi2 : (ll : Int) ≤ i := by omega
      have hi3 : ¬ i < 0 := by omega
      clear hin
      go_wp2_with fail
      go_ret
      exact ⟨rfl, e4⟩
end Go.Proofs.YtmjicapjkmkckaaGreatDoor.Rk
