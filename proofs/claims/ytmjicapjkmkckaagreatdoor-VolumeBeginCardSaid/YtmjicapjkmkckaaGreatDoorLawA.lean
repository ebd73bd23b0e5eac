/- VolumeBound -/
import Derived.Test.YtmjicapjkmkckaaGreatDoorVlmS
namespace Go.Proofs.YtmjicapjkmkckaaGreatDoor.Rk
open Go.RowKit Go.Shelf
set_option linter.unusedVariables false
set_option linter.unusedSimpArgs false
set_option maxRecDepth 100000

/-- What holds if Split says that all is there. -/
theorem split_ok {t : List Nd} {s : St} {l : List (List (List UInt8))} (h : vsplit t s = (l, 0)) : tmay t = true ∧ smay s = true ∧ go t s 0 0 = (l, 0) := by
  unfold vsplit at h
  by_cases hc : (tmay t && smay s) = true
  · rw [if_pos hc] at h
    simp only [Bool.and_eq_true] at hc
    exact ⟨hc.1, hc.2, h⟩
  · rw [if_neg hc] at h
    injection h with _ h2
    cases h2
theorem smay_iff {s : St} (h : smay s = true) : lmay s.label 1 = true ∧ 1 ≤ s.b ∧ s.b ≤ 20 ∧ s.caps.length ≤ 12 ∧ ∀ n ∈ s.caps, 0 ≤ n ∧ n ≤ 200 := by
  unfold smay at h
  simpa only [Bool.and_eq_true, decide_eq_true_eq, List.all_eq_true] using h
theorem sall_pos {t : List Nd} (h : tmay t = true) : 2 ≤ (sall t).length := by
  unfold sall; rw [h]; simp
/-- The least that goes on in a volume, of the first k. -/
def least (s : St) : Nat → Int
  | 0 => s.b * 200
  | k + 1 => if s.b * (s.caps.getD k 0) - 4 < least s k then s.b * (s.caps.getD k 0) - 4 else least s k
theorem least_le {s : St} (k j : Nat) (h : j < k) : least s k ≤ s.b * (s.caps.getD j 0) - 4 := by
  induction k with
  | zero => omega
  | succ k ih =>
    unfold least
    by_cases hj : j = k
    · subst hj; split <;> omega
    · have := ih (by omega)
      split <;> omega
theorem cap_range {s : St} (h : smay s = true) (k : Nat) : 0 ≤ s.b * (s.caps.getD k 0) ∧ s.b * (s.caps.getD k 0) ≤ 4000 := by
  obtain ⟨_, h1, h2, _, h4⟩ := smay_iff h
  have hc : 0 ≤ s.caps.getD k 0 ∧ s.caps.getD k 0 ≤ 200 := by
    rw [List.getD_eq_getElem?_getD]
    cases hk : s.caps[k]? with
    | none => simp
    | some x => exact h4 x (List.mem_of_getElem? hk)
  refine ⟨Int.mul_nonneg (by omega) hc.1, ?_⟩
  have h5 : s.b * (s.caps.getD k 0) ≤ 20 * 200 := Int.mul_le_mul h2 hc.2 hc.1 (by omega)
  omega
theorem least_range {s : St} (h : smay s = true) (k : Nat) : -4 ≤ least s k ∧ least s k ≤ 4000 := by
  obtain ⟨_, h1, h2, _, h4⟩ := smay_iff h
  induction k with
  | zero => unfold least; omega
  | succ k ih =>
    have := cap_range h k
    unfold least
    split <;> omega
theorem bound_ok {t : List Nd} {s : St} {l : List (List (List UInt8))} (h : vsplit t s = (l, 0)) : l.length ≤ (sall t).length ∧ 1 ≤ l.length ∧ l.length ≤ s.caps.length ∧ (1 ≤ least s l.length → ((l.length : Int) - 1) * least s l.length < (sall t).length) := by
  obtain ⟨h1, h2, h3⟩ := split_ok h
  obtain ⟨hl, hB1, hB2, hc, hcaps⟩ := smay_iff h2
  have hp := sall_pos h1
  have hb1 : ∀ p n : Nat, 1 ≤ (vbeg t s (p : Nat) (n : Nat)).length := fun p n => (vbeg_len t s _ _).1
  have hb4 : ∀ p n : Nat, (vbeg t s (p : Nat) (n : Nat)).length ≤ 4 := fun p n => (vbeg_len t s _ _).2
  have hz : ∀ k, 1 ≤ k → k ≤ s.b.toNat → (zblocks k).length = k := fun k hk1 hk2 => by unfold zblocks; rw [if_neg (by omega)]; simp
  have h3' : sgo (sall t) (fun pos n => vbeg t s (pos : Nat) (n : Nat)) zblocks s.b.toNat (s.caps.map Int.toNat) 0 0 = (l, 0) := h3
  have r1 := sgo_room (all := sall t) (bg := fun pos n => vbeg t s (pos : Nat) (n : Nat)) (z := zblocks) (B := s.b.toNat) (by omega) hz hb1 (s.caps.map Int.toNat) 0 0
  rw [h3'] at r1
  have r2 := sgo_bound (all := sall t) (bg := fun pos n => vbeg t s (pos : Nat) (n : Nat)) (z := zblocks) (B := s.b.toNat) hb1 hb4
  have r3 := r2 1 (Nat.le_refl _) (s.caps.map Int.toNat) 0 0 (by rw [h3']) (by omega)
  rw [h3'] at r3
  have hle : l.length ≤ s.caps.length := by simpa using r1.1
  have h1l : 1 ≤ l.length := r1.2.2.2.1 rfl (by omega)
  refine ⟨by have := r3.1; simpa using this, h1l, hle, fun hl1 => ?_⟩
  obtain ⟨q, hq⟩ : ∃ q : Nat, least s l.length = (q : Int) := ⟨(least s l.length).toNat, by omega⟩
  have r4 := (r2 q (by omega) (s.caps.map Int.toNat) 0 0 (by rw [h3']) (by omega)).2
  rw [h3'] at r4
  have r5 := r4 (fun j cap hj hcap => by
    have hj' : j < l.length := hj
    have h5 := least_le (s := s) l.length j hj'
    rw [List.getElem?_map] at hcap
    obtain ⟨x, hx1, hx2⟩ := Option.map_eq_some_iff.1 hcap
    rw [List.getD_eq_getElem?_getD, hx1, Option.getD_some, hq] at h5
    have hx0 := hcaps x (List.mem_of_getElem? hx1)
    have h6 : ((s.b.toNat * cap : Nat) : Int) = s.b * x := by
      rw [← hx2, Int.natCast_mul, Int.toNat_of_nonneg (by omega), Int.toNat_of_nonneg hx0.1]
    omega)
  have r6 : (l.length - 1) * q < (sall t).length := by simpa using r5
  rw [hq]
  have h7 : ((l.length : Int) - 1) = ((l.length - 1 : Nat) : Int) := by omega
  rw [h7, ← Int.natCast_mul]
  exact_mod_cast r6
set_option maxHeartbeats 2000000 in
theorem VolumeBound_walk (t : List Nd) (s : St) (hsb : R64 s.b) {A Ac : Option Addr} {c cc : Nat} {F G : Nat → Prop} (w : World) (ha : Sl Kd.nd w F A c t) (hs : Sl Kd.int w G Ac cc s.caps) (hT : Tab w) :
    Calls Tryz.prog 5 #[.slice A t.length c, s.agg Ac cc] w fun e w' => e = .returned (.bool true) ∧ Below w.heap.size w w' := by
  have J0 : Au ((w.alloc (.cells (s.cells Ac cc).toArray 25)).heap[w.heap.size]? = some (.cells (s.cells Ac cc).toArray 25 (0, 0))) := ⟨heap_alloc_new _ _⟩
  have e0 := (Below.refl w.heap.size w).alloc (Nat.le_refl _) (.cells (s.cells Ac cc).toArray 25)
  have s0 := Au.mk (hs.old.alloc (.cells (s.cells Ac cc).toArray 25))
  have a0 := Au.mk (ha.old.alloc (.cells (s.cells Ac cc).toArray 25))
  have T0 := Au.mk (hT.below e0)
  have hcc := hs.le
  have htt := ha.le
  have f0 := blk_cell J0.out 0 rfl
  have f1 := blk_cell J0.out 1 rfl
  have f2 := blk_cell J0.out 2 rfl
  obtain ⟨one, Hone⟩ := au (fewT t)
  obtain ⟨two, Htwo⟩ := au (fewS s)
  have F16 := Au.mk (fun W : World => few16_calls s Htwo.out (A := Ac) (c := cc) W)
  have CS := Au.mk (fun (hS : AllS t) (l : List (List (List UInt8))) (en : Int) (h : vsplit t s = (l, en)) (W : World) (hT : Tab W) (h1 : Sl Kd.nd W (fun k => F k ∧ k < w.heap.size) A c t) (h2 : Sl Kd.int W (fun k => G k ∧ k < w.heap.size) Ac cc s.caps) => split_calls t hS s h W hT h1 h2)
  have CN := Au.mk (fun (hS : AllS t) (r : Int) (h : vneeds t s = r) (W : World) (hT : Tab W) (h1 : Sl Kd.nd W (fun k => F k ∧ k < w.heap.size) A c t) (h2 : Sl Kd.int W (fun k => G k ∧ k < w.heap.size) Ac cc s.caps) => needs_calls t hS s h W hT h1 h2)
  have CM := Au.mk (fun (r : Bool) (h : smay s = r) (W : World) (h2 : Sl Kd.int W (fun k => G k ∧ k < w.heap.size) Ac cc s.caps) => smay_calls s h W h2)
  unfold St.agg at F16 CS CN CM ⊢
  unfold St.cells at f0 f1 f2 e0 s0 J0 a0 T0
  clear ha hs hT
  go_enter Tryz.func5, Tryz.ntmps5
  go_wp2_with fail
  refine (awake16_calls _ T0.out).mono ?_
  rintro e w1 ⟨rfl, b1⟩
  have e1 := below_then e0 b1 e0.size
  have J1 := Au.mk (blk_below J0.out b1 (lt_of_block J0.out))
  have T1 := Au.mk (T0.out.below b1)
  have a1 := Au.mk (a0.out.below b1)
  have s1 := Au.mk (s0.out.below b1)
  clear f0 f1 f2 b1
  have f0 := blk_cell J1.out 0 rfl
  have f1 := blk_cell J1.out 1 rfl
  have f2 := blk_cell J1.out 2 rfl
  go_wp2_with fail
  refine (few06_calls t Hone.out _ a1.out).mono ?_
  rintro e w2 ⟨rfl, b2⟩
  have e2 := below_then e1 b2 e1.size
  have J2 := Au.mk (blk_below J1.out b2 (lt_of_block J1.out))
  have T2 := Au.mk (T1.out.below b2)
  have a2 := Au.mk (a1.out.below b2)
  have s2 := Au.mk (s1.out.below b2)
  clear f0 f1 f2 b2
  have f0 := blk_cell J2.out 0 rfl
  have f1 := blk_cell J2.out 1 rfl
  have f2 := blk_cell J2.out 2 rfl
  go_wp2_with fail
  refine (F16.out _).mono ?_
  rintro e w3 ⟨rfl, b3⟩
  have e3 := below_then e2 b3 e2.size
  have J3 := Au.mk (blk_below J2.out b3 (lt_of_block J2.out))
  have T3 := Au.mk (T2.out.below b3)
  have a3 := Au.mk (a2.out.below b3)
  have s3 := Au.mk (s2.out.below b3)
  clear f0 f1 f2 b3
  have f0 := blk_cell J3.out 0 rfl
  have f1 := blk_cell J3.out 1 rfl
  have f2 := blk_cell J3.out 2 rfl
  cases one
  · go_wp2_with fail
    go_ret
    exact ⟨rfl, e3⟩
  cases two
  · go_wp2_with fail
    go_ret
    exact ⟨rfl, e3⟩
  have hS := (few_all Hone.out).1
  have ht30 := (few_all Hone.out).2
  obtain ⟨⟨l, en⟩, Hl⟩ := au (vsplit t s)
  obtain ⟨nn, Hnn⟩ := au (vneeds t s)
  obtain ⟨ll, Hll⟩ := au l.length
  go_wp2_with fail
  refine (CS.out hS l en Hl.out _ T3.out a3.out s3.out).mono ?_
  rintro e w4 ⟨A4, c4, rfl, v4, b4⟩
  rw [Hll.out]
  have e4 := below_then e3 b4 e3.size
  have J4 := Au.mk (blk_below J3.out b4 (lt_of_block J3.out))
  have T4 := Au.mk (T3.out.below b4)
  have a4 := Au.mk (a3.out.below b4)
  have s4 := Au.mk (s3.out.below b4)
  clear f0 f1 f2 b4
  have f0 := blk_cell J4.out 0 rfl
  have f1 := blk_cell J4.out 1 rfl
  have f2 := blk_cell J4.out 2 rfl
  clear v4
  obtain ⟨d, Hd⟩ := au (en != 0)
  have hd := Hd.out
  cases d
  · have hen : en = 0 := by simpa using hd
    subst hen
    obtain ⟨m, Hm⟩ := au (sall t).length
    obtain ⟨hb1, hb2, hb3, hb4⟩ := bound_ok Hl.out
    rw [Hm.out, Hll.out] at hb4
    rw [Hm.out, Hll.out] at hb1
    rw [Hll.out] at hb2 hb3
    have hok := split_ok Hl.out
    obtain ⟨_, hB1, hB2, hc12, _⟩ := smay_iff hok.2.1
    have Hsm := Au.mk hok.2.1
    have hn1 : Au ((ll : Int) = nn) := ⟨by rw [← Hnn.out]; unfold vneeds; rw [Hl.out, if_pos rfl, ← Hll.out]⟩
    have hw0 : IntKind.i64.wrap (s.b * 200) = s.b * 200 := by rw [IntKind.wrap_i64]; omega
    have hm1000 : m ≤ 1000 := by have := (sall_len hok.1).2; rw [Hm.out] at this; omega
    have Hb4 := Au.mk hb4
    clear hok hb4
    go_wp2_with fail
    refine (smany_calls t hS Hm.out _ a4.out).mono ?_
    rintro e w5 ⟨rfl, b5⟩
    have e5 := below_then e4 b5 e4.size
    have J5 := Au.mk (blk_below J4.out b5 (lt_of_block J4.out))
    have T5 := Au.mk (T4.out.below b5)
    have a5 := Au.mk (a4.out.below b5)
    have s5 := Au.mk (s4.out.below b5)
    clear f0 f1 f2 b5
    have f0 := blk_cell J5.out 0 rfl
    have f1 := blk_cell J5.out 1 rfl
    have f2 := blk_cell J5.out 2 rfl
    go_wp2_with fail
    go_loopw [11, 12] (fun x i wr => ∃ k : Nat, k ≤ ll ∧ i = .int .i64 (k : Int) ∧ Au (x = .int .i64 (least s k)) ∧ Drawn w5 wr) (fun _ i _ => ll - (intOf i).toNat)
    case atStart => exact ⟨0, Nat.zero_le _, rfl, ⟨rfl⟩, Drawn.refl _⟩
    case round =>
      obtain ⟨k, hk, rfl, Hx, ⟨nd, rfl⟩⟩ := hrel
      have hx := Hx.out
      subst hx
      obtain ⟨le, Hle⟩ := au (least s k)
      have hler := least_range Hsm.out k
      rw [Hle.out] at hler ⊢
      by_cases hlt : k < ll
      · have hlti : (k : Int) < ll := by omega
        have hlc : k < s.caps.length := by omega
        obtain ⟨cap, hcap⟩ : ∃ cap, s.caps[k]? = some cap := ⟨_, List.getElem?_eq_getElem hlc⟩
        obtain ⟨hcapR, bb, oo, rfl, f3⟩ := s5.out.intI_at hcap
        have hcr := cap_range Hsm.out k
        have hg : s.caps.getD k 0 = cap := by rw [List.getD_eq_getElem?_getD, hcap]; rfl
        rw [hg] at hcr
        obtain ⟨pr, Hpr⟩ := au (s.b * cap)
        rw [Hpr.out] at hcr
        have hw1 : IntKind.i64.wrap (s.b * cap) = pr := by rw [Hpr.out, IntKind.wrap_i64]; omega
        have hw2 : IntKind.i64.wrap (pr - 4) = pr - 4 := by rw [IntKind.wrap_i64]; omega
        have Hg := Au.mk hg
        have hlsc : (k : Int) < s.caps.length := by omega
        obtain ⟨q, Hq⟩ := au (decide (pr - 4 < le))
        have hq := Hq.out
        clear hcap hg hcapR
        cases q
        · go_wp2_with fail
          go_quiet (fail)
          go_wp2_with fail
          go_roundw
          case rel =>
            refine ⟨k + 1, by omega, by go_num, ⟨?_⟩, ⟨_, rfl⟩⟩
            have e : least s (k + 1) = le := by
              show (if s.b * (s.caps.getD k 0) - 4 < least s k then s.b * (s.caps.getD k 0) - 4 else least s k) = le
              rw [Hg.out, Hpr.out, Hle.out, if_neg (of_decide_eq_false Hq.out)]
            rw [e]
          case measure => simp [intOf]; omega
        · go_wp2_with fail
          go_quiet (fail)
          go_wp2_with fail
          go_quiet (fail)
          go_wp2_with fail
          go_roundw
          case rel =>
            refine ⟨k + 1, by omega, by go_num, ⟨?_⟩, ⟨_, rfl⟩⟩
            have e : least s (k + 1) = pr - 4 := by
              show (if s.b * (s.caps.getD k 0) - 4 < least s k then s.b * (s.caps.getD k 0) - 4 else least s k) = pr - 4
              rw [Hg.out, Hpr.out, Hle.out, if_pos (of_decide_eq_true Hq.out)]
            rw [e]
          case measure => simp [intOf]; omega
      · have hkl : k = ll := by omega
        subst hkl
        have hge : ¬ ((k : Int) < k) := by omega
        have hb4 := Hb4.out
        rw [Hle.out] at hb4
        have d5 : Below w.heap.size w (w5.drewN nd) := below_drewN e5 nd
        have hw6 : IntKind.i64.wrap ((k : Int) - 1) = (k : Int) - 1 := by rw [IntKind.wrap_i64]; omega
        obtain ⟨pp, Hpp⟩ := au (((k : Int) - 1) * le)
        have hppr : 1 ≤ le → 0 ≤ pp ∧ pp < m := fun h => ⟨by rw [← Hpp.out]; exact Int.mul_nonneg (by omega) (by omega), by rw [← Hpp.out]; exact hb4 h⟩
        have hk1 : decide ((k : Int) ≤ m) = true := by simp; omega
        have hk2 : decide ((1 : Int) ≤ k) = true := by simp; omega
        have Hppr := Au.mk hppr
        by_cases h1 : le < 1
        · clear hb4 hlt hppr
          go_wp2_with fail
          refine (CN.out hS nn Hnn.out _ (T5.out.below (below_drewN (Below.refl _ _) nd)) (a5.out.drewN nd) (s5.out.drewN nd)).mono ?_
          rintro e w6 ⟨rfl, b6⟩
          have e6 := below_then d5 b6 d5.size
          rw [← hn1.out]
          clear f0 f1 f2 b6
          go_wp2_with fail
          go_ret
          exact ⟨rfl, e6⟩
        · have h2 := Hppr.out (by omega)
          have hw7 : IntKind.i64.wrap (((k : Int) - 1) * le) = pp := by rw [Hpp.out, IntKind.wrap_i64]; omega
          obtain ⟨h3, h4⟩ := h2
          clear hb4 hlt hppr
          go_wp2_with fail
          refine (CN.out hS nn Hnn.out _ (T5.out.below (below_drewN (Below.refl _ _) nd)) (a5.out.drewN nd) (s5.out.drewN nd)).mono ?_
          rintro e w6 ⟨rfl, b6⟩
          have e6 := below_then d5 b6 d5.size
          rw [← hn1.out]
          clear f0 f1 f2 b6
          go_wp2_with fail
          go_ret
          exact ⟨rfl, e6⟩
  · have hn1 : Au (-1 = nn) := ⟨by rw [← Hnn.out]; unfold vneeds; rw [Hl.out, if_neg (by simpa using hd)]⟩
    go_wp2_with fail
    refine (CN.out hS nn Hnn.out _ T4.out a4.out s4.out).mono ?_
    rintro e w5 ⟨rfl, b5⟩
    have e5 := below_then e4 b5 e4.size
    rw [← hn1.out]
    clear f0 f1 f2 b5
    go_wp2_with fail
    go_ret
    exact ⟨rfl, e5⟩
end Go.Proofs.YtmjicapjkmkckaaGreatDoor.Rk
