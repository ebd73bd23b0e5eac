/- StripOther -/
import Derived.Test.YtldhcknjpmbgnaaGreatDoorStpW
import Derived.Deep.DeepCutAuto
namespace Go.Proofs.YtldhcknjpmbgnaaGreatDoor.Rk
open Go.RowKit Go.Shelf
set_option linter.unusedVariables false
set_option linter.unusedSimpArgs false
set_option maxRecDepth 100000

set_option maxHeartbeats 4000000 in
theorem StripOther_walk (t : List Nd) (s : St) (hsb : R64 s.b) (k : Int) (i : Int) (name : List UInt8) (hkR : R64 k) (hiR : R64 i) (hname : name.length ≤ maxLen) {A Ac : Option Addr} {c cc : Nat} {F G : Nat → Prop} (w : World) (ha : Sl Kd.nd w F A c t) (hs : Sl Kd.int w G Ac cc s.caps) (hT : Tab w) :
    Calls Tryz.prog 7 #[.slice A t.length c, s.agg Ac cc, .int .i64 k, .int .i64 i, .string (ofL name)] w fun e w' => e = .returned (.bool true) ∧ Below w.heap.size w w' := by
  have J0 : Au ((w.alloc (.cells (s.cells Ac cc).toArray 50)).heap[w.heap.size]? = some (.cells (s.cells Ac cc).toArray 50 (0, 0))) := ⟨heap_alloc_new _ _⟩
  have e0 := (Below.refl w.heap.size w).alloc (Nat.le_refl _) (.cells (s.cells Ac cc).toArray 50)
  have s0 := Au.mk (hs.old.alloc (.cells (s.cells Ac cc).toArray 50))
  have a0 := Au.mk (ha.old.alloc (.cells (s.cells Ac cc).toArray 50))
  have T0 := Au.mk (hT.below e0)
  have hcc := hs.le
  have htt := ha.le
  have f0 := blk_cell J0.out 0 rfl
  have f1 := blk_cell J0.out 1 rfl
  have f2 := blk_cell J0.out 2 rfl
  obtain ⟨one, Hone⟩ := au (fewT t)
  obtain ⟨two, Htwo⟩ := au (fewS s)
  have F16 := Au.mk (fun W : World => few16_calls s Htwo.out (A := Ac) (c := cc) W)
  have CS := Au.mk (fun (hS : AllS t) (l : List (List (List UInt8))) (en : Int) (h : vsplit t s = (l, en)) (W : World) (hT : Tab W) (h1 : Sl Kd.nd W (fun k => F k ∧ k < w.heap.size) A c t) (h2 : Sl Kd.int W (fun k => G k ∧ k < w.heap.size) Ac cc s.caps) => split_calls t hS s h W hT h1 h2)
  unfold St.agg at F16 CS ⊢
  unfold St.cells at f0 f1 f2 e0 s0 J0 a0 T0
  clear ha hs hT
  go_enter Tryz.func7, Tryz.ntmps7
  go_wp2_with fail
  refine (awake17_calls _ T0.out).mono ?_
  rintro e w1 ⟨rfl, b1⟩
  have e1 := below_then e0 b1 e0.size
  have J1 := Au.mk (blk_below J0.out b1 (lt_of_block J0.out))
  have T1 := Au.mk (T0.out.below b1)
  have a1 := Au.mk (a0.out.below b1)
  have s1 := Au.mk (s0.out.below b1)
  clear f0 f1 f2 b1
  have f0 := blk_cell J1.out 0 rfl
  have f1 := blk_cell J1.out 1 rfl
  have f2 := blk_cell J1.out 2 rfl
  go_wp2_with fail
  refine (few06_calls t Hone.out _ a1.out).mono ?_
  rintro e w2 ⟨rfl, b2⟩
  have e2 := below_then e1 b2 e1.size
  have J2 := Au.mk (blk_below J1.out b2 (lt_of_block J1.out))
  have T2 := Au.mk (T1.out.below b2)
  have a2 := Au.mk (a1.out.below b2)
  have s2 := Au.mk (s1.out.below b2)
  clear f0 f1 f2 b2
  have f0 := blk_cell J2.out 0 rfl
  have f1 := blk_cell J2.out 1 rfl
  have f2 := blk_cell J2.out 2 rfl
  go_wp2_with fail
  refine (F16.out _).mono ?_
  rintro e w3 ⟨rfl, b3⟩
  have e3 := below_then e2 b3 e2.size
  have J3 := Au.mk (blk_below J2.out b3 (lt_of_block J2.out))
  have T3 := Au.mk (T2.out.below b3)
  have a3 := Au.mk (a2.out.below b3)
  have s3 := Au.mk (s2.out.below b3)
  clear f0 f1 f2 b3
  have f0 := blk_cell J3.out 0 rfl
  have f1 := blk_cell J3.out 1 rfl
  have f2 := blk_cell J3.out 2 rfl
  cases one
  · go_wp2_with fail
    go_ret
    exact ⟨rfl, e3⟩
  cases two
  · go_wp2_with fail
    go_ret
    exact ⟨rfl, e3⟩
  have hS := (few_all Hone.out).1
  have ht30 := (few_all Hone.out).2
  have hsz : (ofL name).size = name.length := ofL_size name
  by_cases hn2 : 200 < name.length
  · have z1 : decide ((200 : Int) < ((ofL name).size : Int)) = true := decide_eq_true (by rw [hsz]; omega)
    have z2 : decide (200 < (ofL name).size) = true := decide_eq_true (by rw [hsz]; exact hn2)
    clear hn2 hsz
    go_wp2_with fail
    go_ret
    exact ⟨rfl, e3⟩
  have z1 : decide ((200 : Int) < ((ofL name).size : Int)) = false := decide_eq_false (by rw [hsz]; omega)
  have z2 : decide (200 < (ofL name).size) = false := decide_eq_false (by rw [hsz]; exact hn2)
  clear hsz
  obtain ⟨⟨l, en⟩, Hl⟩ := au (vsplit t s)
  obtain ⟨ll, Hll⟩ := au l.length
  have VL := Au.mk (vols_len Hl.out)
  have hl20 : ll ≤ 20 := by
    have h1 := (room_ok Hl.out).1
    have h2 : s.caps.length ≤ 20 := by
      have := Htwo.out
      unfold fewS at this
      simp only [Bool.and_eq_true, decide_eq_true_eq] at this
      exact this.2
    rw [← Hll.out]; omega
  go_wp2_with fail
  refine (CS.out hS l en Hl.out _ T3.out a3.out s3.out).mono ?_
  rintro e w4 ⟨A4, c4, rfl, v4, b4⟩
  rw [Hll.out]
  have V4 := Au.mk v4
  have e4 := below_then e3 b4 e3.size
  have J4 := Au.mk (blk_below J3.out b4 (lt_of_block J3.out))
  have T4 := Au.mk (T3.out.below b4)
  have a4 := Au.mk (a3.out.below b4)
  have s4 := Au.mk (s3.out.below b4)
  clear f0 f1 f2 b4
  have f0 := blk_cell J4.out 0 rfl
  have f1 := blk_cell J4.out 1 rfl
  have f2 := blk_cell J4.out 2 rfl
  clear v4
  by_cases h1 : en = 1
  · have t1 : (en == 1) = true := by simp [h1]
    clear h1
    go_wp2_with fail
    go_ret
    exact ⟨rfl, e4⟩
  have t1 : (en == 1) = false := by simp [h1]
  by_cases hk0 : k < 0
  · go_wp2_with fail
    go_ret
    exact ⟨rfl, e4⟩
  by_cases hkl : (ll : Int) ≤ k
  · go_wp2_with fail
    go_ret
    exact ⟨rfl, e4⟩
  by_cases hi0 : i < 0
  · go_wp2_with fail
    go_ret
    exact ⟨rfl, e4⟩
  by_cases hil : (ll : Int) ≤ i
  · go_wp2_with fail
    go_ret
    exact ⟨rfl, e4⟩
  obtain ⟨kn, rfl⟩ : ∃ j : Nat, k = (j : Int) := ⟨k.toNat, by omega⟩
  obtain ⟨m, rfl⟩ : ∃ j : Nat, i = (j : Int) := ⟨i.toNat, by omega⟩
  have hkn : kn < ll := by omega
  have hmn : m < ll := by omega
  have hknI : (kn : Int) < ll := by omega
  have hmI : (m : Int) < ll := by omega
  obtain ⟨v, hv⟩ : ∃ v, l[kn]? = some v := ⟨_, List.getElem?_eq_getElem (by rw [Hll.out]; exact hkn)⟩
  obtain ⟨u, hu⟩ : ∃ u, l[m]? = some u := ⟨_, List.getElem?_eq_getElem (by rw [Hll.out]; exact hmn)⟩
  obtain ⟨⟨st, so, se⟩, FW⟩ := au (sstrip s.label (l.take kn))
  obtain ⟨b, ⟨-, p2⟩, p3, p4⟩ := strip_other Hl.out h1 hv hu name
  rw [FW.out] at p2 p3 p4
  obtain ⟨⟨n1, f1'⟩, S1⟩ := au (sone st s.label ((kn + 1 : Nat) : Int) u)
  obtain ⟨⟨n2, g1'⟩, S2⟩ := au (sone st name ((kn + 1 : Nat) : Int) v)
  have F1 : Au ((f1' = 0 ∧ m = kn) ∨ (f1' = 11 ∧ n1 = 0 ∧ m ≠ kn)) := ⟨by
    by_cases hmk : m = kn
    · left
      rw [hmk] at hu
      have huv : u = v := by rw [hv] at hu; injection hu with hu; exact hu.symm
      have := S1.out
      rw [huv] at this
      have h3 := p2.symm.trans this
      injection h3 with _ h3
      exact ⟨h3.symm, hmk⟩
    · right
      have h3 := (p3 hmk).symm.trans S1.out
      injection h3 with h4 h3
      exact ⟨h3.symm, h4.symm, hmk⟩⟩
  have G1 : Au ((g1' = 0 ∧ name = s.label) ∨ (g1' = 11 ∧ name ≠ s.label)) := ⟨by
    by_cases hnl : name = s.label
    · left
      have := S2.out
      rw [hnl] at this
      have h3 := p2.symm.trans this
      injection h3 with _ h3
      exact ⟨h3.symm, hnl⟩
    · right
      have h3 := (p4 hnl).symm.trans S2.out
      injection h3 with _ h3
      exact ⟨h3.symm, hnl⟩⟩
  have STS : Au (st.S ∧ st.R) := ⟨by have := sstrip_ok s.label (l.take kn); rw [FW.out] at this; exact this⟩
  have hlt : (l.take kn).length = kn := by rw [List.length_take, Hll.out]; omega
  have htt : (l.take kn).take kn = l.take kn := List.take_of_length_le (by omega)
  have hB : ∀ v ∈ (l.take kn).take kn, v.length ≤ 4000 := fun v hv => VL.out v (List.mem_of_mem_take (List.mem_of_mem_take hv))
  have VT := Au.mk (V4.out.take rfl kn)
  have hjc : kn ≤ c4 := by have := V4.out.1; rw [Hll.out] at this; omega
  have C10 := Au.mk (fun (W : World) (hT : Tab W) (F' : Nat → Prop) (h : Sl KBk3 W F' A4 c4 (l.take kn)) => Left_calls s.label (l.take kn) hlt (Nat.le_refl _) (by omega) hB (.inl rfl) (show sstrip s.label ((l.take kn).take kn) = (st, so, se) by rw [htt]; exact FW.out) W hT h)
  unfold Ps.agg at C10
  have hmx : Tryz.prog.follows .mixedOrders = true := by kernel_rfl
  have Hv := Au.mk hv
  have Hu := Au.mk hu
  clear hlt htt hB p2 p3 p4 hv hu h1
  have hw1 : IntKind.i64.wrap ((kn : Int) + 1) = (kn : Int) + 1 := by rw [IntKind.wrap_i64]; omega
  go_upto_region 9 with fail
  go_cut [16] (fun v wx => ∃ q : Nat, v = .pointer (some ⟨q, 0, none⟩) ∧ wx.heap[q]? = some (.cells st.cells.toArray 25 (0, 0)) ∧ Below w4.heap.size w4 wx)
  case first =>
    refine Code.wp_mono Calm.imp ?_
    refine region_tre (fun w' => BlkIs w' w.heap.size #[.string (ofL s.label), .int .i64 s.b, .slice Ac s.caps.length cc] 50) (Ord.rds [0, 1, 2, 3, 4] (.two 5 6 (.now 6 (.now 7 .stop)) (.now 5 (.now 7 .stop)))) hmx (by kernel_rfl) ⟨J4.out⟩ ?_
    clear f0 f1 f2
    iterate 5
      refine ordX_rd rfl ⟨?_, Or.inl ⟨by rfl, fun w' hw' => ?_⟩, ?_⟩
      rotate_left 1
      · skip
        have q0 := blk_cell hw'.out 0 rfl
        have q1 := blk_cell hw'.out 1 rfl
        have q2 := blk_cell hw'.out 2 rfl
        clear hw'
        go_simp
        all_goals (with_reducible rfl)
      try simp only [Act.put, List.getElem_toArray, List.getElem_cons_succ, List.getElem_cons_zero, List.setIfInBounds_toArray, List.set_cons_zero, List.set_cons_succ]
    refine ordX_two rfl (by rfl) rfl (by rfl) ?_ ?_
    · go_simp
      refine (C10.out _ (T4.out.below (below_drewN (Below.refl _ _) 1)) _ (VT.out.drewN 1)).mono ?_
      rintro e w6 ⟨rfl, b6'⟩
      have b6 : Below w4.heap.size w4 w6 := (below_drewN (Below.refl _ _) 1).trans b6'
      have B6 := Au.mk b6
      have J6 := Au.mk (blk_below J4.out b6 (lt_of_block J4.out))
      clear b6 b6'
      refine ⟨⟨J6.out⟩, ?_⟩
      try simp only [Act.put, List.getElem_toArray, List.getElem_cons_succ, List.getElem_cons_zero, List.setIfInBounds_toArray, List.set_cons_zero, List.set_cons_succ]
      refine ordX_now rfl (by rfl) ?_
      go_simp
      have B7 := Au.mk ((Below.refl w6.heap.size w6).alloc (Nat.le_refl _) (.cells ps0.cells.toArray 25))
      have J7 := Au.mk (blk_alloc J6.out (.cells ps0.cells.toArray 25))
      have N7 := Au.mk (heap_alloc_new w6 (.cells ps0.cells.toArray 25))
      generalize hW7 : w6.alloc (.cells ps0.cells.toArray 25) = W7 at B7 J7 N7
      have hW7' : w6.alloc (.cells #[.int .i64 0, .string ⟨#[]⟩, .string ⟨#[]⟩, .int .u8 0, .int .i64 0, .int .i64 0, .int .i64 0, .int .i64 0, .string ⟨#[]⟩, .int .i64 0, .int .i64 0, .string ⟨#[]⟩, .string ⟨#[]⟩, .string ⟨#[]⟩] 25) = W7 := hW7
      rw [hW7']
      clear hW7 hW7'
      refine ⟨⟨J7.out⟩, ?_⟩
      obtain ⟨x0, x1, x2, x3, x4, x5, x6, x7, x8, x9, x10, x11, x12, x13⟩ := st_cells ps0 N7.out
      obtain ⟨y0, y1, y2, y3, y4, y5, y6, y7, y8, y9, y10, y11, y12, y13⟩ := ps_free N7.out
      try simp only [Act.put, List.getElem_toArray, List.getElem_cons_succ, List.getElem_cons_zero, List.setIfInBounds_toArray, List.set_cons_zero, List.set_cons_succ]
      refine ordX_now rfl (by rfl) ?_
      go_simp
      rw [store_ps]
      clear x0 x1 x2 x3 x4 x5 x6 x7 x8 x9 x10 x11 x12 x13 y0 y1 y2 y3 y4 y5 y6 y7 y8 y9 y10 y11 y12 y13
      have hb8 : Below w6.heap.size w6 (setPs W7 w6.heap.size st) := setPs_below B7.out
      have J8 := Au.mk (blk_below J6.out hb8 (lt_of_block J6.out))
      have N8 := Au.mk (setPs_block (s := st) N7.out)
      have B8 := Au.mk (below_then B6.out hb8 B6.out.size)
      generalize setPs W7 w6.heap.size st = W8 at J8 N8 B8 ⊢
      clear hb8 J7 N7 B7
      refine ⟨⟨J8.out⟩, ?_⟩
      refine ordX_stop ?_
      simp only [wpList, Calm]
      go_wp2_with fail
      go_meet
      exact ⟨_, rfl, N8.out, B8.out⟩
    · go_simp
      have B6 := Au.mk (below_drewN ((Below.refl w4.heap.size w4).alloc (Nat.le_refl _) (.cells ps0.cells.toArray 25)) 1)
      have J6 := Au.mk (blk_below J4.out B6.out (lt_of_block J4.out))
      have V6 := Au.mk ((VT.out.alloc (.cells ps0.cells.toArray 25)).drewN 1)
      have N6 : Au ((w4.alloc (.cells ps0.cells.toArray 25)).drew.heap[w4.heap.size]? = some (.cells ps0.cells.toArray 25 (0, 0))) := ⟨heap_alloc_new w4 (.cells ps0.cells.toArray 25)⟩
      have T6 := Au.mk (T4.out.below B6.out)
      have hdr : (w4.alloc (.cells ps0.cells.toArray 25)).drewN 1 = (w4.alloc (.cells ps0.cells.toArray 25)).drew := rfl
      rw [hdr] at B6 J6 V6 T6
      generalize hW6 : (w4.alloc (.cells ps0.cells.toArray 25)).drew = W6 at B6 J6 V6 N6 T6
      have hW6' : (w4.alloc (.cells #[.int .i64 0, .string ⟨#[]⟩, .string ⟨#[]⟩, .int .u8 0, .int .i64 0, .int .i64 0, .int .i64 0, .int .i64 0, .string ⟨#[]⟩, .int .i64 0, .int .i64 0, .string ⟨#[]⟩, .string ⟨#[]⟩, .string ⟨#[]⟩] 25)).drew = W6 := hW6
      rw [hW6']
      clear hW6 hW6' hdr
      refine ⟨⟨J6.out⟩, ?_⟩
      try simp only [Act.put, List.getElem_toArray, List.getElem_cons_succ, List.getElem_cons_zero, List.setIfInBounds_toArray, List.set_cons_zero, List.set_cons_succ]
      refine ordX_now rfl (by rfl) ?_
      go_simp
      refine (C10.out _ T6.out _ V6.out).mono ?_
      rintro e w7 ⟨rfl, b7⟩
      have J7 := Au.mk (blk_below J6.out b7 (lt_of_block J6.out))
      have N7 := Au.mk (blk_below N6.out b7 (lt_of_block N6.out))
      have B7 := Au.mk (below_then B6.out b7 (Nat.le_of_lt (lt_of_block N6.out)))
      clear b7
      refine ⟨⟨J7.out⟩, ?_⟩
      obtain ⟨x0, x1, x2, x3, x4, x5, x6, x7, x8, x9, x10, x11, x12, x13⟩ := st_cells ps0 N7.out
      obtain ⟨y0, y1, y2, y3, y4, y5, y6, y7, y8, y9, y10, y11, y12, y13⟩ := ps_free N7.out
      try simp only [Act.put, List.getElem_toArray, List.getElem_cons_succ, List.getElem_cons_zero, List.setIfInBounds_toArray, List.set_cons_zero, List.set_cons_succ]
      refine ordX_now rfl (by rfl) ?_
      go_simp
      rw [store_ps]
      clear x0 x1 x2 x3 x4 x5 x6 x7 x8 x9 x10 x11 x12 x13 y0 y1 y2 y3 y4 y5 y6 y7 y8 y9 y10 y11 y12 y13
      have hb8 : Below w4.heap.size w4 (setPs w7 w4.heap.size st) := setPs_below B7.out
      have J8 := Au.mk (blk_below J4.out hb8 (lt_of_block J4.out))
      have N8 := Au.mk (setPs_block (s := st) N7.out)
      have B8 := Au.mk hb8
      generalize setPs w7 w4.heap.size st = W8 at J8 N8 B8 ⊢
      clear hb8 J7 N7 B7
      refine ⟨⟨J8.out⟩, ?_⟩
      refine ordX_stop ?_
      simp only [wpList, Calm]
      go_wp2_with fail
      go_meet
      exact ⟨_, rfl, N8.out, B8.out⟩
  obtain ⟨q, rfl, nq, bq⟩ := hcut
  have NQ := Au.mk nq
  have e5 := below_then e4 bq e4.size
  have J5 := Au.mk (blk_below J4.out bq (lt_of_block J4.out))
  have T5 := Au.mk (T4.out.below bq)
  have V5 := Au.mk (V4.out.below bq)
  clear nq bq f0 f1 f2
  obtain ⟨ba, oa, Ai, ci, rfl, fi, si⟩ := V5.out.slice_at Hu.out
  obtain ⟨ba', oa', Ak, ck, hA, fk, sk⟩ := V5.out.slice_at Hv.out
  injection hA with hA
  injection hA with hA1 hA2
  subst hA1 hA2
  obtain ⟨ul, Ul⟩ := au u.length
  obtain ⟨vl, Vl⟩ := au v.length
  rw [Ul.out] at fi
  rw [Vl.out] at fk
  have SI := Au.mk si
  have SK := Au.mk sk
  have CI := Au.mk (fun (W : World) (hT : Tab W) (F' : Nat → Prop) (h : Sl (Kd.slice Kd.byte) W F' Ai ci u) => sone_calls st STS.out.1 STS.out.2 s.label ((kn : Int) + 1) u Ul.out (show sone st s.label ((kn : Int) + 1) u = (n1, f1') from S1.out) W hT h)
  have CK := Au.mk (fun (W : World) (hT : Tab W) (F' : Nat → Prop) (h : Sl (Kd.slice Kd.byte) W F' Ak ck v) => sone_calls st STS.out.1 STS.out.2 name ((kn : Int) + 1) v Vl.out (show sone st name ((kn : Int) + 1) v = (n2, g1') from S2.out) W hT h)
  unfold Ps.agg at CI CK
  clear si sk V4 VT C10
  have f0 := blk_cell J5.out 0 rfl
  go_upto_region 10 with fail
  refine Code.wp_mono Calm.imp ?_
  refine region_tre (fun w' => BlkIs w' q st.cells.toArray 25 ∧ BlkIs w' w.heap.size #[.string (ofL s.label), .int .i64 s.b, .slice Ac s.caps.length cc] 50 ∧ w'.cell? ⟨ba, oa + m, none⟩ = some (.slice Ai ul ci)) (Ord.rds [0, 1, 2, 3, 4, 5, 6, 7, 8] (.now 9 (Ord.rds [10, 11, 12, 13, 14] .stop))) hmx (by kernel_rfl) ⟨⟨NQ.out⟩, ⟨J5.out⟩, fi⟩ ?_
  clear f0
  iterate 9
    refine ordX_rd rfl ⟨?_, Or.inl ⟨by rfl, fun w' hw' => ?_⟩, ?_⟩
    rotate_left 1
    · skip
      obtain ⟨x0, x1, x2, x3, x4, x5, x6, x7, x8, x9, x10, x11, x12, x13⟩ := st_cells st hw'.1.out
      have q0 := blk_cell hw'.2.1.out 0 rfl
      have q1 := blk_cell hw'.2.1.out 1 rfl
      have q2 := blk_cell hw'.2.1.out 2 rfl
      have q3 := hw'.2.2
      clear hw'
      go_simp
      all_goals (with_reducible rfl)
    try simp only [Act.put, List.getElem_toArray, List.getElem_cons_succ, List.getElem_cons_zero, List.setIfInBounds_toArray, List.set_cons_zero, List.set_cons_succ]
  refine ordX_now rfl (by rfl) ?_
  go_simp
  refine (CI.out _ (T5.out.below (below_drewN (Below.refl _ _) 1)) _ (SI.out.drewN 1)).mono ?_
  rintro e w6 ⟨rfl, b6'⟩
  have b6 : Below wc.heap.size wc w6 := (below_drewN (Below.refl _ _) 1).trans b6'
  have NQ6 := Au.mk (blk_below NQ.out b6 (lt_of_block NQ.out))
  have J6 := Au.mk (blk_below J5.out b6 (lt_of_block J5.out))
  have T6 := Au.mk (T5.out.below b6)
  have SK6 := Au.mk (SK.out.below b6)
  have e6 := below_then e5 b6 e5.size
  have fi6 := cell_below fi b6
  have fk6 := cell_below fk b6
  clear b6 b6' fi fk SI SK NQ J5 T5 CI
  refine ⟨⟨⟨NQ6.out⟩, ⟨J6.out⟩, fi6⟩, ?_⟩
  iterate 5
    refine ordX_rd rfl ⟨?_, Or.inl ⟨by rfl, fun w' hw' => ?_⟩, ?_⟩
    rotate_left 1
    · skip
      clear hw'
      go_simp
      all_goals (with_reducible rfl)
    try simp only [Act.put, List.getElem_toArray, List.getElem_cons_succ, List.getElem_cons_zero, List.setIfInBounds_toArray, List.set_cons_zero, List.set_cons_succ]
  refine ordX_stop ?_
  simp only [wpList, Calm]
  have f0 := blk_cell J6.out 0 rfl
  go_upto_region 11 with fail
  refine Code.wp_mono Calm.imp ?_
  refine region_tre (fun w' => BlkIs w' q st.cells.toArray 25 ∧ BlkIs w' w.heap.size #[.string (ofL s.label), .int .i64 s.b, .slice Ac s.caps.length cc] 50 ∧ w'.cell? ⟨ba, oa + kn, none⟩ = some (.slice Ak vl ck)) (Ord.rds [0, 1, 2, 3, 4, 5, 6, 7] (.now 8 (Ord.rds [9, 10, 11, 12, 13] .stop))) hmx (by kernel_rfl) ⟨⟨NQ6.out⟩, ⟨J6.out⟩, fk6⟩ ?_
  clear f0
  iterate 8
    refine ordX_rd rfl ⟨?_, Or.inl ⟨by rfl, fun w' hw' => ?_⟩, ?_⟩
    rotate_left 1
    · skip
      obtain ⟨x0, x1, x2, x3, x4, x5, x6, x7, x8, x9, x10, x11, x12, x13⟩ := st_cells st hw'.1.out
      have q0 := blk_cell hw'.2.1.out 0 rfl
      have q1 := blk_cell hw'.2.1.out 1 rfl
      have q2 := blk_cell hw'.2.1.out 2 rfl
      have q3 := hw'.2.2
      clear hw'
      go_simp
      all_goals (with_reducible rfl)
    try simp only [Act.put, List.getElem_toArray, List.getElem_cons_succ, List.getElem_cons_zero, List.setIfInBounds_toArray, List.set_cons_zero, List.set_cons_succ]
  refine ordX_now rfl (by rfl) ?_
  go_simp
  refine (CK.out _ (T6.out.below (below_drewN (Below.refl _ _) 1)) _ (SK6.out.drewN 1)).mono ?_
  rintro e w7 ⟨rfl, b7'⟩
  have b7 : Below w6.heap.size w6 w7 := (below_drewN (Below.refl _ _) 1).trans b7'
  have NQ7 := Au.mk (blk_below NQ6.out b7 (lt_of_block NQ6.out))
  have J7 := Au.mk (blk_below J6.out b7 (lt_of_block J6.out))
  have e7 := below_then e6 b7 e6.size
  have fk7 := cell_below fk6 b7
  clear b7 b7' fi6 fk6 SK6 NQ6 T6 CK J6
  refine ⟨⟨⟨NQ7.out⟩, ⟨J7.out⟩, fk7⟩, ?_⟩
  iterate 5
    refine ordX_rd rfl ⟨?_, Or.inl ⟨by rfl, fun w' hw' => ?_⟩, ?_⟩
    rotate_left 1
    · skip
      clear hw'
      go_simp
      all_goals (with_reducible rfl)
    try simp only [Act.put, List.getElem_toArray, List.getElem_cons_succ, List.getElem_cons_zero, List.setIfInBounds_toArray, List.set_cons_zero, List.set_cons_succ]
  refine ordX_stop ?_
  simp only [wpList, Calm]
  clear fk7 hk0 hkl hi0 hil hkn hmn hknI hmI
  have f0 := blk_cell J7.out 0 rfl
  rcases F1.out with ⟨rfl, hmk⟩ | ⟨rfl, rfl, hmk⟩
  · have i1 : ((m : Int) == (kn : Int)) = true := by simp [hmk]
    rcases G1.out with ⟨rfl, hnl⟩ | ⟨rfl, hnl⟩
    · have i2 : (name == s.label) = true := by simp [hnl]
      clear hmk hnl
      go_wp2_with fail
      go_ret
      exact ⟨rfl, e7⟩
    · have i2 : (name == s.label) = false := by simp [hnl]
      clear hmk hnl
      go_wp2_with fail
      go_ret
      exact ⟨rfl, e7⟩
  · have i1 : ((m : Int) == (kn : Int)) = false := by simp; omega
    rcases G1.out with ⟨rfl, hnl⟩ | ⟨rfl, hnl⟩
    · have i2 : (name == s.label) = true := by simp [hnl]
      clear hmk hnl
      go_wp2_with fail
      go_ret
      exact ⟨rfl, e7⟩
    · have i2 : (name == s.label) = false := by simp [hnl]
      clear hmk hnl
      go_wp2_with fail
      go_ret
      exact ⟨rfl, e7⟩
end Go.Proofs.YtldhcknjpmbgnaaGreatDoor.Rk
