/- StripLeft -/
import Derived.Test.YtldhcknjpmbgnaaGreatDoorStpW
import Derived.Deep.DeepCutAuto
namespace Go.Proofs.YtldhcknjpmbgnaaGreatDoor.Rk
open Go.RowKit Go.Shelf
set_option linter.unusedVariables false
set_option linter.unusedSimpArgs false
set_option maxRecDepth 100000

theorem peq_self (s : Ps) : peq s s = true := by
  simp [peq, neq]
set_option maxHeartbeats 4000000 in
theorem StripLeft_walk (t : List Nd) (s : St) (hsb : R64 s.b) (k : Int) (hkR : R64 k) {A Ac : Option Addr} {c cc : Nat} {F G : Nat → Prop} (w : World) (ha : Sl Kd.nd w F A c t) (hs : Sl Kd.int w G Ac cc s.caps) (hT : Tab w) :
    Calls Tryz.prog 9 #[.slice A t.length c, s.agg Ac cc, .int .i64 k] w fun e w' => e = .returned (.bool true) ∧ Below w.heap.size w w' := by
  have J0 : Au ((w.alloc (.cells (s.cells Ac cc).toArray 50)).heap[w.heap.size]? = some (.cells (s.cells Ac cc).toArray 50 (0, 0))) := ⟨heap_alloc_new _ _⟩
  have e0 := (Below.refl w.heap.size w).alloc (Nat.le_refl _) (.cells (s.cells Ac cc).toArray 50)
  have s0 := Au.mk (hs.old.alloc (.cells (s.cells Ac cc).toArray 50))
  have a0 := Au.mk (ha.old.alloc (.cells (s.cells Ac cc).toArray 50))
  have T0 := Au.mk (hT.below e0)
  have hcc := hs.le
  have htt := ha.le
  have f0 := blk_cell J0.out 0 rfl
  have f1 := blk_cell J0.out 1 rfl
  have f2 := blk_cell J0.out 2 rfl
  obtain ⟨one, Hone⟩ := au (fewT t)
  obtain ⟨two, Htwo⟩ := au (fewS s)
  have F16 := Au.mk (fun W : World => few16_calls s Htwo.out (A := Ac) (c := cc) W)
  have CS := Au.mk (fun (hS : AllS t) (l : List (List (List UInt8))) (en : Int) (h : vsplit t s = (l, en)) (W : World) (hT : Tab W) (h1 : Sl Kd.nd W (fun k => F k ∧ k < w.heap.size) A c t) (h2 : Sl Kd.int W (fun k => G k ∧ k < w.heap.size) Ac cc s.caps) => split_calls t hS s h W hT h1 h2)
  unfold St.agg at F16 CS ⊢
  unfold St.cells at f0 f1 f2 e0 s0 J0 a0 T0
  clear ha hs hT
  go_enter Tryz.func9, Tryz.ntmps9
  go_wp2_with fail
  refine (awake17_calls _ T0.out).mono ?_
  rintro e w1 ⟨rfl, b1⟩
  have e1 := below_then e0 b1 e0.size
  have J1 := Au.mk (blk_below J0.out b1 (lt_of_block J0.out))
  have T1 := Au.mk (T0.out.below b1)
  have a1 := Au.mk (a0.out.below b1)
  have s1 := Au.mk (s0.out.below b1)
  clear f0 f1 f2 b1
  have f0 := blk_cell J1.out 0 rfl
  have f1 := blk_cell J1.out 1 rfl
  have f2 := blk_cell J1.out 2 rfl
  go_wp2_with fail
  refine (few06_calls t Hone.out _ a1.out).mono ?_
  rintro e w2 ⟨rfl, b2⟩
  have e2 := below_then e1 b2 e1.size
  have J2 := Au.mk (blk_below J1.out b2 (lt_of_block J1.out))
  have T2 := Au.mk (T1.out.below b2)
  have a2 := Au.mk (a1.out.below b2)
  have s2 := Au.mk (s1.out.below b2)
  clear f0 f1 f2 b2
  have f0 := blk_cell J2.out 0 rfl
  have f1 := blk_cell J2.out 1 rfl
  have f2 := blk_cell J2.out 2 rfl
  go_wp2_with fail
  refine (F16.out _).mono ?_
  rintro e w3 ⟨rfl, b3⟩
  have e3 := below_then e2 b3 e2.size
  have J3 := Au.mk (blk_below J2.out b3 (lt_of_block J2.out))
  have T3 := Au.mk (T2.out.below b3)
  have a3 := Au.mk (a2.out.below b3)
  have s3 := Au.mk (s2.out.below b3)
  clear f0 f1 f2 b3
  have f0 := blk_cell J3.out 0 rfl
  have f1 := blk_cell J3.out 1 rfl
  have f2 := blk_cell J3.out 2 rfl
  cases one
  · go_wp2_with fail
    go_ret
    exact ⟨rfl, e3⟩
  cases two
  · go_wp2_with fail
    go_ret
    exact ⟨rfl, e3⟩
  have hS := (few_all Hone.out).1
  have ht30 := (few_all Hone.out).2
  obtain ⟨⟨l, en⟩, Hl⟩ := au (vsplit t s)
  obtain ⟨ll, Hll⟩ := au l.length
  obtain ⟨al, Hal⟩ := au (sall t)
  obtain ⟨tm, Htm⟩ := au (tmay t)
  obtain ⟨m, Hm⟩ := au al.length
  have VL := Au.mk (vols_len Hl.out)
  have hl20 : ll ≤ 20 := by
    have h1 := (room_ok Hl.out).1
    have h2 : s.caps.length ≤ 20 := by
      have := Htwo.out
      unfold fewS at this
      simp only [Bool.and_eq_true, decide_eq_true_eq] at this
      exact this.2
    rw [← Hll.out]; omega
  have HB := Au.mk (fun (pos n : Int) (hp : R64 pos) (hn : R64 n) (l : List (List UInt8)) (h : vbeginO t s pos n = some l) (W : World) (hT : Tab W) (h1 : Sl Kd.nd W (fun k => F k ∧ k < w.heap.size) A c t) (h2 : Sl Kd.int W (fun k => G k ∧ k < w.heap.size) Ac cc s.caps) => vbegin_calls t hS s pos n hp hn (b := true) (by rw [h]; rfl) (l := l) (by rw [h]; rfl) W hT h1 h2)
  unfold St.agg at HB
  go_wp2_with fail
  refine (CS.out hS l en Hl.out _ T3.out a3.out s3.out).mono ?_
  rintro e w4 ⟨A4, c4, rfl, v4, b4⟩
  rw [Hll.out]
  have V4 := Au.mk v4
  have e4 := below_then e3 b4 e3.size
  have J4 := Au.mk (blk_below J3.out b4 (lt_of_block J3.out))
  have T4 := Au.mk (T3.out.below b4)
  have a4 := Au.mk (a3.out.below b4)
  have s4 := Au.mk (s3.out.below b4)
  clear f0 f1 f2 b4
  have f0 := blk_cell J4.out 0 rfl
  have f1 := blk_cell J4.out 1 rfl
  have f2 := blk_cell J4.out 2 rfl
  clear v4
  by_cases h1 : en = 1
  · have t1 : (en == 1) = true := by simp [h1]
    clear h1
    go_wp2_with fail
    go_ret
    exact ⟨rfl, e4⟩
  have t1 : (en == 1) = false := by simp [h1]
  by_cases hk0 : k < 0
  · go_wp2_with fail
    go_ret
    exact ⟨rfl, e4⟩
  by_cases hkl : (ll : Int) < k
  · go_wp2_with fail
    go_ret
    exact ⟨rfl, e4⟩
  obtain ⟨kn, rfl⟩ : ∃ j : Nat, k = (j : Int) := ⟨k.toNat, by omega⟩
  have hkn : kn ≤ ll := by omega
  obtain ⟨htm, -⟩ := (stream_ok Hl.out).2 h1
  have hm1000 : m ≤ 1000 := by have := (sall_len htm).2; rw [Hal.out, Hm.out] at this; omega
  obtain ⟨P, P0, PV, PS⟩ := strip_left Hl.out h1
  obtain ⟨st, ev, hst, hse⟩ := PS kn (by rw [Hll.out]; exact hkn)
  have HST := Au.mk hst
  obtain ⟨⟨st0, so, se⟩, FW⟩ := au (sstrip s.label (l.take kn))
  rw [FW.out] at hse
  have hse : st0 = st := hse
  rw [hse] at FW
  clear hse
  have PV' := Au.mk PV
  have P0' := Au.mk P0
  have STS : Au (st.S ∧ st.R) := ⟨by have := sstrip_ok s.label (l.take kn); rw [FW.out] at this; exact this⟩
  have hlt : (l.take kn).length = kn := by rw [List.length_take, Hll.out]; omega
  have htt : (l.take kn).take kn = l.take kn := List.take_of_length_le (by omega)
  have hB : ∀ v ∈ (l.take kn).take kn, v.length ≤ 4000 := fun v hv => VL.out v (List.mem_of_mem_take (List.mem_of_mem_take hv))
  have VT := Au.mk (V4.out.take rfl kn)
  have hjc : kn ≤ c4 := by have := V4.out.1; rw [Hll.out] at this; omega
  have CL := Au.mk (fun (W : World) (hT : Tab W) (F' : Nat → Prop) (h : Sl KBk3 W F' A4 c4 (l.take kn)) => Left_calls s.label (l.take kn) hlt (Nat.le_refl _) (by omega) hB (.inl rfl) (show sstrip s.label ((l.take kn).take kn) = (st, so, se) by rw [htt]; exact FW.out) W hT h)
  unfold Ps.agg at CL
  have hmx : Tryz.prog.follows .mixedOrders = true := by kernel_rfl
  clear hlt htt hB PV P0 PS hst htm
  go_wp2_with fail
  refine (sall_calls t hS Hal.out Htm.out _ a4.out).mono ?_
  rintro e w5 ⟨A5, c5, rfl, u5, b5⟩
  rw [Hm.out]
  have U5 := Au.mk u5
  have V5 := Au.mk (V4.out.below b5)
  have VT5 := Au.mk (VT.out.below b5)
  have e5 := below_then e4 b5 e4.size
  have J5 := Au.mk (blk_below J4.out b5 (lt_of_block J4.out))
  have T5 := Au.mk (T4.out.below b5)
  have a5 := Au.mk (a4.out.below b5)
  have s5 := Au.mk (s4.out.below b5)
  clear f0 f1 f2 b5
  have f0 := blk_cell J5.out 0 rfl
  have f1 := blk_cell J5.out 1 rfl
  have f2 := blk_cell J5.out 2 rfl
  clear u5 f0 f1 f2
  go_wp2_with fail
  go_loopw [14, 15] (fun ps i wr => ∃ (j p : Nat), j ≤ kn ∧ p ≤ 4000 * j ∧ i = .int .i64 (j : Int) ∧ ps = .int .i64 (p : Int) ∧ Au (p = P j) ∧ Au (Below w5.heap.size w5 wr)) (fun _ i _ => kn - (intOf i).toNat)
  case atStart => exact ⟨0, 0, Nat.zero_le _, Nat.zero_le _, rfl, rfl, ⟨P0'.out.symm⟩, ⟨Below.refl _ _⟩⟩
  case round =>
    obtain ⟨j, p, hj, hp4, rfl, rfl, Hp, Hb⟩ := hrel
    have J6 := Au.mk (blk_below J5.out Hb.out (lt_of_block J5.out))
    have T6 := Au.mk (T5.out.below Hb.out)
    have f0 := blk_cell J6.out 0 rfl
    have f1 := blk_cell J6.out 1 rfl
    have f2 := blk_cell J6.out 2 rfl
    by_cases hlt : j < kn
    · have hlti : (j : Int) < kn := by omega
      obtain ⟨v, hv⟩ : ∃ v, l[j]? = some v := ⟨_, List.getElem?_eq_getElem (by rw [Hll.out]; omega)⟩
      obtain ⟨b, B1, B3, B8⟩ := PV'.out j v hv
      rw [← Hp.out] at B1 B8
      obtain ⟨bb, oo, A6, c6, rfl, f3, v6⟩ := (V5.out.below Hb.out).slice_at hv
      have a6 := Au.mk (a5.out.below Hb.out)
      have s6 := Au.mk (s5.out.below Hb.out)
      obtain ⟨vl, Hvl⟩ := au v.length
      obtain ⟨bl, Hbl⟩ := au b.length
      have hv4 : vl ≤ 4000 := by rw [← Hvl.out]; exact VL.out v (List.mem_of_getElem? hv)
      rw [Hvl.out] at f3 B3 B8
      rw [Hbl.out] at B3 B8
      have B8' := Au.mk B8
      have HBk := Au.mk (HB.out (p : Int) ((j : Int) + 1) ⟨by omega, by omega⟩ ⟨by omega, by omega⟩ b (by simpa using B1) wr T6.out a6.out s6.out)
      rw [Hbl.out] at HBk
      have hwk : IntKind.i64.wrap ((j : Int) + 1) = (j : Int) + 1 := by rw [IntKind.wrap_i64]; omega
      have hwa : IntKind.i64.wrap ((p : Int) + vl) = (p : Int) + vl := by rw [IntKind.wrap_i64]; omega
      have hws : IntKind.i64.wrap ((p : Int) + vl - bl) = ((p + (vl - bl) : Nat) : Int) := by rw [IntKind.wrap_i64]; omega
      have hjl : (j : Int) < ll := by omega
      clear B1 B8 v6 hv hlt
      go_wp2_with fail
      refine HBk.out.mono ?_
      rintro e w6 ⟨A7, c7, rfl, s7, b6⟩
      have f4 := cell_below f3 b6
      have hb7 := Au.mk (below_then Hb.out b6 Hb.out.size)
      clear f0 f1 f2 f3 b6 s7
      go_wp2_with fail
      go_roundw
      case rel => exact ⟨j + 1, p + (vl - bl), by omega, by omega, by go_num, rfl, ⟨B8'.out.symm⟩, hb7⟩
      case measure => simp [intOf]; omega
    · obtain rfl : j = kn := by omega
      have U6 := Au.mk (U5.out.below Hb.out)
      have VT6 := Au.mk (VT5.out.below Hb.out)
      have e6 := below_then e5 Hb.out e5.size
      rw [← Hp.out] at HST
      have hq : ∀ W : World, (binOp .eql 25 (.agg #[.int .i64 st.phase, .string (ofL st.node.path), .string (ofL st.node.link), .int .u8 st.node.kind.toNat, .int .i64 st.node.mode, .int .i64 st.node.uid, .int .i64 st.node.gid, .int .i64 st.node.mtime, .string (ofL st.node.data), .int .i64 st.size, .int .i64 st.left, .string (ofL st.text), .string (ofL st.name), .string (ofL st.link)]) (.agg #[.int .i64 st.phase, .string (ofL st.node.path), .string (ofL st.node.link), .int .u8 st.node.kind.toNat, .int .i64 st.node.mode, .int .i64 st.node.uid, .int .i64 st.node.gid, .int .i64 st.node.mtime, .string (ofL st.node.data), .int .i64 st.size, .int .i64 st.left, .string (ofL st.text), .string (ofL st.name), .string (ofL st.link)])).run Tryz.prog W = .ok (.bool true) W := fun W => by
        have := eql_st st st W
        rw [peq_self] at this
        exact this
      by_cases hpm : m < p
      · have hpmI : (m : Int) < p := by omega
        have hpl : (al.take m).length = m := by rw [List.length_take, Hm.out]; omega
        have hpr : prun ps0 (al.take m) = (st, ev, m, 0) := by
          have := prun_steps HST.out
          rw [Hal.out] at this
          have e1 : al.take p = al.take m := by rw [List.take_of_length_le (by rw [Hm.out]; omega), List.take_of_length_le (by rw [Hm.out]; exact Nat.le_refl _)]
          rw [e1] at this
          rw [this, hpl]
        have hpc : m ≤ c5 := by have := U5.out.1; rw [Hm.out] at this; omega
        have CR := Au.mk (show Calls Tryz.prog 30 #[.agg #[.int .i64 0, .string ⟨#[]⟩, .string ⟨#[]⟩, .int .u8 0, .int .i64 0, .int .i64 0, .int .i64 0, .int .i64 0, .string ⟨#[]⟩, .int .i64 0, .int .i64 0, .string ⟨#[]⟩, .string ⟨#[]⟩, .string ⟨#[]⟩], .slice A5 m c5] wr (RunRes wr (st, ev, m, 0)) by
          have := prun_calls ps0 ps0_S ps0_R (al.take m) (by omega) wr (U6.out.take rfl m)
          rw [hpl, hpr] at this
          exact this)
        clear hpl hpr f0 f1 f2
        go_wp2_with fail
        refine CR.out.mono ?_
        rintro e w7 ⟨A7, c7, he, s7, b7⟩
        dsimp only at he s7
        unfold Ps.agg at he
        subst he
        have J7 := Au.mk (blk_below J6.out b7 (lt_of_block J6.out))
        have T7 := Au.mk (T6.out.below b7)
        have VT7 := Au.mk (VT6.out.below b7)
        have e7 := below_then e6 b7 e6.size
        have B8 := Au.mk ((Below.refl w7.heap.size w7).alloc (Nat.le_refl _) (.cells st.cells.toArray 25))
        have N8 := Au.mk (heap_alloc_new w7 (.cells st.cells.toArray 25))
        clear s7 b7 CR
        go_upto_region 21 with fail
        generalize hW8 : w7.alloc (.cells st.cells.toArray 25) = W8 at B8 N8
        have hW8' : w7.alloc (.cells #[.int .i64 st.phase, .string (ofL st.node.path), .string (ofL st.node.link), .int .u8 st.node.kind.toNat, .int .i64 st.node.mode, .int .i64 st.node.uid, .int .i64 st.node.gid, .int .i64 st.node.mtime, .string (ofL st.node.data), .int .i64 st.size, .int .i64 st.left, .string (ofL st.text), .string (ofL st.name), .string (ofL st.link)] 25) = W8 := hW8
        rw [hW8']
        clear hW8 hW8'
        have J8 := Au.mk (blk_below J7.out B8.out (lt_of_block J7.out))
        have T8 := Au.mk (T7.out.below B8.out)
        have VT8 := Au.mk (VT7.out.below B8.out)
        have e8 := below_then e7 B8.out e7.size
        refine Code.wp_mono Calm.imp ?_
        refine region_tre (fun w' => BlkIs w' w7.heap.size st.cells.toArray 25 ∧ BlkIs w' w.heap.size #[.string (ofL s.label), .int .i64 s.b, .slice Ac s.caps.length cc] 50) (Ord.rds [0, 1, 2, 3, 4, 5, 6, 7, 9] (.now 8 (Ord.rds [10, 11, 12] .stop))) hmx (by kernel_rfl) ⟨⟨N8.out⟩, ⟨J8.out⟩⟩ ?_
        iterate 9
          refine ordX_rd rfl ⟨?_, Or.inl ⟨by rfl, fun w' hw' => ?_⟩, ?_⟩
          rotate_left 1
          · skip
            obtain ⟨x0, x1, x2, x3, x4, x5, x6, x7, x8, x9, x10, x11, x12, x13⟩ := st_cells st hw'.1.out
            have q0 := blk_cell hw'.2.out 0 rfl
            have q1 := blk_cell hw'.2.out 1 rfl
            have q2 := blk_cell hw'.2.out 2 rfl
            clear hw'
            go_simp
            all_goals (with_reducible rfl)
          try simp only [Act.put, List.getElem_toArray, List.getElem_cons_succ, List.getElem_cons_zero, List.setIfInBounds_toArray, List.set_cons_zero, List.set_cons_succ]
        refine ordX_now rfl (by rfl) ?_
        go_simp
        refine (CL.out _ (T8.out.below (below_drewN (Below.refl _ _) 1)) _ (VT8.out.drewN 1)).mono ?_
        rintro e w9 ⟨rfl, b9'⟩
        have b9 : Below W8.heap.size W8 w9 := (below_drewN (Below.refl _ _) 1).trans b9'
        have e9 := below_then e8 b9 e8.size
        refine ⟨⟨⟨blk_below N8.out b9 (lt_of_block N8.out)⟩, ⟨blk_below J8.out b9 (lt_of_block J8.out)⟩⟩, ?_⟩
        iterate 3
          refine ordX_rd rfl ⟨?_, Or.inl ⟨by rfl, fun w' hw' => ?_⟩, ?_⟩
          rotate_left 1
          · skip
            clear hw'
            go_simp
            all_goals (with_reducible rfl)
          try simp only [Act.put, List.getElem_toArray, List.getElem_cons_succ, List.getElem_cons_zero, List.setIfInBounds_toArray, List.set_cons_zero, List.set_cons_succ]
        refine ordX_stop ?_
        simp only [wpList, Calm]
        go_wp2_with fail
        go_ret
        exact ⟨rfl, e9⟩
      · have hpmI : ¬ (m : Int) < p := by omega
        have hpl : (al.take p).length = p := by rw [List.length_take, Hm.out]; omega
        have hpr : prun ps0 (al.take p) = (st, ev, p, 0) := by
          have := prun_steps HST.out
          rw [Hal.out] at this
          skip
          rw [this, hpl]
        have hpc : p ≤ c5 := by have := U5.out.1; rw [Hm.out] at this; omega
        have CR := Au.mk (show Calls Tryz.prog 30 #[.agg #[.int .i64 0, .string ⟨#[]⟩, .string ⟨#[]⟩, .int .u8 0, .int .i64 0, .int .i64 0, .int .i64 0, .int .i64 0, .string ⟨#[]⟩, .int .i64 0, .int .i64 0, .string ⟨#[]⟩, .string ⟨#[]⟩, .string ⟨#[]⟩], .slice A5 p c5] wr (RunRes wr (st, ev, p, 0)) by
          have := prun_calls ps0 ps0_S ps0_R (al.take p) (by omega) wr (U6.out.take rfl p)
          rw [hpl, hpr] at this
          exact this)
        clear hpl hpr f0 f1 f2
        go_wp2_with fail
        refine CR.out.mono ?_
        rintro e w7 ⟨A7, c7, he, s7, b7⟩
        dsimp only at he s7
        unfold Ps.agg at he
        subst he
        have J7 := Au.mk (blk_below J6.out b7 (lt_of_block J6.out))
        have T7 := Au.mk (T6.out.below b7)
        have VT7 := Au.mk (VT6.out.below b7)
        have e7 := below_then e6 b7 e6.size
        have B8 := Au.mk ((Below.refl w7.heap.size w7).alloc (Nat.le_refl _) (.cells st.cells.toArray 25))
        have N8 := Au.mk (heap_alloc_new w7 (.cells st.cells.toArray 25))
        clear s7 b7 CR
        go_upto_region 21 with fail
        generalize hW8 : w7.alloc (.cells st.cells.toArray 25) = W8 at B8 N8
        have hW8' : w7.alloc (.cells #[.int .i64 st.phase, .string (ofL st.node.path), .string (ofL st.node.link), .int .u8 st.node.kind.toNat, .int .i64 st.node.mode, .int .i64 st.node.uid, .int .i64 st.node.gid, .int .i64 st.node.mtime, .string (ofL st.node.data), .int .i64 st.size, .int .i64 st.left, .string (ofL st.text), .string (ofL st.name), .string (ofL st.link)] 25) = W8 := hW8
        rw [hW8']
        clear hW8 hW8'
        have J8 := Au.mk (blk_below J7.out B8.out (lt_of_block J7.out))
        have T8 := Au.mk (T7.out.below B8.out)
        have VT8 := Au.mk (VT7.out.below B8.out)
        have e8 := below_then e7 B8.out e7.size
        refine Code.wp_mono Calm.imp ?_
        refine region_tre (fun w' => BlkIs w' w7.heap.size st.cells.toArray 25 ∧ BlkIs w' w.heap.size #[.string (ofL s.label), .int .i64 s.b, .slice Ac s.caps.length cc] 50) (Ord.rds [0, 1, 2, 3, 4, 5, 6, 7, 9] (.now 8 (Ord.rds [10, 11, 12] .stop))) hmx (by kernel_rfl) ⟨⟨N8.out⟩, ⟨J8.out⟩⟩ ?_
        iterate 9
          refine ordX_rd rfl ⟨?_, Or.inl ⟨by rfl, fun w' hw' => ?_⟩, ?_⟩
          rotate_left 1
          · skip
            obtain ⟨x0, x1, x2, x3, x4, x5, x6, x7, x8, x9, x10, x11, x12, x13⟩ := st_cells st hw'.1.out
            have q0 := blk_cell hw'.2.out 0 rfl
            have q1 := blk_cell hw'.2.out 1 rfl
            have q2 := blk_cell hw'.2.out 2 rfl
            clear hw'
            go_simp
            all_goals (with_reducible rfl)
          try simp only [Act.put, List.getElem_toArray, List.getElem_cons_succ, List.getElem_cons_zero, List.setIfInBounds_toArray, List.set_cons_zero, List.set_cons_succ]
        refine ordX_now rfl (by rfl) ?_
        go_simp
        refine (CL.out _ (T8.out.below (below_drewN (Below.refl _ _) 1)) _ (VT8.out.drewN 1)).mono ?_
        rintro e w9 ⟨rfl, b9'⟩
        have b9 : Below W8.heap.size W8 w9 := (below_drewN (Below.refl _ _) 1).trans b9'
        have e9 := below_then e8 b9 e8.size
        refine ⟨⟨⟨blk_below N8.out b9 (lt_of_block N8.out)⟩, ⟨blk_below J8.out b9 (lt_of_block J8.out)⟩⟩, ?_⟩
        iterate 3
          refine ordX_rd rfl ⟨?_, Or.inl ⟨by rfl, fun w' hw' => ?_⟩, ?_⟩
          rotate_left 1
          · skip
            clear hw'
            go_simp
            all_goals (with_reducible rfl)
          try simp only [Act.put, List.getElem_toArray, List.getElem_cons_succ, List.getElem_cons_zero, List.setIfInBounds_toArray, List.set_cons_zero, List.set_cons_succ]
        refine ordX_stop ?_
        simp only [wpList, Calm]
        go_wp2_with fail
        go_ret
        exact ⟨rfl, e9⟩
end Go.Proofs.YtldhcknjpmbgnaaGreatDoor.Rk
