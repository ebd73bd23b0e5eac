/- Parse: a node's header, walked. -/
import Derived.Test.YtldhcknjpmbgnaaGreatDoorPpF
import Derived.Deep.DeepCutAuto
import Derived.StillTailTactics
import Derived.Deep.RegionHeld3
namespace Go.Proofs.YtldhcknjpmbgnaaGreatDoor.Rk
open Go.RowKit Go.Shelf
set_option linter.unusedVariables false
set_option linter.unusedSimpArgs false
set_option maxRecDepth 100000

/-- What lies behind a node's header while it is taken. -/
structure NAt (W : World) (P : Nat) (s : Ps) (told : List Ev) (h : Hd) (n : Nat) (nd : Nd) (w : World) : Prop where
  ps : PsV w P s told n
  hd : BlkIs w n h.cells.toArray 104
  nd : BlkIs w (n + 1) nd.cells.toArray 23
  below : Below P W w
theorem NAt.alloc {W V : World} {P n : Nat} {s : Ps} {told : List Ev} {h : Hd} {nd : Nd} (h0 : PsV V P s told n) (hh : V.heap[n]? = some (.cells h.cells.toArray 104 (0, 0))) (hb : Below n W V) (hP : P < n) (hz : V.heap.size = n + 1) :
    NAt W P s told h n nd (V.alloc (.cells nd.cells.toArray 23)).drew := by
  have b1 : Below V.heap.size V (V.alloc (.cells nd.cells.toArray 23)).drew := below_drewN ((Below.refl _ _).alloc (Nat.le_refl _) _) 1
  refine ⟨h0.below b1, ⟨blk_below hh b1 (by omega)⟩, ⟨?_⟩, (hb.mono (by omega : P ≤ n)).trans (b1.mono (by omega))⟩
  rw [← hz]
  exact heap_alloc_new _ _
theorem NAt.drew {W w : World} {P n : Nat} {s : Ps} {told : List Ev} {h : Hd} {nd : Nd} (h0 : NAt W P s told h n nd w) : NAt W P s told h n nd w.drew :=
  ⟨h0.ps.below (below_drewN (Below.refl _ _) 1), ⟨h0.hd.out⟩, ⟨h0.nd.out⟩, below_drewN h0.below 1⟩
theorem NAt.set {W w : World} {P n : Nat} {s : Ps} {told : List Ev} {h : Hd} {nd : Nd} (h0 : NAt W P s told h n nd w) (hP : P < n) (i : Nat) (u : Value) (nd' : Nd) (he : nd.cells.toArray.setIfInBounds i u = nd'.cells.toArray) :
    NAt W P s told h n nd' (w.setCell ⟨n + 1, i, none⟩ u) :=
  ⟨h0.ps.far (p := ⟨n + 1, i, none⟩) (by show n + 1 ≠ P; omega) (by show n ≤ n + 1; omega) u, ⟨blk_far h0.hd.out (by show n ≠ n + 1; omega) u⟩, ⟨by rw [← he]; exact set_block h0.nd.out i u⟩, h0.below.setCell (p := ⟨n + 1, i, none⟩) (by show P ≤ n + 1; omega) u⟩
theorem NAt.step {W w w' : World} {P n : Nat} {s : Ps} {told : List Ev} {h : Hd} {nd : Nd} (h0 : NAt W P s told h n nd w) (b : Below w.heap.size w w') : NAt W P s told h n nd w' :=
  ⟨h0.ps.below b, ⟨blk_below h0.hd.out b (lt_of_block h0.hd.out)⟩, ⟨blk_below h0.nd.out b (lt_of_block h0.nd.out)⟩, h0.below.trans (b.mono (Nat.le_trans (Nat.le_of_lt h0.ps.at.lt) (Nat.le_refl _)))⟩
theorem store_psN (W : World) (g : Nat) (nd : Nd) (z : Int) : (((((((((((((W.setCell ⟨g, 0, none⟩ (.int .i64 3)).setCell ⟨g, 1, none⟩ (.string (ofL nd.path))).setCell ⟨g, 2, none⟩ (.string (ofL nd.link))).setCell ⟨g, 3, none⟩ (.int .u8 nd.kind.toNat)).setCell ⟨g, 4, none⟩ (.int .i64 nd.mode)).setCell ⟨g, 5, none⟩ (.int .i64 nd.uid)).setCell ⟨g, 6, none⟩ (.int .i64 nd.gid)).setCell ⟨g, 7, none⟩ (.int .i64 nd.mtime)).setCell ⟨g, 8, none⟩ (.string (ofL nd.data))).setCell ⟨g, 9, none⟩ (.int .i64 z)).setCell ⟨g, 10, none⟩ (.int .i64 z)).setCell ⟨g, 11, none⟩ (.string ⟨#[]⟩)).setCell ⟨g, 12, none⟩ (.string ⟨#[]⟩)).setCell ⟨g, 13, none⟩ (.string ⟨#[]⟩) = setPs W g ⟨3, nd, z, z, [], [], []⟩ := rfl
theorem nd_empty {l : List UInt8} {b : Bool} (h : (l == []) = b) : l.isEmpty = b := by rw [← h]; cases l <;> rfl
theorem pnode_1 {s : Ps} {h : Hd} (h1 : (s.name == []) = false) (h2 : (h.pre == [] && begins h.name s.name) = false) : pnode s h = .error 2 := by
  unfold pnode must
  rw [h1, h2]; rfl
theorem pnode_2 {s : Ps} {h : Hd} (h1 : (s.name == [] || (h.pre == [] && begins h.name s.name)) = true) (h2 : (s.link == []) = false) (h3 : begins h.link s.link = false) : pnode s h = .error 2 := by
  unfold pnode must
  rw [h1, h2, h3]; rfl
theorem pnode_3 {s : Ps} {h : Hd} (h1 : (s.name == [] || (h.pre == [] && begins h.name s.name)) = true) (h2 : (s.link == [] || begins h.link s.link) = true) :
    pnode s h = if pmay (pnodeN s h).path = true then (if (one (pnodeN s h) && decide (h.size ≤ if (pnodeN s h).kind = 48 then 4000 else 0)) = true then .ok (if h.size = 0 then (ps0, [evNode (pnodeN s h), evOver]) else (⟨3, pnodeN s h, h.size, h.size, [], [], []⟩, [evNode (pnodeN s h)])) else .error 2) else .error 6 := by
  unfold pnode must
  rw [h1, h2]
  cases pmay (pnodeN s h).path <;> cases (one (pnodeN s h) && decide (h.size ≤ if (pnodeN s h).kind = 48 then 4000 else 0)) <;> rfl

attribute [local irreducible] wpStill in
set_option maxHeartbeats 4000000 in
theorem pnode_calls (s : Ps) (h : Hd) (hS : h.S) (hR : h.R) (h1 : s.name.length ≤ 1000) (h2 : s.link.length ≤ 1000) (told : List Ev) (hlen : told.length ≤ 10000) {P : Nat} (W : World) (hp : PsAt W P s told) :
    Calls Tryz.prog 137 #[.pointer (some ⟨P, 0, none⟩), h.agg] W (PRes P told W (pnode s h)) := by
  obtain ⟨jn, Hj⟩ := au (joinP h.pre h.name)
  have hjl : jn.length ≤ 401 := by
    rw [← Hj.out]
    unfold joinP
    split
    · have := hS.1; omega
    · rw [List.length_append, List.length_cons]; have := hS.1; have := hS.2.1; omega
  have CJ := fun w => (join_calls h.pre h.name (by have := hS.2.1; omega) (by have := hS.1; omega) Hj.out w).mono (fun _ _ e => (⟨e.1, e.2.symm⟩ : _ ∧ _))
  have HC := Au.mk CJ
  have H := Au.mk hp
  have hP := hp.lt
  have X0 := Au.mk (heap_alloc_new W (.cells h.cells.toArray 104))
  have hb0 : Below W.heap.size W (W.alloc (.cells h.cells.toArray 104)) := (Below.refl _ _).alloc (Nat.le_refl _) _
  have H0 := Au.mk (hp.view.below hb0)
  have B0 := Au.mk hb0
  have z0 : (W.alloc (.cells h.cells.toArray 104)).heap.size = W.heap.size + 1 := by simp
  have hmx : Tryz.prog.follows .mixedOrders = true := by kernel_rfl
  have HS := Au.mk hS
  have HR := Au.mk hR
  clear hp hb0 CJ hS hR
  unfold Hd.agg
  unfold Hd.cells at X0 H0 B0 z0
  go_enter Tryz.func137, Tryz.ntmps137
  go_upto_region 1 with fail
  generalize W.alloc (.cells #[.string (ofL h.name), .string (ofL h.pre), .string (ofL h.link), .int .i64 h.mode, .int .i64 h.uid, .int .i64 h.gid, .int .i64 h.size, .int .i64 h.mtime, .int .u8 h.ty.toNat, .int .i64 h.off, .int .i64 h.real] 104) = W1 at X0 H0 B0 z0 ⊢
  obtain ⟨n, Hn⟩ := au W.heap.size
  rw [Hn.out] at X0 z0 hP B0 H0 ⊢
  obtain ⟨x0, x1, x2, x3, x4, x5, x6, x7, x8, x9, x10⟩ := hd_cells h (W := W1) (g := n) X0.out
  go_cut [4] (fun v wx => v = .pointer (some ⟨n + 1, 0, none⟩) ∧ NAt W P s told h n ⟨jn, h.link, h.ty, h.mode, h.uid, h.gid, h.mtime, []⟩ wx)
  case first =>
    go_region_held3 (fun w' => w'.cell? ⟨n, 0, none⟩ = some (.string (ofL h.name)) ∧ w'.cell? ⟨n, 1, none⟩ = some (.string (ofL h.pre)) ∧ w'.cell? ⟨n, 2, none⟩ = some (.string (ofL h.link)) ∧ w'.cell? ⟨n, 3, none⟩ = some (.int .i64 h.mode) ∧ w'.cell? ⟨n, 4, none⟩ = some (.int .i64 h.uid) ∧ w'.cell? ⟨n, 5, none⟩ = some (.int .i64 h.gid) ∧ w'.cell? ⟨n, 7, none⟩ = some (.int .i64 h.mtime) ∧ w'.cell? ⟨n, 8, none⟩ = some (.int .u8 h.ty.toNat)) (go_keep)
      (first | (go_at_call 163; (with_reducible refine (HC.out _).mono ?_); rintro e w1 ⟨rfl, rfl⟩))
    all_goals go_wp2_with fail
    all_goals go_meet
    all_goals exact ⟨rfl, NAt.alloc (nd := ⟨jn, h.link, h.ty, h.mode, h.uid, h.gid, h.mtime, []⟩) H0.out X0.out B0.out hP z0⟩
  obtain ⟨rfl, N1⟩ := hcut
  clear x0 x1 x2 x3 x4 x5 x6 x7 x8 x9 x10 H0 B0 X0 z0 HC
  obtain ⟨nb, Hnb⟩ := au (s.name == [])
  obtain ⟨lb, Hlb⟩ := au (s.link == [])
  have n1 := nd_empty Hnb.out
  have n2 := nd_empty Hlb.out
  have NN := Au.mk N1
  obtain ⟨v, k1, -⟩ := N1.ps.at
  obtain ⟨f0, f1, f2, f3, f4, f5, f6, f7, f8, f9, f10, f11, f12, f13, f14⟩ := ps_all k1
  obtain ⟨x0, x1, x2, x3, x4, x5, x6, x7, x8, x9, x10⟩ := hd_cells h (W := wc) (g := n) N1.hd.out
  obtain ⟨y0, y1, y2, y3, y4, y5, y6, y7⟩ := nd_cells' _ N1.nd.out
  clear k1 N1
  go_upto_if 29 with fail
  go_cut [4] (fun v wx => v = .pointer (some ⟨n + 1, 0, none⟩) ∧ (nb || (h.pre == [] && begins h.name s.name)) = true ∧ NAt W P s told h n ⟨if nb then jn else s.name, h.link, h.ty, h.mode, h.uid, h.gid, h.mtime, []⟩ wx)
  case first =>
    cases nb
    · obtain ⟨pb, Hpb⟩ := au (h.pre == [])
      have p1 := nd_empty Hpb.out
      cases pb
      · have Hr := Au.mk (pnode_1 Hnb.out (by rw [Hpb.out]; rfl) : pnode s h = .error 2)
        go_upto_region 3 with fail
        refine wp_region_still_tail 13 hmx (by kernel_rfl) ?_
        simp only [List.take_succ_cons, List.take_zero, List.drop_succ_cons, List.drop_zero]
        change wpStill _ _ wc.drew _ _ _
        repeat still_step
        refine wpStill_nil ?_
        change wpList _ _ _ _ _ _
        go_wp2_with fail
        refine (must_no 2 _).mono ?_
        rintro e w1 ⟨rfl, rfl⟩
        go_wp2_with fail
        exact ⟨rfl, PRes.err Hr.out (below_drewN NN.out.below 1)⟩
      · obtain ⟨gb, Hgb⟩ := au (begins h.name s.name)
        have CB := Au.mk fun w => (begins_calls h.name s.name (by omega) Hgb.out w).mono (fun _ _ e => (⟨e.1, e.2.symm⟩ : _ ∧ _))
        cases gb
        · have Hr := Au.mk (pnode_1 Hnb.out (by rw [Hpb.out, Hgb.out]; rfl) : pnode s h = .error 2)
          go_upto_region 3 with fail
          refine wp_region_still_tail 13 hmx (by kernel_rfl) ?_
          simp only [List.take_succ_cons, List.take_zero, List.drop_succ_cons, List.drop_zero]
          change wpStill _ _ wc.drew _ _ _
          iterate 11 still_step
          still_call (CB.out _)
          still_step
          refine wpStill_nil ?_
          change wpList _ _ _ _ _ _
          go_wp2_with fail
          refine (must_no 2 _).mono ?_
          rintro e w1 ⟨rfl, rfl⟩
          go_wp2_with fail
          exact ⟨rfl, PRes.err Hr.out (below_drewN NN.out.below 1)⟩
        · have g0 := blk_free NN.out.nd.out 0
          go_upto_region 3 with fail
          refine wp_region_still_tail 13 hmx (by kernel_rfl) ?_
          simp only [List.take_succ_cons, List.take_zero, List.drop_succ_cons, List.drop_zero]
          change wpStill _ _ wc.drew _ _ _
          iterate 11 still_step
          still_call (CB.out _)
          still_step
          refine wpStill_nil ?_
          change wpList _ _ _ _ _ _
          go_wp2_with fail
          refine (must_yes 2 _).mono ?_
          rintro e w1 ⟨rfl, rfl⟩
          go_wp2_with fail
          go_meet
          exact ⟨rfl, by rw [Hpb.out, Hgb.out]; rfl, NAt.set (NAt.drew NN.out) hP 0 _ ⟨s.name, h.link, h.ty, h.mode, h.uid, h.gid, h.mtime, []⟩ rfl⟩
    · go_wp2_with fail
      go_meet
      exact ⟨rfl, rfl, NN.out⟩
  obtain ⟨rfl, Hc1, N1⟩ := hcut
  have HC1 := Au.mk Hc1
  clear x0 x1 x2 x3 x4 x5 x6 x7 x8 x9 x10 y0 y1 y2 y3 y4 y5 y6 y7 f0 f1 f2 f3 f4 f5 f6 f7 f8 f9 f10 f11 f12 f13 f14 NN Hc1
  obtain ⟨pa, Hpa⟩ := au (if nb then jn else s.name)
  rw [Hpa.out] at N1
  have hpl : pa.length ≤ 1000 := by
    rw [← Hpa.out]
    split <;> omega
  have NN := Au.mk N1
  obtain ⟨v, k1, -⟩ := N1.ps.at
  obtain ⟨f0, f1, f2, f3, f4, f5, f6, f7, f8, f9, f10, f11, f12, f13, f14⟩ := ps_all k1
  obtain ⟨x0, x1, x2, x3, x4, x5, x6, x7, x8, x9, x10⟩ := hd_cells h (W := wc) (g := n) N1.hd.out
  have y1 : wc.cell? ⟨n + 1, 1, none⟩ = some (.string (ofL h.link)) := blk_cell N1.nd.out 1 rfl
  clear k1 N1
  go_upto_if 55 with fail
  go_cut [4] (fun v wx => v = .pointer (some ⟨n + 1, 0, none⟩) ∧ (lb || begins h.link s.link) = true ∧ NAt W P s told h n ⟨pa, if lb then h.link else s.link, h.ty, h.mode, h.uid, h.gid, h.mtime, []⟩ wx)
  case first =>
    cases lb
    · obtain ⟨gb, Hgb⟩ := au (begins h.link s.link)
      have CB := Au.mk fun w => (begins_calls h.link s.link (by omega) Hgb.out w).mono (fun _ _ e => (⟨e.1, e.2.symm⟩ : _ ∧ _))
      cases gb
      · have Hr := Au.mk (pnode_2 (h := h) (by rw [Hnb.out]; exact HC1.out) Hlb.out Hgb.out : pnode s h = .error 2)
        go_upto_region 6 with fail
        refine wp_region_still_tail 8 hmx (by kernel_rfl) ?_
        simp only [List.take_succ_cons, List.take_zero, List.drop_succ_cons, List.drop_zero]
        change wpStill _ _ wc.drew _ _ _
        iterate 7 still_step
        still_call (CB.out _)
        refine wpStill_nil ?_
        change wpList _ _ _ _ _ _
        go_wp2_with fail
        refine (must_no 2 _).mono ?_
        rintro e w1 ⟨rfl, rfl⟩
        go_wp2_with fail
        exact ⟨rfl, PRes.err Hr.out (below_drewN NN.out.below 1)⟩
      · have g0 := blk_free NN.out.nd.out 1
        go_upto_region 6 with fail
        refine wp_region_still_tail 8 hmx (by kernel_rfl) ?_
        simp only [List.take_succ_cons, List.take_zero, List.drop_succ_cons, List.drop_zero]
        change wpStill _ _ wc.drew _ _ _
        iterate 7 still_step
        still_call (CB.out _)
        refine wpStill_nil ?_
        change wpList _ _ _ _ _ _
        go_wp2_with fail
        refine (must_yes 2 _).mono ?_
        rintro e w1 ⟨rfl, rfl⟩
        go_wp2_with fail
        go_meet
        exact ⟨rfl, by rw [Hgb.out]; rfl, NAt.set (NAt.drew NN.out) hP 1 _ ⟨pa, s.link, h.ty, h.mode, h.uid, h.gid, h.mtime, []⟩ rfl⟩
    · go_wp2_with fail
      go_meet
      exact ⟨rfl, rfl, NN.out⟩
  obtain ⟨rfl, Hc2, N1⟩ := hcut
  clear x0 x1 x2 x3 x4 x5 x6 x7 x8 x9 x10 y1 f0 f1 f2 f3 f4 f5 f6 f7 f8 f9 f10 f11 f12 f13 f14 NN
  obtain ⟨nd, Hnd⟩ := au (pnodeN s h)
  have hnd : nd = ⟨pa, if lb then h.link else s.link, h.ty, h.mode, h.uid, h.gid, h.mtime, []⟩ := by
    rw [← Hnd.out, ← Hpa.out, ← Hj.out]
    have e1 := Hnb.out
    have e2 := Hlb.out
    unfold pnodeN
    cases nb <;> cases lb <;> simp_all
  have hS2 : nd.S := by
    rw [hnd]
    refine ⟨hpl, ?_, by simp⟩
    have := HS.out.2.2
    dsimp only
    split <;> omega
  have hR2 : nd.R := by
    have h3 := HR.out
    rw [hnd]
    refine ⟨h3.1, h3.2.1, h3.2.2.1, h3.2.2.2.2.1, ?_, ?_, ?_⟩
    · simp only [maxLen]; omega
    · have := HS.out.2.2
      dsimp only
      simp only [maxLen]
      split <;> omega
    · simp [maxLen]
  rw [← hnd] at N1
  have hE := pnode_3 (s := s) (h := h) (by rw [Hnb.out]; exact HC1.out) (by rw [Hlb.out]; exact Hc2)
  rw [Hnd.out] at hE
  have HE := Au.mk hE
  have NN := Au.mk N1
  obtain ⟨pm, Hpm⟩ := au (pmay nd.path)
  have CP := Au.mk (pmay_calls nd.path (by have := hS2.1; omega) Hpm.out)
  obtain ⟨y0, y1, y2, y3, y4, y5, y6, y7⟩ := nd_cells' nd N1.nd.out
  have HS2 := Au.mk hS2
  have HR2 := Au.mk hR2
  clear hE N1 Hc2 hnd hS2 hR2 n1 n2 HC1 Hpa Hlb Hnb hpl
  go_wp2_with fail
  refine (CP.out _).mono ?_
  rintro e w1 ⟨rfl, b1⟩
  have N1 := Au.mk (NN.out.step b1)
  clear b1 NN y0 y1 y2 y3 y4 y5 y6 y7
  cases pm
  · have Hr := Au.mk (show pnode s h = .error 6 by rw [HE.out, Hpm.out]; rfl)
    go_wp2_with fail
    refine (must_no 6 _).mono ?_
    rintro e w2 ⟨rfl, rfl⟩
    go_wp2_with fail
    exact ⟨rfl, PRes.err Hr.out N1.out.below⟩
  obtain ⟨y0, y1, y2, y3, y4, y5, y6, y7⟩ := nd_cells' nd N1.out.nd.out
  go_wp2_with fail
  refine (must_yes 6 _).mono ?_
  rintro e w2 ⟨rfl, rfl⟩
  obtain ⟨mo, Hmo⟩ := au (if nd.kind = 48 then (4000 : Int) else 0)
  obtain ⟨kb, Hkb⟩ := au (nd.kind == 48)
  have k8 : ((nd.kind.toNat : Int) == 48) = kb := by rw [← Hkb.out]; exact u8_eq nd.kind 48 (by decide)
  go_upto_if 77 with fail
  go_cut [4, 5] (fun v4 v5 wx => v4 = .pointer (some ⟨n + 1, 0, none⟩) ∧ v5 = .int .i64 mo ∧ wx = w1)
  case first =>
    cases kb
    · have hm : mo = 0 := by
        rw [← Hmo.out, if_neg]
        intro e
        have := Hkb.out
        rw [e] at this
        cases this
      have HM := Au.mk hm
      clear hm
      go_wp2_with fail
      go_meet
      exact ⟨rfl, by rw [HM.out], rfl⟩
    · have hm : mo = 4000 := by
        rw [← Hmo.out, if_pos]
        exact eq_of_beq Hkb.out
      have HM := Au.mk hm
      clear hm
      go_wp2_with fail
      go_meet
      exact ⟨rfl, by rw [HM.out], rfl⟩
  obtain ⟨rfl, rfl, rfl⟩ := hcut
  clear k8 Hkb
  obtain ⟨ob, Hob⟩ := au (one nd)
  have CO : Au (∀ w : World, Calls Tryz.prog 49 #[.agg #[.string (ofL nd.path), .string (ofL nd.link), .int .u8 nd.kind.toNat, .int .i64 nd.mode, .int .i64 nd.uid, .int .i64 nd.gid, .int .i64 nd.mtime, .string (ofL nd.data)]] w fun e w' => e = .returned (.bool ob) ∧ Below w.heap.size w w') := ⟨fun w => one_calls nd HS2.out Hob.out w⟩
  obtain ⟨x0, x1, x2, x3, x4, x5, x6, x7, x8, x9, x10⟩ := hd_cells h (W := wc) (g := n) N1.out.hd.out
  go_wp2_with fail
  refine (CO.out _).mono ?_
  rintro e w2 ⟨rfl, b2⟩
  have N2 := Au.mk (N1.out.step b2)
  clear b2 N1 y0 y1 y2 y3 y4 y5 y6 y7 x0 x1 x2 x3 x4 x5 x6 x7 x8 x9 x10
  have x6 := blk_cell N2.out.hd.out 6 rfl
  cases ob
  · have Hr := Au.mk (show pnode s h = .error 2 by rw [HE.out, Hpm.out, Hob.out]; rfl)
    go_wp2_with fail
    refine (must_no 2 _).mono ?_
    rintro e w3 ⟨rfl, rfl⟩
    go_wp2_with fail
    exact ⟨rfl, PRes.err Hr.out N2.out.below⟩
  obtain ⟨lq, Hlq⟩ := au (decide (h.size ≤ mo))
  have hlq := Hlq.out
  cases lq
  · have Hr := Au.mk (show pnode s h = .error 2 by rw [HE.out, Hpm.out, Hob.out, Hmo.out, Hlq.out]; rfl)
    have hl : ¬ h.size ≤ mo := of_decide_eq_false Hlq.out
    go_wp2_with fail
    refine (must_no 2 _).mono ?_
    rintro e w3 ⟨rfl, rfl⟩
    go_wp2_with fail
    exact ⟨rfl, PRes.err Hr.out N2.out.below⟩
  have hl : h.size ≤ mo := of_decide_eq_true Hlq.out
  have HE2 := Au.mk (show pnode s h = .ok (if h.size = 0 then (ps0, [evNode nd, evOver]) else (⟨3, nd, h.size, h.size, [], [], []⟩, [evNode nd])) by rw [HE.out, Hpm.out, Hob.out, Hmo.out, Hlq.out]; rfl)
  have CT : Au (Calls Tryz.prog 139 #[.pointer (some ⟨P, 0, none⟩), .agg #[.int .i64 0, .string (ofL nd.path), .string (ofL nd.link), .int .u8 nd.kind.toNat, .int .i64 nd.mode, .int .i64 nd.uid, .int .i64 nd.gid, .int .i64 nd.mtime, .string (ofL nd.data), .string ⟨#[]⟩]] w2 fun r W' => r = .returned (.tuple #[]) ∧ PsAt W' P s (told ++ [evNode nd]) ∧ Below P w2 W' ∧ ∀ k, k ≠ P → n ≤ k → k < w2.heap.size → W'.heap[k]? = w2.heap[k]?) :=
    ⟨tell_keeps s told (evNode nd) ⟨(show R64 0 from ⟨by decide, by decide⟩), HR2.out, (show 0 ≤ maxLen from Nat.zero_le _)⟩ (by omega) w2 N2.out.ps⟩
  obtain ⟨y0, y1, y2, y3, y4, y5, y6, y7⟩ := nd_cells' nd N2.out.nd.out
  go_wp2_with fail
  refine (must_yes 2 _).mono ?_
  rintro e w3 ⟨rfl, rfl⟩
  go_wp2_with fail
  refine CT.out.mono ?_
  rintro e w3 ⟨rfl, h3, b3, k3⟩
  have T3 := Au.mk h3
  have B3 := Au.mk (N2.out.below.trans b3)
  have X3 : Au (w3.heap[n]? = some (.cells h.cells.toArray 104 (0, 0))) := ⟨(k3 n (by omega) (Nat.le_refl _) (lt_of_block N2.out.hd.out)).trans N2.out.hd.out⟩
  have Y3 : Au (w3.heap[n + 1]? = some (.cells nd.cells.toArray 23 (0, 0))) := ⟨(k3 (n + 1) (by omega) (by omega) (lt_of_block N2.out.nd.out)).trans N2.out.nd.out⟩
  clear h3 b3 k3 CT CO CP N2 x6 y0 y1 y2 y3 y4 y5 y6 y7 hlq hl Hlq Hob Hpm HE Hmo
  have x6 := blk_cell X3.out 6 rfl
  obtain ⟨zb, Hzb⟩ := au (h.size == 0)
  have z1 : (h.size == 0) = zb := Hzb.out
  cases zb
  · obtain ⟨y0, y1, y2, y3, y4, y5, y6, y7⟩ := nd_cells' nd Y3.out
    have Hr := Au.mk (show pnode s h = .ok (⟨3, nd, h.size, h.size, [], [], []⟩, [evNode nd]) by
      rw [HE2.out, if_neg]
      intro e
      have := Hzb.out
      rw [e] at this
      cases this)
    obtain ⟨v3, k3, -⟩ := T3.out
    obtain ⟨f0, f1, f2, f3, f4, f5, f6, f7, f8, f9, f10, f11, f12, f13, f14⟩ := ps_all k3
    obtain ⟨g0, g1, g2, g3, g4, g5, g6, g7, g8, g9, g10, g11, g12, g13⟩ := ps_free k3
    clear k3
    go_wp2_with fail
    go_end0
    rw [store_psN]
    exact PRes.ok Hr.out (T3.out.store ⟨3, nd, h.size, h.size, [], [], []⟩) (setPs_below B3.out)
  · have Hr := Au.mk (show pnode s h = .ok (ps0, [evNode nd, evOver]) by rw [HE2.out, if_pos (eq_of_beq Hzb.out)])
    have CV := Au.mk (over_calls s (told ++ [evNode nd]) (by rw [List.length_append, List.length_singleton]; omega) w3 T3.out)
    go_wp2_with fail
    refine CV.out.mono ?_
    rintro e w4 ⟨rfl, h4, b4⟩
    have T4 := Au.mk h4
    have B4 := Au.mk (B3.out.trans b4)
    clear h4 b4
    go_wp2_with fail
    go_end0
    exact PRes.ok Hr.out (by have := T4.out; rw [List.append_assoc] at this; exact this) B4.out
end Go.Proofs.YtldhcknjpmbgnaaGreatDoor.Rk
