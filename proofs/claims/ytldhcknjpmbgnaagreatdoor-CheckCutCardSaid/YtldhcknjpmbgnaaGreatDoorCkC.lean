/- Check: a tape's blocks, its label, whether it fits, walked. -/
import Derived.Test.YtldhcknjpmbgnaaGreatDoorCkR
import Derived.Test.YtldhcknjpmbgnaaGreatDoorPwC
namespace Go.Proofs.YtldhcknjpmbgnaaGreatDoor.Rk
open Go.RowKit Go.Shelf
set_option linter.unusedVariables false
set_option linter.unusedSimpArgs false
set_option maxRecDepth 100000

theorem cblocks_calls (t : Tp) (hR : R64 t.cap) {n : Nat} (hn : t.recs.length = n) {l : List (List UInt8)} {en : Int} (h : cblocks t = (l, en)) {A : Option Addr} {c : Nat} {F : Nat → Prop} (w : World) (ha : Sl (Kd.slice Kd.byte) w F A c t.recs) :
    Calls Tryz.prog 19 #[.agg #[.int .i64 t.cap, .slice A n c, .bool t.mark]] w fun e w' => ∃ A' c', e = .returned (.tuple #[.slice A' l.length c', .int .i64 en]) ∧ Sl (Kd.slice Kd.byte) w' (fun j => w.heap.size ≤ j) A' c' l ∧ Below w.heap.size w w' := by
  have hb0 := (Below.refl w.heap.size w).alloc (Nat.le_refl _) (.cells #[.int .i64 t.cap, .slice A n c, .bool t.mark] 38)
  have B0 : (w.alloc (.cells #[.int .i64 t.cap, .slice A n c, .bool t.mark] 38)).heap[w.heap.size]? = some (.cells #[.int .i64 t.cap, .slice A n c, .bool t.mark] 38 (0, 0)) := heap_alloc_new _ _
  have H0 := Au.mk (ha.old.alloc (.cells #[.int .i64 t.cap, .slice A n c, .bool t.mark] 38))
  have f0 := blk_cell B0 0 rfl
  have f1 := blk_cell B0 1 rfl
  have f2 := blk_cell B0 2 rfl
  obtain ⟨mm, M1⟩ := au (tapeMay t)
  have CM := Au.mk (fun (W : World) (h : Sl (Kd.slice Kd.byte) W (fun k => F k ∧ k < w.heap.size) A c t.recs) => tpmay_calls t hR hn M1.out W h)
  unfold cblocks at h
  rw [M1.out] at h
  obtain ⟨ll, L1⟩ := au l.length
  rw [L1.out]
  go_enter Tryz.func19, Tryz.ntmps19
  go_wp2_with fail
  refine (CM.out _ H0.out).mono ?_
  rintro e w1 ⟨rfl, b1⟩
  have e1 := Au.mk (below_then hb0 b1 hb0.size)
  have g1 := cell_below f1 b1
  have H1 := Au.mk (H0.out.below b1)
  clear f0 f1 f2 B0 b1 CM H0
  cases mm
  · rw [if_neg (by decide)] at h
    simp only [Prod.mk.injEq] at h
    obtain ⟨rfl, rfl⟩ := h
    have hl0 : ll = 0 := by rw [← L1.out]; rfl
    subst hl0
    go_wp2_with fail
    go_ret2
    exact ⟨none, 0, rfl, Sl.nil _ _ _, e1.out⟩
  · rw [if_pos rfl] at h
    simp only [Prod.mk.injEq] at h
    obtain ⟨h1, rfl⟩ := h
    have CB := Au.mk (fun (W : World) (h : Sl (Kd.slice Kd.byte) W (fun k => F k ∧ k < w.heap.size) A c t.recs) => rblocks_calls t.recs hn (tape_recs M1.out) h1 W h)
    rw [L1.out] at CB
    clear h1
    go_wp2_with fail
    refine (CB.out _ H1.out).mono ?_
    rintro e w2 ⟨A2, c2, rfl, s2, b2⟩
    have S2 := Au.mk s2
    have e2 := Au.mk (below_then e1.out b2 e1.out.size)
    have z2 := e1.out.size
    clear s2 g1
    go_wp2_with fail
    go_ret2
    exact ⟨A2, c2, rfl, S2.out.mono fun k hk => Nat.le_trans z2 hk, e2.out⟩
theorem cwho_calls (t : Tp) (hR : R64 t.cap) {n : Nat} (hn : t.recs.length = n) {s : List UInt8} {k er : Int} (h : cwho t = (s, k, er)) {A : Option Addr} {c : Nat} {F : Nat → Prop} (w : World) (hT : Tab w) (ha : Sl (Kd.slice Kd.byte) w F A c t.recs) :
    Calls Tryz.prog 17 #[.agg #[.int .i64 t.cap, .slice A n c, .bool t.mark]] w fun e w' => e = .returned (.tuple #[.string (ofL s), .int .i64 k, .int .i64 er]) ∧ Below w.heap.size w w' := by
  have hb0 := (Below.refl w.heap.size w).alloc (Nat.le_refl _) (.cells #[.int .i64 t.cap, .slice A n c, .bool t.mark] 38)
  have B0 : (w.alloc (.cells #[.int .i64 t.cap, .slice A n c, .bool t.mark] 38)).heap[w.heap.size]? = some (.cells #[.int .i64 t.cap, .slice A n c, .bool t.mark] 38 (0, 0)) := heap_alloc_new _ _
  have H0 := Au.mk (ha.old.alloc (.cells #[.int .i64 t.cap, .slice A n c, .bool t.mark] 38))
  have T0 := Au.mk (hT.below hb0)
  have f0 := blk_cell B0 0 rfl
  have f1 := blk_cell B0 1 rfl
  have f2 := blk_cell B0 2 rfl
  obtain ⟨⟨l, en⟩, B1⟩ := au (cblocks t)
  have CM := Au.mk (fun (W : World) (h : Sl (Kd.slice Kd.byte) W (fun k => F k ∧ k < w.heap.size) A c t.recs) => cblocks_calls t hR hn B1.out W h)
  obtain ⟨ll, L1⟩ := au l.length
  rw [L1.out] at CM
  unfold cwho at h
  rw [B1.out] at h
  dsimp only at h
  clear hT ha
  go_enter Tryz.func17, Tryz.ntmps17
  go_wp2_with fail
  refine (CM.out _ H0.out).mono ?_
  rintro e w1 ⟨A1, c1, rfl, s1, b1⟩
  have e1 := Au.mk (below_then hb0 b1 hb0.size)
  have T1 := Au.mk (T0.out.below b1)
  have S1 := Au.mk s1
  clear f0 f1 f2 B0 b1 CM H0 T0 s1
  by_cases hen : en = 0
  · subst hen
    rw [if_neg (by decide)] at h
    cases l with
    | nil =>
      have hl0 : ll = 0 := by rw [← L1.out]; rfl
      subst hl0
      simp only [Prod.mk.injEq] at h
      obtain ⟨rfl, rfl, rfl⟩ := h
      go_wp2_with fail
      go_ret3
      exact ⟨rfl, e1.out⟩
    | cons b rest =>
      dsimp only at h
      have hl1 : 1 ≤ ll := by rw [← L1.out]; simp
      have m0 : ((ll : Int) == 0) = false := by simp; omega
      obtain ⟨bb, o, A0, c0, rfl, ck, sk⟩ := S1.out.slice_at (i := 0) (x := b) rfl
      rw [Nat.add_zero] at ck
      obtain ⟨bl, BL⟩ := au b.length
      have CG := Au.mk (lget_calls b h w1 sk T1.out)
      rw [BL.out] at ck CG
      clear sk
      go_wp2_with fail
      refine (CG.out).mono ?_
      rintro e w2 ⟨rfl, b2⟩
      have e2 := Au.mk (below_then e1.out b2 e1.out.size)
      go_wp2_with fail
      go_ret3
      exact ⟨rfl, e2.out⟩
  · rw [if_pos hen] at h
    simp only [Prod.mk.injEq] at h
    obtain ⟨rfl, rfl, rfl⟩ := h
    have hen1 : (en != 0) = true := by simp [hen]
    clear hen
    go_wp2_with fail
    go_ret3
    exact ⟨rfl, e1.out⟩
theorem cfits_calls (s : Ps) (hS : s.S) (hsR : s.R) (name : List UInt8) (num : Int) (t : Tp) (hR : R64 t.cap) {n : Nat} (hn : t.recs.length = n) {k er : Int} (h : cfitsT s name num t = (k, er)) {A : Option Addr} {c : Nat} {F : Nat → Prop} (w : World) (hT : Tab w) (ha : Sl (Kd.slice Kd.byte) w F A c t.recs) :
    Calls Tryz.prog 16 #[s.agg, .string (ofL name), .int .i64 num, .agg #[.int .i64 t.cap, .slice A n c, .bool t.mark]] w fun e w' => e = .returned (.tuple #[.int .i64 k, .int .i64 er]) ∧ Below w.heap.size w w' := by
  have hb0 := ((Below.refl w.heap.size w).alloc (Nat.le_refl _) (.cells s.cells.toArray 25)).alloc (by simp) (.cells #[.int .i64 t.cap, .slice A n c, .bool t.mark] 38)
  have B0 := Au.mk (blk_alloc (st_box w s) (.cells #[.int .i64 t.cap, .slice A n c, .bool t.mark] 38))
  have B9 : ((w.alloc (.cells s.cells.toArray 25)).alloc (.cells #[.int .i64 t.cap, .slice A n c, .bool t.mark] 38)).heap[w.heap.size + 1]? = some (.cells #[.int .i64 t.cap, .slice A n c, .bool t.mark] 38 (0, 0)) := by
    have := heap_alloc_new (w.alloc (.cells s.cells.toArray 25)) (.cells #[.int .i64 t.cap, .slice A n c, .bool t.mark] 38)
    rwa [World.size_alloc] at this
  have H0 := Au.mk ((ha.old.alloc (.cells s.cells.toArray 25)).alloc (.cells #[.int .i64 t.cap, .slice A n c, .bool t.mark] 38))
  have T0 := Au.mk (hT.below hb0)
  have f0 := blk_cell B9 0 rfl
  have f1 := blk_cell B9 1 rfl
  have f2 := blk_cell B9 2 rfl
  obtain ⟨⟨l, en⟩, B1⟩ := au (cblocks t)
  have CM := Au.mk (fun (W : World) (h : Sl (Kd.slice Kd.byte) W (fun k => F k ∧ k < w.heap.size) A c t.recs) => cblocks_calls t hR hn B1.out W h)
  obtain ⟨ll, L1⟩ := au l.length
  rw [L1.out] at CM
  unfold cfitsT at h
  rw [B1.out] at h
  dsimp only at h
  have CS := Au.mk (fun (W : World) (hT : Tab W) (A : Option Addr) (c : Nat) (F : Nat → Prop) (hv : Sl (Kd.slice Kd.byte) W F A c l) (k er : Int) (hr : sone s name num l = (k, er)) => sone_calls s hS hsR name num l L1.out hr W hT hv)
  unfold Ps.agg at CS ⊢
  unfold Ps.cells at hb0 B0 B9 H0 T0 f0 f1 f2
  clear hT ha
  go_enter Tryz.func16, Tryz.ntmps16
  go_wp2_with fail
  refine (CM.out _ H0.out).mono ?_
  rintro e w1 ⟨A1, c1, rfl, s1, b1⟩
  have e1 := Au.mk (below_then hb0 b1 hb0.size)
  have J1 := Au.mk (blk_below B0.out b1 (lt_of_block B0.out))
  have T1 := Au.mk (T0.out.below b1)
  have S1 := Au.mk s1
  clear f0 f1 f2 B0 B9 b1 CM H0 T0 s1
  by_cases hen : en = 0
  · subst hen
    rw [if_neg (by decide)] at h
    have C2 := Au.mk (CS.out w1 T1.out A1 c1 _ S1.out k er h)
    obtain ⟨f0, f1, f2, f3, f4, f5, f6, f7, f8, f9, f10, f11, f12, f13⟩ := st_cells s J1.out
    clear h CS
    go_wp2_with fail
    refine (C2.out).mono ?_
    rintro e w2 ⟨rfl, b2⟩
    have e2 := Au.mk (below_then e1.out b2 e1.out.size)
    clear f0 f1 f2 f3 f4 f5 f6 f7 f8 f9 f10 f11 f12 f13
    go_wp2_with fail
    go_ret2
    exact ⟨rfl, e2.out⟩
  · rw [if_pos hen] at h
    simp only [Prod.mk.injEq] at h
    obtain ⟨rfl, rfl⟩ := h
    have hen1 : (en != 0) = true := by simp [hen]
    clear hen
    go_wp2_with fail
    go_ret2
    exact ⟨rfl, e1.out⟩
end Go.Proofs.YtldhcknjpmbgnaaGreatDoor.Rk
