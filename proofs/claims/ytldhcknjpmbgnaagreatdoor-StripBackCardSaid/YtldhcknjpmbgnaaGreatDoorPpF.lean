/- Parse: a long text's header, walked. -/
import Derived.Test.YtldhcknjpmbgnaaGreatDoorPpE
namespace Go.Proofs.YtldhcknjpmbgnaaGreatDoor.Rk
open Go.RowKit Go.Shelf
set_option linter.unusedVariables false
set_option linter.unusedSimpArgs false
set_option maxRecDepth 100000

set_option maxHeartbeats 2000000 in
theorem ptext_calls (s : Ps) (h : Hd) (own : List UInt8) (ph : Int) (told : List Ev) {P : Nat} (W : World) (hp : PsAt W P s told) :
    Calls Tryz.prog 136 #[.pointer (some ⟨P, 0, none⟩), h.agg, .string (ofL own), .int .i64 ph] W (PRes P told W (ptext s h own ph)) := by
  obtain ⟨o, Ho⟩ := au (own == [])
  have o1 : own.isEmpty = o := by rw [← Ho.out]; cases own <;> rfl
  obtain ⟨a, Ha⟩ := au (heq h ⟨longLink, [], [], 0, 0, 0, h.size, 0, h.ty, 0, 0⟩)
  obtain ⟨r, Hr0⟩ := au (inR h.size 2 301)
  have hE : ptext s h own ph = if o = true then (if (a && r) = true then .ok ({ s with phase := ph, size := h.size, left := h.size }, []) else .error 2) else .error 5 := by
    have ha : (h.name == longLink && (h.pre == [] && (h.link == [] && (h.mode == 0 && (h.uid == 0 && (h.gid == 0 && (h.mtime == 0 && (h.off == 0 && h.real == 0)))))))) = a := by
      rw [← Ha.out]; unfold heq; simp
    unfold ptext
    rw [ha, Ho.out, Hr0.out]
    unfold must
    cases o <;> cases (a && r) <;> rfl
  have HE := Au.mk hE
  have H := Au.mk hp
  have hP := hp.lt
  have X0 := Au.mk (heap_alloc_new W (.cells h.cells.toArray 104))
  have hb0 : Below W.heap.size W (W.alloc (.cells h.cells.toArray 104)) := (Below.refl _ _).alloc (Nat.le_refl _) _
  have H0 := Au.mk (hp.below hb0)
  have B0 := Au.mk (hb0.mono (by omega : P ≤ W.heap.size))
  have z0 : (W.alloc (.cells h.cells.toArray 104)).heap.size = W.heap.size + 1 := by simp
  have hq : ∀ w : World, (binOp .eql 104 (.agg #[.string (ofL h.name), .string (ofL h.pre), .string (ofL h.link), .int .i64 h.mode, .int .i64 h.uid, .int .i64 h.gid, .int .i64 h.size, .int .i64 h.mtime, .int .u8 h.ty.toNat, .int .i64 h.off, .int .i64 h.real]) (.agg #[.string ⟨#[46, 47, 46, 47, 64, 76, 111, 110, 103, 76, 105, 110, 107]⟩, .string ⟨#[]⟩, .string ⟨#[]⟩, .int .i64 0, .int .i64 0, .int .i64 0, .int .i64 h.size, .int .i64 0, .int .u8 h.ty.toNat, .int .i64 0, .int .i64 0])).run Tryz.prog w = .ok (.bool a) w := fun w => by
    rw [← Ha.out]; exact eql_head h ⟨longLink, [], [], 0, 0, 0, h.size, 0, h.ty, 0, 0⟩ w
  clear hp hE hb0
  unfold Hd.agg
  unfold Hd.cells at X0 H0 B0 z0
  go_enter Tryz.func136, Tryz.ntmps136
  go_upto_region 1 with fail
  generalize W.alloc (.cells #[.string (ofL h.name), .string (ofL h.pre), .string (ofL h.link), .int .i64 h.mode, .int .i64 h.uid, .int .i64 h.gid, .int .i64 h.size, .int .i64 h.mtime, .int .u8 h.ty.toNat, .int .i64 h.off, .int .i64 h.real] 104) = W1 at X0 H0 B0 z0 ⊢
  obtain ⟨n, Hn⟩ := au W.heap.size
  rw [Hn.out] at X0 z0 hP ⊢
  have x0 := blk_cell X0.out 0 rfl
  have x1 := blk_cell X0.out 1 rfl
  have x2 := blk_cell X0.out 2 rfl
  have x3 := blk_cell X0.out 3 rfl
  have x4 := blk_cell X0.out 4 rfl
  have x5 := blk_cell X0.out 5 rfl
  have x6 := blk_cell X0.out 6 rfl
  have x7 := blk_cell X0.out 7 rfl
  have x8 := blk_cell X0.out 8 rfl
  have x9 := blk_cell X0.out 9 rfl
  have x10 := blk_cell X0.out 10 rfl
  cases o
  · have Hr := Au.mk (show ptext s h own ph = .error 5 from HE.out)
    go_wp2_with fail
    refine (must_no 5 _).mono ?_
    rintro e w1 ⟨rfl, rfl⟩
    go_wp2_with fail
    exact ⟨rfl, PRes.err Hr.out B0.out⟩
  go_wp2_with fail
  refine (must_yes 5 _).mono ?_
  rintro e w1 ⟨rfl, rfl⟩
  cases a
  · have Hr := Au.mk (show ptext s h own ph = .error 2 from HE.out)
    go_wp2_with fail
    refine (must_no 2 _).mono ?_
    rintro e w1 ⟨rfl, rfl⟩
    go_wp2_with fail
    exact ⟨rfl, PRes.err Hr.out B0.out⟩
  go_wp2_with fail
  refine (pin_calls h.size 2 301 Hr0.out _).mono ?_
  rintro e w1 ⟨rfl, rfl⟩
  cases r
  · have Hr := Au.mk (show ptext s h own ph = .error 2 from HE.out)
    go_wp2_with fail
    refine (must_no 2 _).mono ?_
    rintro e w1 ⟨rfl, rfl⟩
    go_wp2_with fail
    exact ⟨rfl, PRes.err Hr.out B0.out⟩
  have Hr := Au.mk (show ptext s h own ph = .ok ({ s with phase := ph, size := h.size, left := h.size }, []) from HE.out)
  go_wp2_with fail
  refine (must_yes 2 _).mono ?_
  rintro e w1 ⟨rfl, rfl⟩
  have hmx : Tryz.prog.follows .mixedOrders = true := by kernel_rfl
  go_wp2_with fail
  clear x0 x1 x2 x3 x4 x5 x6 x7 x8 x9 x10
  have K0 := Au.mk (H0.out.set 0 (.int .i64 ph) { s with phase := ph } (fun v => rfl))
  have K1 := Au.mk (K0.out.set 9 (.int .i64 h.size) { s with phase := ph, size := h.size } (fun v => rfl))
  have K2 := Au.mk (K1.out.set 10 (.int .i64 h.size) { s with phase := ph, size := h.size, left := h.size } (fun v => rfl))
  have B2 := Au.mk (((B0.out.setCell (p := ⟨P, 0, none⟩) (Nat.le_refl _) (.int .i64 ph)).setCell (p := ⟨P, 9, none⟩) (Nat.le_refl _) (.int .i64 h.size)).setCell (p := ⟨P, 10, none⟩) (Nat.le_refl _) (.int .i64 h.size))
  have f0 : W1.cell? ⟨P, 0, none⟩ = some (.int .i64 s.phase) := by
    obtain ⟨v, k1, -⟩ := H0.out
    exact blk_cell k1 0 rfl
  have g0 : W1.frozen? ⟨P, 0, none⟩ = false := by
    obtain ⟨v, k1, -⟩ := H0.out
    exact blk_free k1 0
  obtain ⟨Wa, HWa⟩ := au (W1.setCell ⟨P, 0, none⟩ (.int .i64 ph))
  rw [HWa.out] at K0 K1 K2 B2
  have Xa : BlkIs Wa n #[.string (ofL h.name), .string (ofL h.pre), .string (ofL h.link), .int .i64 h.mode, .int .i64 h.uid, .int .i64 h.gid, .int .i64 h.size, .int .i64 h.mtime, .int .u8 h.ty.toNat, .int .i64 h.off, .int .i64 h.real] 104 := ⟨by rw [← HWa.out, Below.heap_setCell _ _ _ n (by show n ≠ P; omega)]; exact X0.out⟩
  have fa : Wa.cell? ⟨P, 9, none⟩ = some (.int .i64 s.size) := by
    obtain ⟨v, k1, -⟩ := K0.out
    exact blk_cell k1 9 rfl
  have ga : Wa.frozen? ⟨P, 9, none⟩ = false := by
    obtain ⟨v, k1, -⟩ := K0.out
    exact blk_free k1 9
  obtain ⟨Wb, HWb⟩ := au (Wa.setCell ⟨P, 9, none⟩ (.int .i64 h.size))
  rw [HWb.out] at K1 K2 B2
  have Xb : BlkIs Wb n #[.string (ofL h.name), .string (ofL h.pre), .string (ofL h.link), .int .i64 h.mode, .int .i64 h.uid, .int .i64 h.gid, .int .i64 h.size, .int .i64 h.mtime, .int .u8 h.ty.toNat, .int .i64 h.off, .int .i64 h.real] 104 := ⟨by rw [← HWb.out, Below.heap_setCell _ _ _ n (by show n ≠ P; omega)]; exact Xa.out⟩
  have fb : Wb.cell? ⟨P, 10, none⟩ = some (.int .i64 s.left) := by
    obtain ⟨v, k1, -⟩ := K1.out
    exact blk_cell k1 10 rfl
  have gb : Wb.frozen? ⟨P, 10, none⟩ = false := by
    obtain ⟨v, k1, -⟩ := K1.out
    exact blk_free k1 10
  have Xc : BlkIs (Wb.setCell ⟨P, 10, none⟩ (.int .i64 h.size)) n #[.string (ofL h.name), .string (ofL h.pre), .string (ofL h.link), .int .i64 h.mode, .int .i64 h.uid, .int .i64 h.gid, .int .i64 h.size, .int .i64 h.mtime, .int .u8 h.ty.toNat, .int .i64 h.off, .int .i64 h.real] 104 := ⟨by rw [Below.heap_setCell _ _ _ n (by show n ≠ P; omega)]; exact Xb.out⟩
  refine region_ord (fun w' => BlkIs w' n #[.string (ofL h.name), .string (ofL h.pre), .string (ofL h.link), .int .i64 h.mode, .int .i64 h.uid, .int .i64 h.gid, .int .i64 h.size, .int .i64 h.mtime, .int .u8 h.ty.toNat, .int .i64 h.off, .int .i64 h.real] 104) [(true, 0), (true, 1), (true, 2), (true, 3), (true, 4), (true, 5), (true, 6), (true, 7), (true, 8), (true, 9), (true, 10), (false, 11), (true, 12), (true, 13), (true, 14), (false, 15), (true, 16), (true, 17), (true, 18), (false, 19)] hmx (by kernel_rfl) ⟨X0.out⟩ ?_
  simp only [ordL, List.getElem?_toArray, List.getElem?_cons_succ, List.getElem?_cons_zero]
  iterate 11
    refine ⟨?_, Or.inl ⟨by rfl, fun w' hw' => ?_⟩, ?_⟩
    rotate_left 1
    · have k6 := blk_cell hw'.out 6 rfl
      clear hw'
      go_simp
      all_goals (with_reducible rfl)
    try simp only [Act.put, List.setIfInBounds_toArray, List.set_cons_zero, List.set_cons_succ]
  refine ⟨by first | rfl | trivial, ?_⟩
  go_simp
  rw [HWa.out]
  refine ⟨⟨Xa.out⟩, ?_⟩
  try simp only [Act.put, List.setIfInBounds_toArray, List.set_cons_zero, List.set_cons_succ]
  iterate 3
    refine ⟨?_, Or.inl ⟨by rfl, fun w' hw' => ?_⟩, ?_⟩
    rotate_left 1
    · clear hw'
      go_simp
      all_goals (with_reducible rfl)
    try simp only [Act.put, List.setIfInBounds_toArray, List.set_cons_zero, List.set_cons_succ]
  try refine ⟨by first | rfl | trivial, ?_⟩
  go_simp
  rw [HWb.out]
  refine ⟨⟨Xb.out⟩, ?_⟩
  try simp only [Act.put, List.setIfInBounds_toArray, List.set_cons_zero, List.set_cons_succ]
  iterate 3
    refine ⟨?_, Or.inl ⟨by rfl, fun w' hw' => ?_⟩, ?_⟩
    rotate_left 1
    · clear hw'
      go_simp
      all_goals (with_reducible rfl)
    try simp only [Act.put, List.setIfInBounds_toArray, List.set_cons_zero, List.set_cons_succ]
  try refine ⟨by first | rfl | trivial, ?_⟩
  go_simp
  refine ⟨⟨Xc.out⟩, ?_⟩
  simp only [Calm]
  go_wp2_with fail
  go_end0
  exact PRes.ok Hr.out (by rw [List.append_nil]; exact K2.out) (below_drewN B2.out 1)
end Go.Proofs.YtldhcknjpmbgnaaGreatDoor.Rk
