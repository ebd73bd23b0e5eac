/- Nodes as blocks, walked: entry.Head, Put, Data. -/
import Derived.Test.YtmjicapjkmkckaaGreatDoorVolZ
namespace Go.Proofs.YtmjicapjkmkckaaGreatDoor.Rk
open Go.RowKit Go.Shelf
set_option linter.unusedVariables false
set_option linter.unusedSimpArgs false
set_option maxRecDepth 100000

theorem hd_zero : Hd.agg hd0 = .agg #[.string ⟨#[]⟩, .string ⟨#[]⟩, .string ⟨#[]⟩, .int .i64 0, .int .i64 0, .int .i64 0, .int .i64 0, .int .i64 0, .int .u8 0, .int .i64 0, .int .i64 0] := rfl
/-- A header is stored, field by field. -/
def setHd (W : World) (g : Nat) (x : Hd) : World :=
  ((((((((((W.setCell ⟨g, 0, none⟩ (.string (ofL x.name))).setCell ⟨g, 1, none⟩ (.string (ofL x.pre))).setCell ⟨g, 2, none⟩ (.string (ofL x.link))).setCell ⟨g, 3, none⟩ (.int .i64 x.mode)).setCell ⟨g, 4, none⟩ (.int .i64 x.uid)).setCell ⟨g, 5, none⟩ (.int .i64 x.gid)).setCell ⟨g, 6, none⟩ (.int .i64 x.size)).setCell ⟨g, 7, none⟩ (.int .i64 x.mtime)).setCell ⟨g, 8, none⟩ (.int .u8 x.ty.toNat)).setCell ⟨g, 9, none⟩ (.int .i64 x.off)).setCell ⟨g, 10, none⟩ (.int .i64 x.real)
theorem setHd_block {W : World} {g : Nat} {t : TypeId} {c : Hd} (h : W.heap[g]? = some (.cells c.cells.toArray t (0, 0))) (x : Hd) : (setHd W g x).heap[g]? = some (.cells x.cells.toArray t (0, 0)) :=
  blk_set (blk_set (blk_set (blk_set (blk_set (blk_set (blk_set (blk_set (blk_set (blk_set (blk_set h 0 _) 1 _) 2 _) 3 _) 4 _) 5 _) 6 _) 7 _) 8 _) 9 _) 10 _
theorem setHd_below {W w : World} {B g : Nat} (h : Below B w W) (hg : B ≤ g) (x : Hd) : Below B w (setHd W g x) :=
  ((((((((((h.setCell (p := ⟨g, 0, none⟩) hg _).setCell (p := ⟨g, 1, none⟩) hg _).setCell (p := ⟨g, 2, none⟩) hg _).setCell (p := ⟨g, 3, none⟩) hg _).setCell (p := ⟨g, 4, none⟩) hg _).setCell (p := ⟨g, 5, none⟩) hg _).setCell (p := ⟨g, 6, none⟩) hg _).setCell (p := ⟨g, 7, none⟩) hg _).setCell (p := ⟨g, 8, none⟩) hg _).setCell (p := ⟨g, 9, none⟩) hg _).setCell (p := ⟨g, 10, none⟩) hg _
theorem hd_free {W : World} {g : Nat} {t : TypeId} {cs : Array Value} (h : W.heap[g]? = some (.cells cs t (0, 0))) : W.frozen? ⟨g, 0, none⟩ = false ∧ W.frozen? ⟨g, 1, none⟩ = false ∧ W.frozen? ⟨g, 2, none⟩ = false ∧ W.frozen? ⟨g, 3, none⟩ = false ∧ W.frozen? ⟨g, 4, none⟩ = false ∧ W.frozen? ⟨g, 5, none⟩ = false ∧ W.frozen? ⟨g, 6, none⟩ = false ∧ W.frozen? ⟨g, 7, none⟩ = false ∧ W.frozen? ⟨g, 8, none⟩ = false ∧ W.frozen? ⟨g, 9, none⟩ = false ∧ W.frozen? ⟨g, 10, none⟩ = false :=
  ⟨blk_free h 0, blk_free h 1, blk_free h 2, blk_free h 3, blk_free h 4, blk_free h 5, blk_free h 6, blk_free h 7, blk_free h 8, blk_free h 9, blk_free h 10⟩
theorem nd_cells' {W : World} {g : Nat} {t : TypeId} (n : Nd) (hg : W.heap[g]? = some (.cells n.cells.toArray t (0, 0))) : W.cell? ⟨g, 0, none⟩ = some (.string (ofL n.path)) ∧ W.cell? ⟨g, 1, none⟩ = some (.string (ofL n.link)) ∧ W.cell? ⟨g, 2, none⟩ = some (.int .u8 n.kind.toNat) ∧ W.cell? ⟨g, 3, none⟩ = some (.int .i64 n.mode) ∧ W.cell? ⟨g, 4, none⟩ = some (.int .i64 n.uid) ∧ W.cell? ⟨g, 5, none⟩ = some (.int .i64 n.gid) ∧ W.cell? ⟨g, 6, none⟩ = some (.int .i64 n.mtime) ∧ W.cell? ⟨g, 7, none⟩ = some (.string (ofL n.data)) :=
  ⟨blk_cell hg 0 rfl, blk_cell hg 1 rfl, blk_cell hg 2 rfl, blk_cell hg 3 rfl, blk_cell hg 4 rfl, blk_cell hg 5 rfl, blk_cell hg 6 rfl, blk_cell hg 7 rfl⟩
theorem ret_headV {fn : Func} (hfn : fn.results = #[.cell 2 79, .tmp 3]) {R : Ending → World → Prop} {w : World} {h : Hd} {g : Nat} {v : Value} {a : Act} (hg : w.heap[g]? = some (.cells h.cells.toArray 79 (0, 0)))
    (t2 : a.tmps.getD 2 undef = .pointer (some ⟨g, 0, none⟩)) (t3 : a.tmps.getD 3 undef = v) (hd : a.defers = [])
    (hR : R (.returned (.tuple #[h.agg, v])) w) : bodyPost Tryz.prog fn R .ret a w := by
  refine bodyPost_ret (v := .tuple #[h.agg, v]) ?_ hd hR
  rw [results_cell_tmp hfn, t2, t3]
  have hp := run_loadVar_row (P := Tryz.prog) w g 79 79 h.cells.toArray (0, 0) _ hg Tryz.underlying79 rfl (by kernel_rfl)
  simp [asAddr, hp, Result.andThen]
  rfl
set_option maxHeartbeats 2000000 in
theorem ehead_calls (n : Nd) (hS : n.S) {h : Hd} (hh : ehead n = h) (w : World) :
    Calls Tryz.prog 159 #[n.agg] w fun e w' => e = .returned h.agg ∧ Below w.heap.size w w' := by
  have HS := Au.mk hS
  obtain ⟨x, Hx⟩ := au (ehead n).name
  obtain ⟨y, Hy⟩ := au (ehead n).pre
  obtain ⟨z, Hz⟩ := au (ehead n).link
  have Hh : Au ((⟨x, y, z, n.mode, n.uid, n.gid, n.data.length, n.mtime, n.kind, 0, 0⟩ : Hd) = h) := ⟨by rw [← hh, ← Hx.out, ← Hy.out, ← Hz.out]; rfl⟩
  have hzd : (ofL n.data).size = n.data.length := ofL_size _
  have hb0 := ((Below.refl w.heap.size w).alloc (Nat.le_refl _) (.cells n.cells.toArray 165)).alloc (by simp) (.cells hd0.cells.toArray 79)
  have B0 : Au (((w.alloc (.cells n.cells.toArray 165)).alloc (.cells hd0.cells.toArray 79)).heap[w.heap.size]? = some (.cells n.cells.toArray 165 (0, 0))) := ⟨blk_alloc (heap_alloc_new _ _) _⟩
  have C0 : Au (((w.alloc (.cells n.cells.toArray 165)).alloc (.cells hd0.cells.toArray 79)).heap[w.heap.size + 1]? = some (.cells hd0.cells.toArray 79 (0, 0))) := ⟨by
    have := heap_alloc_new (w.alloc (.cells n.cells.toArray 165)) (.cells hd0.cells.toArray 79)
    simpa using this⟩
  unfold Nd.agg
  clear hS hh
  go_enter Tryz.func159, Tryz.ntmps159
  go_upto_region 1 with fail
  have hW : ((w.alloc (.cells n.cells.toArray 165)).alloc (.cells hd0.cells.toArray 79)) = ((w.alloc (.cells #[.string (ofL n.path), .string (ofL n.link), .int .u8 n.kind.toNat, .int .i64 n.mode, .int .i64 n.uid, .int .i64 n.gid, .int .i64 n.mtime, .string (ofL n.data)] 165)).alloc (.cells #[.string ⟨#[]⟩, .string ⟨#[]⟩, .string ⟨#[]⟩, .int .i64 0, .int .i64 0, .int .i64 0, .int .i64 0, .int .i64 0, .int .u8 0, .int .i64 0, .int .i64 0] 79)) := rfl
  rw [← hW]
  generalize (w.alloc (.cells n.cells.toArray 165)).alloc (.cells hd0.cells.toArray 79) = W0 at B0 C0 hb0 ⊢
  clear hW
  obtain ⟨f0, f1, f2, f3, f4, f5, f6, f7⟩ := nd_cells' n B0.out
  go_wp2_with fail
  refine (lnames_calls n HS.out Hx.out Hy.out Hz.out _).mono ?_
  rintro e w1 ⟨rfl, b1⟩
  have B1 := Au.mk (blk_below B0.out b1 (lt_of_block B0.out))
  have C1 := Au.mk (blk_below C0.out b1 (lt_of_block C0.out))
  have e1 := below_then hb0 b1 hb0.size
  clear f0 f1 f2 f3 f4 f5 f6 f7 hb0 b1 B0 C0
  obtain ⟨f0, f1, f2, f3, f4, f5, f6, f7⟩ := nd_cells' n B1.out
  obtain ⟨c0, c1, c2, c3, c4, c5, c6, c7, c8, c9, c10⟩ := hd_cells hd0 C1.out
  obtain ⟨r0, r1, r2, r3, r4, r5, r6, r7, r8, r9, r10⟩ := hd_free C1.out
  go_wp2_with fail
  have C2 := setHd_block C1.out ⟨x, y, z, n.mode, n.uid, n.gid, n.data.length, n.mtime, n.kind, 0, 0⟩
  have e2 := setHd_below e1 (g := w.heap.size + 1) (by omega) ⟨x, y, z, n.mode, n.uid, n.gid, n.data.length, n.mtime, n.kind, 0, 0⟩
  rw [← Hh.out]
  exact ret_head1 2 rfl C2 rfl rfl ⟨rfl, e2⟩
set_option maxHeartbeats 2000000 in
theorem entryHead_calls (n : Nd) (hS : n.S) {x : Bool} (hx : one n = x) (w : World) :
    Calls Tryz.prog 129 #[n.agg] w fun e w' => e = .returned (.tuple #[(if x then ehead n else hd0).agg, .bool x]) ∧ Below w.heap.size w w' := by
  have HS := Au.mk hS
  have Hx := Au.mk hx
  have hb0 := ((Below.refl w.heap.size w).alloc (Nat.le_refl _) (.cells n.cells.toArray 53)).alloc (by simp) (.cells hd0.cells.toArray 79)
  have B0 : Au (((w.alloc (.cells n.cells.toArray 53)).alloc (.cells hd0.cells.toArray 79)).heap[w.heap.size]? = some (.cells n.cells.toArray 53 (0, 0))) := ⟨blk_alloc (nd_box w n) _⟩
  have C0 : Au (((w.alloc (.cells n.cells.toArray 53)).alloc (.cells hd0.cells.toArray 79)).heap[w.heap.size + 1]? = some (.cells hd0.cells.toArray 79 (0, 0))) := ⟨by
    have := heap_alloc_new (w.alloc (.cells n.cells.toArray 53)) (.cells hd0.cells.toArray 79)
    simpa using this⟩
  unfold Nd.agg
  clear hS hx
  go_enter Tryz.func129, Tryz.ntmps129
  go_upto_region 1 with fail
  have hW : ((w.alloc (.cells n.cells.toArray 53)).alloc (.cells hd0.cells.toArray 79)) = ((w.alloc (.cells #[.string (ofL n.path), .string (ofL n.link), .int .u8 n.kind.toNat, .int .i64 n.mode, .int .i64 n.uid, .int .i64 n.gid, .int .i64 n.mtime, .string (ofL n.data)] 53)).alloc (.cells #[.string ⟨#[]⟩, .string ⟨#[]⟩, .string ⟨#[]⟩, .int .i64 0, .int .i64 0, .int .i64 0, .int .i64 0, .int .i64 0, .int .u8 0, .int .i64 0, .int .i64 0] 79)) := rfl
  rw [← hW]
  generalize (w.alloc (.cells n.cells.toArray 53)).alloc (.cells hd0.cells.toArray 79) = W0 at B0 C0 hb0 ⊢
  clear hW
  obtain ⟨f0, f1, f2, f3, f4, f5, f6, f7⟩ := nd_cells n B0.out
  go_wp2_with fail
  refine (one_calls n HS.out Hx.out _).mono ?_
  rintro e w1 ⟨rfl, b1⟩
  have B1 := Au.mk (blk_below B0.out b1 (lt_of_block B0.out))
  have C1 := Au.mk (blk_below C0.out b1 (lt_of_block C0.out))
  have e1 := below_then hb0 b1 hb0.size
  clear f0 f1 f2 f3 f4 f5 f6 f7 hb0 b1 B0 C0
  cases x
  · obtain ⟨c0, c1, c2, c3, c4, c5, c6, c7, c8, c9, c10⟩ := hd_cells hd0 C1.out
    obtain ⟨r0, r1, r2, r3, r4, r5, r6, r7, r8, r9, r10⟩ := hd_free C1.out
    go_wp2_with fail
    have C2 := setHd_block C1.out hd0
    have e2 := setHd_below e1 (g := w.heap.size + 1) (by omega) hd0
    exact ret_headV rfl C2 rfl rfl rfl ⟨rfl, e2⟩
  · obtain ⟨f0, f1, f2, f3, f4, f5, f6, f7⟩ := nd_cells n B1.out
    go_wp2_with fail
    refine (ehead_calls n HS.out rfl _).mono ?_
    rintro e w2 ⟨rfl, b2⟩
    have C2 := Au.mk (blk_below C1.out b2 (lt_of_block C1.out))
    have e2 := below_then e1 b2 e1.size
    clear f0 f1 f2 f3 f4 f5 f6 f7 e1 b2 B1 C1
    obtain ⟨h, Hh⟩ := au (ehead n)
    rw [Hh.out]
    obtain ⟨c0, c1, c2, c3, c4, c5, c6, c7, c8, c9, c10⟩ := hd_cells hd0 C2.out
    obtain ⟨r0, r1, r2, r3, r4, r5, r6, r7, r8, r9, r10⟩ := hd_free C2.out
    unfold Hd.agg
    go_wp2_with fail
    have C3 := setHd_block C2.out h
    have e3 := setHd_below e2 (g := w.heap.size + 1) (by omega) h
    refine ret_headV (v := .bool true) rfl C3 rfl rfl rfl ⟨?_, e3⟩
    simp [Hd.agg, Hh.out]
end Go.Proofs.YtmjicapjkmkckaaGreatDoor.Rk
