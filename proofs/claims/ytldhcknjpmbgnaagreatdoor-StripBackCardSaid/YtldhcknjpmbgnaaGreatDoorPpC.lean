/- Parse: over, zero, end, data, walked. -/
import Derived.Test.YtldhcknjpmbgnaaGreatDoorPpB
namespace Go.Proofs.YtldhcknjpmbgnaaGreatDoor.Rk
open Go.RowKit Go.Shelf
set_option linter.unusedVariables false
set_option linter.unusedSimpArgs false
set_option maxRecDepth 100000

/-- A parser's state is stored, cell by cell. -/
def setPs (W : World) (g : Nat) (s : Ps) : World :=
  (((((((((((((W.setCell ⟨g, 0, none⟩ (.int .i64 s.phase)).setCell ⟨g, 1, none⟩ (.string (ofL s.node.path))).setCell ⟨g, 2, none⟩ (.string (ofL s.node.link))).setCell ⟨g, 3, none⟩ (.int .u8 s.node.kind.toNat)).setCell ⟨g, 4, none⟩ (.int .i64 s.node.mode)).setCell ⟨g, 5, none⟩ (.int .i64 s.node.uid)).setCell ⟨g, 6, none⟩ (.int .i64 s.node.gid)).setCell ⟨g, 7, none⟩ (.int .i64 s.node.mtime)).setCell ⟨g, 8, none⟩ (.string (ofL s.node.data))).setCell ⟨g, 9, none⟩ (.int .i64 s.size)).setCell ⟨g, 10, none⟩ (.int .i64 s.left)).setCell ⟨g, 11, none⟩ (.string (ofL s.text))).setCell ⟨g, 12, none⟩ (.string (ofL s.name))).setCell ⟨g, 13, none⟩ (.string (ofL s.link))
theorem setPs_other {W : World} {g k : Nat} {s : Ps} (h : k ≠ g) : (setPs W g s).heap[k]? = W.heap[k]? := by
  unfold setPs
  iterate 14 rw [Below.heap_setCell _ _ _ k h]
theorem setPs_size {W : World} {g : Nat} {s : Ps} : (setPs W g s).heap.size = W.heap.size := by
  simp [setPs, World.setCell]
theorem setPs_below {W w : World} {g : Nat} {s : Ps} (h : Below g w W) : Below g w (setPs W g s) := by
  exact ((((((((((((((h.setCell (p := ⟨g, 0, none⟩) (Nat.le_refl _) _).setCell (p := ⟨g, 1, none⟩) (Nat.le_refl _) _).setCell (p := ⟨g, 2, none⟩) (Nat.le_refl _) _).setCell (p := ⟨g, 3, none⟩) (Nat.le_refl _) _).setCell (p := ⟨g, 4, none⟩) (Nat.le_refl _) _).setCell (p := ⟨g, 5, none⟩) (Nat.le_refl _) _).setCell (p := ⟨g, 6, none⟩) (Nat.le_refl _) _).setCell (p := ⟨g, 7, none⟩) (Nat.le_refl _) _).setCell (p := ⟨g, 8, none⟩) (Nat.le_refl _) _).setCell (p := ⟨g, 9, none⟩) (Nat.le_refl _) _).setCell (p := ⟨g, 10, none⟩) (Nat.le_refl _) _).setCell (p := ⟨g, 11, none⟩) (Nat.le_refl _) _).setCell (p := ⟨g, 12, none⟩) (Nat.le_refl _) _).setCell (p := ⟨g, 13, none⟩) (Nat.le_refl _) _)
theorem PsAt.set {W : World} {P : Nat} {s : Ps} {told : List Ev} (h : PsAt W P s told) (i : Nat) (u : Value) (t : Ps)
    (he : ∀ v, (#[Value.int .i64 s.phase, .string (ofL s.node.path), .string (ofL s.node.link), .int .u8 s.node.kind.toNat, .int .i64 s.node.mode, .int .i64 s.node.uid, .int .i64 s.node.gid, .int .i64 s.node.mtime, .string (ofL s.node.data), .int .i64 s.size, .int .i64 s.left, .string (ofL s.text), .string (ofL s.name), .string (ofL s.link), v] : Array Value).setIfInBounds i u =
      #[Value.int .i64 t.phase, .string (ofL t.node.path), .string (ofL t.node.link), .int .u8 t.node.kind.toNat, .int .i64 t.node.mode, .int .i64 t.node.uid, .int .i64 t.node.gid, .int .i64 t.node.mtime, .string (ofL t.node.data), .int .i64 t.size, .int .i64 t.left, .string (ofL t.text), .string (ofL t.name), .string (ofL t.link), v]) :
    PsAt (W.setCell ⟨P, i, none⟩ u) P t told := by
  obtain ⟨v, h1, h2⟩ := h
  refine ⟨v, ?_, h2.set (p := ⟨P, i, none⟩) u (fun h => h) (by simp)⟩
  rw [← he v]
  exact set_block h1 i u
theorem PsAt.store {W : World} {P : Nat} {s : Ps} {told : List Ev} (h : PsAt W P s told) (t : Ps) : PsAt (setPs W P t) P t told := by
  obtain ⟨v, h1, h2⟩ := h
  refine ⟨v, ?_, h2.keep (fun k hk _ => setPs_other (by rcases hk with hk | hk; exact hk.elim; omega)) (by rw [setPs_size]; exact Nat.le_refl _)⟩
  unfold setPs
  exact blk_set (blk_set (blk_set (blk_set (blk_set (blk_set (blk_set (blk_set (blk_set (blk_set (blk_set (blk_set (blk_set (blk_set h1 0 _) 1 _) 2 _) 3 _) 4 _) 5 _) 6 _) 7 _) 8 _) 9 _) 10 _) 11 _) 12 _) 13 _
/-- What a walk needs of a parser in memory. -/
theorem ps_free {W : World} {P : Nat} {t : TypeId} {cs : Array Value} (h : W.heap[P]? = some (.cells cs t (0, 0))) : W.frozen? ⟨P, 0, none⟩ = false ∧ W.frozen? ⟨P, 1, none⟩ = false ∧ W.frozen? ⟨P, 2, none⟩ = false ∧ W.frozen? ⟨P, 3, none⟩ = false ∧ W.frozen? ⟨P, 4, none⟩ = false ∧ W.frozen? ⟨P, 5, none⟩ = false ∧ W.frozen? ⟨P, 6, none⟩ = false ∧ W.frozen? ⟨P, 7, none⟩ = false ∧ W.frozen? ⟨P, 8, none⟩ = false ∧ W.frozen? ⟨P, 9, none⟩ = false ∧ W.frozen? ⟨P, 10, none⟩ = false ∧ W.frozen? ⟨P, 11, none⟩ = false ∧ W.frozen? ⟨P, 12, none⟩ = false ∧ W.frozen? ⟨P, 13, none⟩ = false := st_free h
theorem ps_all {W : World} {P : Nat} {t : TypeId} {s : Ps} {v : Value} (h : W.heap[P]? = some (.cells #[.int .i64 s.phase, .string (ofL s.node.path), .string (ofL s.node.link), .int .u8 s.node.kind.toNat, .int .i64 s.node.mode, .int .i64 s.node.uid, .int .i64 s.node.gid, .int .i64 s.node.mtime, .string (ofL s.node.data), .int .i64 s.size, .int .i64 s.left, .string (ofL s.text), .string (ofL s.name), .string (ofL s.link), v] t (0, 0))) :
    W.cell? ⟨P, 0, none⟩ = some (.int .i64 s.phase) ∧ W.cell? ⟨P, 1, none⟩ = some (.string (ofL s.node.path)) ∧ W.cell? ⟨P, 2, none⟩ = some (.string (ofL s.node.link)) ∧ W.cell? ⟨P, 3, none⟩ = some (.int .u8 s.node.kind.toNat) ∧ W.cell? ⟨P, 4, none⟩ = some (.int .i64 s.node.mode) ∧ W.cell? ⟨P, 5, none⟩ = some (.int .i64 s.node.uid) ∧ W.cell? ⟨P, 6, none⟩ = some (.int .i64 s.node.gid) ∧ W.cell? ⟨P, 7, none⟩ = some (.int .i64 s.node.mtime) ∧ W.cell? ⟨P, 8, none⟩ = some (.string (ofL s.node.data)) ∧ W.cell? ⟨P, 9, none⟩ = some (.int .i64 s.size) ∧ W.cell? ⟨P, 10, none⟩ = some (.int .i64 s.left) ∧ W.cell? ⟨P, 11, none⟩ = some (.string (ofL s.text)) ∧ W.cell? ⟨P, 12, none⟩ = some (.string (ofL s.name)) ∧ W.cell? ⟨P, 13, none⟩ = some (.string (ofL s.link)) ∧ W.cell? ⟨P, 14, none⟩ = some v :=
  ⟨blk_cell h 0 rfl, blk_cell h 1 rfl, blk_cell h 2 rfl, blk_cell h 3 rfl, blk_cell h 4 rfl, blk_cell h 5 rfl, blk_cell h 6 rfl, blk_cell h 7 rfl, blk_cell h 8 rfl, blk_cell h 9 rfl, blk_cell h 10 rfl, blk_cell h 11 rfl, blk_cell h 12 rfl, blk_cell h 13 rfl, blk_cell h 14 rfl⟩
theorem store_ps0 (W : World) (g : Nat) : (((((((((((((W.setCell ⟨g, 0, none⟩ (.int .i64 0)).setCell ⟨g, 1, none⟩ (.string ⟨#[]⟩)).setCell ⟨g, 2, none⟩ (.string ⟨#[]⟩)).setCell ⟨g, 3, none⟩ (.int .u8 0)).setCell ⟨g, 4, none⟩ (.int .i64 0)).setCell ⟨g, 5, none⟩ (.int .i64 0)).setCell ⟨g, 6, none⟩ (.int .i64 0)).setCell ⟨g, 7, none⟩ (.int .i64 0)).setCell ⟨g, 8, none⟩ (.string ⟨#[]⟩)).setCell ⟨g, 9, none⟩ (.int .i64 0)).setCell ⟨g, 10, none⟩ (.int .i64 0)).setCell ⟨g, 11, none⟩ (.string ⟨#[]⟩)).setCell ⟨g, 12, none⟩ (.string ⟨#[]⟩)).setCell ⟨g, 13, none⟩ (.string ⟨#[]⟩) = setPs W g ps0 := by
  unfold setPs
  have e1 : Value.string ⟨#[]⟩ = .string (ofL ps0.node.path) := rfl
  have e2 : Value.int .u8 0 = .int .u8 ps0.node.kind.toNat := rfl
  rw [← e2]
  rfl
theorem evOver_R : evOver.R := by refine ⟨⟨by decide, by decide⟩, ⟨⟨?_, ?_⟩, ⟨?_, ?_⟩, ⟨?_, ?_⟩, ⟨?_, ?_⟩, ?_, ?_, ?_⟩, ?_⟩ <;> decide
theorem over_calls (s : Ps) (told : List Ev) (hlen : told.length ≤ 100000) {P : Nat} (W : World) (h : PsAt W P s told) :
    Calls Tryz.prog 140 #[.pointer (some ⟨P, 0, none⟩)] W fun r W' => r = .returned (.tuple #[]) ∧ PsAt W' P ps0 (told ++ [evOver]) ∧ Below P W W' := by
  have CT : Au (Calls Tryz.prog 139 #[.pointer (some ⟨P, 0, none⟩), .agg #[.int .i64 2, .string ⟨#[]⟩, .string ⟨#[]⟩, .int .u8 0, .int .i64 0, .int .i64 0, .int .i64 0, .int .i64 0, .string ⟨#[]⟩, .string ⟨#[]⟩]] W fun r W' => r = .returned (.tuple #[]) ∧ PsAt W' P s (told ++ [evOver]) ∧ Below P W W') :=
    ⟨tell_calls s told evOver evOver_R hlen W h⟩
  clear h
  go_enter Tryz.func140, Tryz.ntmps140
  go_wp2_with fail
  refine CT.out.mono ?_
  rintro e w1 ⟨rfl, h1, b1⟩
  have H1 := Au.mk h1
  have B1 := Au.mk b1
  obtain ⟨v, k1, -⟩ := h1
  obtain ⟨f0, f1, f2, f3, f4, f5, f6, f7, f8, f9, f10, f11, f12, f13, f14⟩ := ps_all k1
  obtain ⟨g0, g1, g2, g3, g4, g5, g6, g7, g8, g9, g10, g11, g12, g13⟩ := ps_free k1
  clear k1 b1 CT
  go_wp2_with fail
  go_end0
  rw [store_ps0]
  exact ⟨rfl, H1.out.store ps0, setPs_below B1.out⟩
end Go.Proofs.YtldhcknjpmbgnaaGreatDoor.Rk
