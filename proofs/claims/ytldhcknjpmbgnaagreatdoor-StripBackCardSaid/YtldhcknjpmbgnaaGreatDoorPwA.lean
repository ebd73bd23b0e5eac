/- Parse: small functions, walked. -/
import Derived.Test.YtldhcknjpmbgnaaGreatDoorParS
import Derived.Test.YtldhcknjpmbgnaaGreatDoorCgC
import Derived.Test.YtldhcknjpmbgnaaGreatDoorLawF
import Derived.Test.YtldhcknjpmbgnaaGreatDoorKndS
namespace Go.Proofs.YtldhcknjpmbgnaaGreatDoor.Rk
open Go.RowKit Go.Shelf
set_option linter.unusedVariables false
set_option linter.unusedSimpArgs false
set_option maxRecDepth 100000

theorem pin_calls (n a b : Int) {r : Bool} (hr : inR n a b = r) (w : World) : Calls Tryz.prog 48 #[.int .i64 n, .int .i64 a, .int .i64 b] w fun e w' => e = .returned (.bool r) ∧ w = w' := by
  unfold inR at hr
  obtain ⟨x, A1⟩ := au (decide (a ≤ n))
  obtain ⟨y, B1⟩ := au (decide (n ≤ b))
  rw [A1.out, B1.out] at hr
  have a1 := A1.out
  have b1 := B1.out
  have Hr := Au.mk hr
  clear hr
  cases x <;> cases y
  all_goals
    go_enter Tryz.func48, Tryz.ntmps48
    go_wp2_with fail
    go_ret
    exact ⟨ret_bool (by rw [← Hr.out]; rfl), rfl⟩
theorem mayT_calls (x : List UInt8) (hl : x.length ≤ 10000) {r : Bool} (hr : lmayT x = r) (w : World) : Calls Tryz.prog 73 #[.string (ofL x)] w fun e w' => e = .returned (.bool r) ∧ w = w' := by
  unfold lmayT at hr
  obtain ⟨a, A1⟩ := au (x == [])
  obtain ⟨b, B1⟩ := au (ltext x)
  rw [A1.out, B1.out] at hr
  have a1 : x.isEmpty = a := by rw [← A1.out]; cases x <;> rfl
  have Hr := Au.mk hr
  clear hr
  cases a
  · go_enter Tryz.func73, Tryz.ntmps73
    go_wp2_with fail
    refine (ltext_calls x hl B1.out _).mono ?_
    rintro e w1 ⟨rfl, rfl⟩
    go_wp2_with fail
    go_ret
    exact ⟨ret_bool (by rw [← Hr.out]; rfl), rfl⟩
  · go_enter Tryz.func73, Tryz.ntmps73
    go_wp2_with fail
    go_ret
    exact ⟨ret_bool (by rw [← Hr.out]; rfl), rfl⟩

/-! ### states in memory -/
theorem st_cells {W : World} {g : Nat} {t : TypeId} (s : Ps) (hg : W.heap[g]? = some (.cells s.cells.toArray t (0, 0))) : W.cell? ⟨g, 0, none⟩ = some (.int .i64 s.phase) ∧ W.cell? ⟨g, 1, none⟩ = some (.string (ofL s.node.path)) ∧ W.cell? ⟨g, 2, none⟩ = some (.string (ofL s.node.link)) ∧ W.cell? ⟨g, 3, none⟩ = some (.int .u8 s.node.kind.toNat) ∧ W.cell? ⟨g, 4, none⟩ = some (.int .i64 s.node.mode) ∧ W.cell? ⟨g, 5, none⟩ = some (.int .i64 s.node.uid) ∧ W.cell? ⟨g, 6, none⟩ = some (.int .i64 s.node.gid) ∧ W.cell? ⟨g, 7, none⟩ = some (.int .i64 s.node.mtime) ∧ W.cell? ⟨g, 8, none⟩ = some (.string (ofL s.node.data)) ∧ W.cell? ⟨g, 9, none⟩ = some (.int .i64 s.size) ∧ W.cell? ⟨g, 10, none⟩ = some (.int .i64 s.left) ∧ W.cell? ⟨g, 11, none⟩ = some (.string (ofL s.text)) ∧ W.cell? ⟨g, 12, none⟩ = some (.string (ofL s.name)) ∧ W.cell? ⟨g, 13, none⟩ = some (.string (ofL s.link)) :=
  ⟨blk_cell hg 0 rfl, blk_cell hg 1 rfl, blk_cell hg 2 rfl, blk_cell hg 3 rfl, blk_cell hg 4 rfl, blk_cell hg 5 rfl, blk_cell hg 6 rfl, blk_cell hg 7 rfl, blk_cell hg 8 rfl, blk_cell hg 9 rfl, blk_cell hg 10 rfl, blk_cell hg 11 rfl, blk_cell hg 12 rfl, blk_cell hg 13 rfl⟩
theorem st_free {W : World} {g : Nat} {t : TypeId} {cs : Array Value} (h : W.heap[g]? = some (.cells cs t (0, 0))) : W.frozen? ⟨g, 0, none⟩ = false ∧ W.frozen? ⟨g, 1, none⟩ = false ∧ W.frozen? ⟨g, 2, none⟩ = false ∧ W.frozen? ⟨g, 3, none⟩ = false ∧ W.frozen? ⟨g, 4, none⟩ = false ∧ W.frozen? ⟨g, 5, none⟩ = false ∧ W.frozen? ⟨g, 6, none⟩ = false ∧ W.frozen? ⟨g, 7, none⟩ = false ∧ W.frozen? ⟨g, 8, none⟩ = false ∧ W.frozen? ⟨g, 9, none⟩ = false ∧ W.frozen? ⟨g, 10, none⟩ = false ∧ W.frozen? ⟨g, 11, none⟩ = false ∧ W.frozen? ⟨g, 12, none⟩ = false ∧ W.frozen? ⟨g, 13, none⟩ = false :=
  ⟨blk_free h 0, blk_free h 1, blk_free h 2, blk_free h 3, blk_free h 4, blk_free h 5, blk_free h 6, blk_free h 7, blk_free h 8, blk_free h 9, blk_free h 10, blk_free h 11, blk_free h 12, blk_free h 13⟩
theorem st_box (w : World) (s : Ps) : (w.alloc (.cells s.cells.toArray 25)).heap[w.heap.size]? = some (.cells s.cells.toArray 25 (0, 0)) := heap_alloc_new _ _
/-- Are two states the same? -/
def peq (s t : Ps) : Bool := s.phase == t.phase && (neq s.node t.node && (s.size == t.size && (s.left == t.left && (s.text == t.text && (s.name == t.name && s.link == t.link)))))
theorem peq_iff {s t : Ps} : peq s t = true ↔ s = t := by
  unfold peq
  simp only [Bool.and_eq_true, beq_iff_eq, neq_iff]
  constructor
  · rintro ⟨h1, h2, h3, h4, h5, h6, h7⟩
    cases s
    cases t
    simp_all
  · rintro rfl; simp
theorem eql_st (s t : Ps) (w : World) : (binOp .eql 25 (.agg #[.int .i64 s.phase, .string (ofL s.node.path), .string (ofL s.node.link), .int .u8 s.node.kind.toNat, .int .i64 s.node.mode, .int .i64 s.node.uid, .int .i64 s.node.gid, .int .i64 s.node.mtime, .string (ofL s.node.data), .int .i64 s.size, .int .i64 s.left, .string (ofL s.text), .string (ofL s.name), .string (ofL s.link)]) (.agg #[.int .i64 t.phase, .string (ofL t.node.path), .string (ofL t.node.link), .int .u8 t.node.kind.toNat, .int .i64 t.node.mode, .int .i64 t.node.uid, .int .i64 t.node.gid, .int .i64 t.node.mtime, .string (ofL t.node.data), .int .i64 t.size, .int .i64 t.left, .string (ofL t.text), .string (ofL t.name), .string (ofL t.link)])).run Tryz.prog w = .ok (.bool (peq s t)) w := by
  have q1 := Tryz.eqGuardType25
  have q2 := Tryz.stoodInHeld25
  have hty : ((s.node.kind.toNat : Int) == (t.node.kind.toNat : Int)) = (s.node.kind == t.node.kind) := byte_beq _ _
  unfold peq neq
  rw [run_eql_struct]
  go_simp
  by_cases h0 : s.phase = t.phase
  case neg =>
    rw [if_neg h0]
    simp [h0]
  rw [if_pos h0]
  by_cases h1 : s.node.path = t.node.path
  case neg =>
    rw [if_neg h1]
    simp [h1]
  rw [if_pos h1]
  by_cases h2 : s.node.link = t.node.link
  case neg =>
    rw [if_neg h2]
    simp [h2]
  rw [if_pos h2]
  by_cases h3 : s.node.kind = t.node.kind
  case neg =>
    rw [if_neg h3]
    simp [h3]
  rw [if_pos h3]
  by_cases h4 : s.node.mode = t.node.mode
  case neg =>
    rw [if_neg h4]
    simp [h4]
  rw [if_pos h4]
  by_cases h5 : s.node.uid = t.node.uid
  case neg =>
    rw [if_neg h5]
    simp [h5]
  rw [if_pos h5]
  by_cases h6 : s.node.gid = t.node.gid
  case neg =>
    rw [if_neg h6]
    simp [h6]
  rw [if_pos h6]
  by_cases h7 : s.node.mtime = t.node.mtime
  case neg =>
    rw [if_neg h7]
    simp [h7]
  rw [if_pos h7]
  by_cases h8 : s.node.data = t.node.data
  case neg =>
    rw [if_neg h8]
    simp [h8]
  rw [if_pos h8]
  by_cases h9 : s.size = t.size
  case neg =>
    rw [if_neg h9]
    simp [h9]
  rw [if_pos h9]
  by_cases h10 : s.left = t.left
  case neg =>
    rw [if_neg h10]
    simp [h10]
  rw [if_pos h10]
  by_cases h11 : s.text = t.text
  case neg =>
    rw [if_neg h11]
    simp [h11]
  rw [if_pos h11]
  by_cases h12 : s.name = t.name
  case neg =>
    rw [if_neg h12]
    simp [h12]
  rw [if_pos h12]
  by_cases h13 : s.link = t.link
  case neg =>
    rw [if_neg h13]
    simp [h13]
  rw [if_pos h13]
  simp [h0, h1, h2, h3, h4, h5, h6, h7, h8, h9, h10, h11, h12, h13]
set_option maxHeartbeats 1000000 in
theorem pwords_calls (s : Ps) (hS : s.S) {r : Bool} (hr : words s = r) (w : World) : Calls Tryz.prog 47 #[s.agg] w fun e w' => e = .returned (.bool r) ∧ Below w.heap.size w w' := by
  unfold words at hr
  have h1 : s.name.length ≤ 10000 := by have := hS.2.2.1; omega
  have h2 : s.link.length ≤ 10000 := by have := hS.2.2.2; omega
  obtain ⟨a, A1⟩ := au (lmayT s.name)
  obtain ⟨b, B1⟩ := au (lmayT s.link)
  rw [A1.out, B1.out] at hr
  have Hr := Au.mk hr
  have B0 := Au.mk (st_box w s)
  have hb0 := (Below.refl w.heap.size w).alloc (Nat.le_refl _) (.cells s.cells.toArray 25)
  obtain ⟨f0, f1, f2, f3, f4, f5, f6, f7, f8, f9, f10, f11, f12, f13⟩ := st_cells s B0.out
  unfold Ps.agg
  unfold Ps.cells at f0 f1 f2 f3 f4 f5 f6 f7 f8 f9 f10 f11 f12 f13 hb0
  clear hr hS
  cases a
  all_goals
    go_enter Tryz.func47, Tryz.ntmps47
    go_wp2_with fail
    refine (mayT_calls s.name h1 A1.out _).mono ?_
    rintro e w1 ⟨rfl, rfl⟩
    go_wp2_with fail
  · go_ret
    exact ⟨ret_bool (by rw [← Hr.out]; rfl), hb0⟩
  · refine (mayT_calls s.link h2 B1.out _).mono ?_
    rintro e w1 ⟨rfl, rfl⟩
    go_wp2_with fail
    go_ret
    exact ⟨ret_bool (by rw [← Hr.out]; rfl), hb0⟩
end Go.Proofs.YtldhcknjpmbgnaaGreatDoor.Rk
