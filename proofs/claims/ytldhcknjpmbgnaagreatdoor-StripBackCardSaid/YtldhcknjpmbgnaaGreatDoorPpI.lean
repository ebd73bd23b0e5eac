/- Parse: what Step defers, walked. -/
import Derived.Test.YtldhcknjpmbgnaaGreatDoorPpH
namespace Go.Proofs.YtldhcknjpmbgnaaGreatDoor.Rk
open Go.RowKit Go.Shelf
set_option linter.unusedVariables false
set_option linter.unusedSimpArgs false
set_option maxRecDepth 100000

theorem store_ps (W : World) (g : Nat) (s : Ps) : (((((((((((((W.setCell ⟨g, 0, none⟩ (.int .i64 s.phase)).setCell ⟨g, 1, none⟩ (.string (ofL s.node.path))).setCell ⟨g, 2, none⟩ (.string (ofL s.node.link))).setCell ⟨g, 3, none⟩ (.int .u8 s.node.kind.toNat)).setCell ⟨g, 4, none⟩ (.int .i64 s.node.mode)).setCell ⟨g, 5, none⟩ (.int .i64 s.node.uid)).setCell ⟨g, 6, none⟩ (.int .i64 s.node.gid)).setCell ⟨g, 7, none⟩ (.int .i64 s.node.mtime)).setCell ⟨g, 8, none⟩ (.string (ofL s.node.data))).setCell ⟨g, 9, none⟩ (.int .i64 s.size)).setCell ⟨g, 10, none⟩ (.int .i64 s.left)).setCell ⟨g, 11, none⟩ (.string (ofL s.text))).setCell ⟨g, 12, none⟩ (.string (ofL s.name))).setCell ⟨g, 13, none⟩ (.string (ofL s.link)) = setPs W g s := rfl
theorem defer_idle (b2 b4 b5 b6 : Nat) (w : World) :
    CallsD Tryz.prog 87 #[.pointer (some ⟨b2, 0, none⟩), .pointer (some ⟨b4, 0, none⟩), .pointer (some ⟨b5, 0, none⟩), .pointer (some ⟨b6, 0, none⟩)] .returning w fun e u' w' => e = .returned (.tuple #[]) ∧ u' = .returning ∧ w' = w := by
  refine callsD_of_wpS Tryz.func87 rfl fun c₀ cs hu => ?_
  apply wpS_seq
  apply wpS_region
  simp [wpOpsS, go_sem, recoverD, hu, Tryz.ntmps87, Exit.thenS]
  refine wpS_of_wp ?_
  cases c₀
  subst hu
  change Code.wp _ _ _ { tmps := #[.pointer (some ⟨b2, 0, none⟩), .pointer (some ⟨b4, 0, none⟩), .pointer (some ⟨b5, 0, none⟩), .pointer (some ⟨b6, 0, none⟩), Value.nilIface, Value.nilIface, undef, undef, undef, undef, undef, undef], defers := [] } _
  go_wp2_with fail
  exact ⟨rfl, .returning, rfl, .tuple #[], results_none rfl _ _ _, rfl, rfl, rfl⟩
theorem assert_why (v : Value) (w : World) : (Instr.typeAssert (.iface 139 v) 20 139 false).run Tryz.prog w = .ok v w := by
  simp [Instr.typeAssert, go_sem, Tryz.underlying139]
theorem field_why (c : Int) (w : World) : (Instr.field 139 (.agg #[.int .i64 c]) 0).run Tryz.prog w = .ok (.int .i64 c) w := by
  simp [Instr.field, asAgg, go_sem, Tryz.underlying139]
theorem defer_panicking (s t0 : Ps) (c : Int) {b2 b4 b5 b6 : Nat} (h24 : b2 ≠ b4) (h45 : b4 ≠ b5) (h46 : b4 ≠ b6) (h56 : b5 ≠ b6) (h25 : b2 ≠ b5) (h26 : b2 ≠ b6) (w : World)
    (f2 : w.heap[b2]? = some (.cells s.cells.toArray 25 (0, 0))) (f4 : w.heap[b4]? = some (.cells t0.cells.toArray 25 (0, 0)))
    (f5 : w.heap[b5]? = some (.cells #[.slice none 0 0] 65 (0, 0))) (f6 : w.heap[b6]? = some (.cells #[.int .i64 0] 33 (0, 0))) :
    CallsD Tryz.prog 87 #[.pointer (some ⟨b2, 0, none⟩), .pointer (some ⟨b4, 0, none⟩), .pointer (some ⟨b5, 0, none⟩), .pointer (some ⟨b6, 0, none⟩)] (.panicking (whyP c)) w fun e u' w' =>
      e = .returned (.tuple #[]) ∧ settle u' = .returning ∧ w'.heap[b4]? = some (.cells s.cells.toArray 25 (0, 0)) ∧ w'.heap[b5]? = some (.cells #[.slice none 0 0] 65 (0, 0)) ∧ w'.heap[b6]? = some (.cells #[.int .i64 c] 33 (0, 0)) ∧ ∀ B, B ≤ b4 → B ≤ b5 → B ≤ b6 → Below B w w' := by
  refine callsD_of_wpS Tryz.func87 rfl fun c₀ cs hu => ?_
  apply wpS_seq
  apply wpS_region
  simp [wpOpsS, go_sem, recoverD, hu, whyP, Tryz.ntmps87, Exit.thenS]
  refine wpS_of_wp ?_
  cases c₀
  subst hu
  change Code.wp _ _ _ { tmps := #[.pointer (some ⟨b2, 0, none⟩), .pointer (some ⟨b4, 0, none⟩), .pointer (some ⟨b5, 0, none⟩), .pointer (some ⟨b6, 0, none⟩), (Value.iface 139 (.agg #[.int .i64 c])), (Value.iface 139 (.agg #[.int .i64 c])), undef, undef, undef, undef, undef, undef], defers := [] } _
  go_wp2_with fail
  have hmx : Tryz.prog.follows .mixedOrders = true := by kernel_rfl
  obtain ⟨W4, HW4⟩ := au (setPs w b4 s)
  have k2 : W4.heap[b2]? = some (.cells s.cells.toArray 25 (0, 0)) := by rw [← HW4.out, setPs_other h24]; exact f2
  have k4 : W4.heap[b4]? = some (.cells s.cells.toArray 25 (0, 0)) := by
    rw [← HW4.out]
    unfold setPs
    exact blk_set (blk_set (blk_set (blk_set (blk_set (blk_set (blk_set (blk_set (blk_set (blk_set (blk_set (blk_set (blk_set (blk_set f4 0 _) 1 _) 2 _) 3 _) 4 _) 5 _) 6 _) 7 _) 8 _) 9 _) 10 _) 11 _) 12 _) 13 _
  have k5 : W4.heap[b5]? = some (.cells #[.slice none 0 0] 65 (0, 0)) := by rw [← HW4.out, setPs_other (Ne.symm h45)]; exact f5
  have k6 : W4.heap[b6]? = some (.cells #[.int .i64 0] 33 (0, 0)) := by rw [← HW4.out, setPs_other (Ne.symm h46)]; exact f6
  obtain ⟨W5, HW5⟩ := au (W4.setCell ⟨b5, 0, none⟩ (.slice none 0 0))
  have l2 : W5.heap[b2]? = some (.cells s.cells.toArray 25 (0, 0)) := by rw [← HW5.out, Below.heap_setCell _ _ _ b2 h25]; exact k2
  have l4 : W5.heap[b4]? = some (.cells s.cells.toArray 25 (0, 0)) := by rw [← HW5.out, Below.heap_setCell _ _ _ b4 h45]; exact k4
  have l5 : W5.heap[b5]? = some (.cells #[.slice none 0 0] 65 (0, 0)) := by rw [← HW5.out]; exact set_block k5 0 _
  have l6 : W5.heap[b6]? = some (.cells #[.int .i64 0] 33 (0, 0)) := by rw [← HW5.out, Below.heap_setCell _ _ _ b6 (Ne.symm h56)]; exact k6
  have m2 : (W5.setCell ⟨b6, 0, none⟩ (.int .i64 c)).heap[b2]? = some (.cells s.cells.toArray 25 (0, 0)) := by rw [Below.heap_setCell _ _ _ b2 h26]; exact l2
  have m4 : (W5.setCell ⟨b6, 0, none⟩ (.int .i64 c)).heap[b4]? = some (.cells s.cells.toArray 25 (0, 0)) := by rw [Below.heap_setCell _ _ _ b4 h46]; exact l4
  have m5 : (W5.setCell ⟨b6, 0, none⟩ (.int .i64 c)).heap[b5]? = some (.cells #[.slice none 0 0] 65 (0, 0)) := by rw [Below.heap_setCell _ _ _ b5 h56]; exact l5
  have m6 : (W5.setCell ⟨b6, 0, none⟩ (.int .i64 c)).heap[b6]? = some (.cells #[.int .i64 c] 33 (0, 0)) := set_block l6 0 _
  have hB : ∀ B, B ≤ b4 → B ≤ b5 → B ≤ b6 → Below B w (W5.setCell ⟨b6, 0, none⟩ (.int .i64 c)) := fun B q4 q5 q6 => by
    rw [← HW5.out, ← HW4.out]
    have q0 : Below b4 w (setPs w b4 s) := setPs_below (Below.refl _ _)
    exact ((q0.mono q4).setCell (p := ⟨b5, 0, none⟩) q5 _).setCell (p := ⟨b6, 0, none⟩) q6 _
  have M := Au.mk (And.intro m4 (And.intro m5 (And.intro m6 hB)))
  have F2 := Au.mk f2
  have K2 := Au.mk k2
  have L2 := Au.mk l2
  have M2 := Au.mk m2
  obtain ⟨a0, a1, a2, a3, a4, a5, a6, a7, a8, a9, a10, a11, a12, a13⟩ := st_cells t0 f4
  obtain ⟨g0, g1, g2, g3, g4, g5, g6, g7, g8, g9, g10, g11, g12, g13⟩ := ps_free f4
  have a14 := blk_cell f5 0 rfl
  have g14 := blk_free f5 0
  have a15 := blk_cell f6 0 rfl
  have g15 := blk_free f6 0
  clear m2 m4 m5 m6 hB l2 l4 l5 l6 k2 k4 k5 k6 f2 f4 f5 f6
  refine region_ord (fun w' => BlkIs w' b2 s.cells.toArray 25) [(true, 0), (true, 1), (true, 2), (true, 3), (false, 4), (false, 5), (false, 6)] hmx (by kernel_rfl) ⟨F2.out⟩ ?_
  simp only [ordL, List.getElem?_toArray, List.getElem?_cons_succ, List.getElem?_cons_zero]
  have hfi := fun w' => field_why c w'
  have hta := fun w' => assert_why (.agg #[.int .i64 c]) w'
  iterate 4
    refine ⟨?_, Or.inl ⟨by rfl, fun w' hw' => ?_⟩, ?_⟩
    rotate_left 1
    · obtain ⟨q0, q1, q2, q3, q4, q5, q6, q7, q8, q9, q10, q11, q12, q13⟩ := st_cells s hw'.out
      clear hw'
      go_simp
      all_goals (with_reducible rfl)
    try simp only [Act.put, List.setIfInBounds_toArray, List.set_cons_zero, List.set_cons_succ]
  try refine ⟨by first | rfl | trivial, ?_⟩
  go_simp
  rw [store_ps, HW4.out]
  refine ⟨⟨K2.out⟩, ?_⟩
  try simp only [Act.put, List.setIfInBounds_toArray, List.set_cons_zero, List.set_cons_succ]
  try refine ⟨by first | rfl | trivial, ?_⟩
  go_simp
  rw [HW5.out]
  refine ⟨⟨L2.out⟩, ?_⟩
  try simp only [Act.put, List.setIfInBounds_toArray, List.set_cons_zero, List.set_cons_succ]
  try refine ⟨by first | rfl | trivial, ?_⟩
  go_simp
  refine ⟨⟨M2.out⟩, ?_⟩
  simp only [Calm]
  go_wp2_with fail
  obtain ⟨m4, m5, m6, hB⟩ := M.out
  exact ⟨rfl, _, rfl, .tuple #[], results_none rfl _ _ _, rfl, rfl, m4, m5, m6, fun B q4 q5 q6 => below_drewN (hB B q4 q5 q6) 1⟩
end Go.Proofs.YtldhcknjpmbgnaaGreatDoor.Rk
