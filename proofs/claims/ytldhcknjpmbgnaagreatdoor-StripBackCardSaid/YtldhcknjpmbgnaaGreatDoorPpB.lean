/- Parse: telling, walked. -/
import Derived.Test.YtldhcknjpmbgnaaGreatDoorPpA
namespace Go.Proofs.YtldhcknjpmbgnaaGreatDoor.Rk
open Go.RowKit Go.Shelf
set_option linter.unusedVariables false
set_option linter.unusedSimpArgs false
set_option maxRecDepth 100000

theorem ps_cells {W : World} {P : Nat} {t : TypeId} {s : Ps} {v : Value} (h : W.heap[P]? = some (.cells #[.int .i64 s.phase, .string (ofL s.node.path), .string (ofL s.node.link), .int .u8 s.node.kind.toNat, .int .i64 s.node.mode, .int .i64 s.node.uid, .int .i64 s.node.gid, .int .i64 s.node.mtime, .string (ofL s.node.data), .int .i64 s.size, .int .i64 s.left, .string (ofL s.text), .string (ofL s.name), .string (ofL s.link), v] t (0, 0))) :
    W.cell? ⟨P, 0, none⟩ = some (.int .i64 s.phase) ∧ W.cell? ⟨P, 9, none⟩ = some (.int .i64 s.size) ∧ W.cell? ⟨P, 10, none⟩ = some (.int .i64 s.left) ∧ W.cell? ⟨P, 12, none⟩ = some (.string (ofL s.name)) ∧ W.cell? ⟨P, 13, none⟩ = some (.string (ofL s.link)) ∧ W.cell? ⟨P, 14, none⟩ = some v :=
  ⟨blk_cell h 0 rfl, blk_cell h 9 rfl, blk_cell h 10 rfl, blk_cell h 12 rfl, blk_cell h 13 rfl, blk_cell h 14 rfl⟩
/-- What lies in a block. -/
structure BlkIs (w : World) (g : Nat) (cs : Array Value) (t : TypeId) : Prop where
  out : w.heap[g]? = some (.cells cs t (0, 0))
/-- A cell of a block is set. -/
theorem set_block {W : World} {g : Nat} {cs : Array Value} {t : TypeId} {z : Nat × Nat} (h : W.heap[g]? = some (.cells cs t z)) (i : Nat) (u : Value) : (W.setCell ⟨g, i, none⟩ u).heap[g]? = some (.cells (cs.setIfInBounds i u) t z) := by
  simp [World.setCell, Array.getElem?_modify, h]
/-- A parser in memory: what it has told lies below m. -/
def PsV (W : World) (P : Nat) (s : Ps) (told : List Ev) (m : Nat) : Prop :=
  ∃ v V, W.heap[P]? = some (.cells #[.int .i64 s.phase, .string (ofL s.node.path), .string (ofL s.node.link), .int .u8 s.node.kind.toNat, .int .i64 s.node.mode, .int .i64 s.node.uid, .int .i64 s.node.gid, .int .i64 s.node.mtime, .string (ofL s.node.data), .int .i64 s.size, .int .i64 s.left, .string (ofL s.text), .string (ofL s.name), .string (ofL s.link), v] 143 (0, 0)) ∧
    RowD Kd.ev V (fun _ => False) (P + 1) v told ∧ V.heap.size ≤ m ∧ V.heap.size ≤ W.heap.size ∧ ∀ k, P + 1 ≤ k → k < V.heap.size → W.heap[k]? = V.heap[k]?
theorem PsAt.view {W : World} {P : Nat} {s : Ps} {told : List Ev} (h : PsAt W P s told) : PsV W P s told W.heap.size := by
  obtain ⟨v, h1, h2⟩ := h
  exact ⟨v, W, h1, h2, Nat.le_refl _, Nat.le_refl _, fun _ _ _ => rfl⟩
theorem PsV.open {W : World} {P m : Nat} {s : Ps} {told : List Ev} (h : PsV W P s told m) :
    ∃ v, W.heap[P]? = some (.cells #[.int .i64 s.phase, .string (ofL s.node.path), .string (ofL s.node.link), .int .u8 s.node.kind.toNat, .int .i64 s.node.mode, .int .i64 s.node.uid, .int .i64 s.node.gid, .int .i64 s.node.mtime, .string (ofL s.node.data), .int .i64 s.size, .int .i64 s.left, .string (ofL s.text), .string (ofL s.name), .string (ofL s.link), v] 143 (0, 0)) ∧
      RowD Kd.ev W (fun _ => False) (P + 1) v told ∧ ∀ g, v.ownBlock = some g → g < m := by
  obtain ⟨v, V, h1, h2, h3, h4, h5⟩ := h
  exact ⟨v, h1, h2.keep (fun k hk hlt => h5 k (by rcases hk with hk | hk; exact hk.elim; exact hk) hlt) h4, fun g hg => Nat.lt_of_lt_of_le (h2.high _ g hg) h3⟩
theorem PsV.at {W : World} {P m : Nat} {s : Ps} {told : List Ev} (h : PsV W P s told m) : PsAt W P s told := by
  obtain ⟨v, h1, h2, -⟩ := h.open
  exact ⟨v, h1, h2⟩
theorem PsV.below {W V : World} {P m : Nat} {s : Ps} {told : List Ev} (h : PsV W P s told m) (hb : Below W.heap.size W V) : PsV V P s told m := by
  obtain ⟨v, U, h1, h2, h3, h4, h5⟩ := h
  exact ⟨v, U, blk_below h1 hb (lt_of_block h1), h2, h3, Nat.le_trans h4 hb.size, fun k hk hlt => by rw [hb.block k (by omega)]; exact h5 k hk hlt⟩
theorem PsV.far {W : World} {P m : Nat} {s : Ps} {told : List Ev} (h : PsV W P s told m) {p : Addr} (h1 : p.block ≠ P) (h2 : m ≤ p.block) (u : Value) : PsV (W.setCell p u) P s told m := by
  obtain ⟨v, U, k1, k2, k3, k4, k5⟩ := h
  exact ⟨v, U, blk_far k1 (by omega) u, k2, k3, by simpa [World.setCell] using k4, fun k hk hlt => by rw [Below.heap_setCell _ _ _ k (by omega)]; exact k5 k hk hlt⟩
set_option maxHeartbeats 2000000 in
theorem tell_keeps (s : Ps) (told : List Ev) (e : Ev) (he : e.R) (hlen : told.length ≤ 100000) {P m : Nat} (W : World) (h : PsV W P s told m) :
    Calls Tryz.prog 139 #[.pointer (some ⟨P, 0, none⟩), e.agg] W fun r W' => r = .returned (.tuple #[]) ∧ PsAt W' P s (told ++ [e]) ∧ Below P W W' ∧ ∀ k, k ≠ P → m ≤ k → k < W.heap.size → W'.heap[k]? = W.heap[k]? := by
  obtain ⟨v, h1, h2, hm3⟩ := h.open
  clear h
  have hP := lt_of_block h1
  have hb0 : Below W.heap.size W (W.alloc (.cells e.cells.toArray 147)) := (Below.refl _ _).alloc (Nat.le_refl _) _
  have X0 := Au.mk (heap_alloc_new W (.cells e.cells.toArray 147))
  have h1a := Au.mk (blk_below h1 hb0 hP)
  have h2a := Au.mk (h2.below hb0)
  have z0 : (W.alloc (.cells e.cells.toArray 147)).heap.size = W.heap.size + 1 := by simp
  have hmx : Tryz.prog.follows .mixedOrders = true := by kernel_rfl
  have HR := Au.mk he
  have hhi := fun g (hg : v.ownBlock = some g) => (⟨h2.low _ g hg, h2.high _ g hg⟩ : P + 1 ≤ g ∧ g < W.heap.size)
  unfold Ev.agg
  unfold Ev.cells at hb0 X0 h1a h2a z0
  clear h1 h2 he
  go_enter Tryz.func139, Tryz.ntmps139
  go_wp2_with fail
  generalize W.alloc (.cells #[.int .i64 e.kind, .string (ofL e.node.path), .string (ofL e.node.link), .int .u8 e.node.kind.toNat, .int .i64 e.node.mode, .int .i64 e.node.uid, .int .i64 e.node.gid, .int .i64 e.node.mtime, .string (ofL e.node.data), .string (ofL e.data)] 147) = W1 at hb0 X0 h1a h2a z0 ⊢
  obtain ⟨n, Hn⟩ := au W.heap.size
  rw [Hn.out] at X0 hP z0 hhi ⊢
  have hb0n : Below n W W1 := by rw [← Hn.out]; exact hb0
  have hPW : ∀ V, Below P W V → Below P W V := fun _ h => h
  have c14 := blk_cell h1a.out 14 rfl
  refine Code.wp_mono Calm.imp ?_
  refine region_tal (fun w' => BlkIs w' n #[.int .i64 e.kind, .string (ofL e.node.path), .string (ofL e.node.link), .int .u8 e.node.kind.toNat, .int .i64 e.node.mode, .int .i64 e.node.uid, .int .i64 e.node.gid, .int .i64 e.node.mtime, .string (ofL e.node.data), .string (ofL e.data)] 147 ∧ w'.cell? ⟨P, 14, none⟩ = some v) [(true, 0), (true, 1), (true, 2), (true, 3), (true, 4), (true, 5), (false, 6), (false, 7)] [8, 9, 10] hmx (by kernel_rfl) ⟨⟨X0.out⟩, c14⟩ ?_
  iterate 6
    refine ordT_true rfl ⟨?_, Or.inl ⟨by rfl, fun w' hw' => ?_⟩, ?_⟩
    rotate_left 1
    · have k0 := blk_cell hw'.1.out 0 rfl
      have k1 := blk_cell hw'.1.out 1 rfl
      have k2 := blk_cell hw'.1.out 2 rfl
      have k3 := blk_cell hw'.1.out 3 rfl
      have k4 := blk_cell hw'.1.out 4 rfl
      have k5 := blk_cell hw'.1.out 5 rfl
      have k6 := blk_cell hw'.1.out 6 rfl
      have k7 := blk_cell hw'.1.out 7 rfl
      have k8 := blk_cell hw'.1.out 8 rfl
      have k9 := blk_cell hw'.1.out 9 rfl
      have k14 := hw'.2
      clear hw'
      go_simp
      all_goals (with_reducible rfl)
    try simp only [Act.put, List.setIfInBounds_toArray, List.set_cons_zero, List.set_cons_succ]
  refine ordT_false rfl (by rfl) ?_
  go_simp
  have b2 : Below W1.heap.size W1 (W1.alloc (.cells #[.int .i64 e.kind, .string (ofL e.node.path), .string (ofL e.node.link), .int .u8 e.node.kind.toNat, .int .i64 e.node.mode, .int .i64 e.node.uid, .int .i64 e.node.gid, .int .i64 e.node.mtime, .string (ofL e.node.data), .string (ofL e.data)] 147)).drew := below_drewN ((Below.refl _ _).alloc (Nat.le_refl _) _) 1
  have LC : Cells (W1.alloc (.cells #[.int .i64 e.kind, .string (ofL e.node.path), .string (ofL e.node.link), .int .u8 e.node.kind.toNat, .int .i64 e.node.mode, .int .i64 e.node.uid, .int .i64 e.node.gid, .int .i64 e.node.mtime, .string (ofL e.node.data), .string (ofL e.data)] 147)).drew (some ⟨n + 1, 0, none⟩) e.cells := by
    have := heap_alloc_new W1 (.cells #[.int .i64 e.kind, .string (ofL e.node.path), .string (ofL e.node.link), .int .u8 e.node.kind.toNat, .int .i64 e.node.mode, .int .i64 e.node.uid, .int .i64 e.node.gid, .int .i64 e.node.mtime, .string (ofL e.node.data), .string (ofL e.data)] 147)
    rw [z0] at this
    exact cells_of_blk this
  have z2 : (W1.alloc (.cells #[.int .i64 e.kind, .string (ofL e.node.path), .string (ofL e.node.link), .int .u8 e.node.kind.toNat, .int .i64 e.node.mode, .int .i64 e.node.uid, .int .i64 e.node.gid, .int .i64 e.node.mtime, .string (ofL e.node.data), .string (ofL e.data)] 147)).drew.heap.size = n + 1 + 1 := by simp [World.drew, z0]
  have X2 := Au.mk (blk_below X0.out b2 (by omega))
  have h1b := Au.mk (blk_below h1a.out b2 (by omega))
  have h2b := Au.mk (h2a.out.below b2)
  have hE : Els Kd.ev (W1.alloc (.cells #[.int .i64 e.kind, .string (ofL e.node.path), .string (ofL e.node.link), .int .u8 e.node.kind.toNat, .int .i64 e.node.mode, .int .i64 e.node.uid, .int .i64 e.node.gid, .int .i64 e.node.mtime, .string (ofL e.node.data), .string (ofL e.data)] 147)).drew (fun _ => False) (some ⟨n + 1, 0, none⟩) [e] := ⟨e.cells, LC, fun W _ => Reps.single ⟨rfl, HR.out⟩⟩
  have HE := Au.mk hE
  have hown : ∀ g, v.ownBlock = some g → P + 1 ≤ g ∧ g < n := hhi
  have hb2' := Au.mk (hb0n.trans (b2.mono (by omega)))
  refine ⟨⟨X2.out⟩, ?_⟩
  generalize (W1.alloc (.cells #[.int .i64 e.kind, .string (ofL e.node.path), .string (ofL e.node.link), .int .u8 e.node.kind.toNat, .int .i64 e.node.mode, .int .i64 e.node.uid, .int .i64 e.node.gid, .int .i64 e.node.mtime, .string (ofL e.node.data), .string (ofL e.data)] 147)).drew = W2 at X2 h1b h2b HE z2 hb2' ⊢
  refine ordT_false rfl (by rfl) ?_
  refine wp_append_rowD (d := Kd.ev) W2 (G := fun _ => False) (F2 := fun _ => False) (base := P + 1) (xs := told) (ys := [e]) etEvs _ _ rfl rfl h2b.out rfl rfl HE.out (fun _ h => h.elim) (fun _ _ h => h.elim) (by simp only [List.length_singleton, maxLen]; omega) (by simp only [List.length_singleton]; omega) (by omega) ?_
  intro v' W5 hr5 hg5 ho5
  have hbx : W5.heap[P]? = W2.heap[P]? := hg5.block P (by omega) (fun h => by have := hown P h.symm; omega)
  have h1c := Au.mk (hbx.trans h1b.out)
  have hX5 : W5.heap[n]? = W2.heap[n]? := hg5.block n (by omega) (fun h => by have := hown n h.symm; omega)
  refine ⟨⟨⟨hX5.trans X2.out⟩, blk_cell h1c.out 14 rfl⟩, ordT_nil ?_⟩
  have hkp : ∀ k, k ≠ P → m ≤ k → k < n → W5.heap[k]? = W.heap[k]? := fun k hk1 hk2 hk3 => by
    rw [hg5.block k (by omega) (fun h => by have := hm3 k h.symm; omega)]
    exact hb2'.out.block k hk3
  have HK := Au.mk hkp
  clear hkp
  obtain ⟨A5, c5, rfl⟩ := hr5.form
  have Hr5 := Au.mk hr5
  have c14 := blk_cell h1c.out 14 rfl
  have g14 := blk_free h1c.out 14
  have b5 := Au.mk ((hb2'.out.mono (by omega : P ≤ n)).grown hg5 (by omega) (fun g hg => by have := hown g hg; omega))
  clear hr5 hg5 ho5 hbx hX5 b2 LC hE
  simp only [List.filterMap_cons, List.filterMap_nil, List.getElem?_toArray, List.getElem?_cons_succ, List.getElem?_cons_zero, Act.put, List.setIfInBounds_toArray, List.set_cons_zero, List.set_cons_succ]
  change wpList _ _ _ [_, _, _] _ _
  go_wp2_with fail
  simp only [Calm]
  go_end0
  refine ⟨rfl, ⟨.slice A5 (told.length + 1) c5, ?_, ?_⟩, b5.out.setCell (p := ⟨P, 14, none⟩) (Nat.le_refl _) _, fun k hk1 hk2 hk3 => by rw [Below.heap_setCell _ _ _ k hk1]; exact HK.out k hk1 hk2 (by have := Hn.out; omega)⟩
  · have := set_block h1c.out 14 (.slice A5 (told.length + 1) c5)
    exact this
  · have := Hr5.out.set (p := ⟨P, 14, none⟩) (.slice A5 (told.length + 1) c5) (fun h => h) (by simp)
    rw [List.length_append, List.length_singleton] at this
    exact this
theorem tell_calls (s : Ps) (told : List Ev) (e : Ev) (he : e.R) (hlen : told.length ≤ 100000) {P : Nat} (W : World) (h : PsAt W P s told) :
    Calls Tryz.prog 139 #[.pointer (some ⟨P, 0, none⟩), e.agg] W fun r W' => r = .returned (.tuple #[]) ∧ PsAt W' P s (told ++ [e]) ∧ Below P W W' :=
  (tell_keeps s told e he hlen W h.view).mono (fun _ _ h => ⟨h.1, h.2.1, h.2.2.1⟩)
end Go.Proofs.YtldhcknjpmbgnaaGreatDoor.Rk
