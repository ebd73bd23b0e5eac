/- Who goes on, walked: Get. -/
import Derived.Test.YtldhcknjpmbgnaaGreatDoorCgA
import Derived.Test.YtldhcknjpmbgnaaGreatDoorLawDE
namespace Go.Proofs.YtldhcknjpmbgnaaGreatDoor.Rk
open Go.RowKit Go.Shelf
set_option linter.unusedVariables false
set_option linter.unusedSimpArgs false
set_option maxRecDepth 100000

theorem trimSuf_eq (l : List UInt8) : Lib.trimSuffix l [0] = trimZ l := by
  unfold Lib.trimSuffix trimZ
  have h : Lib.hasSuffix l [0] = decide (l.getLast? = some 0) := by
    unfold Lib.hasSuffix
    rcases List.eq_nil_or_concat l with rfl | ⟨l', x, rfl⟩
    · decide
    · rw [List.concat_eq_append]
      by_cases hx : x = 0
      · subst hx; simp
      · rw [show decide ((l' ++ [x]).getLast? = some 0) = false by simp [hx]]
        show ([0] : List UInt8).reverse.isPrefixOf (l' ++ [x]).reverse = false
        rw [List.reverse_append]
        show ((0 : UInt8) == x && _) = false
        have h0 : ((0 : UInt8) == x) = false := by rw [beq_eq_false_iff_ne]; exact fun e => hx e.symm
        rw [h0]; rfl
  rw [h]
  by_cases h0 : l.getLast? = some 0
  · rw [if_pos (by simpa using h0), if_pos h0, List.dropLast_eq_take]; rfl
  · rw [if_neg (by simpa using h0), if_neg h0]
theorem tsuf_calls {l d : List UInt8} (hd : trimZ l = d) (hl : l.length ≤ 100000) (w : World) :
    Calls Tryz.prog 80 #[.string (ofL l), .string ⟨#[0]⟩] w fun e w' => e = .returned (.string (ofL d)) ∧ w = w' := by
  subst hd
  refine (Tryz.strings_TrimSuffix (ofL l) ⟨#[0]⟩ w (by rw [ofL_size]; omega)).mono ?_
  rintro e w' ⟨h1, h2⟩
  exact ⟨by rw [h1, ← trimSuf_eq]; simp [ofL], h2.symm⟩
theorem grown_setHd {a b : World} {row : Option Nat} (h : a.grownBy b row) {g : Nat} (hg : a.heap.size ≤ g) (x : Hd) : a.grownBy (setHd b g x) row :=
  grown_set (grown_set (grown_set (grown_set (grown_set (grown_set (grown_set (grown_set (grown_set (grown_set (grown_set h (p := ⟨g, 0, none⟩) (.inr hg) _) (p := ⟨g, 1, none⟩) (.inr hg) _) (p := ⟨g, 2, none⟩) (.inr hg) _) (p := ⟨g, 3, none⟩) (.inr hg) _) (p := ⟨g, 4, none⟩) (.inr hg) _) (p := ⟨g, 5, none⟩) (.inr hg) _) (p := ⟨g, 6, none⟩) (.inr hg) _) (p := ⟨g, 7, none⟩) (.inr hg) _) (p := ⟨g, 8, none⟩) (.inr hg) _) (p := ⟨g, 9, none⟩) (.inr hg) _) (p := ⟨g, 10, none⟩) (.inr hg) _
theorem setHd_other {W : World} {g k : Nat} (h : k ≠ g) (x : Hd) : (setHd W g x).heap[k]? = W.heap[k]? := by
  unfold setHd
  repeat rw [Below.heap_setCell _ _ _ _ (by rintro rfl; exact h rfl)]
theorem setHd_size (W : World) (g : Nat) (x : Hd) : (setHd W g x).heap.size = W.heap.size := by simp [setHd, World.setCell]
theorem nextI (l : List (List UInt8)) (i : Nat) : (l.length ≤ i ∧ cnext l i = (hd0, false)) ∨ ∃ b, l[i]? = some b ∧ cnext l i = ((hget b).1, (hget b).2 == 0) := by
  unfold cnext
  cases h : l[i]? with
  | none => exact .inl ⟨List.getElem?_eq_none_iff.1 h, rfl⟩
  | some b => exact .inr ⟨b, rfl, rfl⟩
set_option maxHeartbeats 2000000 in
/-- The closure next. -/
theorem cnext_calls (l : List (List UInt8)) {n : Nat} (hn : l.length = n) (i : Nat) {g : Hd} {is : Bool} (hc : cnext l i = (g, is)) {A : Option Addr} {c ga gl : Nat} {F : Nat → Prop} (w : World)
    (ha : Sl (Kd.slice Kd.byte) w F A c l) (hA : w.heap[ga]? = some (.cells #[.int .i64 (i : Int)] 3 (0, 0))) (hL : w.heap[gl]? = some (.cells #[.slice A n c] 36 (0, 0))) (hne : ga ≠ gl) (hi : i ≤ 1000) :
    Calls Tryz.prog 79 #[.pointer (some ⟨ga, 0, none⟩), .pointer (some ⟨gl, 0, none⟩)] w fun e w' => e = .returned (.tuple #[g.agg, .bool is]) ∧ w.grownBy w' (some ga) ∧ w'.heap[ga]? = some (.cells #[.int .i64 ((if i < n then i + 1 else i : Nat) : Int)] 3 (0, 0)) := by
  obtain ⟨i', Hi'⟩ := au (if i < n then i + 1 else i)
  rw [Hi'.out]
  have ca := blk_cell hA 0 rfl
  have cl := blk_cell hL 0 rfl
  have hga := lt_of_block hA
  have hgl := lt_of_block hL
  have HA := Au.mk hA
  have HL := Au.mk hL
  have Ha := Au.mk ha
  have hle := ha.le
  rw [hn] at hle
  have g0 := grown_alloc (.refl w (some ga)) (.cells hd0.cells.toArray 104)
  have C0 : Au ((w.alloc (.cells hd0.cells.toArray 104)).heap[w.heap.size]? = some (.cells hd0.cells.toArray 104 (0, 0))) := ⟨heap_alloc_new _ _⟩
  have A0 := Au.mk (blk_alloc hA (.cells hd0.cells.toArray 104))
  have L0 := Au.mk (blk_alloc hL (.cells hd0.cells.toArray 104))
  have s0 := Au.mk (ha.alloc (.cells hd0.cells.toArray 104))
  have z0 : (w.alloc (.cells hd0.cells.toArray 104)).heap.size = w.heap.size + 1 := by simp
  clear ha hA hL ca cl
  go_enter Tryz.func79, Tryz.ntmps79
  go_upto_region 1 with fail
  have hW : (w.alloc (.cells hd0.cells.toArray 104)) = w.alloc (.cells #[.string ⟨#[]⟩, .string ⟨#[]⟩, .string ⟨#[]⟩, .int .i64 0, .int .i64 0, .int .i64 0, .int .i64 0, .int .i64 0, .int .u8 0, .int .i64 0, .int .i64 0] 104) := rfl
  rw [← hW]
  generalize w.alloc (.cells hd0.cells.toArray 104) = W0 at g0 C0 A0 L0 s0 z0 ⊢
  clear hW
  have ca := blk_cell A0.out 0 rfl
  have cl := blk_cell L0.out 0 rfl
  rcases nextI l i with ⟨h1, h2⟩ | ⟨b, h1, h2⟩
  · rw [hc] at h2
    injection h2 with h2 h3
    subst h2 h3
    have h1' : (n : Int) ≤ i := by omega
    have hin : ¬ i < n := by omega
    obtain rfl : i = i' := by rw [← Hi'.out, if_neg hin]
    obtain ⟨c0, c1, c2, c3, c4, c5, c6, c7, c8, c9, c10⟩ := hd_cells hd0 C0.out
    obtain ⟨r0, r1, r2, r3, r4, r5, r6, r7, r8, r9, r10⟩ := hd_free C0.out
    go_wp2_with fail
    have C1 := setHd_block C0.out hd0
    have g1 := grown_setHd g0 (g := w.heap.size) (Nat.le_refl _) hd0
    have A1 := (setHd_other (W := W0) (g := w.heap.size) (k := ga) (by omega) hd0).trans A0.out
    exact ret_headV rfl C1 rfl rfl rfl ⟨rfl, g1, A1⟩
  · have hin : i < n := by rw [← hn]; exact (List.getElem?_eq_some_iff.1 h1).1
    obtain rfl : i + 1 = i' := by rw [← Hi'.out, if_pos hin]
    have hini : (i : Int) < n := by omega
    rw [hc] at h2
    injection h2 with h2 h3
    obtain ⟨er, Her⟩ := au (hget b).2
    rw [Her.out] at h3
    have H2 := Au.mk h2.symm
    obtain ⟨b1, o1, A1, c1, rfl, f1, s1⟩ := s0.out.slice_at h1
    obtain ⟨bl, Hbl⟩ := au b.length
    rw [Hbl.out] at f1
    have S1 := Au.mk s1
    clear h1 h2 s1
    go_wp2_with fail
    refine (hget_of Hbl.out H2.out Her.out _ S1.out).mono ?_
    rintro e w1 ⟨rfl, b1⟩
    have g1 := grown_below g0 b1
    have C1 := Au.mk (blk_below C0.out b1 (lt_of_block C0.out))
    have A1 := Au.mk (blk_below A0.out b1 (lt_of_block A0.out))
    have z1 := b1.size
    clear ca cl f1 b1 g0 C0 A0 L0 s0
    unfold Hd.agg
    go_upto_region 4 with fail
    have g2 := grown_alloc g1 (.cells g.cells.toArray 104)
    have H2 : Au ((w1.alloc (.cells g.cells.toArray 104)).heap[w1.heap.size]? = some (.cells g.cells.toArray 104 (0, 0))) := ⟨heap_alloc_new _ _⟩
    have C2 := Au.mk (blk_alloc C1.out (.cells g.cells.toArray 104))
    have A2 := Au.mk (blk_alloc A1.out (.cells g.cells.toArray 104))
    have hW : (w1.alloc (.cells g.cells.toArray 104)) = w1.alloc (.cells #[.string (ofL g.name), .string (ofL g.pre), .string (ofL g.link), .int .i64 g.mode, .int .i64 g.uid, .int .i64 g.gid, .int .i64 g.size, .int .i64 g.mtime, .int .u8 g.ty.toNat, .int .i64 g.off, .int .i64 g.real] 104) := rfl
    rw [← hW]
    generalize w1.alloc (.cells g.cells.toArray 104) = W2 at g2 H2 C2 A2 ⊢
    clear hW
    have ca := blk_cell A2.out 0 rfl
    have ua := blk_free A2.out 0
    have hwi : IntKind.i64.wrap ((i : Int) + 1) = (i : Int) + 1 := by rw [IntKind.wrap_i64]; omega
    go_upto_region 5 with fail
    have g3 := grown_set g2 (p := ⟨ga, 0, none⟩) (.inl rfl) (.int .i64 ((i : Int) + 1))
    have A3 := blk_set A2.out 0 (.int .i64 ((i : Int) + 1))
    have z2 := g2.size
    have C3 := Au.mk ((Below.heap_setCell W2 ⟨ga, 0, none⟩ (.int .i64 ((i : Int) + 1)) w.heap.size (by simp; omega)).trans C2.out)
    have H3 := Au.mk ((Below.heap_setCell W2 ⟨ga, 0, none⟩ (.int .i64 ((i : Int) + 1)) w1.heap.size (by simp; omega)).trans H2.out)
    generalize W2.setCell ⟨ga, 0, none⟩ (.int .i64 ((i : Int) + 1)) = W3 at g3 A3 C3 H3 ⊢
    obtain ⟨k0, k1, k2, k3, k4, k5, k6, k7, k8, k9, k10⟩ := hd_cells g H3.out
    obtain ⟨c0, c1, c2, c3, c4, c5, c6, c7, c8, c9, c10⟩ := hd_cells hd0 C3.out
    obtain ⟨r0, r1, r2, r3, r4, r5, r6, r7, r8, r9, r10⟩ := hd_free C3.out
    have A3 := Au.mk A3
    have H2' := H2
    clear ca ua H2
    obtain ⟨q, Hq⟩ := au (er == 0)
    have hq := Hq.out
    go_wp2_with fail
    have C4 := setHd_block C3.out g
    have g4 := grown_setHd g3 (g := w.heap.size) (Nat.le_refl _) g
    have A4 := (setHd_other (W := W3) (g := w.heap.size) (k := ga) (by omega) g).trans A3.out
    exact ret_headV rfl C4 rfl rfl rfl ⟨by rw [h3, hq]; rfl, g4, A4⟩
/-- What Get hands back. -/
def cgV : Option (Nd × Int × Int × Nat) → Array Value
  | some (n, off, whole, used) => #[n.agg, .int .i64 off, .int .i64 whole, .int .i64 (used : Int), .bool true]
  | none => #[nd0.agg, .int .i64 0, .int .i64 0, .int .i64 0, .bool false]
theorem results5 {fn : Func} {p q1 q2 q3 q4 : Tmp} {ty : TypeId} (h : fn.results = #[.cell p ty, .tmp q1, .tmp q2, .tmp q3, .tmp q4]) (tmps : Array Value) (P : Program) (w : World) :
    (results fn tmps).run P w =
      ((asAddr (tmps.getD p undef)).run P w).andThen fun a w₁ => ((loadVar ty a).run P w₁).andThen fun v w₂ => .ok (.tuple #[v, tmps.getD q1 undef, tmps.getD q2 undef, tmps.getD q3 undef, tmps.getD q4 undef]) w₂ := by
  simp only [results, h]
  simp [Sem.run_bind, Result.andThen]
theorem ret_node5 {fn : Func} {p q1 q2 q3 q4 : Tmp} (hfn : fn.results = #[.cell p 23, .tmp q1, .tmp q2, .tmp q3, .tmp q4]) {R : Ending → World → Prop} {w : World} {n : Nd} {g : Nat} {v1 v2 v3 v4 : Value} {a : Act} (hg : w.heap[g]? = some (.cells n.cells.toArray 23 (0, 0)))
    (t0 : a.tmps.getD p undef = .pointer (some ⟨g, 0, none⟩)) (t1 : a.tmps.getD q1 undef = v1) (t2 : a.tmps.getD q2 undef = v2) (t3 : a.tmps.getD q3 undef = v3) (t4 : a.tmps.getD q4 undef = v4) (hd : a.defers = [])
    (hR : R (.returned (.tuple #[n.agg, v1, v2, v3, v4])) w) : bodyPost Tryz.prog fn R .ret a w := by
  refine bodyPost_ret (v := .tuple #[n.agg, v1, v2, v3, v4]) ?_ hd hR
  rw [results5 hfn, t0, t1, t2, t3, t4]
  have hp := run_loadVar_row (P := Tryz.prog) w g 23 23 n.cells.toArray (0, 0) _ hg Tryz.underlying23 rfl (by kernel_rfl)
  simp [asAddr, hp, Result.andThen]
  rfl
theorem cno_calls (w : World) : Calls Tryz.prog 78 #[] w fun e w' => e = .returned (.tuple (cgV none)) ∧ Below w.heap.size w w' := by
  have b0 := (Below.refl w.heap.size w).alloc (Nat.le_refl _) (.cells nd0.cells.toArray 23)
  have G0 := heap_alloc_new w (.cells nd0.cells.toArray 23)
  go_enter Tryz.func78, Tryz.ntmps78
  go_wp2_with fail
  exact ret_node5 rfl G0 rfl rfl rfl rfl rfl rfl ⟨rfl, b0⟩
end Go.Proofs.YtldhcknjpmbgnaaGreatDoor.Rk
