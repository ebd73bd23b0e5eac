/- CheckCut, walked. -/
import Derived.Test.YtldhcknjpmbgnaaGreatDoorCkH
namespace Go.Proofs.YtldhcknjpmbgnaaGreatDoor.Rk
open Go.RowKit Go.Shelf
set_option linter.unusedVariables false
set_option linter.unusedSimpArgs false
set_option maxRecDepth 100000

set_option maxHeartbeats 4000000 in
theorem CheckCut_walk (t : Tp) (hR : R64 t.cap) (k : Int) (hk : R64 k) {A : Option Addr} {c : Nat} {F : Nat → Prop} (w : World) (ha : Sl (Kd.slice Kd.byte) w F A c t.recs) (hT : Tab w) :
    Calls Tryz.prog 5 #[.agg #[.int .i64 t.cap, .slice A t.recs.length c, .bool t.mark], .int .i64 k] w fun e w' => e = .returned (.bool true) ∧ Below w.heap.size w w' := by
  obtain ⟨n, Hn⟩ := au t.recs.length
  rw [Hn.out]
  have hle := ha.le
  have hnc := ha.1
  have hcm := ha.2.1
  rw [Hn.out] at hle hnc
  have X0 : Au ((w.alloc (.cells #[.int .i64 t.cap, .slice A n c, .bool t.mark] 38)).heap[w.heap.size]? = some (.cells #[.int .i64 t.cap, .slice A n c, .bool t.mark] 38 (0, 0))) := ⟨heap_alloc_new _ _⟩
  have hb0 : Below w.heap.size w (w.alloc (.cells #[.int .i64 t.cap, .slice A n c, .bool t.mark] 38)) := (Below.refl _ _).alloc (Nat.le_refl _) _
  have a0 := Au.mk (ha.old.below hb0)
  have T0 := Au.mk (hT.below hb0)
  have HT := Au.mk hT
  have e0 := Au.mk hb0
  clear ha hT hb0
  go_enter Tryz.func5, Tryz.ntmps5
  go_wp2_with fail
  refine (awake18_calls _ T0.out).mono ?_
  rintro e w1 ⟨rfl, b1⟩
  have e1 := Au.mk (below_then e0.out b1 e0.out.size)
  have X1 := Au.mk (blk_below X0.out b1 (lt_of_block X0.out))
  have T1 := Au.mk (T0.out.below b1)
  have a1 := Au.mk (a0.out.below b1)
  clear b1
  have f0 := blk_cell X1.out 0 rfl
  have f1 := blk_cell X1.out 1 rfl
  have f2 := blk_cell X1.out 2 rfl
  have C11 := Au.mk (few11_calls t.recs Hn.out w1 a1.out)
  go_wp2_with fail
  refine C11.out.mono ?_
  rintro e w3 ⟨⟨⟨r, rfl, -⟩⟩, rfl⟩
  clear C11
  cases r
  · go_wp2_with fail
    go_ret
    exact ⟨rfl, e1.out⟩
  by_cases hk0 : k < 0
  · go_wp2_with fail
    go_ret
    exact ⟨rfl, e1.out⟩
  by_cases hkl : (n : Int) < k
  · go_wp2_with fail
    go_ret
    exact ⟨rfl, e1.out⟩
  obtain ⟨kn, rfl⟩ : ∃ kn : Nat, k = (kn : Int) := ⟨k.toNat, by omega⟩
  have hkn : kn ≤ n := by omega
  have hkc : kn ≤ c := by omega
  clear f0 f1 f2
  have f0 := blk_cell X1.out 0 rfl
  have f1 := blk_cell X1.out 1 rfl
  have f2 := blk_cell X1.out 2 rfl
  have hb2 : Below w1.heap.size w1 (w1.alloc (.cells #[.int .i64 t.cap, .slice A n c, .bool t.mark] 38)) := (Below.refl _ _).alloc (Nat.le_refl _) _
  have Y2 := Au.mk (heap_alloc_new w1 (.cells #[.int .i64 t.cap, .slice A n c, .bool t.mark] 38))
  have X2 := Au.mk (blk_below X1.out hb2 (lt_of_block X1.out))
  have T2 := Au.mk (T1.out.below hb2)
  have a2 := Au.mk (a1.out.below hb2)
  have e2 := Au.mk (below_then e1.out hb2 e1.out.size)
  have z2 : (w1.alloc (.cells #[.int .i64 t.cap, .slice A n c, .bool t.mark] 38)).heap.size = w1.heap.size + 1 := by simp
  have hw1 : w.heap.size < w1.heap.size := lt_of_block X1.out
  obtain ⟨g, Hg⟩ := au w1.heap.size
  go_upto_region 6 with fail
  generalize w1.alloc (.cells #[.int .i64 t.cap, .slice A n c, .bool t.mark] 38) = W2 at Y2 X2 T2 a2 e2 z2 ⊢
  rw [Hg.out] at Y2 z2 hw1 ⊢
  clear f0 f1 f2 hb2
  have f0 := blk_cell X2.out 0 rfl
  have f1 := blk_cell X2.out 1 rfl
  have f2 := blk_cell X2.out 2 rfl
  have y1 := blk_cell Y2.out 1 rfl
  have yf := blk_free Y2.out 1
  have y0 := blk_cell Y2.out 0 rfl
  have y2 := blk_cell Y2.out 2 rfl
  obtain ⟨⟨al, en⟩, Ha⟩ := au (cblocks t)
  obtain ⟨⟨bl, fn⟩, Hb⟩ := au (cblocks { t with recs := t.recs.take kn })
  obtain ⟨an, An⟩ := au al.length
  obtain ⟨bn, Bn⟩ := au bl.length
  obtain ⟨⟨s1', k1', g1'⟩, Hw1⟩ := au (cwho t)
  obtain ⟨⟨s2', k2', g2'⟩, Hw2⟩ := au (cwho { t with recs := t.recs.take kn })
  have htk : (t.recs.take kn).length = kn := by rw [List.length_take]; have := Hn.out; omega
  have CB1 := Au.mk (fun (W : World) (G : Nat → Prop) (h : Sl (Kd.slice Kd.byte) W G A c t.recs) => (show Calls Tryz.prog 19 #[.agg #[.int .i64 t.cap, .slice A n c, .bool t.mark]] W fun e w' => ∃ A' c', e = .returned (.tuple #[.slice A' an c', .int .i64 en]) ∧ Sl (Kd.slice Kd.byte) w' (fun j => W.heap.size ≤ j) A' c' al ∧ Below W.heap.size W w' from by have := cblocks_calls t hR Hn.out Ha.out W h; rw [An.out] at this; exact this))
  have CB2 := Au.mk (fun (W : World) (G : Nat → Prop) (h : Sl (Kd.slice Kd.byte) W G A c t.recs) => (show Calls Tryz.prog 19 #[.agg #[.int .i64 t.cap, .slice A kn c, .bool t.mark]] W fun e w' => ∃ A' c', e = .returned (.tuple #[.slice A' bn c', .int .i64 fn]) ∧ Sl (Kd.slice Kd.byte) w' (fun j => W.heap.size ≤ j) A' c' bl ∧ Below W.heap.size W w' from by have := cblocks_calls { t with recs := t.recs.take kn } hR htk Hb.out W (Sl.take rfl h kn); rw [Bn.out] at this; exact this))
  have CW1 := Au.mk (fun (W : World) (hT : Tab W) (G : Nat → Prop) (h : Sl (Kd.slice Kd.byte) W G A c t.recs) => (show Calls Tryz.prog 17 #[.agg #[.int .i64 t.cap, .slice A n c, .bool t.mark]] W fun e w' => e = .returned (.tuple #[.string (ofL s1'), .int .i64 k1', .int .i64 g1']) ∧ Below W.heap.size W w' from cwho_calls t hR Hn.out Hw1.out W hT h))
  have CW2 := Au.mk (fun (W : World) (hT : Tab W) (G : Nat → Prop) (h : Sl (Kd.slice Kd.byte) W G A c t.recs) => (show Calls Tryz.prog 17 #[.agg #[.int .i64 t.cap, .slice A kn c, .bool t.mark]] W fun e w' => e = .returned (.tuple #[.string (ofL s2'), .int .i64 k2', .int .i64 g2']) ∧ Below W.heap.size W w' from cwho_calls { t with recs := t.recs.take kn } hR htk Hw2.out W hT (Sl.take rfl h kn)))
  clear htk
  have x3 : (W2.setCell ⟨g, 1, none⟩ (.slice A kn c)).heap[w.heap.size]? = some (.cells #[.int .i64 t.cap, .slice A n c, .bool t.mark] 38 (0, 0)) := (Below.heap_setCell W2 ⟨g, 1, none⟩ (.slice A kn c) w.heap.size (by simp; omega)).trans X2.out
  have a3 := a2.out.set (p := ⟨g, 1, none⟩) (.slice A kn c) (fun h => by have := h.2; simp at this; omega)
  have e3 := e2.out.setCell (p := ⟨g, 1, none⟩) (by simp; omega) (.slice A kn c)
  have k0 : (W2.setCell ⟨g, 1, none⟩ (.slice A kn c)).cell? ⟨g, 0, none⟩ = some (.int .i64 t.cap) := (World.cell?_setCell_other W2 _ _ _ (by simp)).trans y0
  have k1 : (W2.setCell ⟨g, 1, none⟩ (.slice A kn c)).cell? ⟨g, 1, none⟩ = some (.slice A kn c) := World.cell?_setCell_same' W2 _ _ (by rw [y1]; rfl)
  have k2 : (W2.setCell ⟨g, 1, none⟩ (.slice A kn c)).cell? ⟨g, 2, none⟩ = some (.bool t.mark) := (World.cell?_setCell_other W2 _ _ _ (by simp)).trans y2
  go_upto_region 7 with fail
  generalize W2.setCell ⟨g, 1, none⟩ (.slice A kn c) = W3 at x3 a3 e3 k0 k1 k2 ⊢
  clear f0 f1 f2 y0 y1 y2 yf X0 X1 X2 Y2 a0 a1 a2 T0 T1 T2 e0 e1 e2
  have X3 := Au.mk x3
  have A3 := Au.mk a3
  have E3 := Au.mk e3
  have f0 := blk_cell x3 0 rfl
  have f1 := blk_cell x3 1 rfl
  have f2 := blk_cell x3 2 rfl
  clear a3 e3 x3
  go_wp2_with fail
  refine (CB1.out _ _ A3.out).mono ?_
  rintro e w4 ⟨A4, c4, rfl, s4, b4⟩
  have E4 := Au.mk (below_then E3.out b4 E3.out.size)
  have X4 := Au.mk (blk_below X3.out b4 (lt_of_block X3.out))
  have A4r := Au.mk (A3.out.below b4)
  have S4 := Au.mk s4
  have l0 := cell_below k0 b4
  have l1 := cell_below k1 b4
  have l2 := cell_below k2 b4
  clear f0 f1 f2 k0 k1 k2 s4 b4
  go_wp2_with fail
  refine (CB2.out _ _ A4r.out).mono ?_
  rintro e w5 ⟨A5, c5, rfl, s5, b5⟩
  have E5 := Au.mk (below_then E4.out b5 E4.out.size)
  have X5 := Au.mk (blk_below X4.out b5 (lt_of_block X4.out))
  have A5r := Au.mk (A4r.out.below b5)
  have S4b := Au.mk (S4.out.below b5)
  have S5 := Au.mk s5
  have m0 := cell_below l0 b5
  have m1 := cell_below l1 b5
  have m2 := cell_below l2 b5
  clear l0 l1 l2 s5 b5
  have hbm := S5.out.le
  rw [Bn.out] at hbm
  have ham := S4b.out.le
  rw [An.out] at ham
  by_cases hm : tapeMay t = true
  · obtain ⟨q1, q2, q3, q4, q5⟩ := cut_spec hm (k := kn) (by have := Hn.out; omega)
    rw [Ha.out] at q1 q3
    rw [Hb.out] at q2 q3
    rw [Hw2.out] at q4 q5
    rw [Hw1.out] at q5
    dsimp only at q1 q2 q3 q4
    subst q1 q2
    have hbn : bn ≤ an := by rw [← An.out, ← Bn.out]; exact q3.length_le
    have Q3 := Au.mk q3
    have Q4 := Au.mk q4
    have Q5 := Au.mk q5
    clear q3 q4 q5 hm
    go_wp2_with fail
    go_loopw [12] (fun i wr => ∃ j : Nat, j ≤ bn ∧ i = .int .i64 (j : Int) ∧ Drawn w5 wr) (fun i _ => bn - (intOf i).toNat)
    case atStart => exact ⟨0, Nat.zero_le _, rfl, ⟨0, rfl⟩⟩
    case round =>
      obtain ⟨j, hj, rfl, ⟨nd, rfl⟩⟩ := hrel
      by_cases hlt : j < bn
      · have hjv : (j : Int) < bn := by omega
        have hja : (j : Int) < an := by omega
        obtain ⟨x, hx⟩ : ∃ x, bl[j]? = some x := ⟨_, List.getElem?_eq_getElem (by have := Bn.out; omega)⟩
        have hy : al[j]? = some x := by
          obtain ⟨tl, htl⟩ := Q3.out
          rw [← htl, List.getElem?_append_left (by have := Bn.out; omega)]; exact hx
        obtain ⟨b8, o8, A8, c8, rfl, f5, s8⟩ := S5.out.slice_at hx
        obtain ⟨b9, o9, A9, c9, rfl, f6, s9⟩ := S4b.out.slice_at hy
        have ka : ∀ n, (convert 46 9 (.slice A8 x.length c8)).run Tryz.prog (w5.drewN n) = .ok (.string (ofL x)) (w5.drewN n) := fun n => str_of (s8.drewN n)
        have kb : ∀ n, (convert 46 9 (.slice A9 x.length c9)).run Tryz.prog (w5.drewN n) = .ok (.string (ofL x)) (w5.drewN n) := fun n => str_of (s9.drewN n)
        obtain ⟨xl, Xl⟩ := au x.length
        rw [Xl.out] at f5 f6 ka kb
        have hja2 : j < an := by omega
        clear hx hy s8 s9
        go_wp2_with fail
        go_quiet (fail)
        go_wp2_with fail
        go_roundw
        case rel => exact ⟨j + 1, by omega, by go_num, ⟨_, rfl⟩⟩
        case measure => simp [intOf]; omega
      · have hge : ¬ ((j : Int) < bn) := by omega
        have f0 : (w5.drewN nd).cell? ⟨w.heap.size, 0, none⟩ = some (.int .i64 t.cap) := blk_cell X5.out 0 rfl
        have f1 : (w5.drewN nd).cell? ⟨w.heap.size, 1, none⟩ = some (.slice A n c) := blk_cell X5.out 1 rfl
        have f2 : (w5.drewN nd).cell? ⟨w.heap.size, 2, none⟩ = some (.bool t.mark) := blk_cell X5.out 2 rfl
        have n0 : (w5.drewN nd).cell? ⟨g, 0, none⟩ = some (.int .i64 t.cap) := m0
        have n1 : (w5.drewN nd).cell? ⟨g, 1, none⟩ = some (.slice A kn c) := m1
        have n2 : (w5.drewN nd).cell? ⟨g, 2, none⟩ = some (.bool t.mark) := m2
        have E6 := Au.mk (below_drewN E5.out nd)
        have A6r := Au.mk (A5r.out.drewN nd)
        clear m0 m1 m2 hlt
        generalize w5.drewN nd = w6 at f0 f1 f2 n0 n1 n2 E6 A6r ⊢
        go_wp2_with fail
        refine (CW1.out _ (HT.out.below E6.out) _ A6r.out).mono ?_
        rintro e w7 ⟨rfl, b7⟩
        have E7 := Au.mk (below_then E6.out b7 E6.out.size)
        have A7r := Au.mk (A6r.out.below b7)
        have k0 := cell_below n0 b7
        have k1 := cell_below n1 b7
        have k2 := cell_below n2 b7
        clear f0 f1 f2 n0 n1 n2 b7
        go_wp2_with fail
        refine (CW2.out _ (HT.out.below E7.out) _ A7r.out).mono ?_
        rintro e w8 ⟨rfl, b8⟩
        have E8 := Au.mk (below_then E7.out b8 E7.out.size)
        clear k0 k1 k2 b8
        by_cases hkz : kn = 0
        · have h7 : g2' = 7 := Q4.out hkz
          subst h7 hkz
          go_wp2_with fail
          go_ret
          exact ⟨rfl, E8.out⟩
        · have h8 := Q5.out (by omega)
          simp only [Prod.mk.injEq] at h8
          obtain ⟨rfl, rfl, rfl⟩ := h8
          have p1 : ((kn : Int) == 0) = false := by simp; omega
          have p2 : decide ((0 : Int) < (kn : Int)) = true := decide_eq_true (by omega)
          have p3 : (0 : Int) < (kn : Int) := by omega
          have p4 : 0 < kn := by omega
          clear hkz
          go_wp2_with fail
          go_ret
          exact ⟨rfl, E8.out⟩
  · have hen : en = 1 := by
      have := Ha.out
      unfold cblocks at this
      rw [if_neg hm] at this
      simp only [Prod.mk.injEq] at this
      exact this.2.symm
    subst hen
    clear hm
    go_wp2_with fail
    go_ret
    exact ⟨rfl, E5.out⟩
end Go.Proofs.YtldhcknjpmbgnaaGreatDoor.Rk
