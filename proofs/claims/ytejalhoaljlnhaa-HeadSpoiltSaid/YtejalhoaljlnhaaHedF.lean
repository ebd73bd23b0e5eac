/- The laws HeadTells, HeadSpoilt, walked. -/
import Derived.Test.YtejalhoaljlnhaaHedD
namespace Go.Proofs.Ytejalhoaljlnhaa.Rk
open Go.RowKit
set_option linter.unusedVariables false
set_option linter.unusedSimpArgs false

theorem hd_cells {W : World} {g : Nat} (h : Hd) (hg : W.heap[g]? = some (.cells h.cells.toArray 36 (0, 0))) : W.cell? ⟨g, 0, none⟩ = some (.string (ofL h.name)) ∧ W.cell? ⟨g, 1, none⟩ = some (.string (ofL h.pre)) ∧ W.cell? ⟨g, 2, none⟩ = some (.string (ofL h.link)) ∧ W.cell? ⟨g, 3, none⟩ = some (.int .i64 h.mode) ∧ W.cell? ⟨g, 4, none⟩ = some (.int .i64 h.uid) ∧ W.cell? ⟨g, 5, none⟩ = some (.int .i64 h.gid) ∧ W.cell? ⟨g, 6, none⟩ = some (.int .i64 h.size) ∧ W.cell? ⟨g, 7, none⟩ = some (.int .i64 h.mtime) ∧ W.cell? ⟨g, 8, none⟩ = some (.int .u8 h.ty.toNat) ∧ W.cell? ⟨g, 9, none⟩ = some (.int .i64 h.off) ∧ W.cell? ⟨g, 10, none⟩ = some (.int .i64 h.real) :=
  ⟨blk_cell hg 0 rfl, blk_cell hg 1 rfl, blk_cell hg 2 rfl, blk_cell hg 3 rfl, blk_cell hg 4 rfl, blk_cell hg 5 rfl, blk_cell hg 6 rfl, blk_cell hg 7 rfl, blk_cell hg 8 rfl, blk_cell hg 9 rfl, blk_cell hg 10 rfl⟩
set_option maxHeartbeats 4000000 in
theorem HeadTells_walk (h : Hd) (b : List UInt8) {A : Option Addr} {c : Nat} (w : World) (hr : h.R) (hs : Sl Kd.byte w (fun _ => True) A c b) :
    Calls Try.prog 10 #[h.agg, .slice A b.length c] w fun e w' => e = .returned (.bool true) ∧ Below w.heap.size w w' := by
  have hle := hs.le
  have hb0 := (Below.refl w.heap.size w).alloc (Nat.le_refl _) (.cells h.cells.toArray 36)
  have G0 : Au ((w.alloc (.cells h.cells.toArray 36)).heap[w.heap.size]? = some (.cells h.cells.toArray 36 (0, 0))) := ⟨heap_alloc_new _ _⟩
  have HR := Au.mk hr
  have Hs := Au.mk hs
  clear hr hs
  obtain ⟨f, Hf⟩ := au (few h)
  unfold Hd.agg
  by_cases h600 : b.length ≤ 600
  · have c6 : decide ((600 : Int) < b.length) = false := by simp; omega
    clear h600
    cases f
    · go_enter Try.func10, Try.ntmps10
      go_wp2_with fail
      refine (awake04_calls _).mono ?_
      rintro e w1 ⟨rfl, b1⟩
      obtain ⟨k0, k1, k2, k3, k4, k5, k6, k7, k8, k9, k10⟩ := hd_cells h (blk_below G0.out b1 (lt_of_block G0.out))
      have e1 := below_then hb0 b1 hb0.size
      go_wp2_with fail
      refine (few_calls h Hf.out _).mono ?_
      rintro e w2 ⟨rfl, b2⟩
      go_wp2_with fail
      go_ret
      exact ⟨rfl, below_then e1 b2 e1.size⟩
    · have HS := Au.mk ((few_iff h).1 Hf.out)
      obtain ⟨p, Hp⟩ := au ((hput h).getD [])
      obtain ⟨bb, Hb⟩ := au (hput h).isSome
      obtain ⟨g, Hg⟩ := au (hget b).1
      obtain ⟨er, He⟩ := au (hget b).2
      obtain ⟨m, Hm⟩ := au (hmay h)
      obtain ⟨n, Hn⟩ := au (hsum b)
      have q1 := Try.eqGuardType36
      have q2 := Try.stoodInHeld36
      go_enter Try.func10, Try.ntmps10
      go_wp2_with fail
      refine (awake04_calls _).mono ?_
      rintro e w1 ⟨rfl, b1⟩
      have G1 := Au.mk (blk_below G0.out b1 (lt_of_block G0.out))
      obtain ⟨k0, k1, k2, k3, k4, k5, k6, k7, k8, k9, k10⟩ := hd_cells h G1.out
      have e1 := below_then hb0 b1 hb0.size
      clear b1 G0 hb0
      go_wp2_with fail
      refine (few_calls h Hf.out _).mono ?_
      rintro e w2 ⟨rfl, b2⟩
      have G2 := Au.mk (blk_below G1.out b2 (lt_of_block G1.out))
      clear k0 k1 k2 k3 k4 k5 k6 k7 k8 k9 k10
      obtain ⟨k0, k1, k2, k3, k4, k5, k6, k7, k8, k9, k10⟩ := hd_cells h G2.out
      have e2 := below_then e1 b2 e1.size
      clear b2 G1 e1
      go_wp2_with fail
      refine (hput_view h HR.out Hp.out Hb.out _).mono ?_
      rintro e w3 ⟨A3, c3, rfl, s3, b3⟩
      have G3 := Au.mk (blk_below G2.out b3 (lt_of_block G2.out))
      clear k0 k1 k2 k3 k4 k5 k6 k7 k8 k9 k10
      obtain ⟨k0, k1, k2, k3, k4, k5, k6, k7, k8, k9, k10⟩ := hd_cells h G3.out
      have e3 := below_then e2 b3 e2.size
      clear b3 G2 e2
      go_wp2_with fail
      refine (rput04_view h HR.out HS.out Hp.out Hb.out _).mono ?_
      rintro e w4 ⟨A4, c4, rfl, s4, b4⟩
      have G4 := Au.mk (blk_below G3.out b4 (lt_of_block G3.out))
      have S3 := Au.mk (s3.below b4)
      clear k0 k1 k2 k3 k4 k5 k6 k7 k8 k9 k10
      have e4 := below_then e3 b4 e3.size
      clear b4 G3 e3 s3
      go_wp2_with fail
      refine (hget_view b Hg.out He.out _ (Hs.out.below e4)).mono ?_
      rintro e w5 ⟨rfl, b5⟩
      have G5 := Au.mk (blk_below G4.out b5 (lt_of_block G4.out))
      have S5 := Au.mk (S3.out.below b5)
      have S5b := Au.mk (s4.below b5)
      have e5 := below_then e4 b5 e4.size
      clear b5 G4 e4 S3 s4
      unfold Hd.agg
      go_upto_region 8 with fail
      generalize hW : World.alloc w5 _ = W6
      have G6 : Au (W6.heap[w.heap.size]? = some (.cells h.cells.toArray 36 (0, 0))) := ⟨by rw [← hW]; exact blk_alloc G5.out _⟩
      have J6 : Au (W6.heap[w5.heap.size]? = some (.cells g.cells.toArray 36 (0, 0))) := ⟨by rw [← hW]; exact heap_alloc_new _ _⟩
      have e6 : Below w.heap.size w W6 := by rw [← hW]; exact e5.alloc e5.size _
      have S6 := Au.mk (S5.out.alloc (.cells g.cells.toArray 36))
      have S6b := Au.mk (S5b.out.alloc (.cells g.cells.toArray 36))
      have hW2 : w5.alloc (.cells g.cells.toArray 36) = W6 := hW
      rw [hW2] at S6 S6b
      clear hW hW2 G5 e5 S5 S5b
      go_wp2_with fail
      refine (rget04_view b Hg.out He.out _ (Hs.out.below e6)).mono ?_
      rintro e w7 ⟨rfl, b7⟩
      have G7 := Au.mk (blk_below G6.out b7 (lt_of_block G6.out))
      have J7 := Au.mk (blk_below J6.out b7 (lt_of_block J6.out))
      have S7 := Au.mk (S6.out.below b7)
      have S7b := Au.mk (S6b.out.below b7)
      have e7 := below_then e6 b7 e6.size
      clear b7 G6 J6 e6 S6 S6b
      unfold Hd.agg
      go_upto_region 9 with fail
      generalize hW : World.alloc w7 _ = W8
      have G8 : Au (W8.heap[w.heap.size]? = some (.cells h.cells.toArray 36 (0, 0))) := ⟨by rw [← hW]; exact blk_alloc G7.out _⟩
      have J8 : Au (W8.heap[w5.heap.size]? = some (.cells g.cells.toArray 36 (0, 0))) := ⟨by rw [← hW]; exact blk_alloc J7.out _⟩
      have L8 : Au (W8.heap[w7.heap.size]? = some (.cells g.cells.toArray 36 (0, 0))) := ⟨by rw [← hW]; exact heap_alloc_new _ _⟩
      have e8 : Below w.heap.size w W8 := by rw [← hW]; exact e7.alloc e7.size _
      have S8 := Au.mk (S7.out.alloc (.cells g.cells.toArray 36))
      have S8b := Au.mk (S7b.out.alloc (.cells g.cells.toArray 36))
      have hW2 : w7.alloc (.cells g.cells.toArray 36) = W8 := hW
      rw [hW2] at S8 S8b
      clear hW hW2 G7 J7 e7 S7 S7b
      obtain ⟨k0, k1, k2, k3, k4, k5, k6, k7, k8, k9, k10⟩ := hd_cells h G8.out
      go_wp2_with fail
      refine (rmay_calls h HR.out HS.out Hm.out _).mono ?_
      rintro e w9 ⟨rfl, b9⟩
      have G9 := blk_below G8.out b9 (lt_of_block G8.out)
      have J9 := blk_below J8.out b9 (lt_of_block J8.out)
      have L9 := blk_below L8.out b9 (lt_of_block L8.out)
      have e9 := below_then e8 b9 e8.size
      have t1 := str_of (S8.out.below b9)
      have t2 := str_of (S8b.out.below b9)
      clear k0 k1 k2 k3 k4 k5 k6 k7 k8 k9 k10
      obtain ⟨k0, k1, k2, k3, k4, k5, k6, k7, k8, k9, k10⟩ := hd_cells h G9
      obtain ⟨j0, j1, j2, j3, j4, j5, j6, j7, j8, j9, j10⟩ := hd_cells g J9
      obtain ⟨l0, l1, l2, l3, l4, l5, l6, l7, l8, l9, l10⟩ := hd_cells g L9
      clear b9 G8 J8 L8 e8 S8 S8b G9 J9 L9
      go_wp2_with fail
      refine (may_calls h HR.out Hm.out _).mono ?_
      rintro e w10 ⟨rfl, b10⟩
      have e10 := below_then e9 b10 e9.size
      have s10 := Hs.out.below e10
      go_wp2_with fail
      refine (sum_of rfl Hn.out _ s10).mono ?_
      rintro e w11 ⟨rfl, rfl⟩
      go_wp2_with fail
      refine (rsum_of rfl Hn.out _ s10).mono ?_
      rintro e w12 ⟨rfl, rfl⟩
      go_wp2_with fail
      go_ret
      exact ⟨ret_true (by simp), e10⟩
  · have c6 : decide ((600 : Int) < b.length) = true := by simp; omega
    clear h600
    cases f
    all_goals
      go_enter Try.func10, Try.ntmps10
      go_wp2_with fail
      refine (awake04_calls _).mono ?_
      rintro e w1 ⟨rfl, b1⟩
      obtain ⟨k0, k1, k2, k3, k4, k5, k6, k7, k8, k9, k10⟩ := hd_cells h (blk_below G0.out b1 (lt_of_block G0.out))
      have e1 := below_then hb0 b1 hb0.size
      go_wp2_with fail
      refine (few_calls h Hf.out _).mono ?_
      rintro e w2 ⟨rfl, b2⟩
      go_wp2_with fail
      go_ret
      exact ⟨rfl, below_then e1 b2 e1.size⟩
end Go.Proofs.Ytejalhoaljlnhaa.Rk
