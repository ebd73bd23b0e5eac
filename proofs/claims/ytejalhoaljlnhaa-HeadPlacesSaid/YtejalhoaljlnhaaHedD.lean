/- Walks: reelkeeperlaw04.awake. -/
import Derived.Test.YtejalhoaljlnhaaHedC
import Derived.Test.YtejalhoaljlnhaaFork
namespace Go.Proofs.Ytejalhoaljlnhaa.Rk
open Go.RowKit
set_option linter.unusedVariables false
set_option linter.unusedSimpArgs false

theorem zeros_bad : hget (zeros 512) = (hd0, 4) := by
  have h1 : isZero (zeros 512) = true := by decide +kernel
  simp only [hget, zeros_length, h1]
  simp
def SCELLS (w' : World) (b o g : Nat) : Prop := w'.cell? ⟨g, 0, none⟩ = some (.string (ofL [97])) ∧ w'.cell? ⟨g, 1, none⟩ = some (.string (ofL [])) ∧ w'.cell? ⟨g, 2, none⟩ = some (.string (ofL [])) ∧ w'.cell? ⟨g, 3, none⟩ = some (.int .i64 420) ∧ w'.cell? ⟨g, 4, none⟩ = some (.int .i64 0) ∧ w'.cell? ⟨g, 5, none⟩ = some (.int .i64 0) ∧ w'.cell? ⟨g, 6, none⟩ = some (.int .i64 0) ∧ w'.cell? ⟨g, 7, none⟩ = some (.int .i64 1000) ∧ w'.cell? ⟨g, 8, none⟩ = some (.int .u8 48) ∧ w'.cell? ⟨g, 9, none⟩ = some (.int .i64 0) ∧ w'.cell? ⟨g, 10, none⟩ = some (.int .i64 0) ∧ w'.cell? ⟨b, o + 257, none⟩ = some (.int .u8 117) ∧ w'.cell? ⟨b, o + 148, none⟩ = some (.int .u8 48)
set_option maxHeartbeats 4000000 in
theorem awake04_calls (w : World) : Calls Try.prog 26 #[] w fun e w' => e = .returned (.bool true) ∧ Below w.heap.size w w' := by
  have hb0 := Below.refl w.heap.size w
  have hB := blockOf_length _ one_fits
  have hgt := hget_block _ one_R one_fits
  have h148 := one_148
  have h257 : (blockOf (hdOne [97] 0))[257]? = some 117 := by
    have h1 := at_ustar (hdOne [97] 0) one_fits _ (sgn_length (layB (hdOne [97] 0) (zeros 8)))
    have h2 := congrArg (fun l => l[0]?) h1
    have h3 : (blockOf (hdOne [97] 0)) = layB (hdOne [97] 0) (sgn (layB (hdOne [97] 0) (zeros 8))) := rfl
    rw [h3]
    simpa [List.getElem?_take, List.getElem?_drop, ustar] using h2
  have hsm := hsum512 hB
  have hge := sumK_ge (blockOf (hdOne [97] 0))
  have hle := sumK_le (blockOf (hdOne [97] 0)) 512
  have hput1 : hput (hdOne [97] 0) = some (blockOf (hdOne [97] 0)) := by unfold hput; rw [if_pos one_may]
  obtain ⟨B, HB⟩ := au (blockOf (hdOne [97] 0))
  rw [HB.out] at hB hgt h148 h257 hsm hge hle hput1
  obtain ⟨m, Hm⟩ := au (hsum B)
  rw [Hm.out] at hsm
  have hm0 : 0 < m := by omega
  have HL := Au.mk hB
  have Hg1 : Au ((hget B).1 = hdOne [97] 0) := ⟨by rw [hgt]⟩
  have Hg2 : Au ((hget B).2 = 0) := ⟨by rw [hgt]⟩
  have Hp : Au ((hput (hdOne [97] 0)).getD [] = B) := ⟨by rw [hput1]; rfl⟩
  have Hpb : Au ((hput (hdOne [97] 0)).isSome = true) := ⟨by rw [hput1]; rfl⟩
  have Hz1 : Au ((hget (zeros 512)).1 = hd0) := ⟨by rw [zeros_bad]⟩
  have Hz2 : Au ((hget (zeros 512)).2 = 4) := ⟨by rw [zeros_bad]⟩
  have H148 := Au.mk h148
  have H257 := Au.mk h257
  have km : ∀ W : World, (Instr.makeSlice 22 (.int .i64 512) (.int .i64 512)).run Try.prog W = .ok (.slice (some ⟨W.heap.size, 0, none⟩) 512 512) (W.alloc (.cells (bcs (zeros 512)).toArray 5)) := make_bytes etBytes 512 (by decide)
  clear hB hgt h148 h257 hsm hge hle hput1
  go_enter Try.func26, Try.ntmps26
  go_wp2_with fail
  refine (one_calls [97] 0 _).mono ?_
  rintro e w1 ⟨rfl, b1⟩
  go_wp2_with fail
  refine (hput_view _ one_R Hp.out Hpb.out _).mono ?_
  rintro e w2 ⟨A, c, rfl, s2, b2⟩
  have e2 := bt b1 b2
  go_wp2_with fail
  refine (hget_view B Hg1.out Hg2.out _ s2).mono ?_
  rintro e w3 ⟨rfl, b3⟩
  have e3 := bt e2 b3
  have s3 := s2.below b3
  unfold Hd.agg hdOne
  go_upto_region 3 with fail
  generalize hW : World.alloc w3 _ = W4
  have G4 : Au (W4.heap[w3.heap.size]? = some (.cells (hdOne [97] 0).cells.toArray 36 (0, 0))) := ⟨by rw [← hW]; exact heap_alloc_new _ _⟩
  have e4 : Below w.heap.size w W4 := by rw [← hW]; exact e3.alloc e3.size _
  have s4 : Sl Kd.byte W4 (fun k => w1.heap.size ≤ k) A c B := by rw [← hW]; exact s3.alloc _
  clear hW s3 s2 e3 e2 b3 b2 b1
  have s5 := new_sl W4 (zeros 512) 5 (zeros_length 512) (by decide)
  go_wp2_with fail
  refine (hget_of (zeros_length 512) Hz1.out Hz2.out _ s5).mono ?_
  rintro e w6 ⟨rfl, b6⟩
  have e5 : Below w.heap.size w (W4.alloc (.cells (bcs (zeros 512)).toArray 5)) := e4.alloc e4.size _
  have e6 := below_then e5 b6 e5.size
  have s6 := (s4.alloc (.cells (bcs (zeros 512)).toArray 5)).below b6
  have G6 := Au.mk (blk_below (blk_alloc G4.out (.cells (bcs (zeros 512)).toArray 5)) b6 (lt_of_block (blk_alloc G4.out _)))
  clear s4 s5 e4 e5 b6 G4 km
  unfold Hd.agg hd0
  go_upto_region 4 with fail
  generalize hW : World.alloc w6 _ = W7
  have e7 : Below w.heap.size w W7 := by rw [← hW]; exact e6.alloc e6.size _
  have s7 : Sl Kd.byte W7 (fun k => w1.heap.size ≤ k) A c B := by rw [← hW]; exact s6.alloc _
  have G7 : Au (W7.heap[w3.heap.size]? = some (.cells (hdOne [97] 0).cells.toArray 36 (0, 0))) := ⟨by rw [← hW]; exact blk_alloc G6.out _⟩
  clear hW e6 s6 G6
  obtain ⟨b, o, rfl⟩ := s7.addr (by decide) (by intro h; have := HL.out; rw [h] at this; simp at this)
  have key : Au (∀ W, Below W7.heap.size W7 W → SCELLS W b o w3.heap.size) := ⟨fun W hW => by
    have g := blk_below G7.out hW (lt_of_block G7.out)
    have s := s7.below hW
    have hl := HL.out
    obtain ⟨b', o', h1, c1⟩ := s.byte_at 257 (by omega)
    injection h1 with h1; injection h1 with h1 h2; subst h1 h2
    obtain ⟨b', o', h1, c2⟩ := s.byte_at 148 (by omega)
    injection h1 with h1; injection h1 with h1 h2; subst h1 h2
    have t1 : B[257]'(by omega) = 117 := by have := H257.out; rw [List.getElem?_eq_getElem (by omega)] at this; injection this
    have t2 : B[148]'(by omega) = 48 := by have := H148.out; rw [List.getElem?_eq_getElem (by omega)] at this; injection this
    rw [t1] at c1
    rw [t2] at c2
    exact ⟨blk_cell g 0 rfl, blk_cell g 1 rfl, blk_cell g 2 rfl, blk_cell g 3 rfl, blk_cell g 4 rfl, blk_cell g 5 rfl, blk_cell g 6 rfl, blk_cell g 7 rfl, blk_cell g 8 rfl, blk_cell g 9 rfl, blk_cell g 10 rfl, c1, c2⟩⟩
  have S7 := key.out _ (Below.refl _ _)
  have S7d := key.out W7.drew (below_drewN (Below.refl _ _) 1)
  unfold SCELLS at S7
  obtain ⟨c0, c1, c2, c3, c4, c5, c6, c7, c8, c9, c10, c11, c12⟩ := S7
  have hl := HL.out
  have Hm' := Au.mk hm0
  have z0 : Below W7.heap.size W7 W7.drew := below_drewN (Below.refl _ _) 1
  have hmd : decide (0 < m) = true := by simpa using hm0
  have q1 := Try.eqGuardType36
  have q2 := Try.stoodInHeld36
  have h257 : (257 : Int) < B.length := by omega
  have h148 : (148 : Int) < B.length := by omega
  refine wp_region_fork 17 (by kernel_rfl) rfl (by kernel_rfl) ?_
  simp only [List.take_succ_cons, List.take_zero]
  clear c0 c1 c2 c3 c4 c5 c6 c7 c8 c9 c10 c11 c12
  unfold SCELLS at S7d
  obtain ⟨c0, c1, c2, c3, c4, c5, c6, c7, c8, c9, c10, c11, c12⟩ := S7d
  generalize hW8 : W7.drew = W8
  rw [hW8] at z0 c0 c1 c2 c3 c4 c5 c6 c7 c8 c9 c10 c11 c12
  go_wp2_with fail
  refine ⟨?_, ?_⟩
  all_goals
    go_wp2_with fail
    refine (one_calls [97] 0 _).mono ?_
    rintro e x ⟨rfl, d⟩
    unfold Hd.agg hdOne
    have y1 := bt z0 d
    have y2 := key.out _ y1
    unfold SCELLS at y2
    obtain ⟨m0, m1, m2, m3, m4, m5, m6, m7, m8, m9, m10, m11, m12⟩ := y2
    go_wp2_with fail
    refine (may_calls (hdOne [97] 0) one_R one_may _).mono ?_
    rintro e v ⟨rfl, d2⟩
    have y3 := bt y1 d2
    have y4 := key.out _ y3
    unfold SCELLS at y4
    obtain ⟨n0, n1, n2, n3, n4, n5, n6, n7, n8, n9, n10, n11, n12⟩ := y4
    go_wp2_with fail
    refine (sum_of hl Hm.out _ (s7.below y3)).mono ?_
    rintro e v2 ⟨rfl, rfl⟩
    go_wp2_with fail
    go_ret
    exact ⟨rfl, bt e7 y3⟩
end Go.Proofs.Ytejalhoaljlnhaa.Rk
