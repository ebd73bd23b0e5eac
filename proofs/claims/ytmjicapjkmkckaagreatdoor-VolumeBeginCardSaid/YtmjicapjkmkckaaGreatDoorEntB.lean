/- Nodes as blocks, walked: entry.Put. -/
import Derived.Test.YtmjicapjkmkckaaGreatDoorEntA
namespace Go.Proofs.YtmjicapjkmkckaaGreatDoor.Rk
open Go.RowKit Go.Shelf
set_option linter.unusedVariables false
set_option linter.unusedSimpArgs false
set_option maxRecDepth 100000

theorem size_alloc1 (w : World) (o : Obj) : (w.alloc o).heap.size = w.heap.size + 1 := by simp
theorem sl_addr {α : Type} {d : Kd α} {w : World} {F : Nat → Prop} {g k c : Nat} {x : List α} (h : g = k) (hs : Sl d w F (some ⟨g, 0, none⟩) c x) : Sl d w F (some ⟨k, 0, none⟩) c x := h ▸ hs
theorem ejoined_calls (parts : List (List (List UInt8))) {n : Nat} (hn : parts.length = n) {A : Option Addr} {c : Nat} {F : Nat → Prop} (hfl : parts.flatten.length ≤ 1000000) {r : List (List UInt8)} (hr : parts.flatten = r) (w : World) (ha : Sl KBk w F A c parts) :
    Calls Tryz.prog 130 #[.slice A n c] w fun e w' => ∃ A' c', e = .returned (.slice A' r.length c') ∧ Sl (Kd.slice Kd.byte) w' (fun k => F k ∨ w.heap.size ≤ k) A' c' r ∧ Below w.heap.size w w' := by
  have Hc := Au.mk (concat_calls parts hn hfl hr w ha)
  clear hn hfl hr ha
  go_enter Tryz.func130, Tryz.ntmps130
  go_wp2_with fail
  refine Hc.out.mono ?_
  rintro e w1 ⟨A', c', rfl, s1, b1⟩
  go_wp2_with fail
  go_ret
  exact ⟨A', c', rfl, s1, b1⟩
theorem edata_calls (n : Nd) (hS : n.S) (w : World) :
    Calls Tryz.prog 63 #[n.agg] w fun e w' => e = .returned (.int .i64 (edata n)) ∧ Below w.heap.size w w' := by
  have h3 := hS.2.2
  have HS := Au.mk hS
  obtain ⟨x, Hx⟩ := au (one n)
  have hz : (ofL n.data).size = n.data.length := ofL_size _
  have B0 := Au.mk (nd_box w n)
  have hb0 := (Below.refl w.heap.size w).alloc (Nat.le_refl _) (.cells n.cells.toArray 53)
  obtain ⟨f0, f1, f2, f3, f4, f5, f6, f7⟩ := nd_cells n B0.out
  unfold edata
  rw [Hx.out]
  unfold Nd.agg
  unfold Nd.cells at f0 f1 f2 f3 f4 f5 f6 f7 hb0 B0
  clear hS
  go_enter Tryz.func63, Tryz.ntmps63
  go_wp2_with fail
  refine (one_calls n HS.out Hx.out _).mono ?_
  rintro e w1 ⟨rfl, b1⟩
  have g7 := cell_below f7 b1
  have e1 := below_then hb0 b1 hb0.size
  clear f0 f1 f2 f3 f4 f5 f6 f7
  cases x
  · go_wp2_with fail
    go_ret
    exact ⟨rfl, e1⟩
  · go_wp2_with fail
    refine (manyB_calls n.data.length (by omega) _).mono ?_
    rintro e w2 ⟨rfl, rfl⟩
    go_wp2_with fail
    go_ret
    exact ⟨rfl, e1⟩
set_option maxHeartbeats 4000000 in
theorem eput_calls (n : Nd) (hS : n.S) {l : List (List UInt8)} {x : Bool} (hl : eput n = l) (hx : one n = x) (w : World) :
    Calls Tryz.prog 91 #[n.agg] w fun e w' => ∃ A c, e = .returned (.tuple #[.slice A l.length c, .bool x]) ∧ Sl (Kd.slice Kd.byte) w' (fun j => w.heap.size ≤ j) A c l ∧ Below w.heap.size w w' := by
  have h3 := hS.2.2
  have HS := Au.mk hS
  have Hx := Au.mk hx
  have B0 := Au.mk (nd_box w n)
  have hb0 := (Below.refl w.heap.size w).alloc (Nat.le_refl _) (.cells n.cells.toArray 53)
  obtain ⟨f0, f1, f2, f3, f4, f5, f6, f7⟩ := nd_cells n B0.out
  unfold Nd.agg
  unfold Nd.cells at f0 f1 f2 f3 f4 f5 f6 f7 hb0 B0
  have hel : eput n = if x then aheadB n ++ [(hput (ehead n)).getD []] ++ cutB n.data else [] := by unfold eput; rw [hx]
  rw [hel] at hl
  clear hS hx hel
  obtain ⟨h, Hh⟩ := au (if x then ehead n else hd0)
  go_enter Tryz.func91, Tryz.ntmps91
  go_wp2_with fail
  refine (entryHead_calls n HS.out Hx.out _).mono ?_
  rintro e w1 ⟨rfl, b1⟩
  have B1 := Au.mk (blk_below B0.out b1 (lt_of_block B0.out))
  have e1 := below_then hb0 b1 hb0.size
  clear f0 f1 f2 f3 f4 f5 f6 f7 hb0 b1 B0
  rw [Hh.out]
  unfold Hd.agg
  cases x
  · have h1 : [] = l := hl
    subst h1
    have e2 := e1.alloc e1.size (.cells h.cells.toArray 79)
    go_wp2_with fail
    go_ret2
    exact ⟨none, 0, rfl, Sl.nil _ _ _, e2⟩
  · obtain ⟨la, Hla⟩ := au (aheadB n)
    obtain ⟨p, Hp⟩ := au ((hput (ehead n)).getD [])
    obtain ⟨pb, Hpb⟩ := au ((hput (ehead n)).isSome)
    obtain ⟨lc, Hlc⟩ := au (cutB n.data)
    have HR : Au h.R := ⟨by rw [← Hh.out]; exact ehead_R (one_iff.1 Hx.out)⟩
    have he : ehead n = h := by rw [← Hh.out]; rfl
    rw [he] at Hp Hpb
    have Hl : Au ([la, [p], lc].flatten = l) := ⟨by rw [← hl, if_pos rfl, he, Hla.out, Hp.out, Hlc.out]; simp⟩
    have Hl2 : Au ([la, [p], lc].flatten.length ≤ 1000000) := ⟨by
      have h1 := eput_le n
      have h2 : eput n = l := by rw [← hl, if_pos rfl]; unfold eput; rw [if_pos Hx.out]
      rw [Hl.out, ← h2]; omega⟩
    have e2 := e1.alloc e1.size (.cells h.cells.toArray 79)
    have B2 := Au.mk (blk_alloc B1.out (.cells h.cells.toArray 79))
    have hd5 : n.data.length ≤ 10000 := h3
    clear hl he e1 B1
    go_wp2_with fail
    refine (hput_view h HR.out Hp.out Hpb.out _).mono ?_
    rintro e w2 ⟨A2, c2, rfl, s2, b2⟩
    have S2 : Au (Sl Kd.byte w2 (fun k => w.heap.size ≤ k) A2 c2 p) := ⟨s2.mono (fun k hk => Nat.le_trans e2.size hk)⟩
    have B3 := Au.mk (blk_below B2.out b2 (lt_of_block B2.out))
    have e3 := below_then e2 b2 e2.size
    obtain ⟨f0, f1, f2, f3, f4, f5, f6, f7⟩ := nd_cells n B3.out
    clear B2 s2 b2 e2 h3
    have hz2 := e3.size
    have S2d : Sl Kd.byte w2.drew (fun k => w.heap.size ≤ k) A2 c2 p := S2.out.drewN 1
    go_upto_region 5 with fail
    go_region_held3 (fun w' => w'.cell? ⟨w.heap.size, 0, none⟩ = some (.string (ofL n.path)) ∧ w'.cell? ⟨w.heap.size, 1, none⟩ = some (.string (ofL n.link)) ∧ w'.cell? ⟨w.heap.size, 2, none⟩ = some (.int .u8 n.kind.toNat) ∧ w'.cell? ⟨w.heap.size, 3, none⟩ = some (.int .i64 n.mode) ∧ w'.cell? ⟨w.heap.size, 4, none⟩ = some (.int .i64 n.uid) ∧ w'.cell? ⟨w.heap.size, 5, none⟩ = some (.int .i64 n.gid) ∧ w'.cell? ⟨w.heap.size, 6, none⟩ = some (.int .i64 n.mtime) ∧ w'.cell? ⟨w.heap.size, 7, none⟩ = some (.string (ofL n.data))) (first | go_keep)
      (first | (go_at_call 131; (refine (aheadB_calls n HS.out Hla.out _).mono ?_); rintro e w4 ⟨A4, c4, rfl, s4, b4⟩; have B4 := (show w4.heap[w.heap.size]? = some (.cells n.cells.toArray 53 (0, 0)) from by (first | exact blk_below (w := w2.drew) B3.out b4 (lt_of_block B3.out) | exact blk_below (blk_alloc (w := w2.drew) B3.out _) b4 (lt_of_block (blk_alloc (w := w2.drew) B3.out _)))); have z4 := (show w.heap.size ≤ w4.heap.size from Nat.le_trans (by first | exact hz2 | exact Nat.le_trans hz2 (by simp)) b4.size); have T4 := (show Sl (Kd.slice Kd.byte) w4 (fun k => w.heap.size ≤ k) A4 c4 la from s4.up (by first | exact hz2 | exact Nat.le_trans hz2 (by simp))); have e4 := (show Below w.heap.size w w4 from by (first | exact below_then (below_drewN e3 1) b4 hz2 | exact below_then (below_drewN (e3.alloc hz2 _) 1) b4 (Nat.le_trans hz2 (by simp)))); obtain ⟨k0, k1, k2, k3, k4, k5, k6, k7⟩ := nd_cells n B4) | (go_at_call 132; (refine (cutB_calls n.data hd5 Hlc.out _).mono ?_); rintro e w5 ⟨A5, c5, rfl, s5, b5⟩; have B5 := (show w5.heap[w.heap.size]? = some (.cells n.cells.toArray 53 (0, 0)) from by (first | exact blk_below B4 b5 (lt_of_block B4) | exact blk_below (blk_alloc B4 _) b5 (lt_of_block (blk_alloc B4 _)))); have z5 := (show w.heap.size ≤ w5.heap.size from Nat.le_trans (by first | exact z4 | exact Nat.le_trans z4 (by simp)) b5.size); have T5 := (show Sl (Kd.slice Kd.byte) w5 (fun k => w.heap.size ≤ k) A5 c5 lc from s5.up (by first | exact z4 | exact Nat.le_trans z4 (by simp))); have e5 := (show Below w.heap.size w w5 from by (first | exact below_then e4 b5 z4 | exact below_then (e4.alloc z4 _) b5 (Nat.le_trans z4 (by simp)))); obtain ⟨j0, j1, j2, j3, j4, j5, j6, j7⟩ := nd_cells n B5) | (go_at_call 130; refine (ejoined_calls [la, [p], lc] rfl (F := fun k => w.heap.size ≤ k) Hl2.out Hl.out _ ?sl).mono ?_; (case sl => first | exact sl_three_up z5 rfl rfl rfl ((T4.alloc _).below b5) ((sl_one_up z4 rfl (S2d.below b4)).below b5) T5 | exact sl_addr (size_alloc1 w5 (.cells #[.slice A2 p.length c2] 43)) <| sl_three_up (w := w5.alloc (.cells #[.slice A2 p.length c2] 43)) (Nat.le_trans z5 (by simp)) rfl rfl rfl ((T4.below b5).alloc _) (sl_one_up z5 rfl ((S2d.below b4).below b5)) (T5.alloc _) | exact sl_three_up z5 rfl rfl rfl (T4.below b5) ((((sl_one_up hz2 rfl S2.out).drewN 1).below b4).below b5) T5); rintro e w6 ⟨A6, c6, rfl, s6, b6⟩; have B6 := (show w6.heap[w.heap.size]? = some (.cells n.cells.toArray 53 (0, 0)) from by (first | exact blk_below (blk_alloc B5 _) b6 (lt_of_block (blk_alloc B5 _)) | exact blk_below (blk_alloc (blk_alloc B5 _) _) b6 (lt_of_block (blk_alloc (blk_alloc B5 _) _)))); have e6 := (show Below w.heap.size w w6 from by (first | exact below_then (e5.alloc z5 _) b6 (Nat.le_trans z5 (by simp)) | exact below_then ((e5.alloc z5 _).alloc (Nat.le_trans z5 (by simp)) _) b6 (Nat.le_trans z5 (by simp <;> omega)))); have T6 := s6.mono (G := fun k => w.heap.size ≤ k) (fun k hk => hk.elim id (fun h => Nat.le_trans (Nat.le_trans z5 (by simp <;> omega)) h)); obtain ⟨i0, i1, i2, i3, i4, i5, i6, i7⟩ := nd_cells n B6))
    all_goals
      clear f0 f1 f2 f3 f4 f5 f6 f7 k0 k1 k2 k3 k4 k5 k6 k7 j0 j1 j2 j3 j4 j5 j6 j7 i0 i1 i2 i3 i4 i5 i6 i7
      go_wp2_with fail
      go_ret2
      exact ⟨A6, c6, rfl, T6, e6⟩
end Go.Proofs.YtmjicapjkmkckaaGreatDoor.Rk
