/- Long names: Needs, Names; blocks: Many, Zeros, walked; lists of blocks joined. -/
import Derived.Test.YtmjicapjkmkckaaGreatDoorVolT
namespace Go.Proofs.YtmjicapjkmkckaaGreatDoor.Rk
open Go.RowKit Go.Shelf
set_option linter.unusedVariables false
set_option linter.unusedSimpArgs false
set_option maxRecDepth 100000

theorem nd_cells {W : World} {g : Nat} (n : Nd) (hg : W.heap[g]? = some (.cells n.cells.toArray 53 (0, 0))) : W.cell? ⟨g, 0, none⟩ = some (.string (ofL n.path)) ∧ W.cell? ⟨g, 1, none⟩ = some (.string (ofL n.link)) ∧ W.cell? ⟨g, 2, none⟩ = some (.int .u8 n.kind.toNat) ∧ W.cell? ⟨g, 3, none⟩ = some (.int .i64 n.mode) ∧ W.cell? ⟨g, 4, none⟩ = some (.int .i64 n.uid) ∧ W.cell? ⟨g, 5, none⟩ = some (.int .i64 n.gid) ∧ W.cell? ⟨g, 6, none⟩ = some (.int .i64 n.mtime) ∧ W.cell? ⟨g, 7, none⟩ = some (.string (ofL n.data)) :=
  ⟨blk_cell hg 0 rfl, blk_cell hg 1 rfl, blk_cell hg 2 rfl, blk_cell hg 3 rfl, blk_cell hg 4 rfl, blk_cell hg 5 rfl, blk_cell hg 6 rfl, blk_cell hg 7 rfl⟩
theorem nd_box (w : World) (n : Nd) : (w.alloc (.cells n.cells.toArray 53)).heap[w.heap.size]? = some (.cells n.cells.toArray 53 (0, 0)) := heap_alloc_new _ _
theorem short_calls {s : List UInt8} {x : List UInt8} (hx : short s = x) (hs : s.length ≤ 10000) (w : World) : Calls Tryz.prog 180 #[.string (ofL s)] w fun e w' => e = .returned (.string (ofL x)) ∧ w = w' := by
  have hz : (ofL s).size = s.length := ofL_size s
  have hx1 : (ofL s).extract 0 100 = ofL x := by rw [ofL_extract, ← hx]; simp [short]
  have hx2 : s.length ≤ 100 → (ofL s).extract 0 s.length = ofL x := fun h => by rw [ofL_extract, ← hx, short, List.take_of_length_le h, List.take_length]; simp
  clear hx
  by_cases h : s.length ≤ 100
  · have hi : (s.length : Int) ≤ 100 := by omega
    have hx3 := hx2 h
    clear hx1 hx2
    have hmn : min (s.length : Int) 100 = s.length := by omega
    go_enter Tryz.func180, Tryz.ntmps180
    go_wp2_with fail
    go_ret
    exact ⟨by simp_all, rfl⟩
  · have hi : (100 : Int) ≤ s.length := by omega
    have hmn : min (s.length : Int) 100 = 100 := by omega
    clear hx2
    go_enter Tryz.func180, Tryz.ntmps180
    go_wp2_with fail
    go_ret
    exact ⟨by simp_all, rfl⟩
set_option maxHeartbeats 2000000 in
theorem lneeds_calls (n : Nd) (hS : n.S) {x y : Bool} (h : lneeds n = (x, y)) (w : World) : Calls Tryz.prog 160 #[n.agg] w fun e w' => e = .returned (.tuple #[.bool x, .bool y]) ∧ Below w.heap.size w w' := by
  obtain ⟨h1, h2, _⟩ := hS
  have hp : n.path.length ≤ 10000 := by omega
  obtain ⟨a, Ha⟩ := au (psplit n.path).1
  obtain ⟨b, Hb⟩ := au (psplit n.path).2.1
  obtain ⟨r, Hr⟩ := au (psplit n.path).2.2
  obtain ⟨m, Hm⟩ := au (pmay n.path)
  have Hs : Au (psplit n.path = (a, b, r)) := ⟨by rw [← Ha.out, ← Hb.out, ← Hr.out]⟩
  unfold lneeds at h
  rw [Hr.out, Hm.out] at h
  injection h with hx hy
  have Hx := Au.mk hx
  have hz : (ofL n.link).size = n.link.length := ofL_size _
  have hyi : decide ((100 : Int) < n.link.length) = y := by rw [← hy]; simp only [decide_eq_decide]; omega
  have hb0 := (Below.refl w.heap.size w).alloc (Nat.le_refl _) (.cells n.cells.toArray 53)
  have B0 := Au.mk (nd_box w n)
  obtain ⟨f0, f1, _⟩ := nd_cells n B0.out
  unfold Nd.agg
  unfold Nd.cells at f0 f1 hb0 B0
  clear hx
  cases r
  · go_enter Tryz.func160, Tryz.ntmps160
    go_wp2_with fail
    refine (psplit_calls n.path (by omega) Hs.out _).mono ?_
    rintro e w1 ⟨rfl, b1⟩
    have g0 := cell_below f0 b1
    have g1 := cell_below f1 b1
    have e1 := below_then hb0 b1 hb0.size
    clear f0 f1 hb0 b1
    go_upto_region 2 with fail
    go_region_held3 (fun w' => w'.cell? ⟨w.heap.size, 0, none⟩ = some (.string (ofL n.path)) ∧ w'.cell? ⟨w.heap.size, 1, none⟩ = some (.string (ofL n.link))) (go_keep)
      (first | (go_at_call 67; refine (pmay_calls n.path hp Hm.out _).mono ?_; rintro e w2 ⟨rfl, b2⟩; have k0 := cell_below (w := w1.drew) g0 b2; have k1 := cell_below (w := w1.drew) g1 b2))
    go_wp2_with fail
    go_ret2
    exact ⟨by rw [← Hx.out]; rfl, below_then (below_drewN e1 1) b2 (below_drewN e1 1).size⟩
  · go_enter Tryz.func160, Tryz.ntmps160
    go_wp2_with fail
    refine (psplit_calls n.path (by omega) Hs.out _).mono ?_
    rintro e w1 ⟨rfl, b1⟩
    have g0 := cell_below f0 b1
    have g1 := cell_below f1 b1
    have e1 := below_then hb0 b1 hb0.size
    clear f0 f1 hb0 b1
    go_upto_region 2 with fail
    go_quiet (fail)
    go_wp2_with fail
    go_ret2
    exact ⟨by rw [← Hx.out]; rfl, below_drewN e1 _⟩
set_option maxHeartbeats 2000000 in
theorem lnames_calls (n : Nd) (hS : n.S) {x y z : List UInt8} (hx : (ehead n).name = x) (hy : (ehead n).pre = y) (hz : (ehead n).link = z) (w : World) :
    Calls Tryz.prog 173 #[n.agg] w fun e w' => e = .returned (.tuple #[.string (ofL x), .string (ofL y), .string (ofL z)]) ∧ Below w.heap.size w w' := by
  obtain ⟨h1, h2, h3⟩ := hS
  have hp : n.path.length ≤ 10000 := by omega
  have hl : n.link.length ≤ 10000 := by omega
  obtain ⟨a, Ha⟩ := au (psplit n.path).1
  obtain ⟨b, Hb⟩ := au (psplit n.path).2.1
  obtain ⟨r, Hr⟩ := au (psplit n.path).2.2
  have Hs : Au (psplit n.path = (a, b, r)) := ⟨by rw [← Ha.out, ← Hb.out, ← Hr.out]⟩
  obtain ⟨l, Hl⟩ := au (lneeds n).1
  obtain ⟨k, Hk⟩ := au (lneeds n).2
  have Hn : Au (lneeds n = (l, k)) := ⟨by rw [← Hl.out, ← Hk.out]⟩
  have HS : Au n.S := ⟨⟨h1, h2, h3⟩⟩
  have Hx : Au ((if l then short n.path else b) = x) := ⟨by rw [← hx, ← Hl.out, ← Hb.out]; rfl⟩
  have Hy : Au (a = y) := ⟨by rw [← hy, ← Ha.out]; rfl⟩
  have Hz : Au (short n.link = z) := ⟨by rw [← hz]; rfl⟩
  have hb0 := (Below.refl w.heap.size w).alloc (Nat.le_refl _) (.cells n.cells.toArray 53)
  have B0 := Au.mk (nd_box w n)
  clear hx hy hz
  unfold Nd.agg
  go_enter Tryz.func173, Tryz.ntmps173
  obtain ⟨f0, f1, f2, f3, f4, f5, f6, f7⟩ := nd_cells n B0.out
  unfold Nd.cells at f0 f1 f2 f3 f4 f5 f6 f7 hb0 B0
  go_wp2_with fail
  refine (psplit_calls n.path hp Hs.out _).mono ?_
  rintro e w1 ⟨rfl, b1⟩
  have B1 := Au.mk (blk_below B0.out b1 (lt_of_block B0.out))
  have e1 := below_then hb0 b1 hb0.size
  clear f0 f1 f2 f3 f4 f5 f6 f7 hb0 b1 B0
  obtain ⟨f0, f1, f2, f3, f4, f5, f6, f7⟩ := nd_cells n B1.out
  go_wp2_with fail
  refine (lneeds_calls n HS.out Hn.out _).mono ?_
  rintro e w2 ⟨rfl, b2⟩
  have B2 := Au.mk (blk_below B1.out b2 (lt_of_block B1.out))
  have e2 := below_then e1 b2 e1.size
  clear f0 f1 f2 f3 f4 f5 f6 f7 e1 b2 B1
  obtain ⟨f0, f1, f2, f3, f4, f5, f6, f7⟩ := nd_cells n B2.out
  cases l
  · have Hx2 : Au (b = x) := ⟨by simpa using Hx.out⟩
    go_wp2_with fail
    refine (short_calls Hz.out hl _).mono ?_
    rintro e w3 ⟨rfl, rfl⟩
    go_wp2_with fail
    go_ret3
    exact ⟨by rw [← Hx2.out, ← Hy.out]; rfl, e2⟩
  · have Hx2 : Au (short n.path = x) := ⟨by simpa using Hx.out⟩
    go_wp2_with fail
    refine (short_calls Hx2.out hp _).mono ?_
    rintro e w3 ⟨rfl, rfl⟩
    go_wp2_with fail
    refine (short_calls Hz.out hl _).mono ?_
    rintro e w3 ⟨rfl, rfl⟩
    go_wp2_with fail
    go_ret3
    exact ⟨by rw [← Hy.out]; rfl, e2⟩
theorem manyB_calls (n : Nat) (hn : n ≤ 1000000) (w : World) : Calls Tryz.prog 104 #[.int .i64 n] w fun e w' => e = .returned (.int .i64 (manyB n)) ∧ w = w' := by
  by_cases h : n < 1
  · have hi : (n : Int) < 1 := by omega
    go_enter Tryz.func104, Tryz.ntmps104
    go_wp2_with fail
    go_ret
    exact ⟨by unfold manyB; rw [if_pos h]; rfl, rfl⟩
  · have hi : ¬ (n : Int) < 1 := by omega
    have hr : ((n : Int) - 1) / 512 + 1 = (manyB n : Nat) := by unfold manyB; rw [if_neg h]; omega
    have Hr := Au.mk hr
    clear hr
    have h1 : 1 ≤ (n : Int) := by omega
    have h2 : (n : Int) ≤ 1000000 := by omega
    go_enter Tryz.func104, Tryz.ntmps104
    go_wp2_with fail
    go_ret
    exact ⟨by rw [← Hr.out]; rfl, rfl⟩
theorem etBlks : ET Tryz.prog 33 43 (.slice none 0 0) 1 24 := ⟨Tryz.underlying33, by kernel_rfl, rfl, by decide⟩
abbrev KBk : Kd (List (List UInt8)) := Kd.slice (Kd.slice Kd.byte)
theorem make512 {z : List UInt8} (hz : zeros 512 = z) (W : World) : (Instr.makeSlice 43 (.int .i64 512) (.int .i64 512)).run Tryz.prog W = .ok (.slice (some ⟨W.heap.size, 0, none⟩) 512 512) (W.alloc (.cells (bcs z).toArray 5)) := by
  subst hz; exact make_bytes (P := Tryz.prog) etBytes 512 (by decide) W
theorem cells_at {w : World} {n : Nat} (h : w.heap.size = n) (v : Value) (t : TypeId) : Cells (w.alloc (.cells #[v] t)) (some ⟨n, 0, none⟩) [v] := by subst h; exact cells_new1 w v t
set_option maxHeartbeats 2000000 in
theorem zblocks_calls {n : Nat} {l : List (List UInt8)} (h : zblocks n = l) (hn : n ≤ 1000000) (w : World) :
    Calls Tryz.prog 36 #[.int .i64 n] w fun e w' => ∃ A c, e = .returned (.slice A l.length c) ∧ Sl (Kd.slice Kd.byte) w' (fun k => w.heap.size ≤ k) A c l ∧ Below w.heap.size w w' := by
  unfold zblocks at h
  by_cases hc : n < 1 ∨ 400 < n
  · rw [if_pos hc] at h
    subst h
    have hor : (decide ((n : Int) < 1) = true) ∨ (decide ((n : Int) < 1) = false ∧ decide ((400 : Int) < n) = true ∧ decide (400 < n) = true) := by
      simp only [decide_eq_true_eq, decide_eq_false_iff_not]; omega
    clear hc
    rcases hor with c1 | ⟨c1, c2, c3⟩
    all_goals
      go_enter Tryz.func36, Tryz.ntmps36
      go_wp2_with fail
      go_ret
      exact ⟨none, 0, rfl, Sl.nil _ _ _, Below.refl _ _⟩
  · rw [if_neg hc] at h
    have c1 : decide ((n : Int) < 1) = false := by simp; omega
    have c2 : decide ((400 : Int) < n) = false := by simp; omega
    have c3 : decide (400 < n) = false := by simp; omega
    have hn4 : n ≤ 400 := by omega
    have Hl := Au.mk h
    have hb0 := Below.refl w.heap.size w
    obtain ⟨z5, Hz5⟩ := au (zeros 512)
    have hz5 : z5.length = 512 := by rw [← Hz5.out]; exact zeros512
    have Hz5l := Au.mk hz5
    rw [Hz5.out] at Hl
    have hmk := fun W => make512 Hz5.out W
    clear hc h hz5
    go_enter Tryz.func36, Tryz.ntmps36
    go_wp2_with fail
    go_loopw [3, 11] (fun v i wr => ∃ k : Nat, k ≤ n ∧ i = .int .i64 k ∧ Au (RowD (Kd.slice Kd.byte) wr (fun _ => False) w.heap.size v (List.replicate k z5)) ∧ Below w.heap.size w wr) (fun _ i _ => n - (intOf i).toNat)
    case atStart => exact ⟨0, Nat.zero_le _, rfl, ⟨RowD.nil _ _ _ _⟩, hb0⟩
    case round =>
      obtain ⟨k, hk, rfl, HR, hb⟩ := hrel
      by_cases hlt : k < n
      · have hs := hb.size
        have hne : ∀ g, u3.ownBlock = some g → g < wr.heap.size := fun g hg => by obtain ⟨vs, hr⟩ := HR.out.row; exact (hr.block g hg).2
        have Hne := Au.mk hne
        have H3 : Au ((List.replicate k z5).length + [z5].length ≤ maxLen ∧ ((List.replicate k z5).length + [z5].length) * 24 ≤ 140737488355328) := ⟨by simp [maxLen]; omega⟩
        have H5 : Au (∀ o1 o2, w.heap.size ≤ ((wr.alloc o1).alloc o2).heap.size) := ⟨fun o1 o2 => by simp; omega⟩
        clear hne
        go_wp2_with (at_builtin; refine wpList_append_rowD (d := Kd.slice Kd.byte) (G := fun _ => False) (F2 := fun k => k = wr.heap.size) (base := w.heap.size) (xs := List.replicate k z5) (ys := [z5]) _ rfl etBlks _ _ rfl rfl ((HR.out.alloc _).alloc _) rfl rfl (els_one (by rw [Hz5l.out]; exact cells_at (by simp) _ _) ((new_sl wr z5 _ Hz5l.out (by decide)).alloc _)) (fun k hk => .inr (hk ▸ hs)) (fun g hg h => Nat.lt_irrefl _ (h ▸ Hne.out g hg)) H3.out.1 H3.out.2 (H5.out _ _) ?_; intro v' w1 hr hg ho)
        go_wp2_with fail
        go_roundw
        case rel =>
          refine ⟨k + 1, by omega, by go_num, ⟨?_⟩, ?_⟩
          · rw [List.replicate_succ']; exact hr
          · refine ((hb.alloc hs _).alloc (by simp; omega) _).grown hg (by simp; omega) ?_
            intro g hgg
            obtain ⟨vs, hrw⟩ := HR.out.row
            exact (hrw.block g hgg).1
        case measure => simp [intOf]; omega
      · obtain rfl : k = n := by omega
        rw [Hl.out] at HR
        obtain ⟨A, c, rfl, hsl⟩ := HR.out.sl
        go_wp2_with fail
        go_ret
        exact ⟨A, c, rfl, hsl.mono (fun k hk => by simpa using hk), hb⟩
end Go.Proofs.YtmjicapjkmkckaaGreatDoor.Rk
