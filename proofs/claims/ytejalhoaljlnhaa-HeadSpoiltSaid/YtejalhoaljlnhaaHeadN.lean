/- head.Put: the walk. -/
import Derived.Test.YtejalhoaljlnhaaHeadM
import Derived.Deep.RegionHeldLaw
import Derived.Lib.SlBytesConst
namespace Go.Proofs.Ytejalhoaljlnhaa.Rk
open Go.RowKit
set_option linter.unusedVariables false
set_option linter.unusedSimpArgs false

theorem hput_no (h : Hd) (hr : h.R) (hm : hmay h = false) (w : World) :
    Calls Try.prog 28 #[h.agg] w fun e w' => e = .returned (.tuple #[.slice none 0 0, .bool false]) ∧ Below w.heap.size w w' := by
  have Hm := Au.mk hm
  have Hr := Au.mk hr
  have hb0 := (Below.refl w.heap.size w).alloc (Nat.le_refl _) (.cells h.cells.toArray 36)
  clear hm hr
  unfold Hd.agg
  go_enter Try.func28, Try.ntmps28
  go_wp2_with fail
  refine (may_calls h Hr.out Hm.out _).mono ?_
  rintro e w1 ⟨rfl, b1⟩
  go_wp2_with fail
  go_ret2
  exact ⟨rfl, hb0.trans (b1.mono (by simp))⟩

theorem cell_new {w : World} {cs : List Value} {t : TypeId} (j : Nat) {v : Value} (h : cs[j]? = some v) : (w.alloc (.cells cs.toArray t)).cell? ⟨w.heap.size, j, none⟩ = some v := blk_cell (heap_alloc_new w _) j h
theorem text_le {h : Hd} (f : Fits h) {k : Nat} {s : Sp} (hk : (wSp h.ty)[k]? = some s) : s.at_ + (h.text s.ix).length ≤ 512 ∧ (h.text s.ix).length ≤ 155 := by
  have h4 := (fits_iff h).2 f
  simp only [hmay, Bool.and_eq_true, List.all_eq_true] at h4
  have h5 := h4.1.2 s (List.mem_of_getElem? hk)
  simp [wordOk] at h5
  have := (wSp_mem hk).2
  have hw : s.wide ≤ 155 := by
    have := List.mem_of_getElem? hk
    unfold wSp at this; split at this <;> simp at this <;> (rcases this with rfl | rfl | rfl <;> decide) <;> (rcases this with rfl | rfl <;> decide)
  omega

theorem cell_grown {w W : World} {g : Nat} {p : Addr} {v : Value} (h : w.cell? p = some v) (hg : w.grownBy W (some g)) (hne : p.block ≠ g) : W.cell? p = some v :=
  (World.cell?_of_block (w := w) (hg.block p.block (World.block_lt_of_cell? w _ h) (by simpa using hne))).trans h
theorem fresh_grown {w w' W : World} {A : Option Addr} {vs : List Value} (h : Fresh w w' A vs) {g : Nat} (hg : w'.grownBy W (some g)) (hne : g < w.heap.size) : Fresh w W A vs :=
  fun V hV => h V ((Keeps.grown hg (by intro k hk; injection hk with hk; omega)).trans hg.size hV)

theorem blk_sl {w : World} {g n : Nat} {t : TypeId} {l : List UInt8} (h : w.heap[g]? = some (.cells (bcs l).toArray t (0, 0))) (hn : l.length = n) (hle : n ≤ 9223372036854775807) : Sl Kd.byte w (fun k => k = g) (some ⟨g, 0, none⟩) n l :=
  Sl.of_bytes (by omega) hle fun W hW => cells_of_blk (t := t) ((hW g rfl (lt_of_block h)).trans h)
theorem cells_of_blkm {w : World} {g : Nat} {t : TypeId} {m : Nat × Nat} {cs : List Value} (h : w.heap[g]? = some (.cells cs.toArray t m)) : Cells w (some ⟨g, 0, none⟩) cs :=
  fun _ => ⟨g, 0, rfl, fun j u hj => by rw [Nat.zero_add, cell_of_row _ _ j _ _ _ h]; simpa using hj⟩
theorem newm_sl (w : World) (l : List UInt8) (t : TypeId) (m : Nat × Nat) {n : Nat} (hn : l.length = n) (hle : n ≤ 9223372036854775807) : Sl Kd.byte (w.alloc (.cells (bcs l).toArray t m)) (fun k => k = w.heap.size) (some ⟨w.heap.size, 0, none⟩) n l :=
  Sl.of_bytes (by omega) hle fun W hW => cells_of_blkm (t := t) (m := m) ((hW _ rfl (by simp)).trans (heap_alloc_new _ _))
theorem new_sl (w : World) (l : List UInt8) (t : TypeId) {n : Nat} (hn : l.length = n) (hle : n ≤ 9223372036854775807) : Sl Kd.byte (w.alloc (.cells (bcs l).toArray t)) (fun k => k = w.heap.size) (some ⟨w.heap.size, 0, none⟩) n l :=
  blk_sl (heap_alloc_new w _) hn hle
/-- put at a place: one piece, its row new. -/
theorem ustar_put (g : Nat) (pg : List UInt8) (w : World) (hg : w.heap[g]? = some (.cells (bcs pg).toArray 5 (0, 0))) (hl : pg.length = 512) :
    Calls Try.prog 41 #[.agg #[.slice (some ⟨g, 0, none⟩) 512 512], .int .i64 257, .slice (some ⟨w.heap.size + 3, 0, none⟩) 3 3]
      ((((w.alloc (.cells #[.int .u8 117, .int .u8 115, .int .u8 116, .int .u8 97, .int .u8 114] 5 (5, 6))).alloc (.cells #[.int .u8 0] 5)).alloc (.cells #[.int .u8 48, .int .u8 48] 5 (2, 3))).alloc
        (.cells #[.slice (some ⟨w.heap.size, 0, none⟩) 5 5, .slice (some ⟨w.heap.size + 1, 0, none⟩) 1 1, .slice (some ⟨w.heap.size + 2, 0, none⟩) 2 2] 22)) fun e w' =>
      e = .returned (.tuple #[]) ∧ Au (w'.heap[g]? = some (.cells (bcs (splice pg 257 ustar)).toArray 5 (0, 0))) ∧ w.grownBy w' (some g) := by
  have hglt := lt_of_block hg
  have t1 := newm_sl w [117, 115, 116, 97, 114] 5 (5, 6) (n := 5) rfl (by decide)
  obtain ⟨w1, hw1⟩ : ∃ w1, w1 = w.alloc (.cells (bcs [117, 115, 116, 97, 114]).toArray 5 (5, 6)) := ⟨_, rfl⟩
  have z1 : w1.heap.size = w.heap.size + 1 := by rw [hw1]; simp
  have t2 := new_sl w1 [0] 5 (n := 1) rfl (by decide)
  obtain ⟨w2, hw2⟩ : ∃ w2, w2 = w1.alloc (.cells (bcs [0]).toArray 5) := ⟨_, rfl⟩
  have z2 : w2.heap.size = w.heap.size + 2 := by rw [hw2]; simp; omega
  have t3 := newm_sl w2 [48, 48] 5 (2, 3) (n := 2) rfl (by decide)
  obtain ⟨w3, hw3⟩ : ∃ w3, w3 = w2.alloc (.cells (bcs [48, 48]).toArray 5 (2, 3)) := ⟨_, rfl⟩
  have z3 : w3.heap.size = w.heap.size + 3 := by rw [hw3]; simp; omega
  rw [← hw1] at t1
  rw [← hw2] at t2
  rw [← hw3] at t3
  have b2 : Below w1.heap.size w1 w2 := by rw [hw2]; exact (Below.refl _ _).alloc (Nat.le_refl _) _
  have b3 : Below w2.heap.size w2 w3 := by rw [hw3]; exact (Below.refl _ _).alloc (Nat.le_refl _) _
  have b1 : Below w.heap.size w w1 := by rw [hw1]; exact (Below.refl _ _).alloc (Nat.le_refl _) _
  have b13 : Below w.heap.size w w3 := bt (bt b1 b2) b3
  rw [z1] at t2
  rw [z2] at t3
  have u1 := (t1.below b2).below b3
  have u2 := t2.below b3
  have hs : Sl (Kd.slice Kd.byte) (w3.alloc (.cells ([.slice (some ⟨w.heap.size, 0, none⟩) 5 5, .slice (some ⟨w.heap.size + 1, 0, none⟩) 1 1, .slice (some ⟨w.heap.size + 2, 0, none⟩) 2 2] : List Value).toArray 22)) (fun k => w.heap.size ≤ k ∨ k = w3.heap.size) (some ⟨w3.heap.size, 0, none⟩) 3 [[117, 115, 116, 97, 114], [0], [48, 48]] :=
    Sl.row_new (F := fun k => w.heap.size ≤ k) rfl (by decide) fun W hW => ⟨_, _, rfl, (u1.alloc _).elem W (hW.mono (by intro k hk; omega)), _, _, rfl, (u2.alloc _).elem W (hW.mono (by intro k hk; omega)), _, _, rfl, (t3.alloc _).elem W (hW.mono (by intro k hk; omega)), rfl⟩
  have hg3 : w3.heap[g]? = some (.cells (bcs pg).toArray 5 (0, 0)) := blk_below hg b13 hglt
  have := pput_calls g pg 257 _ _ (blk_alloc hg3 (.cells ([.slice (some ⟨w.heap.size, 0, none⟩) 5 5, .slice (some ⟨w.heap.size + 1, 0, none⟩) 1 1, .slice (some ⟨w.heap.size + 2, 0, none⟩) 2 2] : List Value).toArray 22)) hl (by decide) hs (by omega)
  rw [z3, hw3, hw2, hw1] at this
  refine this.mono ?_
  rintro e w' ⟨h1, h2, h3⟩
  refine ⟨h1, h2, ?_⟩
  rw [← hw1, ← hw2, ← hw3] at h3
  exact grown_trans (grown_of (b13.alloc b13.size _) _) h3
theorem ustar_mark (W : World) : (convert 22 22 (.slice (some ⟨W.heap.size, 0, none⟩) 5 5)).run Try.prog (W.alloc (.cells #[.int .u8 117, .int .u8 115, .int .u8 116, .int .u8 97, .int .u8 114] 5)) =
    .ok (.slice (some ⟨W.heap.size, 0, none⟩) 5 5) (W.alloc (.cells #[.int .u8 117, .int .u8 115, .int .u8 116, .int .u8 97, .int .u8 114] 5 (5, 6))) :=
  Lib.run_convert_bytes_const W _ _ _ 5 5 Try.underlying22 Try.underlying5
theorem zz_mark (W : World) (o1 o2 : Obj) : (convert 22 22 (.slice (some ⟨W.heap.size + 2, 0, none⟩) 2 2)).run Try.prog (((W.alloc o1).alloc o2).alloc (.cells #[.int .u8 48, .int .u8 48] 5)) =
    .ok (.slice (some ⟨W.heap.size + 2, 0, none⟩) 2 2) (((W.alloc o1).alloc o2).alloc (.cells #[.int .u8 48, .int .u8 48] 5 (2, 3))) := by
  have := Lib.run_convert_bytes_const (P := Try.prog) ((W.alloc o1).alloc o2) 22 5 #[.int .u8 48, .int .u8 48] 2 2 Try.underlying22 Try.underlying5
  simpa using this
theorem ty_put (g : Nat) (pg : List UInt8) (ty : UInt8) (w : World) (hg : w.heap[g]? = some (.cells (bcs pg).toArray 5 (0, 0))) (hl : pg.length = 512) :
    Calls Try.prog 41 #[.agg #[.slice (some ⟨g, 0, none⟩) 512 512], .int .i64 156, .slice (some ⟨w.heap.size + 1, 0, none⟩) 1 1]
      ((w.alloc (.cells #[.int .u8 ty.toNat] 5)).alloc (.cells #[.slice (some ⟨w.heap.size, 0, none⟩) 1 1] 22)) fun e w' =>
      e = .returned (.tuple #[]) ∧ Au (w'.heap[g]? = some (.cells (bcs (splice pg 156 [ty])).toArray 5 (0, 0))) ∧ w.grownBy w' (some g) := by
  have hglt := lt_of_block hg
  have t1 := new_sl w [ty] 5 (n := 1) rfl (by decide)
  have := pput1_calls g pg 156 [ty] (w.alloc (.cells (bcs [ty]).toArray 5)) (blk_alloc hg _) hl (by simp) t1 (by omega)
  rw [World.size_alloc] at this
  exact this.mono fun e w' ⟨h1, h2, h3⟩ => ⟨h1, h2, grown_trans (grown_of ((Below.refl _ _).alloc (Nat.le_refl _) _) _) h3⟩

set_option maxHeartbeats 4000000 in
theorem hput_walk (h : Hd) (hr : h.R) (f : Fits h) {p : List UInt8} (hp : blockOf h = p) (w : World) :
    Calls Try.prog 28 #[h.agg] w fun e w' => ∃ A c, e = .returned (.tuple #[.slice A p.length c, .bool true]) ∧ Sl Kd.byte w' (fun k => w.heap.size ≤ k) A c p ∧ Below w.heap.size w w' := by
  have Hm := Au.mk ((fits_iff h).2 f)
  have Hr := Au.mk hr
  have Hp := Au.mk hp
  have hb0 := (Below.refl w.heap.size w).alloc (Nat.le_refl _) (.cells h.cells.toArray 36)
  have hg0 : (w.alloc (.cells h.cells.toArray 36)).heap[w.heap.size]? = some (.cells h.cells.toArray 36 (0, 0)) := heap_alloc_new _ _
  have km : ∀ W : World, (Instr.makeSlice 22 (.int .i64 512) (.int .i64 512)).run Try.prog W = .ok (.slice (some ⟨W.heap.size, 0, none⟩) 512 512) (W.alloc (.cells (bcs (zeros 512)).toArray 5)) := make_bytes etBytes 512 (by decide)
  clear hr hp
  have ku := ustar_mark
  have kz := zz_mark
  unfold Hd.agg
  go_enter Try.func28, Try.ntmps28
  go_wp2_with fail
  refine (may_calls h Hr.out Hm.out _).mono ?_
  rintro e w1 ⟨rfl, b1⟩
  have hg1 := blk_below hg0 b1 (lt_of_block hg0)
  have hb1 := hb0.trans (b1.mono (by simp))
  have hlt1 : w.heap.size < w1.heap.size := lt_of_block hg1
  go_wp2_with fail
  have q0 : (w1.alloc (.cells (bcs (zeros 512)).toArray 5)).heap[w1.heap.size]? = some (.cells (bcs (zeros 512)).toArray 5 (0, 0)) := heap_alloc_new _ _
  have q1 := blk_alloc q0 (.cells #[.slice (some ⟨w1.heap.size, 0, none⟩) 512 512] 57)
  have s0 := heap_alloc_new (w1.alloc (.cells (bcs (zeros 512)).toArray 5)) (.cells #[.slice (some ⟨w1.heap.size, 0, none⟩) 512 512] 57)
  rw [World.size_alloc] at s0
  have g0 := blk_alloc (blk_alloc hg1 (.cells (bcs (zeros 512)).toArray 5)) (.cells #[.slice (some ⟨w1.heap.size, 0, none⟩) 512 512] 57)
  have b2 : Below w1.heap.size w1 ((w1.alloc (.cells (bcs (zeros 512)).toArray 5)).alloc (.cells #[.slice (some ⟨w1.heap.size, 0, none⟩) 512 512] 57)) := ((Below.refl _ _).alloc (Nat.le_refl _) _).alloc (by simp) _
  have z2 : ((w1.alloc (.cells (bcs (zeros 512)).toArray 5)).alloc (.cells #[.slice (some ⟨w1.heap.size, 0, none⟩) 512 512] 57)).heap.size = w1.heap.size + 2 := by simp
  generalize ((w1.alloc (.cells (bcs (zeros 512)).toArray 5)).alloc (.cells #[.slice (some ⟨w1.heap.size, 0, none⟩) 512 512] 57)) = w2 at q1 s0 g0 b2 z2 ⊢
  clear q0 hg0 hg1
  refine (words_calls w.heap.size h.ty _ (blk_cell g0 8 rfl)).mono ?_
  rintro e w3 ⟨A, c, n, rfl, Hn2, hf, b3⟩
  have q3 := blk_below q1 b3 (lt_of_block q1)
  have s3 := blk_below s0 b3 (lt_of_block s0)
  have g3 := blk_below g0 b3 (lt_of_block g0)
  have z3 := b3.size
  have hb3 : Below w.heap.size w w3 := hb1.trans ((b2.trans (b3.mono (by omega))).mono (by omega))
  have hlt3 : w1.heap.size + 1 < w3.heap.size := by omega
  have hn5 : n < 4 := by rw [Hn2.out, wordsN]; split <;> decide
  have Q3 := Au.mk q3
  have S3 := Au.mk s3
  have G3 := Au.mk g3
  have Hf := Au.mk hf
  have hll := hlt1
  clear q1 s0 g0 b2 z3 b3 b1 q3 s3 g3 hf hb1
  go_wp2_with fail
  go_loopw [19] (fun i wr => ∃ k : Nat, k ≤ n ∧ i = .int .i64 k ∧ Au (wr.heap[w1.heap.size]? = some (.cells (bcs (layW h ((wSp h.ty).take k) (zeros 512))).toArray 5 (0, 0))) ∧ w3.grownBy wr (some w1.heap.size)) (fun i _ => n - (intOf i).toNat)
  case atStart => exact ⟨0, Nat.zero_le _, rfl, ⟨by rw [List.take_zero]; exact Q3.out⟩, grown_of (.refl _ _) _⟩
  case round =>
    obtain ⟨k, hk, rfl, Hq, hgr⟩ := hrel
    have hn3 := Hn2.out
    by_cases hlt : k < n
    · obtain ⟨s, Hs⟩ : ∃ s, Au ((wSp h.ty)[k]? = some s) := ⟨_, ⟨List.getElem?_eq_getElem (by rw [wSp_len, ← hn3]; exact hlt)⟩⟩
      have hfr := fresh_grown Hf.out hgr (by omega)
      have hcs := hfr.now
      rw [wSp_cells] at hcs
      obtain ⟨b, o, rfl, d0, d1, d2⟩ := place_cells hcs Hs.out
      obtain ⟨hix, hat⟩ := wSp_mem Hs.out
      have hgb := blk_grown G3.out hgr (by simp; omega)
      have hsb := blk_grown S3.out hgr (by simp)
      have htx := hd_text_cell hgb hix
      have hss := blk_cell (cs := [_]) hsb 0 rfl
      obtain ⟨hfit, hxl⟩ := text_le f Hs.out
      have htk := take_foldl (fun pg (s : Sp) => splice pg s.at_ (h.text s.ix)) Hs.out (zeros 512)
      obtain ⟨x, Hx⟩ := au (h.text s.ix)
      rw [Hx.out] at htx hfit hxl htk
      have Htk := Au.mk htk
      clear hgb hcs hn3 hfr htk hsb
      have kb := fun W => str_bytes (P := Try.prog) (dst := 22) Try.underlying9 Try.underlying22 Try.underlying5 x W
      go_wp2_with fail
      generalize hW : World.alloc wr _ = W5
      have f1 : W5.cell? ⟨wr.heap.size, 0, none⟩ = some (.int .i64 s.at_) := by rw [← hW]; exact cell_new (cs := [_, _, _]) 0 rfl
      have f2 : W5.cell? ⟨wr.heap.size, 2, none⟩ = some (.pointer (some ⟨w.heap.size, s.ix, none⟩)) := by rw [← hW]; exact cell_new (cs := [_, _, _]) 2 rfl
      have f3 : W5.cell? ⟨w.heap.size, s.ix, none⟩ = some (.string (ofL x)) := by rw [← hW]; exact cell_alloc htx _
      have f4 : W5.cell? ⟨w1.heap.size + 1, 0, none⟩ = some (.slice (some ⟨w1.heap.size, 0, none⟩) 512 512) := by rw [← hW]; exact cell_alloc hss _
      have Hq5 : Au (W5.heap[w1.heap.size]? = some (.cells (bcs (layW h ((wSp h.ty).take k) (zeros 512))).toArray 5 (0, 0))) := ⟨by rw [← hW]; exact blk_alloc Hq.out _⟩
      have hgW : w3.grownBy W5 (some w1.heap.size) := by rw [← hW]; exact grown_alloc hgr _
      clear hW
      have hlt5 := lt_of_block Hq5.out
      have hl5 : (layW h ((wSp h.ty).take k) (zeros 512)).length = 512 := fold_splice_len _ _ (zeros_length _) fun t ht => (text_le f (List.mem_iff_getElem?.1 (List.take_subset _ _ ht)).choose_spec).1
      have Hl5 := Au.mk hl5
      have hn1 : wr.heap.size ≠ w1.heap.size := by have := hgr.size; omega
      have hn22 : w.heap.size ≠ w1.heap.size := by omega
      have hn33 : w1.heap.size + 1 ≠ w1.heap.size := by omega
      clear hl5
      go_region_held_law (fun w' => w'.cell? ⟨wr.heap.size, 0, none⟩ = some (.int .i64 s.at_) ∧ w'.cell? ⟨wr.heap.size, 2, none⟩ = some (.pointer (some ⟨w.heap.size, s.ix, none⟩)) ∧ w'.cell? ⟨w.heap.size, s.ix, none⟩ = some (.string (ofL x)) ∧ w'.cell? ⟨w1.heap.size + 1, 0, none⟩ = some (.slice (some ⟨w1.heap.size, 0, none⟩) 512 512))
        (first | go_keep | exact ⟨cell_below (w := W5.drew) f1 (bytesWorld_below _ _ _), cell_below (w := W5.drew) f2 (bytesWorld_below _ _ _), cell_below (w := W5.drew) f3 (bytesWorld_below _ _ _), cell_below (w := W5.drew) f4 (bytesWorld_below _ _ _)⟩ | exact ⟨cell_alloc (cell_below (w := W5.drew) f1 (bytesWorld_below _ _ _)) _, cell_alloc (cell_below (w := W5.drew) f2 (bytesWorld_below _ _ _)) _, cell_alloc (cell_below (w := W5.drew) f3 (bytesWorld_below _ _ _)) _, cell_alloc (cell_below (w := W5.drew) f4 (bytesWorld_below _ _ _)) _⟩)
        (first | (go_at_call 41; refine (pput1_calls w1.heap.size _ s.at_ x _ (blk_below (w := W5.drew) Hq5.out (bytesWorld_below _ _ _) hlt5) Hl5.out hfit (bytesWorld_sl W5.drew _ x (by omega)) (by simp; omega)).mono ?_; rintro e w6 ⟨rfl, Hq6, hg6⟩; have g1 := cell_grown (cell_below (w := W5.drew) f1 (bytesWorld_below _ 5 x)) hg6 hn1; have g2 := cell_grown (cell_below (w := W5.drew) f2 (bytesWorld_below _ 5 x)) hg6 hn1; have g3 := cell_grown (cell_below (w := W5.drew) f3 (bytesWorld_below _ 5 x)) hg6 hn22; have g4 := cell_grown (cell_below (w := W5.drew) f4 (bytesWorld_below _ 5 x)) hg6 hn33))
      go_wp2_with fail
      go_roundw
      case rel =>
        have hbW : (Lib.bytesWorld W5.drew 5 (ofL x)).heap.size = W5.heap.size + 1 := by rw [Lib.bytesWorld_size]; rfl
        refine ⟨k + 1, by omega, by go_num, ⟨?_⟩, grown_trans (grown_below (grown_drewN hgW 1) (bytesWorld_below _ 5 x)) hg6⟩
        rw [layW, Htk.out]; exact Hq6.out
      case measure => simp [intOf]; omega
    · obtain rfl : k = n := by omega
      rw [List.take_of_length_le (by rw [wSp_len, ← hn3]; exact Nat.le_refl _)] at Hq
      have gb := blk_grown G3.out hgr (by simp; omega)
      have sb := blk_grown S3.out hgr (by simp)
      have hsz := hgr.size
      have hbB : Below w.heap.size w wr := below_of_grown hb3 hgr hb3.size (by omega)
      have Gb := Au.mk gb
      have Sb := Au.mk sb
      have hlW : (layW h (wSp h.ty) (zeros 512)).length = 512 := fold_splice_len _ _ (zeros_length _) fun t ht => (text_le f (List.mem_iff_getElem?.1 ht).choose_spec).1
      obtain ⟨pg, Hpg⟩ := au (layW h (wSp h.ty) (zeros 512))
      rw [Hpg.out] at Hq hlW
      have HlW := Au.mk hlW
      clear gb sb hn3 hlW
      go_wp2_with fail
      refine (numbers_calls w.heap.size h.ty _ (blk_cell Gb.out 8 rfl)).mono ?_
      rintro e w4 ⟨A4, c4, n4, rfl, Hn4, hf4, b4⟩
      have q4 := blk_below Hq.out b4 (lt_of_block Hq.out)
      have s4 := blk_below Sb.out b4 (lt_of_block Sb.out)
      have g4 := blk_below Gb.out b4 (lt_of_block Gb.out)
      have z4 := b4.size
      have hb4 : Below w.heap.size w w4 := hbB.trans (b4.mono hbB.size)
      have hlt4 : w1.heap.size + 1 < w4.heap.size := by omega
      have hn54 : n4 < 8 := by rw [Hn4.out, spotsN]; split <;> decide
      have Q4 := Au.mk q4
      have S4 := Au.mk s4
      have G4 := Au.mk g4
      have Hf4 := Au.mk hf4
      clear z4 b4 q4 s4 g4 hf4
      go_wp2_with fail
      go_loopw [37] (fun i wr => ∃ k : Nat, k ≤ n4 ∧ i = .int .i64 k ∧ Au (wr.heap[w1.heap.size]? = some (.cells (bcs (layN h ((nSp h.ty).take k) pg)).toArray 5 (0, 0))) ∧ w4.grownBy wr (some w1.heap.size)) (fun i _ => n4 - (intOf i).toNat)
      case atStart => exact ⟨0, Nat.zero_le _, rfl, ⟨by rw [List.take_zero]; exact Q4.out⟩, grown_of (.refl _ _) _⟩
      case round =>
        obtain ⟨k, hk, rfl, Hq, hgr⟩ := hrel
        have hn3 := Hn4.out
        by_cases hlt : k < n4
        · obtain ⟨s, Hs⟩ : ∃ s, Au ((nSp h.ty)[k]? = some s) := ⟨_, ⟨List.getElem?_eq_getElem (by rw [nSp_len, ← hn3]; exact hlt)⟩⟩
          have hfr := fresh_grown Hf4.out hgr (by omega)
          have hcs := hfr.now
          rw [nSp_cells] at hcs
          obtain ⟨b, o, rfl, d0, d1, d2⟩ := place_cells hcs Hs.out
          obtain ⟨hi3, hi11, hi8, hat, hwd⟩ := nSp_mem Hs.out
          have hgb := blk_grown G4.out hgr (by simp; omega)
          have hsb := blk_grown S4.out hgr (by simp)
          have htx := hd_numb_cell hgb hi3 hi11 hi8
          have hss := blk_cell (cs := [_]) hsb 0 rfl
          have htk := take_foldl (fun pg (s : Sp) => splice pg s.at_ (numB h s)) Hs.out pg
          have hRx := Hr.out.numb s.ix
          have hok : numbOk h s = true := by
            have h4 := Hm.out
            simp only [hmay, Bool.and_eq_true, List.all_eq_true] at h4
            exact h4.2 s (List.mem_of_getElem? Hs.out)
          have hnl := numB_len (Option.isSome_iff_exists.1 hok)
          rw [numbOk] at hok
          obtain ⟨y, Hy⟩ := au (numB h s)
          rw [Hy.out] at htk hnl
          rw [numB] at Hy
          obtain ⟨x, Hx⟩ := au (h.numb s.ix)
          rw [Hx.out] at htx hRx hok Hy
          have Htk := Au.mk htk
          have HRx := Au.mk hRx
          have Hok := Au.mk hok
          have Hnl := Au.mk hnl
          have hl5 : (layN h ((nSp h.ty).take k) pg).length = 512 := fold_splice_len _ _ HlW.out fun t ht => by
            have h4 := Hm.out
            simp only [hmay, Bool.and_eq_true, List.all_eq_true] at h4
            have hm4 := List.take_subset _ _ ht
            rw [numB_len (Option.isSome_iff_exists.1 (h4.2 t hm4))]
            exact (nSp_mem (List.mem_iff_getElem?.1 hm4).choose_spec).2.2.2.1
          have Hl5 := Au.mk hl5
          clear hgb hcs hn3 hfr htk hsb hRx hok hnl hl5
          go_wp2_with fail
          generalize hW : World.alloc wr _ = W5
          have f0 : W5.cell? ⟨wr.heap.size, 0, none⟩ = some (.int .i64 s.at_) := by rw [← hW]; exact cell_new (cs := [_, _, _]) 0 rfl
          have f1 : W5.cell? ⟨wr.heap.size, 1, none⟩ = some (.int .i64 s.wide) := by rw [← hW]; exact cell_new (cs := [_, _, _]) 1 rfl
          have f2 : W5.cell? ⟨wr.heap.size, 2, none⟩ = some (.pointer (some ⟨w.heap.size, s.ix, none⟩)) := by rw [← hW]; exact cell_new (cs := [_, _, _]) 2 rfl
          have f3 : W5.cell? ⟨w.heap.size, s.ix, none⟩ = some (.int .i64 x) := by rw [← hW]; exact cell_alloc htx _
          have f4 : W5.cell? ⟨w1.heap.size + 1, 0, none⟩ = some (.slice (some ⟨w1.heap.size, 0, none⟩) 512 512) := by rw [← hW]; exact cell_alloc hss _
          have Hq5 : Au (W5.heap[w1.heap.size]? = some (.cells (bcs (layN h ((nSp h.ty).take k) pg)).toArray 5 (0, 0))) := ⟨by rw [← hW]; exact blk_alloc Hq.out _⟩
          have hgW : w4.grownBy W5 (some w1.heap.size) := by rw [← hW]; exact grown_alloc hgr _
          have hsW : W5.heap.size = wr.heap.size + 1 := by rw [← hW]; simp
          clear hW
          have hlt5 := lt_of_block Hq5.out
          go_region_held3 (fun w' => w'.cell? ⟨wr.heap.size, 1, none⟩ = some (.int .i64 s.wide) ∧ w'.cell? ⟨wr.heap.size, 2, none⟩ = some (.pointer (some ⟨w.heap.size, s.ix, none⟩)) ∧ w'.cell? ⟨w.heap.size, s.ix, none⟩ = some (.int .i64 x)) (go_keep)
            (first | (go_at_call 20; refine (put_view (b := true) Hy.out Hok.out HRx.out _).mono ?_; rintro e w5 ⟨A5, c5, rfl, s5, b5⟩; have g1 := cell_below (w := W5.drew) f1 b5; have g2 := cell_below (w := W5.drew) f2 b5; have g3 := cell_below (w := W5.drew) f3 b5))
          have g0 := cell_below (w := W5.drew) f0 b5
          have g4 := cell_below (w := W5.drew) f4 b5
          have q5 := blk_below (w := W5.drew) Hq5.out b5 hlt5
          have hz5 : w1.heap.size + 1 < W5.drew.heap.size := by
            show w1.heap.size + 1 < W5.heap.size
            have := hgr.size; omega
          go_wp2_with fail
          refine (pput1_calls w1.heap.size _ s.at_ y _ q5 Hl5.out (by have := Hnl.out; omega) s5 (by simp only [Nat.not_le]; omega)).mono ?_
          rintro e w6 ⟨rfl, Hq6, hg6⟩
          go_wp2_with fail
          go_roundw
          case rel =>
            refine ⟨k + 1, by omega, by go_num, ⟨?_⟩, grown_trans (grown_below (grown_drewN hgW 1) b5) hg6⟩
            rw [layN, Htk.out]; exact Hq6.out
          case measure => simp [intOf]; omega
        · obtain rfl : k = n4 := by omega
          rw [List.take_of_length_le (by rw [nSp_len, ← hn3]; exact Nat.le_refl _)] at Hq
          have gb := blk_grown G4.out hgr (by simp; omega)
          have sb := blk_grown S4.out hgr (by simp)
          have hsz := hgr.size
          have hbB : Below w.heap.size w wr := below_of_grown hb4 hgr hb4.size (by omega)
          have hF := layB_of h f
          rw [Hpg.out] at hF
          have hl6 : (layN h (nSp h.ty) pg).length = 512 := fold_splice_len _ _ HlW.out fun t ht => by
            have h4 := Hm.out
            simp only [hmay, Bool.and_eq_true, List.all_eq_true] at h4
            rw [numB_len (Option.isSome_iff_exists.1 (h4.2 t ht))]
            exact (nSp_mem (List.mem_iff_getElem?.1 ht).choose_spec).2.2.2.1
          obtain ⟨pn, Hpn⟩ := au (layN h (nSp h.ty) pg)
          rw [Hpn.out] at Hq hF hl6
          have hty := blk_cell gb 8 rfl
          have hss := blk_cell (cs := [_]) sb 0 rfl
          have HF := Au.mk hF
          have Hl6 := Au.mk hl6
          clear gb sb hn3 hF hl6
          go_wp2_with fail
          have hlt6 := lt_of_block Hq.out
          refine (ty_put w1.heap.size pn h.ty wr Hq.out Hl6.out).mono ?_
          rintro e w6 ⟨rfl, Hq6, hg6⟩
          have hn33 : w1.heap.size + 1 ≠ w1.heap.size := by omega
          have hn22 : w.heap.size ≠ w1.heap.size := by omega
          have hss6 := cell_grown hss hg6 hn33
          have hl7 : (splice pn 156 [h.ty]).length = 512 := by rw [splice_length _ _ _ (by have := Hl6.out; simp; omega)]; exact Hl6.out
          have hb6 : Below w.heap.size w w6 := below_of_grown hbB hg6 hbB.size (by omega)
          have hz6 := hg6.size
          go_wp2_with fail
          refine (ustar_put w1.heap.size _ w6 Hq6.out hl7).mono ?_
          rintro e w7 ⟨rfl, Hq7, hg7⟩
          have hss7 := cell_grown hss6 hg7 hn33
          rw [HF.out] at Hq7
          have hb7 : Below w.heap.size w w7 := below_of_grown hb6 hg7 hb6.size (by omega)
          have hz7 := hg7.size
          have hl8 := layB_length h f (zeros 8) rfl
          have Hl8 := Au.mk hl8
          have hlt7 := lt_of_block Hq7.out
          have hsg : sgn (layB h (zeros 8)) = sgn (layB h (zeros 8)) := rfl
          clear hl8 hss hss6
          obtain ⟨sg, Hsg⟩ := au (sgn (layB h (zeros 8)))
          have Hsgl : Au (sg.length = 8) := ⟨by rw [← Hsg.out]; exact sgn_length _⟩
          go_wp2_with fail
          go_region_held_law (fun w' => w'.cell? ⟨w1.heap.size + 1, 0, none⟩ = some (.slice (some ⟨w1.heap.size, 0, none⟩) 512 512)) (go_keep)
            (first | (go_at_call 43; refine (ssum_calls _ Hl8.out Hsg.out _ (blk_sl (w := w7.drew) Hq7.out Hl8.out (by decide)) rfl).mono ?_; rintro e w8 ⟨B8, d8, rfl, s8, b8⟩; have k8 := cell_below (w := w7.drew) hss7 b8) | (go_at_call 41; refine (pput1_calls w1.heap.size _ 148 sg _ (blk_below (w := w7.drew) Hq7.out b8 hlt7) Hl8.out (by have := Hsgl.out; omega) s8 (by simp only [Nat.not_le]; exact hlt7)).mono ?_; rintro e w9 ⟨rfl, Hq9, hg9⟩; have k9 := cell_grown k8 hg9 hn33))
          go_wp2_with fail
          go_ret2
          have hb8 : Below w.heap.size w w8 := (below_drewN hb7 1).trans (b8.mono (below_drewN hb7 1).size)
          have hb9 : Below w.heap.size w w9 := below_of_grown hb8 hg9 hb8.size (by omega)
          have hpp : splice (layB h (zeros 8)) 148 sg = p := by rw [layB_sum h f _ _ Hsgl.out (zeros_length 8), ← Hsg.out, ← Hp.out]; rfl
          rw [hpp] at Hq9
          have hlp : p.length = 512 := by rw [← Hp.out]; exact blockOf_length h f
          refine ⟨some ⟨w1.heap.size, 0, none⟩, 512, by rw [hlp]; rfl, (blk_sl Hq9.out hlp (by decide)).mono (by intro k hk; omega), hb9⟩

theorem hput_view (h : Hd) (hr : h.R) {p : List UInt8} {b : Bool} (hp : (hput h).getD [] = p) (hb : (hput h).isSome = b) (w : World) :
    Calls Try.prog 28 #[h.agg] w fun e w' => ∃ A c, e = .returned (.tuple #[.slice A p.length c, .bool b]) ∧ Sl Kd.byte w' (fun k => w.heap.size ≤ k) A c p ∧ Below w.heap.size w w' := by
  subst hp hb
  cases hm : hmay h with
  | true =>
    have e : hput h = some (blockOf h) := by simp [hput, hm]
    rw [e]
    exact hput_walk h hr ((fits_iff h).1 hm) rfl w
  | false =>
    have e : hput h = none := by simp [hput, hm]
    rw [e]
    exact (hput_no h hr hm w).mono fun e w' ⟨h1, h2⟩ => ⟨none, 0, h1, Sl.nil _ _ _, h2⟩
end Go.Proofs.Ytejalhoaljlnhaa.Rk
