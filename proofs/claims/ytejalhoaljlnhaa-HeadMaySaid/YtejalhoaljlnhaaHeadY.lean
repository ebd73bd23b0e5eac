/- Walks: the document's answers for headers: Put. -/
import Derived.Test.YtejalhoaljlnhaaHeadX
import Derived.Deep.RegionHeldLaw
import Derived.Deep.DeepCutAuto
namespace Go.Proofs.Ytejalhoaljlnhaa.Rk
open Go.RowKit
set_option linter.unusedVariables false
set_option linter.unusedSimpArgs false

theorem rput04_no (h : Hd) (hr : h.R) (hz : h.S) (hm : hmay h = false) (w : World) :
    Calls Try.prog 29 #[h.agg] w fun e w' => e = .returned (.tuple #[.slice none 0 0, .bool false]) ∧ Below w.heap.size w w' := by
  have Hm := Au.mk hm
  have Hr := Au.mk hr
  have hb0 := (Below.refl w.heap.size w).alloc (Nat.le_refl _) (.cells h.cells.toArray 36)
  clear hm hr
  unfold Hd.agg
  go_enter Try.func29, Try.ntmps29
  go_wp2_with fail
  refine (rmay_calls h Hr.out hz Hm.out _).mono ?_
  rintro e w1 ⟨rfl, b1⟩
  go_wp2_with fail
  go_ret2
  exact ⟨rfl, below_then hb0 b1 hb0.size⟩

theorem bytes_after (w : World) (o : Obj) (e : TypeId) (x : List UInt8) (hx : x.length ≤ 1000000) : Sl Kd.byte (Lib.bytesWorld (w.alloc o).drew e (ofL x)) (fun k => w.heap.size + 1 ≤ k) (some ⟨w.heap.size + 1, 0, none⟩) (bytesCap (w.alloc o).drew e x) x := by
  have h : (w.alloc o).drew.heap.size = w.heap.size + 1 := by show (w.alloc o).heap.size = _; simp
  have h2 := bytesWorld_sl (w.alloc o).drew e x hx
  rw [h] at h2
  exact h2
theorem after_blk (w : World) (o : Obj) (e : TypeId) (x : List UInt8) : (Lib.bytesWorld (w.alloc o).drew e (ofL x)).heap[w.heap.size]? = some o :=
  blk_below (w := (w.alloc o).drew) (heap_alloc_new w o) (bytesWorld_below _ _ _) (by show w.heap.size < (w.alloc o).heap.size; simp)
theorem after_cell {w : World} (o : Obj) (e : TypeId) (x : List UInt8) {p : Addr} {v : Value} (h : w.cell? p = some v) : (Lib.bytesWorld (w.alloc o).drew e (ofL x)).cell? p = some v :=
  cell_below (w := (w.alloc o).drew) (cell_alloc h _) (bytesWorld_below _ _ _)
theorem after_below (w : World) (o : Obj) (e : TypeId) (x : List UInt8) : Below w.heap.size w (Lib.bytesWorld (w.alloc o).drew e (ofL x)) :=
  below_then (below_drewN ((Below.refl _ w).alloc (Nat.le_refl _) o) 1) (bytesWorld_below (w.alloc o).drew e x) (by show w.heap.size ≤ (w.alloc o).heap.size; simp)

theorem bytesWorld_sl1 (W : World) (e : TypeId) (l : List UInt8) (hl : l.length ≤ 1000000) : Sl Kd.byte (Lib.bytesWorld W e (ofL l)) (fun k => k = W.heap.size) (some ⟨W.heap.size, 0, none⟩) (bytesCap W e l) l := by
  obtain ⟨h1, h2, _⟩ := bytesWorld_sl W e l hl
  refine Sl.of_bytes h1 h2 fun V hV hne => ⟨_, _, rfl, fun j u hu => ?_⟩
  rw [Nat.zero_add, World.cell?_of_block (w := Lib.bytesWorld W e (ofL l)) (hV W.heap.size rfl (by rw [Lib.bytesWorld_size]; omega))]
  exact bytesWorld_cells W e l j u hu
theorem before_size (w : World) (e : TypeId) (x : List UInt8) : (Lib.bytesWorld w.drew e (ofL x)).heap.size = w.heap.size + 1 := by
  rw [Lib.bytesWorld_size]; rfl
theorem bytes_before (w : World) (o : Obj) (e : TypeId) (x : List UInt8) (hx : x.length ≤ 1000000) : Sl Kd.byte ((Lib.bytesWorld w.drew e (ofL x)).alloc o) (fun k => k = w.heap.size) (some ⟨w.heap.size, 0, none⟩) (bytesCap w.drew e x) x :=
  (bytesWorld_sl1 w.drew e x hx).alloc o
theorem before_blk (w : World) (o : Obj) (e : TypeId) (x : List UInt8) : ((Lib.bytesWorld w.drew e (ofL x)).alloc o).heap[w.heap.size + 1]? = some o := by
  rw [← before_size w e x]; exact heap_alloc_new _ _
theorem before_cell0 {w : World} (e : TypeId) (x : List UInt8) {p : Addr} {v : Value} (h : w.cell? p = some v) : (Lib.bytesWorld w.drew e (ofL x)).cell? p = some v :=
  cell_below (w := w.drew) h (bytesWorld_below _ _ _)
theorem before_cell {w : World} (o : Obj) (e : TypeId) (x : List UInt8) {p : Addr} {v : Value} (h : w.cell? p = some v) : ((Lib.bytesWorld w.drew e (ofL x)).alloc o).cell? p = some v :=
  cell_alloc (before_cell0 e x h) _
theorem before_below (w : World) (o : Obj) (e : TypeId) (x : List UInt8) : Below w.heap.size w ((Lib.bytesWorld w.drew e (ofL x)).alloc o) :=
  (below_then (below_drewN (Below.refl _ w) 1) (bytesWorld_below w.drew e x) (Nat.le_refl _)).alloc (by show w.heap.size ≤ (Lib.bytesWorld w.drew e (ofL x)).heap.size; rw [before_size]; omega) o

theorem rsum_of {l : List UInt8} {k : Nat} {n : Int} (hk : l.length = k) (hn : hsum l = n) {A : Option Addr} {c : Nat} {F : Nat → Prop} (w : World) (ha : Sl Kd.byte w F A c l) :
    Calls Try.prog 35 #[.slice A k c] w fun e w' => e = .returned (.int .i64 n) ∧ w = w' := by
  subst hk
  exact rsum_calls l hn w ha
theorem ustar_sl (W : World) : Sl Kd.byte (W.alloc (.cells #[.int .u8 117, .int .u8 115, .int .u8 116, .int .u8 97, .int .u8 114, .int .u8 0, .int .u8 48, .int .u8 48] 5)) (fun k => k = W.heap.size) (some ⟨W.heap.size, 0, none⟩) 8 ustar := new_sl W ustar _ rfl (by decide)

set_option maxHeartbeats 4000000 in
theorem rput04_walk (h : Hd) (hr : h.R) (hz : h.S) (f : Fits h) {p : List UInt8} (hp : blockOf h = p) (w : World) :
    Calls Try.prog 29 #[h.agg] w fun e w' => ∃ A c, e = .returned (.tuple #[.slice A p.length c, .bool true]) ∧ Sl Kd.byte w' (fun k => w.heap.size ≤ k) A c p ∧ Below w.heap.size w w' := by
  have Hm := Au.mk ((fits_iff h).2 f)
  have Hr := Au.mk hr
  have Hp := Au.mk hp
  obtain ⟨z1, z2, z3⟩ := hz
  obtain ⟨p1, p2, p3, p4, p5, p6, p7, p8, p9, HP⟩ := pages h f
  have hb0 := (Below.refl w.heap.size w).alloc (Nat.le_refl _) (.cells h.cells.toArray 36)
  have hg0 : (w.alloc (.cells h.cells.toArray 36)).heap[w.heap.size]? = some (.cells h.cells.toArray 36 (0, 0)) := heap_alloc_new _ _
  have km : ∀ W : World, (Instr.makeSlice 22 (.int .i64 512) (.int .i64 512)).run Try.prog W = .ok (.slice (some ⟨W.heap.size, 0, none⟩) 512 512) (W.alloc (.cells (bcs (zeros 512)).toArray 5)) := make_bytes etBytes 512 (by decide)
  have kb := fun x W => str_bytes (P := Try.prog) (dst := 22) Try.underlying9 Try.underlying22 Try.underlying5 x W
  clear hr hp
  unfold Hd.agg
  go_enter Try.func29, Try.ntmps29
  go_wp2_with fail
  refine (rmay_calls h Hr.out ⟨z1, z2, z3⟩ Hm.out _).mono ?_
  rintro e w1 ⟨rfl, b1⟩
  have hg1 := blk_below hg0 b1 (lt_of_block hg0)
  have hb1 := hb0.trans (b1.mono (by simp))
  have hlt1 : w.heap.size < w1.heap.size := lt_of_block hg1
  have x1 := blk_cell hg1 0 rfl
  have Hg1 := Au.mk hg1
  clear hg1 hg0
  go_upto_region 4 with fail
  go_cut [5] (fun v wx => ∃ g : Nat, v = .slice (some ⟨g, 0, none⟩) 512 512 ∧ w.heap.size < g ∧ Au (wx.heap[g]? = some (.cells (bcs p1).toArray 5 (0, 0))) ∧ Au (wx.heap[w.heap.size]? = some (.cells h.cells.toArray 36 (0, 0))) ∧ Below w.heap.size w wx)
  case first =>
    have y1 := after_cell (.cells (bcs (zeros 512)).toArray 5) 5 h.name x1
    have y2 := after_blk w1 (.cells (bcs (zeros 512)).toArray 5) 5 h.name
    have y3 := bytes_after w1 (.cells (bcs (zeros 512)).toArray 5) 5 h.name (by omega)
    have Y2 := Au.mk y2
    have Y4 := Au.mk (blk_below Hg1.out (after_below w1 (.cells (bcs (zeros 512)).toArray 5) 5 h.name) (lt_of_block Hg1.out))
    have y5 := below_then hb1 (after_below w1 (.cells (bcs (zeros 512)).toArray 5) 5 h.name) hb1.size
    have v0 := before_cell0 5 h.name x1
    have v1 := before_cell (.cells (bcs (zeros 512)).toArray 5) 5 h.name x1
    have V2 := Au.mk (before_blk w1 (.cells (bcs (zeros 512)).toArray 5) 5 h.name)
    have v3 := bytes_before w1 (.cells (bcs (zeros 512)).toArray 5) 5 h.name (by omega)
    have V4 := Au.mk (blk_below Hg1.out (before_below w1 (.cells (bcs (zeros 512)).toArray 5) 5 h.name) (lt_of_block Hg1.out))
    have v5 := below_then hb1 (before_below w1 (.cells (bcs (zeros 512)).toArray 5) 5 h.name) hb1.size
    have hbs := before_size w1 5 h.name
    clear y2
    go_region_held_law (fun w' => w'.cell? ⟨w.heap.size, 0, none⟩ = some (.string (ofL h.name))) (first | go_keep | exact cell_alloc x1 _ | exact y1 | exact v0 | exact v1)
      (first | (go_at_call 44; refine (lay_calls _ (zeros 512) (i := 0) h.name HP.e1 _ (by with_reducible first | exact Y2.out | exact V2.out) (zeros_length 512) (by decide) (by omega) (by with_reducible first | exact y3 | exact v3) (by omega)).mono ?_; rintro e w5 ⟨rfl, q5, g5⟩; have k5 := cell_grown (by with_reducible first | exact y1 | exact v1) g5 (by show w.heap.size ≠ _; omega)))
    all_goals (go_wp2_with fail; go_meet)
    all_goals (first | (with_reducible exact ⟨_, rfl, by omega, ⟨q5⟩, ⟨blk_grown Y4.out g5 (by simp; omega)⟩, below_of_grown y5 g5 y5.size (by omega)⟩) | (with_reducible exact ⟨_, rfl, by omega, ⟨q5⟩, ⟨blk_grown V4.out g5 (by simp; omega)⟩, below_of_grown v5 g5 v5.size (by omega)⟩))
  case rest =>
    obtain ⟨g, rfl, hgw, Q1, G1, e1⟩ := hcut
    clear b1 hb1 x1 Hg1 hb0 km
    have L1 : Au ((numB h ⟨100, 8, 3⟩).length = 8) := ⟨numB_len f.mode⟩
    have L2 : Au ((numB h ⟨108, 8, 4⟩).length = 8) := ⟨numB_len f.uid⟩
    have L3 : Au ((numB h ⟨116, 8, 5⟩).length = 8) := ⟨numB_len f.gid⟩
    have L4 : Au ((numB h ⟨124, 12, 6⟩).length = 12) := ⟨numB_len f.size⟩
    have L5 : Au ((numB h ⟨136, 12, 7⟩).length = 12) := ⟨numB_len f.mtime⟩
    have x1 := blk_cell G1.out 3 rfl
    go_wp2_with fail
    refine (number_calls04 g p1 (i := 100) (q := numB h ⟨100, 8, 3⟩) rfl (Hr.out.numb 3) HP.e2 _ Q1.out HP.l1 (by decide) (by have := L1.out; omega)).mono ?_
    rintro e w2 ⟨rfl, q, d⟩
    have G2 := Au.mk (blk_grown G1.out d (by simp; omega))
    have e2 := below_of_grown e1 d e1.size (by omega)
    have Q2 := Au.mk q
    have x2 := blk_cell G2.out 4 rfl
    clear q d x1 e1 Q1 G1
    go_wp2_with fail
    refine (number_calls04 g p2 (i := 108) (q := numB h ⟨108, 8, 4⟩) rfl (Hr.out.numb 4) HP.e3 _ Q2.out HP.l2 (by decide) (by have := L2.out; omega)).mono ?_
    rintro e w3 ⟨rfl, q, d⟩
    have G3 := Au.mk (blk_grown G2.out d (by simp; omega))
    have e3 := below_of_grown e2 d e2.size (by omega)
    have Q3 := Au.mk q
    have x3 := blk_cell G3.out 5 rfl
    clear q d x2 e2 Q2 G2
    go_wp2_with fail
    refine (number_calls04 g p3 (i := 116) (q := numB h ⟨116, 8, 5⟩) rfl (Hr.out.numb 5) HP.e4 _ Q3.out HP.l3 (by decide) (by have := L3.out; omega)).mono ?_
    rintro e w4 ⟨rfl, q, d⟩
    have G4 := Au.mk (blk_grown G3.out d (by simp; omega))
    have e4 := below_of_grown e3 d e3.size (by omega)
    have Q4 := Au.mk q
    have x4 := blk_cell G4.out 6 rfl
    clear q d x3 e3 Q3 G3
    go_wp2_with fail
    refine (number_calls04 g p4 (i := 124) (q := numB h ⟨124, 12, 6⟩) rfl (Hr.out.numb 6) HP.e5 _ Q4.out HP.l4 (by decide) (by have := L4.out; omega)).mono ?_
    rintro e w5 ⟨rfl, q, d⟩
    have G5 := Au.mk (blk_grown G4.out d (by simp; omega))
    have e5 := below_of_grown e4 d e4.size (by omega)
    have Q5 := Au.mk q
    have x5 := blk_cell G5.out 7 rfl
    clear q d x4 e4 Q4 G4
    go_wp2_with fail
    refine (number_calls04 g p5 (i := 136) (q := numB h ⟨136, 12, 7⟩) rfl (Hr.out.numb 7) HP.e6 _ Q5.out HP.l5 (by decide) (by have := L5.out; omega)).mono ?_
    rintro e w6 ⟨rfl, q, d⟩
    have G6 := Au.mk (blk_grown G5.out d (by simp; omega))
    have e6 := below_of_grown e5 d e5.size (by omega)
    have Q6 := Au.mk q
    have x6 := blk_cell G6.out 8 rfl
    clear q d x5 e5 Q5 G5
    obtain ⟨v, hv⟩ : ∃ v, (bcs p6)[156]? = some v := ⟨_, List.getElem?_eq_getElem (by rw [bcs_length, HP.l6]; decide)⟩
    have y1 := blk_cell Q6.out 156 hv
    have y2 := blk_free Q6.out 156
    clear hv
    go_upto_region 11 with fail
    generalize hW : World.setCell w6 _ _ = W7
    have Q7 : Au (W7.heap[g]? = some (.cells (bcs p7).toArray 5 (0, 0))) := ⟨by rw [← hW, ← HP.e7, ← bcs_set]; exact blk_set Q6.out _ _⟩
    have G7 : Au (W7.heap[w.heap.size]? = some (.cells h.cells.toArray 36 (0, 0))) := ⟨by rw [← hW]; exact blk_far G6.out (by show w.heap.size ≠ g; omega) _⟩
    have e7 : Below w.heap.size w W7 := by rw [← hW]; exact e6.setCell (by show w.heap.size ≤ g; omega) _
    clear hW y1 y2 x6 Q6 G6 e6
    have x7 := blk_cell G7.out 2 rfl
    have s7 := bytesWorld_sl W7 5 h.link (by omega)
    have b7 := bytesWorld_below W7 5 h.link
    have Q7b := Au.mk (blk_below Q7.out b7 (lt_of_block Q7.out))
    have G7b := Au.mk (blk_below G7.out b7 (lt_of_block G7.out))
    have hlt7 := lt_of_block Q7.out
    have e7b := below_then e7 b7 e7.size
    clear b7
    go_wp2_with fail
    refine (lay_calls g p7 (i := 157) h.link HP.e8 _ Q7b.out HP.l7 (by decide) (by omega) s7 (by omega)).mono ?_
    rintro e w8 ⟨rfl, q, d⟩
    have G8 := Au.mk (blk_grown G7b.out d (by simp; omega))
    have e8 := below_of_grown e7b d e7b.size (by omega)
    have Q8 := Au.mk q
    clear q d x7 s7 Q7b G7b e7b e7 Q7 G7
    have s8 := ustar_sl w8
    have b8 := (Below.refl w8.heap.size w8).alloc (Nat.le_refl _) (.cells #[.int .u8 117, .int .u8 115, .int .u8 116, .int .u8 97, .int .u8 114, .int .u8 0, .int .u8 48, .int .u8 48] 5)
    have Q8b := Au.mk (blk_below Q8.out b8 (lt_of_block Q8.out))
    have G8b := Au.mk (blk_below G8.out b8 (lt_of_block G8.out))
    have hlt8 := lt_of_block Q8.out
    have e8b := below_then e8 b8 e8.size
    clear b8
    go_wp2_with fail
    refine (lay_calls g p8 (i := 257) ustar HP.e9 _ Q8b.out HP.l8 (by decide) (by decide) s8 (by omega)).mono ?_
    rintro e w9 ⟨rfl, q, d⟩
    have G9 := Au.mk (blk_grown G8b.out d (by simp; omega))
    have e9 := below_of_grown e8b d e8b.size (by omega)
    have Q9 := Au.mk q
    have x9 := blk_cell G9.out 8 rfl
    clear q d s8 Q8b G8b e8b e8 Q8 G8
    obtain ⟨t, Ht⟩ := au ((h.ty.toNat : Int) == 77)
    have e77 : ((h.ty.toNat : Int) == 77) = (h.ty == 77) := byte_beq h.ty 77
    rw [Ht.out] at e77
    have ht := Ht.out
    have Hl := Au.mk (layB_length h f (zeros 8) (zeros_length 8))
    obtain ⟨pg, Hpg⟩ := au (layB h (zeros 8))
    rw [Hpg.out] at Hl
    obtain ⟨sg, Hsg⟩ := au (sgn pg)
    obtain ⟨m, Hmm⟩ := au (hsum pg)
    have Hsgl : Au (sg.length = 8) := ⟨by rw [← Hsg.out]; exact sgn_length _⟩
    have Hpp : Au (splice pg 148 sg = p) := ⟨by
      rw [← Hp.out, blockOf, ← layB_sum h f (sgn (layB h (zeros 8))) (zeros 8) (sgn_length _) (zeros_length 8), Hpg.out, Hsg.out]⟩
    have Hlp : Au (p.length = 512) := ⟨by rw [← Hp.out]; exact blockOf_length h f⟩
    cases t
    case true =>
      have h77 : h.ty = 77 := by simpa using e77.symm
      have M6 : Au ((numB h ⟨369, 12, 9⟩).length = 12) := ⟨numB_len (f.more h77).2.1⟩
      have M7 : Au ((numB h ⟨483, 12, 10⟩).length = 12) := ⟨numB_len (f.more h77).2.2⟩
      have hpe := pg_more h f h77
      rw [Hpg.out, ← HP.e] at hpe
      obtain ⟨pa, Hpa⟩ := au (splice p9 369 (numB h ⟨369, 12, 9⟩))
      rw [Hpa.out] at hpe
      have Hpe := Au.mk hpe
      have Hla : Au (pa.length = 512) := ⟨by rw [← Hpa.out]; exact splice_len HP.l9 (by have := M6.out; omega)⟩
      have x9b := blk_cell G9.out 9 rfl
      clear hpe h77 e77
      go_wp2_with fail
      refine (number_calls04 g p9 (i := 369) (q := numB h ⟨369, 12, 9⟩) rfl (Hr.out.numb 9) Hpa.out _ Q9.out HP.l9 (by decide) (by have := M6.out; omega)).mono ?_
      rintro e w10 ⟨rfl, q, d⟩
      have G10 := Au.mk (blk_grown G9.out d (by simp; omega))
      have e10 := below_of_grown e9 d e9.size (by omega)
      have Q10 := Au.mk q
      have x10 := blk_cell G10.out 10 rfl
      clear q d x9 x9b e9 Q9 G9
      go_wp2_with fail
      refine (number_calls04 g pa (i := 483) (q := numB h ⟨483, 12, 10⟩) rfl (Hr.out.numb 10) Hpe.out _ Q10.out Hla.out (by decide) (by have := M7.out; omega)).mono ?_
      rintro e w11 ⟨rfl, q, d⟩
      have e11 := below_of_grown e10 d e10.size (by omega)
      have Q11 := Au.mk q
      clear q d x10 e10 Q10 G10
      have s11 := blk_sl Q11.out Hl.out (by decide)
      go_wp2_with fail
      refine (rsum_of Hl.out Hmm.out _ s11).mono ?_
      rintro e w12 ⟨rfl, rfl⟩
      go_wp2_with fail
      refine (sign_calls pg Hsg.out _ Hl.out Hmm.out).mono ?_
      rintro e w13 ⟨B, c, rfl, s13, b13⟩
      have hlt11 := lt_of_block Q11.out
      go_wp2_with fail
      refine (lay_calls g pg (i := 148) sg Hpp.out _ (blk_below Q11.out b13 (lt_of_block Q11.out)) Hl.out (by decide) (by have := Hsgl.out; omega) s13 (by omega)).mono ?_
      rintro e w14 ⟨rfl, q, d⟩
      go_wp2_with fail
      go_ret2
      exact ⟨some ⟨g, 0, none⟩, 512, by rw [Hlp.out]; rfl, (blk_sl q Hlp.out (by decide)).mono (by intro k hk; omega), below_of_grown (below_then e11 b13 e11.size) d (below_then e11 b13 e11.size).size (by omega)⟩
    case false =>
      have h77 : ¬ h.ty = 77 := by simpa using e77.symm
      have hpe := pg_less h f h77
      rw [Hpg.out, ← HP.e] at hpe
      have Hpe := Au.mk hpe
      have x9b := blk_cell G9.out 1 rfl
      have N3 := (f.less h77).2.2.1
      have s7 := bytesWorld_sl w9 5 h.pre (by omega)
      have b7 := bytesWorld_below w9 5 h.pre
      have Q7b := Au.mk (blk_below Q9.out b7 (lt_of_block Q9.out))
      have hlt9 := lt_of_block Q9.out
      have e7b := below_then e9 b7 e9.size
      clear b7 hpe h77 e77
      go_wp2_with fail
      refine (lay_calls g p9 (i := 345) h.pre Hpe.out _ Q7b.out HP.l9 (by decide) (by omega) s7 (by omega)).mono ?_
      rintro e w11 ⟨rfl, q, d⟩
      have e11 := below_of_grown e7b d e7b.size (by omega)
      have Q11 := Au.mk q
      clear q d x9 x9b e7b Q7b s7 Q9 G9
      have s11 := blk_sl Q11.out Hl.out (by decide)
      go_wp2_with fail
      refine (rsum_of Hl.out Hmm.out _ s11).mono ?_
      rintro e w12 ⟨rfl, rfl⟩
      go_wp2_with fail
      refine (sign_calls pg Hsg.out _ Hl.out Hmm.out).mono ?_
      rintro e w13 ⟨B, c, rfl, s13, b13⟩
      have hlt11 := lt_of_block Q11.out
      go_wp2_with fail
      refine (lay_calls g pg (i := 148) sg Hpp.out _ (blk_below Q11.out b13 (lt_of_block Q11.out)) Hl.out (by decide) (by have := Hsgl.out; omega) s13 (by omega)).mono ?_
      rintro e w14 ⟨rfl, q, d⟩
      go_wp2_with fail
      go_ret2
      exact ⟨some ⟨g, 0, none⟩, 512, by rw [Hlp.out]; rfl, (blk_sl q Hlp.out (by decide)).mono (by intro k hk; omega), below_of_grown (below_then e11 b13 e11.size) d (below_then e11 b13 e11.size).size (by omega)⟩
theorem rput04_view (h : Hd) (hr : h.R) (hz : h.S) {p : List UInt8} {b : Bool} (hp : (hput h).getD [] = p) (hb : (hput h).isSome = b) (w : World) :
    Calls Try.prog 29 #[h.agg] w fun e w' => ∃ A c, e = .returned (.tuple #[.slice A p.length c, .bool b]) ∧ Sl Kd.byte w' (fun k => w.heap.size ≤ k) A c p ∧ Below w.heap.size w w' := by
  subst hp hb
  cases hm : hmay h with
  | false =>
    have e : hput h = none := by unfold hput; rw [hm]; rfl
    rw [e]
    exact (rput04_no h hr hz hm w).mono fun e w' ⟨h1, h2⟩ => ⟨none, 0, h1, Sl.nil _ _ _, h2⟩
  | true =>
    have e : hput h = some (blockOf h) := by unfold hput; rw [hm]; rfl
    rw [e]
    exact rput04_walk h hr hz ((fits_iff h).1 hm) rfl w
end Go.Proofs.Ytejalhoaljlnhaa.Rk
