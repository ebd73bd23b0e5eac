/- GHeadB: HeadL HeadM HeadN HeadO HeadP HeadQ HeadR -/
import Derived.Test.YtldhcknjpmbgnaaGreatDoorGHeadA
import Derived.Deep.RegionHeldLaw
import Derived.Lib.SlBytesConst
import Derived.Laws.ResultCell
import Derived.Laws.Tables
import Derived.Test.YtldhcknjpmbgnaaGreatDoorGBase
set_option maxRecDepth 100000
/- The block of a header, laid piece by piece; rows of slices that are new. -/
namespace Go.Proofs.YtldhcknjpmbgnaaGreatDoor.Rk
open Go.RowKit
set_option linter.unusedVariables false
set_option linter.unusedSimpArgs false

theorem splice_set {segs : List (List UInt8)} (j : Nat) {i : Nat} {x y : List UInt8} (hj : segs[j]? = some y) (hi : (segs.take j).flatten.length = i) (hx : x.length = y.length) : splice segs.flatten i x = (segs.set j x).flatten := by
  have hlt := (List.getElem?_eq_some_iff.1 hj).1
  have e : segs = segs.take j ++ y :: segs.drop (j + 1) := by
    rw [List.getElem?_eq_getElem hlt] at hj
    injection hj with hj
    rw [← hj, ← List.drop_eq_getElem_cons hlt, List.take_append_drop]
  have e2 : segs.set j x = segs.take j ++ x :: segs.drop (j + 1) := by rw [List.set_eq_take_append_cons_drop, if_pos hlt]
  rw [e2]
  conv => lhs; rw [e]
  rw [List.flatten_append, List.flatten_append, List.flatten_cons, List.flatten_cons]
  subst hi
  unfold splice
  rw [List.take_left]
  congr 2
  rw [← List.drop_drop, List.drop_left, hx, List.drop_left]
theorem splice_pad {l x : List UInt8} {i n : Nat} (h : ∀ j, i + x.length ≤ j → j < i + n → l[j]? = some 0) (hx : x.length ≤ n) : splice l i x = splice l i (pad n x) := by
  unfold splice pad
  rw [List.append_assoc]
  congr 2
  rw [List.length_append, zeros_length]
  obtain ⟨m, hm⟩ : ∃ m, n - x.length = m := ⟨_, rfl⟩
  rw [hm]
  have h' : ∀ j, j < m → l[i + x.length + j]? = some 0 := fun j hj => h _ (by omega) (by omega)
  clear h hx hm
  rw [← Nat.add_assoc]
  generalize i + x.length = p at h'
  induction m with
  | zero => simp [zeros]
  | succ m ih =>
    rw [ih fun j hj => h' j (by omega)]
    have h2 := h' m (by omega)
    have hlt := (List.getElem?_eq_some_iff.1 h2).1
    rw [List.drop_eq_getElem_cons hlt]
    rw [List.getElem?_eq_getElem hlt] at h2
    injection h2 with h2
    rw [h2, zeros, zeros, List.replicate_succ', List.append_assoc]
    rfl
theorem splice_zset {segs : List (List UInt8)} (j : Nat) {i n : Nat} {x : List UInt8} (hj : segs[j]? = some (zeros n)) (hi : (segs.take j).flatten.length = i) (hx : x.length ≤ n) : splice segs.flatten i x = (segs.set j (pad n x)).flatten := by
  rw [splice_pad (n := n) _ hx, splice_set j hj hi (by rw [pad_length hx, zeros_length])]
  intro k h1 h2
  have hlt := (List.getElem?_eq_some_iff.1 hj).1
  have e : segs = segs.take j ++ zeros n :: segs.drop (j + 1) := by
    rw [List.getElem?_eq_getElem hlt] at hj
    injection hj with hj
    rw [← hj, ← List.drop_eq_getElem_cons hlt, List.take_append_drop]
  rw [e, List.flatten_append, List.flatten_cons, List.getElem?_append_right (by omega), List.getElem?_append_left (by rw [zeros_length]; omega)]
  rw [hi, zeros, List.getElem?_replicate, if_pos (by omega)]

def layW (h : Hd) (l : List Sp) (pg : List UInt8) : List UInt8 := l.foldl (fun pg s => splice pg s.at_ (h.text s.ix)) pg
def layN (h : Hd) (l : List Sp) (pg : List UInt8) : List UInt8 := l.foldl (fun pg s => splice pg s.at_ (numB h s)) pg
theorem take_foldl {α β : Type} (f : β → α → β) {l : List α} {k : Nat} {s : α} (hk : l[k]? = some s) (b : β) : (l.take (k + 1)).foldl f b = f ((l.take k).foldl f b) s := by
  have hlt := (List.getElem?_eq_some_iff.1 hk).1
  rw [List.getElem?_eq_getElem hlt] at hk
  injection hk with hk
  rw [List.take_succ_eq_append_getElem hlt, List.foldl_append, hk]; rfl
theorem fold_splice_len {f : Sp → List UInt8} : ∀ (l : List Sp) (pg : List UInt8), pg.length = 512 → (∀ s ∈ l, s.at_ + (f s).length ≤ 512) → (l.foldl (fun pg s => splice pg s.at_ (f s)) pg).length = 512
  | [], pg, h, _ => h
  | s :: l, pg, h, hs => fold_splice_len l _ (by rw [splice_length _ _ _ (by rw [h]; exact hs s (by simp))]; exact h) fun t ht => hs t (by simp [ht])
theorem numB_len {h : Hd} {s : Sp} (hp : ∃ l, put (h.numb s.ix) s.wide = some l) : (numB h s).length = s.wide := by
  obtain ⟨l, e⟩ := hp
  have := put_length e
  rw [numB, e]
  show l.length = _
  omega
end Go.Proofs.YtldhcknjpmbgnaaGreatDoor.Rk
/- The block of a header: the pieces laid are the block. -/
namespace Go.Proofs.YtldhcknjpmbgnaaGreatDoor.Rk
open Go.RowKit
set_option linter.unusedVariables false
set_option linter.unusedSimpArgs false

theorem zeros_split : zeros 512 = ([zeros 100, zeros 8, zeros 8, zeros 8, zeros 12, zeros 12, zeros 8, zeros 1, zeros 100, zeros 8, zeros 80, zeros 24, zeros 12, zeros 102, zeros 12, zeros 17] : List (List UInt8)).flatten := by decide +kernel
theorem zeros_split' : zeros 512 = ([zeros 100, zeros 8, zeros 8, zeros 8, zeros 12, zeros 12, zeros 8, zeros 1, zeros 100, zeros 8, zeros 80, zeros 155, zeros 12] : List (List UInt8)).flatten := by decide +kernel


theorem ustar_length : ustar.length = 8 := rfl
theorem layB_of (h : Hd) (f : Fits h) : splice (splice (layN h (nSp h.ty) (layW h (wSp h.ty) (zeros 512))) 156 [h.ty]) 257 ustar = layB h (zeros 8) := by
  have L1 : (numB h ⟨100, 8, 3⟩).length = 8 := numB_len f.mode
  have L2 : (numB h ⟨108, 8, 4⟩).length = 8 := numB_len f.uid
  have L3 : (numB h ⟨116, 8, 5⟩).length = 8 := numB_len f.gid
  have L4 : (numB h ⟨124, 12, 6⟩).length = 12 := numB_len f.size
  have L5 : (numB h ⟨136, 12, 7⟩).length = 12 := numB_len f.mtime
  have N1 := f.nameL
  have N2 := f.linkL
  have P1 : (pad 100 h.name).length = 100 := pad_length f.nameL
  have P2 : (pad 100 h.link).length = 100 := pad_length f.linkL
  have U := ustar_length
  by_cases h77 : h.ty = 77
  · obtain ⟨_, q1, q2⟩ := f.more h77
    have L6 : (numB h ⟨369, 12, 9⟩).length = 12 := numB_len q1
    have L7 : (numB h ⟨483, 12, 10⟩).length = 12 := numB_len q2
    have e1 : wSp h.ty = [⟨0, 100, 0⟩, ⟨157, 100, 2⟩] := by simp [wSp, h77]
    have e2 : nSp h.ty = [⟨100, 8, 3⟩, ⟨108, 8, 4⟩, ⟨116, 8, 5⟩, ⟨124, 12, 6⟩, ⟨136, 12, 7⟩, ⟨369, 12, 9⟩, ⟨483, 12, 10⟩] := by simp [nSp, h77]
    have e3 : layB h (zeros 8) = ([pad 100 h.name, numB h ⟨100, 8, 3⟩, numB h ⟨108, 8, 4⟩, numB h ⟨116, 8, 5⟩, numB h ⟨124, 12, 6⟩, numB h ⟨136, 12, 7⟩, zeros 8, [h.ty], pad 100 h.link, ustar, zeros 80, zeros 24, numB h ⟨369, 12, 9⟩, zeros 102, numB h ⟨483, 12, 10⟩, zeros 17] : List (List UInt8)).flatten := by
      rw [layB, segsB, if_pos h77]; rfl
    rw [e1, e2, e3, layW, layN]
    simp only [List.foldl_cons, List.foldl_nil, Hd.text]
    rw [zeros_split]
    clear h77 e1 e2 e3 q1 q2 f
    (rw [splice_zset 0 (n := 100) rfl (by simp [zeros_length, *]) (by assumption)]; simp only [List.set_cons_succ, List.set_cons_zero])
    (rw [splice_zset 8 (n := 100) rfl (by simp [zeros_length, *]) (by assumption)]; simp only [List.set_cons_succ, List.set_cons_zero])
    (rw [splice_set 1 rfl (by simp [zeros_length, *]) (by simp [zeros_length, *])]; simp only [List.set_cons_succ, List.set_cons_zero])
    (rw [splice_set 2 rfl (by simp [zeros_length, *]) (by simp [zeros_length, *])]; simp only [List.set_cons_succ, List.set_cons_zero])
    (rw [splice_set 3 rfl (by simp [zeros_length, *]) (by simp [zeros_length, *])]; simp only [List.set_cons_succ, List.set_cons_zero])
    (rw [splice_set 4 rfl (by simp [zeros_length, *]) (by simp [zeros_length, *])]; simp only [List.set_cons_succ, List.set_cons_zero])
    (rw [splice_set 5 rfl (by simp [zeros_length, *]) (by simp [zeros_length, *])]; simp only [List.set_cons_succ, List.set_cons_zero])
    (rw [splice_set 12 rfl (by simp [zeros_length, *]) (by simp [zeros_length, *])]; simp only [List.set_cons_succ, List.set_cons_zero])
    (rw [splice_set 14 rfl (by simp [zeros_length, *]) (by simp [zeros_length, *])]; simp only [List.set_cons_succ, List.set_cons_zero])
    (rw [splice_set 7 rfl (by simp [zeros_length, *]) (by simp [zeros_length, *])]; simp only [List.set_cons_succ, List.set_cons_zero])
    (rw [splice_set 9 rfl (by simp [zeros_length, *]) (by simp [zeros_length, *])]; simp only [List.set_cons_succ, List.set_cons_zero])
  · obtain ⟨_, _, N3, _⟩ := f.less h77
    have P3 : (pad 155 h.pre).length = 155 := pad_length N3
    have e1 : wSp h.ty = [⟨0, 100, 0⟩, ⟨157, 100, 2⟩, ⟨345, 155, 1⟩] := by simp [wSp, h77]
    have e2 : nSp h.ty = [⟨100, 8, 3⟩, ⟨108, 8, 4⟩, ⟨116, 8, 5⟩, ⟨124, 12, 6⟩, ⟨136, 12, 7⟩] := by simp [nSp, h77]
    have e3 : layB h (zeros 8) = ([pad 100 h.name, numB h ⟨100, 8, 3⟩, numB h ⟨108, 8, 4⟩, numB h ⟨116, 8, 5⟩, numB h ⟨124, 12, 6⟩, numB h ⟨136, 12, 7⟩, zeros 8, [h.ty], pad 100 h.link, ustar, zeros 80, pad 155 h.pre, zeros 12] : List (List UInt8)).flatten := by
      rw [layB, segsB, if_neg h77]; rfl
    rw [e1, e2, e3, layW, layN]
    simp only [List.foldl_cons, List.foldl_nil, Hd.text]
    rw [zeros_split']
    clear h77 e1 e2 e3 f
    (rw [splice_zset 0 (n := 100) rfl (by simp [zeros_length, *]) (by assumption)]; simp only [List.set_cons_succ, List.set_cons_zero])
    (rw [splice_zset 8 (n := 100) rfl (by simp [zeros_length, *]) (by assumption)]; simp only [List.set_cons_succ, List.set_cons_zero])
    (rw [splice_zset 11 (n := 155) rfl (by simp [zeros_length, *]) (by assumption)]; simp only [List.set_cons_succ, List.set_cons_zero])
    (rw [splice_set 1 rfl (by simp [zeros_length, *]) (by simp [zeros_length, *])]; simp only [List.set_cons_succ, List.set_cons_zero])
    (rw [splice_set 2 rfl (by simp [zeros_length, *]) (by simp [zeros_length, *])]; simp only [List.set_cons_succ, List.set_cons_zero])
    (rw [splice_set 3 rfl (by simp [zeros_length, *]) (by simp [zeros_length, *])]; simp only [List.set_cons_succ, List.set_cons_zero])
    (rw [splice_set 4 rfl (by simp [zeros_length, *]) (by simp [zeros_length, *])]; simp only [List.set_cons_succ, List.set_cons_zero])
    (rw [splice_set 5 rfl (by simp [zeros_length, *]) (by simp [zeros_length, *])]; simp only [List.set_cons_succ, List.set_cons_zero])
    (rw [splice_set 7 rfl (by simp [zeros_length, *]) (by simp [zeros_length, *])]; simp only [List.set_cons_succ, List.set_cons_zero])
    (rw [splice_set 9 rfl (by simp [zeros_length, *]) (by simp [zeros_length, *])]; simp only [List.set_cons_succ, List.set_cons_zero])
theorem segsB_lens (h : Hd) (f : Fits h) : (pad 100 h.name).length = 100 ∧ (numB h ⟨100, 8, 3⟩).length = 8 ∧ (numB h ⟨108, 8, 4⟩).length = 8 ∧ (numB h ⟨116, 8, 5⟩).length = 8 ∧ (numB h ⟨124, 12, 6⟩).length = 12 ∧ (numB h ⟨136, 12, 7⟩).length = 12 ∧ (pad 100 h.link).length = 100 :=
  ⟨pad_length f.nameL, numB_len f.mode, numB_len f.uid, numB_len f.gid, numB_len f.size, numB_len f.mtime, pad_length f.linkL⟩
theorem layB_sum (h : Hd) (f : Fits h) (s t : List UInt8) (hs : s.length = 8) (ht : t.length = 8) : splice (layB h t) 148 s = layB h s := by
  obtain ⟨L1, L2, L3, L4, L5, L6, L7⟩ := segsB_lens h f
  unfold layB
  rw [splice_set (segs := segsB h t) 6 (y := t) rfl (by simp [segsB, *]) (by omega)]
  rfl
theorem layB_length (h : Hd) (f : Fits h) (s : List UInt8) (hs : s.length = 8) : (layB h s).length = 512 := by
  have h1 := layB_sum h f s (zeros 8) hs (zeros_length 8)
  have h2 : (layB h (zeros 8)).length = 512 := by
    rw [← layB_of h f]
    have L : (layN h (nSp h.ty) (layW h (wSp h.ty) (zeros 512))).length = 512 := by
      refine fold_splice_len _ _ (fold_splice_len _ _ (zeros_length _) ?_) ?_
      · intro s hs
        obtain ⟨k, hk⟩ := List.mem_iff_getElem?.1 hs
        have h4 := (fits_iff h).2 f
        simp only [hmay, Bool.and_eq_true, List.all_eq_true] at h4
        have h5 := h4.1.2 s hs
        simp [wordOk] at h5
        have := (wSp_mem hk).2
        omega
      · intro s hs
        obtain ⟨k, hk⟩ := List.mem_iff_getElem?.1 hs
        have h4 := (fits_iff h).2 f
        simp only [hmay, Bool.and_eq_true, List.all_eq_true] at h4
        have h5 := h4.2 s hs
        rw [numB_len (Option.isSome_iff_exists.1 h5)]
        exact (nSp_mem hk).2.2.2.1
    rw [splice_length _ _ _ (by rw [splice_length _ _ _ (by rw [L]; simp)]; rw [L]; decide), splice_length _ _ _ (by rw [L]; simp), L]
  rw [← h1, splice_length _ _ _ (by omega), h2]
theorem blockOf_length (h : Hd) (f : Fits h) : (blockOf h).length = 512 := layB_length h f _ (sgn_length _)

/-! ### rows of slices that are new -/
theorem Sl.elem {α : Type} {d : Kd α} {w : World} {F : Nat → Prop} {A : Option Addr} {c : Nat} {x : List α} (h : Sl d w F A c x) : ∀ W, Keeps F w W → (Kd.slice d).K W x [.slice A x.length c] :=
  fun W hW => ⟨A, c, rfl, h.1, h.2.1, h.2.2.imp fun vs hv => hv W hW⟩
theorem Sl.row_new {α : Type} {d : Kd α} {w : World} {vs : List Value} {xs : List α} {t : TypeId} {F : Nat → Prop} {n : Nat} (hn : xs.length = n) (hl : n ≤ 9223372036854775807)
    (hr : ∀ W, Keeps F (w.alloc (.cells vs.toArray t)) W → Reps d W xs vs) : Sl d (w.alloc (.cells vs.toArray t)) (fun k => F k ∨ k = w.heap.size) (some ⟨w.heap.size, 0, none⟩) n xs := by
  subst hn
  refine ⟨Nat.le_refl _, hl, vs, fun W hW => ⟨?_, hr W (hW.mono fun k hk => .inl hk)⟩⟩
  exact cells_of_blk (t := t) ((hW w.heap.size (.inr rfl) (by simp)).trans (heap_alloc_new _ _))
theorem bytesWorld_sl (W : World) (e : TypeId) (l : List UInt8) (hl : l.length ≤ 1000000) : Sl Kd.byte (Lib.bytesWorld W e (ofL l)) (fun k => W.heap.size ≤ k) (some ⟨W.heap.size, 0, none⟩) (bytesCap W e l) l := by
  obtain ⟨A, c, e, h⟩ := (bytesWorld_row W e l hl W.heap.size (Nat.le_refl _)).sl_bytes
  injection e with e1 e2 e3
  subst e1 e3
  exact h
theorem pput1_calls (g : Nat) (pg : List UInt8) (i : Nat) (x : List UInt8) {A : Option Addr} {c : Nat} {F : Nat → Prop} (w : World) (hg : w.heap[g]? = some (.cells (bcs pg).toArray 5 (0, 0))) (hl : pg.length = 512)
    (hfit : i + x.length ≤ 512) (hs : Sl Kd.byte w F A c x) (hF : ¬ F g) :
    Calls Tryz.prog 149 #[.agg #[.slice (some ⟨g, 0, none⟩) 512 512], .int .i64 i, .slice (some ⟨w.heap.size, 0, none⟩) 1 1] (w.alloc (.cells #[.slice A x.length c] 46)) fun e w' =>
      e = .returned (.tuple #[]) ∧ Au (w'.heap[g]? = some (.cells (bcs (splice pg i x)).toArray 5 (0, 0))) ∧ w.grownBy w' (some g) := by
  have hglt := lt_of_block hg
  have hs2 : Sl (Kd.slice Kd.byte) (w.alloc (.cells [Value.slice A x.length c].toArray 46)) (fun k => F k ∨ k = w.heap.size) (some ⟨w.heap.size, 0, none⟩) 1 [x] :=
    Sl.row_new rfl (by decide) (fun W hW => Reps.single ((hs.alloc _).elem W hW))
  have := pput_calls g pg i [x] _ (blk_alloc hg (.cells [Value.slice A x.length c].toArray 46)) hl (by simpa using hfit) hs2 (by rintro (h | h); exact hF h; omega)
  refine this.mono ?_
  rintro e w' ⟨h1, h2, h3⟩
  refine ⟨h1, ?_, ?_⟩
  · simpa using h2
  · exact grown_trans (grown_of ((Below.refl _ _).alloc (Nat.le_refl _) _) _) h3
end Go.Proofs.YtldhcknjpmbgnaaGreatDoor.Rk
/- head.Put: the walk. -/
namespace Go.Proofs.YtldhcknjpmbgnaaGreatDoor.Rk
open Go.RowKit
set_option linter.unusedVariables false
set_option linter.unusedSimpArgs false

theorem hput_no (h : Hd) (hr : h.R) (hm : hmay h = false) (w : World) :
    Calls Tryz.prog 101 #[h.agg] w fun e w' => e = .returned (.tuple #[.slice none 0 0, .bool false]) ∧ Below w.heap.size w w' := by
  have Hm := Au.mk hm
  have Hr := Au.mk hr
  have hb0 := (Below.refl w.heap.size w).alloc (Nat.le_refl _) (.cells h.cells.toArray 104)
  clear hm hr
  unfold Hd.agg
  go_enter Tryz.func101, Tryz.ntmps101
  go_wp2_with fail
  refine (may_calls h Hr.out Hm.out _).mono ?_
  rintro e w1 ⟨rfl, b1⟩
  go_wp2_with fail
  go_ret2
  exact ⟨rfl, hb0.trans (b1.mono (by simp))⟩

theorem cell_new {w : World} {cs : List Value} {t : TypeId} (j : Nat) {v : Value} (h : cs[j]? = some v) : (w.alloc (.cells cs.toArray t)).cell? ⟨w.heap.size, j, none⟩ = some v := blk_cell (heap_alloc_new w _) j h
theorem text_le {h : Hd} (f : Fits h) {k : Nat} {s : Sp} (hk : (wSp h.ty)[k]? = some s) : s.at_ + (h.text s.ix).length ≤ 512 ∧ (h.text s.ix).length ≤ 155 := by
  have h4 := (fits_iff h).2 f
  simp only [hmay, Bool.and_eq_true, List.all_eq_true] at h4
  have h5 := h4.1.2 s (List.mem_of_getElem? hk)
  simp [wordOk] at h5
  have := (wSp_mem hk).2
  have hw : s.wide ≤ 155 := by
    have := List.mem_of_getElem? hk
    unfold wSp at this; split at this <;> simp at this <;> (rcases this with rfl | rfl | rfl <;> decide) <;> (rcases this with rfl | rfl <;> decide)
  omega

theorem cell_grown {w W : World} {g : Nat} {p : Addr} {v : Value} (h : w.cell? p = some v) (hg : w.grownBy W (some g)) (hne : p.block ≠ g) : W.cell? p = some v :=
  (World.cell?_of_block (w := w) (hg.block p.block (World.block_lt_of_cell? w _ h) (by simpa using hne))).trans h
theorem fresh_grown {w w' W : World} {A : Option Addr} {vs : List Value} (h : Fresh w w' A vs) {g : Nat} (hg : w'.grownBy W (some g)) (hne : g < w.heap.size) : Fresh w W A vs :=
  fun V hV => h V ((Keeps.grown hg (by intro k hk; injection hk with hk; omega)).trans hg.size hV)

theorem blk_sl {w : World} {g n : Nat} {t : TypeId} {l : List UInt8} (h : w.heap[g]? = some (.cells (bcs l).toArray t (0, 0))) (hn : l.length = n) (hle : n ≤ 9223372036854775807) : Sl Kd.byte w (fun k => k = g) (some ⟨g, 0, none⟩) n l :=
  Sl.of_bytes (by omega) hle fun W hW => cells_of_blk (t := t) ((hW g rfl (lt_of_block h)).trans h)
theorem cells_of_blkm {w : World} {g : Nat} {t : TypeId} {m : Nat × Nat} {cs : List Value} (h : w.heap[g]? = some (.cells cs.toArray t m)) : Cells w (some ⟨g, 0, none⟩) cs :=
  fun _ => ⟨g, 0, rfl, fun j u hj => by rw [Nat.zero_add, cell_of_row _ _ j _ _ _ h]; simpa using hj⟩
theorem newm_sl (w : World) (l : List UInt8) (t : TypeId) (m : Nat × Nat) {n : Nat} (hn : l.length = n) (hle : n ≤ 9223372036854775807) : Sl Kd.byte (w.alloc (.cells (bcs l).toArray t m)) (fun k => k = w.heap.size) (some ⟨w.heap.size, 0, none⟩) n l :=
  Sl.of_bytes (by omega) hle fun W hW => cells_of_blkm (t := t) (m := m) ((hW _ rfl (by simp)).trans (heap_alloc_new _ _))
theorem new_sl (w : World) (l : List UInt8) (t : TypeId) {n : Nat} (hn : l.length = n) (hle : n ≤ 9223372036854775807) : Sl Kd.byte (w.alloc (.cells (bcs l).toArray t)) (fun k => k = w.heap.size) (some ⟨w.heap.size, 0, none⟩) n l :=
  blk_sl (heap_alloc_new w _) hn hle
/-- put at a place: one piece, its row new. -/
theorem ustar_put (g : Nat) (pg : List UInt8) (w : World) (hg : w.heap[g]? = some (.cells (bcs pg).toArray 5 (0, 0))) (hl : pg.length = 512) :
    Calls Tryz.prog 149 #[.agg #[.slice (some ⟨g, 0, none⟩) 512 512], .int .i64 257, .slice (some ⟨w.heap.size + 3, 0, none⟩) 3 3]
      ((((w.alloc (.cells #[.int .u8 117, .int .u8 115, .int .u8 116, .int .u8 97, .int .u8 114] 5 (5, 6))).alloc (.cells #[.int .u8 0] 5)).alloc (.cells #[.int .u8 48, .int .u8 48] 5 (2, 3))).alloc
        (.cells #[.slice (some ⟨w.heap.size, 0, none⟩) 5 5, .slice (some ⟨w.heap.size + 1, 0, none⟩) 1 1, .slice (some ⟨w.heap.size + 2, 0, none⟩) 2 2] 46)) fun e w' =>
      e = .returned (.tuple #[]) ∧ Au (w'.heap[g]? = some (.cells (bcs (splice pg 257 ustar)).toArray 5 (0, 0))) ∧ w.grownBy w' (some g) := by
  have hglt := lt_of_block hg
  have t1 := newm_sl w [117, 115, 116, 97, 114] 5 (5, 6) (n := 5) rfl (by decide)
  obtain ⟨w1, hw1⟩ : ∃ w1, w1 = w.alloc (.cells (bcs [117, 115, 116, 97, 114]).toArray 5 (5, 6)) := ⟨_, rfl⟩
  have z1 : w1.heap.size = w.heap.size + 1 := by rw [hw1]; simp
  have t2 := new_sl w1 [0] 5 (n := 1) rfl (by decide)
  obtain ⟨w2, hw2⟩ : ∃ w2, w2 = w1.alloc (.cells (bcs [0]).toArray 5) := ⟨_, rfl⟩
  have z2 : w2.heap.size = w.heap.size + 2 := by rw [hw2]; simp; omega
  have t3 := newm_sl w2 [48, 48] 5 (2, 3) (n := 2) rfl (by decide)
  obtain ⟨w3, hw3⟩ : ∃ w3, w3 = w2.alloc (.cells (bcs [48, 48]).toArray 5 (2, 3)) := ⟨_, rfl⟩
  have z3 : w3.heap.size = w.heap.size + 3 := by rw [hw3]; simp; omega
  rw [← hw1] at t1
  rw [← hw2] at t2
  rw [← hw3] at t3
  have b2 : Below w1.heap.size w1 w2 := by rw [hw2]; exact (Below.refl _ _).alloc (Nat.le_refl _) _
  have b3 : Below w2.heap.size w2 w3 := by rw [hw3]; exact (Below.refl _ _).alloc (Nat.le_refl _) _
  have b1 : Below w.heap.size w w1 := by rw [hw1]; exact (Below.refl _ _).alloc (Nat.le_refl _) _
  have b13 : Below w.heap.size w w3 := bt (bt b1 b2) b3
  rw [z1] at t2
  rw [z2] at t3
  have u1 := (t1.below b2).below b3
  have u2 := t2.below b3
  have hs : Sl (Kd.slice Kd.byte) (w3.alloc (.cells ([.slice (some ⟨w.heap.size, 0, none⟩) 5 5, .slice (some ⟨w.heap.size + 1, 0, none⟩) 1 1, .slice (some ⟨w.heap.size + 2, 0, none⟩) 2 2] : List Value).toArray 46)) (fun k => w.heap.size ≤ k ∨ k = w3.heap.size) (some ⟨w3.heap.size, 0, none⟩) 3 [[117, 115, 116, 97, 114], [0], [48, 48]] :=
    Sl.row_new (F := fun k => w.heap.size ≤ k) rfl (by decide) fun W hW => ⟨_, _, rfl, (u1.alloc _).elem W (hW.mono (by intro k hk; omega)), _, _, rfl, (u2.alloc _).elem W (hW.mono (by intro k hk; omega)), _, _, rfl, (t3.alloc _).elem W (hW.mono (by intro k hk; omega)), rfl⟩
  have hg3 : w3.heap[g]? = some (.cells (bcs pg).toArray 5 (0, 0)) := blk_below hg b13 hglt
  have := pput_calls g pg 257 _ _ (blk_alloc hg3 (.cells ([.slice (some ⟨w.heap.size, 0, none⟩) 5 5, .slice (some ⟨w.heap.size + 1, 0, none⟩) 1 1, .slice (some ⟨w.heap.size + 2, 0, none⟩) 2 2] : List Value).toArray 46)) hl (by decide) hs (by omega)
  rw [z3, hw3, hw2, hw1] at this
  refine this.mono ?_
  rintro e w' ⟨h1, h2, h3⟩
  refine ⟨h1, h2, ?_⟩
  rw [← hw1, ← hw2, ← hw3] at h3
  exact grown_trans (grown_of (b13.alloc b13.size _) _) h3
theorem ustar_mark (W : World) : (convert 46 46 (.slice (some ⟨W.heap.size, 0, none⟩) 5 5)).run Tryz.prog (W.alloc (.cells #[.int .u8 117, .int .u8 115, .int .u8 116, .int .u8 97, .int .u8 114] 5)) =
    .ok (.slice (some ⟨W.heap.size, 0, none⟩) 5 5) (W.alloc (.cells #[.int .u8 117, .int .u8 115, .int .u8 116, .int .u8 97, .int .u8 114] 5 (5, 6))) :=
  Lib.run_convert_bytes_const W _ _ _ 5 5 Tryz.underlying46 Tryz.underlying5
theorem zz_mark (W : World) (o1 o2 : Obj) : (convert 46 46 (.slice (some ⟨W.heap.size + 2, 0, none⟩) 2 2)).run Tryz.prog (((W.alloc o1).alloc o2).alloc (.cells #[.int .u8 48, .int .u8 48] 5)) =
    .ok (.slice (some ⟨W.heap.size + 2, 0, none⟩) 2 2) (((W.alloc o1).alloc o2).alloc (.cells #[.int .u8 48, .int .u8 48] 5 (2, 3))) := by
  have := Lib.run_convert_bytes_const (P := Tryz.prog) ((W.alloc o1).alloc o2) 46 5 #[.int .u8 48, .int .u8 48] 2 2 Tryz.underlying46 Tryz.underlying5
  simpa using this
theorem ty_put (g : Nat) (pg : List UInt8) (ty : UInt8) (w : World) (hg : w.heap[g]? = some (.cells (bcs pg).toArray 5 (0, 0))) (hl : pg.length = 512) :
    Calls Tryz.prog 149 #[.agg #[.slice (some ⟨g, 0, none⟩) 512 512], .int .i64 156, .slice (some ⟨w.heap.size + 1, 0, none⟩) 1 1]
      ((w.alloc (.cells #[.int .u8 ty.toNat] 5)).alloc (.cells #[.slice (some ⟨w.heap.size, 0, none⟩) 1 1] 46)) fun e w' =>
      e = .returned (.tuple #[]) ∧ Au (w'.heap[g]? = some (.cells (bcs (splice pg 156 [ty])).toArray 5 (0, 0))) ∧ w.grownBy w' (some g) := by
  have hglt := lt_of_block hg
  have t1 := new_sl w [ty] 5 (n := 1) rfl (by decide)
  have := pput1_calls g pg 156 [ty] (w.alloc (.cells (bcs [ty]).toArray 5)) (blk_alloc hg _) hl (by simp) t1 (by omega)
  rw [World.size_alloc] at this
  exact this.mono fun e w' ⟨h1, h2, h3⟩ => ⟨h1, h2, grown_trans (grown_of ((Below.refl _ _).alloc (Nat.le_refl _) _) _) h3⟩

set_option maxHeartbeats 4000000 in
theorem hput_walk (h : Hd) (hr : h.R) (f : Fits h) {p : List UInt8} (hp : blockOf h = p) (w : World) :
    Calls Tryz.prog 101 #[h.agg] w fun e w' => ∃ A c, e = .returned (.tuple #[.slice A p.length c, .bool true]) ∧ Sl Kd.byte w' (fun k => w.heap.size ≤ k) A c p ∧ Below w.heap.size w w' := by
  have Hm := Au.mk ((fits_iff h).2 f)
  have Hr := Au.mk hr
  have Hp := Au.mk hp
  have hb0 := (Below.refl w.heap.size w).alloc (Nat.le_refl _) (.cells h.cells.toArray 104)
  have hg0 : (w.alloc (.cells h.cells.toArray 104)).heap[w.heap.size]? = some (.cells h.cells.toArray 104 (0, 0)) := heap_alloc_new _ _
  have km : ∀ W : World, (Instr.makeSlice 46 (.int .i64 512) (.int .i64 512)).run Tryz.prog W = .ok (.slice (some ⟨W.heap.size, 0, none⟩) 512 512) (W.alloc (.cells (bcs (zeros 512)).toArray 5)) := make_bytes etBytes 512 (by decide)
  clear hr hp
  have ku := ustar_mark
  have kz := zz_mark
  unfold Hd.agg
  go_enter Tryz.func101, Tryz.ntmps101
  go_wp2_with fail
  refine (may_calls h Hr.out Hm.out _).mono ?_
  rintro e w1 ⟨rfl, b1⟩
  have hg1 := blk_below hg0 b1 (lt_of_block hg0)
  have hb1 := hb0.trans (b1.mono (by simp))
  have hlt1 : w.heap.size < w1.heap.size := lt_of_block hg1
  go_wp2_with fail
  have q0 : (w1.alloc (.cells (bcs (zeros 512)).toArray 5)).heap[w1.heap.size]? = some (.cells (bcs (zeros 512)).toArray 5 (0, 0)) := heap_alloc_new _ _
  have q1 := blk_alloc q0 (.cells #[.slice (some ⟨w1.heap.size, 0, none⟩) 512 512] 152)
  have s0 := heap_alloc_new (w1.alloc (.cells (bcs (zeros 512)).toArray 5)) (.cells #[.slice (some ⟨w1.heap.size, 0, none⟩) 512 512] 152)
  rw [World.size_alloc] at s0
  have g0 := blk_alloc (blk_alloc hg1 (.cells (bcs (zeros 512)).toArray 5)) (.cells #[.slice (some ⟨w1.heap.size, 0, none⟩) 512 512] 152)
  have b2 : Below w1.heap.size w1 ((w1.alloc (.cells (bcs (zeros 512)).toArray 5)).alloc (.cells #[.slice (some ⟨w1.heap.size, 0, none⟩) 512 512] 152)) := ((Below.refl _ _).alloc (Nat.le_refl _) _).alloc (by simp) _
  have z2 : ((w1.alloc (.cells (bcs (zeros 512)).toArray 5)).alloc (.cells #[.slice (some ⟨w1.heap.size, 0, none⟩) 512 512] 152)).heap.size = w1.heap.size + 2 := by simp
  generalize ((w1.alloc (.cells (bcs (zeros 512)).toArray 5)).alloc (.cells #[.slice (some ⟨w1.heap.size, 0, none⟩) 512 512] 152)) = w2 at q1 s0 g0 b2 z2 ⊢
  clear q0 hg0 hg1
  refine (words_calls w.heap.size h.ty _ (blk_cell g0 8 rfl)).mono ?_
  rintro e w3 ⟨A, c, n, rfl, Hn2, hf, b3⟩
  have q3 := blk_below q1 b3 (lt_of_block q1)
  have s3 := blk_below s0 b3 (lt_of_block s0)
  have g3 := blk_below g0 b3 (lt_of_block g0)
  have z3 := b3.size
  have hb3 : Below w.heap.size w w3 := hb1.trans ((b2.trans (b3.mono (by omega))).mono (by omega))
  have hlt3 : w1.heap.size + 1 < w3.heap.size := by omega
  have hn5 : n < 4 := by rw [Hn2.out, wordsN]; split <;> decide
  have Q3 := Au.mk q3
  have S3 := Au.mk s3
  have G3 := Au.mk g3
  have Hf := Au.mk hf
  have hll := hlt1
  clear q1 s0 g0 b2 z3 b3 b1 q3 s3 g3 hf hb1
  go_wp2_with fail
  go_loopw [19] (fun i wr => ∃ k : Nat, k ≤ n ∧ i = .int .i64 k ∧ Au (wr.heap[w1.heap.size]? = some (.cells (bcs (layW h ((wSp h.ty).take k) (zeros 512))).toArray 5 (0, 0))) ∧ w3.grownBy wr (some w1.heap.size)) (fun i _ => n - (intOf i).toNat)
  case atStart => exact ⟨0, Nat.zero_le _, rfl, ⟨by rw [List.take_zero]; exact Q3.out⟩, grown_of (.refl _ _) _⟩
  case round =>
    obtain ⟨k, hk, rfl, Hq, hgr⟩ := hrel
    have hn3 := Hn2.out
    by_cases hlt : k < n
    · obtain ⟨s, Hs⟩ : ∃ s, Au ((wSp h.ty)[k]? = some s) := ⟨_, ⟨List.getElem?_eq_getElem (by rw [wSp_len, ← hn3]; exact hlt)⟩⟩
      have hfr := fresh_grown Hf.out hgr (by omega)
      have hcs := hfr.now
      rw [wSp_cells] at hcs
      obtain ⟨b, o, rfl, d0, d1, d2⟩ := place_cells hcs Hs.out
      obtain ⟨hix, hat⟩ := wSp_mem Hs.out
      have hgb := blk_grown G3.out hgr (by simp; omega)
      have hsb := blk_grown S3.out hgr (by simp)
      have htx := hd_text_cell hgb hix
      have hss := blk_cell (cs := [_]) hsb 0 rfl
      obtain ⟨hfit, hxl⟩ := text_le f Hs.out
      have htk := take_foldl (fun pg (s : Sp) => splice pg s.at_ (h.text s.ix)) Hs.out (zeros 512)
      obtain ⟨x, Hx⟩ := au (h.text s.ix)
      rw [Hx.out] at htx hfit hxl htk
      have Htk := Au.mk htk
      clear hgb hcs hn3 hfr htk hsb
      have kb := fun W => str_bytes (P := Tryz.prog) (dst := 46) Tryz.underlying9 Tryz.underlying46 Tryz.underlying5 x W
      go_wp2_with fail
      generalize hW : World.alloc wr _ = W5
      have f1 : W5.cell? ⟨wr.heap.size, 0, none⟩ = some (.int .i64 s.at_) := by rw [← hW]; exact cell_new (cs := [_, _, _]) 0 rfl
      have f2 : W5.cell? ⟨wr.heap.size, 2, none⟩ = some (.pointer (some ⟨w.heap.size, s.ix, none⟩)) := by rw [← hW]; exact cell_new (cs := [_, _, _]) 2 rfl
      have f3 : W5.cell? ⟨w.heap.size, s.ix, none⟩ = some (.string (ofL x)) := by rw [← hW]; exact cell_alloc htx _
      have f4 : W5.cell? ⟨w1.heap.size + 1, 0, none⟩ = some (.slice (some ⟨w1.heap.size, 0, none⟩) 512 512) := by rw [← hW]; exact cell_alloc hss _
      have Hq5 : Au (W5.heap[w1.heap.size]? = some (.cells (bcs (layW h ((wSp h.ty).take k) (zeros 512))).toArray 5 (0, 0))) := ⟨by rw [← hW]; exact blk_alloc Hq.out _⟩
      have hgW : w3.grownBy W5 (some w1.heap.size) := by rw [← hW]; exact grown_alloc hgr _
      clear hW
      have hlt5 := lt_of_block Hq5.out
      have hl5 : (layW h ((wSp h.ty).take k) (zeros 512)).length = 512 := fold_splice_len _ _ (zeros_length _) fun t ht => (text_le f (List.mem_iff_getElem?.1 (List.take_subset _ _ ht)).choose_spec).1
      have Hl5 := Au.mk hl5
      have hn1 : wr.heap.size ≠ w1.heap.size := by have := hgr.size; omega
      have hn22 : w.heap.size ≠ w1.heap.size := by omega
      have hn33 : w1.heap.size + 1 ≠ w1.heap.size := by omega
      clear hl5
      go_region_held_law (fun w' => w'.cell? ⟨wr.heap.size, 0, none⟩ = some (.int .i64 s.at_) ∧ w'.cell? ⟨wr.heap.size, 2, none⟩ = some (.pointer (some ⟨w.heap.size, s.ix, none⟩)) ∧ w'.cell? ⟨w.heap.size, s.ix, none⟩ = some (.string (ofL x)) ∧ w'.cell? ⟨w1.heap.size + 1, 0, none⟩ = some (.slice (some ⟨w1.heap.size, 0, none⟩) 512 512))
        (first | go_keep | exact ⟨cell_below (w := W5.drew) f1 (bytesWorld_below _ _ _), cell_below (w := W5.drew) f2 (bytesWorld_below _ _ _), cell_below (w := W5.drew) f3 (bytesWorld_below _ _ _), cell_below (w := W5.drew) f4 (bytesWorld_below _ _ _)⟩ | exact ⟨cell_alloc (cell_below (w := W5.drew) f1 (bytesWorld_below _ _ _)) _, cell_alloc (cell_below (w := W5.drew) f2 (bytesWorld_below _ _ _)) _, cell_alloc (cell_below (w := W5.drew) f3 (bytesWorld_below _ _ _)) _, cell_alloc (cell_below (w := W5.drew) f4 (bytesWorld_below _ _ _)) _⟩)
        (first | (go_at_call 149; refine (pput1_calls w1.heap.size _ s.at_ x _ (blk_below (w := W5.drew) Hq5.out (bytesWorld_below _ _ _) hlt5) Hl5.out hfit (bytesWorld_sl W5.drew _ x (by omega)) (by simp; omega)).mono ?_; rintro e w6 ⟨rfl, Hq6, hg6⟩; have g1 := cell_grown (cell_below (w := W5.drew) f1 (bytesWorld_below _ 5 x)) hg6 hn1; have g2 := cell_grown (cell_below (w := W5.drew) f2 (bytesWorld_below _ 5 x)) hg6 hn1; have g3 := cell_grown (cell_below (w := W5.drew) f3 (bytesWorld_below _ 5 x)) hg6 hn22; have g4 := cell_grown (cell_below (w := W5.drew) f4 (bytesWorld_below _ 5 x)) hg6 hn33))
      go_wp2_with fail
      go_roundw
      case rel =>
        have hbW : (Lib.bytesWorld W5.drew 5 (ofL x)).heap.size = W5.heap.size + 1 := by rw [Lib.bytesWorld_size]; rfl
        refine ⟨k + 1, by omega, by go_num, ⟨?_⟩, grown_trans (grown_below (grown_drewN hgW 1) (bytesWorld_below _ 5 x)) hg6⟩
        rw [layW, Htk.out]; exact Hq6.out
      case measure => simp [intOf]; omega
    · obtain rfl : k = n := by omega
      rw [List.take_of_length_le (by rw [wSp_len, ← hn3]; exact Nat.le_refl _)] at Hq
      have gb := blk_grown G3.out hgr (by simp; omega)
      have sb := blk_grown S3.out hgr (by simp)
      have hsz := hgr.size
      have hbB : Below w.heap.size w wr := below_of_grown hb3 hgr hb3.size (by omega)
      have Gb := Au.mk gb
      have Sb := Au.mk sb
      have hlW : (layW h (wSp h.ty) (zeros 512)).length = 512 := fold_splice_len _ _ (zeros_length _) fun t ht => (text_le f (List.mem_iff_getElem?.1 ht).choose_spec).1
      obtain ⟨pg, Hpg⟩ := au (layW h (wSp h.ty) (zeros 512))
      rw [Hpg.out] at Hq hlW
      have HlW := Au.mk hlW
      clear gb sb hn3 hlW
      go_wp2_with fail
      refine (numbers_calls w.heap.size h.ty _ (blk_cell Gb.out 8 rfl)).mono ?_
      rintro e w4 ⟨A4, c4, n4, rfl, Hn4, hf4, b4⟩
      have q4 := blk_below Hq.out b4 (lt_of_block Hq.out)
      have s4 := blk_below Sb.out b4 (lt_of_block Sb.out)
      have g4 := blk_below Gb.out b4 (lt_of_block Gb.out)
      have z4 := b4.size
      have hb4 : Below w.heap.size w w4 := hbB.trans (b4.mono hbB.size)
      have hlt4 : w1.heap.size + 1 < w4.heap.size := by omega
      have hn54 : n4 < 8 := by rw [Hn4.out, spotsN]; split <;> decide
      have Q4 := Au.mk q4
      have S4 := Au.mk s4
      have G4 := Au.mk g4
      have Hf4 := Au.mk hf4
      clear z4 b4 q4 s4 g4 hf4
      go_wp2_with fail
      go_loopw [37] (fun i wr => ∃ k : Nat, k ≤ n4 ∧ i = .int .i64 k ∧ Au (wr.heap[w1.heap.size]? = some (.cells (bcs (layN h ((nSp h.ty).take k) pg)).toArray 5 (0, 0))) ∧ w4.grownBy wr (some w1.heap.size)) (fun i _ => n4 - (intOf i).toNat)
      case atStart => exact ⟨0, Nat.zero_le _, rfl, ⟨by rw [List.take_zero]; exact Q4.out⟩, grown_of (.refl _ _) _⟩
      case round =>
        obtain ⟨k, hk, rfl, Hq, hgr⟩ := hrel
        have hn3 := Hn4.out
        by_cases hlt : k < n4
        · obtain ⟨s, Hs⟩ : ∃ s, Au ((nSp h.ty)[k]? = some s) := ⟨_, ⟨List.getElem?_eq_getElem (by rw [nSp_len, ← hn3]; exact hlt)⟩⟩
          have hfr := fresh_grown Hf4.out hgr (by omega)
          have hcs := hfr.now
          rw [nSp_cells] at hcs
          obtain ⟨b, o, rfl, d0, d1, d2⟩ := place_cells hcs Hs.out
          obtain ⟨hi3, hi11, hi8, hat, hwd⟩ := nSp_mem Hs.out
          have hgb := blk_grown G4.out hgr (by simp; omega)
          have hsb := blk_grown S4.out hgr (by simp)
          have htx := hd_numb_cell hgb hi3 hi11 hi8
          have hss := blk_cell (cs := [_]) hsb 0 rfl
          have htk := take_foldl (fun pg (s : Sp) => splice pg s.at_ (numB h s)) Hs.out pg
          have hRx := Hr.out.numb s.ix
          have hok : numbOk h s = true := by
            have h4 := Hm.out
            simp only [hmay, Bool.and_eq_true, List.all_eq_true] at h4
            exact h4.2 s (List.mem_of_getElem? Hs.out)
          have hnl := numB_len (Option.isSome_iff_exists.1 hok)
          rw [numbOk] at hok
          obtain ⟨y, Hy⟩ := au (numB h s)
          rw [Hy.out] at htk hnl
          rw [numB] at Hy
          obtain ⟨x, Hx⟩ := au (h.numb s.ix)
          rw [Hx.out] at htx hRx hok Hy
          have Htk := Au.mk htk
          have HRx := Au.mk hRx
          have Hok := Au.mk hok
          have Hnl := Au.mk hnl
          have hl5 : (layN h ((nSp h.ty).take k) pg).length = 512 := fold_splice_len _ _ HlW.out fun t ht => by
            have h4 := Hm.out
            simp only [hmay, Bool.and_eq_true, List.all_eq_true] at h4
            have hm4 := List.take_subset _ _ ht
            rw [numB_len (Option.isSome_iff_exists.1 (h4.2 t hm4))]
            exact (nSp_mem (List.mem_iff_getElem?.1 hm4).choose_spec).2.2.2.1
          have Hl5 := Au.mk hl5
          clear hgb hcs hn3 hfr htk hsb hRx hok hnl hl5
          go_wp2_with fail
          generalize hW : World.alloc wr _ = W5
          have f0 : W5.cell? ⟨wr.heap.size, 0, none⟩ = some (.int .i64 s.at_) := by rw [← hW]; exact cell_new (cs := [_, _, _]) 0 rfl
          have f1 : W5.cell? ⟨wr.heap.size, 1, none⟩ = some (.int .i64 s.wide) := by rw [← hW]; exact cell_new (cs := [_, _, _]) 1 rfl
          have f2 : W5.cell? ⟨wr.heap.size, 2, none⟩ = some (.pointer (some ⟨w.heap.size, s.ix, none⟩)) := by rw [← hW]; exact cell_new (cs := [_, _, _]) 2 rfl
          have f3 : W5.cell? ⟨w.heap.size, s.ix, none⟩ = some (.int .i64 x) := by rw [← hW]; exact cell_alloc htx _
          have f4 : W5.cell? ⟨w1.heap.size + 1, 0, none⟩ = some (.slice (some ⟨w1.heap.size, 0, none⟩) 512 512) := by rw [← hW]; exact cell_alloc hss _
          have Hq5 : Au (W5.heap[w1.heap.size]? = some (.cells (bcs (layN h ((nSp h.ty).take k) pg)).toArray 5 (0, 0))) := ⟨by rw [← hW]; exact blk_alloc Hq.out _⟩
          have hgW : w4.grownBy W5 (some w1.heap.size) := by rw [← hW]; exact grown_alloc hgr _
          have hsW : W5.heap.size = wr.heap.size + 1 := by rw [← hW]; simp
          clear hW
          have hlt5 := lt_of_block Hq5.out
          go_region_held3 (fun w' => w'.cell? ⟨wr.heap.size, 1, none⟩ = some (.int .i64 s.wide) ∧ w'.cell? ⟨wr.heap.size, 2, none⟩ = some (.pointer (some ⟨w.heap.size, s.ix, none⟩)) ∧ w'.cell? ⟨w.heap.size, s.ix, none⟩ = some (.int .i64 x)) (go_keep)
            (first | (go_at_call 147; refine (put_view (b := true) Hy.out Hok.out HRx.out _).mono ?_; rintro e w5 ⟨A5, c5, rfl, s5, b5⟩; have g1 := cell_below (w := W5.drew) f1 b5; have g2 := cell_below (w := W5.drew) f2 b5; have g3 := cell_below (w := W5.drew) f3 b5))
          have g0 := cell_below (w := W5.drew) f0 b5
          have g4 := cell_below (w := W5.drew) f4 b5
          have q5 := blk_below (w := W5.drew) Hq5.out b5 hlt5
          have hz5 : w1.heap.size + 1 < W5.drew.heap.size := by
            show w1.heap.size + 1 < W5.heap.size
            have := hgr.size; omega
          go_wp2_with fail
          refine (pput1_calls w1.heap.size _ s.at_ y _ q5 Hl5.out (by have := Hnl.out; omega) s5 (by simp only [Nat.not_le]; omega)).mono ?_
          rintro e w6 ⟨rfl, Hq6, hg6⟩
          go_wp2_with fail
          go_roundw
          case rel =>
            refine ⟨k + 1, by omega, by go_num, ⟨?_⟩, grown_trans (grown_below (grown_drewN hgW 1) b5) hg6⟩
            rw [layN, Htk.out]; exact Hq6.out
          case measure => simp [intOf]; omega
        · obtain rfl : k = n4 := by omega
          rw [List.take_of_length_le (by rw [nSp_len, ← hn3]; exact Nat.le_refl _)] at Hq
          have gb := blk_grown G4.out hgr (by simp; omega)
          have sb := blk_grown S4.out hgr (by simp)
          have hsz := hgr.size
          have hbB : Below w.heap.size w wr := below_of_grown hb4 hgr hb4.size (by omega)
          have hF := layB_of h f
          rw [Hpg.out] at hF
          have hl6 : (layN h (nSp h.ty) pg).length = 512 := fold_splice_len _ _ HlW.out fun t ht => by
            have h4 := Hm.out
            simp only [hmay, Bool.and_eq_true, List.all_eq_true] at h4
            rw [numB_len (Option.isSome_iff_exists.1 (h4.2 t ht))]
            exact (nSp_mem (List.mem_iff_getElem?.1 ht).choose_spec).2.2.2.1
          obtain ⟨pn, Hpn⟩ := au (layN h (nSp h.ty) pg)
          rw [Hpn.out] at Hq hF hl6
          have hty := blk_cell gb 8 rfl
          have hss := blk_cell (cs := [_]) sb 0 rfl
          have HF := Au.mk hF
          have Hl6 := Au.mk hl6
          clear gb sb hn3 hF hl6
          go_wp2_with fail
          have hlt6 := lt_of_block Hq.out
          refine (ty_put w1.heap.size pn h.ty wr Hq.out Hl6.out).mono ?_
          rintro e w6 ⟨rfl, Hq6, hg6⟩
          have hn33 : w1.heap.size + 1 ≠ w1.heap.size := by omega
          have hn22 : w.heap.size ≠ w1.heap.size := by omega
          have hss6 := cell_grown hss hg6 hn33
          have hl7 : (splice pn 156 [h.ty]).length = 512 := by rw [splice_length _ _ _ (by have := Hl6.out; simp; omega)]; exact Hl6.out
          have hb6 : Below w.heap.size w w6 := below_of_grown hbB hg6 hbB.size (by omega)
          have hz6 := hg6.size
          go_wp2_with fail
          refine (ustar_put w1.heap.size _ w6 Hq6.out hl7).mono ?_
          rintro e w7 ⟨rfl, Hq7, hg7⟩
          have hss7 := cell_grown hss6 hg7 hn33
          rw [HF.out] at Hq7
          have hb7 : Below w.heap.size w w7 := below_of_grown hb6 hg7 hb6.size (by omega)
          have hz7 := hg7.size
          have hl8 := layB_length h f (zeros 8) rfl
          have Hl8 := Au.mk hl8
          have hlt7 := lt_of_block Hq7.out
          have hsg : sgn (layB h (zeros 8)) = sgn (layB h (zeros 8)) := rfl
          clear hl8 hss hss6
          obtain ⟨sg, Hsg⟩ := au (sgn (layB h (zeros 8)))
          have Hsgl : Au (sg.length = 8) := ⟨by rw [← Hsg.out]; exact sgn_length _⟩
          go_wp2_with fail
          go_region_held_law (fun w' => w'.cell? ⟨w1.heap.size + 1, 0, none⟩ = some (.slice (some ⟨w1.heap.size, 0, none⟩) 512 512)) (go_keep)
            (first | (go_at_call 96; refine (ssum_calls _ Hl8.out Hsg.out _ (blk_sl (w := w7.drew) Hq7.out Hl8.out (by decide)) rfl).mono ?_; rintro e w8 ⟨B8, d8, rfl, s8, b8⟩; have k8 := cell_below (w := w7.drew) hss7 b8) | (go_at_call 149; refine (pput1_calls w1.heap.size _ 148 sg _ (blk_below (w := w7.drew) Hq7.out b8 hlt7) Hl8.out (by have := Hsgl.out; omega) s8 (by simp only [Nat.not_le]; exact hlt7)).mono ?_; rintro e w9 ⟨rfl, Hq9, hg9⟩; have k9 := cell_grown k8 hg9 hn33))
          go_wp2_with fail
          go_ret2
          have hb8 : Below w.heap.size w w8 := (below_drewN hb7 1).trans (b8.mono (below_drewN hb7 1).size)
          have hb9 : Below w.heap.size w w9 := below_of_grown hb8 hg9 hb8.size (by omega)
          have hpp : splice (layB h (zeros 8)) 148 sg = p := by rw [layB_sum h f _ _ Hsgl.out (zeros_length 8), ← Hsg.out, ← Hp.out]; rfl
          rw [hpp] at Hq9
          have hlp : p.length = 512 := by rw [← Hp.out]; exact blockOf_length h f
          refine ⟨some ⟨w1.heap.size, 0, none⟩, 512, by rw [hlp]; rfl, (blk_sl Hq9.out hlp (by decide)).mono (by intro k hk; omega), hb9⟩

theorem hput_view (h : Hd) (hr : h.R) {p : List UInt8} {b : Bool} (hp : (hput h).getD [] = p) (hb : (hput h).isSome = b) (w : World) :
    Calls Tryz.prog 101 #[h.agg] w fun e w' => ∃ A c, e = .returned (.tuple #[.slice A p.length c, .bool b]) ∧ Sl Kd.byte w' (fun k => w.heap.size ≤ k) A c p ∧ Below w.heap.size w w' := by
  subst hp hb
  cases hm : hmay h with
  | true =>
    have e : hput h = some (blockOf h) := by simp [hput, hm]
    rw [e]
    exact hput_walk h hr ((fits_iff h).1 hm) rfl w
  | false =>
    have e : hput h = none := by simp [hput, hm]
    rw [e]
    exact (hput_no h hr hm w).mono fun e w' ⟨h1, h2⟩ => ⟨none, 0, h1, Sl.nil _ _ _, h2⟩
end Go.Proofs.YtldhcknjpmbgnaaGreatDoor.Rk
/- The header of a block: what head.Get computes; slices cut. -/
namespace Go.Proofs.YtldhcknjpmbgnaaGreatDoor.Rk
open Go.RowKit
set_option linter.unusedVariables false
set_option linter.unusedSimpArgs false

def Hd.setText (h : Hd) (i : Nat) (x : List UInt8) : Hd := match i with
  | 0 => { h with name := x }
  | 1 => { h with pre := x }
  | _ => { h with link := x }
def Hd.setNumb (h : Hd) (i : Nat) (x : Int) : Hd := match i with
  | 3 => { h with mode := x }
  | 4 => { h with uid := x }
  | 5 => { h with gid := x }
  | 6 => { h with size := x }
  | 7 => { h with mtime := x }
  | 9 => { h with off := x }
  | _ => { h with real := x }
theorem setText_cells (h : Hd) {i : Nat} (hi : i < 3) (x : List UInt8) : (h.setText i x).cells = h.cells.set i (.string (ofL x)) := by
  match i, hi with
  | 0, _ => rfl
  | 1, _ => rfl
  | 2, _ => rfl
theorem setNumb_cells (h : Hd) {i : Nat} (h3 : 3 ≤ i) (h11 : i < 11) (h8 : i ≠ 8) (x : Int) : (h.setNumb i x).cells = h.cells.set i (.int .i64 x) := by
  match i, h3, h11, h8 with
  | 3, _, _, _ => rfl
  | 4, _, _, _ => rfl
  | 5, _, _, _ => rfl
  | 6, _, _, _ => rfl
  | 7, _, _, _ => rfl
  | 9, _, _, _ => rfl
  | 10, _, _, _ => rfl
theorem setText_ty (h : Hd) (i : Nat) (x : List UInt8) : (h.setText i x).ty = h.ty := by unfold Hd.setText; split <;> rfl
theorem setNumb_ty (h : Hd) (i : Nat) (x : Int) : (h.setNumb i x).ty = h.ty := by unfold Hd.setNumb; split <;> rfl
def hd0 : Hd := ⟨[], [], [], 0, 0, 0, 0, 0, 0, 0, 0⟩
def piece (b : List UInt8) (s : Sp) : List UInt8 := (b.drop s.at_).take s.wide
def guessW (b : List UInt8) (l : List Sp) (h : Hd) : Hd := l.foldl (fun h s => h.setText s.ix (upto (piece b s))) h
def guessN (b : List UInt8) (l : List Sp) (h : Hd) : Hd := l.foldl (fun h s => h.setNumb s.ix ((get (piece b s)).getD 0)) h
def tyOf (b : List UInt8) : UInt8 := (b[156]?).getD 0
def guess (b : List UInt8) : Hd := guessN b (nSp (tyOf b)) (guessW b (wSp (tyOf b)) { hd0 with ty := tyOf b })
/-- The header of a block, or why not. -/
def hget (b : List UInt8) : Hd × Int :=
  if b.length ≠ 512 then (hd0, 1)
  else if isZero b then (hd0, 4)
  else if ((b.drop 148).take 8 == sgn b) = false then (hd0, 3)
  else if hput (guess b) = some b then (guess b, 0) else (hd0, 2)
theorem fold_ty {f : Hd → Sp → Hd} (hf : ∀ h s, (f h s).ty = h.ty) : ∀ (l : List Sp) (h : Hd), (l.foldl f h).ty = h.ty
  | [], h => rfl
  | s :: l, h => (fold_ty hf l (f h s)).trans (hf h s)
theorem guess_ty (b : List UInt8) : (guess b).ty = tyOf b := by
  unfold guess guessN guessW
  rw [fold_ty (fun h s => setNumb_ty _ _ _), fold_ty (fun h s => setText_ty _ _ _)]
theorem fold_R {f : Hd → Sp → Hd} (hf : ∀ h s, h.R → (f h s).R) : ∀ (l : List Sp) (h : Hd), h.R → (l.foldl f h).R
  | [], h, hr => hr
  | s :: l, h, hr => fold_R hf l (f h s) (hf h s hr)
theorem setText_R (h : Hd) (i : Nat) (x : List UInt8) (hr : h.R) : (h.setText i x).R := by unfold Hd.setText; split <;> exact hr
theorem setNumb_R (h : Hd) (i : Nat) (x : Int) (hx : R64 x) (hr : h.R) : (h.setNumb i x).R := by
  obtain ⟨h1, h2, h3, h4, h5, h6, h7⟩ := hr
  unfold Hd.setNumb; split <;> simp only [Hd.R] <;> refine ⟨?_, ?_, ?_, ?_, ?_, ?_, ?_⟩ <;> assumption
theorem guess_R (b : List UInt8) : (guess b).R := by
  unfold guess guessN guessW
  refine fold_R (fun h s hr => setNumb_R _ _ _ (get_R64 _) hr) _ _ (fold_R (fun h s hr => setText_R _ _ _ hr) _ _ ?_)
  have z : R64 0 := ⟨by decide, by decide⟩
  exact ⟨z, z, z, z, z, z, z⟩
/-- A slice cut out of one. -/
theorem Sl.cut {α : Type} {d : Kd α} {w : World} {F : Nat → Prop} {b o c : Nat} {l : List α} (h : Sl d w F (some ⟨b, o, none⟩) c l) (p n m : Nat) (hp : p + n ≤ l.length) (hm : n ≤ m) (hm2 : m ≤ 9223372036854775807) :
    Sl d w F (some ⟨b, o + p * d.sz, none⟩) m ((l.drop p).take n) := by
  obtain ⟨h1, h2, vs, hv⟩ := h
  refine ⟨by rw [List.length_take]; omega, hm2, (vs.drop (p * d.sz)).take (n * d.sz), fun W hW => ?_⟩
  obtain ⟨hc, hr⟩ := hv W hW
  exact ⟨(hc.drop (p * d.sz)).take (n * d.sz), (hr.drop p).take n⟩
theorem byte_cut {w : World} {F : Nat → Prop} {b o c : Nat} {l : List UInt8} (h : Sl Kd.byte w F (some ⟨b, o, none⟩) c l) (p n m : Nat) (hp : p + n ≤ l.length) (hm : n ≤ m) (hm2 : m ≤ 9223372036854775807) :
    Sl Kd.byte w F (some ⟨b, o + p, none⟩) m ((l.drop p).take n) := by
  have := h.cut p n m hp hm hm2
  simpa [Kd.byte, Kd.one1, Kd.flat] using this
theorem piece_len {b : List UInt8} (hb : b.length = 512) {s : Sp} (h : s.at_ + s.wide ≤ 512) : (piece b s).length = s.wide := by
  unfold piece; rw [List.length_take, List.length_drop]; omega
end Go.Proofs.YtldhcknjpmbgnaaGreatDoor.Rk
/- head.Get: the walk. -/
namespace Go.Proofs.YtldhcknjpmbgnaaGreatDoor.Rk
open Go.RowKit
set_option linter.unusedVariables false
set_option linter.unusedSimpArgs false

theorem ret_head {fn : Func} (hfn : fn.results = #[.cell 2 104, .tmp 3]) {R : Ending → World → Prop} {w : World} {h : Hd} {g : Nat} {n : Int} {a : Act} (hg : w.heap[g]? = some (.cells h.cells.toArray 104 (0, 0)))
    (t2 : a.tmps.getD 2 undef = .pointer (some ⟨g, 0, none⟩)) (t3 : a.tmps.getD 3 undef = .int .i64 n) (hd : a.defers = [])
    (hR : R (.returned (.tuple #[h.agg, .int .i64 n])) w) : bodyPost Tryz.prog fn R .ret a w := by
  refine bodyPost_ret (v := .tuple #[h.agg, .int .i64 n]) ?_ hd hR
  rw [results_cell_tmp hfn, t2, t3]
  have hp := run_loadVar_row (P := Tryz.prog) w g 104 104 h.cells.toArray (0, 0) _ hg Tryz.underlying104 rfl (by kernel_rfl)
  simp [asAddr, hp, Result.andThen]
  rfl

theorem head_one (h : Hd) : h.cells.toArray.all (·.oneCell') = true := by simp [Hd.cells, Value.oneCell']
/-- A header laid into a variable. -/
theorem wpList_store_head {ops : Array Oper} {rest : List Oper} {o : Oper} {a : Act} {w : World} {Q : Exit → Act → World → Prop} (hgd : o.guard = none) (x y : Operand) (ho : o.op = .store 104 x y)
    (g : Nat) (h old : Hd) (hx : a.eval x = .pointer (some ⟨g, 0, none⟩)) (hy : a.eval y = h.agg) (hg : w.heap[g]? = some (.cells old.cells.toArray 104 (0, 0)))
    (k : ∀ w', Au (w'.heap[g]? = some (.cells h.cells.toArray 104 (0, 0))) → w.grownBy w' (some g) → wpList Tryz.prog ops Q rest (a.put o.dst undef) w') : wpList Tryz.prog ops Q (o :: rest) a w := by
  refine wpList_store_row hgd 104 x y ho g h.cells.toArray hx hy 104 old.cells.toArray hg (by kernel_rfl) rfl (head_one h) (k _ ⟨setRow_heap w g _ _ _ _ hg⟩ ?_)
  exact ⟨rfl, rfl, rfl, by rw [size_setRow]; exact Nat.le_refl _, fun i hi hne => setRow_other w g i _ (by rintro rfl; exact hne rfl)⟩
theorem bequal_is {l m : List UInt8} {n k : Nat} {r : Bool} (hn : l.length = n) (hk : m.length = k) (hr : (l == m) = r) {A B : Option Addr} {c d : Nat} {F G : Nat → Prop} {w : World} (ha : Sl Kd.byte w F A c l) (hb : Sl Kd.byte w G B d m) :
    Calls Tryz.prog 62 #[.slice A n c, .slice B k d] w fun e w' => e = .returned (.bool r) ∧ w = w' := by
  subst hn hk hr
  exact bequal_calls l m A B c d F G w ha hb
theorem get_no1 (l : List UInt8) {A : Option Addr} {c : Nat} {F : Nat → Prop} (w : World) (ha : Sl Kd.byte w F A c l) (hl : ¬ l.length = 512) :
    Calls Tryz.prog 57 #[.slice A l.length c] w fun e w' => e = .returned (.tuple #[hd0.agg, .int .i64 1]) ∧ Below w.heap.size w w' := by
  have c1 : ((l.length : Int) != 512) = true := by simp; omega
  have hb0 := Below.refl w.heap.size w
  clear hl
  go_enter Tryz.func57, Tryz.ntmps57
  go_wp2_with fail
  ((try simp only [Exit.inBlock, Exit.then]); refine ret_head rfl (heap_alloc_new w (.cells hd0.cells.toArray 104)) rfl rfl rfl ?_)
  exact ⟨rfl, hb0.alloc (Nat.le_refl _) _⟩
theorem get_no4 (l : List UInt8) {A : Option Addr} {c : Nat} {F : Nat → Prop} (w : World) (ha : Sl Kd.byte w F A c l) (hl : l.length = 512) (hz : isZero l = true) :
    Calls Tryz.prog 57 #[.slice A l.length c] w fun e w' => e = .returned (.tuple #[hd0.agg, .int .i64 4]) ∧ Below w.heap.size w w' := by
  have c1 : ((l.length : Int) != 512) = false := by simp [hl]
  have hb0 := Below.refl w.heap.size w
  have Hz := Au.mk hz
  have Hl := Au.mk hl
  clear hl hz
  go_enter Tryz.func57, Tryz.ntmps57
  go_wp2_with fail
  refine (zero_calls l _ _ _ _ (ha.alloc _)).mono ?_
  rintro e w1 ⟨rfl, rfl⟩
  rw [Hz.out]
  go_wp2_with fail
  ((try simp only [Exit.inBlock, Exit.then]); refine ret_head rfl (heap_alloc_new w (.cells hd0.cells.toArray 104)) rfl rfl rfl ?_)
  exact ⟨rfl, hb0.alloc (Nat.le_refl _) _⟩
set_option maxHeartbeats 2000000 in
theorem get_no3 (l : List UInt8) {b o : Nat} {c : Nat} {F : Nat → Prop} (w : World) (ha : Sl Kd.byte w F (some ⟨b, o, none⟩) c l) (hl : l.length = 512) (hz : isZero l = false) (hs : ((l.drop 148).take 8 == sgn l) = false) :
    Calls Tryz.prog 57 #[.slice (some ⟨b, o, none⟩) l.length c] w fun e w' => e = .returned (.tuple #[hd0.agg, .int .i64 3]) ∧ Below w.heap.size w w' := by
  have c1 : ((l.length : Int) != 512) = false := by simp [hl]
  have hb0 := Below.refl w.heap.size w
  have hcap := ha.1
  have hcap2 := ha.2.1
  have hc5 : 512 ≤ c := by omega
  have hcut := byte_cut ha 148 8 (c - 148) (by omega) (by omega) (by omega)
  have hln : ((l.drop 148).take 8).length = 8 := by simp; omega
  obtain ⟨q, Hq⟩ := au ((l.drop 148).take 8)
  rw [Hq.out] at hs hcut hln
  obtain ⟨sg, Hsg⟩ := au (sgn l)
  rw [Hsg.out] at hs
  have Hz := Au.mk hz
  have Hl := Au.mk hl
  have Hs := Au.mk hs
  have Hln := Au.mk hln
  clear hl hz hs hcap hln
  go_enter Tryz.func57, Tryz.ntmps57
  go_wp2_with fail
  refine (zero_calls l _ _ _ _ (ha.alloc _)).mono ?_
  rintro e w1 ⟨rfl, rfl⟩
  rw [Hz.out]
  go_wp2_with fail
  generalize hW : World.alloc (World.alloc w _) _ = W5
  have g0 : W5.heap[w.heap.size]? = some (.cells hd0.cells.toArray 104 (0, 0)) := by rw [← hW]; exact blk_alloc (heap_alloc_new _ _) _
  have f4 : W5.cell? ⟨w.heap.size + 1, 0, none⟩ = some (.slice (some ⟨b, o, none⟩) l.length c) := by
    rw [← hW]
    have := cell_new (w := w.alloc (.cells hd0.cells.toArray 104)) (cs := [.slice (some ⟨b, o, none⟩) l.length c]) (t := 152) 0 rfl
    rw [World.size_alloc] at this
    exact this
  have hbW : Below w.heap.size w W5 := by rw [← hW]; exact (hb0.alloc (Nat.le_refl _) _).alloc (by simp) _
  clear hW
  have ha5 := ha.below hbW
  have hcut5 := hcut.below hbW
  have h156 : (156 : Int) ≤ c := by omega
  have G0 := Au.mk g0
  clear g0
  go_region_held_law (fun w' => w'.cell? ⟨w.heap.size + 1, 0, none⟩ = some (.slice (some ⟨b, o, none⟩) l.length c)) (go_keep)
    (first | (go_at_call 96; refine (ssum_calls l rfl Hsg.out _ (ha5.drewN 1) Hl.out).mono ?_; rintro e w8 ⟨B8, d8, rfl, s8, b8⟩; have k8 := cell_below (w := W5.drew) f4 b8) | (go_at_call 62; refine (bequal_is Hln.out rfl Hs.out ((hcut5.drewN 1).below b8) s8).mono ?_; rintro e w9 ⟨rfl, rfl⟩))
  have G9 := blk_below (w := W5.drew) G0.out b8 (lt_of_block G0.out)
  have hb8 : Below w.heap.size w w8 := (below_drewN hbW 1).trans (b8.mono (below_drewN hbW 1).size)
  have H9 := Au.mk G9
  clear G9
  go_wp2_with (first | (with_reducible refine wpList_store_head (o := ⟨none, .store 104 (.tmp 2) (.tmp 33), _, _, _, _⟩) rfl (.tmp 2) (.tmp 33) rfl w.heap.size hd0 hd0 ?a1 ?a2 H9.out ?a3))
  case a1 => rfl
  case a2 => rfl
  intro w' Hw' hg'
  go_wp2_with fail
  ((try simp only [Exit.inBlock, Exit.then]); refine ret_head rfl Hw'.out rfl rfl rfl ?_)
  exact ⟨rfl, below_of_grown hb8 hg' hb8.size (Nat.le_refl _)⟩
end Go.Proofs.YtldhcknjpmbgnaaGreatDoor.Rk
/- head.Get: the walk through the loops. -/
namespace Go.Proofs.YtldhcknjpmbgnaaGreatDoor.Rk
open Go.RowKit
set_option linter.unusedVariables false
set_option linter.unusedSimpArgs false

theorem setCell_grown {w : World} {g j : Nat} (v : Value) (hg : g < w.heap.size) : w.grownBy (w.setCell ⟨g, j, none⟩ v) (some g) := grown_set (.refl w _) (.inl rfl) v
theorem take_fold {α β : Type} (f : β → α → β) {l : List α} {k : Nat} {s : α} (hk : l[k]? = some s) (b : β) : (l.take (k + 1)).foldl f b = f ((l.take k).foldl f b) s := take_foldl f hk b
theorem cut0_is {l : List UInt8} {n : Nat} (hn : l.length = n) {A B : Option Addr} {c d : Nat} {F G : Nat → Prop} {w : World} (ha : Sl Kd.byte w F A c l) (hb : Sl Kd.byte w G B d [0]) :
    Calls Tryz.prog 98 #[.slice A n c, .slice B 1 d] w fun e w' => ∃ v b, e = .returned (.tuple #[.slice A (upto l).length c, v, .bool b]) ∧ Drawn w w' := by
  subst hn; exact cut0_calls l A B c d F G w ha hb

theorem get_is {l : List UInt8} {m : Nat} (hm : l.length = m) {n : Int} {b : Bool} (hn : (get l).getD 0 = n) (hb : (get l).isSome = b) {A : Option Addr} {c : Nat} {F : Nat → Prop} {w : World} (ha : Sl Kd.byte w F A c l) :
    Calls Tryz.prog 100 #[.slice A m c] w fun e w' => e = .returned (.tuple #[.int .i64 n, .bool b]) ∧ Below w.heap.size w w' := by
  subst hm; exact get_view hn hb ha


set_option maxHeartbeats 1000000 in
theorem get_walk (l : List UInt8) {b o : Nat} {c : Nat} {F : Nat → Prop} (w : World) (ha : Sl Kd.byte w F (some ⟨b, o, none⟩) c l) (hl : l.length = 512) (hz : isZero l = false) (hs : ((l.drop 148).take 8 == sgn l) = true) {r : Hd} {er : Int}
    (hr : (if hput (guess l) = some l then (guess l, 0) else (hd0, 2)) = (r, er)) :
    Calls Tryz.prog 57 #[.slice (some ⟨b, o, none⟩) l.length c] w fun e w' => e = .returned (.tuple #[r.agg, .int .i64 er]) ∧ Below w.heap.size w w' := by
  have c1 : ((l.length : Int) != 512) = false := by simp [hl]
  have hb0 := Below.refl w.heap.size w
  have hcap := ha.1
  have hcap2 := ha.2.1
  have hc5 : 512 ≤ c := by omega
  have hcut := byte_cut ha 148 8 (c - 148) (by omega) (by omega) (by omega)
  have hln : ((l.drop 148).take 8).length = 8 := by simp; omega
  obtain ⟨q, Hq⟩ := au ((l.drop 148).take 8)
  rw [Hq.out] at hs hcut hln
  obtain ⟨sg, Hsg⟩ := au (sgn l)
  rw [Hsg.out] at hs
  have hl156 : 156 < l.length := by omega
  have hty : tyOf l = l[156] := by simp [tyOf, hl156]
  have hby := fun W (hW : Below w.heap.size w W) => (ha.below hW).byte_at 156 hl156
  have hby2 : ∀ W, Below w.heap.size w W → W.cell? ⟨b, o + 156, none⟩ = some (.int .u8 (tyOf l).toNat) := fun W hW => by
    obtain ⟨b', o', e, h⟩ := hby W hW
    injection e with e; injection e with e1 e2; subst e1 e2
    rw [hty]; exact h
  obtain ⟨ty, Hty⟩ := au (tyOf l)
  rw [Hty.out] at hby2
  have Hz := Au.mk hz
  have Hl := Au.mk hl
  have Hs := Au.mk hs
  have Hln := Au.mk hln
  have Hr := Au.mk hr
  clear hl hz hs hcap hln hr hby hty
  go_enter Tryz.func57, Tryz.ntmps57
  go_wp2_with fail
  refine (zero_calls l _ _ _ _ (ha.alloc _)).mono ?_
  rintro e w1 ⟨rfl, rfl⟩
  rw [Hz.out]
  go_wp2_with fail
  generalize hW : World.alloc (World.alloc w _) _ = W5
  have g0 : W5.heap[w.heap.size]? = some (.cells hd0.cells.toArray 104 (0, 0)) := by rw [← hW]; exact blk_alloc (heap_alloc_new _ _) _
  have f4 : W5.cell? ⟨w.heap.size + 1, 0, none⟩ = some (.slice (some ⟨b, o, none⟩) l.length c) := by
    rw [← hW]
    have := cell_new (w := w.alloc (.cells hd0.cells.toArray 104)) (cs := [.slice (some ⟨b, o, none⟩) l.length c]) (t := 152) 0 rfl
    rw [World.size_alloc] at this
    exact this
  have hbW : Below w.heap.size w W5 := by rw [← hW]; exact (hb0.alloc (Nat.le_refl _) _).alloc (by simp) _
  clear hW
  have ha5 := ha.below hbW
  have hcut5 := hcut.below hbW
  have h156 : (156 : Int) ≤ c := by omega
  have G0 := Au.mk g0
  clear g0
  go_region_held_law (fun w' => w'.cell? ⟨w.heap.size + 1, 0, none⟩ = some (.slice (some ⟨b, o, none⟩) l.length c)) (go_keep)
    (first | (go_at_call 96; refine (ssum_calls l rfl Hsg.out _ (ha5.drewN 1) Hl.out).mono ?_; rintro e w8 ⟨B8, d8, rfl, s8, b8⟩; have k8 := cell_below (w := W5.drew) f4 b8) | (go_at_call 62; refine (bequal_is Hln.out rfl Hs.out ((hcut5.drewN 1).below b8) s8).mono ?_; rintro e w9 ⟨rfl, rfl⟩))
  have G9 := blk_below (w := W5.drew) G0.out b8 (lt_of_block G0.out)
  have hb8 : Below w.heap.size w w8 := (below_drewN hbW 1).trans (b8.mono (below_drewN hbW 1).size)
  have H9 := Au.mk G9
  have hb156 := hby2 w8 hb8
  clear G9
  go_wp2_with fail
  have g0 : (w8.alloc (.cells ({ hd0 with ty := ty } : Hd).cells.toArray 104)).heap[w8.heap.size]? = some (.cells ({ hd0 with ty := ty } : Hd).cells.toArray 104 (0, 0)) := heap_alloc_new _ _
  refine (words_calls w8.heap.size ty _ (blk_cell g0 8 rfl)).mono ?_
  rintro e w3 ⟨A, c', n, rfl, Hn2, hf, b3⟩
  have g3 := blk_below g0 b3 (lt_of_block g0)
  have r3 := blk_below (blk_alloc H9.out (.cells ({ hd0 with ty := ty } : Hd).cells.toArray 104)) b3 (lt_of_block (blk_alloc H9.out _))
  have hb3 : Below w.heap.size w w3 := (hb8.alloc hb8.size _).trans (b3.mono (by rw [World.size_alloc]; have := hb8.size; omega))
  have hlt3 : w8.heap.size < w3.heap.size := lt_of_block g3
  have hlt8 : w.heap.size < w8.heap.size := lt_of_block H9.out
  have hn5 : n < 4 := by rw [Hn2.out, wordsN]; split <;> decide
  have G3 := Au.mk g3
  have R3 := Au.mk r3
  have Hf := Au.mk hf
  clear g0 g3 r3 hf b3
  go_wp2_with fail
  go_loopw [40] (fun i wr => ∃ k : Nat, k ≤ n ∧ i = .int .i64 k ∧ Au (wr.heap[w8.heap.size]? = some (.cells (guessW l ((wSp ty).take k) { hd0 with ty := ty }).cells.toArray 104 (0, 0))) ∧ w3.grownBy wr (some w8.heap.size)) (fun i _ => n - (intOf i).toNat)
  case atStart => exact ⟨0, Nat.zero_le _, rfl, ⟨by rw [List.take_zero]; exact G3.out⟩, grown_of (.refl _ _) _⟩
  case round =>
    obtain ⟨k, hk, rfl, Hq2, hgr⟩ := hrel
    have hn3 := Hn2.out
    by_cases hlt : k < n
    · obtain ⟨s, Hs2⟩ : ∃ s, Au ((wSp ty)[k]? = some s) := ⟨_, ⟨List.getElem?_eq_getElem (by rw [wSp_len, ← hn3]; exact hlt)⟩⟩
      have hfr := fresh_grown Hf.out hgr (by rw [World.size_alloc]; omega)
      have hcs := hfr.now
      rw [wSp_cells] at hcs
      obtain ⟨b', o', rfl, d0, d1, d2⟩ := place_cells hcs Hs2.out
      obtain ⟨hix, hat⟩ := wSp_mem Hs2.out
      have hbr : Below w.heap.size w wr := below_of_grown hb3 hgr hb3.size (by omega)
      have hfold := take_foldl (fun (h : Hd) (s : Sp) => h.setText s.ix (upto (piece l s))) Hs2.out { hd0 with ty := ty }
      obtain ⟨hd, Hhd⟩ := au (guessW l ((wSp ty).take k) { hd0 with ty := ty })
      rw [Hhd.out] at Hq2
      have Hfold := Au.mk hfold
      have hpl := piece_len Hl.out hat
      have hpc := byte_cut (ha.below hbr) s.at_ s.wide (c - s.at_) (by have := Hl.out; omega) (by omega) (by omega)
      have hpe : (l.drop s.at_).take s.wide = piece l s := rfl
      rw [hpe] at hpc
      obtain ⟨pc, Hpc⟩ := au (piece l s)
      rw [Hpc.out] at hpc hpl
      have Hpl := Au.mk hpl
      have hbd : (s.at_ : Int) + s.wide ≤ c := by omega
      have hw0 : s.wide < 512 ∧ 0 < s.wide := by
        have := List.mem_of_getElem? Hs2.out
        unfold wSp at this; split at this <;> simp at this <;> (rcases this with rfl | rfl | rfl <;> decide) <;> (rcases this with rfl | rfl <;> decide)
      have hsc : s.at_ ≠ c := by omega
      clear hcs hn3 hfr hfold hpl hpe
      go_wp2_with fail
      generalize hW : World.alloc wr _ = W6
      have f0 : W6.cell? ⟨wr.heap.size, 0, none⟩ = some (.int .i64 s.at_) := by rw [← hW]; exact cell_new (cs := [_, _, _]) 0 rfl
      have f1 : W6.cell? ⟨wr.heap.size, 1, none⟩ = some (.int .i64 s.wide) := by rw [← hW]; exact cell_new (cs := [_, _, _]) 1 rfl
      have f2 : W6.cell? ⟨wr.heap.size, 2, none⟩ = some (.pointer (some ⟨w8.heap.size, s.ix, none⟩)) := by rw [← hW]; exact cell_new (cs := [_, _, _]) 2 rfl
      have hpc6 := hpc.alloc (.cells #[.int .i64 s.at_, .int .i64 s.wide, .pointer (some ⟨w8.heap.size, s.ix, none⟩)] 159)
      have Hq6 : Au (W6.heap[w8.heap.size]? = some (.cells hd.cells.toArray 104 (0, 0))) := ⟨by rw [← hW]; exact blk_alloc Hq2.out _⟩
      have hgW : w3.grownBy W6 (some w8.heap.size) := by rw [← hW]; exact grown_alloc hgr _
      rw [hW] at hpc6
      have hsW : W6.heap.size = wr.heap.size + 1 := by rw [← hW]; simp
      clear hW
      have hz7 := new_sl W6 [0] 5 (n := 1) rfl (by decide)
      have hp7 := hpc6.alloc (.cells (bcs [0]).toArray 5)
      rw [hsW] at hz7
      have HsW := Au.mk hsW
      clear hsW
      refine (cut0_is Hpl.out hp7 hz7).mono ?_
      rintro e w4 ⟨v4, t4, rfl, ⟨nd, rfl⟩⟩
      have hup : upto pc = pc.take (upto pc).length := upto_take pc
      have hul := upto_le pc
      have hp9 := (hp7.drewN nd).cut 0 (upto pc).length (c - s.at_) (by omega) (by have := Hpl.out; omega) (by omega)
      rw [List.drop_zero, ← hup, Nat.zero_mul, Nat.add_zero] at hp9
      have hst := str_of hp9
      have Hb9 := Au.mk (blk_alloc Hq6.out (.cells (bcs [0]).toArray 5))
      have hc9 := hd_text_cell Hb9.out hix
      have hfz := blk_free Hb9.out s.ix
      have x0 := cell_alloc f2 (.cells (bcs [0]).toArray 5)
      obtain ⟨up, Hup⟩ := au (upto pc)
      rw [Hup.out] at hst hp9 hul ⊢
      clear hup
      go_wp2_with fail
      refine ⟨⟨k + 1, by omega, by go_num, ⟨?_⟩, ?_⟩, by simp [intOf]; omega⟩
      · rw [guessW, Hfold.out, Hpc.out, Hup.out]
        have e1 : List.foldl (fun (h : Hd) (s : Sp) => h.setText s.ix (upto (piece l s))) { hd0 with ty := ty } ((wSp ty).take k) = hd := Hhd.out
        rw [e1, setText_cells hd hix]
        exact blk_set (w := (W6.alloc (.cells (bcs [0]).toArray 5)).drewN nd) Hb9.out s.ix _
      · exact grown_set (grown_drewN (grown_alloc hgW _) nd) (.inl rfl) _
    · obtain rfl : k = n := by omega
      rw [List.take_of_length_le (by rw [wSp_len, ← hn3]; exact Nat.le_refl _)] at Hq2
      have rb := blk_grown R3.out hgr (by simp; omega)
      have hbB : Below w.heap.size w wr := below_of_grown hb3 hgr hb3.size (by omega)
      have hsz := hgr.size
      have Rb := Au.mk rb
      have hgt : (guessW l (wSp ty) { hd0 with ty := ty }).ty = ty := by unfold guessW; rw [fold_ty (fun h s => setText_ty _ _ _)]
      obtain ⟨hw, Hhw⟩ := au (guessW l (wSp ty) { hd0 with ty := ty })
      rw [Hhw.out] at Hq2 hgt
      have hct : wr.cell? ⟨w8.heap.size, 8, none⟩ = some (.int .u8 ty.toNat) := by have := blk_cell Hq2.out 8 (v := .int .u8 hw.ty.toNat) rfl; rwa [hgt] at this
      clear rb hn3 hgt
      go_wp2_with fail
      refine (numbers_calls w8.heap.size ty _ hct).mono ?_
      rintro e w4 ⟨A4, c4, n4, rfl, Hn4, hf4, b4⟩
      have q4 := blk_below Hq2.out b4 (lt_of_block Hq2.out)
      have r4 := blk_below Rb.out b4 (lt_of_block Rb.out)
      have hb4 : Below w.heap.size w w4 := hbB.trans (b4.mono hbB.size)
      have hlt4 : w8.heap.size < w4.heap.size := lt_of_block q4
      have hn54 : n4 < 8 := by rw [Hn4.out, spotsN]; split <;> decide
      have hltr : w8.heap.size < wr.heap.size := lt_of_block Hq2.out
      have Q4 := Au.mk q4
      have R4 := Au.mk r4
      have Hf4 := Au.mk hf4
      clear q4 r4 hf4 b4
      go_wp2_with fail
      go_loopw [67] (fun i wr => ∃ k : Nat, k ≤ n4 ∧ i = .int .i64 k ∧ Au (wr.heap[w8.heap.size]? = some (.cells (guessN l ((nSp ty).take k) hw).cells.toArray 104 (0, 0))) ∧ w4.grownBy wr (some w8.heap.size)) (fun i _ => n4 - (intOf i).toNat)
      case atStart => exact ⟨0, Nat.zero_le _, rfl, ⟨by rw [List.take_zero]; exact Q4.out⟩, grown_of (.refl _ _) _⟩
      case round =>
        obtain ⟨k, hk, rfl, Hq2, hgr⟩ := hrel
        have hn3 := Hn4.out
        by_cases hlt : k < n4
        · obtain ⟨s, Hs2⟩ : ∃ s, Au ((nSp ty)[k]? = some s) := ⟨_, ⟨List.getElem?_eq_getElem (by rw [nSp_len, ← hn3]; exact hlt)⟩⟩
          have hfr := fresh_grown Hf4.out hgr hltr
          have hcs := hfr.now
          rw [nSp_cells] at hcs
          obtain ⟨b', o', rfl, d0, d1, d2⟩ := place_cells hcs Hs2.out
          obtain ⟨hi3, hi11, hi8, hat, hwd⟩ := nSp_mem Hs2.out
          have hbr : Below w.heap.size w wr := below_of_grown hb4 hgr hb4.size (by omega)
          have hfold := take_foldl (fun (h : Hd) (s : Sp) => h.setNumb s.ix ((get (piece l s)).getD 0)) Hs2.out hw
          obtain ⟨hd, Hhd⟩ := au (guessN l ((nSp ty).take k) hw)
          rw [Hhd.out] at Hq2
          have Hfold := Au.mk hfold
          have hpl := piece_len Hl.out hat
          have hpc := byte_cut (ha.below hbr) s.at_ s.wide (c - s.at_) (by have := Hl.out; omega) (by omega) (by omega)
          have hpe : (l.drop s.at_).take s.wide = piece l s := rfl
          rw [hpe] at hpc
          obtain ⟨pc, Hpc⟩ := au (piece l s)
          rw [Hpc.out] at hpc hpl
          have Hpl := Au.mk hpl
          have hbd : (s.at_ : Int) + s.wide ≤ c := by omega
          have hw0 : 0 < s.wide := by
            have := List.mem_of_getElem? Hs2.out
            unfold nSp at this
            split at this <;> simp at this
            · rcases this with rfl | rfl | rfl | rfl | rfl | rfl | rfl <;> decide
            · rcases this with rfl | rfl | rfl | rfl | rfl <;> decide
          have hsc : s.at_ ≠ c := by omega
          have hbd0 : (s.at_ : Int) ≤ (s.at_ : Int) + s.wide := by omega
          have hbd1 : IntKind.i64.wrap ((s.at_ : Int) + s.wide) = (s.at_ : Int) + s.wide := by first | (simp [go_sem, IntKind.wrap]; omega) | (unfold IntKind.wrap; simp; omega) | (unfold IntKind.wrap IntKind.bits IntKind.signed; simp; omega)
          have hq1 : ¬ c = s.at_ := by omega
          have hq2 : ((s.at_ : Int) + (s.wide : Int)).toNat - s.at_ = s.wide := by omega
          obtain ⟨x, Hx⟩ := au ((get pc).getD 0)
          obtain ⟨bx, Hbx⟩ := au ((get pc).isSome)
          have hne : wr.heap.size ≠ w8.heap.size := by have := hgr.size; omega
          have hne' : w8.heap.size ≠ wr.heap.size := hne.symm
          clear hcs hn3 hfr hfold hpl hpe
          go_wp2_with fail
          generalize hW : World.alloc wr _ = W6
          have f0 : W6.cell? ⟨wr.heap.size, 0, none⟩ = some (.int .i64 s.at_) := by rw [← hW]; exact cell_new (cs := [_, _, _]) 0 rfl
          have f1 : W6.cell? ⟨wr.heap.size, 1, none⟩ = some (.int .i64 s.wide) := by rw [← hW]; exact cell_new (cs := [_, _, _]) 1 rfl
          have f2 : W6.cell? ⟨wr.heap.size, 2, none⟩ = some (.pointer (some ⟨w8.heap.size, s.ix, none⟩)) := by rw [← hW]; exact cell_new (cs := [_, _, _]) 2 rfl
          have hpc6 := hpc.alloc (.cells #[.int .i64 s.at_, .int .i64 s.wide, .pointer (some ⟨w8.heap.size, s.ix, none⟩)] 166)
          have Hq6 : Au (W6.heap[w8.heap.size]? = some (.cells hd.cells.toArray 104 (0, 0))) := ⟨by rw [← hW]; exact blk_alloc Hq2.out _⟩
          have hgW : w4.grownBy W6 (some w8.heap.size) := by rw [← hW]; exact grown_alloc hgr _
          rw [hW] at hpc6
          clear hW
          go_region_held3 (fun w' => w'.cell? ⟨wr.heap.size, 0, none⟩ = some (.int .i64 s.at_) ∧ w'.cell? ⟨wr.heap.size, 1, none⟩ = some (.int .i64 s.wide) ∧ w'.cell? ⟨wr.heap.size, 2, none⟩ = some (.pointer (some ⟨w8.heap.size, s.ix, none⟩))) (first | go_keep | exact ⟨(World.cell?_setCell_far _ _ _ _ hne').trans k0, (World.cell?_setCell_far _ _ _ _ hne').trans k1, (World.cell?_setCell_far _ _ _ _ hne').trans k2⟩)
            (first | (go_at_call 100; refine (get_is Hpl.out Hx.out Hbx.out (hpc6.drewN 1)).mono ?_; rintro e w5 ⟨rfl, b5⟩; have k0 := cell_below (w := W6.drewN 1) f0 b5; have k1 := cell_below (w := W6.drewN 1) f1 b5; have k2 := cell_below (w := W6.drewN 1) f2 b5; have Hq5 := Au.mk (blk_below (w := W6.drewN 1) Hq6.out b5 (lt_of_block Hq6.out)); have hc5 := hd_numb_cell Hq5.out hi3 hi11 hi8; have hz5 := blk_free Hq5.out s.ix))
          go_wp2_with fail
          refine ⟨⟨k + 1, by omega, by go_num, ⟨?_⟩, ?_⟩, by simp [intOf]; omega⟩
          · rw [guessN, Hfold.out, Hpc.out, Hx.out]
            have e1 : List.foldl (fun (h : Hd) (s : Sp) => h.setNumb s.ix ((get (piece l s)).getD 0)) hw ((nSp ty).take k) = hd := Hhd.out
            rw [e1, setNumb_cells hd hi3 hi11 hi8]
            exact blk_set Hq5.out s.ix _
          · exact grown_set (grown_below (grown_drewN hgW 1) b5) (.inl rfl) _
        · obtain rfl : k = n4 := by omega
          rw [List.take_of_length_le (by rw [nSp_len, ← hn3]; exact Nat.le_refl _)] at Hq2
          have rb := blk_grown R4.out hgr (by simp; omega)
          have hbB : Below w.heap.size w wr := below_of_grown hb4 hgr hb4.size (by omega)
          have hgs : guessN l (nSp ty) hw = guess l := by rw [guess, Hty.out, Hhw.out]
          rw [hgs] at Hq2
          have hR := guess_R l
          obtain ⟨gs, Hgs⟩ := au (guess l)
          rw [Hgs.out] at Hq2 hR
          have hr2 := Hr.out
          rw [Hgs.out] at hr2
          have Hr2 := Au.mk hr2
          have HR := Au.mk hR
          have Rb := Au.mk rb
          have hlw : w.heap.size < wr.heap.size := lt_of_block rb
          obtain ⟨p, Hp⟩ := au ((hput gs).getD [])
          obtain ⟨bb, Hbb⟩ := au ((hput gs).isSome)
          obtain ⟨r2, Hr3⟩ := au (p == l)
          have hgood : (hput gs = some l) = (bb = true ∧ r2 = true) := by
            rw [← Hbb.out, ← Hr3.out, ← Hp.out]
            cases hput gs <;> simp
          have Hgood := Au.mk hgood
          have k0 := blk_cell Hq2.out 0 rfl
          have k1 := blk_cell Hq2.out 1 rfl
          have k2 := blk_cell Hq2.out 2 rfl
          have k3 := blk_cell Hq2.out 3 rfl
          have k4 := blk_cell Hq2.out 4 rfl
          have k5 := blk_cell Hq2.out 5 rfl
          have k6 := blk_cell Hq2.out 6 rfl
          have k7 := blk_cell Hq2.out 7 rfl
          have k8' := blk_cell Hq2.out 8 rfl
          have k9 := blk_cell Hq2.out 9 rfl
          have k10 := blk_cell Hq2.out 10 rfl
          clear hgs hR rb hr2 hgood hn3
          go_wp2_with fail
          refine (hput_view gs HR.out Hp.out Hbb.out _).mono ?_
          rintro e w6 ⟨A6, c6, rfl, s6, b6⟩
          have hb6 : Below w.heap.size w w6 := hbB.trans (b6.mono hbB.size)
          have R6 := Au.mk (blk_below Rb.out b6 (lt_of_block Rb.out))
          have Q6 := Au.mk (blk_below Hq2.out b6 (lt_of_block Hq2.out))
          cases bb
          · go_wp2_with (first | (with_reducible refine wpList_store_head (o := ⟨none, .store 104 (.tmp 2) (.tmp 101), _, _, _, _⟩) rfl (.tmp 2) (.tmp 101) rfl w.heap.size hd0 hd0 ?a1 ?a2 R6.out ?a3))
            case a1 => rfl
            case a2 => rfl
            intro w' Hw' hg'
            go_wp2_with fail
            ((try simp only [Exit.inBlock, Exit.then]); refine ret_head rfl Hw'.out rfl rfl rfl ?_)
            have h2 := Hr2.out
            have h3 : ¬ hput gs = some l := by rw [Hgood.out]; simp
            rw [if_neg h3] at h2
            injection h2 with h4 h5
            subst h4 h5
            exact ⟨rfl, below_of_grown hb6 hg' hb6.size (Nat.le_refl _)⟩
          · go_wp2_with fail
            refine (bequal_is rfl rfl Hr3.out s6 (ha.below hb6)).mono ?_
            rintro e w7 ⟨rfl, rfl⟩
            cases r2
            · go_wp2_with (first | (with_reducible refine wpList_store_head (o := ⟨none, .store 104 (.tmp 2) (.tmp 101), _, _, _, _⟩) rfl (.tmp 2) (.tmp 101) rfl w.heap.size hd0 hd0 ?b1 ?b2 R6.out ?b3))
              case b1 => rfl
              case b2 => rfl
              intro w' Hw' hg'
              go_wp2_with fail
              ((try simp only [Exit.inBlock, Exit.then]); refine ret_head rfl Hw'.out rfl rfl rfl ?_)
              have h2 := Hr2.out
              have h3 : ¬ hput gs = some l := by rw [Hgood.out]; simp
              rw [if_neg h3] at h2
              injection h2 with h4 h5
              subst h4 h5
              exact ⟨rfl, below_of_grown hb6 hg' hb6.size (Nat.le_refl _)⟩
            · have k0 := blk_cell Q6.out 0 rfl
              have k1 := blk_cell Q6.out 1 rfl
              have k2 := blk_cell Q6.out 2 rfl
              have k3 := blk_cell Q6.out 3 rfl
              have k4 := blk_cell Q6.out 4 rfl
              have k5 := blk_cell Q6.out 5 rfl
              have k6 := blk_cell Q6.out 6 rfl
              have k7 := blk_cell Q6.out 7 rfl
              have k8' := blk_cell Q6.out 8 rfl
              have k9 := blk_cell Q6.out 9 rfl
              have k10 := blk_cell Q6.out 10 rfl
              go_wp2_with (first | (with_reducible refine wpList_store_head (o := ⟨none, .store 104 (.tmp 2) (.tmp 102), _, _, _, _⟩) rfl (.tmp 2) (.tmp 102) rfl w.heap.size gs hd0 ?d1 ?d2 R6.out ?d3))
              case d1 => rfl
              case d2 => rfl
              intro w' Hw' hg'
              go_wp2_with fail
              ((try simp only [Exit.inBlock, Exit.then]); refine ret_head rfl Hw'.out rfl rfl rfl ?_)
              have h2 := Hr2.out
              have h3 : hput gs = some l := by rw [Hgood.out]; simp
              rw [if_pos h3] at h2
              injection h2 with h4 h5
              subst h4 h5
              exact ⟨rfl, below_of_grown hb6 hg' hb6.size (Nat.le_refl _)⟩
end Go.Proofs.YtldhcknjpmbgnaaGreatDoor.Rk
/- head.Get: both answers at once. -/
namespace Go.Proofs.YtldhcknjpmbgnaaGreatDoor.Rk
open Go.RowKit
set_option linter.unusedVariables false
set_option linter.unusedSimpArgs false

theorem hget_view (l : List UInt8) {A : Option Addr} {c : Nat} {F : Nat → Prop} {g : Hd} {er : Int} (hg : (hget l).1 = g) (he : (hget l).2 = er) (w : World) (ha : Sl Kd.byte w F A c l) :
    Calls Tryz.prog 57 #[.slice A l.length c] w fun e w' => e = .returned (.tuple #[g.agg, .int .i64 er]) ∧ Below w.heap.size w w' := by
  subst hg he
  by_cases hl : l.length = 512
  · obtain ⟨b, o, rfl⟩ := ha.addr (by decide) (by rintro rfl; simp at hl)
    cases hz : isZero l with
    | true =>
      have e : hget l = (hd0, 4) := by simp [hget, hl, hz]
      rw [e]
      exact get_no4 l w ha hl hz
    | false =>
      cases hs : ((l.drop 148).take 8 == sgn l) with
      | false =>
        have e : hget l = (hd0, 3) := by simp only [hget, hl, hz, hs]; rfl
        rw [e]
        exact get_no3 l w ha hl hz hs
      | true =>
        have e : hget l = (if hput (guess l) = some l then (guess l, 0) else (hd0, 2)) := by simp only [hget, hl, hz, hs]; rfl
        rw [e]
        exact get_walk l w ha hl hz hs rfl
  · have e : hget l = (hd0, 1) := by simp [hget, hl]
    rw [e]
    exact get_no1 l w ha hl
theorem hget_R (l : List UInt8) : (hget l).1.R := by
  have z : R64 0 := ⟨by decide, by decide⟩
  have h0 : hd0.R := ⟨z, z, z, z, z, z, z⟩
  unfold hget
  by_cases h1 : l.length ≠ 512
  · rw [if_pos h1]; exact h0
  · rw [if_neg h1]
    by_cases h2 : isZero l = true
    · rw [if_pos h2]; exact h0
    · rw [if_neg h2]
      by_cases h3 : ((l.drop 148).take 8 == sgn l) = false
      · rw [if_pos h3]; exact h0
      · rw [if_neg h3]
        by_cases h4 : hput (guess l) = some l
        · rw [if_pos h4]; dsimp only; exact guess_R l
        · rw [if_neg h4]; dsimp only; exact h0
end Go.Proofs.YtldhcknjpmbgnaaGreatDoor.Rk
