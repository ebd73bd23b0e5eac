/- The block of a header: the pieces laid are the block. -/
import Derived.Test.YtejalhoaljlnhaaHeadL
namespace Go.Proofs.Ytejalhoaljlnhaa.Rk
open Go.RowKit
set_option linter.unusedVariables false
set_option linter.unusedSimpArgs false

theorem zeros_split : zeros 512 = ([zeros 100, zeros 8, zeros 8, zeros 8, zeros 12, zeros 12, zeros 8, zeros 1, zeros 100, zeros 8, zeros 80, zeros 24, zeros 12, zeros 102, zeros 12, zeros 17] : List (List UInt8)).flatten := by decide +kernel
theorem zeros_split' : zeros 512 = ([zeros 100, zeros 8, zeros 8, zeros 8, zeros 12, zeros 12, zeros 8, zeros 1, zeros 100, zeros 8, zeros 80, zeros 155, zeros 12] : List (List UInt8)).flatten := by decide +kernel


theorem ustar_length : ustar.length = 8 := rfl
theorem layB_of (h : Hd) (f : Fits h) : splice (splice (layN h (nSp h.ty) (layW h (wSp h.ty) (zeros 512))) 156 [h.ty]) 257 ustar = layB h (zeros 8) := by
  have L1 : (numB h ⟨100, 8, 3⟩).length = 8 := numB_len f.mode
  have L2 : (numB h ⟨108, 8, 4⟩).length = 8 := numB_len f.uid
  have L3 : (numB h ⟨116, 8, 5⟩).length = 8 := numB_len f.gid
  have L4 : (numB h ⟨124, 12, 6⟩).length = 12 := numB_len f.size
  have L5 : (numB h ⟨136, 12, 7⟩).length = 12 := numB_len f.mtime
  have N1 := f.nameL
  have N2 := f.linkL
  have P1 : (pad 100 h.name).length = 100 := pad_length f.nameL
  have P2 : (pad 100 h.link).length = 100 := pad_length f.linkL
  have U := ustar_length
  by_cases h77 : h.ty = 77
  · obtain ⟨_, q1, q2⟩ := f.more h77
    have L6 : (numB h ⟨369, 12, 9⟩).length = 12 := numB_len q1
    have L7 : (numB h ⟨483, 12, 10⟩).length = 12 := numB_len q2
    have e1 : wSp h.ty = [⟨0, 100, 0⟩, ⟨157, 100, 2⟩] := by simp [wSp, h77]
    have e2 : nSp h.ty = [⟨100, 8, 3⟩, ⟨108, 8, 4⟩, ⟨116, 8, 5⟩, ⟨124, 12, 6⟩, ⟨136, 12, 7⟩, ⟨369, 12, 9⟩, ⟨483, 12, 10⟩] := by simp [nSp, h77]
    have e3 : layB h (zeros 8) = ([pad 100 h.name, numB h ⟨100, 8, 3⟩, numB h ⟨108, 8, 4⟩, numB h ⟨116, 8, 5⟩, numB h ⟨124, 12, 6⟩, numB h ⟨136, 12, 7⟩, zeros 8, [h.ty], pad 100 h.link, ustar, zeros 80, zeros 24, numB h ⟨369, 12, 9⟩, zeros 102, numB h ⟨483, 12, 10⟩, zeros 17] : List (List UInt8)).flatten := by
      rw [layB, segsB, if_pos h77]; rfl
    rw [e1, e2, e3, layW, layN]
    simp only [List.foldl_cons, List.foldl_nil, Hd.text]
    rw [zeros_split]
    clear h77 e1 e2 e3 q1 q2 f
    (rw [splice_zset 0 (n := 100) rfl (by simp [zeros_length, *]) (by assumption)]; simp only [List.set_cons_succ, List.set_cons_zero])
    (rw [splice_zset 8 (n := 100) rfl (by simp [zeros_length, *]) (by assumption)]; simp only [List.set_cons_succ, List.set_cons_zero])
    (rw [splice_set 1 rfl (by simp [zeros_length, *]) (by simp [zeros_length, *])]; simp only [List.set_cons_succ, List.set_cons_zero])
    (rw [splice_set 2 rfl (by simp [zeros_length, *]) (by simp [zeros_length, *])]; simp only [List.set_cons_succ, List.set_cons_zero])
    (rw [splice_set 3 rfl (by simp [zeros_length, *]) (by simp [zeros_length, *])]; simp only [List.set_cons_succ, List.set_cons_zero])
    (rw [splice_set 4 rfl (by simp [zeros_length, *]) (by simp [zeros_length, *])]; simp only [List.set_cons_succ, List.set_cons_zero])
    (rw [splice_set 5 rfl (by simp [zeros_length, *]) (by simp [zeros_length, *])]; simp only [List.set_cons_succ, List.set_cons_zero])
    (rw [splice_set 12 rfl (by simp [zeros_length, *]) (by simp [zeros_length, *])]; simp only [List.set_cons_succ, List.set_cons_zero])
    (rw [splice_set 14 rfl (by simp [zeros_length, *]) (by simp [zeros_length, *])]; simp only [List.set_cons_succ, List.set_cons_zero])
    (rw [splice_set 7 rfl (by simp [zeros_length, *]) (by simp [zeros_length, *])]; simp only [List.set_cons_succ, List.set_cons_zero])
    (rw [splice_set 9 rfl (by simp [zeros_length, *]) (by simp [zeros_length, *])]; simp only [List.set_cons_succ, List.set_cons_zero])
  · obtain ⟨_, _, N3, _⟩ := f.less h77
    have P3 : (pad 155 h.pre).length = 155 := pad_length N3
    have e1 : wSp h.ty = [⟨0, 100, 0⟩, ⟨157, 100, 2⟩, ⟨345, 155, 1⟩] := by simp [wSp, h77]
    have e2 : nSp h.ty = [⟨100, 8, 3⟩, ⟨108, 8, 4⟩, ⟨116, 8, 5⟩, ⟨124, 12, 6⟩, ⟨136, 12, 7⟩] := by simp [nSp, h77]
    have e3 : layB h (zeros 8) = ([pad 100 h.name, numB h ⟨100, 8, 3⟩, numB h ⟨108, 8, 4⟩, numB h ⟨116, 8, 5⟩, numB h ⟨124, 12, 6⟩, numB h ⟨136, 12, 7⟩, zeros 8, [h.ty], pad 100 h.link, ustar, zeros 80, pad 155 h.pre, zeros 12] : List (List UInt8)).flatten := by
      rw [layB, segsB, if_neg h77]; rfl
    rw [e1, e2, e3, layW, layN]
    simp only [List.foldl_cons, List.foldl_nil, Hd.text]
    rw [zeros_split']
    clear h77 e1 e2 e3 f
    (rw [splice_zset 0 (n := 100) rfl (by simp [zeros_length, *]) (by assumption)]; simp only [List.set_cons_succ, List.set_cons_zero])
    (rw [splice_zset 8 (n := 100) rfl (by simp [zeros_length, *]) (by assumption)]; simp only [List.set_cons_succ, List.set_cons_zero])
    (rw [splice_zset 11 (n := 155) rfl (by simp [zeros_length, *]) (by assumption)]; simp only [List.set_cons_succ, List.set_cons_zero])
    (rw [splice_set 1 rfl (by simp [zeros_length, *]) (by simp [zeros_length, *])]; simp only [List.set_cons_succ, List.set_cons_zero])
    (rw [splice_set 2 rfl (by simp [zeros_length, *]) (by simp [zeros_length, *])]; simp only [List.set_cons_succ, List.set_cons_zero])
    (rw [splice_set 3 rfl (by simp [zeros_length, *]) (by simp [zeros_length, *])]; simp only [List.set_cons_succ, List.set_cons_zero])
    (rw [splice_set 4 rfl (by simp [zeros_length, *]) (by simp [zeros_length, *])]; simp only [List.set_cons_succ, List.set_cons_zero])
    (rw [splice_set 5 rfl (by simp [zeros_length, *]) (by simp [zeros_length, *])]; simp only [List.set_cons_succ, List.set_cons_zero])
    (rw [splice_set 7 rfl (by simp [zeros_length, *]) (by simp [zeros_length, *])]; simp only [List.set_cons_succ, List.set_cons_zero])
    (rw [splice_set 9 rfl (by simp [zeros_length, *]) (by simp [zeros_length, *])]; simp only [List.set_cons_succ, List.set_cons_zero])
theorem segsB_lens (h : Hd) (f : Fits h) : (pad 100 h.name).length = 100 ∧ (numB h ⟨100, 8, 3⟩).length = 8 ∧ (numB h ⟨108, 8, 4⟩).length = 8 ∧ (numB h ⟨116, 8, 5⟩).length = 8 ∧ (numB h ⟨124, 12, 6⟩).length = 12 ∧ (numB h ⟨136, 12, 7⟩).length = 12 ∧ (pad 100 h.link).length = 100 :=
  ⟨pad_length f.nameL, numB_len f.mode, numB_len f.uid, numB_len f.gid, numB_len f.size, numB_len f.mtime, pad_length f.linkL⟩
theorem layB_sum (h : Hd) (f : Fits h) (s t : List UInt8) (hs : s.length = 8) (ht : t.length = 8) : splice (layB h t) 148 s = layB h s := by
  obtain ⟨L1, L2, L3, L4, L5, L6, L7⟩ := segsB_lens h f
  unfold layB
  rw [splice_set (segs := segsB h t) 6 (y := t) rfl (by simp [segsB, *]) (by omega)]
  rfl
theorem layB_length (h : Hd) (f : Fits h) (s : List UInt8) (hs : s.length = 8) : (layB h s).length = 512 := by
  have h1 := layB_sum h f s (zeros 8) hs (zeros_length 8)
  have h2 : (layB h (zeros 8)).length = 512 := by
    rw [← layB_of h f]
    have L : (layN h (nSp h.ty) (layW h (wSp h.ty) (zeros 512))).length = 512 := by
      refine fold_splice_len _ _ (fold_splice_len _ _ (zeros_length _) ?_) ?_
      · intro s hs
        obtain ⟨k, hk⟩ := List.mem_iff_getElem?.1 hs
        have h4 := (fits_iff h).2 f
        simp only [hmay, Bool.and_eq_true, List.all_eq_true] at h4
        have h5 := h4.1.2 s hs
        simp [wordOk] at h5
        have := (wSp_mem hk).2
        omega
      · intro s hs
        obtain ⟨k, hk⟩ := List.mem_iff_getElem?.1 hs
        have h4 := (fits_iff h).2 f
        simp only [hmay, Bool.and_eq_true, List.all_eq_true] at h4
        have h5 := h4.2 s hs
        rw [numB_len (Option.isSome_iff_exists.1 h5)]
        exact (nSp_mem hk).2.2.2.1
    rw [splice_length _ _ _ (by rw [splice_length _ _ _ (by rw [L]; simp)]; rw [L]; decide), splice_length _ _ _ (by rw [L]; simp), L]
  rw [← h1, splice_length _ _ _ (by omega), h2]
theorem blockOf_length (h : Hd) (f : Fits h) : (blockOf h).length = 512 := layB_length h f _ (sgn_length _)

/-! ### rows of slices that are new -/
theorem Sl.elem {α : Type} {d : Kd α} {w : World} {F : Nat → Prop} {A : Option Addr} {c : Nat} {x : List α} (h : Sl d w F A c x) : ∀ W, Keeps F w W → (Kd.slice d).K W x [.slice A x.length c] :=
  fun W hW => ⟨A, c, rfl, h.1, h.2.1, h.2.2.imp fun vs hv => hv W hW⟩
theorem Sl.row_new {α : Type} {d : Kd α} {w : World} {vs : List Value} {xs : List α} {t : TypeId} {F : Nat → Prop} {n : Nat} (hn : xs.length = n) (hl : n ≤ 9223372036854775807)
    (hr : ∀ W, Keeps F (w.alloc (.cells vs.toArray t)) W → Reps d W xs vs) : Sl d (w.alloc (.cells vs.toArray t)) (fun k => F k ∨ k = w.heap.size) (some ⟨w.heap.size, 0, none⟩) n xs := by
  subst hn
  refine ⟨Nat.le_refl _, hl, vs, fun W hW => ⟨?_, hr W (hW.mono fun k hk => .inl hk)⟩⟩
  exact cells_of_blk (t := t) ((hW w.heap.size (.inr rfl) (by simp)).trans (heap_alloc_new _ _))
theorem bytesWorld_sl (W : World) (e : TypeId) (l : List UInt8) (hl : l.length ≤ 1000000) : Sl Kd.byte (Lib.bytesWorld W e (ofL l)) (fun k => W.heap.size ≤ k) (some ⟨W.heap.size, 0, none⟩) (bytesCap W e l) l := by
  obtain ⟨A, c, e, h⟩ := (bytesWorld_row W e l hl W.heap.size (Nat.le_refl _)).sl_bytes
  injection e with e1 e2 e3
  subst e1 e3
  exact h
theorem pput1_calls (g : Nat) (pg : List UInt8) (i : Nat) (x : List UInt8) {A : Option Addr} {c : Nat} {F : Nat → Prop} (w : World) (hg : w.heap[g]? = some (.cells (bcs pg).toArray 5 (0, 0))) (hl : pg.length = 512)
    (hfit : i + x.length ≤ 512) (hs : Sl Kd.byte w F A c x) (hF : ¬ F g) :
    Calls Try.prog 41 #[.agg #[.slice (some ⟨g, 0, none⟩) 512 512], .int .i64 i, .slice (some ⟨w.heap.size, 0, none⟩) 1 1] (w.alloc (.cells #[.slice A x.length c] 22)) fun e w' =>
      e = .returned (.tuple #[]) ∧ Au (w'.heap[g]? = some (.cells (bcs (splice pg i x)).toArray 5 (0, 0))) ∧ w.grownBy w' (some g) := by
  have hglt := lt_of_block hg
  have hs2 : Sl (Kd.slice Kd.byte) (w.alloc (.cells [Value.slice A x.length c].toArray 22)) (fun k => F k ∨ k = w.heap.size) (some ⟨w.heap.size, 0, none⟩) 1 [x] :=
    Sl.row_new rfl (by decide) (fun W hW => Reps.single ((hs.alloc _).elem W hW))
  have := pput_calls g pg i [x] _ (blk_alloc hg (.cells [Value.slice A x.length c].toArray 22)) hl (by simpa using hfit) hs2 (by rintro (h | h); exact hF h; omega)
  refine this.mono ?_
  rintro e w' ⟨h1, h2, h3⟩
  refine ⟨h1, ?_, ?_⟩
  · simpa using h2
  · exact grown_trans (grown_of ((Below.refl _ _).alloc (Nat.le_refl _) _) _) h3
end Go.Proofs.Ytejalhoaljlnhaa.Rk
