/- A header's block: its pieces, what is got of it, its sum. Plain Lean. -/
import Derived.Test.YtejalhoaljlnhaaHeadR
namespace Go.Proofs.Ytejalhoaljlnhaa.Rk
open Go.RowKit
set_option linter.unusedVariables false
set_option linter.unusedSimpArgs false

theorem seg_at {segs : List (List UInt8)} (j : Nat) {i n : Nat} {x : List UInt8} (hj : segs[j]? = some x) (hi : (segs.take j).flatten.length = i) (hn : x.length = n) : (segs.flatten.drop i).take n = x := by
  have hlt := (List.getElem?_eq_some_iff.1 hj).1
  have e : segs = segs.take j ++ x :: segs.drop (j + 1) := by
    rw [List.getElem?_eq_getElem hlt] at hj
    injection hj with hj
    rw [← hj, ← List.drop_eq_getElem_cons hlt, List.take_append_drop]
  conv => lhs; rw [e]
  rw [List.flatten_append, List.flatten_cons]
  subst hi hn
  rw [List.drop_left, List.take_left]
section
variable (h : Hd) (f : Fits h) (s : List UInt8) (hs : s.length = 8)
include f in
theorem at_name : ((layB h s).drop 0).take 100 = pad 100 h.name := seg_at (segs := segsB h s) 0 rfl rfl (pad_length f.nameL)
include f
theorem at_mode : ((layB h s).drop 100).take 8 = numB h ⟨100, 8, 3⟩ := by
  obtain ⟨L1, L2, L3, L4, L5, L6, L7⟩ := segsB_lens h f
  exact seg_at (segs := segsB h s) 1 rfl (by simp [segsB, *]) L2
theorem at_uid : ((layB h s).drop 108).take 8 = numB h ⟨108, 8, 4⟩ := by
  obtain ⟨L1, L2, L3, L4, L5, L6, L7⟩ := segsB_lens h f
  exact seg_at (segs := segsB h s) 2 rfl (by simp [segsB, *]) L3
theorem at_gid : ((layB h s).drop 116).take 8 = numB h ⟨116, 8, 5⟩ := by
  obtain ⟨L1, L2, L3, L4, L5, L6, L7⟩ := segsB_lens h f
  exact seg_at (segs := segsB h s) 3 rfl (by simp [segsB, *]) L4
theorem at_size : ((layB h s).drop 124).take 12 = numB h ⟨124, 12, 6⟩ := by
  obtain ⟨L1, L2, L3, L4, L5, L6, L7⟩ := segsB_lens h f
  exact seg_at (segs := segsB h s) 4 rfl (by simp [segsB, *]) L5
theorem at_mtime : ((layB h s).drop 136).take 12 = numB h ⟨136, 12, 7⟩ := by
  obtain ⟨L1, L2, L3, L4, L5, L6, L7⟩ := segsB_lens h f
  exact seg_at (segs := segsB h s) 5 rfl (by simp [segsB, *]) L6
include hs
theorem at_sum : ((layB h s).drop 148).take 8 = s := by
  obtain ⟨L1, L2, L3, L4, L5, L6, L7⟩ := segsB_lens h f
  exact seg_at (segs := segsB h s) 6 rfl (by simp [segsB, *]) hs
theorem at_ty : ((layB h s).drop 156).take 1 = [h.ty] := by
  obtain ⟨L1, L2, L3, L4, L5, L6, L7⟩ := segsB_lens h f
  exact seg_at (segs := segsB h s) 7 rfl (by simp [segsB, *]) rfl
theorem at_link : ((layB h s).drop 157).take 100 = pad 100 h.link := by
  obtain ⟨L1, L2, L3, L4, L5, L6, L7⟩ := segsB_lens h f
  exact seg_at (segs := segsB h s) 8 rfl (by simp [segsB, *]) L7
theorem at_ustar : ((layB h s).drop 257).take 8 = ustar := by
  obtain ⟨L1, L2, L3, L4, L5, L6, L7⟩ := segsB_lens h f
  exact seg_at (segs := segsB h s) 9 rfl (by simp [segsB, *]) rfl
theorem at_pre (h77 : h.ty ≠ 77) : ((layB h s).drop 345).take 155 = pad 155 h.pre := by
  obtain ⟨L1, L2, L3, L4, L5, L6, L7⟩ := segsB_lens h f
  exact seg_at (segs := segsB h s) 11 (by simp [segsB, h77]) (by simp [segsB, h77, zeros_length, ustar_length, *]) (pad_length (f.less h77).2.2.1)
theorem at_off (h77 : h.ty = 77) : ((layB h s).drop 369).take 12 = numB h ⟨369, 12, 9⟩ := by
  obtain ⟨L1, L2, L3, L4, L5, L6, L7⟩ := segsB_lens h f
  exact seg_at (segs := segsB h s) 12 (by simp [segsB, h77]) (by simp [segsB, h77, zeros_length, ustar_length, *]) (numB_len (f.more h77).2.1)
theorem at_real (h77 : h.ty = 77) : ((layB h s).drop 483).take 12 = numB h ⟨483, 12, 10⟩ := by
  obtain ⟨L1, L2, L3, L4, L5, L6, L7⟩ := segsB_lens h f
  have L8 := numB_len (h := h) (s := ⟨369, 12, 9⟩) (f.more h77).2.1
  exact seg_at (segs := segsB h s) 14 (by simp [segsB, h77]) (by simp [segsB, h77, zeros_length, ustar_length, *]) (numB_len (f.more h77).2.2)
end

/-! ### the sum -/
theorem sumK_congr {b c : List UInt8} : ∀ {k : Nat}, (∀ i, i < k → sumB i (b[i]?.getD 0) = sumB i (c[i]?.getD 0)) → sumK b k = sumK c k
  | 0, _ => rfl
  | k + 1, h => by
    simp only [sumK]
    rw [sumK_congr (fun i hi => h i (by omega)), h k (by omega)]
theorem splice_at (l x : List UInt8) (i j : Nat) (h : i + x.length ≤ l.length) : (splice l i x)[j]? = if j < i then l[j]? else if j < i + x.length then x[j - i]? else l[j]? := by
  unfold splice
  have h0 : (l.take i).length = i := by rw [List.length_take]; omega
  by_cases h1 : j < i
  · rw [if_pos h1, List.getElem?_append_left (by omega), List.getElem?_take, if_pos h1]
  · rw [if_neg h1, List.getElem?_append_right (by omega), h0]
    by_cases h2 : j < i + x.length
    · rw [if_pos h2, List.getElem?_append_left (by omega)]
    · rw [if_neg h2, List.getElem?_append_right (by omega), List.getElem?_drop]
      congr 1; omega
theorem sum_lay (h : Hd) (f : Fits h) (s t : List UInt8) (hs : s.length = 8) (ht : t.length = 8) : sumK (layB h s) 512 = sumK (layB h t) 512 := by
  refine sumK_congr fun i hi => ?_
  unfold sumB
  split
  · rfl
  · rename_i h1
    rw [← layB_sum h f s t hs ht, splice_at _ _ _ _ (by rw [layB_length h f t ht]; omega)]
    by_cases h2 : i < 148
    · rw [if_pos h2]
    · rw [if_neg h2, if_neg (by omega)]
theorem sgn_block (h : Hd) (f : Fits h) : sgn (blockOf h) = sgn (layB h (zeros 8)) := by
  have := sum_lay h f (sgn (layB h (zeros 8))) (zeros 8) (sgn_length _) (zeros_length 8)
  unfold sgn blockOf
  rw [this]
theorem upto_pad {n : Nat} {l : List UInt8} (h0 : (0 : UInt8) ∉ l) (hn : l.length < n) : upto (pad n l) = l := by
  unfold upto pad zeros
  rw [List.takeWhile_append_of_pos (by intro a ha; simp; rintro rfl; exact h0 ha)]
  obtain ⟨m, hm⟩ : ∃ m, n - l.length = m + 1 := ⟨n - l.length - 1, by omega⟩
  rw [hm, List.replicate_succ, List.takeWhile_cons_of_neg (by simp)]
  simp
theorem upto_pad' {n : Nat} {l : List UInt8} (h0 : (0 : UInt8) ∉ l) (hn : l.length ≤ n) : upto (pad n l) = l := by
  by_cases h : l.length < n
  · exact upto_pad h0 h
  · have e : pad n l = l := by unfold pad zeros; rw [show n - l.length = 0 from by omega]; simp
    rw [e]
    have := List.takeWhile_append_of_pos (p := (· != (0 : UInt8))) (l₁ := l) (l₂ := []) (by intro a ha; simp; rintro rfl; exact h0 ha)
    simpa [upto] using this
theorem get_numB {h : Hd} {s : Sp} (hr : h.R) (hp : ∃ l, put (h.numb s.ix) s.wide = some l) : (get (numB h s)).getD 0 = h.numb s.ix := by
  obtain ⟨l, e⟩ := hp
  unfold numB
  rw [e]
  have := get_put (hr.numb s.ix).2 e
  simp [this]
theorem guess_block (h : Hd) (hr : h.R) (f : Fits h) : guess (blockOf h) = h := by
  have hs := sgn_length (layB h (zeros 8))
  have ht : tyOf (blockOf h) = h.ty := by
    have h1 := at_ty h f _ hs
    have h2 : ((layB h (sgn (layB h (zeros 8)))).drop 156).take 1 = [h.ty] := h1
    have h3 := congrArg (fun l => l[0]?) h2
    simp only [List.getElem?_take, List.getElem?_drop] at h3
    unfold tyOf blockOf
    simp at h3
    simp [h3]
  have n3 := get_numB (h := h) (s := ⟨100, 8, 3⟩) hr f.mode
  have n4 := get_numB (h := h) (s := ⟨108, 8, 4⟩) hr f.uid
  have n5 := get_numB (h := h) (s := ⟨116, 8, 5⟩) hr f.gid
  have n6 := get_numB (h := h) (s := ⟨124, 12, 6⟩) hr f.size
  have n7 := get_numB (h := h) (s := ⟨136, 12, 7⟩) hr f.mtime
  have p0 := at_name h f (sgn (layB h (zeros 8)))
  have p2 := at_link h f _ hs
  have p3 := at_mode h f (sgn (layB h (zeros 8)))
  have p4 := at_uid h f (sgn (layB h (zeros 8)))
  have p5 := at_gid h f (sgn (layB h (zeros 8)))
  have p6 := at_size h f (sgn (layB h (zeros 8)))
  have p7 := at_mtime h f (sgn (layB h (zeros 8)))
  have u0 := upto_pad' f.nameZ f.nameL
  have u2 := upto_pad' f.linkZ f.linkL
  unfold guess
  rw [ht]
  by_cases h77 : h.ty = 77
  · have n9 := get_numB (h := h) (s := ⟨369, 12, 9⟩) hr (f.more h77).2.1
    have n10 := get_numB (h := h) (s := ⟨483, 12, 10⟩) hr (f.more h77).2.2
    have p9 := at_off h f _ hs h77
    have p10 := at_real h f _ hs h77
    have hpre := (f.more h77).1
    unfold blockOf
    simp only [guessN, guessW, wSp, nSp, if_pos h77, List.append_nil, List.cons_append, List.nil_append, List.foldl_cons, List.foldl_nil, piece, p0, p2, p3, p4, p5, p6, p7, p9, p10, u0, u2, n3, n4, n5, n6, n7, n9, n10, Hd.setText, Hd.setNumb, Hd.numb]
    cases h
    simp only at hpre
    subst hpre
    rfl
  · have p1 := at_pre h f _ hs h77
    obtain ⟨o1, o2, l1, z1⟩ := f.less h77
    have u1 := upto_pad' z1 l1
    unfold blockOf
    simp only [guessN, guessW, wSp, nSp, if_neg h77, List.append_nil, List.cons_append, List.nil_append, List.foldl_cons, List.foldl_nil, piece, p0, p1, p2, p3, p4, p5, p6, p7, u0, u1, u2, n3, n4, n5, n6, n7, Hd.setText, Hd.setNumb, Hd.numb]
    cases h
    simp only at o1 o2
    subst o1 o2
    rfl
theorem mem_of_piece {l : List UInt8} {i n : Nat} {x : List UInt8} (h : (l.drop i).take n = x) {c : UInt8} (hc : c ∈ x) : c ∈ l := by
  subst h
  exact List.mem_of_mem_drop (List.mem_of_mem_take hc)
theorem hget_block (h : Hd) (hr : h.R) (f : Fits h) : hget (blockOf h) = (h, 0) := by
  have hs := sgn_length (layB h (zeros 8))
  have hz : isZero (blockOf h) = false := by
    rw [isZero, List.all_eq_false]
    exact ⟨117, mem_of_piece (at_ustar h f _ hs) (by simp [ustar]), by decide⟩
  have he : (((blockOf h).drop 148).take 8 == sgn (blockOf h)) = true := by
    rw [sgn_block h f]; exact beq_iff_eq.2 (at_sum h f _ hs)
  unfold hget
  rw [if_neg (by rw [blockOf_length h f]; simp), if_neg (by rw [hz]; simp), if_neg (by rw [he]; simp), guess_block h hr f, if_pos (by unfold hput; rw [if_pos ((fits_iff h).2 f)])]
theorem hget_cases (b : List UInt8) : (hget b = (hd0, 1) ∧ b.length ≠ 512) ∨ (hget b = (hd0, 4) ∧ b.length = 512 ∧ isZero b = true) ∨ (hget b = (hd0, 3) ∧ b.length = 512 ∧ isZero b = false) ∨
    (hget b = (guess b, 0) ∧ b.length = 512 ∧ isZero b = false ∧ hput (guess b) = some b) ∨ (hget b = (hd0, 2) ∧ b.length = 512 ∧ isZero b = false) := by
  unfold hget
  by_cases h1 : b.length ≠ 512
  · rw [if_pos h1]; exact .inl ⟨rfl, h1⟩
  · rw [if_neg h1]
    have h1' : b.length = 512 := by omega
    by_cases h2 : isZero b = true
    · rw [if_pos h2]; exact .inr (.inl ⟨rfl, h1', h2⟩)
    · rw [if_neg h2]
      have h2' : isZero b = false := by simpa using h2
      by_cases h3 : ((b.drop 148).take 8 == sgn b) = false
      · rw [if_pos h3]; exact .inr (.inr (.inl ⟨rfl, h1', h2'⟩))
      · rw [if_neg h3]
        by_cases h4 : hput (guess b) = some b
        · rw [if_pos h4]; exact .inr (.inr (.inr (.inl ⟨rfl, h1', h2', h4⟩)))
        · rw [if_neg h4]; exact .inr (.inr (.inr (.inr ⟨rfl, h1', h2'⟩)))
theorem hget_good {b : List UInt8} (h : (hget b).2 = 0) : hput (hget b).1 = some b := by
  rcases hget_cases b with ⟨e, _⟩ | ⟨e, _⟩ | ⟨e, _⟩ | ⟨e, _, _, h4⟩ | ⟨e, _⟩ <;> rw [e] at h ⊢ <;> dsimp only at h ⊢
  · cases h
  · cases h
  · cases h
  · exact h4
  · cases h
theorem hget_bad {b : List UInt8} (h : (hget b).2 ≠ 0) : (hget b).1 = hd0 := by
  rcases hget_cases b with ⟨e, _⟩ | ⟨e, _⟩ | ⟨e, _⟩ | ⟨e, _, _, h4⟩ | ⟨e, _⟩ <;> rw [e] at h ⊢ <;> dsimp only at h ⊢
  exact absurd rfl h
theorem hput_some {h : Hd} {b : List UInt8} (e : hput h = some b) : Fits h ∧ blockOf h = b := by
  unfold hput at e
  split at e
  · rename_i hm
    injection e with e
    exact ⟨(fits_iff h).1 hm, e⟩
  · cases e
theorem block_inj {h k : Hd} (hr : h.R) (kr : k.R) (f : Fits h) (g : Fits k) : blockOf h = blockOf k ↔ h = k := by
  constructor
  · intro e
    have h1 := hget_block h hr f
    rw [e, hget_block k kr g] at h1
    injection h1 with h1 _
    exact h1.symm
  · rintro rfl; rfl
end Go.Proofs.Ytejalhoaljlnhaa.Rk
