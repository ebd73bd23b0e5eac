/- GHeadC: HeadS HeadT HeadU HeadV HeadW HeadX HeadY -/
import Derived.Test.YtmjicapjkmkckaaGreatDoorGHeadB
import Derived.Test.YtmjicapjkmkckaaGreatDoorGNumR
import Derived.Deep.RegionHeldLaw
import Derived.Deep.DeepCutAuto
set_option maxRecDepth 100000
/- A header's block: its pieces, what is got of it, its sum. Plain Lean. -/
namespace Go.Proofs.YtmjicapjkmkckaaGreatDoor.Rk
open Go.RowKit
set_option linter.unusedVariables false
set_option linter.unusedSimpArgs false

theorem seg_at {segs : List (List UInt8)} (j : Nat) {i n : Nat} {x : List UInt8} (hj : segs[j]? = some x) (hi : (segs.take j).flatten.length = i) (hn : x.length = n) : (segs.flatten.drop i).take n = x := by
  have hlt := (List.getElem?_eq_some_iff.1 hj).1
  have e : segs = segs.take j ++ x :: segs.drop (j + 1) := by
    rw [List.getElem?_eq_getElem hlt] at hj
    injection hj with hj
    rw [← hj, ← List.drop_eq_getElem_cons hlt, List.take_append_drop]
  conv => lhs; rw [e]
  rw [List.flatten_append, List.flatten_cons]
  subst hi hn
  rw [List.drop_left, List.take_left]
section
variable (h : Hd) (f : Fits h) (s : List UInt8) (hs : s.length = 8)
include f in
theorem at_name : ((layB h s).drop 0).take 100 = pad 100 h.name := seg_at (segs := segsB h s) 0 rfl rfl (pad_length f.nameL)
include f
theorem at_mode : ((layB h s).drop 100).take 8 = numB h ⟨100, 8, 3⟩ := by
  obtain ⟨L1, L2, L3, L4, L5, L6, L7⟩ := segsB_lens h f
  exact seg_at (segs := segsB h s) 1 rfl (by simp [segsB, *]) L2
theorem at_uid : ((layB h s).drop 108).take 8 = numB h ⟨108, 8, 4⟩ := by
  obtain ⟨L1, L2, L3, L4, L5, L6, L7⟩ := segsB_lens h f
  exact seg_at (segs := segsB h s) 2 rfl (by simp [segsB, *]) L3
theorem at_gid : ((layB h s).drop 116).take 8 = numB h ⟨116, 8, 5⟩ := by
  obtain ⟨L1, L2, L3, L4, L5, L6, L7⟩ := segsB_lens h f
  exact seg_at (segs := segsB h s) 3 rfl (by simp [segsB, *]) L4
theorem at_size : ((layB h s).drop 124).take 12 = numB h ⟨124, 12, 6⟩ := by
  obtain ⟨L1, L2, L3, L4, L5, L6, L7⟩ := segsB_lens h f
  exact seg_at (segs := segsB h s) 4 rfl (by simp [segsB, *]) L5
theorem at_mtime : ((layB h s).drop 136).take 12 = numB h ⟨136, 12, 7⟩ := by
  obtain ⟨L1, L2, L3, L4, L5, L6, L7⟩ := segsB_lens h f
  exact seg_at (segs := segsB h s) 5 rfl (by simp [segsB, *]) L6
include hs
theorem at_sum : ((layB h s).drop 148).take 8 = s := by
  obtain ⟨L1, L2, L3, L4, L5, L6, L7⟩ := segsB_lens h f
  exact seg_at (segs := segsB h s) 6 rfl (by simp [segsB, *]) hs
theorem at_ty : ((layB h s).drop 156).take 1 = [h.ty] := by
  obtain ⟨L1, L2, L3, L4, L5, L6, L7⟩ := segsB_lens h f
  exact seg_at (segs := segsB h s) 7 rfl (by simp [segsB, *]) rfl
theorem at_link : ((layB h s).drop 157).take 100 = pad 100 h.link := by
  obtain ⟨L1, L2, L3, L4, L5, L6, L7⟩ := segsB_lens h f
  exact seg_at (segs := segsB h s) 8 rfl (by simp [segsB, *]) L7
theorem at_ustar : ((layB h s).drop 257).take 8 = ustar := by
  obtain ⟨L1, L2, L3, L4, L5, L6, L7⟩ := segsB_lens h f
  exact seg_at (segs := segsB h s) 9 rfl (by simp [segsB, *]) rfl
theorem at_pre (h77 : h.ty ≠ 77) : ((layB h s).drop 345).take 155 = pad 155 h.pre := by
  obtain ⟨L1, L2, L3, L4, L5, L6, L7⟩ := segsB_lens h f
  exact seg_at (segs := segsB h s) 11 (by simp [segsB, h77]) (by simp [segsB, h77, zeros_length, ustar_length, *]) (pad_length (f.less h77).2.2.1)
theorem at_off (h77 : h.ty = 77) : ((layB h s).drop 369).take 12 = numB h ⟨369, 12, 9⟩ := by
  obtain ⟨L1, L2, L3, L4, L5, L6, L7⟩ := segsB_lens h f
  exact seg_at (segs := segsB h s) 12 (by simp [segsB, h77]) (by simp [segsB, h77, zeros_length, ustar_length, *]) (numB_len (f.more h77).2.1)
theorem at_real (h77 : h.ty = 77) : ((layB h s).drop 483).take 12 = numB h ⟨483, 12, 10⟩ := by
  obtain ⟨L1, L2, L3, L4, L5, L6, L7⟩ := segsB_lens h f
  have L8 := numB_len (h := h) (s := ⟨369, 12, 9⟩) (f.more h77).2.1
  exact seg_at (segs := segsB h s) 14 (by simp [segsB, h77]) (by simp [segsB, h77, zeros_length, ustar_length, *]) (numB_len (f.more h77).2.2)
end

/-! ### the sum -/
theorem sumK_congr {b c : List UInt8} : ∀ {k : Nat}, (∀ i, i < k → sumB i (b[i]?.getD 0) = sumB i (c[i]?.getD 0)) → sumK b k = sumK c k
  | 0, _ => rfl
  | k + 1, h => by
    simp only [sumK]
    rw [sumK_congr (fun i hi => h i (by omega)), h k (by omega)]
theorem splice_at (l x : List UInt8) (i j : Nat) (h : i + x.length ≤ l.length) : (splice l i x)[j]? = if j < i then l[j]? else if j < i + x.length then x[j - i]? else l[j]? := by
  unfold splice
  have h0 : (l.take i).length = i := by rw [List.length_take]; omega
  by_cases h1 : j < i
  · rw [if_pos h1, List.getElem?_append_left (by omega), List.getElem?_take, if_pos h1]
  · rw [if_neg h1, List.getElem?_append_right (by omega), h0]
    by_cases h2 : j < i + x.length
    · rw [if_pos h2, List.getElem?_append_left (by omega)]
    · rw [if_neg h2, List.getElem?_append_right (by omega), List.getElem?_drop]
      congr 1; omega
theorem sum_lay (h : Hd) (f : Fits h) (s t : List UInt8) (hs : s.length = 8) (ht : t.length = 8) : sumK (layB h s) 512 = sumK (layB h t) 512 := by
  refine sumK_congr fun i hi => ?_
  unfold sumB
  split
  · rfl
  · rename_i h1
    rw [← layB_sum h f s t hs ht, splice_at _ _ _ _ (by rw [layB_length h f t ht]; omega)]
    by_cases h2 : i < 148
    · rw [if_pos h2]
    · rw [if_neg h2, if_neg (by omega)]
theorem sgn_block (h : Hd) (f : Fits h) : sgn (blockOf h) = sgn (layB h (zeros 8)) := by
  have := sum_lay h f (sgn (layB h (zeros 8))) (zeros 8) (sgn_length _) (zeros_length 8)
  unfold sgn blockOf
  rw [this]
theorem upto_pad {n : Nat} {l : List UInt8} (h0 : (0 : UInt8) ∉ l) (hn : l.length < n) : upto (pad n l) = l := by
  unfold upto pad zeros
  rw [List.takeWhile_append_of_pos (by intro a ha; simp; rintro rfl; exact h0 ha)]
  obtain ⟨m, hm⟩ : ∃ m, n - l.length = m + 1 := ⟨n - l.length - 1, by omega⟩
  rw [hm, List.replicate_succ, List.takeWhile_cons_of_neg (by simp)]
  simp
theorem upto_pad' {n : Nat} {l : List UInt8} (h0 : (0 : UInt8) ∉ l) (hn : l.length ≤ n) : upto (pad n l) = l := by
  by_cases h : l.length < n
  · exact upto_pad h0 h
  · have e : pad n l = l := by unfold pad zeros; rw [show n - l.length = 0 from by omega]; simp
    rw [e]
    have := List.takeWhile_append_of_pos (p := (· != (0 : UInt8))) (l₁ := l) (l₂ := []) (by intro a ha; simp; rintro rfl; exact h0 ha)
    simpa [upto] using this
theorem get_numB {h : Hd} {s : Sp} (hr : h.R) (hp : ∃ l, put (h.numb s.ix) s.wide = some l) : (get (numB h s)).getD 0 = h.numb s.ix := by
  obtain ⟨l, e⟩ := hp
  unfold numB
  rw [e]
  have := get_put (hr.numb s.ix).2 e
  simp [this]
theorem guess_block (h : Hd) (hr : h.R) (f : Fits h) : guess (blockOf h) = h := by
  have hs := sgn_length (layB h (zeros 8))
  have ht : tyOf (blockOf h) = h.ty := by
    have h1 := at_ty h f _ hs
    have h2 : ((layB h (sgn (layB h (zeros 8)))).drop 156).take 1 = [h.ty] := h1
    have h3 := congrArg (fun l => l[0]?) h2
    simp only [List.getElem?_take, List.getElem?_drop] at h3
    unfold tyOf blockOf
    simp at h3
    simp [h3]
  have n3 := get_numB (h := h) (s := ⟨100, 8, 3⟩) hr f.mode
  have n4 := get_numB (h := h) (s := ⟨108, 8, 4⟩) hr f.uid
  have n5 := get_numB (h := h) (s := ⟨116, 8, 5⟩) hr f.gid
  have n6 := get_numB (h := h) (s := ⟨124, 12, 6⟩) hr f.size
  have n7 := get_numB (h := h) (s := ⟨136, 12, 7⟩) hr f.mtime
  have p0 := at_name h f (sgn (layB h (zeros 8)))
  have p2 := at_link h f _ hs
  have p3 := at_mode h f (sgn (layB h (zeros 8)))
  have p4 := at_uid h f (sgn (layB h (zeros 8)))
  have p5 := at_gid h f (sgn (layB h (zeros 8)))
  have p6 := at_size h f (sgn (layB h (zeros 8)))
  have p7 := at_mtime h f (sgn (layB h (zeros 8)))
  have u0 := upto_pad' f.nameZ f.nameL
  have u2 := upto_pad' f.linkZ f.linkL
  unfold guess
  rw [ht]
  by_cases h77 : h.ty = 77
  · have n9 := get_numB (h := h) (s := ⟨369, 12, 9⟩) hr (f.more h77).2.1
    have n10 := get_numB (h := h) (s := ⟨483, 12, 10⟩) hr (f.more h77).2.2
    have p9 := at_off h f _ hs h77
    have p10 := at_real h f _ hs h77
    have hpre := (f.more h77).1
    unfold blockOf
    simp only [guessN, guessW, wSp, nSp, if_pos h77, List.append_nil, List.cons_append, List.nil_append, List.foldl_cons, List.foldl_nil, piece, p0, p2, p3, p4, p5, p6, p7, p9, p10, u0, u2, n3, n4, n5, n6, n7, n9, n10, Hd.setText, Hd.setNumb, Hd.numb]
    cases h
    simp only at hpre
    subst hpre
    rfl
  · have p1 := at_pre h f _ hs h77
    obtain ⟨o1, o2, l1, z1⟩ := f.less h77
    have u1 := upto_pad' z1 l1
    unfold blockOf
    simp only [guessN, guessW, wSp, nSp, if_neg h77, List.append_nil, List.cons_append, List.nil_append, List.foldl_cons, List.foldl_nil, piece, p0, p1, p2, p3, p4, p5, p6, p7, u0, u1, u2, n3, n4, n5, n6, n7, Hd.setText, Hd.setNumb, Hd.numb]
    cases h
    simp only at o1 o2
    subst o1 o2
    rfl
theorem mem_of_piece {l : List UInt8} {i n : Nat} {x : List UInt8} (h : (l.drop i).take n = x) {c : UInt8} (hc : c ∈ x) : c ∈ l := by
  subst h
  exact List.mem_of_mem_drop (List.mem_of_mem_take hc)
theorem hget_block (h : Hd) (hr : h.R) (f : Fits h) : hget (blockOf h) = (h, 0) := by
  have hs := sgn_length (layB h (zeros 8))
  have hz : isZero (blockOf h) = false := by
    rw [isZero, List.all_eq_false]
    exact ⟨117, mem_of_piece (at_ustar h f _ hs) (by simp [ustar]), by decide⟩
  have he : (((blockOf h).drop 148).take 8 == sgn (blockOf h)) = true := by
    rw [sgn_block h f]; exact beq_iff_eq.2 (at_sum h f _ hs)
  unfold hget
  rw [if_neg (by rw [blockOf_length h f]; simp), if_neg (by rw [hz]; simp), if_neg (by rw [he]; simp), guess_block h hr f, if_pos (by unfold hput; rw [if_pos ((fits_iff h).2 f)])]
theorem hget_cases (b : List UInt8) : (hget b = (hd0, 1) ∧ b.length ≠ 512) ∨ (hget b = (hd0, 4) ∧ b.length = 512 ∧ isZero b = true) ∨ (hget b = (hd0, 3) ∧ b.length = 512 ∧ isZero b = false) ∨
    (hget b = (guess b, 0) ∧ b.length = 512 ∧ isZero b = false ∧ hput (guess b) = some b) ∨ (hget b = (hd0, 2) ∧ b.length = 512 ∧ isZero b = false) := by
  unfold hget
  by_cases h1 : b.length ≠ 512
  · rw [if_pos h1]; exact .inl ⟨rfl, h1⟩
  · rw [if_neg h1]
    have h1' : b.length = 512 := by omega
    by_cases h2 : isZero b = true
    · rw [if_pos h2]; exact .inr (.inl ⟨rfl, h1', h2⟩)
    · rw [if_neg h2]
      have h2' : isZero b = false := by simpa using h2
      by_cases h3 : ((b.drop 148).take 8 == sgn b) = false
      · rw [if_pos h3]; exact .inr (.inr (.inl ⟨rfl, h1', h2'⟩))
      · rw [if_neg h3]
        by_cases h4 : hput (guess b) = some b
        · rw [if_pos h4]; exact .inr (.inr (.inr (.inl ⟨rfl, h1', h2', h4⟩)))
        · rw [if_neg h4]; exact .inr (.inr (.inr (.inr ⟨rfl, h1', h2'⟩)))
theorem hget_good {b : List UInt8} (h : (hget b).2 = 0) : hput (hget b).1 = some b := by
  rcases hget_cases b with ⟨e, _⟩ | ⟨e, _⟩ | ⟨e, _⟩ | ⟨e, _, _, h4⟩ | ⟨e, _⟩ <;> rw [e] at h ⊢ <;> dsimp only at h ⊢
  · cases h
  · cases h
  · cases h
  · exact h4
  · cases h
theorem hget_bad {b : List UInt8} (h : (hget b).2 ≠ 0) : (hget b).1 = hd0 := by
  rcases hget_cases b with ⟨e, _⟩ | ⟨e, _⟩ | ⟨e, _⟩ | ⟨e, _, _, h4⟩ | ⟨e, _⟩ <;> rw [e] at h ⊢ <;> dsimp only at h ⊢
  exact absurd rfl h
theorem hput_some {h : Hd} {b : List UInt8} (e : hput h = some b) : Fits h ∧ blockOf h = b := by
  unfold hput at e
  split at e
  · rename_i hm
    injection e with e
    exact ⟨(fits_iff h).1 hm, e⟩
  · cases e
theorem block_inj {h k : Hd} (hr : h.R) (kr : k.R) (f : Fits h) (g : Fits k) : blockOf h = blockOf k ↔ h = k := by
  constructor
  · intro e
    have h1 := hget_block h hr f
    rw [e, hget_block k kr g] at h1
    injection h1 with h1 _
    exact h1.symm
  · rintro rfl; rfl
end Go.Proofs.YtmjicapjkmkckaaGreatDoor.Rk
/- The laws of headers: spoilt bytes, the sum, the errors. Plain Lean. -/
namespace Go.Proofs.YtmjicapjkmkckaaGreatDoor.Rk
open Go.RowKit
set_option linter.unusedVariables false
set_option linter.unusedSimpArgs false

theorem sumK_set {b : List UInt8} {i : Nat} {c x : UInt8} (hx : b[i]? = some x) : ∀ k, sumK (b.set i c) k + (if i < k then sumB i x else 0) = sumK b k + (if i < k then sumB i c else 0)
  | 0 => by simp [sumK]
  | k + 1 => by
    have ih := sumK_set (b := b) (i := i) (c := c) (x := x) hx k
    have hlt := (List.getElem?_eq_some_iff.1 hx).1
    simp only [sumK]
    by_cases h1 : i < k
    · rw [if_pos h1, if_pos h1] at ih
      rw [if_pos (by omega), if_pos (by omega), List.getElem?_set_ne (by omega)]
      omega
    · rw [if_neg h1, if_neg h1] at ih
      by_cases h2 : i = k
      · subst h2
        rw [if_pos (by omega), if_pos (by omega), List.getElem?_set_self hlt, hx]
        simp only [Option.getD_some]
        omega
      · rw [if_neg (by omega), if_neg (by omega), List.getElem?_set_ne h2]
        omega
theorem sum_set {b : List UInt8} {i : Nat} {c x : UInt8} (hx : b[i]? = some x) (hi : i < 512) : sumK (b.set i c) 512 + sumB i x = sumK b 512 + sumB i c := by
  have := sumK_set (c := c) hx 512
  rwa [if_pos hi, if_pos hi] at this
theorem sgn_inj {b c : List UInt8} (h : sgn b = sgn c) : sumK b 512 = sumK c 512 := by
  unfold sgn at h
  have h1 := sumK_le b 512
  have h2 := sumK_le c 512
  exact octL_inj (k := 6) (by omega) (by omega) (List.append_cancel_right h)
theorem two_marks {b : List UInt8} (hb : (b.drop 257).take 8 = ustar) (i : Nat) (c : UInt8) : isZero (b.set i c) = false := by
  have h0 : b[257]? = some 117 := by
    have := congrArg (fun l => l[0]?) hb
    simpa [List.getElem?_take, List.getElem?_drop, ustar] using this
  have h1 : b[258]? = some 115 := by
    have := congrArg (fun l => l[1]?) hb
    simpa [List.getElem?_take, List.getElem?_drop, ustar] using this
  rw [isZero, List.all_eq_false]
  by_cases h : i = 257
  · refine ⟨115, List.mem_of_getElem? (i := 258) ?_, by decide⟩
    rw [List.getElem?_set_ne (by omega)]; exact h1
  · refine ⟨117, List.mem_of_getElem? (i := 257) ?_, by decide⟩
    rw [List.getElem?_set_ne (by omega)]; exact h0
/-- One byte changed: the sum is another one, or its place is. -/
theorem spoilt (h : Hd) (f : Fits h) {i : Nat} {x c : UInt8} (hx : (blockOf h)[i]? = some x) (hc : x ≠ c) : hget ((blockOf h).set i c) = (hd0, 3) := by
  have hl := blockOf_length h f
  have hi : i < 512 := by have := (List.getElem?_eq_some_iff.1 hx).1; omega
  have hs := sgn_length (layB h (zeros 8))
  have hz : isZero ((blockOf h).set i c) = false := two_marks (b := blockOf h) (at_ustar h f _ hs) i c
  have e0 : ((blockOf h).drop 148).take 8 = sgn (blockOf h) := by rw [sgn_block h f]; exact at_sum h f _ hs
  have key : ((((blockOf h).set i c).drop 148).take 8 == sgn ((blockOf h).set i c)) = false := by
    rw [beq_eq_false_iff_ne]
    intro e
    have hs2 := sum_set (c := c) hx hi
    by_cases h1 : 148 ≤ i ∧ i < 156
    · have h2 : sumK ((blockOf h).set i c) 512 = sumK (blockOf h) 512 := by
        unfold sumB at hs2; rw [if_pos h1, if_pos h1] at hs2; omega
      have h3 : sgn ((blockOf h).set i c) = sgn (blockOf h) := by unfold sgn; rw [h2]
      rw [h3, ← e0] at e
      have h4 := congrArg (fun l => l[i - 148]?) e
      simp only [List.getElem?_take, List.getElem?_drop] at h4
      rw [if_pos (by omega), if_pos (by omega), show 148 + (i - 148) = i from by omega, hx, List.getElem?_set_self (by omega)] at h4
      injection h4 with h4
      exact hc h4.symm
    · have h2 : (((blockOf h).set i c).drop 148).take 8 = ((blockOf h).drop 148).take 8 := by
        apply List.ext_getElem?
        intro j
        rw [List.getElem?_take, List.getElem?_take]
        by_cases hj : j < 8
        · rw [if_pos hj, if_pos hj, List.getElem?_drop, List.getElem?_drop, List.getElem?_set_ne (by omega)]
        · rw [if_neg hj, if_neg hj]
      rw [h2, e0] at e
      have h3 := sgn_inj e
      unfold sumB at hs2; rw [if_neg h1, if_neg h1] at hs2
      have : x.toNat = c.toNat := by omega
      exact hc (UInt8.toNat_inj.1 this)
  unfold hget
  rw [if_neg (by simp; omega), if_neg (by simp [hz]), if_pos key]
theorem sumK_ge (b : List UInt8) : 256 ≤ sumK b 512 := by
  have key : ∀ k, k ≤ 8 → 32 * k ≤ sumK b (148 + k) := by
    intro k
    induction k with
    | zero => intro _; omega
    | succ k ih =>
      intro hk
      have := ih (by omega)
      show 32 * (k + 1) ≤ sumK b (148 + k) + sumB (148 + k) (b[148 + k]?.getD 0)
      have : sumB (148 + k) (b[148 + k]?.getD 0) = 32 := by unfold sumB; rw [if_pos (by omega)]
      omega
  have mono : ∀ k, sumK b 156 ≤ sumK b (156 + k) := by
    intro k
    induction k with
    | zero => exact Nat.le_refl _
    | succ k ih =>
      show sumK b 156 ≤ sumK b (156 + k) + sumB (156 + k) (b[156 + k]?.getD 0)
      exact Nat.le_trans ih (Nat.le_add_right _ _)
  have h1 := key 8 (by omega)
  have h2 := mono 356
  exact Nat.le_trans h1 h2
theorem hget_err (b : List UInt8) : (b.length ≠ 512 → (hget b).2 = 1) ∧ (b.length = 512 → ((hget b).2 = 4 ↔ isZero b = true)) ∧ (b.length = 512 → (hget b).2 = 0 ∨ (hget b).2 = 4 ∨ (hget b).2 = 3 ∨ (hget b).2 = 2) := by
  rcases hget_cases b with ⟨e, h1⟩ | ⟨e, h1, h2⟩ | ⟨e, h1, h2⟩ | ⟨e, h1, h2, _⟩ | ⟨e, h1, h2⟩ <;> rw [e] <;> simp [*]
end Go.Proofs.YtmjicapjkmkckaaGreatDoor.Rk
/- Walks: the document's answers for headers: word, fits, May. -/
namespace Go.Proofs.YtmjicapjkmkckaaGreatDoor.Rk
open Go.RowKit
set_option linter.unusedVariables false
set_option linter.unusedSimpArgs false

theorem mem_take_succ {l : List UInt8} {k : Nat} (hk : k < l.length) {x : UInt8} (hx : l[k] = x) (h0 : (0 : UInt8) ∉ l.take k) (h : x ≠ 0) : (0 : UInt8) ∉ l.take (k + 1) := by
  rw [List.take_succ_eq_append_getElem hk, hx]
  simp [h0, Ne.symm h]
theorem word_calls (l : List UInt8) {n : Int} {r : Bool} (hl : l.length ≤ 9223372036854775807) (hr : (decide ((l.length : Int) ≤ n) && !l.contains 0) = r) (w : World) :
    Calls Tryz.prog 150 #[.string (ofL l), .int .i64 n] w fun e w' => e = .returned (.bool r) ∧ w = w' := by
  have Hr := Au.mk hr
  clear hr
  have hlen : (ofL l).size = l.length := ofL_size l
  go_enter Tryz.func150, Tryz.ntmps150
  go_wp2_with fail
  go_loop [5] (fun i => ∃ k : Nat, k ≤ l.length ∧ i = .int .i64 k ∧ Au ((0 : UInt8) ∉ l.take k)) (fun i => l.length - (intOf i).toNat)
  case atStart => exact ⟨0, Nat.zero_le _, rfl, ⟨by simp⟩⟩
  case round =>
    obtain ⟨k, hk, rfl, H0⟩ := hrel
    by_cases hlt : k < l.length
    · have hk2 : k < (ofL l).size := by rw [ofL_size]; exact hlt
      obtain ⟨x, hx⟩ : ∃ x, (ofL l)[k] = x := ⟨_, rfl⟩
      have hxs : l[k] = x := by rw [← hx]; rfl
      have Hx := Au.mk hxs
      clear hxs
      by_cases h0 : x = 0
      · subst h0
        go_wp2_with fail
        go_ret
        refine ⟨ret_bool ?_, rfl⟩
        rw [← Hr.out]
        have : (0 : UInt8) ∈ l := by rw [← Hx.out]; exact List.getElem_mem hlt
        simp [this]
      · have hx0 : ((x.toNat : Int) == 0) = false := by
          rw [beq_eq_false_iff_ne]; intro h
          exact h0 (UInt8.toNat_inj.1 (by simpa using h))
        have H0' := Au.mk h0
        clear h0
        go_wp2_with fail
        go_round
        case rel => exact ⟨k + 1, by omega, by go_num, ⟨mem_take_succ hlt Hx.out H0.out H0'.out⟩⟩
        case measure => simp [intOf]; omega
    · have hk2 : k = l.length := by omega
      have h0 : (0 : UInt8) ∉ l := by have := H0.out; rwa [hk2, List.take_length] at this
      have hr2 : decide ((l.length : Int) ≤ n) = r := by rw [← Hr.out]; simp [h0]
      clear h0 hk2
      go_wp2_with fail
      go_ret
      exact ⟨rfl, rfl⟩
theorem fits_calls {n wide : Int} {r : Bool} (hr : (put n wide).isSome = r) (hn : R64 n) (w : World) :
    Calls Tryz.prog 151 #[.int .i64 n, .int .i64 wide] w fun e w' => e = .returned (.bool r) ∧ Below w.heap.size w w' := by
  obtain ⟨p, Hp⟩ := au ((put n wide).getD [])
  have Hr := Au.mk hr
  clear hr
  go_enter Tryz.func151, Tryz.ntmps151
  go_wp2_with fail
  refine (rput_view Hp.out Hr.out hn _).mono ?_
  rintro e w1 ⟨A, c, rfl, s1, b1⟩
  go_wp2_with fail
  go_ret
  exact ⟨rfl, b1⟩
end Go.Proofs.YtmjicapjkmkckaaGreatDoor.Rk
/- Walks: the document's answers for headers: May. -/
namespace Go.Proofs.YtmjicapjkmkckaaGreatDoor.Rk
open Go.RowKit
set_option linter.unusedVariables false
set_option linter.unusedSimpArgs false

def wordR (l : List UInt8) (n : Int) : Bool := decide ((l.length : Int) ≤ n) && !l.contains 0
theorem wordR_iff {l : List UInt8} {n : Nat} : wordR l n = true ↔ l.length ≤ n ∧ (0 : UInt8) ∉ l := by simp [wordR]
def fitsR (n wide : Int) : Bool := (put n wide).isSome
theorem fitsR_iff {n wide : Int} : fitsR n wide = true ↔ ∃ l, put n wide = some l := Option.isSome_iff_exists
def tyR (h : Hd) : Bool := if h.ty = 77 then h.pre == [] && fitsR h.off 12 && fitsR h.real 12 else tyOk h.ty && (h.off == 0 && h.real == 0)
theorem rmay_law (h : Hd) : hmay h = (wordR h.name 100 && (wordR h.link 100 && (wordR h.pre 155 && (fitsR h.mode 8 && (fitsR h.uid 8 && (fitsR h.gid 8 && (fitsR h.size 12 && (fitsR h.mtime 12 && (!(h.name == []) && tyR h))))))))) := by
  rw [Bool.eq_iff_iff, fits_iff]
  simp only [Bool.and_eq_true, Bool.not_eq_true', beq_eq_false_iff_ne]
  have w1 : wordR h.name 100 = true ↔ h.name.length ≤ 100 ∧ (0 : UInt8) ∉ h.name := wordR_iff (n := 100)
  have w2 : wordR h.link 100 = true ↔ h.link.length ≤ 100 ∧ (0 : UInt8) ∉ h.link := wordR_iff (n := 100)
  have w3 : wordR h.pre 155 = true ↔ h.pre.length ≤ 155 ∧ (0 : UInt8) ∉ h.pre := wordR_iff (n := 155)
  have f4 := fitsR_iff (n := h.mode) (wide := 8)
  have f5 := fitsR_iff (n := h.uid) (wide := 8)
  have f6 := fitsR_iff (n := h.gid) (wide := 8)
  have f7 := fitsR_iff (n := h.size) (wide := 12)
  have f8 := fitsR_iff (n := h.mtime) (wide := 12)
  have f9 := fitsR_iff (n := h.off) (wide := 12)
  have f10 := fitsR_iff (n := h.real) (wide := 12)
  constructor
  · intro f
    have hp : h.pre.length ≤ 155 ∧ (0 : UInt8) ∉ h.pre := by
      by_cases h77 : h.ty = 77
      · rw [(f.more h77).1]; simp
      · exact (f.less h77).2.2
    refine ⟨w1.2 ⟨f.nameL, f.nameZ⟩, w2.2 ⟨f.linkL, f.linkZ⟩, w3.2 hp, f4.2 f.mode, f5.2 f.uid, f6.2 f.gid, f7.2 f.size, f8.2 f.mtime, f.name0, ?_⟩
    unfold tyR
    by_cases h77 : h.ty = 77
    · rw [if_pos h77]; simp [(f.more h77).1, f9.2 (f.more h77).2.1, f10.2 (f.more h77).2.2]
    · rw [if_neg h77]; simp [f.ty, (f.less h77).1, (f.less h77).2.1]
  · rintro ⟨a1, a2, a3, a4, a5, a6, a7, a8, a9, a10⟩
    unfold tyR at a10
    by_cases h77 : h.ty = 77
    · rw [if_pos h77] at a10
      simp only [Bool.and_eq_true, beq_iff_eq] at a10
      exact ⟨a9, by rw [h77]; decide, (w1.1 a1).1, (w1.1 a1).2, (w2.1 a2).1, (w2.1 a2).2, f4.1 a4, f5.1 a5, f6.1 a6, f7.1 a7, f8.1 a8, fun _ => ⟨a10.1.1, f9.1 a10.1.2, f10.1 a10.2⟩, fun h => absurd h77 h⟩
    · rw [if_neg h77] at a10
      simp only [Bool.and_eq_true, beq_iff_eq] at a10
      exact ⟨a9, a10.1, (w1.1 a1).1, (w1.1 a1).2, (w2.1 a2).1, (w2.1 a2).2, f4.1 a4, f5.1 a5, f6.1 a6, f7.1 a7, f8.1 a8, fun h => absurd h h77, fun _ => ⟨a10.2.1, a10.2.2, (w3.1 a3).1, (w3.1 a3).2⟩⟩

def Hd.S (h : Hd) : Prop := h.name.length ≤ 200 ∧ h.pre.length ≤ 200 ∧ h.link.length ≤ 200
set_option maxHeartbeats 4000000 in
theorem rmay_calls (h : Hd) (hr : h.R) (hz : h.S) {m : Bool} (hm : hmay h = m) (w : World) :
    Calls Tryz.prog 118 #[h.agg] w fun e w' => e = .returned (.bool m) ∧ Below w.heap.size w w' := by
  rw [rmay_law] at hm
  obtain ⟨z1, z2, z3⟩ := hz
  obtain ⟨r4, r5, r6, r7, r8, r9, r10⟩ := hr
  obtain ⟨b1, H1⟩ := au (wordR h.name 100)
  obtain ⟨b2, H2⟩ := au (wordR h.link 100)
  obtain ⟨b3, H3⟩ := au (wordR h.pre 155)
  obtain ⟨b4, H4⟩ := au (fitsR h.mode 8)
  obtain ⟨b5, H5⟩ := au (fitsR h.uid 8)
  obtain ⟨b6, H6⟩ := au (fitsR h.gid 8)
  obtain ⟨b7, H7⟩ := au (fitsR h.size 12)
  obtain ⟨b8, H8⟩ := au (fitsR h.mtime 12)
  obtain ⟨b9, H9⟩ := au (h.name == [])
  rw [H1.out, H2.out, H3.out, H4.out, H5.out, H6.out, H7.out, H8.out, H9.out] at hm
  have h9 := H9.out
  have hg0 : (w.alloc (.cells h.cells.toArray 79)).heap[w.heap.size]? = some (.cells h.cells.toArray 79 (0, 0)) := heap_alloc_new _ _
  have Hg0 := Au.mk hg0
  have hb0 := (Below.refl w.heap.size w).alloc (Nat.le_refl _) (.cells h.cells.toArray 79)
  clear hg0
  have key : ∀ (W : World), W.heap[w.heap.size]? = some (.cells h.cells.toArray 79 (0, 0)) → ∀ W', Below W.heap.size W W' → W'.heap[w.heap.size]? = some (.cells h.cells.toArray 79 (0, 0)) :=
    fun W h1 W' h2 => blk_below h1 h2 (lt_of_block h1)
  have Hm := Au.mk hm
  clear hm
  have c2 := blk_cell Hg0.out 2 rfl
  unfold Hd.agg
  go_enter Tryz.func118, Tryz.ntmps118
  go_wp2_with fail
  refine (word_calls _ (by omega) H1.out _).mono ?_
  rintro e w1 ⟨rfl, rfl⟩
  go_wp2_with fail
  refine (word_calls _ (by omega) H2.out _).mono ?_
  rintro e w1 ⟨rfl, rfl⟩
  go_wp2_with fail
  refine (word_calls _ (by omega) H3.out _).mono ?_
  rintro e w1 ⟨rfl, rfl⟩
  go_wp2_with fail
  refine (fits_calls H4.out r4 _).mono ?_
  rintro e w4 ⟨rfl, d4⟩
  have g4 := key _ Hg0.out _ d4
  have x4 := blk_cell g4 4 rfl
  have e4 := below_then hb0 d4 hb0.size
  have G4 := Au.mk g4
  clear g4 d4
  go_wp2_with fail
  refine (fits_calls H5.out r5 _).mono ?_
  rintro e w5 ⟨rfl, d5⟩
  have g5 := key _ G4.out _ d5
  have x5 := blk_cell g5 5 rfl
  have e5 := below_then e4 d5 e4.size
  have G5 := Au.mk g5
  clear g5 d5 e4
  go_wp2_with fail
  refine (fits_calls H6.out r6 _).mono ?_
  rintro e w6 ⟨rfl, d6⟩
  have g6 := key _ G5.out _ d6
  have x6 := blk_cell g6 6 rfl
  have e6 := below_then e5 d6 e5.size
  have G6 := Au.mk g6
  clear g6 d6 e5
  go_wp2_with fail
  refine (fits_calls H7.out r7 _).mono ?_
  rintro e w7 ⟨rfl, d7⟩
  have g7 := key _ G6.out _ d7
  have x7 := blk_cell g7 7 rfl
  have e7 := below_then e6 d7 e6.size
  have G7 := Au.mk g7
  clear g7 d7 e6
  go_wp2_with fail
  refine (fits_calls H8.out r8 _).mono ?_
  rintro e w8 ⟨rfl, d8⟩
  have g8 := key _ G7.out _ d8
  have x80 := blk_cell g8 0 rfl
  have x81 := blk_cell g8 1 rfl
  have x88 := blk_cell g8 8 rfl
  have x89 := blk_cell g8 9 rfl
  have x90 := blk_cell g8 10 rfl
  have e8 := below_then e7 d8 e7.size
  have G8 := Au.mk g8
  clear g8 d8 e7
  cases b1
  case false =>
    go_wp2_with fail
    go_ret
    exact ⟨ret_bool (by rw [← Hm.out]; rfl), e8⟩
  cases b2
  case false =>
    go_wp2_with fail
    go_ret
    exact ⟨ret_bool (by rw [← Hm.out]; rfl), e8⟩
  cases b3
  case false =>
    go_wp2_with fail
    go_ret
    exact ⟨ret_bool (by rw [← Hm.out]; rfl), e8⟩
  cases b4
  case false =>
    go_wp2_with fail
    go_ret
    exact ⟨ret_bool (by rw [← Hm.out]; rfl), e8⟩
  cases b5
  case false =>
    go_wp2_with fail
    go_ret
    exact ⟨ret_bool (by rw [← Hm.out]; rfl), e8⟩
  cases b6
  case false =>
    go_wp2_with fail
    go_ret
    exact ⟨ret_bool (by rw [← Hm.out]; rfl), e8⟩
  cases b7
  case false =>
    go_wp2_with fail
    go_ret
    exact ⟨ret_bool (by rw [← Hm.out]; rfl), e8⟩
  cases b8
  case false =>
    go_wp2_with fail
    go_ret
    exact ⟨ret_bool (by rw [← Hm.out]; rfl), e8⟩
  cases b9
  case true =>
    go_wp2_with fail
    go_ret
    exact ⟨ret_bool (by rw [← Hm.out]; rfl), e8⟩
  have hm2 : tyR h = m := by rw [← Hm.out]; rfl
  unfold tyR at hm2
  by_cases h77 : h.ty = 77
  · rw [if_pos h77] at hm2
    have ht : (h.ty.toNat : Int) = 77 := by rw [h77]; rfl
    obtain ⟨q1, Q1⟩ := au (fitsR h.off 12)
    obtain ⟨q2, Q2⟩ := au (fitsR h.real 12)
    obtain ⟨q3, Q3⟩ := au (h.pre == [])
    rw [Q1.out, Q2.out, Q3.out] at hm2
    have q3h := Q3.out
    have Hm2 := Au.mk hm2
    rw [ht] at x88
    clear hm2 h77 ht
    go_wp2_with fail
    refine (fits_calls Q1.out r9 _).mono ?_
    rintro e w9 ⟨rfl, d9⟩
    have g9 := key _ G8.out _ d9
    have x9 := blk_cell g9 10 rfl
    have e9 := below_then e8 d9 e8.size
    have G9 := Au.mk g9
    clear g9 d9 e8
    go_wp2_with fail
    refine (fits_calls Q2.out r10 _).mono ?_
    rintro e w10 ⟨rfl, d10⟩
    have g10 := key _ G9.out _ d10
    have x10 := blk_cell g10 1 rfl
    have e10 := below_then e9 d10 e9.size
    clear g10 d10 e9
    cases q1 <;> cases q2 <;> cases q3
    all_goals
      go_wp2_with fail
      go_ret
      exact ⟨ret_bool (by rw [← Hm2.out]; rfl), e10⟩
  · rw [if_neg h77] at hm2
    obtain ⟨q2, Q2⟩ := au (h.off == 0)
    obtain ⟨q3, Q3⟩ := au (h.real == 0)
    rw [Q2.out, Q3.out] at hm2
    have q2h := Q2.out
    have q3h := Q3.out
    have cs : (h.ty.toNat : Int) = 48 ∨ (h.ty.toNat : Int) = 49 ∨ (h.ty.toNat : Int) = 50 ∨ (h.ty.toNat : Int) = 53 ∨ (h.ty.toNat : Int) = 75 ∨ (h.ty.toNat : Int) = 76 ∨ (h.ty.toNat : Int) = 86 ∨
        (((h.ty.toNat : Int) == 48) = false ∧ ((h.ty.toNat : Int) == 49) = false ∧ ((h.ty.toNat : Int) == 50) = false ∧ ((h.ty.toNat : Int) == 53) = false ∧ ((h.ty.toNat : Int) == 75) = false ∧ ((h.ty.toNat : Int) == 76) = false ∧ ((h.ty.toNat : Int) == 86) = false ∧ ((h.ty.toNat : Int) == 77) = false) := by
      have : ¬ (h.ty.toNat : Int) = 77 := fun e => h77 (UInt8.toNat_inj.1 (by simpa using (show h.ty.toNat = 77 by omega)))
      simp only [beq_eq_false_iff_ne]
      omega
    have ok : ∀ n : UInt8, (h.ty.toNat : Int) = (n.toNat : Int) → tyOk n = true → tyOk h.ty = true := fun n e1 e2 => by
      have : h.ty = n := UInt8.toNat_inj.1 (by omega)
      rw [this]; exact e2
    have Ok := Au.mk ok
    have Hm2 := Au.mk hm2
    clear hm2 h77 ok
    rcases cs with ht | ht | ht | ht | ht | ht | ht | ⟨n1, n2, n3, n4, n5, n6, n7, n8⟩
    case' inl => have hm3 : (q2 && q3) = m := by rw [← Hm2.out, Ok.out 48 ht (by decide)]; rfl
    case' inr.inl => have hm3 : (q2 && q3) = m := by rw [← Hm2.out, Ok.out 49 ht (by decide)]; rfl
    case' inr.inr.inl => have hm3 : (q2 && q3) = m := by rw [← Hm2.out, Ok.out 50 ht (by decide)]; rfl
    case' inr.inr.inr.inl => have hm3 : (q2 && q3) = m := by rw [← Hm2.out, Ok.out 53 ht (by decide)]; rfl
    case' inr.inr.inr.inr.inl => have hm3 : (q2 && q3) = m := by rw [← Hm2.out, Ok.out 75 ht (by decide)]; rfl
    case' inr.inr.inr.inr.inr.inl => have hm3 : (q2 && q3) = m := by rw [← Hm2.out, Ok.out 76 ht (by decide)]; rfl
    case' inr.inr.inr.inr.inr.inr.inl => have hm3 : (q2 && q3) = m := by rw [← Hm2.out, Ok.out 86 ht (by decide)]; rfl
    case inr.inr.inr.inr.inr.inr.inr =>
      have ht : tyOk h.ty = false := by
        simp only [beq_eq_false_iff_ne] at n1 n2 n3 n4 n5 n6 n7 n8
        simp only [tyOk, List.contains_eq_mem, decide_eq_false_iff_not, List.mem_cons, List.not_mem_nil, or_false]
        rintro (e | e | e | e | e | e | e | e) <;> rw [e] at n1 n2 n3 n4 n5 n6 n7 n8 <;> contradiction
      have hm3 : false = m := by rw [← Hm2.out, ht]; rfl
      clear ht Ok Hm2
      have Hm3 := Au.mk hm3
      clear hm3
      go_wp2_with fail
      go_ret
      exact ⟨ret_bool Hm3.out, e8⟩
    all_goals
      rw [ht] at x88
      have Hm3 := Au.mk hm3
      clear ht Ok hm3 Hm2
      cases q2 <;> cases q3
      all_goals
        go_wp2_with fail
        go_ret
        exact ⟨ret_bool (by rw [← Hm3.out]; rfl), e8⟩
end Go.Proofs.YtmjicapjkmkckaaGreatDoor.Rk
/- Walks: the document's answers for headers: lay, number. -/
namespace Go.Proofs.YtmjicapjkmkckaaGreatDoor.Rk
open Go.RowKit
set_option linter.unusedVariables false
set_option linter.unusedSimpArgs false

theorem splice_step {l x : List UInt8} {i k : Nat} (hf : i + x.length ≤ l.length) (hk : k < x.length) {y : UInt8} (hy : x[k] = y) : (splice l i (x.take k)).set (i + k) y = splice l i (x.take (k + 1)) := by
  apply List.ext_getElem?
  intro j
  have h1 : (x.take k).length = k := by rw [List.length_take]; omega
  have h2 : (x.take (k + 1)).length = k + 1 := by rw [List.length_take]; omega
  rw [splice_at _ _ _ _ (by rw [h2]; omega), h2]
  by_cases e : j = i + k
  · subst e
    rw [List.getElem?_set_self (by rw [splice_length _ _ _ (by rw [h1]; omega)]; omega), if_neg (by omega), if_pos (by omega), List.getElem?_take, if_pos (by omega), show i + k - i = k from by omega, List.getElem?_eq_getElem hk, hy]
  · rw [List.getElem?_set_ne (by omega), splice_at _ _ _ _ (by rw [h1]; omega), h1]
    by_cases h3 : j < i
    · rw [if_pos h3, if_pos h3]
    · rw [if_neg h3, if_neg h3]
      by_cases h4 : j < i + k
      · rw [if_pos h4, if_pos (by omega), List.getElem?_take, List.getElem?_take, if_pos (by omega), if_pos (by omega)]
      · rw [if_neg h4, if_neg (by omega)]

theorem lay_calls (g : Nat) (pg : List UInt8) {n i : Nat} (x : List UInt8) {p : List UInt8} (hp : splice pg i x = p) {A : Option Addr} {c : Nat} {F : Nat → Prop} (w : World) (hg : w.heap[g]? = some (.cells (bcs pg).toArray 5 (0, 0))) (hn : pg.length = n) (hn2 : n ≤ 9223372036854775807)
    (hfit : i + x.length ≤ n) (hs : Sl Kd.byte w F A c x) (hF : ¬ F g) :
    Calls Tryz.prog 119 #[.slice (some ⟨g, 0, none⟩) n n, .int .i64 i, .slice A x.length c] w fun e w' =>
      e = .returned (.slice (some ⟨g, 0, none⟩) n n) ∧ w'.heap[g]? = some (.cells (bcs p).toArray 5 (0, 0)) ∧ w.grownBy w' (some g) := by
  have Hp := Au.mk hp
  have Hn := Au.mk hn
  clear hp hn
  have Hg := Au.mk hg
  clear hg
  go_enter Tryz.func119, Tryz.ntmps119
  go_wp2_with fail
  go_loopw [7] (fun j wr => ∃ k : Nat, ∃ cs : List Value, k ≤ x.length ∧ j = .int .i64 k ∧ Au (cs = bcs (splice pg i (x.take k))) ∧ Au (wr.heap[g]? = some (.cells cs.toArray 5 (0, 0))) ∧ w.grownBy wr (some g)) (fun j _ => x.length - (intOf j).toNat)
  case atStart => exact ⟨0, _, Nat.zero_le _, rfl, ⟨by rw [List.take_zero, splice_nil]⟩, Hg, grown_of (.refl _ _) _⟩
  case round =>
    obtain ⟨k, cs, hk, rfl, Hcs, Hc, hgr⟩ := hrel
    have hsk := hs.grown hgr (fun g' e => by injection e with e; subst e; exact hF)
    by_cases hlt : k < x.length
    · obtain ⟨b, o, rfl, ck⟩ := hsk.byte_at k hlt
      obtain ⟨y, hy⟩ : ∃ y, x[k] = y := ⟨_, rfl⟩
      rw [hy] at ck
      have Hy := Au.mk hy
      clear hy
      have hln : cs.length = n := by
        rw [Hcs.out, bcs_length, splice_length _ _ _ (by rw [List.length_take, Hn.out]; omega), Hn.out]
      obtain ⟨v, hv⟩ : ∃ v, cs[i + k]? = some v := ⟨_, List.getElem?_eq_getElem (by omega)⟩
      have q3 := blk_cell Hc.out (i + k) hv
      have q4 := blk_free Hc.out (i + k)
      have hik : i + k < n := by omega
      clear hln hv
      go_wp2_with fail
      go_roundw
      case rel =>
        refine ⟨k + 1, cs.set (i + k) (.int .u8 y.toNat), by omega, by go_num, ⟨?_⟩, ⟨?_⟩, ?_⟩
        · rw [Hcs.out, bcs_set, splice_step (by rw [Hn.out]; omega) hlt Hy.out]
        · exact blk_set Hc.out _ _
        · exact grown_set hgr (.inl rfl) _
      case measure => simp [intOf]; omega
    · have hk2 : k = x.length := by omega
      have e : Au (cs = bcs p) := ⟨by rw [Hcs.out, hk2, List.take_length, Hp.out]⟩
      clear hk2
      go_wp2_with fail
      go_ret
      exact ⟨rfl, by rw [← e.out]; exact Hc.out, hgr⟩
theorem number_calls04 (g : Nat) (pg : List UInt8) {i : Nat} {m wide : Int} {q p : List UInt8} {n : Nat} (hq : (put m wide).getD [] = q) (hm : R64 m) (hp : splice pg i q = p) (w : World) (hg : w.heap[g]? = some (.cells (bcs pg).toArray 5 (0, 0))) (hn : pg.length = n) (hn2 : n ≤ 9223372036854775807)
    (hfit : i + q.length ≤ n) :
    Calls Tryz.prog 120 #[.slice (some ⟨g, 0, none⟩) n n, .int .i64 i, .int .i64 wide, .int .i64 m] w fun e w' =>
      e = .returned (.slice (some ⟨g, 0, none⟩) n n) ∧ w'.heap[g]? = some (.cells (bcs p).toArray 5 (0, 0)) ∧ w.grownBy w' (some g) := by
  obtain ⟨b, Hb⟩ := au (put m wide).isSome
  have Hq := Au.mk hq
  have Hp := Au.mk hp
  have Hn := Au.mk hn
  have Hg := Au.mk hg
  have Hf := Au.mk hfit
  clear hq hp hn hg hfit
  go_enter Tryz.func120, Tryz.ntmps120
  go_wp2_with fail
  refine (rput_view Hq.out Hb.out hm _).mono ?_
  rintro e w1 ⟨A, c, rfl, s1, b1⟩
  have g1 := blk_below Hg.out b1 (lt_of_block Hg.out)
  have G1 := Au.mk g1
  have hne := lt_of_block Hg.out
  clear g1
  go_wp2_with fail
  refine (lay_calls g pg q Hp.out _ G1.out Hn.out hn2 Hf.out s1 (by omega)).mono ?_
  rintro e w2 ⟨rfl, h2, g2⟩
  go_wp2_with fail
  go_ret
  exact ⟨rfl, h2, grown_trans (grown_of b1 _) g2⟩
end Go.Proofs.YtmjicapjkmkckaaGreatDoor.Rk
/- Walks: the document's answers for headers: Put. -/
namespace Go.Proofs.YtmjicapjkmkckaaGreatDoor.Rk
open Go.RowKit
set_option linter.unusedVariables false
set_option linter.unusedSimpArgs false

def pg6 (h : Hd) : List UInt8 := splice (splice (splice (splice (splice (splice (zeros 512) 0 h.name) 100 (numB h ⟨100, 8, 3⟩)) 108 (numB h ⟨108, 8, 4⟩)) 116 (numB h ⟨116, 8, 5⟩)) 124 (numB h ⟨124, 12, 6⟩)) 136 (numB h ⟨136, 12, 7⟩)
def pg9 (h : Hd) : List UInt8 := splice (splice (splice (pg6 h) 156 [h.ty]) 157 h.link) 257 ustar
theorem set_splice (l : List UInt8) (i : Nat) (x : UInt8) (h : i < l.length) : l.set i x = splice l i [x] := by
  have := splice_step (l := l) (x := [x]) (i := i) (k := 0) (by simp; omega) (by simp) (y := x) rfl
  simpa [splice_nil] using this
theorem pg_more (h : Hd) (f : Fits h) (h77 : h.ty = 77) : splice (splice (pg9 h) 369 (numB h ⟨369, 12, 9⟩)) 483 (numB h ⟨483, 12, 10⟩) = layB h (zeros 8) := by
  have L1 : (numB h ⟨100, 8, 3⟩).length = 8 := numB_len f.mode
  have L2 : (numB h ⟨108, 8, 4⟩).length = 8 := numB_len f.uid
  have L3 : (numB h ⟨116, 8, 5⟩).length = 8 := numB_len f.gid
  have L4 : (numB h ⟨124, 12, 6⟩).length = 12 := numB_len f.size
  have L5 : (numB h ⟨136, 12, 7⟩).length = 12 := numB_len f.mtime
  have N1 := f.nameL
  have N2 := f.linkL
  have P1 : (pad 100 h.name).length = 100 := pad_length f.nameL
  have P2 : (pad 100 h.link).length = 100 := pad_length f.linkL
  have U := ustar_length
  obtain ⟨_, q1, q2⟩ := f.more h77
  have L6 : (numB h ⟨369, 12, 9⟩).length = 12 := numB_len q1
  have L7 : (numB h ⟨483, 12, 10⟩).length = 12 := numB_len q2
  have e3 : layB h (zeros 8) = ([pad 100 h.name, numB h ⟨100, 8, 3⟩, numB h ⟨108, 8, 4⟩, numB h ⟨116, 8, 5⟩, numB h ⟨124, 12, 6⟩, numB h ⟨136, 12, 7⟩, zeros 8, [h.ty], pad 100 h.link, ustar, zeros 80, zeros 24, numB h ⟨369, 12, 9⟩, zeros 102, numB h ⟨483, 12, 10⟩, zeros 17] : List (List UInt8)).flatten := by
    rw [layB, segsB, if_pos h77]; rfl
  rw [e3, pg9, pg6, zeros_split]
  clear h77 e3 q1 q2 f
  (rw [splice_zset 0 (n := 100) rfl (by simp [zeros_length, *]) (by assumption)]; simp only [List.set_cons_succ, List.set_cons_zero])
  (rw [splice_set 1 rfl (by simp [zeros_length, *]) (by simp [zeros_length, *])]; simp only [List.set_cons_succ, List.set_cons_zero])
  (rw [splice_set 2 rfl (by simp [zeros_length, *]) (by simp [zeros_length, *])]; simp only [List.set_cons_succ, List.set_cons_zero])
  (rw [splice_set 3 rfl (by simp [zeros_length, *]) (by simp [zeros_length, *])]; simp only [List.set_cons_succ, List.set_cons_zero])
  (rw [splice_set 4 rfl (by simp [zeros_length, *]) (by simp [zeros_length, *])]; simp only [List.set_cons_succ, List.set_cons_zero])
  (rw [splice_set 5 rfl (by simp [zeros_length, *]) (by simp [zeros_length, *])]; simp only [List.set_cons_succ, List.set_cons_zero])
  (rw [splice_set 7 rfl (by simp [zeros_length, *]) (by simp [zeros_length, *])]; simp only [List.set_cons_succ, List.set_cons_zero])
  (rw [splice_zset 8 (n := 100) rfl (by simp [zeros_length, *]) (by assumption)]; simp only [List.set_cons_succ, List.set_cons_zero])
  (rw [splice_set 9 rfl (by simp [zeros_length, *]) (by simp [zeros_length, *])]; simp only [List.set_cons_succ, List.set_cons_zero])
  (rw [splice_set 12 rfl (by simp [zeros_length, *]) (by simp [zeros_length, *])]; simp only [List.set_cons_succ, List.set_cons_zero])
  (rw [splice_set 14 rfl (by simp [zeros_length, *]) (by simp [zeros_length, *])]; simp only [List.set_cons_succ, List.set_cons_zero])
theorem pg_less (h : Hd) (f : Fits h) (h77 : ¬ h.ty = 77) : splice (pg9 h) 345 h.pre = layB h (zeros 8) := by
  have L1 : (numB h ⟨100, 8, 3⟩).length = 8 := numB_len f.mode
  have L2 : (numB h ⟨108, 8, 4⟩).length = 8 := numB_len f.uid
  have L3 : (numB h ⟨116, 8, 5⟩).length = 8 := numB_len f.gid
  have L4 : (numB h ⟨124, 12, 6⟩).length = 12 := numB_len f.size
  have L5 : (numB h ⟨136, 12, 7⟩).length = 12 := numB_len f.mtime
  have N1 := f.nameL
  have N2 := f.linkL
  have P1 : (pad 100 h.name).length = 100 := pad_length f.nameL
  have P2 : (pad 100 h.link).length = 100 := pad_length f.linkL
  have U := ustar_length
  obtain ⟨_, _, N3, _⟩ := f.less h77
  have P3 : (pad 155 h.pre).length = 155 := pad_length N3
  have e3 : layB h (zeros 8) = ([pad 100 h.name, numB h ⟨100, 8, 3⟩, numB h ⟨108, 8, 4⟩, numB h ⟨116, 8, 5⟩, numB h ⟨124, 12, 6⟩, numB h ⟨136, 12, 7⟩, zeros 8, [h.ty], pad 100 h.link, ustar, zeros 80, pad 155 h.pre, zeros 12] : List (List UInt8)).flatten := by
    rw [layB, segsB, if_neg h77]; rfl
  rw [e3, pg9, pg6, zeros_split']
  clear h77 e3 f
  (rw [splice_zset 0 (n := 100) rfl (by simp [zeros_length, *]) (by assumption)]; simp only [List.set_cons_succ, List.set_cons_zero])
  (rw [splice_set 1 rfl (by simp [zeros_length, *]) (by simp [zeros_length, *])]; simp only [List.set_cons_succ, List.set_cons_zero])
  (rw [splice_set 2 rfl (by simp [zeros_length, *]) (by simp [zeros_length, *])]; simp only [List.set_cons_succ, List.set_cons_zero])
  (rw [splice_set 3 rfl (by simp [zeros_length, *]) (by simp [zeros_length, *])]; simp only [List.set_cons_succ, List.set_cons_zero])
  (rw [splice_set 4 rfl (by simp [zeros_length, *]) (by simp [zeros_length, *])]; simp only [List.set_cons_succ, List.set_cons_zero])
  (rw [splice_set 5 rfl (by simp [zeros_length, *]) (by simp [zeros_length, *])]; simp only [List.set_cons_succ, List.set_cons_zero])
  (rw [splice_set 7 rfl (by simp [zeros_length, *]) (by simp [zeros_length, *])]; simp only [List.set_cons_succ, List.set_cons_zero])
  (rw [splice_zset 8 (n := 100) rfl (by simp [zeros_length, *]) (by assumption)]; simp only [List.set_cons_succ, List.set_cons_zero])
  (rw [splice_set 9 rfl (by simp [zeros_length, *]) (by simp [zeros_length, *])]; simp only [List.set_cons_succ, List.set_cons_zero])
  (rw [splice_zset 11 (n := 155) rfl (by simp [zeros_length, *]) (by assumption)]; simp only [List.set_cons_succ, List.set_cons_zero])
theorem splice_len {l x : List UInt8} {i n : Nat} (h : l.length = n) (hf : i + x.length ≤ n) : (splice l i x).length = n := by rw [splice_length _ _ _ (by omega), h]
/-- The pages on the way. -/
structure Pages (h : Hd) (p1 p2 p3 p4 p5 p6 p7 p8 p9 : List UInt8) : Prop where
  e1 : splice (zeros 512) 0 h.name = p1
  e2 : splice p1 100 (numB h ⟨100, 8, 3⟩) = p2
  e3 : splice p2 108 (numB h ⟨108, 8, 4⟩) = p3
  e4 : splice p3 116 (numB h ⟨116, 8, 5⟩) = p4
  e5 : splice p4 124 (numB h ⟨124, 12, 6⟩) = p5
  e6 : splice p5 136 (numB h ⟨136, 12, 7⟩) = p6
  e7 : p6.set 156 h.ty = p7
  e8 : splice p7 157 h.link = p8
  e9 : splice p8 257 ustar = p9
  l1 : p1.length = 512
  l2 : p2.length = 512
  l3 : p3.length = 512
  l4 : p4.length = 512
  l5 : p5.length = 512
  l6 : p6.length = 512
  l7 : p7.length = 512
  l8 : p8.length = 512
  l9 : p9.length = 512
  e : p9 = pg9 h
theorem pages (h : Hd) (f : Fits h) : ∃ p1 p2 p3 p4 p5 p6 p7 p8 p9, Pages h p1 p2 p3 p4 p5 p6 p7 p8 p9 := by
  have L1 : (numB h ⟨100, 8, 3⟩).length = 8 := numB_len f.mode
  have L2 : (numB h ⟨108, 8, 4⟩).length = 8 := numB_len f.uid
  have L3 : (numB h ⟨116, 8, 5⟩).length = 8 := numB_len f.gid
  have L4 : (numB h ⟨124, 12, 6⟩).length = 12 := numB_len f.size
  have L5 : (numB h ⟨136, 12, 7⟩).length = 12 := numB_len f.mtime
  have N1 := f.nameL
  have N2 := f.linkL
  have U := ustar_length
  have l1 : (splice (zeros 512) 0 h.name).length = 512 := splice_len (zeros_length _) (by omega)
  have l2 := splice_len (x := numB h ⟨100, 8, 3⟩) (i := 100) l1 (by omega)
  have l3 := splice_len (x := numB h ⟨108, 8, 4⟩) (i := 108) l2 (by omega)
  have l4 := splice_len (x := numB h ⟨116, 8, 5⟩) (i := 116) l3 (by omega)
  have l5 := splice_len (x := numB h ⟨124, 12, 6⟩) (i := 124) l4 (by omega)
  have l6 := splice_len (x := numB h ⟨136, 12, 7⟩) (i := 136) l5 (by omega)
  have l7 := splice_len (x := [h.ty]) (i := 156) l6 (by simp)
  have l8 := splice_len (x := h.link) (i := 157) l7 (by omega)
  have l9 := splice_len (x := ustar) (i := 257) l8 (by omega)
  refine ⟨_, _, _, _, _, _, _, _, _, ⟨rfl, rfl, rfl, rfl, rfl, rfl, ?_, rfl, rfl, l1, l2, l3, l4, l5, l6, l7, l8, l9, rfl⟩⟩
  exact set_splice _ _ _ (by rw [l6]; decide)
end Go.Proofs.YtmjicapjkmkckaaGreatDoor.Rk
/- Walks: the document's answers for headers: Put. -/
namespace Go.Proofs.YtmjicapjkmkckaaGreatDoor.Rk
open Go.RowKit
set_option linter.unusedVariables false
set_option linter.unusedSimpArgs false

theorem rput04_no (h : Hd) (hr : h.R) (hz : h.S) (hm : hmay h = false) (w : World) :
    Calls Tryz.prog 78 #[h.agg] w fun e w' => e = .returned (.tuple #[.slice none 0 0, .bool false]) ∧ Below w.heap.size w w' := by
  have Hm := Au.mk hm
  have Hr := Au.mk hr
  have hb0 := (Below.refl w.heap.size w).alloc (Nat.le_refl _) (.cells h.cells.toArray 79)
  clear hm hr
  unfold Hd.agg
  go_enter Tryz.func78, Tryz.ntmps78
  go_wp2_with fail
  refine (rmay_calls h Hr.out hz Hm.out _).mono ?_
  rintro e w1 ⟨rfl, b1⟩
  go_wp2_with fail
  go_ret2
  exact ⟨rfl, below_then hb0 b1 hb0.size⟩

theorem bytes_after (w : World) (o : Obj) (e : TypeId) (x : List UInt8) (hx : x.length ≤ 1000000) : Sl Kd.byte (Lib.bytesWorld (w.alloc o).drew e (ofL x)) (fun k => w.heap.size + 1 ≤ k) (some ⟨w.heap.size + 1, 0, none⟩) (bytesCap (w.alloc o).drew e x) x := by
  have h : (w.alloc o).drew.heap.size = w.heap.size + 1 := by show (w.alloc o).heap.size = _; simp
  have h2 := bytesWorld_sl (w.alloc o).drew e x hx
  rw [h] at h2
  exact h2
theorem after_blk (w : World) (o : Obj) (e : TypeId) (x : List UInt8) : (Lib.bytesWorld (w.alloc o).drew e (ofL x)).heap[w.heap.size]? = some o :=
  blk_below (w := (w.alloc o).drew) (heap_alloc_new w o) (bytesWorld_below _ _ _) (by show w.heap.size < (w.alloc o).heap.size; simp)
theorem after_cell {w : World} (o : Obj) (e : TypeId) (x : List UInt8) {p : Addr} {v : Value} (h : w.cell? p = some v) : (Lib.bytesWorld (w.alloc o).drew e (ofL x)).cell? p = some v :=
  cell_below (w := (w.alloc o).drew) (cell_alloc h _) (bytesWorld_below _ _ _)
theorem after_below (w : World) (o : Obj) (e : TypeId) (x : List UInt8) : Below w.heap.size w (Lib.bytesWorld (w.alloc o).drew e (ofL x)) :=
  below_then (below_drewN ((Below.refl _ w).alloc (Nat.le_refl _) o) 1) (bytesWorld_below (w.alloc o).drew e x) (by show w.heap.size ≤ (w.alloc o).heap.size; simp)

theorem bytesWorld_sl1 (W : World) (e : TypeId) (l : List UInt8) (hl : l.length ≤ 1000000) : Sl Kd.byte (Lib.bytesWorld W e (ofL l)) (fun k => k = W.heap.size) (some ⟨W.heap.size, 0, none⟩) (bytesCap W e l) l := by
  obtain ⟨h1, h2, _⟩ := bytesWorld_sl W e l hl
  refine Sl.of_bytes h1 h2 fun V hV hne => ⟨_, _, rfl, fun j u hu => ?_⟩
  rw [Nat.zero_add, World.cell?_of_block (w := Lib.bytesWorld W e (ofL l)) (hV W.heap.size rfl (by rw [Lib.bytesWorld_size]; omega))]
  exact bytesWorld_cells W e l j u hu
theorem before_size (w : World) (e : TypeId) (x : List UInt8) : (Lib.bytesWorld w.drew e (ofL x)).heap.size = w.heap.size + 1 := by
  rw [Lib.bytesWorld_size]; rfl
theorem bytes_before (w : World) (o : Obj) (e : TypeId) (x : List UInt8) (hx : x.length ≤ 1000000) : Sl Kd.byte ((Lib.bytesWorld w.drew e (ofL x)).alloc o) (fun k => k = w.heap.size) (some ⟨w.heap.size, 0, none⟩) (bytesCap w.drew e x) x :=
  (bytesWorld_sl1 w.drew e x hx).alloc o
theorem before_blk (w : World) (o : Obj) (e : TypeId) (x : List UInt8) : ((Lib.bytesWorld w.drew e (ofL x)).alloc o).heap[w.heap.size + 1]? = some o := by
  rw [← before_size w e x]; exact heap_alloc_new _ _
theorem before_cell0 {w : World} (e : TypeId) (x : List UInt8) {p : Addr} {v : Value} (h : w.cell? p = some v) : (Lib.bytesWorld w.drew e (ofL x)).cell? p = some v :=
  cell_below (w := w.drew) h (bytesWorld_below _ _ _)
theorem before_cell {w : World} (o : Obj) (e : TypeId) (x : List UInt8) {p : Addr} {v : Value} (h : w.cell? p = some v) : ((Lib.bytesWorld w.drew e (ofL x)).alloc o).cell? p = some v :=
  cell_alloc (before_cell0 e x h) _
theorem before_below (w : World) (o : Obj) (e : TypeId) (x : List UInt8) : Below w.heap.size w ((Lib.bytesWorld w.drew e (ofL x)).alloc o) :=
  (below_then (below_drewN (Below.refl _ w) 1) (bytesWorld_below w.drew e x) (Nat.le_refl _)).alloc (by show w.heap.size ≤ (Lib.bytesWorld w.drew e (ofL x)).heap.size; rw [before_size]; omega) o

theorem rsum_of {l : List UInt8} {k : Nat} {n : Int} (hk : l.length = k) (hn : hsum l = n) {A : Option Addr} {c : Nat} {F : Nat → Prop} (w : World) (ha : Sl Kd.byte w F A c l) :
    Calls Tryz.prog 122 #[.slice A k c] w fun e w' => e = .returned (.int .i64 n) ∧ w = w' := by
  subst hk
  exact rsum_calls l hn w ha
theorem ustar_sl (W : World) : Sl Kd.byte (W.alloc (.cells #[.int .u8 117, .int .u8 115, .int .u8 116, .int .u8 97, .int .u8 114, .int .u8 0, .int .u8 48, .int .u8 48] 5)) (fun k => k = W.heap.size) (some ⟨W.heap.size, 0, none⟩) 8 ustar := new_sl W ustar _ rfl (by decide)

set_option maxHeartbeats 4000000 in
theorem rput04_walk (h : Hd) (hr : h.R) (hz : h.S) (f : Fits h) {p : List UInt8} (hp : blockOf h = p) (w : World) :
    Calls Tryz.prog 78 #[h.agg] w fun e w' => ∃ A c, e = .returned (.tuple #[.slice A p.length c, .bool true]) ∧ Sl Kd.byte w' (fun k => w.heap.size ≤ k) A c p ∧ Below w.heap.size w w' := by
  have Hm := Au.mk ((fits_iff h).2 f)
  have Hr := Au.mk hr
  have Hp := Au.mk hp
  obtain ⟨z1, z2, z3⟩ := hz
  obtain ⟨p1, p2, p3, p4, p5, p6, p7, p8, p9, HP⟩ := pages h f
  have hb0 := (Below.refl w.heap.size w).alloc (Nat.le_refl _) (.cells h.cells.toArray 79)
  have hg0 : (w.alloc (.cells h.cells.toArray 79)).heap[w.heap.size]? = some (.cells h.cells.toArray 79 (0, 0)) := heap_alloc_new _ _
  have km : ∀ W : World, (Instr.makeSlice 43 (.int .i64 512) (.int .i64 512)).run Tryz.prog W = .ok (.slice (some ⟨W.heap.size, 0, none⟩) 512 512) (W.alloc (.cells (bcs (zeros 512)).toArray 5)) := make_bytes etBytes 512 (by decide)
  have kb := fun x W => str_bytes (P := Tryz.prog) (dst := 43) Tryz.underlying9 Tryz.underlying43 Tryz.underlying5 x W
  clear hr hp
  unfold Hd.agg
  go_enter Tryz.func78, Tryz.ntmps78
  go_wp2_with fail
  refine (rmay_calls h Hr.out ⟨z1, z2, z3⟩ Hm.out _).mono ?_
  rintro e w1 ⟨rfl, b1⟩
  have hg1 := blk_below hg0 b1 (lt_of_block hg0)
  have hb1 := hb0.trans (b1.mono (by simp))
  have hlt1 : w.heap.size < w1.heap.size := lt_of_block hg1
  have x1 := blk_cell hg1 0 rfl
  have Hg1 := Au.mk hg1
  clear hg1 hg0
  go_upto_region 4 with fail
  go_cut [5] (fun v wx => ∃ g : Nat, v = .slice (some ⟨g, 0, none⟩) 512 512 ∧ w.heap.size < g ∧ Au (wx.heap[g]? = some (.cells (bcs p1).toArray 5 (0, 0))) ∧ Au (wx.heap[w.heap.size]? = some (.cells h.cells.toArray 79 (0, 0))) ∧ Below w.heap.size w wx)
  case first =>
    have y1 := after_cell (.cells (bcs (zeros 512)).toArray 5) 5 h.name x1
    have y2 := after_blk w1 (.cells (bcs (zeros 512)).toArray 5) 5 h.name
    have y3 := bytes_after w1 (.cells (bcs (zeros 512)).toArray 5) 5 h.name (by omega)
    have Y2 := Au.mk y2
    have Y4 := Au.mk (blk_below Hg1.out (after_below w1 (.cells (bcs (zeros 512)).toArray 5) 5 h.name) (lt_of_block Hg1.out))
    have y5 := below_then hb1 (after_below w1 (.cells (bcs (zeros 512)).toArray 5) 5 h.name) hb1.size
    have v0 := before_cell0 5 h.name x1
    have v1 := before_cell (.cells (bcs (zeros 512)).toArray 5) 5 h.name x1
    have V2 := Au.mk (before_blk w1 (.cells (bcs (zeros 512)).toArray 5) 5 h.name)
    have v3 := bytes_before w1 (.cells (bcs (zeros 512)).toArray 5) 5 h.name (by omega)
    have V4 := Au.mk (blk_below Hg1.out (before_below w1 (.cells (bcs (zeros 512)).toArray 5) 5 h.name) (lt_of_block Hg1.out))
    have v5 := below_then hb1 (before_below w1 (.cells (bcs (zeros 512)).toArray 5) 5 h.name) hb1.size
    have hbs := before_size w1 5 h.name
    clear y2
    go_region_held_law (fun w' => w'.cell? ⟨w.heap.size, 0, none⟩ = some (.string (ofL h.name))) (first | go_keep | exact cell_alloc x1 _ | exact y1 | exact v0 | exact v1)
      (first | (go_at_call 119; refine (lay_calls _ (zeros 512) (i := 0) h.name HP.e1 _ (by with_reducible first | exact Y2.out | exact V2.out) (zeros_length 512) (by decide) (by omega) (by with_reducible first | exact y3 | exact v3) (by omega)).mono ?_; rintro e w5 ⟨rfl, q5, g5⟩; have k5 := cell_grown (by with_reducible first | exact y1 | exact v1) g5 (by show w.heap.size ≠ _; omega)))
    all_goals (go_wp2_with fail; go_meet)
    all_goals (first | (with_reducible exact ⟨_, rfl, by omega, ⟨q5⟩, ⟨blk_grown Y4.out g5 (by simp; omega)⟩, below_of_grown y5 g5 y5.size (by omega)⟩) | (with_reducible exact ⟨_, rfl, by omega, ⟨q5⟩, ⟨blk_grown V4.out g5 (by simp; omega)⟩, below_of_grown v5 g5 v5.size (by omega)⟩))
  case rest =>
    obtain ⟨g, rfl, hgw, Q1, G1, e1⟩ := hcut
    clear b1 hb1 x1 Hg1 hb0 km
    have L1 : Au ((numB h ⟨100, 8, 3⟩).length = 8) := ⟨numB_len f.mode⟩
    have L2 : Au ((numB h ⟨108, 8, 4⟩).length = 8) := ⟨numB_len f.uid⟩
    have L3 : Au ((numB h ⟨116, 8, 5⟩).length = 8) := ⟨numB_len f.gid⟩
    have L4 : Au ((numB h ⟨124, 12, 6⟩).length = 12) := ⟨numB_len f.size⟩
    have L5 : Au ((numB h ⟨136, 12, 7⟩).length = 12) := ⟨numB_len f.mtime⟩
    have x1 := blk_cell G1.out 3 rfl
    go_wp2_with fail
    refine (number_calls04 g p1 (i := 100) (q := numB h ⟨100, 8, 3⟩) rfl (Hr.out.numb 3) HP.e2 _ Q1.out HP.l1 (by decide) (by have := L1.out; omega)).mono ?_
    rintro e w2 ⟨rfl, q, d⟩
    have G2 := Au.mk (blk_grown G1.out d (by simp; omega))
    have e2 := below_of_grown e1 d e1.size (by omega)
    have Q2 := Au.mk q
    have x2 := blk_cell G2.out 4 rfl
    clear q d x1 e1 Q1 G1
    go_wp2_with fail
    refine (number_calls04 g p2 (i := 108) (q := numB h ⟨108, 8, 4⟩) rfl (Hr.out.numb 4) HP.e3 _ Q2.out HP.l2 (by decide) (by have := L2.out; omega)).mono ?_
    rintro e w3 ⟨rfl, q, d⟩
    have G3 := Au.mk (blk_grown G2.out d (by simp; omega))
    have e3 := below_of_grown e2 d e2.size (by omega)
    have Q3 := Au.mk q
    have x3 := blk_cell G3.out 5 rfl
    clear q d x2 e2 Q2 G2
    go_wp2_with fail
    refine (number_calls04 g p3 (i := 116) (q := numB h ⟨116, 8, 5⟩) rfl (Hr.out.numb 5) HP.e4 _ Q3.out HP.l3 (by decide) (by have := L3.out; omega)).mono ?_
    rintro e w4 ⟨rfl, q, d⟩
    have G4 := Au.mk (blk_grown G3.out d (by simp; omega))
    have e4 := below_of_grown e3 d e3.size (by omega)
    have Q4 := Au.mk q
    have x4 := blk_cell G4.out 6 rfl
    clear q d x3 e3 Q3 G3
    go_wp2_with fail
    refine (number_calls04 g p4 (i := 124) (q := numB h ⟨124, 12, 6⟩) rfl (Hr.out.numb 6) HP.e5 _ Q4.out HP.l4 (by decide) (by have := L4.out; omega)).mono ?_
    rintro e w5 ⟨rfl, q, d⟩
    have G5 := Au.mk (blk_grown G4.out d (by simp; omega))
    have e5 := below_of_grown e4 d e4.size (by omega)
    have Q5 := Au.mk q
    have x5 := blk_cell G5.out 7 rfl
    clear q d x4 e4 Q4 G4
    go_wp2_with fail
    refine (number_calls04 g p5 (i := 136) (q := numB h ⟨136, 12, 7⟩) rfl (Hr.out.numb 7) HP.e6 _ Q5.out HP.l5 (by decide) (by have := L5.out; omega)).mono ?_
    rintro e w6 ⟨rfl, q, d⟩
    have G6 := Au.mk (blk_grown G5.out d (by simp; omega))
    have e6 := below_of_grown e5 d e5.size (by omega)
    have Q6 := Au.mk q
    have x6 := blk_cell G6.out 8 rfl
    clear q d x5 e5 Q5 G5
    obtain ⟨v, hv⟩ : ∃ v, (bcs p6)[156]? = some v := ⟨_, List.getElem?_eq_getElem (by rw [bcs_length, HP.l6]; decide)⟩
    have y1 := blk_cell Q6.out 156 hv
    have y2 := blk_free Q6.out 156
    clear hv
    go_upto_region 11 with fail
    generalize hW : World.setCell w6 _ _ = W7
    have Q7 : Au (W7.heap[g]? = some (.cells (bcs p7).toArray 5 (0, 0))) := ⟨by rw [← hW, ← HP.e7, ← bcs_set]; exact blk_set Q6.out _ _⟩
    have G7 : Au (W7.heap[w.heap.size]? = some (.cells h.cells.toArray 79 (0, 0))) := ⟨by rw [← hW]; exact blk_far G6.out (by show w.heap.size ≠ g; omega) _⟩
    have e7 : Below w.heap.size w W7 := by rw [← hW]; exact e6.setCell (by show w.heap.size ≤ g; omega) _
    clear hW y1 y2 x6 Q6 G6 e6
    have x7 := blk_cell G7.out 2 rfl
    have s7 := bytesWorld_sl W7 5 h.link (by omega)
    have b7 := bytesWorld_below W7 5 h.link
    have Q7b := Au.mk (blk_below Q7.out b7 (lt_of_block Q7.out))
    have G7b := Au.mk (blk_below G7.out b7 (lt_of_block G7.out))
    have hlt7 := lt_of_block Q7.out
    have e7b := below_then e7 b7 e7.size
    clear b7
    go_wp2_with fail
    refine (lay_calls g p7 (i := 157) h.link HP.e8 _ Q7b.out HP.l7 (by decide) (by omega) s7 (by omega)).mono ?_
    rintro e w8 ⟨rfl, q, d⟩
    have G8 := Au.mk (blk_grown G7b.out d (by simp; omega))
    have e8 := below_of_grown e7b d e7b.size (by omega)
    have Q8 := Au.mk q
    clear q d x7 s7 Q7b G7b e7b e7 Q7 G7
    have s8 := ustar_sl w8
    have b8 := (Below.refl w8.heap.size w8).alloc (Nat.le_refl _) (.cells #[.int .u8 117, .int .u8 115, .int .u8 116, .int .u8 97, .int .u8 114, .int .u8 0, .int .u8 48, .int .u8 48] 5)
    have Q8b := Au.mk (blk_below Q8.out b8 (lt_of_block Q8.out))
    have G8b := Au.mk (blk_below G8.out b8 (lt_of_block G8.out))
    have hlt8 := lt_of_block Q8.out
    have e8b := below_then e8 b8 e8.size
    clear b8
    go_wp2_with fail
    refine (lay_calls g p8 (i := 257) ustar HP.e9 _ Q8b.out HP.l8 (by decide) (by decide) s8 (by omega)).mono ?_
    rintro e w9 ⟨rfl, q, d⟩
    have G9 := Au.mk (blk_grown G8b.out d (by simp; omega))
    have e9 := below_of_grown e8b d e8b.size (by omega)
    have Q9 := Au.mk q
    have x9 := blk_cell G9.out 8 rfl
    clear q d s8 Q8b G8b e8b e8 Q8 G8
    obtain ⟨t, Ht⟩ := au ((h.ty.toNat : Int) == 77)
    have e77 : ((h.ty.toNat : Int) == 77) = (h.ty == 77) := byte_beq h.ty 77
    rw [Ht.out] at e77
    have ht := Ht.out
    have Hl := Au.mk (layB_length h f (zeros 8) (zeros_length 8))
    obtain ⟨pg, Hpg⟩ := au (layB h (zeros 8))
    rw [Hpg.out] at Hl
    obtain ⟨sg, Hsg⟩ := au (sgn pg)
    obtain ⟨m, Hmm⟩ := au (hsum pg)
    have Hsgl : Au (sg.length = 8) := ⟨by rw [← Hsg.out]; exact sgn_length _⟩
    have Hpp : Au (splice pg 148 sg = p) := ⟨by
      rw [← Hp.out, blockOf, ← layB_sum h f (sgn (layB h (zeros 8))) (zeros 8) (sgn_length _) (zeros_length 8), Hpg.out, Hsg.out]⟩
    have Hlp : Au (p.length = 512) := ⟨by rw [← Hp.out]; exact blockOf_length h f⟩
    cases t
    case true =>
      have h77 : h.ty = 77 := by simpa using e77.symm
      have M6 : Au ((numB h ⟨369, 12, 9⟩).length = 12) := ⟨numB_len (f.more h77).2.1⟩
      have M7 : Au ((numB h ⟨483, 12, 10⟩).length = 12) := ⟨numB_len (f.more h77).2.2⟩
      have hpe := pg_more h f h77
      rw [Hpg.out, ← HP.e] at hpe
      obtain ⟨pa, Hpa⟩ := au (splice p9 369 (numB h ⟨369, 12, 9⟩))
      rw [Hpa.out] at hpe
      have Hpe := Au.mk hpe
      have Hla : Au (pa.length = 512) := ⟨by rw [← Hpa.out]; exact splice_len HP.l9 (by have := M6.out; omega)⟩
      have x9b := blk_cell G9.out 9 rfl
      clear hpe h77 e77
      go_wp2_with fail
      refine (number_calls04 g p9 (i := 369) (q := numB h ⟨369, 12, 9⟩) rfl (Hr.out.numb 9) Hpa.out _ Q9.out HP.l9 (by decide) (by have := M6.out; omega)).mono ?_
      rintro e w10 ⟨rfl, q, d⟩
      have G10 := Au.mk (blk_grown G9.out d (by simp; omega))
      have e10 := below_of_grown e9 d e9.size (by omega)
      have Q10 := Au.mk q
      have x10 := blk_cell G10.out 10 rfl
      clear q d x9 x9b e9 Q9 G9
      go_wp2_with fail
      refine (number_calls04 g pa (i := 483) (q := numB h ⟨483, 12, 10⟩) rfl (Hr.out.numb 10) Hpe.out _ Q10.out Hla.out (by decide) (by have := M7.out; omega)).mono ?_
      rintro e w11 ⟨rfl, q, d⟩
      have e11 := below_of_grown e10 d e10.size (by omega)
      have Q11 := Au.mk q
      clear q d x10 e10 Q10 G10
      have s11 := blk_sl Q11.out Hl.out (by decide)
      go_wp2_with fail
      refine (rsum_of Hl.out Hmm.out _ s11).mono ?_
      rintro e w12 ⟨rfl, rfl⟩
      go_wp2_with fail
      refine (sign_calls pg Hsg.out _ Hl.out Hmm.out).mono ?_
      rintro e w13 ⟨B, c, rfl, s13, b13⟩
      have hlt11 := lt_of_block Q11.out
      go_wp2_with fail
      refine (lay_calls g pg (i := 148) sg Hpp.out _ (blk_below Q11.out b13 (lt_of_block Q11.out)) Hl.out (by decide) (by have := Hsgl.out; omega) s13 (by omega)).mono ?_
      rintro e w14 ⟨rfl, q, d⟩
      go_wp2_with fail
      go_ret2
      exact ⟨some ⟨g, 0, none⟩, 512, by rw [Hlp.out]; rfl, (blk_sl q Hlp.out (by decide)).mono (by intro k hk; omega), below_of_grown (below_then e11 b13 e11.size) d (below_then e11 b13 e11.size).size (by omega)⟩
    case false =>
      have h77 : ¬ h.ty = 77 := by simpa using e77.symm
      have hpe := pg_less h f h77
      rw [Hpg.out, ← HP.e] at hpe
      have Hpe := Au.mk hpe
      have x9b := blk_cell G9.out 1 rfl
      have N3 := (f.less h77).2.2.1
      have s7 := bytesWorld_sl w9 5 h.pre (by omega)
      have b7 := bytesWorld_below w9 5 h.pre
      have Q7b := Au.mk (blk_below Q9.out b7 (lt_of_block Q9.out))
      have hlt9 := lt_of_block Q9.out
      have e7b := below_then e9 b7 e9.size
      clear b7 hpe h77 e77
      go_wp2_with fail
      refine (lay_calls g p9 (i := 345) h.pre Hpe.out _ Q7b.out HP.l9 (by decide) (by omega) s7 (by omega)).mono ?_
      rintro e w11 ⟨rfl, q, d⟩
      have e11 := below_of_grown e7b d e7b.size (by omega)
      have Q11 := Au.mk q
      clear q d x9 x9b e7b Q7b s7 Q9 G9
      have s11 := blk_sl Q11.out Hl.out (by decide)
      go_wp2_with fail
      refine (rsum_of Hl.out Hmm.out _ s11).mono ?_
      rintro e w12 ⟨rfl, rfl⟩
      go_wp2_with fail
      refine (sign_calls pg Hsg.out _ Hl.out Hmm.out).mono ?_
      rintro e w13 ⟨B, c, rfl, s13, b13⟩
      have hlt11 := lt_of_block Q11.out
      go_wp2_with fail
      refine (lay_calls g pg (i := 148) sg Hpp.out _ (blk_below Q11.out b13 (lt_of_block Q11.out)) Hl.out (by decide) (by have := Hsgl.out; omega) s13 (by omega)).mono ?_
      rintro e w14 ⟨rfl, q, d⟩
      go_wp2_with fail
      go_ret2
      exact ⟨some ⟨g, 0, none⟩, 512, by rw [Hlp.out]; rfl, (blk_sl q Hlp.out (by decide)).mono (by intro k hk; omega), below_of_grown (below_then e11 b13 e11.size) d (below_then e11 b13 e11.size).size (by omega)⟩
theorem rput04_view (h : Hd) (hr : h.R) (hz : h.S) {p : List UInt8} {b : Bool} (hp : (hput h).getD [] = p) (hb : (hput h).isSome = b) (w : World) :
    Calls Tryz.prog 78 #[h.agg] w fun e w' => ∃ A c, e = .returned (.tuple #[.slice A p.length c, .bool b]) ∧ Sl Kd.byte w' (fun k => w.heap.size ≤ k) A c p ∧ Below w.heap.size w w' := by
  subst hp hb
  cases hm : hmay h with
  | false =>
    have e : hput h = none := by unfold hput; rw [hm]; rfl
    rw [e]
    exact (rput04_no h hr hz hm w).mono fun e w' ⟨h1, h2⟩ => ⟨none, 0, h1, Sl.nil _ _ _, h2⟩
  | true =>
    have e : hput h = some (blockOf h) := by unfold hput; rw [hm]; rfl
    rw [e]
    exact rput04_walk h hr hz ((fits_iff h).1 hm) rfl w
end Go.Proofs.YtmjicapjkmkckaaGreatDoor.Rk
