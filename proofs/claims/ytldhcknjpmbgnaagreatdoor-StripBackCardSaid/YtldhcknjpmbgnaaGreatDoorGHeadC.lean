/- GHeadC: HeadS HeadT HeadU HeadV HeadW HeadX HeadY -/
import Derived.Test.YtldhcknjpmbgnaaGreatDoorGHeadB
import Derived.Test.YtldhcknjpmbgnaaGreatDoorGNumR
import Derived.Deep.RegionHeldLaw
import Derived.Deep.DeepCutAuto
set_option maxRecDepth 100000
/- A header's block: its pieces, what is got of it, its sum. Plain Lean. -/
namespace Go.Proofs.YtldhcknjpmbgnaaGreatDoor.Rk
open Go.RowKit
set_option linter.unusedVariables false
set_option linter.unusedSimpArgs false

theorem seg_at {segs : List (List UInt8)} (j : Nat) {i n : Nat} {x : List UInt8} (hj : segs[j]? = some x) (hi : (segs.take j).flatten.length = i) (hn : x.length = n) : (segs.flatten.drop i).take n = x := by
  have hlt := (List.getElem?_eq_some_iff.1 hj).1
  have e : segs = segs.take j ++ x :: segs.drop (j + 1) := by
    rw [List.getElem?_eq_getElem hlt] at hj
    injection hj with hj
    rw [← hj, ← List.drop_eq_getElem_cons hlt, List.take_append_drop]
  conv => lhs; rw [e]
  rw [List.flatten_append, List.flatten_cons]
  subst hi hn
  rw [List.drop_left, List.take_left]
section
variable (h : Hd) (f : Fits h) (s : List UInt8) (hs : s.length = 8)
include f in
theorem at_name : ((layB h s).drop 0).take 100 = pad 100 h.name := seg_at (segs := segsB h s) 0 rfl rfl (pad_length f.nameL)
include f
theorem at_mode : ((layB h s).drop 100).take 8 = numB h ⟨100, 8, 3⟩ := by
  obtain ⟨L1, L2, L3, L4, L5, L6, L7⟩ := segsB_lens h f
  exact seg_at (segs := segsB h s) 1 rfl (by simp [segsB, *]) L2
theorem at_uid : ((layB h s).drop 108).take 8 = numB h ⟨108, 8, 4⟩ := by
  obtain ⟨L1, L2, L3, L4, L5, L6, L7⟩ := segsB_lens h f
  exact seg_at (segs := segsB h s) 2 rfl (by simp [segsB, *]) L3
theorem at_gid : ((layB h s).drop 116).take 8 = numB h ⟨116, 8, 5⟩ := by
  obtain ⟨L1, L2, L3, L4, L5, L6, L7⟩ := segsB_lens h f
  exact seg_at (segs := segsB h s) 3 rfl (by simp [segsB, *]) L4
theorem at_size : ((layB h s).drop 124).take 12 = numB h ⟨124, 12, 6⟩ := by
  obtain ⟨L1, L2, L3, L4, L5, L6, L7⟩ := segsB_lens h f
  exact seg_at (segs := segsB h s) 4 rfl (by simp [segsB, *]) L5
theorem at_mtime : ((layB h s).drop 136).take 12 = numB h ⟨136, 12, 7⟩ := by
  obtain ⟨L1, L2, L3, L4, L5, L6, L7⟩ := segsB_lens h f
  exact seg_at (segs := segsB h s) 5 rfl (by simp [segsB, *]) L6
include hs
theorem at_sum : ((layB h s).drop 148).take 8 = s := by
  obtain ⟨L1, L2, L3, L4, L5, L6, L7⟩ := segsB_lens h f
  exact seg_at (segs := segsB h s) 6 rfl (by simp [segsB, *]) hs
theorem at_ty : ((layB h s).drop 156).take 1 = [h.ty] := by
  obtain ⟨L1, L2, L3, L4, L5, L6, L7⟩ := segsB_lens h f
  exact seg_at (segs := segsB h s) 7 rfl (by simp [segsB, *]) rfl
theorem at_link : ((layB h s).drop 157).take 100 = pad 100 h.link := by
  obtain ⟨L1, L2, L3, L4, L5, L6, L7⟩ := segsB_lens h f
  exact seg_at (segs := segsB h s) 8 rfl (by simp [segsB, *]) L7
theorem at_ustar : ((layB h s).drop 257).take 8 = ustar := by
  obtain ⟨L1, L2, L3, L4, L5, L6, L7⟩ := segsB_lens h f
  exact seg_at (segs := segsB h s) 9 rfl (by simp [segsB, *]) rfl
theorem at_pre (h77 : h.ty ≠ 77) : ((layB h s).drop 345).take 155 = pad 155 h.pre := by
  obtain ⟨L1, L2, L3, L4, L5, L6, L7⟩ := segsB_lens h f
  exact seg_at (segs := segsB h s) 11 (by simp [segsB, h77]) (by simp [segsB, h77, zeros_length, ustar_length, *]) (pad_length (f.less h77).2.2.1)
theorem at_off (h77 : h.ty = 77) : ((layB h s).drop 369).take 12 = numB h ⟨369, 12, 9⟩ := by
  obtain ⟨L1, L2, L3, L4, L5, L6, L7⟩ := segsB_lens h f
  exact seg_at (segs := segsB h s) 12 (by simp [segsB, h77]) (by simp [segsB, h77, zeros_length, ustar_length, *]) (numB_len (f.more h77).2.1)
theorem at_real (h77 : h.ty = 77) : ((layB h s).drop 483).take 12 = numB h ⟨483, 12, 10⟩ := by
  obtain ⟨L1, L2, L3, L4, L5, L6, L7⟩ := segsB_lens h f
  have L8 := numB_len (h := h) (s := ⟨369, 12, 9⟩) (f.more h77).2.1
  exact seg_at (segs := segsB h s) 14 (by simp [segsB, h77]) (by simp [segsB, h77, zeros_length, ustar_length, *]) (numB_len (f.more h77).2.2)
end

/-! ### the sum -/
theorem sumK_congr {b c : List UInt8} : ∀ {k : Nat}, (∀ i, i < k → sumB i (b[i]?.getD 0) = sumB i (c[i]?.getD 0)) → sumK b k = sumK c k
  | 0, _ => rfl
  | k + 1, h => by
    simp only [sumK]
    rw [sumK_congr (fun i hi => h i (by omega)), h k (by omega)]
theorem splice_at (l x : List UInt8) (i j : Nat) (h : i + x.length ≤ l.length) : (splice l i x)[j]? = if j < i then l[j]? else if j < i + x.length then x[j - i]? else l[j]? := by
  unfold splice
  have h0 : (l.take i).length = i := by rw [List.length_take]; omega
  by_cases h1 : j < i
  · rw [if_pos h1, List.getElem?_append_left (by omega), List.getElem?_take, if_pos h1]
  · rw [if_neg h1, List.getElem?_append_right (by omega), h0]
    by_cases h2 : j < i + x.length
    · rw [if_pos h2, List.getElem?_append_left (by omega)]
    · rw [if_neg h2, List.getElem?_append_right (by omega), List.getElem?_drop]
      congr 1; omega
theorem sum_lay (h : Hd) (f : Fits h) (s t : List UInt8) (hs : s.length = 8) (ht : t.length = 8) : sumK (layB h s) 512 = sumK (layB h t) 512 := by
  refine sumK_congr fun i hi => ?_
  unfold sumB
  split
  · rfl
  · rename_i h1
    rw [← layB_sum h f s t hs ht, splice_at _ _ _ _ (by rw [layB_length h f t ht]; omega)]
    by_cases h2 : i < 148
    · rw [if_pos h2]
    · rw [if_neg h2, if_neg (by omega)]
theorem sgn_block (h : Hd) (f : Fits h) : sgn (blockOf h) = sgn (layB h (zeros 8)) := by
  have := sum_lay h f (sgn (layB h (zeros 8))) (zeros 8) (sgn_length _) (zeros_length 8)
  unfold sgn blockOf
  rw [this]
theorem upto_pad {n : Nat} {l : List UInt8} (h0 : (0 : UInt8) ∉ l) (hn : l.length < n) : upto (pad n l) = l := by
  unfold upto pad zeros
  rw [List.takeWhile_append_of_pos (by intro a ha; simp; rintro rfl; exact h0 ha)]
  obtain ⟨m, hm⟩ : ∃ m, n - l.length = m + 1 := ⟨n - l.length - 1, by omega⟩
  rw [hm, List.replicate_succ, List.takeWhile_cons_of_neg (by simp)]
  simp
theorem upto_pad' {n : Nat} {l : List UInt8} (h0 : (0 : UInt8) ∉ l) (hn : l.length ≤ n) : upto (pad n l) = l := by
  by_cases h : l.length < n
  · exact upto_pad h0 h
  · have e : pad n l = l := by unfold pad zeros; rw [show n - l.length = 0 from by omega]; simp
    rw [e]
    have := List.takeWhile_append_of_pos (p := (· != (0 : UInt8))) (l₁ := l) (l₂ := []) (by intro a ha; simp; rintro rfl; exact h0 ha)
    simpa [upto] using this
theorem get_numB {h : Hd} {s : Sp} (hr : h.R) (hp : ∃ l, put (h.numb s.ix) s.wide = some l) : (get (numB h s)).getD 0 = h.numb s.ix := by
  obtain ⟨l, e⟩ := hp
  unfold numB
  rw [e]
  have := get_put (hr.numb s.ix).2 e
  simp [this]
theorem guess_block (h : Hd) (hr : h.R) (f : Fits h) : guess (blockOf h) = h := by
  have hs := sgn_length (layB h (zeros 8))
  have ht : tyOf (blockOf h) = h.ty := by
    have h1 := at_ty h f _ hs
    have h2 : ((layB h (sgn (layB h (zeros 8)))).drop 156).take 1 = [h.ty] := h1
    have h3 := congrArg (fun l => l[0]?) h2
    simp only [List.getElem?_take, List.getElem?_drop] at h3
    unfold tyOf blockOf
    simp at h3
    simp [h3]
  have n3 := get_numB (h := h) (s := ⟨100, 8, 3⟩) hr f.mode
  have n4 := get_numB (h := h) (s := ⟨108, 8, 4⟩) hr f.uid
  have n5 := get_numB (h := h) (s := ⟨116, 8, 5⟩) hr f.gid
  have n6 := get_numB (h := h) (s := ⟨124, 12, 6⟩) hr f.size
  have n7 := get_numB (h := h) (s := ⟨136, 12, 7⟩) hr f.mtime
  have p0 := at_name h f (sgn (layB h (zeros 8)))
  have p2 := at_link h f _ hs
  have p3 := at_mode h f (sgn (layB h (zeros 8)))
  have p4 := at_uid h f (sgn (layB h (zeros 8)))
  have p5 := at_gid h f (sgn (layB h (zeros 8)))
  have p6 := at_size h f (sgn (layB h (zeros 8)))
  have p7 := at_mtime h f (sgn (layB h (zeros 8)))
  have u0 := upto_pad' f.nameZ f.nameL
  have u2 := upto_pad' f.linkZ f.linkL
  unfold guess
  rw [ht]
  by_cases h77 : h.ty = 77
  · have n9 := get_numB (h := h) (s := ⟨369, 12, 9⟩) hr (f.more h77).2.1
    have n10 := get_numB (h := h) (s := ⟨483, 12, 10⟩) hr (f.more h77).2.2
    have p9 := at_off h f _ hs h77
    have p10 := at_real h f _ hs h77
    have hpre := (f.more h77).1
    unfold blockOf
    simp only [guessN, guessW, wSp, nSp, if_pos h77, List.append_nil, List.cons_append, List.nil_append, List.foldl_cons, List.foldl_nil, piece, p0, p2, p3, p4, p5, p6, p7, p9, p10, u0, u2, n3, n4, n5, n6, n7, n9, n10, Hd.setText, Hd.setNumb, Hd.numb]
    cases h
    simp only at hpre
    subst hpre
    rfl
  · have p1 := at_pre h f _ hs h77
    obtain ⟨o1, o2, l1, z1⟩ := f.less h77
    have u1 := upto_pad' z1 l1
    unfold blockOf
    simp only [guessN, guessW, wSp, nSp, if_neg h77, List.append_nil, List.cons_append, List.nil_append, List.foldl_cons, List.foldl_nil, piece, p0, p1, p2, p3, p4, p5, p6, p7, u0, u1, u2, n3, n4, n5, n6, n7, Hd.setText, Hd.setNumb, Hd.numb]
    cases h
    simp only at o1 o2
    subst o1 o2
    rfl
theorem mem_of_piece {l : List UInt8} {i n : Nat} {x : List UInt8} (h : (l.drop i).take n = x) {c : UInt8} (hc : c ∈ x) : c ∈ l := by
  subst h
  exact List.mem_of_mem_drop (List.mem_of_mem_take hc)
theorem hget_block (h : Hd) (hr : h.R) (f : Fits h) : hget (blockOf h) = (h, 0) := by
  have hs := sgn_length (layB h (zeros 8))
  have hz : isZero (blockOf h) = false := by
    rw [isZero, List.all_eq_false]
    exact ⟨117, mem_of_piece (at_ustar h f _ hs) (by simp [ustar]), by decide⟩
  have he : (((blockOf h).drop 148).take 8 == sgn (blockOf h)) = true := by
    rw [sgn_block h f]; exact beq_iff_eq.2 (at_sum h f _ hs)
  unfold hget
  rw [if_neg (by rw [blockOf_length h f]; simp), if_neg (by rw [hz]; simp), if_neg (by rw [he]; simp), guess_block h hr f, if_pos (by unfold hput; rw [if_pos ((fits_iff h).2 f)])]
theorem hget_cases (b : List UInt8) : (hget b = (hd0, 1) ∧ b.length ≠ 512) ∨ (hget b = (hd0, 4) ∧ b.length = 512 ∧ isZero b = true) ∨ (hget b = (hd0, 3) ∧ b.length = 512 ∧ isZero b = false) ∨
    (hget b = (guess b, 0) ∧ b.length = 512 ∧ isZero b = false ∧ hput (guess b) = some b) ∨ (hget b = (hd0, 2) ∧ b.length = 512 ∧ isZero b = false) := by
  unfold hget
  by_cases h1 : b.length ≠ 512
  · rw [if_pos h1]; exact .inl ⟨rfl, h1⟩
  · rw [if_neg h1]
    have h1' : b.length = 512 := by omega
    by_cases h2 : isZero b = true
    · rw [if_pos h2]; exact .inr (.inl ⟨rfl, h1', h2⟩)
    · rw [if_neg h2]
      have h2' : isZero b = false := by simpa using h2
      by_cases h3 : ((b.drop 148).take 8 == sgn b) = false
      · rw [if_pos h3]; exact .inr (.inr (.inl ⟨rfl, h1', h2'⟩))
      · rw [if_neg h3]
        by_cases h4 : hput (guess b) = some b
        · rw [if_pos h4]; exact .inr (.inr (.inr (.inl ⟨rfl, h1', h2', h4⟩)))
        · rw [if_neg h4]; exact .inr (.inr (.inr (.inr ⟨rfl, h1', h2'⟩)))
theorem hget_good {b : List UInt8} (h : (hget b).2 = 0) : hput (hget b).1 = some b := by
  rcases hget_cases b with ⟨e, _⟩ | ⟨e, _⟩ | ⟨e, _⟩ | ⟨e, _, _, h4⟩ | ⟨e, _⟩ <;> rw [e] at h ⊢ <;> dsimp only at h ⊢
  · cases h
  · cases h
  · cases h
  · exact h4
  · cases h
theorem hget_bad {b : List UInt8} (h : (hget b).2 ≠ 0) : (hget b).1 = hd0 := by
  rcases hget_cases b with ⟨e, _⟩ | ⟨e, _⟩ | ⟨e, _⟩ | ⟨e, _, _, h4⟩ | ⟨e, _⟩ <;> rw [e] at h ⊢ <;> dsimp only at h ⊢
  exact absurd rfl h
theorem hput_some {h : Hd} {b : List UInt8} (e : hput h = some b) : Fits h ∧ blockOf h = b := by
  unfold hput at e
  split at e
  · rename_i hm
    injection e with e
    exact ⟨(fits_iff h).1 hm, e⟩
  · cases e
theorem block_inj {h k : Hd} (hr : h.R) (kr : k.R) (f : Fits h) (g : Fits k) : blockOf h = blockOf k ↔ h = k := by
  constructor
  · intro e
    have h1 := hget_block h hr f
    rw [e, hget_block k kr g] at h1
    injection h1 with h1 _
    exact h1.symm
  · rintro rfl; rfl
end Go.Proofs.YtldhcknjpmbgnaaGreatDoor.Rk
/- The laws of headers: spoilt bytes, the sum, the errors. Plain Lean. -/
namespace Go.Proofs.YtldhcknjpmbgnaaGreatDoor.Rk
open Go.RowKit
set_option linter.unusedVariables false
set_option linter.unusedSimpArgs false

theorem sumK_set {b : List UInt8} {i : Nat} {c x : UInt8} (hx : b[i]? = some x) : ∀ k, sumK (b.set i c) k + (if i < k then sumB i x else 0) = sumK b k + (if i < k then sumB i c else 0)
  | 0 => by simp [sumK]
  | k + 1 => by
    have ih := sumK_set (b := b) (i := i) (c := c) (x := x) hx k
    have hlt := (List.getElem?_eq_some_iff.1 hx).1
    simp only [sumK]
    by_cases h1 : i < k
    · rw [if_pos h1, if_pos h1] at ih
      rw [if_pos (by omega), if_pos (by omega), List.getElem?_set_ne (by omega)]
      omega
    · rw [if_neg h1, if_neg h1] at ih
      by_cases h2 : i = k
      · subst h2
        rw [if_pos (by omega), if_pos (by omega), List.getElem?_set_self hlt, hx]
        simp only [Option.getD_some]
        omega
      · rw [if_neg (by omega), if_neg (by omega), List.getElem?_set_ne h2]
        omega
theorem sum_set {b : List UInt8} {i : Nat} {c x : UInt8} (hx : b[i]? = some x) (hi : i < 512) : sumK (b.set i c) 512 + sumB i x = sumK b 512 + sumB i c := by
  have := sumK_set (c := c) hx 512
  rwa [if_pos hi, if_pos hi] at this
theorem sgn_inj {b c : List UInt8} (h : sgn b = sgn c) : sumK b 512 = sumK c 512 := by
  unfold sgn at h
  have h1 := sumK_le b 512
  have h2 := sumK_le c 512
  exact octL_inj (k := 6) (by omega) (by omega) (List.append_cancel_right h)
theorem two_marks {b : List UInt8} (hb : (b.drop 257).take 8 = ustar) (i : Nat) (c : UInt8) : isZero (b.set i c) = false := by
  have h0 : b[257]? = some 117 := by
    have := congrArg (fun l => l[0]?) hb
    simpa [List.getElem?_take, List.getElem?_drop, ustar] using this
  have h1 : b[258]? = some 115 := by
    have := congrArg (fun l => l[1]?) hb
    simpa [List.getElem?_take, List.getElem?_drop, ustar] using this
  rw [isZero, List.all_eq_false]
  by_cases h : i = 257
  · refine ⟨115, List.mem_of_getElem? (i := 258) ?_, by decide⟩
    rw [List.getElem?_set_ne (by omega)]; exact h1
  · refine ⟨117, List.mem_of_getElem? (i := 257) ?_, by decide⟩
    rw [List.getElem?_set_ne (by omega)]; exact h0
/-- One byte changed: the sum is another one, or its place is. -/
theorem spoilt (h : Hd) (f : Fits h) {i : Nat} {x c : UInt8} (hx : (blockOf h)[i]? = some x) (hc : x ≠ c) : hget ((blockOf h).set i c) = (hd0, 3) := by
  have hl := blockOf_length h f
  have hi : i < 512 := by have := (List.getElem?_eq_some_iff.1 hx).1; omega
  have hs := sgn_length (layB h (zeros 8))
  have hz : isZero ((blockOf h).set i c) = false := two_marks (b := blockOf h) (at_ustar h f _ hs) i c
  have e0 : ((blockOf h).drop 148).take 8 = sgn (blockOf h) := by rw [sgn_block h f]; exact at_sum h f _ hs
  have key : ((((blockOf h).set i c).drop 148).take 8 == sgn ((blockOf h).set i c)) = false := by
    rw [beq_eq_false_iff_ne]
    intro e
    have hs2 := sum_set (c := c) hx hi
    by_cases h1 : 148 ≤ i ∧ i < 156
    · have h2 : sumK ((blockOf h).set i c) 512 = sumK (blockOf h) 512 := by
        unfold sumB at hs2; rw [if_pos h1, if_pos h1] at hs2; omega
      have h3 : sgn ((blockOf h).set i c) = sgn (blockOf h) := by unfold sgn; rw [h2]
      rw [h3, ← e0] at e
      have h4 := congrArg (fun l => l[i - 148]?) e
      simp only [List.getElem?_take, List.getElem?_drop] at h4
      rw [if_pos (by omega), if_pos (by omega), show 148 + (i - 148) = i from by omega, hx, List.getElem?_set_self (by omega)] at h4
      injection h4 with h4
      exact hc h4.symm
    · have h2 : (((blockOf h).set i c).drop 148).take 8 = ((blockOf h).drop 148).take 8 := by
        apply List.ext_getElem?
        intro j
        rw [List.getElem?_take, List.getElem?_take]
        by_cases hj : j < 8
        · rw [if_pos hj, if_pos hj, List.getElem?_drop, List.getElem?_drop, List.getElem?_set_ne (by omega)]
        · rw [if_neg hj, if_neg hj]
      rw [h2, e0] at e
      have h3 := sgn_inj e
      unfold sumB at hs2; rw [if_neg h1, if_neg h1] at hs2
      have : x.toNat = c.toNat := by omega
      exact hc (UInt8.toNat_inj.1 this)
  unfold hget
  rw [if_neg (by simp; omega), if_neg (by simp [hz]), if_pos key]
theorem sumK_ge (b : List UInt8) : 256 ≤ sumK b 512 := by
  have key : ∀ k, k ≤ 8 → 32 * k ≤ sumK b (148 + k) := by
    intro k
    induction k with
    | zero => intro _; omega
    | succ k ih =>
      intro hk
      have := ih (by omega)
      show 32 * (k + 1) ≤ sumK b (148 + k) + sumB (148 + k) (b[148 + k]?.getD 0)
      have : sumB (148 + k) (b[148 + k]?.getD 0) = 32 := by unfold sumB; rw [if_pos (by omega)]
      omega
  have mono : ∀ k, sumK b 156 ≤ sumK b (156 + k) := by
    intro k
    induction k with
    | zero => exact Nat.le_refl _
    | succ k ih =>
      show sumK b 156 ≤ sumK b (156 + k) + sumB (156 + k) (b[156 + k]?.getD 0)
      exact Nat.le_trans ih (Nat.le_add_right _ _)
  have h1 := key 8 (by omega)
  have h2 := mono 356
  exact Nat.le_trans h1 h2
theorem hget_err (b : List UInt8) : (b.length ≠ 512 → (hget b).2 = 1) ∧ (b.length = 512 → ((hget b).2 = 4 ↔ isZero b = true)) ∧ (b.length = 512 → (hget b).2 = 0 ∨ (hget b).2 = 4 ∨ (hget b).2 = 3 ∨ (hget b).2 = 2) := by
  rcases hget_cases b with ⟨e, h1⟩ | ⟨e, h1, h2⟩ | ⟨e, h1, h2⟩ | ⟨e, h1, h2, _⟩ | ⟨e, h1, h2⟩ <;> rw [e] <;> simp [*]
end Go.Proofs.YtldhcknjpmbgnaaGreatDoor.Rk
/- Walks: the document's answers for headers: word, fits, May. -/
namespace Go.Proofs.YtldhcknjpmbgnaaGreatDoor.Rk
open Go.RowKit
set_option linter.unusedVariables false
set_option linter.unusedSimpArgs false

theorem mem_take_succ {l : List UInt8} {k : Nat} (hk : k < l.length) {x : UInt8} (hx : l[k] = x) (h0 : (0 : UInt8) ∉ l.take k) (h : x ≠ 0) : (0 : UInt8) ∉ l.take (k + 1) := by
  rw [List.take_succ_eq_append_getElem hk, hx]
  simp [h0, Ne.symm h]
end Go.Proofs.YtldhcknjpmbgnaaGreatDoor.Rk
/- Walks: the document's answers for headers: May. -/
namespace Go.Proofs.YtldhcknjpmbgnaaGreatDoor.Rk
open Go.RowKit
set_option linter.unusedVariables false
set_option linter.unusedSimpArgs false

def wordR (l : List UInt8) (n : Int) : Bool := decide ((l.length : Int) ≤ n) && !l.contains 0
theorem wordR_iff {l : List UInt8} {n : Nat} : wordR l n = true ↔ l.length ≤ n ∧ (0 : UInt8) ∉ l := by simp [wordR]
def fitsR (n wide : Int) : Bool := (put n wide).isSome
theorem fitsR_iff {n wide : Int} : fitsR n wide = true ↔ ∃ l, put n wide = some l := Option.isSome_iff_exists
def tyR (h : Hd) : Bool := if h.ty = 77 then h.pre == [] && fitsR h.off 12 && fitsR h.real 12 else tyOk h.ty && (h.off == 0 && h.real == 0)
theorem rmay_law (h : Hd) : hmay h = (wordR h.name 100 && (wordR h.link 100 && (wordR h.pre 155 && (fitsR h.mode 8 && (fitsR h.uid 8 && (fitsR h.gid 8 && (fitsR h.size 12 && (fitsR h.mtime 12 && (!(h.name == []) && tyR h))))))))) := by
  rw [Bool.eq_iff_iff, fits_iff]
  simp only [Bool.and_eq_true, Bool.not_eq_true', beq_eq_false_iff_ne]
  have w1 : wordR h.name 100 = true ↔ h.name.length ≤ 100 ∧ (0 : UInt8) ∉ h.name := wordR_iff (n := 100)
  have w2 : wordR h.link 100 = true ↔ h.link.length ≤ 100 ∧ (0 : UInt8) ∉ h.link := wordR_iff (n := 100)
  have w3 : wordR h.pre 155 = true ↔ h.pre.length ≤ 155 ∧ (0 : UInt8) ∉ h.pre := wordR_iff (n := 155)
  have f4 := fitsR_iff (n := h.mode) (wide := 8)
  have f5 := fitsR_iff (n := h.uid) (wide := 8)
  have f6 := fitsR_iff (n := h.gid) (wide := 8)
  have f7 := fitsR_iff (n := h.size) (wide := 12)
  have f8 := fitsR_iff (n := h.mtime) (wide := 12)
  have f9 := fitsR_iff (n := h.off) (wide := 12)
  have f10 := fitsR_iff (n := h.real) (wide := 12)
  constructor
  · intro f
    have hp : h.pre.length ≤ 155 ∧ (0 : UInt8) ∉ h.pre := by
      by_cases h77 : h.ty = 77
      · rw [(f.more h77).1]; simp
      · exact (f.less h77).2.2
    refine ⟨w1.2 ⟨f.nameL, f.nameZ⟩, w2.2 ⟨f.linkL, f.linkZ⟩, w3.2 hp, f4.2 f.mode, f5.2 f.uid, f6.2 f.gid, f7.2 f.size, f8.2 f.mtime, f.name0, ?_⟩
    unfold tyR
    by_cases h77 : h.ty = 77
    · rw [if_pos h77]; simp [(f.more h77).1, f9.2 (f.more h77).2.1, f10.2 (f.more h77).2.2]
    · rw [if_neg h77]; simp [f.ty, (f.less h77).1, (f.less h77).2.1]
  · rintro ⟨a1, a2, a3, a4, a5, a6, a7, a8, a9, a10⟩
    unfold tyR at a10
    by_cases h77 : h.ty = 77
    · rw [if_pos h77] at a10
      simp only [Bool.and_eq_true, beq_iff_eq] at a10
      exact ⟨a9, by rw [h77]; decide, (w1.1 a1).1, (w1.1 a1).2, (w2.1 a2).1, (w2.1 a2).2, f4.1 a4, f5.1 a5, f6.1 a6, f7.1 a7, f8.1 a8, fun _ => ⟨a10.1.1, f9.1 a10.1.2, f10.1 a10.2⟩, fun h => absurd h77 h⟩
    · rw [if_neg h77] at a10
      simp only [Bool.and_eq_true, beq_iff_eq] at a10
      exact ⟨a9, a10.1, (w1.1 a1).1, (w1.1 a1).2, (w2.1 a2).1, (w2.1 a2).2, f4.1 a4, f5.1 a5, f6.1 a6, f7.1 a7, f8.1 a8, fun h => absurd h h77, fun _ => ⟨a10.2.1, a10.2.2, (w3.1 a3).1, (w3.1 a3).2⟩⟩

def Hd.S (h : Hd) : Prop := h.name.length ≤ 200 ∧ h.pre.length ≤ 200 ∧ h.link.length ≤ 200
end Go.Proofs.YtldhcknjpmbgnaaGreatDoor.Rk
/- Walks: the document's answers for headers: lay, number. -/
namespace Go.Proofs.YtldhcknjpmbgnaaGreatDoor.Rk
open Go.RowKit
set_option linter.unusedVariables false
set_option linter.unusedSimpArgs false

theorem splice_step {l x : List UInt8} {i k : Nat} (hf : i + x.length ≤ l.length) (hk : k < x.length) {y : UInt8} (hy : x[k] = y) : (splice l i (x.take k)).set (i + k) y = splice l i (x.take (k + 1)) := by
  apply List.ext_getElem?
  intro j
  have h1 : (x.take k).length = k := by rw [List.length_take]; omega
  have h2 : (x.take (k + 1)).length = k + 1 := by rw [List.length_take]; omega
  rw [splice_at _ _ _ _ (by rw [h2]; omega), h2]
  by_cases e : j = i + k
  · subst e
    rw [List.getElem?_set_self (by rw [splice_length _ _ _ (by rw [h1]; omega)]; omega), if_neg (by omega), if_pos (by omega), List.getElem?_take, if_pos (by omega), show i + k - i = k from by omega, List.getElem?_eq_getElem hk, hy]
  · rw [List.getElem?_set_ne (by omega), splice_at _ _ _ _ (by rw [h1]; omega), h1]
    by_cases h3 : j < i
    · rw [if_pos h3, if_pos h3]
    · rw [if_neg h3, if_neg h3]
      by_cases h4 : j < i + k
      · rw [if_pos h4, if_pos (by omega), List.getElem?_take, List.getElem?_take, if_pos (by omega), if_pos (by omega)]
      · rw [if_neg h4, if_neg (by omega)]

end Go.Proofs.YtldhcknjpmbgnaaGreatDoor.Rk
/- Walks: the document's answers for headers: Put. -/
namespace Go.Proofs.YtldhcknjpmbgnaaGreatDoor.Rk
open Go.RowKit
set_option linter.unusedVariables false
set_option linter.unusedSimpArgs false

def pg6 (h : Hd) : List UInt8 := splice (splice (splice (splice (splice (splice (zeros 512) 0 h.name) 100 (numB h ⟨100, 8, 3⟩)) 108 (numB h ⟨108, 8, 4⟩)) 116 (numB h ⟨116, 8, 5⟩)) 124 (numB h ⟨124, 12, 6⟩)) 136 (numB h ⟨136, 12, 7⟩)
def pg9 (h : Hd) : List UInt8 := splice (splice (splice (pg6 h) 156 [h.ty]) 157 h.link) 257 ustar
theorem set_splice (l : List UInt8) (i : Nat) (x : UInt8) (h : i < l.length) : l.set i x = splice l i [x] := by
  have := splice_step (l := l) (x := [x]) (i := i) (k := 0) (by simp; omega) (by simp) (y := x) rfl
  simpa [splice_nil] using this
theorem pg_more (h : Hd) (f : Fits h) (h77 : h.ty = 77) : splice (splice (pg9 h) 369 (numB h ⟨369, 12, 9⟩)) 483 (numB h ⟨483, 12, 10⟩) = layB h (zeros 8) := by
  have L1 : (numB h ⟨100, 8, 3⟩).length = 8 := numB_len f.mode
  have L2 : (numB h ⟨108, 8, 4⟩).length = 8 := numB_len f.uid
  have L3 : (numB h ⟨116, 8, 5⟩).length = 8 := numB_len f.gid
  have L4 : (numB h ⟨124, 12, 6⟩).length = 12 := numB_len f.size
  have L5 : (numB h ⟨136, 12, 7⟩).length = 12 := numB_len f.mtime
  have N1 := f.nameL
  have N2 := f.linkL
  have P1 : (pad 100 h.name).length = 100 := pad_length f.nameL
  have P2 : (pad 100 h.link).length = 100 := pad_length f.linkL
  have U := ustar_length
  obtain ⟨_, q1, q2⟩ := f.more h77
  have L6 : (numB h ⟨369, 12, 9⟩).length = 12 := numB_len q1
  have L7 : (numB h ⟨483, 12, 10⟩).length = 12 := numB_len q2
  have e3 : layB h (zeros 8) = ([pad 100 h.name, numB h ⟨100, 8, 3⟩, numB h ⟨108, 8, 4⟩, numB h ⟨116, 8, 5⟩, numB h ⟨124, 12, 6⟩, numB h ⟨136, 12, 7⟩, zeros 8, [h.ty], pad 100 h.link, ustar, zeros 80, zeros 24, numB h ⟨369, 12, 9⟩, zeros 102, numB h ⟨483, 12, 10⟩, zeros 17] : List (List UInt8)).flatten := by
    rw [layB, segsB, if_pos h77]; rfl
  rw [e3, pg9, pg6, zeros_split]
  clear h77 e3 q1 q2 f
  (rw [splice_zset 0 (n := 100) rfl (by simp [zeros_length, *]) (by assumption)]; simp only [List.set_cons_succ, List.set_cons_zero])
  (rw [splice_set 1 rfl (by simp [zeros_length, *]) (by simp [zeros_length, *])]; simp only [List.set_cons_succ, List.set_cons_zero])
  (rw [splice_set 2 rfl (by simp [zeros_length, *]) (by simp [zeros_length, *])]; simp only [List.set_cons_succ, List.set_cons_zero])
  (rw [splice_set 3 rfl (by simp [zeros_length, *]) (by simp [zeros_length, *])]; simp only [List.set_cons_succ, List.set_cons_zero])
  (rw [splice_set 4 rfl (by simp [zeros_length, *]) (by simp [zeros_length, *])]; simp only [List.set_cons_succ, List.set_cons_zero])
  (rw [splice_set 5 rfl (by simp [zeros_length, *]) (by simp [zeros_length, *])]; simp only [List.set_cons_succ, List.set_cons_zero])
  (rw [splice_set 7 rfl (by simp [zeros_length, *]) (by simp [zeros_length, *])]; simp only [List.set_cons_succ, List.set_cons_zero])
  (rw [splice_zset 8 (n := 100) rfl (by simp [zeros_length, *]) (by assumption)]; simp only [List.set_cons_succ, List.set_cons_zero])
  (rw [splice_set 9 rfl (by simp [zeros_length, *]) (by simp [zeros_length, *])]; simp only [List.set_cons_succ, List.set_cons_zero])
  (rw [splice_set 12 rfl (by simp [zeros_length, *]) (by simp [zeros_length, *])]; simp only [List.set_cons_succ, List.set_cons_zero])
  (rw [splice_set 14 rfl (by simp [zeros_length, *]) (by simp [zeros_length, *])]; simp only [List.set_cons_succ, List.set_cons_zero])
theorem pg_less (h : Hd) (f : Fits h) (h77 : ¬ h.ty = 77) : splice (pg9 h) 345 h.pre = layB h (zeros 8) := by
  have L1 : (numB h ⟨100, 8, 3⟩).length = 8 := numB_len f.mode
  have L2 : (numB h ⟨108, 8, 4⟩).length = 8 := numB_len f.uid
  have L3 : (numB h ⟨116, 8, 5⟩).length = 8 := numB_len f.gid
  have L4 : (numB h ⟨124, 12, 6⟩).length = 12 := numB_len f.size
  have L5 : (numB h ⟨136, 12, 7⟩).length = 12 := numB_len f.mtime
  have N1 := f.nameL
  have N2 := f.linkL
  have P1 : (pad 100 h.name).length = 100 := pad_length f.nameL
  have P2 : (pad 100 h.link).length = 100 := pad_length f.linkL
  have U := ustar_length
  obtain ⟨_, _, N3, _⟩ := f.less h77
  have P3 : (pad 155 h.pre).length = 155 := pad_length N3
  have e3 : layB h (zeros 8) = ([pad 100 h.name, numB h ⟨100, 8, 3⟩, numB h ⟨108, 8, 4⟩, numB h ⟨116, 8, 5⟩, numB h ⟨124, 12, 6⟩, numB h ⟨136, 12, 7⟩, zeros 8, [h.ty], pad 100 h.link, ustar, zeros 80, pad 155 h.pre, zeros 12] : List (List UInt8)).flatten := by
    rw [layB, segsB, if_neg h77]; rfl
  rw [e3, pg9, pg6, zeros_split']
  clear h77 e3 f
  (rw [splice_zset 0 (n := 100) rfl (by simp [zeros_length, *]) (by assumption)]; simp only [List.set_cons_succ, List.set_cons_zero])
  (rw [splice_set 1 rfl (by simp [zeros_length, *]) (by simp [zeros_length, *])]; simp only [List.set_cons_succ, List.set_cons_zero])
  (rw [splice_set 2 rfl (by simp [zeros_length, *]) (by simp [zeros_length, *])]; simp only [List.set_cons_succ, List.set_cons_zero])
  (rw [splice_set 3 rfl (by simp [zeros_length, *]) (by simp [zeros_length, *])]; simp only [List.set_cons_succ, List.set_cons_zero])
  (rw [splice_set 4 rfl (by simp [zeros_length, *]) (by simp [zeros_length, *])]; simp only [List.set_cons_succ, List.set_cons_zero])
  (rw [splice_set 5 rfl (by simp [zeros_length, *]) (by simp [zeros_length, *])]; simp only [List.set_cons_succ, List.set_cons_zero])
  (rw [splice_set 7 rfl (by simp [zeros_length, *]) (by simp [zeros_length, *])]; simp only [List.set_cons_succ, List.set_cons_zero])
  (rw [splice_zset 8 (n := 100) rfl (by simp [zeros_length, *]) (by assumption)]; simp only [List.set_cons_succ, List.set_cons_zero])
  (rw [splice_set 9 rfl (by simp [zeros_length, *]) (by simp [zeros_length, *])]; simp only [List.set_cons_succ, List.set_cons_zero])
  (rw [splice_zset 11 (n := 155) rfl (by simp [zeros_length, *]) (by assumption)]; simp only [List.set_cons_succ, List.set_cons_zero])
theorem splice_len {l x : List UInt8} {i n : Nat} (h : l.length = n) (hf : i + x.length ≤ n) : (splice l i x).length = n := by rw [splice_length _ _ _ (by omega), h]
/-- The pages on the way. -/
structure Pages (h : Hd) (p1 p2 p3 p4 p5 p6 p7 p8 p9 : List UInt8) : Prop where
  e1 : splice (zeros 512) 0 h.name = p1
  e2 : splice p1 100 (numB h ⟨100, 8, 3⟩) = p2
  e3 : splice p2 108 (numB h ⟨108, 8, 4⟩) = p3
  e4 : splice p3 116 (numB h ⟨116, 8, 5⟩) = p4
  e5 : splice p4 124 (numB h ⟨124, 12, 6⟩) = p5
  e6 : splice p5 136 (numB h ⟨136, 12, 7⟩) = p6
  e7 : p6.set 156 h.ty = p7
  e8 : splice p7 157 h.link = p8
  e9 : splice p8 257 ustar = p9
  l1 : p1.length = 512
  l2 : p2.length = 512
  l3 : p3.length = 512
  l4 : p4.length = 512
  l5 : p5.length = 512
  l6 : p6.length = 512
  l7 : p7.length = 512
  l8 : p8.length = 512
  l9 : p9.length = 512
  e : p9 = pg9 h
theorem pages (h : Hd) (f : Fits h) : ∃ p1 p2 p3 p4 p5 p6 p7 p8 p9, Pages h p1 p2 p3 p4 p5 p6 p7 p8 p9 := by
  have L1 : (numB h ⟨100, 8, 3⟩).length = 8 := numB_len f.mode
  have L2 : (numB h ⟨108, 8, 4⟩).length = 8 := numB_len f.uid
  have L3 : (numB h ⟨116, 8, 5⟩).length = 8 := numB_len f.gid
  have L4 : (numB h ⟨124, 12, 6⟩).length = 12 := numB_len f.size
  have L5 : (numB h ⟨136, 12, 7⟩).length = 12 := numB_len f.mtime
  have N1 := f.nameL
  have N2 := f.linkL
  have U := ustar_length
  have l1 : (splice (zeros 512) 0 h.name).length = 512 := splice_len (zeros_length _) (by omega)
  have l2 := splice_len (x := numB h ⟨100, 8, 3⟩) (i := 100) l1 (by omega)
  have l3 := splice_len (x := numB h ⟨108, 8, 4⟩) (i := 108) l2 (by omega)
  have l4 := splice_len (x := numB h ⟨116, 8, 5⟩) (i := 116) l3 (by omega)
  have l5 := splice_len (x := numB h ⟨124, 12, 6⟩) (i := 124) l4 (by omega)
  have l6 := splice_len (x := numB h ⟨136, 12, 7⟩) (i := 136) l5 (by omega)
  have l7 := splice_len (x := [h.ty]) (i := 156) l6 (by simp)
  have l8 := splice_len (x := h.link) (i := 157) l7 (by omega)
  have l9 := splice_len (x := ustar) (i := 257) l8 (by omega)
  refine ⟨_, _, _, _, _, _, _, _, _, ⟨rfl, rfl, rfl, rfl, rfl, rfl, ?_, rfl, rfl, l1, l2, l3, l4, l5, l6, l7, l8, l9, rfl⟩⟩
  exact set_splice _ _ _ (by rw [l6]; decide)
end Go.Proofs.YtldhcknjpmbgnaaGreatDoor.Rk
/- Walks: the document's answers for headers: Put. -/
namespace Go.Proofs.YtldhcknjpmbgnaaGreatDoor.Rk
open Go.RowKit
set_option linter.unusedVariables false
set_option linter.unusedSimpArgs false

theorem bytes_after (w : World) (o : Obj) (e : TypeId) (x : List UInt8) (hx : x.length ≤ 1000000) : Sl Kd.byte (Lib.bytesWorld (w.alloc o).drew e (ofL x)) (fun k => w.heap.size + 1 ≤ k) (some ⟨w.heap.size + 1, 0, none⟩) (bytesCap (w.alloc o).drew e x) x := by
  have h : (w.alloc o).drew.heap.size = w.heap.size + 1 := by show (w.alloc o).heap.size = _; simp
  have h2 := bytesWorld_sl (w.alloc o).drew e x hx
  rw [h] at h2
  exact h2
theorem after_blk (w : World) (o : Obj) (e : TypeId) (x : List UInt8) : (Lib.bytesWorld (w.alloc o).drew e (ofL x)).heap[w.heap.size]? = some o :=
  blk_below (w := (w.alloc o).drew) (heap_alloc_new w o) (bytesWorld_below _ _ _) (by show w.heap.size < (w.alloc o).heap.size; simp)
theorem after_cell {w : World} (o : Obj) (e : TypeId) (x : List UInt8) {p : Addr} {v : Value} (h : w.cell? p = some v) : (Lib.bytesWorld (w.alloc o).drew e (ofL x)).cell? p = some v :=
  cell_below (w := (w.alloc o).drew) (cell_alloc h _) (bytesWorld_below _ _ _)
theorem after_below (w : World) (o : Obj) (e : TypeId) (x : List UInt8) : Below w.heap.size w (Lib.bytesWorld (w.alloc o).drew e (ofL x)) :=
  below_then (below_drewN ((Below.refl _ w).alloc (Nat.le_refl _) o) 1) (bytesWorld_below (w.alloc o).drew e x) (by show w.heap.size ≤ (w.alloc o).heap.size; simp)

theorem bytesWorld_sl1 (W : World) (e : TypeId) (l : List UInt8) (hl : l.length ≤ 1000000) : Sl Kd.byte (Lib.bytesWorld W e (ofL l)) (fun k => k = W.heap.size) (some ⟨W.heap.size, 0, none⟩) (bytesCap W e l) l := by
  obtain ⟨h1, h2, _⟩ := bytesWorld_sl W e l hl
  refine Sl.of_bytes h1 h2 fun V hV hne => ⟨_, _, rfl, fun j u hu => ?_⟩
  rw [Nat.zero_add, World.cell?_of_block (w := Lib.bytesWorld W e (ofL l)) (hV W.heap.size rfl (by rw [Lib.bytesWorld_size]; omega))]
  exact bytesWorld_cells W e l j u hu
theorem before_size (w : World) (e : TypeId) (x : List UInt8) : (Lib.bytesWorld w.drew e (ofL x)).heap.size = w.heap.size + 1 := by
  rw [Lib.bytesWorld_size]; rfl
theorem bytes_before (w : World) (o : Obj) (e : TypeId) (x : List UInt8) (hx : x.length ≤ 1000000) : Sl Kd.byte ((Lib.bytesWorld w.drew e (ofL x)).alloc o) (fun k => k = w.heap.size) (some ⟨w.heap.size, 0, none⟩) (bytesCap w.drew e x) x :=
  (bytesWorld_sl1 w.drew e x hx).alloc o
theorem before_blk (w : World) (o : Obj) (e : TypeId) (x : List UInt8) : ((Lib.bytesWorld w.drew e (ofL x)).alloc o).heap[w.heap.size + 1]? = some o := by
  rw [← before_size w e x]; exact heap_alloc_new _ _
theorem before_cell0 {w : World} (e : TypeId) (x : List UInt8) {p : Addr} {v : Value} (h : w.cell? p = some v) : (Lib.bytesWorld w.drew e (ofL x)).cell? p = some v :=
  cell_below (w := w.drew) h (bytesWorld_below _ _ _)
theorem before_cell {w : World} (o : Obj) (e : TypeId) (x : List UInt8) {p : Addr} {v : Value} (h : w.cell? p = some v) : ((Lib.bytesWorld w.drew e (ofL x)).alloc o).cell? p = some v :=
  cell_alloc (before_cell0 e x h) _
theorem before_below (w : World) (o : Obj) (e : TypeId) (x : List UInt8) : Below w.heap.size w ((Lib.bytesWorld w.drew e (ofL x)).alloc o) :=
  (below_then (below_drewN (Below.refl _ w) 1) (bytesWorld_below w.drew e x) (Nat.le_refl _)).alloc (by show w.heap.size ≤ (Lib.bytesWorld w.drew e (ofL x)).heap.size; rw [before_size]; omega) o

theorem ustar_sl (W : World) : Sl Kd.byte (W.alloc (.cells #[.int .u8 117, .int .u8 115, .int .u8 116, .int .u8 97, .int .u8 114, .int .u8 0, .int .u8 48, .int .u8 48] 5)) (fun k => k = W.heap.size) (some ⟨W.heap.size, 0, none⟩) 8 ustar := new_sl W ustar _ rfl (by decide)

end Go.Proofs.YtldhcknjpmbgnaaGreatDoor.Rk
