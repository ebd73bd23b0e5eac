/- The block of a header, laid piece by piece; rows of slices that are new. -/
import Derived.Test.YtejalhoaljlnhaaHeadK
namespace Go.Proofs.Ytejalhoaljlnhaa.Rk
open Go.RowKit
set_option linter.unusedVariables false
set_option linter.unusedSimpArgs false

theorem splice_set {segs : List (List UInt8)} (j : Nat) {i : Nat} {x y : List UInt8} (hj : segs[j]? = some y) (hi : (segs.take j).flatten.length = i) (hx : x.length = y.length) : splice segs.flatten i x = (segs.set j x).flatten := by
  have hlt := (List.getElem?_eq_some_iff.1 hj).1
  have e : segs = segs.take j ++ y :: segs.drop (j + 1) := by
    rw [List.getElem?_eq_getElem hlt] at hj
    injection hj with hj
    rw [← hj, ← List.drop_eq_getElem_cons hlt, List.take_append_drop]
  have e2 : segs.set j x = segs.take j ++ x :: segs.drop (j + 1) := by rw [List.set_eq_take_append_cons_drop, if_pos hlt]
  rw [e2]
  conv => lhs; rw [e]
  rw [List.flatten_append, List.flatten_append, List.flatten_cons, List.flatten_cons]
  subst hi
  unfold splice
  rw [List.take_left]
  congr 2
  rw [← List.drop_drop, List.drop_left, hx, List.drop_left]
theorem splice_pad {l x : List UInt8} {i n : Nat} (h : ∀ j, i + x.length ≤ j → j < i + n → l[j]? = some 0) (hx : x.length ≤ n) : splice l i x = splice l i (pad n x) := by
  unfold splice pad
  rw [List.append_assoc]
  congr 2
  rw [List.length_append, zeros_length]
  obtain ⟨m, hm⟩ : ∃ m, n - x.length = m := ⟨_, rfl⟩
  rw [hm]
  have h' : ∀ j, j < m → l[i + x.length + j]? = some 0 := fun j hj => h _ (by omega) (by omega)
  clear h hx hm
  rw [← Nat.add_assoc]
  generalize i + x.length = p at h'
  induction m with
  | zero => simp [zeros]
  | succ m ih =>
    rw [ih fun j hj => h' j (by omega)]
    have h2 := h' m (by omega)
    have hlt := (List.getElem?_eq_some_iff.1 h2).1
    rw [List.drop_eq_getElem_cons hlt]
    rw [List.getElem?_eq_getElem hlt] at h2
    injection h2 with h2
    rw [h2, zeros, zeros, List.replicate_succ', List.append_assoc]
    rfl
theorem splice_zset {segs : List (List UInt8)} (j : Nat) {i n : Nat} {x : List UInt8} (hj : segs[j]? = some (zeros n)) (hi : (segs.take j).flatten.length = i) (hx : x.length ≤ n) : splice segs.flatten i x = (segs.set j (pad n x)).flatten := by
  rw [splice_pad (n := n) _ hx, splice_set j hj hi (by rw [pad_length hx, zeros_length])]
  intro k h1 h2
  have hlt := (List.getElem?_eq_some_iff.1 hj).1
  have e : segs = segs.take j ++ zeros n :: segs.drop (j + 1) := by
    rw [List.getElem?_eq_getElem hlt] at hj
    injection hj with hj
    rw [← hj, ← List.drop_eq_getElem_cons hlt, List.take_append_drop]
  rw [e, List.flatten_append, List.flatten_cons, List.getElem?_append_right (by omega), List.getElem?_append_left (by rw [zeros_length]; omega)]
  rw [hi, zeros, List.getElem?_replicate, if_pos (by omega)]

def layW (h : Hd) (l : List Sp) (pg : List UInt8) : List UInt8 := l.foldl (fun pg s => splice pg s.at_ (h.text s.ix)) pg
def layN (h : Hd) (l : List Sp) (pg : List UInt8) : List UInt8 := l.foldl (fun pg s => splice pg s.at_ (numB h s)) pg
theorem take_foldl {α β : Type} (f : β → α → β) {l : List α} {k : Nat} {s : α} (hk : l[k]? = some s) (b : β) : (l.take (k + 1)).foldl f b = f ((l.take k).foldl f b) s := by
  have hlt := (List.getElem?_eq_some_iff.1 hk).1
  rw [List.getElem?_eq_getElem hlt] at hk
  injection hk with hk
  rw [List.take_succ_eq_append_getElem hlt, List.foldl_append, hk]; rfl
theorem fold_splice_len {f : Sp → List UInt8} : ∀ (l : List Sp) (pg : List UInt8), pg.length = 512 → (∀ s ∈ l, s.at_ + (f s).length ≤ 512) → (l.foldl (fun pg s => splice pg s.at_ (f s)) pg).length = 512
  | [], pg, h, _ => h
  | s :: l, pg, h, hs => fold_splice_len l _ (by rw [splice_length _ _ _ (by rw [h]; exact hs s (by simp))]; exact h) fun t ht => hs t (by simp [ht])
theorem numB_len {h : Hd} {s : Sp} (hp : ∃ l, put (h.numb s.ix) s.wide = some l) : (numB h s).length = s.wide := by
  obtain ⟨l, e⟩ := hp
  have := put_length e
  rw [numB, e]
  show l.length = _
  omega
end Go.Proofs.Ytejalhoaljlnhaa.Rk
