/- Walks: the document's answers for headers: Put. -/
import Derived.Test.YtejalhoaljlnhaaHeadW
namespace Go.Proofs.Ytejalhoaljlnhaa.Rk
open Go.RowKit
set_option linter.unusedVariables false
set_option linter.unusedSimpArgs false

def pg6 (h : Hd) : List UInt8 := splice (splice (splice (splice (splice (splice (zeros 512) 0 h.name) 100 (numB h ⟨100, 8, 3⟩)) 108 (numB h ⟨108, 8, 4⟩)) 116 (numB h ⟨116, 8, 5⟩)) 124 (numB h ⟨124, 12, 6⟩)) 136 (numB h ⟨136, 12, 7⟩)
def pg9 (h : Hd) : List UInt8 := splice (splice (splice (pg6 h) 156 [h.ty]) 157 h.link) 257 ustar
theorem set_splice (l : List UInt8) (i : Nat) (x : UInt8) (h : i < l.length) : l.set i x = splice l i [x] := by
  have := splice_step (l := l) (x := [x]) (i := i) (k := 0) (by simp; omega) (by simp) (y := x) rfl
  simpa [splice_nil] using this
theorem pg_more (h : Hd) (f : Fits h) (h77 : h.ty = 77) : splice (splice (pg9 h) 369 (numB h ⟨369, 12, 9⟩)) 483 (numB h ⟨483, 12, 10⟩) = layB h (zeros 8) := by
  have L1 : (numB h ⟨100, 8, 3⟩).length = 8 := numB_len f.mode
  have L2 : (numB h ⟨108, 8, 4⟩).length = 8 := numB_len f.uid
  have L3 : (numB h ⟨116, 8, 5⟩).length = 8 := numB_len f.gid
  have L4 : (numB h ⟨124, 12, 6⟩).length = 12 := numB_len f.size
  have L5 : (numB h ⟨136, 12, 7⟩).length = 12 := numB_len f.mtime
  have N1 := f.nameL
  have N2 := f.linkL
  have P1 : (pad 100 h.name).length = 100 := pad_length f.nameL
  have P2 : (pad 100 h.link).length = 100 := pad_length f.linkL
  have U := ustar_length
  obtain ⟨_, q1, q2⟩ := f.more h77
  have L6 : (numB h ⟨369, 12, 9⟩).length = 12 := numB_len q1
  have L7 : (numB h ⟨483, 12, 10⟩).length = 12 := numB_len q2
  have e3 : layB h (zeros 8) = ([pad 100 h.name, numB h ⟨100, 8, 3⟩, numB h ⟨108, 8, 4⟩, numB h ⟨116, 8, 5⟩, numB h ⟨124, 12, 6⟩, numB h ⟨136, 12, 7⟩, zeros 8, [h.ty], pad 100 h.link, ustar, zeros 80, zeros 24, numB h ⟨369, 12, 9⟩, zeros 102, numB h ⟨483, 12, 10⟩, zeros 17] : List (List UInt8)).flatten := by
    rw [layB, segsB, if_pos h77]; rfl
  rw [e3, pg9, pg6, zeros_split]
  clear h77 e3 q1 q2 f
  (rw [splice_zset 0 (n := 100) rfl (by simp [zeros_length, *]) (by assumption)]; simp only [List.set_cons_succ, List.set_cons_zero])
  (rw [splice_set 1 rfl (by simp [zeros_length, *]) (by simp [zeros_length, *])]; simp only [List.set_cons_succ, List.set_cons_zero])
  (rw [splice_set 2 rfl (by simp [zeros_length, *]) (by simp [zeros_length, *])]; simp only [List.set_cons_succ, List.set_cons_zero])
  (rw [splice_set 3 rfl (by simp [zeros_length, *]) (by simp [zeros_length, *])]; simp only [List.set_cons_succ, List.set_cons_zero])
  (rw [splice_set 4 rfl (by simp [zeros_length, *]) (by simp [zeros_length, *])]; simp only [List.set_cons_succ, List.set_cons_zero])
  (rw [splice_set 5 rfl (by simp [zeros_length, *]) (by simp [zeros_length, *])]; simp only [List.set_cons_succ, List.set_cons_zero])
  (rw [splice_set 7 rfl (by simp [zeros_length, *]) (by simp [zeros_length, *])]; simp only [List.set_cons_succ, List.set_cons_zero])
  (rw [splice_zset 8 (n := 100) rfl (by simp [zeros_length, *]) (by assumption)]; simp only [List.set_cons_succ, List.set_cons_zero])
  (rw [splice_set 9 rfl (by simp [zeros_length, *]) (by simp [zeros_length, *])]; simp only [List.set_cons_succ, List.set_cons_zero])
  (rw [splice_set 12 rfl (by simp [zeros_length, *]) (by simp [zeros_length, *])]; simp only [List.set_cons_succ, List.set_cons_zero])
  (rw [splice_set 14 rfl (by simp [zeros_length, *]) (by simp [zeros_length, *])]; simp only [List.set_cons_succ, List.set_cons_zero])
theorem pg_less (h : Hd) (f : Fits h) (h77 : ¬ h.ty = 77) : splice (pg9 h) 345 h.pre = layB h (zeros 8) := by
  have L1 : (numB h ⟨100, 8, 3⟩).length = 8 := numB_len f.mode
  have L2 : (numB h ⟨108, 8, 4⟩).length = 8 := numB_len f.uid
  have L3 : (numB h ⟨116, 8, 5⟩).length = 8 := numB_len f.gid
  have L4 : (numB h ⟨124, 12, 6⟩).length = 12 := numB_len f.size
  have L5 : (numB h ⟨136, 12, 7⟩).length = 12 := numB_len f.mtime
  have N1 := f.nameL
  have N2 := f.linkL
  have P1 : (pad 100 h.name).length = 100 := pad_length f.nameL
  have P2 : (pad 100 h.link).length = 100 := pad_length f.linkL
  have U := ustar_length
  obtain ⟨_, _, N3, _⟩ := f.less h77
  have P3 : (pad 155 h.pre).length = 155 := pad_length N3
  have e3 : layB h (zeros 8) = ([pad 100 h.name, numB h ⟨100, 8, 3⟩, numB h ⟨108, 8, 4⟩, numB h ⟨116, 8, 5⟩, numB h ⟨124, 12, 6⟩, numB h ⟨136, 12, 7⟩, zeros 8, [h.ty], pad 100 h.link, ustar, zeros 80, pad 155 h.pre, zeros 12] : List (List UInt8)).flatten := by
    rw [layB, segsB, if_neg h77]; rfl
  rw [e3, pg9, pg6, zeros_split']
  clear h77 e3 f
  (rw [splice_zset 0 (n := 100) rfl (by simp [zeros_length, *]) (by assumption)]; simp only [List.set_cons_succ, List.set_cons_zero])
  (rw [splice_set 1 rfl (by simp [zeros_length, *]) (by simp [zeros_length, *])]; simp only [List.set_cons_succ, List.set_cons_zero])
  (rw [splice_set 2 rfl (by simp [zeros_length, *]) (by simp [zeros_length, *])]; simp only [List.set_cons_succ, List.set_cons_zero])
  (rw [splice_set 3 rfl (by simp [zeros_length, *]) (by simp [zeros_length, *])]; simp only [List.set_cons_succ, List.set_cons_zero])
  (rw [splice_set 4 rfl (by simp [zeros_length, *]) (by simp [zeros_length, *])]; simp only [List.set_cons_succ, List.set_cons_zero])
  (rw [splice_set 5 rfl (by simp [zeros_length, *]) (by simp [zeros_length, *])]; simp only [List.set_cons_succ, List.set_cons_zero])
  (rw [splice_set 7 rfl (by simp [zeros_length, *]) (by simp [zeros_length, *])]; simp only [List.set_cons_succ, List.set_cons_zero])
  (rw [splice_zset 8 (n := 100) rfl (by simp [zeros_length, *]) (by assumption)]; simp only [List.set_cons_succ, List.set_cons_zero])
  (rw [splice_set 9 rfl (by simp [zeros_length, *]) (by simp [zeros_length, *])]; simp only [List.set_cons_succ, List.set_cons_zero])
  (rw [splice_zset 11 (n := 155) rfl (by simp [zeros_length, *]) (by assumption)]; simp only [List.set_cons_succ, List.set_cons_zero])
theorem splice_len {l x : List UInt8} {i n : Nat} (h : l.length = n) (hf : i + x.length ≤ n) : (splice l i x).length = n := by rw [splice_length _ _ _ (by omega), h]
/-- The pages on the way. -/
structure Pages (h : Hd) (p1 p2 p3 p4 p5 p6 p7 p8 p9 : List UInt8) : Prop where
  e1 : splice (zeros 512) 0 h.name = p1
  e2 : splice p1 100 (numB h ⟨100, 8, 3⟩) = p2
  e3 : splice p2 108 (numB h ⟨108, 8, 4⟩) = p3
  e4 : splice p3 116 (numB h ⟨116, 8, 5⟩) = p4
  e5 : splice p4 124 (numB h ⟨124, 12, 6⟩) = p5
  e6 : splice p5 136 (numB h ⟨136, 12, 7⟩) = p6
  e7 : p6.set 156 h.ty = p7
  e8 : splice p7 157 h.link = p8
  e9 : splice p8 257 ustar = p9
  l1 : p1.length = 512
  l2 : p2.length = 512
  l3 : p3.length = 512
  l4 : p4.length = 512
  l5 : p5.length = 512
  l6 : p6.length = 512
  l7 : p7.length = 512
  l8 : p8.length = 512
  l9 : p9.length = 512
  e : p9 = pg9 h
theorem pages (h : Hd) (f : Fits h) : ∃ p1 p2 p3 p4 p5 p6 p7 p8 p9, Pages h p1 p2 p3 p4 p5 p6 p7 p8 p9 := by
  have L1 : (numB h ⟨100, 8, 3⟩).length = 8 := numB_len f.mode
  have L2 : (numB h ⟨108, 8, 4⟩).length = 8 := numB_len f.uid
  have L3 : (numB h ⟨116, 8, 5⟩).length = 8 := numB_len f.gid
  have L4 : (numB h ⟨124, 12, 6⟩).length = 12 := numB_len f.size
  have L5 : (numB h ⟨136, 12, 7⟩).length = 12 := numB_len f.mtime
  have N1 := f.nameL
  have N2 := f.linkL
  have U := ustar_length
  have l1 : (splice (zeros 512) 0 h.name).length = 512 := splice_len (zeros_length _) (by omega)
  have l2 := splice_len (x := numB h ⟨100, 8, 3⟩) (i := 100) l1 (by omega)
  have l3 := splice_len (x := numB h ⟨108, 8, 4⟩) (i := 108) l2 (by omega)
  have l4 := splice_len (x := numB h ⟨116, 8, 5⟩) (i := 116) l3 (by omega)
  have l5 := splice_len (x := numB h ⟨124, 12, 6⟩) (i := 124) l4 (by omega)
  have l6 := splice_len (x := numB h ⟨136, 12, 7⟩) (i := 136) l5 (by omega)
  have l7 := splice_len (x := [h.ty]) (i := 156) l6 (by simp)
  have l8 := splice_len (x := h.link) (i := 157) l7 (by omega)
  have l9 := splice_len (x := ustar) (i := 257) l8 (by omega)
  refine ⟨_, _, _, _, _, _, _, _, _, ⟨rfl, rfl, rfl, rfl, rfl, rfl, ?_, rfl, rfl, l1, l2, l3, l4, l5, l6, l7, l8, l9, rfl⟩⟩
  exact set_splice _ _ _ (by rw [l6]; decide)
end Go.Proofs.Ytejalhoaljlnhaa.Rk
