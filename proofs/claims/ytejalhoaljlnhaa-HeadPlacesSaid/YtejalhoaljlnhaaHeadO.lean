/- The header of a block: what head.Get computes; slices cut. -/
import Derived.Test.YtejalhoaljlnhaaHeadN
namespace Go.Proofs.Ytejalhoaljlnhaa.Rk
open Go.RowKit
set_option linter.unusedVariables false
set_option linter.unusedSimpArgs false

def Hd.setText (h : Hd) (i : Nat) (x : List UInt8) : Hd := match i with
  | 0 => { h with name := x }
  | 1 => { h with pre := x }
  | _ => { h with link := x }
def Hd.setNumb (h : Hd) (i : Nat) (x : Int) : Hd := match i with
  | 3 => { h with mode := x }
  | 4 => { h with uid := x }
  | 5 => { h with gid := x }
  | 6 => { h with size := x }
  | 7 => { h with mtime := x }
  | 9 => { h with off := x }
  | _ => { h with real := x }
theorem setText_cells (h : Hd) {i : Nat} (hi : i < 3) (x : List UInt8) : (h.setText i x).cells = h.cells.set i (.string (ofL x)) := by
  match i, hi with
  | 0, _ => rfl
  | 1, _ => rfl
  | 2, _ => rfl
theorem setNumb_cells (h : Hd) {i : Nat} (h3 : 3 ≤ i) (h11 : i < 11) (h8 : i ≠ 8) (x : Int) : (h.setNumb i x).cells = h.cells.set i (.int .i64 x) := by
  match i, h3, h11, h8 with
  | 3, _, _, _ => rfl
  | 4, _, _, _ => rfl
  | 5, _, _, _ => rfl
  | 6, _, _, _ => rfl
  | 7, _, _, _ => rfl
  | 9, _, _, _ => rfl
  | 10, _, _, _ => rfl
theorem setText_ty (h : Hd) (i : Nat) (x : List UInt8) : (h.setText i x).ty = h.ty := by unfold Hd.setText; split <;> rfl
theorem setNumb_ty (h : Hd) (i : Nat) (x : Int) : (h.setNumb i x).ty = h.ty := by unfold Hd.setNumb; split <;> rfl
def hd0 : Hd := ⟨[], [], [], 0, 0, 0, 0, 0, 0, 0, 0⟩
def piece (b : List UInt8) (s : Sp) : List UInt8 := (b.drop s.at_).take s.wide
def guessW (b : List UInt8) (l : List Sp) (h : Hd) : Hd := l.foldl (fun h s => h.setText s.ix (upto (piece b s))) h
def guessN (b : List UInt8) (l : List Sp) (h : Hd) : Hd := l.foldl (fun h s => h.setNumb s.ix ((get (piece b s)).getD 0)) h
def tyOf (b : List UInt8) : UInt8 := (b[156]?).getD 0
def guess (b : List UInt8) : Hd := guessN b (nSp (tyOf b)) (guessW b (wSp (tyOf b)) { hd0 with ty := tyOf b })
/-- The header of a block, or why not. -/
def hget (b : List UInt8) : Hd × Int :=
  if b.length ≠ 512 then (hd0, 1)
  else if isZero b then (hd0, 4)
  else if ((b.drop 148).take 8 == sgn b) = false then (hd0, 3)
  else if hput (guess b) = some b then (guess b, 0) else (hd0, 2)
theorem fold_ty {f : Hd → Sp → Hd} (hf : ∀ h s, (f h s).ty = h.ty) : ∀ (l : List Sp) (h : Hd), (l.foldl f h).ty = h.ty
  | [], h => rfl
  | s :: l, h => (fold_ty hf l (f h s)).trans (hf h s)
theorem guess_ty (b : List UInt8) : (guess b).ty = tyOf b := by
  unfold guess guessN guessW
  rw [fold_ty (fun h s => setNumb_ty _ _ _), fold_ty (fun h s => setText_ty _ _ _)]
theorem fold_R {f : Hd → Sp → Hd} (hf : ∀ h s, h.R → (f h s).R) : ∀ (l : List Sp) (h : Hd), h.R → (l.foldl f h).R
  | [], h, hr => hr
  | s :: l, h, hr => fold_R hf l (f h s) (hf h s hr)
theorem setText_R (h : Hd) (i : Nat) (x : List UInt8) (hr : h.R) : (h.setText i x).R := by unfold Hd.setText; split <;> exact hr
theorem setNumb_R (h : Hd) (i : Nat) (x : Int) (hx : R64 x) (hr : h.R) : (h.setNumb i x).R := by
  obtain ⟨h1, h2, h3, h4, h5, h6, h7⟩ := hr
  unfold Hd.setNumb; split <;> simp only [Hd.R] <;> refine ⟨?_, ?_, ?_, ?_, ?_, ?_, ?_⟩ <;> assumption
theorem guess_R (b : List UInt8) : (guess b).R := by
  unfold guess guessN guessW
  refine fold_R (fun h s hr => setNumb_R _ _ _ (get_R64 _) hr) _ _ (fold_R (fun h s hr => setText_R _ _ _ hr) _ _ ?_)
  have z : R64 0 := ⟨by decide, by decide⟩
  exact ⟨z, z, z, z, z, z, z⟩
/-- A slice cut out of one. -/
theorem Sl.cut {α : Type} {d : Kd α} {w : World} {F : Nat → Prop} {b o c : Nat} {l : List α} (h : Sl d w F (some ⟨b, o, none⟩) c l) (p n m : Nat) (hp : p + n ≤ l.length) (hm : n ≤ m) (hm2 : m ≤ 9223372036854775807) :
    Sl d w F (some ⟨b, o + p * d.sz, none⟩) m ((l.drop p).take n) := by
  obtain ⟨h1, h2, vs, hv⟩ := h
  refine ⟨by rw [List.length_take]; omega, hm2, (vs.drop (p * d.sz)).take (n * d.sz), fun W hW => ?_⟩
  obtain ⟨hc, hr⟩ := hv W hW
  exact ⟨(hc.drop (p * d.sz)).take (n * d.sz), (hr.drop p).take n⟩
theorem byte_cut {w : World} {F : Nat → Prop} {b o c : Nat} {l : List UInt8} (h : Sl Kd.byte w F (some ⟨b, o, none⟩) c l) (p n m : Nat) (hp : p + n ≤ l.length) (hm : n ≤ m) (hm2 : m ≤ 9223372036854775807) :
    Sl Kd.byte w F (some ⟨b, o + p, none⟩) m ((l.drop p).take n) := by
  have := h.cut p n m hp hm hm2
  simpa [Kd.byte, Kd.one1, Kd.flat] using this
theorem piece_len {b : List UInt8} (hb : b.length = 512) {s : Sp} (h : s.at_ + s.wide ≤ 512) : (piece b s).length = s.wide := by
  unfold piece; rw [List.length_take, List.length_drop]; omega
end Go.Proofs.Ytejalhoaljlnhaa.Rk
