/- head.May's contract; the block of a header. -/
import Derived.Test.YtejalhoaljlnhaaHeadJ
namespace Go.Proofs.Ytejalhoaljlnhaa.Rk
open Go.RowKit
set_option linter.unusedVariables false
set_option linter.unusedSimpArgs false

theorem may_calls (h : Hd) (hr : h.R) {m : Bool} (hm : hmay h = m) (w : World) :
    Calls Try.prog 33 #[h.agg] w fun e w' => e = .returned (.bool m) ∧ Below w.heap.size w w' := by
  subst hm
  unfold hmay
  cases h1 : (h.name == []) with
  | true => simpa [h1] using may_no1 h w h1
  | false =>
    cases h2 : tyOk h.ty with
    | false => simpa [h1, h2] using may_no2 h w h1 h2
    | true =>
      cases h3 : restOk h with
      | false => simpa [h1, h2, h3] using may_no3 h w h1 h2 h3
      | true => exact may_walk h hr w h1 h2 h3 (by simp)

/-- What is written of a header's place. -/
def zeros (n : Nat) : List UInt8 := List.replicate n 0
def numB (h : Hd) (s : Sp) : List UInt8 := (put (h.numb s.ix) s.wide).getD []
def pad (n : Nat) (l : List UInt8) : List UInt8 := l ++ zeros (n - l.length)
/-- The block of a header, before its sum: s stands at the sum's place. -/
def ustar : List UInt8 := [117, 115, 116, 97, 114, 0, 48, 48]
def segsB (h : Hd) (s : List UInt8) : List (List UInt8) :=
  [pad 100 h.name, numB h ⟨100, 8, 3⟩, numB h ⟨108, 8, 4⟩, numB h ⟨116, 8, 5⟩, numB h ⟨124, 12, 6⟩, numB h ⟨136, 12, 7⟩, s, [h.ty], pad 100 h.link, ustar, zeros 80] ++
    (if h.ty = 77 then [zeros 24, numB h ⟨369, 12, 9⟩, zeros 102, numB h ⟨483, 12, 10⟩, zeros 17] else [pad 155 h.pre, zeros 12])
def layB (h : Hd) (s : List UInt8) : List UInt8 := (segsB h s).flatten
def blockOf (h : Hd) : List UInt8 := layB h (sgn (layB h (zeros 8)))
def hput (h : Hd) : Option (List UInt8) := if hmay h then some (blockOf h) else none

theorem zeros_length (n : Nat) : (zeros n).length = n := by simp [zeros]
theorem pad_length {n : Nat} {l : List UInt8} (h : l.length ≤ n) : (pad n l).length = n := by simp [pad, zeros]; omega
/-- What may be, opened. -/
structure Fits (h : Hd) : Prop where
  name0 : h.name ≠ []
  ty : tyOk h.ty = true
  nameL : h.name.length ≤ 100
  nameZ : (0 : UInt8) ∉ h.name
  linkL : h.link.length ≤ 100
  linkZ : (0 : UInt8) ∉ h.link
  mode : ∃ l, put h.mode 8 = some l
  uid : ∃ l, put h.uid 8 = some l
  gid : ∃ l, put h.gid 8 = some l
  size : ∃ l, put h.size 12 = some l
  mtime : ∃ l, put h.mtime 12 = some l
  more : h.ty = 77 → h.pre = [] ∧ (∃ l, put h.off 12 = some l) ∧ (∃ l, put h.real 12 = some l)
  less : h.ty ≠ 77 → h.off = 0 ∧ h.real = 0 ∧ h.pre.length ≤ 155 ∧ (0 : UInt8) ∉ h.pre
theorem fits_iff (h : Hd) : hmay h = true ↔ Fits h := by
  constructor
  · intro hm
    simp only [hmay, Bool.and_eq_true, Bool.not_eq_true', List.all_eq_true] at hm
    obtain ⟨⟨⟨⟨h1, h2⟩, h3⟩, h4⟩, h5⟩ := hm
    have hw : ∀ s ∈ wSp h.ty, (h.text s.ix).length ≤ s.wide ∧ (0 : UInt8) ∉ h.text s.ix := fun s hs => by
      have := h4 s hs; simp [wordOk] at this; exact this
    have hn : ∀ s ∈ nSp h.ty, ∃ l, put (h.numb s.ix) s.wide = some l := fun s hs => Option.isSome_iff_exists.1 (h5 s hs)
    refine ⟨by simpa using h1, h2, (hw ⟨0, 100, 0⟩ (by simp [wSp])).1, (hw ⟨0, 100, 0⟩ (by simp [wSp])).2, (hw ⟨157, 100, 2⟩ (by simp [wSp])).1, (hw ⟨157, 100, 2⟩ (by simp [wSp])).2,
      hn ⟨100, 8, 3⟩ (by simp [nSp]), hn ⟨108, 8, 4⟩ (by simp [nSp]), hn ⟨116, 8, 5⟩ (by simp [nSp]), hn ⟨124, 12, 6⟩ (by simp [nSp]), hn ⟨136, 12, 7⟩ (by simp [nSp]), ?_, ?_⟩
    · intro h77
      simp [restOk, h77] at h3
      exact ⟨h3, hn ⟨369, 12, 9⟩ (by simp [nSp, h77]), hn ⟨483, 12, 10⟩ (by simp [nSp, h77])⟩
    · intro h77
      simp [restOk, h77] at h3
      exact ⟨h3.1, h3.2, (hw ⟨345, 155, 1⟩ (by simp [wSp, h77])).1, (hw ⟨345, 155, 1⟩ (by simp [wSp, h77])).2⟩
  · intro f
    simp only [hmay, Bool.and_eq_true, Bool.not_eq_true', List.all_eq_true]
    refine ⟨⟨⟨⟨by simpa using f.name0, f.ty⟩, ?_⟩, ?_⟩, ?_⟩
    · unfold restOk
      split
      · rename_i h77; simp [(f.more h77).1]
      · rename_i h77; simp [(f.less h77).1, (f.less h77).2.1]
    · intro s hs
      unfold wSp at hs
      split at hs <;> simp at hs
      · rcases hs with rfl | rfl <;> simp [wordOk, Hd.text, f.nameL, f.nameZ, f.linkL, f.linkZ]
      · rename_i h77
        rcases hs with rfl | rfl | rfl <;> simp [wordOk, Hd.text, f.nameL, f.nameZ, f.linkL, f.linkZ, (f.less h77).2.2]
    · intro s hs
      obtain ⟨l1, e1⟩ := f.mode
      obtain ⟨l2, e2⟩ := f.uid
      obtain ⟨l3, e3⟩ := f.gid
      obtain ⟨l4, e4⟩ := f.size
      obtain ⟨l5, e5⟩ := f.mtime
      unfold nSp at hs
      split at hs <;> simp at hs
      · rename_i h77
        obtain ⟨_, ⟨l6, e6⟩, ⟨l7, e7⟩⟩ := f.more h77
        rcases hs with rfl | rfl | rfl | rfl | rfl | rfl | rfl <;> simp [numbOk, Hd.numb, *]
      · rcases hs with rfl | rfl | rfl | rfl | rfl <;> simp [numbOk, Hd.numb, *]
end Go.Proofs.Ytejalhoaljlnhaa.Rk
