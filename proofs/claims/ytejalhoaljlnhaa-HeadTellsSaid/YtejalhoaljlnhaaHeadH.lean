/- head.May. -/
import Derived.Test.YtejalhoaljlnhaaHeadG
namespace Go.Proofs.Ytejalhoaljlnhaa.Rk
open Go.RowKit
set_option linter.unusedVariables false
set_option linter.unusedSimpArgs false

/-- A place: where it stands, how wide, which field. -/
structure Sp where
  at_ : Nat
  wide : Nat
  ix : Nat
def Sp.cells (g : Nat) (s : Sp) : List Value := [.int .i64 s.at_, .int .i64 s.wide, .pointer (some ⟨g, s.ix, none⟩)]
def wSp (ty : UInt8) : List Sp := [⟨0, 100, 0⟩, ⟨157, 100, 2⟩] ++ (if ty = 77 then [] else [⟨345, 155, 1⟩])
def nSp (ty : UInt8) : List Sp := [⟨100, 8, 3⟩, ⟨108, 8, 4⟩, ⟨116, 8, 5⟩, ⟨124, 12, 6⟩, ⟨136, 12, 7⟩] ++ (if ty = 77 then [⟨369, 12, 9⟩, ⟨483, 12, 10⟩] else [])
def Hd.text (h : Hd) : Nat → List UInt8
  | 0 => h.name
  | 1 => h.pre
  | _ => h.link
def Hd.numb (h : Hd) : Nat → Int
  | 3 => h.mode
  | 4 => h.uid
  | 5 => h.gid
  | 6 => h.size
  | 7 => h.mtime
  | 9 => h.off
  | _ => h.real
def Hd.R (h : Hd) : Prop := R64 h.mode ∧ R64 h.uid ∧ R64 h.gid ∧ R64 h.size ∧ R64 h.mtime ∧ R64 h.off ∧ R64 h.real
theorem Hd.R.numb {h : Hd} (hr : h.R) (i : Nat) : R64 (h.numb i) := by
  obtain ⟨h1, h2, h3, h4, h5, h6, h7⟩ := hr
  unfold Hd.numb; split <;> assumption
theorem wSp_cells (g : Nat) (ty : UInt8) : wordsOf g ty = ((wSp ty).map (Sp.cells g)).flatten := by
  unfold wordsOf wSp; split <;> rfl
theorem nSp_cells (g : Nat) (ty : UInt8) : spotsOf g ty = ((nSp ty).map (Sp.cells g)).flatten := by
  unfold spotsOf nSp; split <;> rfl
theorem wSp_len (ty : UInt8) : (wSp ty).length = wordsN ty := by unfold wSp wordsN; split <;> rfl
theorem nSp_len (ty : UInt8) : (nSp ty).length = spotsN ty := by unfold nSp spotsN; split <;> rfl
theorem flat3_at (g : Nat) : ∀ (l : List Sp) (k : Nat) (s : Sp), l[k]? = some s → ∀ j, j < 3 → ((l.map (Sp.cells g)).flatten)[k * 3 + j]? = (s.cells g)[j]?
  | [], k, s, h => by simp at h
  | a :: l, 0, s, h => by
    intro j hj
    simp at h; subst h
    rw [List.map_cons, List.flatten_cons, List.getElem?_append_left (by simp [Sp.cells]; omega)]
    simp
  | a :: l, k + 1, s, h => by
    intro j hj
    rw [List.map_cons, List.flatten_cons, List.getElem?_append_right (by simp [Sp.cells]; omega)]
    have := flat3_at g l k s (by simpa using h) j hj
    rw [← this]; congr 1; simp [Sp.cells]; omega
/-- The three cells of a place in a row of places. -/
theorem place_cells {w : World} {g : Nat} {A : Option Addr} {l : List Sp} {k : Nat} {s : Sp} (h : Cells w A ((l.map (Sp.cells g)).flatten)) (hk : l[k]? = some s) :
    ∃ b o, A = some ⟨b, o, none⟩ ∧ w.cell? ⟨b, o + k * 3, none⟩ = some (.int .i64 s.at_) ∧ w.cell? ⟨b, o + k * 3 + 1, none⟩ = some (.int .i64 s.wide) ∧ w.cell? ⟨b, o + k * 3 + 2, none⟩ = some (.pointer (some ⟨g, s.ix, none⟩)) := by
  have h0 := flat3_at g l k s hk 0 (by omega)
  have h1 := flat3_at g l k s hk 1 (by omega)
  have h2 := flat3_at g l k s hk 2 (by omega)
  obtain ⟨b, o, rfl, c0⟩ := h.at_ (h0.trans rfl)
  obtain ⟨b', o', e, c1⟩ := h.at_ (h1.trans rfl)
  injection e with e; injection e with e1 e2; subst e1 e2
  obtain ⟨b', o', e, c2⟩ := h.at_ (h2.trans rfl)
  injection e with e; injection e with e1 e2; subst e1 e2
  exact ⟨b, o, rfl, c0, c1, c2⟩
theorem wSp_mem {ty : UInt8} {k : Nat} {s : Sp} (h : (wSp ty)[k]? = some s) : s.ix < 3 ∧ s.at_ + s.wide ≤ 512 := by
  have := List.mem_of_getElem? h
  unfold wSp at this; split at this <;> simp at this <;> (rcases this with rfl | rfl | rfl <;> exact ⟨by decide, by decide⟩) <;> (rcases this with rfl | rfl <;> exact ⟨by decide, by decide⟩)
/-- A header as a value. -/
def Hd.agg (h : Hd) : Value := .agg #[.string (ofL h.name), .string (ofL h.pre), .string (ofL h.link), .int .i64 h.mode, .int .i64 h.uid, .int .i64 h.gid, .int .i64 h.size, .int .i64 h.mtime, .int .u8 h.ty.toNat, .int .i64 h.off, .int .i64 h.real]
def wordOk (h : Hd) (s : Sp) : Bool := decide ((h.text s.ix).length ≤ s.wide) && !(h.text s.ix).contains 0
def numbOk (h : Hd) (s : Sp) : Bool := (put (h.numb s.ix) s.wide).isSome
def tyOk (t : UInt8) : Bool := [48, 49, 50, 53, 75, 76, 77, 86].contains t
def restOk (h : Hd) : Bool := if h.ty = 77 then h.pre == [] else h.off == 0 && h.real == 0
def hmay (h : Hd) : Bool := !(h.name == []) && tyOk h.ty && restOk h && (wSp h.ty).all (wordOk h) && (nSp h.ty).all (numbOk h)
end Go.Proofs.Ytejalhoaljlnhaa.Rk
