/- Walks: head.words, head.numbers. -/
import Derived.Test.YtejalhoaljlnhaaHeadB
namespace Go.Proofs.Ytejalhoaljlnhaa.Rk
open Go.RowKit
set_option linter.unusedVariables false
set_option linter.unusedSimpArgs false

/-- A header. -/
structure Hd where
  name : List UInt8
  pre : List UInt8
  link : List UInt8
  mode : Int
  uid : Int
  gid : Int
  size : Int
  mtime : Int
  ty : UInt8
  off : Int
  real : Int
def Hd.cells (h : Hd) : List Value := [.string (ofL h.name), .string (ofL h.pre), .string (ofL h.link), .int .i64 h.mode, .int .i64 h.uid, .int .i64 h.gid, .int .i64 h.size, .int .i64 h.mtime, .int .u8 h.ty.toNat, .int .i64 h.off, .int .i64 h.real]

/-- The words of a header at block g, as cells. -/
def wordsOf (g : Nat) (ty : UInt8) : List Value :=
  [.int .i64 0, .int .i64 100, .pointer (some ⟨g, 0, none⟩), .int .i64 157, .int .i64 100, .pointer (some ⟨g, 2, none⟩)] ++ (if ty = 77 then [] else [.int .i64 345, .int .i64 155, .pointer (some ⟨g, 1, none⟩)])
def wordsN (ty : UInt8) : Nat := if ty = 77 then 2 else 3
theorem etWord : ET Try.prog 58 63 (.agg #[.int .i64 0, .int .i64 0, .pointer none]) 3 24 := ⟨Try.underlying58, by kernel_rfl, rfl, by decide⟩

theorem words_calls (g : Nat) (ty : UInt8) (w : World) (hc : w.cell? ⟨g, 8, none⟩ = some (.int .u8 ty.toNat)) :
    Calls Try.prog 40 #[.pointer (some ⟨g, 0, none⟩)] w fun e w' => ∃ A c n, e = .returned (.slice A n c) ∧ Au (n = wordsN ty) ∧ Fresh w w' A (wordsOf g ty) ∧ Below w.heap.size w w' := by
  by_cases hty : ty = 77
  · subst hty
    have hall : ∀ o, (w.alloc o).cell? ⟨g, 8, none⟩ = some (.int .u8 77) := fun o => cell_alloc hc o
    go_enter Try.func40, Try.ntmps40
    go_wp2_with fail
    go_still_tail 8, (by kernel_rfl)
    go_wp2_with fail
    go_ret
    refine ⟨_, _, _, rfl, ⟨rfl⟩, ?_, by first | exact (Below.refl _ _).alloc (Nat.le_refl _) _ | exact below_drewN ((Below.refl _ _).alloc (Nat.le_refl _) _) _ | exact ((Below.refl _ _).alloc (Nat.le_refl _) _).drew⟩
    intro W hW
    have h := (row_lit w w.heap.size 63 (wordsOf g 77) 3 2 (Nat.le_refl _) rfl (by decide)).form
    obtain ⟨A, c, e, _, _, _, h2⟩ := h
    injection e with e1 _ e3
    subst e1 e3
    exact h2 W hW
  · have h2 : ((ty.toNat : Int) == 77) = false := by
      have := byte_beq ty 77
      rw [show (ty == 77) = false from by simpa using hty] at this
      exact this
    have h3 : ((ty.toNat : Int) != 77) = true := by rw [bne, h2]; rfl
    have hall : ∀ o, (w.alloc o).cell? ⟨g, 8, none⟩ = some (.int .u8 ty.toNat) := fun o => cell_alloc hc o
    have Hty := Au.mk hty
    clear hty
    go_enter Try.func40, Try.ntmps40
    go_wp2_with fail
    go_still_tail 8, (by kernel_rfl)
    have r0 : Row ((w.alloc (.cells (wordsOf g 77).toArray 63)).alloc (.cells #[.int .i64 345, .int .i64 155, .pointer (some ⟨g, 1, none⟩)] 63)).drew w.heap.size 3 (.slice (some ⟨w.heap.size, 0, none⟩) 2 2) 2 (wordsOf g 77) := ((row_lit w w.heap.size 63 (wordsOf g 77) 3 2 (Nat.le_refl _) rfl (by decide)).alloc _)
    have q0 : Cells ((w.alloc (.cells (wordsOf g 77).toArray 63)).alloc (.cells #[.int .i64 345, .int .i64 155, .pointer (some ⟨g, 1, none⟩)] 63)).drew (some ⟨w.heap.size + 1, 0, none⟩) [.int .i64 345, .int .i64 155, .pointer (some ⟨g, 1, none⟩)] := by
      have := cells_newN (w.alloc (.cells (wordsOf g 77).toArray 63)) [.int .i64 345, .int .i64 155, .pointer (some ⟨g, 1, none⟩)] 63
      rw [World.size_alloc] at this
      exact this
    go_wp2_with (first | (at_builtin; go_loud (refine wpList_append_row _ rfl etWord _ _ rfl rfl r0 rfl q0 rfl (by simp [Value.oneCell']) (by decide) (by decide) (by simp; omega) ?_)))
    intro v' w1 hrow hg _
    go_wp2_with fail
    go_ret
    have hcs : wordsOf g 77 ++ [Value.int .i64 345, .int .i64 155, .pointer (some ⟨g, 1, none⟩)] = wordsOf g ty := by
      simp [wordsOf, Hty.out]
    rw [hcs] at hrow
    obtain ⟨A, c, rfl, _, _, _, h4⟩ := hrow.form
    refine ⟨A, c, 3, rfl, ⟨?_⟩, h4, ?_⟩
    · simp [wordsN, Hty.out]
    · exact ((((Below.refl _ _).alloc (Nat.le_refl _) _).alloc (by simp) _).drew).grown hg (by simp; omega) (by intro k hk; simp [Value.ownBlock] at hk; omega)
end Go.Proofs.Ytejalhoaljlnhaa.Rk
