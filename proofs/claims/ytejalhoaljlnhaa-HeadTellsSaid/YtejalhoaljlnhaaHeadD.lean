/- Walks: head.numbers, (page).put. -/
import Derived.Test.YtejalhoaljlnhaaHeadC
namespace Go.Proofs.Ytejalhoaljlnhaa.Rk
open Go.RowKit
set_option linter.unusedVariables false
set_option linter.unusedSimpArgs false

def spotsA (g : Nat) : List Value := [.int .i64 100, .int .i64 8, .pointer (some ⟨g, 3, none⟩), .int .i64 108, .int .i64 8, .pointer (some ⟨g, 4, none⟩), .int .i64 116, .int .i64 8, .pointer (some ⟨g, 5, none⟩),
  .int .i64 124, .int .i64 12, .pointer (some ⟨g, 6, none⟩), .int .i64 136, .int .i64 12, .pointer (some ⟨g, 7, none⟩)]
def spotsB (g : Nat) : List Value := [.int .i64 369, .int .i64 12, .pointer (some ⟨g, 9, none⟩), .int .i64 483, .int .i64 12, .pointer (some ⟨g, 10, none⟩)]
/-- The numbers of a header at block g, as cells. -/
def spotsOf (g : Nat) (ty : UInt8) : List Value := spotsA g ++ (if ty = 77 then spotsB g else [])
def spotsN (ty : UInt8) : Nat := if ty = 77 then 7 else 5
theorem etSpot : ET Try.prog 65 69 (.agg #[.int .i64 0, .int .i64 0, .pointer none]) 3 24 := ⟨Try.underlying65, by kernel_rfl, rfl, by decide⟩

set_option maxHeartbeats 2000000 in
theorem numbers_calls (g : Nat) (ty : UInt8) (w : World) (hc : w.cell? ⟨g, 8, none⟩ = some (.int .u8 ty.toNat)) :
    Calls Try.prog 42 #[.pointer (some ⟨g, 0, none⟩)] w fun e w' => ∃ A c n, e = .returned (.slice A n c) ∧ Au (n = spotsN ty) ∧ Fresh w w' A (spotsOf g ty) ∧ Below w.heap.size w w' := by
  have hall : ∀ o, (w.alloc o).cell? ⟨g, 8, none⟩ = some (.int .u8 ty.toNat) := fun o => cell_alloc hc o
  by_cases hty : ty = 77
  · subst hty
    go_enter Try.func42, Try.ntmps42
    go_wp2_with fail
    go_still_tail 20, (by kernel_rfl)
    go_wp2_with fail
    have r0 : Row ((w.alloc (.cells (spotsA g).toArray 69)).alloc (.cells (spotsB g).toArray 69)).drew w.heap.size 3 (.slice (some ⟨w.heap.size, 0, none⟩) 5 5) 5 (spotsA g) := ((row_lit w w.heap.size 69 (spotsA g) 3 5 (Nat.le_refl _) rfl (by decide)).alloc _)
    have q0 : Cells ((w.alloc (.cells (spotsA g).toArray 69)).alloc (.cells (spotsB g).toArray 69)).drew (some ⟨w.heap.size + 1, 0, none⟩) (spotsB g) := by
      have := cells_newN (w.alloc (.cells (spotsA g).toArray 69)) (spotsB g) 69
      rw [World.size_alloc] at this
      exact this
    go_region_law (refine step_append_row _ rfl etSpot _ _ rfl rfl r0 rfl q0 rfl (by simp [spotsB, Value.oneCell']) (by decide) (by decide) (by simp; omega) ?_; intro v' w1 hrow hg hv)
    all_goals
      go_wp2_with fail
      go_ret
      have hcs : spotsA g ++ spotsB g = spotsOf g 77 := by simp [spotsOf]
      rw [hcs] at hrow
      obtain ⟨A, c, rfl, _, _, _, h4⟩ := hrow.form
      refine ⟨A, c, 7, rfl, ⟨rfl⟩, h4, ?_⟩
      have hb0 := (((((Below.refl w.heap.size w).alloc (Nat.le_refl _) (.cells (spotsA g).toArray 69)).alloc (by simp) (.cells (spotsB g).toArray 69)).drew).drew)
      exact hb0.grown hg (by simp; omega) (by intro k hk; have hk2 : some w.heap.size = some k := hk; injection hk2 with hk2; omega)
  · have h2 : ((ty.toNat : Int) == 77) = false := by
      have := byte_beq ty 77
      rw [show (ty == 77) = false from by simpa using hty] at this
      exact this
    have h3 : ((ty.toNat : Int) != 77) = true := by rw [bne, h2]; rfl
    have Hty := Au.mk hty
    clear hty
    go_enter Try.func42, Try.ntmps42
    go_wp2_with fail
    go_still_tail 20, (by kernel_rfl)
    go_wp2_with fail
    go_ret
    refine ⟨_, _, _, rfl, ⟨by simp [spotsN, Hty.out]⟩, ?_, by first | exact (Below.refl _ _).alloc (Nat.le_refl _) _ | exact below_drewN ((Below.refl _ _).alloc (Nat.le_refl _) _) _ | exact ((Below.refl _ _).alloc (Nat.le_refl _) _).drew⟩
    intro W hW
    have hcs : spotsOf g ty = spotsA g := by simp [spotsOf, Hty.out]
    rw [hcs]
    obtain ⟨A, c, e, _, _, _, h2⟩ := (row_lit w w.heap.size 69 (spotsA g) 3 5 (Nat.le_refl _) rfl (by decide)).form
    injection e with e1 _ e3
    subst e1 e3
    exact h2 W hW
end Go.Proofs.Ytejalhoaljlnhaa.Rk
