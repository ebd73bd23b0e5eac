/- head.Get: both answers at once. -/
import Derived.Test.YtejalhoaljlnhaaHeadQ
import Derived.Test.YtejalhoaljlnhaaBase3
namespace Go.Proofs.Ytejalhoaljlnhaa.Rk
open Go.RowKit
set_option linter.unusedVariables false
set_option linter.unusedSimpArgs false

theorem hget_view (l : List UInt8) {A : Option Addr} {c : Nat} {F : Nat → Prop} {g : Hd} {er : Int} (hg : (hget l).1 = g) (he : (hget l).2 = er) (w : World) (ha : Sl Kd.byte w F A c l) :
    Calls Try.prog 30 #[.slice A l.length c] w fun e w' => e = .returned (.tuple #[g.agg, .int .i64 er]) ∧ Below w.heap.size w w' := by
  subst hg he
  by_cases hl : l.length = 512
  · obtain ⟨b, o, rfl⟩ := ha.addr (by decide) (by rintro rfl; simp at hl)
    cases hz : isZero l with
    | true =>
      have e : hget l = (hd0, 4) := by simp [hget, hl, hz]
      rw [e]
      exact get_no4 l w ha hl hz
    | false =>
      cases hs : ((l.drop 148).take 8 == sgn l) with
      | false =>
        have e : hget l = (hd0, 3) := by simp only [hget, hl, hz, hs]; rfl
        rw [e]
        exact get_no3 l w ha hl hz hs
      | true =>
        have e : hget l = (if hput (guess l) = some l then (guess l, 0) else (hd0, 2)) := by simp only [hget, hl, hz, hs]; rfl
        rw [e]
        exact get_walk l w ha hl hz hs rfl
  · have e : hget l = (hd0, 1) := by simp [hget, hl]
    rw [e]
    exact get_no1 l w ha hl
theorem hget_R (l : List UInt8) : (hget l).1.R := by
  have z : R64 0 := ⟨by decide, by decide⟩
  have h0 : hd0.R := ⟨z, z, z, z, z, z, z⟩
  unfold hget
  by_cases h1 : l.length ≠ 512
  · rw [if_pos h1]; exact h0
  · rw [if_neg h1]
    by_cases h2 : isZero l = true
    · rw [if_pos h2]; exact h0
    · rw [if_neg h2]
      by_cases h3 : ((l.drop 148).take 8 == sgn l) = false
      · rw [if_pos h3]; exact h0
      · rw [if_neg h3]
        by_cases h4 : hput (guess l) = some l
        · rw [if_pos h4]; dsimp only; exact guess_R l
        · rw [if_neg h4]; dsimp only; exact h0
end Go.Proofs.Ytejalhoaljlnhaa.Rk
