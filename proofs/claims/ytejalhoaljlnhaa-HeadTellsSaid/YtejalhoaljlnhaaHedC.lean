/- Walks: reelkeeperlaw04: One, Few, awake. -/
import Derived.Test.YtejalhoaljlnhaaHedB
namespace Go.Proofs.Ytejalhoaljlnhaa.Rk
open Go.RowKit
set_option linter.unusedVariables false
set_option linter.unusedSimpArgs false

def hdOne (nm : List UInt8) (n : Int) : Hd := ⟨nm, [], [], 420, 0, 0, n, 1000, 48, 0, 0⟩
theorem one_calls (nm : List UInt8) (n : Int) (w : World) :
    Calls Try.prog 39 #[.string (ofL nm), .int .i64 n] w fun e w' => e = .returned (hdOne nm n).agg ∧ Below w.heap.size w w' := by
  have hb0 := Below.refl w.heap.size w
  go_enter Try.func39, Try.ntmps39
  go_wp2_with fail
  ((try simp only [Exit.inBlock, Exit.then]); refine ret_head1 4 rfl (h := hdOne nm n) (heap_alloc_new w _) rfl rfl ?_)
  exact ⟨rfl, hb0.alloc (Nat.le_refl _) _⟩
def few (h : Hd) : Bool := decide (h.name.length ≤ 200) && (decide (h.pre.length ≤ 200) && decide (h.link.length ≤ 200))
theorem few_iff (h : Hd) : few h = true ↔ h.S := by simp [few, Hd.S]
theorem few_calls (h : Hd) {r : Bool} (hr : few h = r) (w : World) :
    Calls Try.prog 27 #[h.agg] w fun e w' => e = .returned (.bool r) ∧ Below w.heap.size w w' := by
  have hb0 := Below.refl w.heap.size w
  obtain ⟨a1, A1⟩ := au (decide (h.name.length ≤ 200))
  obtain ⟨a2, A2⟩ := au (decide (h.pre.length ≤ 200))
  obtain ⟨a3, A3⟩ := au (decide (h.link.length ≤ 200))
  have s1 := ofL_size h.name
  have s2 := ofL_size h.pre
  have s3 := ofL_size h.link
  unfold few at hr
  rw [A1.out, A2.out, A3.out] at hr
  have c1 : decide ((h.name.length : Int) ≤ 200) = a1 := by rw [← A1.out]; simp only [decide_eq_decide]; omega
  have c2 : decide ((h.pre.length : Int) ≤ 200) = a2 := by rw [← A2.out]; simp only [decide_eq_decide]; omega
  have c3 : decide ((h.link.length : Int) ≤ 200) = a3 := by rw [← A3.out]; simp only [decide_eq_decide]; omega
  have d1 := A1.out
  have d2 := A2.out
  have d3 := A3.out
  unfold Hd.agg
  cases a1 <;> cases a2 <;> cases a3
  all_goals
    go_enter Try.func27, Try.ntmps27
    go_wp2_with fail
    go_ret
    exact ⟨ret_bool (by rw [← hr]; rfl), hb0.alloc (Nat.le_refl _) _⟩
theorem one_may : hmay (hdOne [97] 0) = true := by decide +kernel
theorem one_fits : Fits (hdOne [97] 0) := (fits_iff _).1 one_may
theorem one_R : (hdOne [97] 0).R := by unfold Hd.R R64 hdOne; decide
theorem one_148 : (blockOf (hdOne [97] 0))[148]? = some 48 := by decide +kernel
theorem hget_of {l : List UInt8} {n : Nat} (hn : l.length = n) {A : Option Addr} {c : Nat} {F : Nat → Prop} {g : Hd} {er : Int} (hg : (hget l).1 = g) (he : (hget l).2 = er) (w : World) (ha : Sl Kd.byte w F A c l) :
    Calls Try.prog 30 #[.slice A n c] w fun e w' => e = .returned (.tuple #[g.agg, .int .i64 er]) ∧ Below w.heap.size w w' := by
  subst hn
  exact hget_view l hg he w ha
theorem sum_of {l : List UInt8} {k : Nat} {n : Int} (hk : l.length = k) (hn : hsum l = n) {A : Option Addr} {c : Nat} {F : Nat → Prop} (w : World) (ha : Sl Kd.byte w F A c l) :
    Calls Try.prog 34 #[.slice A k c] w fun e w' => e = .returned (.int .i64 n) ∧ w = w' := by
  subst hk
  exact sum_calls l hn w ha
end Go.Proofs.Ytejalhoaljlnhaa.Rk
