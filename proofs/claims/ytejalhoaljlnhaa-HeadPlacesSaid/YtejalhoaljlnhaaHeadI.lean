/- head.May: the walk. -/
import Derived.Test.YtejalhoaljlnhaaHeadH
namespace Go.Proofs.Ytejalhoaljlnhaa.Rk
open Go.RowKit
set_option linter.unusedVariables false
set_option linter.unusedSimpArgs false

theorem index_is {s : List UInt8} {c : UInt8} {n : Int} (hn : Lib.indexByte s c = n) (w : World) : Calls Try.prog 54 #[.string (ofL s), .int .u8 c.toNat] w fun e w' => e = .returned (.int .i64 n) ∧ w = w' := by
  subst hn; exact indexByte_calls s c w
theorem index0_quiet {s : List UInt8} {n : Int} (hn : Lib.indexByte s 0 = n) (W : World) (a : Nat) : Calls Try.prog 54 #[.string (ofL s), .int .u8 0] (W.drewN a) fun e w' => e = .returned (.int .i64 n) ∧ ∃ m, w' = W.drewN m :=
  (index_is hn (W.drewN a)).mono fun e w' ⟨h1, h2⟩ => ⟨h1, a, h2.symm⟩
theorem may_no1 (h : Hd) (w : World) (h1 : (h.name == []) = true) :
    Calls Try.prog 33 #[h.agg] w fun e w' => e = .returned (.bool false) ∧ Below w.heap.size w w' := by
  unfold Hd.agg
  have hb0 := Below.refl w.heap.size w
  go_enter Try.func33, Try.ntmps33
  go_wp2_with fail
  go_ret
  exact ⟨rfl, hb0.alloc (Nat.le_refl _) _⟩
theorem may_no2 (h : Hd) (w : World) (h1 : (h.name == []) = false) (h2 : tyOk h.ty = false) :
    Calls Try.prog 33 #[h.agg] w fun e w' => e = .returned (.bool false) ∧ Below w.heap.size w w' := by
  unfold Hd.agg
  have hb0 := Below.refl w.heap.size w
  obtain ⟨n, Hn⟩ := au (Lib.indexByte [48, 49, 50, 53, 75, 76, 77, 86] h.ty)
  have hn : n < 0 := by
    rw [← Hn.out, indexByte_mem]
    simpa [tyOk] using h2
  go_enter Try.func33, Try.ntmps33
  go_wp2_with fail
  refine (index_is Hn.out _).mono ?_
  rintro e w1 ⟨rfl, rfl⟩
  go_wp2_with fail
  go_ret
  exact ⟨rfl, hb0.alloc (Nat.le_refl _) _⟩
theorem may_no3 (h : Hd) (w : World) (h1 : (h.name == []) = false) (h2 : tyOk h.ty = true) (h3 : restOk h = false) :
    Calls Try.prog 33 #[h.agg] w fun e w' => e = .returned (.bool false) ∧ Below w.heap.size w w' := by
  unfold Hd.agg
  have hb0 := Below.refl w.heap.size w
  obtain ⟨n, Hn⟩ := au (Lib.indexByte [48, 49, 50, 53, 75, 76, 77, 86] h.ty)
  have hn : 0 ≤ n := by
    have h4 : h.ty ∈ [48, 49, 50, 53, 75, 76, 77, 86] := by simpa [tyOk] using h2
    have := indexByte_mem [48, 49, 50, 53, 75, 76, 77, 86] h.ty
    rw [Hn.out] at this
    exact Int.not_lt.1 fun hlt => this.1 hlt h4
  obtain ⟨t, Ht⟩ := au ((h.ty.toNat : Int) == 77)
  obtain ⟨p, Hp⟩ := au (h.pre == [])
  obtain ⟨o1, Ho1⟩ := au (h.off == 0)
  obtain ⟨o2, Ho2⟩ := au (h.real == 0)
  have e77 : ((h.ty.toNat : Int) == 77) = (h.ty == 77) := byte_beq h.ty 77
  rw [Ht.out] at e77
  have ht := Ht.out
  have ht2 : ((h.ty.toNat : Int) != 77) = !t := by rw [bne, ht]
  have hp := Hp.out
  have ho1 := Ho1.out
  have ho2 := Ho2.out
  have hp2 : (h.pre != []) = !p := by rw [bne, hp]
  have ho12 : (h.off != 0) = !o1 := by rw [bne, ho1]
  have ho22 : (h.real != 0) = !o2 := by rw [bne, ho2]
  unfold restOk at h3
  rw [hp, ho1, ho2] at h3
  go_enter Try.func33, Try.ntmps33
  go_wp2_with fail
  refine (index_is Hn.out _).mono ?_
  rintro e w1 ⟨rfl, rfl⟩
  cases t
  · have h77 : ¬ h.ty = 77 := by simpa using e77.symm
    rw [if_neg h77] at h3
    have H77 := Au.mk h77
    clear h77 e77
    cases o1
    · go_wp2_with fail
      go_ret
      exact ⟨rfl, hb0.alloc (Nat.le_refl _) _⟩
    · cases o2
      · go_wp2_with fail
        go_ret
        exact ⟨rfl, hb0.alloc (Nat.le_refl _) _⟩
      · simp at h3
  · have h77 : h.ty = 77 := by simpa using e77.symm
    rw [if_pos h77] at h3
    subst h3
    have H77 := Au.mk h77
    clear h77 e77
    go_wp2_with fail
    go_ret
    exact ⟨rfl, hb0.alloc (Nat.le_refl _) _⟩
end Go.Proofs.Ytejalhoaljlnhaa.Rk
