/- The statement NumDigits: for every input the law answers true, and leaves its arguments as they were. Its row. -/
import Derived.Test.YtejalhoaljlnhaaRows
import Derived.Test.YtejalhoaljlnhaaRowA
import Derived.Test.YtejalhoaljlnhaaNumI
namespace Go.Proofs.Ytejalhoaljlnhaa.Rk
open Go.ChangeShapes Go.WideShapes Go.ChangeAt Go.RowKit
set_option linter.unusedVariables false
set_option linter.unusedSimpArgs false
theorem NumDigits_own : ownKnob Try.prog.godebug = none := by kernel_rfl
theorem NumDigits_laid : laidOutB Try.prog = true := by kernel_rfl
theorem NumDigits_types : (Try.f6.params.toList.all fun t => Try.prog.readableRec t && decide (t < Try.prog.types.size)) = true := by kernel_rfl
set_option maxRecDepth 100000 in
theorem NumDigits_lifted (os : Os) (started : os.Started) (H : Type) (enc : TypeId × Value → H) :
    ReturnsInHanded {} Try.checked os 6 .any (Rows.numDigitsSpec.pre6 enc Try.prog Try.f6 Rows.numDigitsRow.domain false) (Rows.numDigitsSpec.post enc Try.prog Try.f6 false true false false) := by
  refine returnsInHanded_of_change (C := Try.checked) NumDigits_own started (by kernel_rfl) Try.func6
    (ChangeSpec.witness6 (enc := enc) (C := Try.checked) false ⟨#[], #[.int .i64 0, .int .i64 0], []⟩ 8 (by kernel_rfl) (by kernel_rfl) (by kernel_rfl) (by kernel_rfl)) ?_
  intro W base args ds gs before hval0 hW hcnd _
  have hval : ∀ (j : Nat) t v, Try.f6.params[j]? = some t → args[j]? = some v → Value.okWide Try.prog W .any base t v := hval0
  have hW' := hW
  obtain ⟨p, q, hA0, hV, rfl, hfz, hnd⟩ := hW
  have hA : DataW.TrodAll enc Try.prog W 0 (fun _ => true) true Try.f6.params.toList args.toList ds p := hA0
  rw [Try.params6] at hA hval
  obtain ⟨v0, vs0, d0, ds0, p0, q0, hargs, rfl, rfl, h0, r0⟩ := trodAll_cons hA
  obtain ⟨v1, vs1, d1, ds1, p1, q1, rfl, rfl, rfl, h1, r1⟩ := trodAll_cons r0
  obtain ⟨rfl, rfl, rfl⟩ := trodAll_nil r1
  obtain rfl : args = #[v0, v1] := by cases args; simp_all
  obtain ⟨a0, rfl, w0⟩ := arg_int Try.underlying3 (hval 0 3 _ rfl rfl) h0
  obtain ⟨a1, rfl, w1⟩ := arg_int Try.underlying3 (hval 1 3 _ rfl rfl) h1
  have ht : ∀ t ∈ Try.f6.params.toList, Try.prog.readableRec t = true ∧ t < Try.prog.types.size := fun t ht => by
    have := List.all_eq_true.1 NumDigits_types t ht
    simpa using this
  refine (NumDigits_walk a0 a1 w0 w1 W).mono fun e W' ⟨he, hg⟩ => ?_
  subst he
  exact ⟨_, rfl, law_post NumDigits_laid hW' rfl rfl Try.underlying4 ht rfl hg⟩
theorem NumDigits_over : Rows.numDigitsRow.holds Try.pinned (OpenSpec.ofChange Rows.numDigitsSpec) :=
  OpenClaim.holds_of_wide 6 Try.f6 rfl rfl rfl rfl rfl rfl rfl ⟨rfl, rfl, rfl, rfl, rfl⟩ rfl rfl rfl rfl rfl (by kernel_rfl) Try.func6 (by kernel_rfl)
    (of_decide_eq_true (by kernel_rfl)) (by unfold Func.isWrapper; first | (rw [if_pos (by decide +kernel)]; kernel_rfl) | (rw [if_neg (by decide +kernel)]; exact ⟨rfl, rfl⟩))
    (fun os started H enc _ => NumDigits_lifted os started H enc)
theorem NumDigits_proved : Rows.NumDigitsSaid := NumDigits_over
#print axioms NumDigits_proved
end Go.Proofs.Ytejalhoaljlnhaa.Rk
