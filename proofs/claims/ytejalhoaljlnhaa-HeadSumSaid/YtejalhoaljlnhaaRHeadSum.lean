/- The statement HeadSum: for every input the law answers true, and leaves its arguments as they were. Its row. -/
import Derived.Test.YtejalhoaljlnhaaRows
import Derived.Test.YtejalhoaljlnhaaRowA
import Derived.Test.YtejalhoaljlnhaaHedG
namespace Go.Proofs.Ytejalhoaljlnhaa.Rk
open Go.ChangeShapes Go.WideShapes Go.ChangeAt Go.RowKit
set_option linter.unusedVariables false
set_option linter.unusedSimpArgs false
theorem HeadSum_own : ownKnob Try.prog.godebug = none := by kernel_rfl
theorem HeadSum_laid : laidOutB Try.prog = true := by kernel_rfl
theorem HeadSum_types : (Try.f13.params.toList.all fun t => Try.prog.readableRec t && decide (t < Try.prog.types.size)) = true := by kernel_rfl
set_option maxRecDepth 100000 in
theorem HeadSum_lifted (os : Os) (started : os.Started) (H : Type) (enc : TypeId × Value → H) :
    ReturnsInHanded {} Try.checked os 13 .any (Rows.headSumSpec.pre6 enc Try.prog Try.f13 Rows.headSumRow.domain false) (Rows.headSumSpec.post enc Try.prog Try.f13 false true false false) := by
  refine returnsInHanded_of_change (C := Try.checked) HeadSum_own started (by kernel_rfl) Try.func13
    (ChangeSpec.witness6 (enc := enc) (C := Try.checked) false ⟨#[], #[.slice none 0 0, .int .i64 0], []⟩ 8 (by kernel_rfl) (by kernel_rfl) (by kernel_rfl) (by kernel_rfl)) ?_
  intro W base args ds gs before hval0 hW hcnd _
  have hval : ∀ (j : Nat) t v, Try.f13.params[j]? = some t → args[j]? = some v → Value.okWide Try.prog W .any base t v := hval0
  have hW' := hW
  obtain ⟨p, q, hA0, hV, rfl, hfz, hnd⟩ := hW
  have hA : DataW.TrodAll enc Try.prog W 0 (fun _ => true) true Try.f13.params.toList args.toList ds p := hA0
  rw [Try.params13] at hA hval
  obtain ⟨v0, vs0, d0, ds0, p0, q0, hargs, rfl, rfl, h0, r0⟩ := trodAll_cons hA
  obtain ⟨v1, vs1, d1, ds1, p1, q1, rfl, rfl, rfl, h1, r1⟩ := trodAll_cons r0
  obtain ⟨rfl, rfl, rfl⟩ := trodAll_nil r1
  obtain rfl : args = #[v0, v1] := by cases args; simp_all
  obtain ⟨A0, c0, a0, rfl, w0⟩ := arg_slice 5 Try.underlying22 (hval 0 22 _ rfl rfl) opens_bytes h0
  obtain ⟨a1, rfl, w1⟩ := arg_int Try.underlying3 (hval 1 3 _ rfl rfl) h1
  have ht : ∀ t ∈ Try.f13.params.toList, Try.prog.readableRec t = true ∧ t < Try.prog.types.size := fun t ht => by
    have := List.all_eq_true.1 HeadSum_types t ht
    simpa using this
  refine (HeadSum_walk a0 a1 w1 W w0).mono fun e W' ⟨he, hg⟩ => ?_
  subst he
  exact ⟨_, rfl, law_post HeadSum_laid hW' rfl rfl Try.underlying4 ht rfl hg⟩
theorem HeadSum_over : Rows.headSumRow.holds Try.pinned (OpenSpec.ofChange Rows.headSumSpec) :=
  OpenClaim.holds_of_wide 13 Try.f13 rfl rfl rfl rfl rfl rfl rfl ⟨rfl, rfl, rfl, rfl, rfl⟩ rfl rfl rfl rfl rfl (by kernel_rfl) Try.func13 (by kernel_rfl)
    (of_decide_eq_true (by kernel_rfl)) (by unfold Func.isWrapper; first | (rw [if_pos (by decide +kernel)]; kernel_rfl) | (rw [if_neg (by decide +kernel)]; exact ⟨rfl, rfl⟩))
    (fun os started H enc _ => HeadSum_lifted os started H enc)
theorem HeadSum_proved : Rows.HeadSumSaid := HeadSum_over
#print axioms HeadSum_proved
end Go.Proofs.Ytejalhoaljlnhaa.Rk
