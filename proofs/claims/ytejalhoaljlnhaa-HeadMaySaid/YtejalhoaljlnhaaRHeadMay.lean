/- The statement HeadMay: for every input the law answers true, and leaves its arguments as they were. Its row. -/
import Derived.Test.YtejalhoaljlnhaaRows
import Derived.Test.YtejalhoaljlnhaaRowA
import Derived.Test.YtejalhoaljlnhaaRowB
import Derived.Test.YtejalhoaljlnhaaHedH
namespace Go.Proofs.Ytejalhoaljlnhaa.Rk
open Go.ChangeShapes Go.WideShapes Go.ChangeAt Go.RowKit
set_option linter.unusedVariables false
set_option linter.unusedSimpArgs false
theorem HeadMay_own : ownKnob Try.prog.godebug = none := by kernel_rfl
theorem HeadMay_laid : laidOutB Try.prog = true := by kernel_rfl
theorem HeadMay_types : (Try.f16.params.toList.all fun t => Try.prog.readableRec t && decide (t < Try.prog.types.size)) = true := by kernel_rfl
set_option maxRecDepth 100000 in
theorem HeadMay_lifted (os : Os) (started : os.Started) (H : Type) (enc : TypeId × Value → H) :
    ReturnsInHanded {} Try.checked os 16 .any (Rows.headMaySpec.pre6 enc Try.prog Try.f16 Rows.headMayRow.domain false) (Rows.headMaySpec.post enc Try.prog Try.f16 false true false false) := by
  refine returnsInHanded_of_change (C := Try.checked) HeadMay_own started (by kernel_rfl) Try.func16
    (ChangeSpec.witness6 (enc := enc) (C := Try.checked) false ⟨#[], #[hd0.agg, .string ⟨#[]⟩, .int .i64 0], []⟩ 8 (by kernel_rfl) (by kernel_rfl) (by kernel_rfl) (by kernel_rfl)) ?_
  intro W base args ds gs before hval0 hW hcnd _
  have hval : ∀ (j : Nat) t v, Try.f16.params[j]? = some t → args[j]? = some v → Value.okWide Try.prog W .any base t v := hval0
  have hW' := hW
  obtain ⟨p, q, hA0, hV, rfl, hfz, hnd⟩ := hW
  have hA : DataW.TrodAll enc Try.prog W 0 (fun _ => true) true Try.f16.params.toList args.toList ds p := hA0
  rw [Try.params16] at hA hval
  obtain ⟨v0, vs0, d0, ds0, p0, q0, hargs, rfl, rfl, h0, r0⟩ := trodAll_cons hA
  obtain ⟨v1, vs1, d1, ds1, p1, q1, rfl, rfl, rfl, h1, r1⟩ := trodAll_cons r0
  obtain ⟨v2, vs2, d2, ds2, p2, q2, rfl, rfl, rfl, h2, r2⟩ := trodAll_cons r1
  obtain ⟨rfl, rfl, rfl⟩ := trodAll_nil r2
  obtain rfl : args = #[v0, v1, v2] := by cases args; simp_all
  obtain ⟨a0, rfl, w0⟩ := arg_head (hval 0 36 _ rfl rfl) h0
  obtain ⟨a1, rfl, w1⟩ := arg_str Try.underlying9 (hval 1 9 _ rfl rfl) h1
  obtain ⟨a2, rfl, w2⟩ := arg_int Try.underlying3 (hval 2 3 _ rfl rfl) h2
  have ht : ∀ t ∈ Try.f16.params.toList, Try.prog.readableRec t = true ∧ t < Try.prog.types.size := fun t ht => by
    have := List.all_eq_true.1 HeadMay_types t ht
    simpa using this
  refine (HeadMay_walk a0 a1 a2 w1 w2 W w0).mono fun e W' ⟨he, hg⟩ => ?_
  subst he
  exact ⟨_, rfl, law_post HeadMay_laid hW' rfl rfl Try.underlying4 ht rfl hg⟩
theorem HeadMay_over : Rows.headMayRow.holds Try.pinned (OpenSpec.ofChange Rows.headMaySpec) :=
  OpenClaim.holds_of_wide 16 Try.f16 rfl rfl rfl rfl rfl rfl rfl ⟨rfl, rfl, rfl, rfl, rfl⟩ rfl rfl rfl rfl rfl (by kernel_rfl) Try.func16 (by kernel_rfl)
    (of_decide_eq_true (by kernel_rfl)) (by unfold Func.isWrapper; first | (rw [if_pos (by decide +kernel)]; kernel_rfl) | (rw [if_neg (by decide +kernel)]; exact ⟨rfl, rfl⟩))
    (fun os started H enc _ => HeadMay_lifted os started H enc)
theorem HeadMay_proved : Rows.HeadMaySaid := HeadMay_over
#print axioms HeadMay_proved
end Go.Proofs.Ytejalhoaljlnhaa.Rk
