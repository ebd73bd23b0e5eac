/- The statement HeadPlaces: for every input the law answers true, and leaves its arguments as they were. Its row. -/
import Derived.Test.YtejalhoaljlnhaaRows
import Derived.Test.YtejalhoaljlnhaaRowA
import Derived.Test.YtejalhoaljlnhaaRowB
import Derived.Test.YtejalhoaljlnhaaHedJ
namespace Go.Proofs.Ytejalhoaljlnhaa.Rk
open Go.ChangeShapes Go.WideShapes Go.ChangeAt Go.RowKit
set_option linter.unusedVariables false
set_option linter.unusedSimpArgs false
theorem HeadPlaces_own : ownKnob Try.prog.godebug = none := by kernel_rfl
theorem HeadPlaces_laid : laidOutB Try.prog = true := by kernel_rfl
theorem HeadPlaces_types : (Try.f15.params.toList.all fun t => Try.prog.readableRec t && decide (t < Try.prog.types.size)) = true := by kernel_rfl
set_option maxRecDepth 100000 in
theorem HeadPlaces_lifted (os : Os) (started : os.Started) (H : Type) (enc : TypeId × Value → H) :
    ReturnsInHanded {} Try.checked os 15 .any (Rows.headPlacesSpec.pre6 enc Try.prog Try.f15 Rows.headPlacesRow.domain false) (Rows.headPlacesSpec.post enc Try.prog Try.f15 false true false false) := by
  refine returnsInHanded_of_change (C := Try.checked) HeadPlaces_own started (by kernel_rfl) Try.func15
    (ChangeSpec.witness6 (enc := enc) (C := Try.checked) false ⟨#[], #[hd0.agg], []⟩ 8 (by kernel_rfl) (by kernel_rfl) (by kernel_rfl) (by kernel_rfl)) ?_
  intro W base args ds gs before hval0 hW hcnd _
  have hval : ∀ (j : Nat) t v, Try.f15.params[j]? = some t → args[j]? = some v → Value.okWide Try.prog W .any base t v := hval0
  have hW' := hW
  obtain ⟨p, q, hA0, hV, rfl, hfz, hnd⟩ := hW
  have hA : DataW.TrodAll enc Try.prog W 0 (fun _ => true) true Try.f15.params.toList args.toList ds p := hA0
  rw [Try.params15] at hA hval
  obtain ⟨v0, vs0, d0, ds0, p0, q0, hargs, rfl, rfl, h0, r0⟩ := trodAll_cons hA
  obtain ⟨rfl, rfl, rfl⟩ := trodAll_nil r0
  obtain rfl : args = #[v0] := by cases args; simp_all
  obtain ⟨a0, rfl, w0⟩ := arg_head (hval 0 36 _ rfl rfl) h0
  have ht : ∀ t ∈ Try.f15.params.toList, Try.prog.readableRec t = true ∧ t < Try.prog.types.size := fun t ht => by
    have := List.all_eq_true.1 HeadPlaces_types t ht
    simpa using this
  refine (HeadPlaces_walk a0  W w0).mono fun e W' ⟨he, hg⟩ => ?_
  subst he
  exact ⟨_, rfl, law_post HeadPlaces_laid hW' rfl rfl Try.underlying4 ht rfl hg⟩
theorem HeadPlaces_over : Rows.headPlacesRow.holds Try.pinned (OpenSpec.ofChange Rows.headPlacesSpec) :=
  OpenClaim.holds_of_wide 15 Try.f15 rfl rfl rfl rfl rfl rfl rfl ⟨rfl, rfl, rfl, rfl, rfl⟩ rfl rfl rfl rfl rfl (by kernel_rfl) Try.func15 (by kernel_rfl)
    (of_decide_eq_true (by kernel_rfl)) (by unfold Func.isWrapper; first | (rw [if_pos (by decide +kernel)]; kernel_rfl) | (rw [if_neg (by decide +kernel)]; exact ⟨rfl, rfl⟩))
    (fun os started H enc _ => HeadPlaces_lifted os started H enc)
theorem HeadPlaces_proved : Rows.HeadPlacesSaid := HeadPlaces_over
#print axioms HeadPlaces_proved
end Go.Proofs.Ytejalhoaljlnhaa.Rk
