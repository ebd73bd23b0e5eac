/- The statement LabelOther: for every input the law answers true, and leaves its arguments as they were, where the three tables of the library are as the program lays them. Its row, and its card. -/
import Derived.Test.YtejalhoaljlnhaaDoorRows
import Derived.Test.YtejalhoaljlnhaaDoorCards
import Derived.Test.YtejalhoaljlnhaaDoorTie
import Derived.Test.YtejalhoaljlnhaaDoorLaidT
import Derived.Test.YtejalhoaljlnhaaDoorGRowB
import Derived.SevenTiedAt
import Derived.Test.YtejalhoaljlnhaaDoorLabL
namespace Go.Proofs.YtejalhoaljlnhaaDoor.Rk
open Go Go.ChangeShapes Go.WideShapes Go.ChangeAt Go.RowKit
set_option linter.unusedVariables false
set_option linter.unusedSimpArgs false
theorem LabelOther_own : ownKnob Tryd.prog.godebug = none := by kernel_rfl
theorem LabelOther_laid : laidOutB Tryd.prog = true := by kernel_rfl
theorem LabelOther_types : (Tryd.f6.params.toList.all fun t => Tryd.prog.readableRec t && decide (t < Tryd.prog.types.size)) = true := by kernel_rfl
set_option maxRecDepth 100000 in
theorem LabelOther_lifted (os : Os) (started : os.Started) (H : Type) (enc : TypeId × Value → H) :
    ReturnsInHanded {} Tryd.checked os 6 .any (fun w args => (Rows.labelOtherSpec.pre enc Tryd.prog Tryd.f6 [] false w args ∧ laidMetH Tryd.prog laid3 w) ∧ sizedMet enc Tryd.prog Tryd.f6 (OpenSpec.ofChange Rows.labelOtherSpec) false w args)
      (Rows.labelOtherSpec.post enc Tryd.prog Tryd.f6 false true false false) := by
  refine returnsInHanded_of_change_and (C := Tryd.checked) (X := fun w _ => laidMetH Tryd.prog laid3 w) (fun _ _ _ hh h => h.of_heap hh) LabelOther_own started (by kernel_rfl) Tryd.func6
    (ChangeSpec.witness_shaped (enc := enc) (C := Tryd.checked) (os := os) (X := fun w _ => laidMetH Tryd.prog laid3 w) false (World.doorLaid Tryd.prog 400 os) #[.slice none 0 0] 8 (door_os os) (door_shaped os _) (by kernel_rfl) (by kernel_rfl) (by kernel_rfl) (door_met os _)) ?_
  intro W base args ds gs before hval0 hW _ _ hL _
  have hval : ∀ (j : Nat) t v, Tryd.f6.params[j]? = some t → args[j]? = some v → Value.okWide Tryd.prog W .any base t v := hval0
  have hW' := hW
  obtain ⟨p, q, hA0, hV, rfl, hfz, hnd⟩ := hW
  have hA : DataW.TrodAll enc Tryd.prog W 0 (fun _ => true) true Tryd.f6.params.toList args.toList ds p := hA0
  rw [Tryd.params6] at hA hval
  obtain ⟨v0, vs0, d0, ds0, p0, q0, hargs, rfl, rfl, h0, r0⟩ := trodAll_cons hA
  obtain ⟨rfl, rfl, rfl⟩ := trodAll_nil r0
  obtain rfl : args = #[v0] := by cases args; simp_all
  obtain ⟨A0, c0, a0, rfl, w0⟩ := arg_slice 5 Tryd.underlying22 (hval 0 22 _ rfl rfl) opens_bytes h0
  have ht : ∀ t ∈ Tryd.f6.params.toList, Tryd.prog.readableRec t = true ∧ t < Tryd.prog.types.size := fun t ht => by
    have := List.all_eq_true.1 LabelOther_types t ht
    simpa using this
  refine (LabelOther_walk a0  W w0 (tab_of hL)).mono fun e W' ⟨he, hg⟩ => ?_
  subst he
  exact ⟨_, rfl, law_post LabelOther_laid hW' rfl rfl Tryd.underlying4 ht rfl hg⟩
theorem LabelOther_over : Rows.labelOtherRow.holds Tryd.pinned (OpenSpec.ofChange Rows.labelOtherSpec) :=
  OpenClaim.holds_of_wide 6 Tryd.f6 rfl rfl rfl rfl rfl rfl rfl ⟨rfl, rfl, rfl, rfl, rfl⟩ rfl rfl rfl rfl rfl (by kernel_rfl) Tryd.func6 (by kernel_rfl)
    (of_decide_eq_true (by kernel_rfl)) (by unfold Func.isWrapper; first | (rw [if_pos (by decide +kernel)]; kernel_rfl) | (rw [if_neg (by decide +kernel)]; exact ⟨rfl, rfl⟩))
    (fun os started H enc _ => LabelOther_lifted os started H enc)
theorem LabelOther_proved : Rows.LabelOtherCardSaid :=
  Claim7.holds_tied_plain_at .later [] [.data, .data, .data] true (true, "28fb402e71f2e3ebbd79a0269b74cf7f9e8bd54c574dff87d7cd6080db44c07d") false
    LabelOther_over (fun _ h => by cases h) (by kernel_rfl) (fun _ h => by cases h) labelOther_row_tie rfl ⟨rfl, rfl⟩ (by kernel_rfl) rfl
    (fun f fn hf hfn => by
      obtain rfl : f = 6 := Option.some.inj ((show Tryd.prog.funcNamed "reelkeeper/reelkeeperlaw14.LabelOther" = some 6 by kernel_rfl).symm.trans hf) |>.symm
      obtain rfl : fn = Tryd.f6 := (Option.some.inj (Tryd.func6.symm.trans hfn)).symm
      exact ⟨by kernel_rfl, fun j t ht => by
        rw [Tryd.params6] at ht
        have hm : t ∈ [22] := by simpa [or_comm, or_assoc, or_left_comm] using Array.mem_of_getElem? ht
        have hall : ([22].all fun u => !Tryd.prog.wantsStandIn u) = true := by kernel_rfl
        exact (show Tryd.prog.wantsStandIn t = false by simpa using List.all_eq_true.1 hall t hm)⟩)
    (by kernel_rfl)
#print axioms LabelOther_proved
end Go.Proofs.YtejalhoaljlnhaaDoor.Rk
