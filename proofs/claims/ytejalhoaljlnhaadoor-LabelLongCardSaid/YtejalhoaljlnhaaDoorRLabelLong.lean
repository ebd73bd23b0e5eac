/- The statement LabelLong: for every input the law answers true, and leaves its arguments as they were, where the three tables of the library are as the program lays them. Its row, and its card. -/
import Derived.Test.YtejalhoaljlnhaaDoorRows
import Derived.Test.YtejalhoaljlnhaaDoorCards
import Derived.Test.YtejalhoaljlnhaaDoorTie
import Derived.Test.YtejalhoaljlnhaaDoorLaidT
import Derived.Test.YtejalhoaljlnhaaDoorGRowB
import Derived.SevenTiedAt
import Derived.Test.YtejalhoaljlnhaaDoorLabM
namespace Go.Proofs.YtejalhoaljlnhaaDoor.Rk
open Go Go.ChangeShapes Go.WideShapes Go.ChangeAt Go.RowKit
set_option linter.unusedVariables false
set_option linter.unusedSimpArgs false
theorem LabelLong_own : ownKnob Tryd.prog.godebug = none := by kernel_rfl
theorem LabelLong_laid : laidOutB Tryd.prog = true := by kernel_rfl
theorem LabelLong_types : (Tryd.f8.params.toList.all fun t => Tryd.prog.readableRec t && decide (t < Tryd.prog.types.size)) = true := by kernel_rfl
set_option maxRecDepth 100000 in
theorem LabelLong_lifted (os : Os) (started : os.Started) (H : Type) (enc : TypeId × Value → H) :
    ReturnsInHanded {} Tryd.checked os 8 .any (fun w args => (Rows.labelLongSpec.pre enc Tryd.prog Tryd.f8 [] false w args ∧ laidMetH Tryd.prog laid3 w) ∧ sizedMet enc Tryd.prog Tryd.f8 (OpenSpec.ofChange Rows.labelLongSpec) false w args)
      (Rows.labelLongSpec.post enc Tryd.prog Tryd.f8 false true false false) := by
  refine returnsInHanded_of_change_and (C := Tryd.checked) (X := fun w _ => laidMetH Tryd.prog laid3 w) (fun _ _ _ hh h => h.of_heap hh) LabelLong_own started (by kernel_rfl) Tryd.func8
    (ChangeSpec.witness_shaped (enc := enc) (C := Tryd.checked) (os := os) (X := fun w _ => laidMetH Tryd.prog laid3 w) false (World.doorLaid Tryd.prog 400 os) #[.string ⟨#[]⟩, .int .i64 0] 8 (door_os os) (door_shaped os _) (by kernel_rfl) (by kernel_rfl) (by kernel_rfl) (door_met os _)) ?_
  intro W base args ds gs before hval0 hW _ _ hL _
  have hval : ∀ (j : Nat) t v, Tryd.f8.params[j]? = some t → args[j]? = some v → Value.okWide Tryd.prog W .any base t v := hval0
  have hW' := hW
  obtain ⟨p, q, hA0, hV, rfl, hfz, hnd⟩ := hW
  have hA : DataW.TrodAll enc Tryd.prog W 0 (fun _ => true) true Tryd.f8.params.toList args.toList ds p := hA0
  rw [Tryd.params8] at hA hval
  obtain ⟨v0, vs0, d0, ds0, p0, q0, hargs, rfl, rfl, h0, r0⟩ := trodAll_cons hA
  obtain ⟨v1, vs1, d1, ds1, p1, q1, rfl, rfl, rfl, h1, r1⟩ := trodAll_cons r0
  obtain ⟨rfl, rfl, rfl⟩ := trodAll_nil r1
  obtain rfl : args = #[v0, v1] := by cases args; simp_all
  obtain ⟨a0, rfl, w0⟩ := arg_str Tryd.underlying9 (hval 0 9 _ rfl rfl) h0
  obtain ⟨a1, rfl, w1⟩ := arg_int Tryd.underlying3 (hval 1 3 _ rfl rfl) h1
  have ht : ∀ t ∈ Tryd.f8.params.toList, Tryd.prog.readableRec t = true ∧ t < Tryd.prog.types.size := fun t ht => by
    have := List.all_eq_true.1 LabelLong_types t ht
    simpa using this
  refine (LabelLong_walk a0 a1 w0 w1 W  (tab_of hL)).mono fun e W' ⟨he, hg⟩ => ?_
  subst he
  exact ⟨_, rfl, law_post LabelLong_laid hW' rfl rfl Tryd.underlying4 ht rfl hg⟩
theorem LabelLong_over : Rows.labelLongRow.holds Tryd.pinned (OpenSpec.ofChange Rows.labelLongSpec) :=
  OpenClaim.holds_of_wide 8 Tryd.f8 rfl rfl rfl rfl rfl rfl rfl ⟨rfl, rfl, rfl, rfl, rfl⟩ rfl rfl rfl rfl rfl (by kernel_rfl) Tryd.func8 (by kernel_rfl)
    (of_decide_eq_true (by kernel_rfl)) (by unfold Func.isWrapper; first | (rw [if_pos (by decide +kernel)]; kernel_rfl) | (rw [if_neg (by decide +kernel)]; exact ⟨rfl, rfl⟩))
    (fun os started H enc _ => LabelLong_lifted os started H enc)
theorem LabelLong_proved : Rows.LabelLongCardSaid :=
  Claim7.holds_tied_plain_at .later [] [.data, .data, .data] true (true, "28fb402e71f2e3ebbd79a0269b74cf7f9e8bd54c574dff87d7cd6080db44c07d") false
    LabelLong_over (fun _ h => by cases h) (by kernel_rfl) (fun _ h => by cases h) labelLong_row_tie rfl ⟨rfl, rfl⟩ (by kernel_rfl) rfl
    (fun f fn hf hfn => by
      obtain rfl : f = 8 := Option.some.inj ((show Tryd.prog.funcNamed "reelkeeper/reelkeeperlaw14.LabelLong" = some 8 by kernel_rfl).symm.trans hf) |>.symm
      obtain rfl : fn = Tryd.f8 := (Option.some.inj (Tryd.func8.symm.trans hfn)).symm
      exact ⟨by kernel_rfl, fun j t ht => by
        rw [Tryd.params8] at ht
        have hm : t ∈ [9, 3] := by simpa [or_comm, or_assoc, or_left_comm] using Array.mem_of_getElem? ht
        have hall : ([9, 3].all fun u => !Tryd.prog.wantsStandIn u) = true := by kernel_rfl
        exact (show Tryd.prog.wantsStandIn t = false by simpa using List.all_eq_true.1 hall t hm)⟩)
    (by kernel_rfl)
#print axioms LabelLong_proved
end Go.Proofs.YtejalhoaljlnhaaDoor.Rk
