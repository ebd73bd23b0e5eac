/- The statement StripBack: for every input the law answers true, and leaves its arguments as they were, where the three tables of the library are as the program lays them. Its row, and its card. -/
import Derived.Test.YtldhcknjpmbgnaaGreatDoorRows
import Derived.Test.YtldhcknjpmbgnaaGreatDoorCards
import Derived.Test.YtldhcknjpmbgnaaGreatDoorTie
import Derived.Test.YtldhcknjpmbgnaaGreatDoorLaidT
import Derived.Test.YtldhcknjpmbgnaaGreatDoorGRowB
import Derived.SevenTiedAt
import Derived.Test.YtldhcknjpmbgnaaGreatDoorBkW
import Derived.Test.YtldhcknjpmbgnaaGreatDoorVKnd
namespace Go.Proofs.YtldhcknjpmbgnaaGreatDoor.Rk
open Go Go.ChangeShapes Go.WideShapes Go.ChangeAt Go.RowKit
set_option linter.unusedVariables false
set_option linter.unusedSimpArgs false
theorem StripBack_own : ownKnob Tryz.prog.godebug = none := by kernel_rfl
theorem StripBack_laid : laidOutB Tryz.prog = true := by kernel_rfl
theorem StripBack_types : (Tryz.f10.params.toList.all fun t => Tryz.prog.readableRec t && decide (t < Tryz.prog.types.size)) = true := by kernel_rfl
set_option maxRecDepth 100000 in
theorem StripBack_lifted (os : Os) (started : os.Started) (H : Type) (enc : TypeId × Value → H) :
    ReturnsInHanded {} Tryz.checked os 10 .any (fun w args => (Rows.stripBackSpec.pre enc Tryz.prog Tryz.f10 [] false w args ∧ laidMetH Tryz.prog laid3 w) ∧ sizedMet enc Tryz.prog Tryz.f10 (OpenSpec.ofChange Rows.stripBackSpec) false w args)
      (Rows.stripBackSpec.post enc Tryz.prog Tryz.f10 false true false false) := by
  refine returnsInHanded_of_change_and (C := Tryz.checked) (X := fun w _ => laidMetH Tryz.prog laid3 w) (fun _ _ _ hh h => h.of_heap hh) StripBack_own started (by kernel_rfl) Tryz.func10
    (ChangeSpec.witness_shaped (enc := enc) (C := Tryz.checked) (os := os) (X := fun w _ => laidMetH Tryz.prog laid3 w) false (World.doorLaid Tryz.prog 400 os) #[.slice none 0 0, .agg #[.string ⟨#[]⟩, .int .i64 0, .slice none 0 0], .slice none 0 0] 8 (door_os os) (door_shaped os _) (by kernel_rfl) (by kernel_rfl) (by kernel_rfl) (door_met os _)) ?_
  intro W base args ds gs before hval0 hW _ _ hL _
  have hval : ∀ (j : Nat) t v, Tryz.f10.params[j]? = some t → args[j]? = some v → Value.okWide Tryz.prog W .any base t v := hval0
  have hW' := hW
  obtain ⟨p, q, hA0, hV, rfl, hfz, hnd⟩ := hW
  have hA : DataW.TrodAll enc Tryz.prog W 0 (fun _ => true) true Tryz.f10.params.toList args.toList ds p := hA0
  rw [Tryz.params10] at hA hval
  obtain ⟨v0, vs0, d0, ds0, p0, q0, hargs, rfl, rfl, h0, r0⟩ := trodAll_cons hA
  obtain ⟨v1, vs1, d1, ds1, p1, q1, rfl, rfl, rfl, h1, r1⟩ := trodAll_cons r0
  obtain ⟨v2, vs2, d2, ds2, p2, q2, rfl, rfl, rfl, h2, r2⟩ := trodAll_cons r1
  obtain ⟨rfl, rfl, rfl⟩ := trodAll_nil r2
  obtain rfl : args = #[v0, v1, v2] := by cases args; simp_all
  obtain ⟨A0, c0, a0, rfl, w0⟩ := arg_slice 23 Tryz.underlying48 (hval 0 48 _ rfl rfl) opens_nds h0
  obtain ⟨a1, A1, c1, rfl, y1, m1, w1⟩ := arg_set (hval 1 50 _ rfl rfl) h1
  obtain ⟨A2, c2, a2, rfl, w2⟩ := arg_slice 36 Tryz.underlying53 (hval 2 53 _ rfl rfl) opens_vol h2
  have ht : ∀ t ∈ Tryz.f10.params.toList, Tryz.prog.readableRec t = true ∧ t < Tryz.prog.types.size := fun t ht => by
    have := List.all_eq_true.1 StripBack_types t ht
    simpa using this
  refine (StripBack_walk a0 a1 y1 a2  W w0 w1 w2 (tab_of hL)).mono fun e W' ⟨he, hg⟩ => ?_
  subst he
  exact ⟨_, rfl, law_post StripBack_laid hW' rfl rfl Tryz.underlying4 ht rfl hg⟩
theorem StripBack_over : Rows.stripBackRow.holds Tryz.pinned (OpenSpec.ofChange Rows.stripBackSpec) :=
  OpenClaim.holds_of_wide 10 Tryz.f10 rfl rfl rfl rfl rfl rfl rfl ⟨rfl, rfl, rfl, rfl, rfl⟩ rfl rfl rfl rfl rfl (by kernel_rfl) Tryz.func10 (by kernel_rfl)
    (of_decide_eq_true (by kernel_rfl)) (by unfold Func.isWrapper; first | (rw [if_pos (by decide +kernel)]; kernel_rfl) | (rw [if_neg (by decide +kernel)]; exact ⟨rfl, rfl⟩))
    (fun os started H enc _ => StripBack_lifted os started H enc)
theorem StripBack_proved : Rows.StripBackCardSaid :=
  Claim7.holds_tied_plain_at .later [] [.data, .data, .data] true (true, "bd006ede95c609b8d0df1932ed58abdf87155a29a17bcee61b1d5fa77edae6dc") true
    StripBack_over (fun _ h => by cases h) (by kernel_rfl) (fun _ h => by cases h) stripBack_row_tie rfl ⟨rfl, rfl⟩ (by kernel_rfl) rfl
    (fun f fn hf hfn => by
      obtain rfl : f = 10 := Option.some.inj ((show Tryz.prog.funcNamed "reelkeeper/reelkeeperlaw17.StripBack" = some 10 by kernel_rfl).symm.trans hf) |>.symm
      obtain rfl : fn = Tryz.f10 := (Option.some.inj (Tryz.func10.symm.trans hfn)).symm
      exact ⟨by kernel_rfl, fun j t ht => by
        rw [Tryz.params10] at ht
        have hm : t ∈ [48, 50, 53] := by simpa [or_comm, or_assoc, or_left_comm] using Array.mem_of_getElem? ht
        have hall : ([48, 50, 53].all fun u => !Tryz.prog.wantsStandIn u) = true := by kernel_rfl
        exact (show Tryz.prog.wantsStandIn t = false by simpa using List.all_eq_true.1 hall t hm)⟩)
    (by kernel_rfl)
#print axioms StripBack_proved
end Go.Proofs.YtldhcknjpmbgnaaGreatDoor.Rk
