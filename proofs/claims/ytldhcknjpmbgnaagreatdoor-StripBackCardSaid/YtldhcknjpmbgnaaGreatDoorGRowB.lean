/- GRowB: RowB -/
import Derived.Test.YtldhcknjpmbgnaaGreatDoorGHeadD
import Derived.Test.YtldhcknjpmbgnaaGreatDoorGRow
import Derived.Test.YtldhcknjpmbgnaaGreatDoorGHeadA
set_option maxRecDepth 100000
/- The kinds of arguments: headers. -/
namespace Go.Proofs.YtldhcknjpmbgnaaGreatDoor.Rk
open Go.RowKit Go.WideShapes
set_option linter.unusedVariables false
set_option linter.unusedSimpArgs false
def Kd.hd : Kd Hd := Kd.flatI 11 Hd.cells Hd.R (fun _ => rfl) (fun x u hu => by simp [Hd.cells] at hu; rcases hu with h | h | h | h | h | h | h | h | h | h | h <;> rw [h] <;> rfl)
theorem opens_head : Opens Tryz.prog 104 Kd.hd := by
  intro H enc w base sp hd fuel cs x h
  obtain ⟨xs, n, _, _, hl, hn, hf⟩ := DataW.trod_struct Tryz.underlying104 h
  have hn : xs.length = 11 := hn
  have hl : cs.length = 11 := by rw [hl]; kernel_rfl
  have e1 : Tryz.prog.cellsOf 9 = 1 := by kernel_rfl
  have e2 : Tryz.prog.cellsOf 3 = 1 := by kernel_rfl
  have e3 : Tryz.prog.cellsOf 5 = 1 := by kernel_rfl
  have os : Opens Tryz.prog 9 Kd.str := opens_str Tryz.underlying9
  have oi : Opens Tryz.prog 3 Kd.int := opens_int Tryz.underlying3
  have ob : Opens Tryz.prog 5 Kd.byte := opens_byte Tryz.underlying5
  obtain ⟨a0, k0⟩ := field_at (hf 0 _ rfl) (by omega) os
  obtain ⟨a1, k1⟩ := field_at (hf 1 _ rfl) (by omega) os
  obtain ⟨a2, k2⟩ := field_at (hf 2 _ rfl) (by omega) os
  obtain ⟨a3, k3⟩ := field_at (hf 3 _ rfl) (by omega) oi
  obtain ⟨a4, k4⟩ := field_at (hf 4 _ rfl) (by omega) oi
  obtain ⟨a5, k5⟩ := field_at (hf 5 _ rfl) (by omega) oi
  obtain ⟨a6, k6⟩ := field_at (hf 6 _ rfl) (by omega) oi
  obtain ⟨a7, k7⟩ := field_at (hf 7 _ rfl) (by omega) oi
  obtain ⟨a8, k8⟩ := field_at (hf 8 _ rfl) (by omega) ob
  obtain ⟨a9, k9⟩ := field_at (hf 9 _ rfl) (by omega) oi
  obtain ⟨a10, k10⟩ := field_at (hf 10 _ rfl) (by omega) oi
  match cs, hl with
  | [c0, c1, c2, c3, c4, c5, c6, c7, c8, c9, c10], _ =>
    replace k0 : Kd.str.K w a0 (([c0, c1, c2, c3, c4, c5, c6, c7, c8, c9, c10].drop 0).take 1) := by rw [← e1]; exact k0
    replace k1 : Kd.str.K w a1 (([c0, c1, c2, c3, c4, c5, c6, c7, c8, c9, c10].drop 1).take 1) := by rw [← e1]; exact k1
    replace k2 : Kd.str.K w a2 (([c0, c1, c2, c3, c4, c5, c6, c7, c8, c9, c10].drop 2).take 1) := by rw [← e1]; exact k2
    replace k3 : Kd.int.K w a3 (([c0, c1, c2, c3, c4, c5, c6, c7, c8, c9, c10].drop 3).take 1) := by rw [← e2]; exact k3
    replace k4 : Kd.int.K w a4 (([c0, c1, c2, c3, c4, c5, c6, c7, c8, c9, c10].drop 4).take 1) := by rw [← e2]; exact k4
    replace k5 : Kd.int.K w a5 (([c0, c1, c2, c3, c4, c5, c6, c7, c8, c9, c10].drop 5).take 1) := by rw [← e2]; exact k5
    replace k6 : Kd.int.K w a6 (([c0, c1, c2, c3, c4, c5, c6, c7, c8, c9, c10].drop 6).take 1) := by rw [← e2]; exact k6
    replace k7 : Kd.int.K w a7 (([c0, c1, c2, c3, c4, c5, c6, c7, c8, c9, c10].drop 7).take 1) := by rw [← e2]; exact k7
    replace k8 : Kd.byte.K w a8 (([c0, c1, c2, c3, c4, c5, c6, c7, c8, c9, c10].drop 8).take 1) := by rw [← e3]; exact k8
    replace k9 : Kd.int.K w a9 (([c0, c1, c2, c3, c4, c5, c6, c7, c8, c9, c10].drop 9).take 1) := by rw [← e2]; exact k9
    replace k10 : Kd.int.K w a10 (([c0, c1, c2, c3, c4, c5, c6, c7, c8, c9, c10].drop 10).take 1) := by rw [← e2]; exact k10
    refine ⟨⟨a0, a1, a2, a3, a4, a5, a6, a7, a8, a9, a10⟩, ?_, k3.2, k4.2, k5.2, k6.2, k7.2, k9.2, k10.2⟩
    have j0 : [c0] = _ := k0.1
    have j1 : [c1] = _ := k1.1
    have j2 : [c2] = _ := k2.1
    have j3 : [c3] = _ := k3.1
    have j4 : [c4] = _ := k4.1
    have j5 : [c5] = _ := k5.1
    have j6 : [c6] = _ := k6.1
    have j7 : [c7] = _ := k7.1
    have j8 : [c8] = _ := k8
    have j9 : [c9] = _ := k9.1
    have j10 : [c10] = _ := k10.1
    simp only [List.cons.injEq, and_true] at j0 j1 j2 j3 j4 j5 j6 j7 j8 j9 j10
    subst j0 j1 j2 j3 j4 j5 j6 j7 j8 j9 j10
    rfl
theorem agg_head (h : Hd) : Value.agg h.cells.toArray = h.agg := rfl
theorem arg_head {H : Type} {enc : TypeId × Value → H} {W : World} {base : Nat} {sp : Nat → Bool} {hd : Bool} {v : Value} {x : DataW H} {ps : List MemPlace} {r : Reach} {b0 : Nat} (hval : Value.okWide Tryz.prog W r b0 104 v)
    (h : DataW.Trod enc Tryz.prog W base sp hd 104 v x ps) : ∃ a : Hd, v = a.agg ∧ a.R := by
  obtain ⟨a, cs, rfl, hk⟩ := arg_agg Tryz.underlying104 hval opens_head h
  exact ⟨a, by rw [show cs = a.cells from hk.1]; rfl, hk.2⟩
end Go.Proofs.YtldhcknjpmbgnaaGreatDoor.Rk
