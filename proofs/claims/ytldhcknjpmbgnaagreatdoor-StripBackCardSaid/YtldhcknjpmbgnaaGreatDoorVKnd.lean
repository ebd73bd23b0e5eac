/- The kinds of what trees and volumes are made of: nodes, sets; opened from arguments. -/
import Derived.Test.YtldhcknjpmbgnaaGreatDoorGRowB
import Derived.Test.YtldhcknjpmbgnaaGreatDoorVolS
namespace Go.Proofs.YtldhcknjpmbgnaaGreatDoor.Rk
open Go.RowKit Go.WideShapes
set_option linter.unusedVariables false
set_option linter.unusedSimpArgs false
set_option maxRecDepth 100000

/-! ### nodes -/
def Nd.cells (n : Nd) : List Value := [.string (ofL n.path), .string (ofL n.link), .int .u8 n.kind.toNat, .int .i64 n.mode, .int .i64 n.uid, .int .i64 n.gid, .int .i64 n.mtime, .string (ofL n.data)]
def Nd.agg (n : Nd) : Value := .agg #[.string (ofL n.path), .string (ofL n.link), .int .u8 n.kind.toNat, .int .i64 n.mode, .int .i64 n.uid, .int .i64 n.gid, .int .i64 n.mtime, .string (ofL n.data)]
def Nd.R (n : Nd) : Prop := R64 n.mode ∧ R64 n.uid ∧ R64 n.gid ∧ R64 n.mtime ∧ n.path.length ≤ maxLen ∧ n.link.length ≤ maxLen ∧ n.data.length ≤ maxLen
/-- Texts that are not long. -/
def Nd.S (n : Nd) : Prop := n.path.length ≤ 1000 ∧ n.link.length ≤ 1000 ∧ n.data.length ≤ 10000
def Kd.nd : Kd Nd := Kd.flatI 8 Nd.cells Nd.R (fun _ => rfl) (fun x u hu => by simp [Nd.cells] at hu; rcases hu with h | h | h | h | h | h | h | h <;> rw [h] <;> rfl)
theorem opens_nd : Opens Tryz.prog 23 Kd.nd := by
  intro H enc w base sp hd fuel cs x h
  obtain ⟨xs, n, _, _, hl, hn, hf⟩ := DataW.trod_struct Tryz.underlying23 h
  have hn : xs.length = 8 := hn
  have hl : cs.length = 8 := by rw [hl]; kernel_rfl
  have e1 : Tryz.prog.cellsOf 9 = 1 := by kernel_rfl
  have e2 : Tryz.prog.cellsOf 3 = 1 := by kernel_rfl
  have e3 : Tryz.prog.cellsOf 5 = 1 := by kernel_rfl
  have os : Opens Tryz.prog 9 Kd.str := opens_str Tryz.underlying9
  have oi : Opens Tryz.prog 3 Kd.int := opens_int Tryz.underlying3
  have ob : Opens Tryz.prog 5 Kd.byte := opens_byte Tryz.underlying5
  obtain ⟨a0, k0⟩ := field_at (hf 0 _ rfl) (by omega) os
  obtain ⟨a1, k1⟩ := field_at (hf 1 _ rfl) (by omega) os
  obtain ⟨a2, k2⟩ := field_at (hf 2 _ rfl) (by omega) ob
  obtain ⟨a3, k3⟩ := field_at (hf 3 _ rfl) (by omega) oi
  obtain ⟨a4, k4⟩ := field_at (hf 4 _ rfl) (by omega) oi
  obtain ⟨a5, k5⟩ := field_at (hf 5 _ rfl) (by omega) oi
  obtain ⟨a6, k6⟩ := field_at (hf 6 _ rfl) (by omega) oi
  obtain ⟨a7, k7⟩ := field_at (hf 7 _ rfl) (by omega) os
  match cs, hl with
  | [c0, c1, c2, c3, c4, c5, c6, c7], _ =>
    replace k0 : Kd.str.K w a0 (([c0, c1, c2, c3, c4, c5, c6, c7].drop 0).take 1) := by rw [← e1]; exact k0
    replace k1 : Kd.str.K w a1 (([c0, c1, c2, c3, c4, c5, c6, c7].drop 1).take 1) := by rw [← e1]; exact k1
    replace k2 : Kd.byte.K w a2 (([c0, c1, c2, c3, c4, c5, c6, c7].drop 2).take 1) := by rw [← e3]; exact k2
    replace k3 : Kd.int.K w a3 (([c0, c1, c2, c3, c4, c5, c6, c7].drop 3).take 1) := by rw [← e2]; exact k3
    replace k4 : Kd.int.K w a4 (([c0, c1, c2, c3, c4, c5, c6, c7].drop 4).take 1) := by rw [← e2]; exact k4
    replace k5 : Kd.int.K w a5 (([c0, c1, c2, c3, c4, c5, c6, c7].drop 5).take 1) := by rw [← e2]; exact k5
    replace k6 : Kd.int.K w a6 (([c0, c1, c2, c3, c4, c5, c6, c7].drop 6).take 1) := by rw [← e2]; exact k6
    replace k7 : Kd.str.K w a7 (([c0, c1, c2, c3, c4, c5, c6, c7].drop 7).take 1) := by rw [← e1]; exact k7
    refine ⟨⟨a0, a1, a2, a3, a4, a5, a6, a7⟩, ?_, k3.2, k4.2, k5.2, k6.2, k0.2, k1.2, k7.2⟩
    have j0 : [c0] = _ := k0.1
    have j1 : [c1] = _ := k1.1
    have j2 : [c2] = _ := k2
    have j3 : [c3] = _ := k3.1
    have j4 : [c4] = _ := k4.1
    have j5 : [c5] = _ := k5.1
    have j6 : [c6] = _ := k6.1
    have j7 : [c7] = _ := k7.1
    simp only [List.cons.injEq, and_true] at j0 j1 j2 j3 j4 j5 j6 j7
    subst j0 j1 j2 j3 j4 j5 j6 j7
    rfl
theorem opens_nds : Opens Tryz.prog 48 (Kd.slice Kd.nd) := opens_slice Tryz.underlying48 opens_nd (by kernel_rfl) (by decide)
theorem opens_ints : Opens Tryz.prog 31 (Kd.slice Kd.int) := opens_slice Tryz.underlying31 (opens_int Tryz.underlying3) (by kernel_rfl) (by decide)

/-! ### sets -/
def Kd.st : Kd St where
  sz := 3
  K := fun w s cs => (R64 s.b ∧ s.label.length ≤ maxLen) ∧ ∃ A c, cs = [.string (ofL s.label), .int .i64 s.b, .slice A s.caps.length c] ∧ s.caps.length ≤ c ∧ c ≤ 9223372036854775807 ∧ ∃ vs, Cells w A vs ∧ Reps Kd.int w s.caps vs
  len := by rintro w x cs ⟨_, A, c, rfl, _⟩; rfl
  one := by
    rintro w x cs ⟨_, A, c, rfl, _⟩ u hu
    simp at hu
    rcases hu with h | h | h <;> rw [h] <;> rfl
  loc := by
    rintro w W x cs hk ⟨h0, A, c, rfl, h1, h2, vs, hc, hr⟩
    exact ⟨h0, A, c, rfl, h1, h2, vs, hc.loc hk, hr.loc hk⟩
theorem opens_st : Opens Tryz.prog 50 Kd.st := by
  intro H enc w base sp hd fuel cs x h
  obtain ⟨xs, n, _, _, hl, hn, hf⟩ := DataW.trod_struct Tryz.underlying50 h
  have hn : xs.length = 3 := hn
  have hl : cs.length = 3 := by rw [hl]; kernel_rfl
  have e1 : Tryz.prog.cellsOf 9 = 1 := by kernel_rfl
  have e2 : Tryz.prog.cellsOf 3 = 1 := by kernel_rfl
  have e3 : Tryz.prog.cellsOf 31 = 1 := by kernel_rfl
  have os : Opens Tryz.prog 9 Kd.str := opens_str Tryz.underlying9
  have oi : Opens Tryz.prog 3 Kd.int := opens_int Tryz.underlying3
  obtain ⟨a0, k0⟩ := field_at (hf 0 _ rfl) (by omega) os
  obtain ⟨a1, k1⟩ := field_at (hf 1 _ rfl) (by omega) oi
  obtain ⟨a2, k2⟩ := field_at (hf 2 _ rfl) (by omega) opens_ints
  match cs, hl with
  | [c0, c1, c2], _ =>
    replace k0 : Kd.str.K w a0 (([c0, c1, c2].drop 0).take 1) := by rw [← e1]; exact k0
    replace k1 : Kd.int.K w a1 (([c0, c1, c2].drop 1).take 1) := by rw [← e2]; exact k1
    replace k2 : (Kd.slice Kd.int).K w a2 (([c0, c1, c2].drop 2).take 1) := by rw [← e3]; exact k2
    have j0 : [c0] = _ := k0.1
    have j1 : [c1] = _ := k1.1
    obtain ⟨A, c, j3, h1, h2, vs, hc, hr⟩ := k2
    have j2 : [c2] = _ := j3
    clear j3
    simp only [List.cons.injEq, and_true] at j0 j1 j2
    subst j0 j1 j2
    exact ⟨⟨a0, a1, a2⟩, ⟨k1.2, k0.2⟩, A, c, rfl, h1, h2, vs, hc, hr⟩
/-- An argument that is a set. -/
theorem arg_set {H : Type} {enc : TypeId × Value → H} {W : World} {base : Nat} {sp : Nat → Bool} {hd : Bool} {v : Value} {x : DataW H} {ps : List MemPlace} {r : Reach} {b0 : Nat} (hval : Value.okWide Tryz.prog W r b0 50 v)
    (h : DataW.Trod enc Tryz.prog W base sp hd 50 v x ps) : ∃ (s : St) (A : Option Addr) (c : Nat), v = .agg #[.string (ofL s.label), .int .i64 s.b, .slice A s.caps.length c] ∧ R64 s.b ∧ s.label.length ≤ maxLen ∧ Sl Kd.int W (fun _ => True) A c s.caps := by
  obtain ⟨a, cs, rfl, ⟨h0, h00⟩, A, c, rfl, h1, h2, vs, hc, hr⟩ := arg_agg Tryz.underlying50 hval opens_st h
  exact ⟨a, A, c, rfl, h0, h00, Sl.mk_now h1 h2 hc hr⟩
end Go.Proofs.YtldhcknjpmbgnaaGreatDoor.Rk
