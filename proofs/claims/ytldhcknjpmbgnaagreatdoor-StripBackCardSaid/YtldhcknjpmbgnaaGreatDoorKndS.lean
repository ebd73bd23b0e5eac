/- The kinds of states and tapes; opened from arguments. -/
import Derived.Test.YtldhcknjpmbgnaaGreatDoorVKnd
import Derived.Test.YtldhcknjpmbgnaaGreatDoorChkS
namespace Go.Proofs.YtldhcknjpmbgnaaGreatDoor.Rk
open Go.RowKit Go.WideShapes
set_option linter.unusedVariables false
set_option linter.unusedSimpArgs false
set_option maxRecDepth 100000

/-! ### states -/
def Ps.cells (s : Ps) : List Value := [.int .i64 s.phase, .string (ofL s.node.path), .string (ofL s.node.link), .int .u8 s.node.kind.toNat, .int .i64 s.node.mode, .int .i64 s.node.uid, .int .i64 s.node.gid, .int .i64 s.node.mtime, .string (ofL s.node.data), .int .i64 s.size, .int .i64 s.left, .string (ofL s.text), .string (ofL s.name), .string (ofL s.link)]
def Ps.agg (s : Ps) : Value := .agg #[.int .i64 s.phase, .string (ofL s.node.path), .string (ofL s.node.link), .int .u8 s.node.kind.toNat, .int .i64 s.node.mode, .int .i64 s.node.uid, .int .i64 s.node.gid, .int .i64 s.node.mtime, .string (ofL s.node.data), .int .i64 s.size, .int .i64 s.left, .string (ofL s.text), .string (ofL s.name), .string (ofL s.link)]
/-- In a machine's bounds. -/
def Ps.R (s : Ps) : Prop := R64 s.phase ∧ R64 s.size ∧ R64 s.left ∧ s.node.R ∧ s.text.length ≤ maxLen ∧ s.name.length ≤ maxLen ∧ s.link.length ≤ maxLen
/-- Texts that are not long. -/
def Ps.S (s : Ps) : Prop := s.node.S ∧ s.text.length ≤ 1000 ∧ s.name.length ≤ 1000 ∧ s.link.length ≤ 1000
def Kd.ps : Kd Ps := Kd.flatI 14 Ps.cells Ps.R (fun _ => rfl) (fun x u hu => by simp [Ps.cells] at hu; rcases hu with h | h | h | h | h | h | h | h | h | h | h | h | h | h <;> rw [h] <;> rfl)
theorem opens_ps : Opens Tryz.prog 25 Kd.ps := by
  intro H enc w base sp hd fuel cs x h
  obtain ⟨xs, n, _, _, hl, hn, hf⟩ := DataW.trod_struct Tryz.underlying25 h
  have hn : xs.length = 7 := hn
  have hl : cs.length = 14 := by rw [hl]; kernel_rfl
  have e1 : Tryz.prog.cellsOf 9 = 1 := by kernel_rfl
  have e2 : Tryz.prog.cellsOf 3 = 1 := by kernel_rfl
  have e3 : Tryz.prog.cellsOf 23 = 8 := by kernel_rfl
  have os : Opens Tryz.prog 9 Kd.str := opens_str Tryz.underlying9
  have oi : Opens Tryz.prog 3 Kd.int := opens_int Tryz.underlying3
  obtain ⟨a0, k0⟩ := field_at (hf 0 _ rfl) (by omega) oi
  obtain ⟨a1, k1⟩ := field_at (hf 1 _ rfl) (by omega) opens_nd
  obtain ⟨a2, k2⟩ := field_at (hf 2 _ rfl) (by omega) oi
  obtain ⟨a3, k3⟩ := field_at (hf 3 _ rfl) (by omega) oi
  obtain ⟨a4, k4⟩ := field_at (hf 4 _ rfl) (by omega) os
  obtain ⟨a5, k5⟩ := field_at (hf 5 _ rfl) (by omega) os
  obtain ⟨a6, k6⟩ := field_at (hf 6 _ rfl) (by omega) os
  match cs, hl with
  | [c0, c1, c2, c3, c4, c5, c6, c7, c8, c9, c10, c11, c12, c13], _ =>
    replace k0 : Kd.int.K w a0 (([c0, c1, c2, c3, c4, c5, c6, c7, c8, c9, c10, c11, c12, c13].drop 0).take 1) := by rw [← e2]; exact k0
    replace k1 : Kd.nd.K w a1 (([c0, c1, c2, c3, c4, c5, c6, c7, c8, c9, c10, c11, c12, c13].drop 1).take 8) := by rw [← e3]; exact k1
    replace k2 : Kd.int.K w a2 (([c0, c1, c2, c3, c4, c5, c6, c7, c8, c9, c10, c11, c12, c13].drop 9).take 1) := by rw [← e2]; exact k2
    replace k3 : Kd.int.K w a3 (([c0, c1, c2, c3, c4, c5, c6, c7, c8, c9, c10, c11, c12, c13].drop 10).take 1) := by rw [← e2]; exact k3
    replace k4 : Kd.str.K w a4 (([c0, c1, c2, c3, c4, c5, c6, c7, c8, c9, c10, c11, c12, c13].drop 11).take 1) := by rw [← e1]; exact k4
    replace k5 : Kd.str.K w a5 (([c0, c1, c2, c3, c4, c5, c6, c7, c8, c9, c10, c11, c12, c13].drop 12).take 1) := by rw [← e1]; exact k5
    replace k6 : Kd.str.K w a6 (([c0, c1, c2, c3, c4, c5, c6, c7, c8, c9, c10, c11, c12, c13].drop 13).take 1) := by rw [← e1]; exact k6
    refine ⟨⟨a0, a1, a2, a3, a4, a5, a6⟩, ?_, k0.2, k2.2, k3.2, k1.2, k4.2, k5.2, k6.2⟩
    have j0 : [c0] = _ := k0.1
    have j1 : [c1, c2, c3, c4, c5, c6, c7, c8] = Nd.cells a1 := k1.1
    have j2 : [c9] = _ := k2.1
    have j3 : [c10] = _ := k3.1
    have j4 : [c11] = _ := k4.1
    have j5 : [c12] = _ := k5.1
    have j6 : [c13] = _ := k6.1
    unfold Nd.cells at j1
    simp only [List.cons.injEq, and_true] at j0 j1 j2 j3 j4 j5 j6
    obtain ⟨rfl, rfl, rfl, rfl, rfl, rfl, rfl, rfl⟩ := j1
    subst j0 j2 j3 j4 j5 j6
    rfl
theorem arg_ps {H : Type} {enc : TypeId × Value → H} {W : World} {base : Nat} {sp : Nat → Bool} {hd : Bool} {v : Value} {x : DataW H} {ps : List MemPlace} {r : Reach} {b0 : Nat} (hval : Value.okWide Tryz.prog W r b0 25 v)
    (h : DataW.Trod enc Tryz.prog W base sp hd 25 v x ps) : ∃ a : Ps, v = a.agg ∧ a.R := by
  obtain ⟨a, cs, rfl, hk⟩ := arg_agg Tryz.underlying25 hval opens_ps h
  exact ⟨a, by rw [show cs = a.cells from hk.1]; rfl, hk.2⟩

/-! ### tapes -/
def Kd.bl : Kd Bool := Kd.one1 (fun b => .bool b) (fun _ => rfl)
theorem opens_bool {P : Program} {t : TypeId} (ht : P.underlying t = some .bool) : Opens P t Kd.bl := by
  intro H enc w base sp hd fuel cs x h
  obtain ⟨b, h1, _⟩ := DataW.trod_bool ht h
  exact ⟨b, h1⟩
def Kd.tp : Kd Tp where
  sz := 3
  K := fun w t cs => R64 t.cap ∧ ∃ A c, cs = [.int .i64 t.cap, .slice A t.recs.length c, .bool t.mark] ∧ t.recs.length ≤ c ∧ c ≤ 9223372036854775807 ∧ ∃ vs, Cells w A vs ∧ Reps (Kd.slice Kd.byte) w t.recs vs
  len := by rintro w x cs ⟨_, A, c, rfl, _⟩; rfl
  one := by
    rintro w x cs ⟨_, A, c, rfl, _⟩ u hu
    simp at hu
    rcases hu with h | h | h <;> rw [h] <;> rfl
  loc := by
    rintro w W x cs hk ⟨h0, A, c, rfl, h1, h2, vs, hc, hr⟩
    exact ⟨h0, A, c, rfl, h1, h2, vs, hc.loc hk, hr.loc hk⟩
theorem opens_rows : Opens Tryz.prog 36 (Kd.slice (Kd.slice Kd.byte)) := opens_slice Tryz.underlying36 opens_bytes (by kernel_rfl) (by decide)
theorem opens_tp : Opens Tryz.prog 38 Kd.tp := by
  intro H enc w base sp hd fuel cs x h
  obtain ⟨xs, n, _, _, hl, hn, hf⟩ := DataW.trod_struct Tryz.underlying38 h
  have hn : xs.length = 3 := hn
  have hl : cs.length = 3 := by rw [hl]; kernel_rfl
  have e1 : Tryz.prog.cellsOf 4 = 1 := by kernel_rfl
  have e2 : Tryz.prog.cellsOf 3 = 1 := by kernel_rfl
  have e3 : Tryz.prog.cellsOf 36 = 1 := by kernel_rfl
  have ob : Opens Tryz.prog 4 Kd.bl := opens_bool Tryz.underlying4
  have oi : Opens Tryz.prog 3 Kd.int := opens_int Tryz.underlying3
  obtain ⟨a0, k0⟩ := field_at (hf 0 _ rfl) (by omega) oi
  obtain ⟨a1, k1⟩ := field_at (hf 1 _ rfl) (by omega) opens_rows
  obtain ⟨a2, k2⟩ := field_at (hf 2 _ rfl) (by omega) ob
  match cs, hl with
  | [c0, c1, c2], _ =>
    replace k0 : Kd.int.K w a0 (([c0, c1, c2].drop 0).take 1) := by rw [← e2]; exact k0
    replace k1 : (Kd.slice (Kd.slice Kd.byte)).K w a1 (([c0, c1, c2].drop 1).take 1) := by rw [← e3]; exact k1
    replace k2 : Kd.bl.K w a2 (([c0, c1, c2].drop 2).take 1) := by rw [← e1]; exact k2
    have j0 : [c0] = _ := k0.1
    obtain ⟨A, c, j3, h1, h2, vs, hc, hr⟩ := k1
    have j1 : [c1] = _ := j3
    have j2 : [c2] = _ := k2
    clear j3
    simp only [List.cons.injEq, and_true] at j0 j1 j2
    subst j0 j1 j2
    exact ⟨⟨a0, a1, a2⟩, k0.2, A, c, rfl, h1, h2, vs, hc, hr⟩
theorem opens_tps : Opens Tryz.prog 26 (Kd.slice Kd.tp) := opens_slice Tryz.underlying26 opens_tp (by kernel_rfl) (by decide)
/-- An argument that is a tape. -/
theorem arg_tp {H : Type} {enc : TypeId × Value → H} {W : World} {base : Nat} {sp : Nat → Bool} {hd : Bool} {v : Value} {x : DataW H} {ps : List MemPlace} {r : Reach} {b0 : Nat} (hval : Value.okWide Tryz.prog W r b0 38 v)
    (h : DataW.Trod enc Tryz.prog W base sp hd 38 v x ps) : ∃ (t : Tp) (A : Option Addr) (c : Nat), v = .agg #[.int .i64 t.cap, .slice A t.recs.length c, .bool t.mark] ∧ R64 t.cap ∧ Sl (Kd.slice Kd.byte) W (fun _ => True) A c t.recs := by
  obtain ⟨a, cs, rfl, h0, A, c, rfl, h1, h2, vs, hc, hr⟩ := arg_agg Tryz.underlying38 hval opens_tp h
  exact ⟨a, A, c, rfl, h0, Sl.mk_now h1 h2 hc hr⟩
/-- A tape of a row of tapes. -/
theorem Sl.tp_at {w : World} {F : Nat → Prop} {A : Option Addr} {c : Nat} {l : List Tp} {k : Nat} {t : Tp} (h : Sl Kd.tp w F A c l) (hk : l[k]? = some t) :
    ∃ b o A' c', A = some ⟨b, o, none⟩ ∧ R64 t.cap ∧ w.cell? ⟨b, o + k * 3, none⟩ = some (.int .i64 t.cap) ∧ w.cell? ⟨b, o + k * 3 + 1, none⟩ = some (.slice A' t.recs.length c') ∧ w.cell? ⟨b, o + k * 3 + 2, none⟩ = some (.bool t.mark) ∧ Sl (Kd.slice Kd.byte) w F A' c' t.recs := by
  obtain ⟨h1, h2, vs, hv⟩ := h
  obtain ⟨hc, hr⟩ := hv w (.refl _ _)
  obtain ⟨hR, A', c', he, k1, k2, _⟩ := hr.at_ k hk
  have hsz : Kd.tp.sz = 3 := rfl
  rw [hsz] at he
  have hat : ∀ j u, [Value.int .i64 t.cap, .slice A' t.recs.length c', .bool t.mark][j]? = some u → vs[k * 3 + j]? = some u := fun j u hj => by
    rw [← he, List.getElem?_take] at hj
    split at hj
    · rw [List.getElem?_drop] at hj; exact hj
    · cases hj
  obtain ⟨b, o, rfl, h0⟩ := hc.at_ (hat 0 _ rfl)
  have hx : ∀ j u, [Value.int .i64 t.cap, .slice A' t.recs.length c', .bool t.mark][j]? = some u → w.cell? ⟨b, o + k * 3 + j, none⟩ = some u := fun j u hj => by
    obtain ⟨b', o', e, h1⟩ := hc.at_ (hat j u hj)
    injection e with e; injection e with e1 e2; subst e1 e2
    rw [Nat.add_assoc]; exact h1
  refine ⟨b, o, A', c', rfl, hR, hx 0 _ rfl, hx 1 _ rfl, hx 2 _ rfl, Sl.of_weak k1 k2 fun W hW => ?_⟩
  have hK := (hv W hW).2.at_ k hk
  rw [hsz] at hK
  rw [he] at hK
  obtain ⟨_, A2, c2, e, _, _, r⟩ := hK
  simp only [List.cons.injEq, Value.slice.injEq, and_true, true_and] at e
  obtain ⟨e1, e2⟩ := e
  subst e1
  exact r
end Go.Proofs.YtldhcknjpmbgnaaGreatDoor.Rk
