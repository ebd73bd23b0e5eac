/- Base words, continued: stores into rows; texts. -/
import Derived.Test.YtejalhoaljlnhaaBase
set_option linter.unusedVariables false
set_option linter.unusedSimpArgs false
namespace Go.Proofs.Ytejalhoaljlnhaa.Rk
open Go.RowKit

theorem Row.head {w : World} {base size n : Nat} {v : Value} {xs : List Value} (h : Row w base size v n xs) (hn : 0 < n) : ∃ g cap, v = .slice (some ⟨g, 0, none⟩) n cap ∧ base ≤ g ∧ g < w.heap.size ∧ n ≤ cap ∧ cap ≤ 9223372036854775807 := by
  rcases h.2 with ⟨_, h0⟩ | ⟨g, cap, rfl, hb, hl, hc, hm, _⟩
  · omega
  · exact ⟨g, cap, rfl, hb, hl, hc, by simpa [maxLen] using hm⟩
theorem Row.cell {w : World} {base size n g cap : Nat} {xs : List Value} (h : Row w base size (.slice (some ⟨g, 0, none⟩) n cap) n xs) {j : Nat} {u : Value} (hu : xs[j]? = some u) :
    w.cell? ⟨g, j, none⟩ = some u ∧ w.frozen? ⟨g, j, none⟩ = false := by
  rcases h.2 with ⟨h0, _⟩ | ⟨g', cap', e, hb, hl, hc, hm, hcell, hf⟩
  · cases h0
  · injection e with e1 _ e2
    injection e1 with e1
    injection e1 with e1
    subst e1 e2
    have hj : j < n * size := by have := (List.getElem?_eq_some_iff.1 hu).1; rw [h.1] at this; exact this
    exact ⟨hcell j u hu, (hf j (Nat.lt_of_lt_of_le hj (Nat.mul_le_mul_right _ hc))).2⟩
theorem Row.store {w : World} {base size n g cap : Nat} {xs : List Value} (h : Row w base size (.slice (some ⟨g, 0, none⟩) n cap) n xs) (j : Nat) (u : Value) :
    Row (w.setCell ⟨g, j, none⟩ u) base size (.slice (some ⟨g, 0, none⟩) n cap) n (xs.set j u) := by
  refine ⟨by rw [List.length_set]; exact h.1, ?_⟩
  rcases h.2 with ⟨h0, _⟩ | ⟨g', cap', e, hb, hl, hc, hm, hcell, hf⟩
  · cases h0
  · injection e with e1 _ e2
    injection e1 with e1
    injection e1 with e1
    subst e1 e2
    refine .inr ⟨g, cap, rfl, hb, by simpa [World.setCell] using hl, hc, hm, fun i v hv => ?_, fun i hi => ?_⟩
    · by_cases hij : j = i
      · subst hij
        have hlt : j < xs.length := by have := (List.getElem?_eq_some_iff.1 hv).1; simpa using this
        rw [List.getElem?_set_self hlt] at hv
        injection hv with hv
        subst hv
        exact World.cell?_setCell_same _ _ _ (hcell j _ (List.getElem?_eq_getElem hlt))
      · rw [List.getElem?_set_ne hij] at hv
        rw [World.cell?_setCell_other _ _ _ _ (by simp [hij])]
        exact hcell i v hv
    · obtain ⟨a, b⟩ := hf i hi
      obtain ⟨u1, h1⟩ := Option.isSome_iff_exists.1 a
      obtain ⟨u2, h2⟩ := cell?_setCell_some (p := ⟨g, j, none⟩) (x := u) h1
      exact ⟨by rw [h2]; rfl, by rw [World.frozen?_setCell]; exact b⟩
theorem bcs_set (l : List UInt8) (j : Nat) (c : UInt8) : (bcs l).set j (.int .u8 c.toNat) = bcs (l.set j c) := by simp [bcs, List.map_set]
theorem bcs_get {l : List UInt8} {j : Nat} {c : UInt8} (h : l[j]? = some c) : (bcs l)[j]? = some (.int .u8 (c.toNat : Int)) := by simp [bcs, h]

theorem ofL_append (l m : List UInt8) : ofL l ++ ofL m = ofL (l ++ m) := by
  have : (ofL l ++ ofL m).data = (ofL (l ++ m)).data := by simp [ofL]
  cases h1 : ofL l ++ ofL m; cases h2 : ofL (l ++ m)
  simp [h1, h2] at this
  simp [this]

/-- Texts in order. -/
@[go_sem] theorem binOp_string_leq (t : TypeId) (a b : ByteArray) : binOp .leq t (.string a) (.string b) = pure (.bool (Op.bytesLess a.toList b.toList || a.toList == b.toList)) := by simp [binOp, Op.stringOp]
theorem bytesLess_irrefl : ∀ l : List UInt8, Op.bytesLess l l = false
  | [] => rfl
  | a :: l => by
    have h : ¬ a < a := by simp
    simp [Op.bytesLess, bytesLess_irrefl l]
theorem bytesLess_append (l m k : List UInt8) : Op.bytesLess (l ++ m) (l ++ k) = Op.bytesLess m k := by
  induction l with
  | nil => rfl
  | cons a l ih =>
    have h : ¬ a < a := by simp
    simp [Op.bytesLess, ih]

theorem row_lit1 (w : World) (base : Nat) (e : TypeId) (u : Value) (hb : base ≤ w.heap.size) : Row (w.alloc (.cells #[u] e)) base 1 (.slice (some ⟨w.heap.size, 0, none⟩) 1 1) 1 [u] :=
  Row.of_own (by simpa using World.ownsRow_lit (base := base) (e := e) (size := 1) w #[u] 1 hb (by decide) rfl)
end Go.Proofs.Ytejalhoaljlnhaa.Rk
