/- Arguments: texts, structs. -/
import Derived.Test.YtejalhoaljlnhaaRow
import Derived.ChangeMaps5
namespace Go.Proofs.Ytejalhoaljlnhaa.Rk
open Go.RowKit Go.WideShapes Go.ChangeShapes Go.ChangeMaps
set_option linter.unusedVariables false
set_option linter.unusedSimpArgs false
theorem data_len (s : ByteArray) : s.data.toList.length = s.size := Array.length_toList
def Kd.str : Kd (List UInt8) := Kd.flatI 1 (fun l => [.string (ofL l)]) (fun l => l.length ≤ maxLen) (fun _ => rfl) (fun x u hu => by rw [List.mem_singleton.1 hu]; rfl)
section
variable {H : Type} {enc : TypeId × Value → H} {P : Program}
theorem arg_str {t : TypeId} {W : World} {base : Nat} {sp : Nat → Bool} {hd : Bool} {v : Value} {x : DataW H} {ps : List MemPlace} {r : Reach} {b0 : Nat} (ht : P.underlying t = some .string) (hval : Value.okWide P W r b0 t v)
    (h : DataW.Trod enc P W base sp hd t v x ps) : ∃ l : List UInt8, v = .string (ofL l) ∧ l.length ≤ maxLen := by
  obtain ⟨s, rfl, _, _, hs⟩ := open_string ht hval h
  refine ⟨s.data.toList, by rw [ofL_data], ?_⟩
  rw [data_len]; exact hs
theorem arg_agg {α : Type} {d : Kd α} {t : TypeId} {fs : Array Field} {W : World} {base : Nat} {sp : Nat → Bool} {hd : Bool} {v : Value} {x : DataW H} {ps : List MemPlace} {r : Reach} {b0 : Nat} (ht : P.underlying t = some (.struct fs)) (hval : Value.okWide P W r b0 t v)
    (ho : Opens P t d) (h : DataW.Trod enc P W base sp hd t v x ps) : ∃ (a : α) (cs : List Value), v = .agg cs.toArray ∧ d.K W a cs := by
  obtain ⟨cs, rfl, _⟩ := okWide_struct ht hval
  obtain ⟨fuel, hf⟩ := h
  obtain ⟨a, ha⟩ := ho hf
  exact ⟨a, cs.toList, by simp, by simpa [Value.cells] using ha⟩
theorem opens_str {t : TypeId} (ht : P.underlying t = some .string) : Opens P t Kd.str := by
  intro H enc w base sp hd fuel cs x h
  obtain ⟨s, h1, _, hs⟩ := DataW.trod_string ht h
  refine ⟨s.data.toList, ?_, ?_⟩
  · show cs = [.string (ofL s.data.toList)]
    rw [h1, ofL_data]
  · show s.data.toList.length ≤ maxLen
    rw [data_len]; exact hs
/-- A field of a struct. -/
theorem field_at {α : Type} {d : Kd α} {W : World} {base : Nat} {sp : Nat → Bool} {hd : Bool} {n : Nat} {t : TypeId} {cs : List Value} {xs : List (DataW H × List MemPlace)} {i o : Nat}
    (hf : DataW.trod enc P W base sp hd n t ((cs.drop o).take (P.cellsOf t)) = xs[i]?) (hi : i < xs.length) (ho : Opens P t d) : ∃ a, d.K W a ((cs.drop o).take (P.cellsOf t)) := by
  rw [List.getElem?_eq_getElem hi] at hf
  exact ho hf
end
end Go.Proofs.Ytejalhoaljlnhaa.Rk
