/- Maps that a call makes: what stands in them, in order. No program's text. -/
import Derived.Test.YtmjicapjkmkckaaGreatDoorGBase
import Derived.Maps.OwnOps
import Derived.RangeFuncRecord
namespace Go.Proofs.YtmjicapjkmkckaaGreatDoor.Rk
open Go.RowKit Go.Maps
set_option linter.unusedVariables false
set_option linter.unusedSimpArgs false
/-- Block b is a map; its entries are ps. -/
def MapL (P : Program) (k : TypeId) (w : World) (b : Nat) (ps : List (Value × Value)) : Prop :=
  ∃ (es : Array MapEntry) (clock : Nat), w.heap[b]? = some (.map es clock) ∧ es.toList.map (fun e => (e.key, e.val)) = ps ∧ ∀ p ∈ ps, ∃ l, keyOf P k p.1 = some l
section
variable {P : Program} {k e t : TypeId} {w W : World} {b : Nat} {ps : List (Value × Value)}
theorem MapL.keep (h : MapL P k w b ps) (hk : W.heap[b]? = w.heap[b]?) : MapL P k W b ps := by
  obtain ⟨es, c, h1, h2, h3⟩ := h
  exact ⟨es, c, hk.trans h1, h2, h3⟩
theorem MapL.lt (h : MapL P k w b ps) : b < w.heap.size := by
  obtain ⟨es, c, h1, _⟩ := h
  exact lt_of_block h1
theorem MapL.below (h : MapL P k w b ps) (hb : Below w.heap.size w W) : MapL P k W b ps := h.keep (hb.block b h.lt)
theorem MapL.made (P : Program) (k : TypeId) (w : World) : MapL P k (w.alloc (.map #[] 0)) w.heap.size [] := ⟨#[], 0, heap_alloc_new _ _, rfl, by simp⟩
theorem MapL.keys (h : ∀ p ∈ ps, ∃ l, keyOf P k p.1 = some l) {es : Array MapEntry} (he : es.toList.map (fun e => (e.key, e.val)) = ps) : ∀ e ∈ es.toList, ∃ l, keyOf P k e.key = some l := fun e hm => by
  have : (e.key, e.val) ∈ ps := by rw [← he]; exact List.mem_map.2 ⟨e, hm, rfl⟩
  exact h _ this
/-- A key that is not there. -/
theorem run_lookup_miss (K : Keyed P k) (ht : P.underlying t = some (.map k e)) {z : Value} (hz : (zeroValue e).run P w = .ok z w) (h : MapL P k w b ps) {x : Value} {l : Lit} (hx : keyOf P k x = some l) (hm : ∀ p ∈ ps, p.1 ≠ x) (c : Bool) :
    (Instr.lookup t (.map (some b)) x c).run P w = .ok (if c then .tuple #[z, .bool false] else z) w := by
  obtain ⟨es, cl, h1, h2, h3⟩ := h
  rcases K.find w hx es.toList (MapL.keys h3 h2) with ⟨q1, q2⟩ | ⟨j, e0, q1, q2, q3⟩
  · cases c <;> simp [Instr.lookup, run_underlying ht, MapKept.run_getObj_map h1, K.check w es.isEmpty hx, q1, hz, Result.andThen]
  · exfalso
    have : (e0.key, e0.val) ∈ ps := by rw [← h2]; exact List.mem_map.2 ⟨e0, List.mem_of_getElem? q2, rfl⟩
    exact hm _ this q3
/-- A key that is there. -/
theorem run_lookup_hit (K : Keyed P k) (ht : P.underlying t = some (.map k e)) (h : MapL P k w b ps) {x v : Value} {l : Lit} (hx : keyOf P k x = some l) (hm : (x, v) ∈ ps) (hu : ∀ p ∈ ps, p.1 = x → p.2 = v) (c : Bool) :
    (Instr.lookup t (.map (some b)) x c).run P w = .ok (if c then .tuple #[v, .bool true] else v) w := by
  obtain ⟨es, cl, h1, h2, h3⟩ := h
  rcases K.find w hx es.toList (MapL.keys h3 h2) with ⟨q1, q2⟩ | ⟨j, e0, q1, q2, q3⟩
  · exfalso
    rw [← h2] at hm
    obtain ⟨e0, he, heq⟩ := List.mem_map.1 hm
    exact q2 e0 he (by injection heq)
  · have hmem : (e0.key, e0.val) ∈ ps := by rw [← h2]; exact List.mem_map.2 ⟨e0, List.mem_of_getElem? q2, rfl⟩
    have hv : e0.val = v := hu _ hmem q3
    cases c <;> simp [Instr.lookup, run_underlying ht, MapKept.run_getObj_map h1, K.check w es.isEmpty hx, q1, hv, Result.andThen]
/-- A new key. -/
theorem run_update_new (K : Keyed P k) (ht : P.underlying t = some (.map k e)) (h : MapL P k w b ps) {x v : Value} {l : Lit} (hx : keyOf P k x = some l) (hm : ∀ p ∈ ps, p.1 ≠ x) :
    ∃ o, (Instr.mapUpdate t (.map (some b)) x v).run P w = .ok () (w.putObj b o) ∧ MapL P k (w.putObj b o) b (ps ++ [(x, v)]) := by
  obtain ⟨es, cl, h1, h2, h3⟩ := h
  rcases K.find w hx es.toList (MapL.keys h3 h2) with ⟨q1, q2⟩ | ⟨j, e0, q1, q2, q3⟩
  · refine ⟨.map (es.push ⟨x, v, cl⟩) (cl + 1), ?_, ⟨_, _, World.putObj_heap_same (lt_of_block h1), ?_, ?_⟩⟩
    · simp [Instr.mapUpdate, run_underlying ht, MapKept.run_getObj_map h1, K.check w false hx, q1, MapKept.run_setObj_map _ h1, Result.andThen, World.putObj]
    · simp [h2]
    · intro p hp
      rcases List.mem_append.1 hp with hp | hp
      · exact h3 p hp
      · rw [List.mem_singleton.1 hp]; exact ⟨l, hx⟩
  · exfalso
    have : (e0.key, e0.val) ∈ ps := by rw [← h2]; exact List.mem_map.2 ⟨e0, List.mem_of_getElem? q2, rfl⟩
    exact hm _ this q3
end
end Go.Proofs.YtmjicapjkmkckaaGreatDoor.Rk
