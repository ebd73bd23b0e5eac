/- Drawn regions, in an order of one's own. -/
import Derived.Test.YtldhcknjpmbgnaaGreatDoorVlmS
namespace Go.Proofs.YtldhcknjpmbgnaaGreatDoor.Rk
open Go.RowKit
set_option linter.unusedVariables false
set_option linter.unusedSimpArgs false
section
variable {P : Program} {ops : Array Oper} {Q : Exit → Act → World → Prop} {md : Region.Mode} {S : World → Prop}
/-- In the order that is given: such as read (true), such as must come now and keep S (false). -/
def ordL (P : Program) (ops : Array Oper) (Q : Exit → Act → World → Prop) (S : World → Prop) : List (Bool × Nat) → Act → World → Prop
  | [], a, w => Q .normal a w
  | (true, i) :: bs, a, w => match ops[i]? with | some o => ∃ v, YieldsIf P ops S o v a ∧ ordL P ops Q S bs (a.put o.dst v) w | none => False
  | (false, i) :: bs, a, w => match ops[i]? with | some o => Region.wanted o (yielded ops a.tmps) = true ∧ o.wp P a w (fun a' w' => S w' ∧ ordL P ops Q S bs a' w') Q | none => False
def ordB (md : Region.Mode) (ops : Array Oper) : List (Bool × Nat) → Array Bool → Bool
  | (true, k) :: bs, listed => (Region.ready md ops listed).contains k && Region.free md ops listed k && waitsB md ops k ops.size (waitB md ops k) listed && ordB md ops bs (listed.setIfInBounds k true)
  | (false, k) :: bs, listed => decide (Region.ready md ops listed = [k]) && ordB md ops bs (listed.setIfInBounds k true)
  | [], listed => (Region.ready md ops listed).isEmpty
theorem anyL_ord (hs : Region.noSelect ops = true) (hQ : ∀ c a a' w, Q (.panic c) a w → Q (.panic c) a' w) : ∀ (bs : List (Bool × Nat)) (listed : Array Bool) (a : Act) (w : World), S w → ordB md ops bs listed = true →
    ordL P ops Q S bs a w → anyL P md ops Q S (fun k => decide (k < ops.size)) bs.length listed a w
  | [], listed, a, w, _, hB, h => ⟨List.isEmpty_iff.1 hB, h⟩
  | (true, i) :: bs, listed, a, w, hS, hB, h => by
    simp only [ordB, Bool.and_eq_true] at hB
    obtain ⟨⟨⟨hr, hf⟩, hw⟩, hB'⟩ := hB
    unfold ordL at h
    cases h0 : ops[i]? with
    | none => simp [h0] at h
    | some o =>
      simp only [h0] at h
      obtain ⟨v, hy, hK⟩ := h
      exact anyL_first h0 (Region.noSelect_spec hs) (fun c a w h => hQ c _ _ w h) _ listed a w (Region.free_spec h0 hf) (by simpa using hr) (waits_of hw) hy hS
        (anyL_ord hs hQ bs _ _ w hS hB' hK)
  | (false, i) :: bs, listed, a, w, hS, hB, h => by
    simp only [ordB, Bool.and_eq_true, decide_eq_true_eq] at hB
    unfold ordL at h
    cases h0 : ops[i]? with
    | none => simp [h0] at h
    | some o =>
      simp only [h0] at h
      refine ⟨fun h1 => (by rw [hB.1] at h1; cases h1), fun j hj => ?_⟩
      rw [hB.1] at hj
      have hji : j = i := by simpa using hj
      subst hji
      unfold wpOp
      simp only [h0]
      rw [if_pos h.1]
      exact .inl (Oper.wp_mono (fun a' w' h' => ⟨fun _ => h'.1, anyL_ord hs hQ bs _ a' w' h'.1 hB.2 h'.2⟩) h.2)
end
def regO (ops : Array Oper) (bs : List (Bool × Nat)) : Bool := Region.noSelect ops && (ops.size == bs.length) && ordB .any ops bs (Array.replicate ops.size false)
theorem any_ord {P : Program} {ops : List Oper} {Q : Exit → Act → World → Prop} {S : World → Prop} {a : Act} {w : World} (bs : List (Bool × Nat)) (hB : regO ops.toArray bs = true) (hS : S w) (hQ : ∀ c a a' w, Q (.panic c) a w → Q (.panic c) a' w)
    (h : ordL P ops.toArray Q S bs a w) : wpAny P .any ops.toArray Q ops.toArray.size (Array.replicate ops.toArray.size false) a w := by
  simp only [regO, Bool.and_eq_true, beq_iff_eq] at hB
  have := anyL_ord (md := .any) hB.1.1 hQ bs (Array.replicate ops.toArray.size false) a w hS hB.2 h
  rw [← hB.1.2] at this
  exact any_of_L _ _ _ _ this
theorem round_ord {P : Program} {id : Nat} {ops : List Oper} {Q : Exit → Act → World → Prop} {a : Act} {w : World} {l : Nat} (S : World → Prop) (bs : List (Bool × Nat)) (hm : P.follows .mixedOrders = true) (hB : regO ops.toArray bs = true) (hd : ops.all noDefer = true) (hS : S w.drew)
    (h : ordL P ops.toArray (Calm Q) S bs a w.drew) : (Code.region id ops.toArray true).wpIn (Fence.wide.inRound l) 0 P Q a w :=
  wpIn_region_any hm (any_in (fun i o ho => List.all_eq_true.1 hd o (List.mem_of_getElem? (by simpa using ho))) _ _ _ _ (any_ord bs hB hS (fun _ _ _ _ h => h) h))
/-- The same outside a round. -/
theorem region_ord {P : Program} {id : Nat} {ops : List Oper} {Q : Exit → Act → World → Prop} {a : Act} {w : World} (S : World → Prop) (bs : List (Bool × Nat)) (hm : P.follows .mixedOrders = true) (hB : regO ops.toArray bs = true) (hS : S w.drew)
    (h : ordL P ops.toArray (Calm Q) S bs a w.drew) : (Code.region id ops.toArray true).wp P Q a w :=
  Code.wp_mono Calm.imp (wp_region_any hm (any_ord bs hB hS (fun _ _ _ _ h => h) h))
end Go.Proofs.YtldhcknjpmbgnaaGreatDoor.Rk
