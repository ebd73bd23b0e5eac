/- LawDE: LawD LawE -/
import Derived.Test.YtldhcknjpmbgnaaGreatDoorLawS
/- VolumeSmall -/
namespace Go.Proofs.YtldhcknjpmbgnaaGreatDoor.Rk
open Go.RowKit Go.Shelf
set_option linter.unusedVariables false
set_option linter.unusedSimpArgs false
set_option maxRecDepth 100000

/-- Split, of a Set with other capacities. -/
theorem split_caps (t : List Nd) (hS : AllS t) (s : St) (cs : List Int) {n : Nat} (hn : cs.length = n) {l : List (List (List UInt8))} {en : Int} (h : vsplit t { s with caps := cs } = (l, en)) {A Ac : Option Addr} {c cc : Nat} {F G : Nat → Prop} (W : World) (hT : Tab W) (ha : Sl Kd.nd W F A c t) (hs : Sl Kd.int W G Ac cc cs) :
    Calls Tryz.prog 23 #[.slice A t.length c, .agg #[.string (ofL s.label), .int .i64 s.b, .slice Ac n cc]] W fun e w' => ∃ A' c', e = .returned (.tuple #[.slice A' l.length c', .int .i64 en]) ∧ Sl KBk3 w' (fun j => W.heap.size ≤ j) A' c' l ∧ Below W.heap.size W w' := by
  subst hn
  exact split_calls t hS { s with caps := cs } h W hT ha hs
theorem els_int {w : World} {A : Option Addr} {x : Int} (h : Cells w A [.int .i64 x]) (hx : R64 x) : Els Kd.int w (fun _ => False) A [x] := ⟨_, h, fun W _ => Reps.single ⟨rfl, hx⟩⟩
theorem r64_0 : R64 0 := ⟨by decide, by decide⟩
end Go.Proofs.YtldhcknjpmbgnaaGreatDoor.Rk
/- VolumeMore -/
namespace Go.Proofs.YtldhcknjpmbgnaaGreatDoor.Rk
open Go.RowKit Go.Shelf
set_option linter.unusedVariables false
set_option linter.unusedSimpArgs false
set_option maxRecDepth 100000

/-- May, of a Set with other capacities. -/
theorem smay_caps_calls (s : St) (cs : List Int) {n : Nat} (hn : cs.length = n) {r : Bool} (h : smay { s with caps := cs } = r) {Ac : Option Addr} {cc : Nat} {G : Nat → Prop} (W : World) (hs : Sl Kd.int W G Ac cc cs) :
    Calls Tryz.prog 68 #[.agg #[.string (ofL s.label), .int .i64 s.b, .slice Ac n cc]] W fun e w' => e = .returned (.bool r) ∧ Below W.heap.size W w' := by
  subst hn
  exact smay_calls { s with caps := cs } h W hs
theorem Sl.take {α : Type} {d : Kd α} (h1 : d.sz = 1) {w : World} {F : Nat → Prop} {A : Option Addr} {c : Nat} {xs : List α} (h : Sl d w F A c xs) (e : Nat) : Sl d w F A c (xs.take e) := by
  obtain ⟨hl, hc, vs, hv⟩ := h
  refine ⟨by rw [List.length_take]; omega, hc, vs.take e, fun W hW => ⟨?_, ?_⟩⟩
  · intro hne
    have hvs : vs ≠ [] := by rintro rfl; simp at hne
    obtain ⟨b', o', e1, hcell⟩ := (hv W hW).1 hvs
    refine ⟨b', o', e1, fun j u hu => ?_⟩
    rw [List.getElem?_take] at hu
    split at hu
    · exact hcell _ _ hu
    · cases hu
  · have := ((hv W hW).2.take e)
    rwa [h1, Nat.mul_one] at this
end Go.Proofs.YtldhcknjpmbgnaaGreatDoor.Rk
