/- Regions that begin by a call, and only read behind it. -/
import Derived.Test.YtejalhoaljlnhaaFork
import Derived.BigQuiet
namespace Go.Proofs.Ytejalhoaljlnhaa.Rk
open Go.RowKit
set_option linter.unusedVariables false
set_option linter.unusedSimpArgs false

/-- A first operation that is taken first, then some in one order, then none but such as read. -/
def leadB (md : Region.Mode) (ops : Array Oper) (n : Nat) : Bool :=
  Region.noSelect ops && ((Region.ready md ops (Array.replicate ops.size false)).contains 0 && (Region.free md ops (Array.replicate ops.size false) 0 &&
    (seqP md ops n 1 ((Array.replicate ops.size false).setIfInBounds 0 true) && Region.lexFrom md ops (ops.size - n - 1) (n + 1) (marks n 1 ((Array.replicate ops.size false).setIfInBounds 0 true)))))
theorem wp_region_lead {P : Program} {id : Nat} {Q : Exit → Act → World → Prop} {a : Act} {w : World} {o : Oper} {r : List Oper} (n : Nat) (v : Value) (hm : P.follows .mixedOrders = true) (hn : n ≤ r.length)
    (hy : Yields P (o :: r).toArray o v a) (hQ : ∀ c a w, Q (.panic c) (a.put o.dst v) w → Q (.panic c) a w) (hB : leadB .any (o :: r).toArray n = true)
    (h : wpList P (o :: r).toArray (Qn Q fun a' w' => wpQuiet P (o :: r).toArray (fun w'' => ∃ n, w'' = w'.drewN n) (fun a'' => ∀ w'', (∃ n, w'' = w'.drewN n) → Q .normal a'' w'') (r.drop n) a') (r.take n) (a.put o.dst v) w.drew) : (Code.region id (o :: r).toArray true).wp P Q a w := by
  refine wp_region_any hm ?_
  simp only [leadB, Bool.and_eq_true] at hB
  obtain ⟨b1, b2, b3, b4, b5⟩ := hB
  have hsz : (o :: r).toArray.size = r.length + 1 := by simp
  have htl : (r.take n).length = n := by rw [List.length_take]; omega
  have := wpAny_pre (md := .any) (ops := (o :: r).toArray) (Q := Q) (g := r.length - n) (r.take n) 1 ((Array.replicate (o :: r).toArray.size false).setIfInBounds 0 true) (a.put o.dst v) w.drew (fun j hj => by
    rw [htl] at hj
    rw [List.getElem?_take, if_pos hj]; simp [Nat.add_comm 1 j]) (by rw [htl]; exact b4) (fun a' w' hN => by
    rw [htl]
    refine wpAny_of_quiet (C := fun w'' => ∃ n, w'' = w'.drewN n) (Q := fun a'' => ∀ w'', (∃ n, w'' = w'.drewN n) → Q .normal a'' w'') (fun _ w'' hw'' h => h w'' hw'') _ _ _ _ ⟨0, rfl⟩ ?_
    have hx := wpAnyQ_lex (C := fun w'' => ∃ n, w'' = w'.drewN n) (md := .any) b1 (r.drop n) (n + 1) (marks n 1 ((Array.replicate (o :: r).toArray.size false).setIfInBounds 0 true)) a' (fun j => by
      rw [List.getElem?_drop]; simp [Nat.add_right_comm n 1 j]) (by rw [List.length_drop, show r.length - n = (o :: r).toArray.size - n - 1 by omega]; exact b5) hN
    rwa [List.length_drop] at hx) h
  rw [htl, show n + (r.length - n) = r.length by omega] at this
  rw [hsz] at this ⊢
  rw [hsz] at b2 b3
  exact wpAny_take (i := 0) (oi := o) (v := v) (by simp) b1 b3 b2 hQ hy this
end Go.Proofs.Ytejalhoaljlnhaa.Rk
