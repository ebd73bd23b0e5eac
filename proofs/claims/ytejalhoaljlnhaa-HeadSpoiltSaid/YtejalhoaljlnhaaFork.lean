/- Regions whose operations come up in one order, but for two neighbours in their midst: two orders. -/
import Derived.Test.YtejalhoaljlnhaaBase3
import Derived.StillTail
namespace Go.Proofs.Ytejalhoaljlnhaa.Rk
open Go.RowKit
set_option linter.unusedVariables false
set_option linter.unusedSimpArgs false

def Qn (Q : Exit → Act → World → Prop) (N : Act → World → Prop) : Exit → Act → World → Prop
  | .normal, a, w => N a w
  | e, a, w => Q e a w
def seqP (md : Region.Mode) (ops : Array Oper) : Nat → Nat → Array Bool → Bool
  | 0, _, _ => true
  | g + 1, k, listed => decide (Region.ready md ops listed = [k]) && seqP md ops g (k + 1) (listed.setIfInBounds k true)
def marks : Nat → Nat → Array Bool → Array Bool
  | 0, _, listed => listed
  | g + 1, k, listed => marks g (k + 1) (listed.setIfInBounds k true)
section
variable {P : Program} {ops : Array Oper} {Q : Exit → Act → World → Prop} {N : Act → World → Prop} {md : Region.Mode}
theorem wp_Qn {o : Oper} {a : Act} {w : World} {K : Act → World → Prop} (h : o.wp P a w K (Qn Q N)) : o.wp P a w K Q := by
  unfold Oper.wp at *
  generalize (execOp a.eval o).run P w = r at *
  cases r with
  | ok n w' =>
    cases n <;> simp only [Oper.upon] at h ⊢ <;> exact h
  | halt x w' =>
    cases x <;> simp only [Oper.upon] at h ⊢ <;> exact h
theorem wpOp_Qn {i : Nat} {a : Act} {w : World} {K : Act → World → Prop} (h : wpOp P ops (Qn Q N) i K a w) : wpOp P ops Q i K a w := by
  unfold wpOp at *
  cases h0 : ops[i]? with
  | none => simpa [h0] using h
  | some o =>
    simp only [h0] at h ⊢
    by_cases hw : Region.wanted o (yielded ops a.tmps) = true
    · rw [if_pos hw] at h ⊢
      exact h.imp wp_Qn (fun ⟨h1, h2⟩ => ⟨h1, h2⟩)
    · rw [if_neg hw] at h ⊢
      exact h
theorem wpOp_list {k : Nat} {o : Oper} {l : List Oper} {a : Act} {w : World} (h0 : ops[k]? = some o) (h : wpList P ops Q (o :: l) a w) : wpOp P ops Q k (wpList P ops Q l) a w := by
  unfold wpOp; simp only [h0]; exact h
theorem wpAny_pre {g : Nat} : ∀ (l : List Oper) (k : Nat) (listed : Array Bool) (a : Act) (w : World), (∀ j, j < l.length → l[j]? = ops[k + j]?) → seqP md ops l.length k listed = true →
    (∀ a' w', N a' w' → wpAny P md ops Q g (marks l.length k listed) a' w') → wpList P ops (Qn Q N) l a w → wpAny P md ops Q (l.length + g) listed a w
  | [], k, listed, a, w, _, _, hN, h => by
    have := hN a w h
    simpa [marks] using this
  | o :: l, k, listed, a, w, hl, hB, hN, h => by
    have h0 : ops[k]? = some o := by simpa using (hl 0 (by simp)).symm
    simp only [List.length_cons, seqP, Bool.and_eq_true, decide_eq_true_eq] at hB
    rw [List.length_cons, Nat.add_right_comm]
    refine ⟨fun h1 => (by rw [hB.1] at h1; cases h1), fun i hi => ?_⟩
    rw [hB.1] at hi
    have hik : i = k := by simpa using hi
    subst hik
    exact wpOp_mono (fun a' w' h' => wpAny_pre l (i + 1) _ a' w' (fun j hj => by have := hl (j + 1) (by simp; omega); simpa [Nat.add_assoc, Nat.add_comm 1 j] using this) hB.2 (fun a'' w'' hn => hN a'' w'' hn) h') (wpOp_Qn (wpOp_list h0 h))
theorem wpAny_two {k : Nat} {o p : Oper} {l : List Oper} {listed : Array Bool} {a : Act} {w : World} (h0 : ops[k]? = some o) (h1 : ops[k + 1]? = some p) (hl : ∀ j, l[j]? = ops[k + 2 + j]?)
    (r0 : Region.ready md ops listed = [k, k + 1]) (r1 : Region.ready md ops (listed.setIfInBounds k true) = [k + 1]) (r2 : Region.ready md ops (listed.setIfInBounds (k + 1) true) = [k])
    (hB : Region.seqB md ops l.length (k + 2) ((listed.setIfInBounds k true).setIfInBounds (k + 1) true) = true)
    (a1 : wpList P ops Q (o :: p :: l) a w) (a2 : wpList P ops Q (p :: o :: l) a w) : wpAny P md ops Q (l.length + 2) listed a w := by
  refine ⟨fun h => (by rw [r0] at h; cases h), fun i hi => ?_⟩
  rw [r0] at hi
  simp only [List.mem_cons, List.not_mem_nil, or_false] at hi
  rcases hi with rfl | rfl
  · refine wpOp_mono (fun a' w' h' => ?_) (wpOp_list h0 a1)
    refine ⟨fun h => (by rw [r1] at h; cases h), fun j hj => ?_⟩
    rw [r1] at hj
    obtain rfl : j = i + 1 := by simpa using hj
    exact wpOp_mono (fun a'' w'' h'' => wpAny_of_seq l (i + 2) _ a'' w'' hl hB h'') (wpOp_list h1 h')
  · refine wpOp_mono (fun a' w' h' => ?_) (wpOp_list h1 a2)
    refine ⟨fun h => (by rw [r2] at h; cases h), fun j hj => ?_⟩
    rw [r2] at hj
    obtain rfl : j = k := by simpa using hj
    refine wpOp_mono (fun a'' w'' h'' => wpAny_of_seq l (j + 2) _ a'' w'' hl ?_ h'') (wpOp_list h0 h')
    rw [Array.setIfInBounds_comm _ _ (by omega)]
    exact hB
end
def forkB (md : Region.Mode) (ops : Array Oper) (n : Nat) : Bool :=
  seqP md ops n 0 (Array.replicate ops.size false) && decide (Region.ready md ops (marks n 0 (Array.replicate ops.size false)) = [n, n + 1]) &&
    decide (Region.ready md ops ((marks n 0 (Array.replicate ops.size false)).setIfInBounds n true) = [n + 1]) &&
    decide (Region.ready md ops ((marks n 0 (Array.replicate ops.size false)).setIfInBounds (n + 1) true) = [n]) &&
    Region.seqB md ops (ops.size - n - 2) (n + 2) (((marks n 0 (Array.replicate ops.size false)).setIfInBounds n true).setIfInBounds (n + 1) true)
theorem wp_region_fork {P : Program} {id : Nat} {Q : Exit → Act → World → Prop} {a : Act} {w : World} {l : List Oper} (n : Nat) {o p : Oper} {r : List Oper} (hm : P.follows .mixedOrders = true) (hd : l.drop n = o :: p :: r)
    (hB : forkB .any l.toArray n = true)
    (h : wpList P l.toArray (Qn Q fun a' w' => wpList P l.toArray Q (o :: p :: r) a' w' ∧ wpList P l.toArray Q (p :: o :: r) a' w') (l.take n) a w.drew) : (Code.region id l.toArray true).wp P Q a w := by
  refine wp_region_any hm ?_
  simp only [forkB, Bool.and_eq_true, decide_eq_true_eq] at hB
  obtain ⟨⟨⟨⟨b1, b2⟩, b3⟩, b4⟩, b5⟩ := hB
  have hlen : (l.drop n).length = r.length + 2 := by rw [hd]; simp
  have hsz : l.toArray.size = l.length := by simp
  rw [List.length_drop] at hlen
  have hat : ∀ j, (o :: p :: r)[j]? = l[n + j]? := fun j => by rw [← hd, List.getElem?_drop]
  have htl : (l.take n).length = n := by rw [List.length_take]; omega
  have := wpAny_pre (md := .any) (ops := l.toArray) (Q := Q) (g := r.length + 2) (l.take n) 0 (Array.replicate l.toArray.size false) a w.drew (fun j hj => by
    rw [htl] at hj
    rw [List.getElem?_take, if_pos hj]; simp) (by rw [htl]; exact b1) (fun a' w' hN => by
    rw [htl]
    refine wpAny_two (k := n) (by simpa using (hat 0).symm) (by simpa using (hat 1).symm) (fun j => ?_) b2 b3 b4 ?_ hN.1 hN.2
    · have := hat (j + 2)
      simp only [List.getElem?_cons_succ] at this
      rw [this]; simp [Nat.add_assoc, Nat.add_comm 2 j]
    · rw [show r.length = l.toArray.size - n - 2 by omega]; exact b5) h
  rw [htl, show n + (r.length + 2) = l.toArray.size by omega] at this
  exact this
end Go.Proofs.Ytejalhoaljlnhaa.Rk
