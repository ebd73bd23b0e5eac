/- Drawn regions in an order of one's own, with a forced tail that may panic. No program's text. -/
import Derived.Test.YtldhcknjpmbgnaaGreatDoorVOrd
namespace Go.Proofs.YtldhcknjpmbgnaaGreatDoor.Rk
open Go.RowKit
set_option linter.unusedVariables false
set_option linter.unusedSimpArgs false
section
variable {P : Program} {ops : Array Oper} {Q : Exit → Act → World → Prop} {md : Region.Mode} {S : World → Prop} {L : Nat → Bool}
def calmIf (b : Bool) (Q : Exit → Act → World → Prop) : Exit → Act → World → Prop := if b then Calm Q else Q
theorem Oper.wp_calm {o : Oper} {a : Act} {w : World} {K : Act → World → Prop} (h : o.wp P a w K (Calm Q)) : o.wp P a w K Q := by
  unfold Oper.wp at *
  generalize (execOp a.eval o).run P w = r at *
  cases r with
  | ok n w' =>
    cases n <;> simp only [Oper.upon] at h ⊢ <;>
      first
        | exact h
        | exact Calls.mono h (fun e w'' he => by cases e <;> first | exact he | exact he.elim | exact absurd he calm_lets)
        | exact Rows.mono h (fun _ _ he => he)
  | halt x w' => cases x <;> simp only [Oper.upon] at h ⊢ <;> first | exact h | exact h.elim
theorem wpOp_calm {i : Nat} {a : Act} {w : World} {K : Act → World → Prop} {b : Bool} (h : wpOp P ops (calmIf b Q) i K a w) : wpOp P ops Q i K a w := by
  cases b with
  | false => exact h
  | true =>
    have h : wpOp P ops (Calm Q) i K a w := h
    unfold wpOp at *
    cases h0 : ops[i]? with
    | none => simpa [h0] using h
    | some o =>
      simp only [h0] at h ⊢
      split
      · rename_i hw
        rw [if_pos hw] at h
        rcases h with h | h
        · exact .inl (Oper.wp_calm h)
        · exact absurd h.2 calm_lets
      · rename_i hw
        rw [if_neg hw] at h; exact h
/-- Whatever order is picked; S holds behind those of L, and these are calm. -/
def anyC (P : Program) (md : Region.Mode) (ops : Array Oper) (Q : Exit → Act → World → Prop) (S : World → Prop) (L : Nat → Bool) : Nat → Array Bool → Act → World → Prop
  | 0, listed, a, w => Region.ready md ops listed = [] ∧ Q .normal a w
  | g + 1, listed, a, w =>
    (Region.ready md ops listed = [] → Q .normal a w) ∧
    ∀ i ∈ Region.ready md ops listed, wpOp P ops (calmIf (L i) Q) i (fun a' w' => (L i = true → S w') ∧ anyC P md ops Q S L g (listed.setIfInBounds i true) a' w') a w
theorem any_of_C : ∀ (g : Nat) (listed : Array Bool) (a : Act) (w : World), anyC P md ops Q S L g listed a w → wpAny P md ops Q g listed a w
  | 0, _, _, _, h => h
  | g + 1, _, _, _, h => ⟨h.1, fun i hi => wpOp_mono (fun a' w' h' => any_of_C g _ a' w' h'.2) (wpOp_calm (h.2 i hi))⟩
theorem anyC_first {i : Nat} {oi : Oper} {v : Value} {B : List Nat} (hi : ops[i]? = some oi) (hsel : ∀ (j : Nat) (o : Oper) cs b, ops[j]? = some o → o.op ≠ .select cs b) :
    ∀ (g : Nat) (listed : Array Bool) (a : Act) (w : World),
      (∀ j oj, ops[j]? = some oj → j ≠ i → listed.getD j true = false → (∀ e ∈ oj.after, Region.binds md e = true → e.on ≠ i) → oi.apart ops oj = true) →
      i ∈ Region.ready md ops listed → Waits md ops i B L listed → YieldsIf P ops S oi v a → S w →
      anyC P md ops Q S L g (listed.setIfInBounds i true) (a.put oi.dst v) w → anyC P md ops Q S L (g + 1) listed a w := by
  intro g
  induction g with
  | zero =>
    intro listed a w _ hr _ hy hS H
    refine ⟨fun h => (by rw [h] at hr; cases hr), fun j hj => ?_⟩
    by_cases hji : j = i
    · subst hji; exact hy.wpOp hi hS ⟨fun _ => hS, H⟩
    · have := ready_mono hj hji
      rw [H.1] at this
      cases this
  | succ g ih =>
    intro listed a w hfree hr hW hy hS H
    refine ⟨fun h => (by rw [h] at hr; cases hr), fun j hj => ?_⟩
    by_cases hji : j = i
    · subst hji; exact hy.wpOp hi hS ⟨fun _ => hS, H⟩
    have h1 := H.2 j (ready_mono hj hji)
    obtain ⟨hjun, oj, hoj, hall⟩ := mem_ready.1 hj
    have hi0 := (mem_ready.1 hr).1
    have hnot : ∀ e ∈ oj.after, Region.binds md e = true → e.on ≠ i := fun e he hb heq => by
      have := hall e he hb
      rw [heq, getD_ff hi0] at this
      cases this
    have hjB : j ∉ B := fun hm => by
      obtain ⟨e, he, hb, h2⟩ := hW.dep j hm oj hoj
      rcases h2 with h2 | h2
      · exact hnot e he hb h2
      · have := hall e he hb
        rw [getD_ff (hW.un _ h2)] at this
        cases this
    have hLj := hW.rest j hjB hji hjun
    rw [hLj] at h1 ⊢
    have h2 := wpOp_putIf (Q := calmIf true Q) hoj (hfree j oj hoj hji hjun hnot) (fun cs b => hsel i oi cs b hi) (fun cs b => hsel j oj cs b hoj) (fun _ _ _ h => h.elim) hy h1
    have hW' : Waits md ops i B L (listed.setIfInBounds j true) :=
      ⟨hW.self, fun k hk => by rw [getD_set_ne true (fun (e : j = k) => hjB (by rw [e]; exact hk))]; exact hW.un k hk, hW.dep, fun k hk hki hun => hW.rest k hk hki (getD_mono hun)⟩
    have hfree' : ∀ k ok, ops[k]? = some ok → k ≠ i → (listed.setIfInBounds j true).getD k true = false →
        (∀ e ∈ ok.after, Region.binds md e = true → e.on ≠ i) → oi.apart ops ok = true := fun k ok hk hki hun hno => hfree k ok hk hki (getD_mono hun) hno
    refine wpOp_mono (fun a' w' h3 => ⟨h3.2.1, ih (listed.setIfInBounds j true) a' w' hfree' (ready_mono hr (Ne.symm hji)) hW' h3.1 (h3.2.1 rfl) ?_⟩) h2
    rw [Array.setIfInBounds_comm _ _ hji]
    exact h3.2.2
def waitsT (md : Region.Mode) (ops : Array Oper) (i : Nat) (tl B : List Nat) (listed : Array Bool) : Bool :=
  !B.contains i && B.all (fun k => !listed.getD k true && (match ops[k]? with | some o => o.after.any (fun e => Region.binds md e && (e.on == i || B.contains e.on)) | none => true)) &&
    (List.range listed.size).all (fun k => B.contains k || k == i || listed.getD k true || !tl.contains k)
theorem waits_ofT {i : Nat} {tl B : List Nat} {listed : Array Bool} (h : waitsT md ops i tl B listed = true) : Waits md ops i B (fun k => !tl.contains k) listed := by
  simp only [waitsT, Bool.and_eq_true, List.all_eq_true, List.mem_range] at h
  obtain ⟨⟨h1, h2⟩, h3⟩ := h
  refine ⟨fun hm => (by rw [List.contains_iff_mem.2 hm] at h1; cases h1), fun k hk => ?_, fun k hk o ho => ?_, fun k hk hki hun => ?_⟩
  · have := (h2 k hk).1
    cases hg : listed.getD k true with
    | false => rfl
    | true => rw [hg] at this; cases this
  · have := (h2 k hk).2
    rw [ho] at this
    simp only [Array.any_eq_true', Bool.and_eq_true, Bool.or_eq_true, beq_iff_eq, List.contains_iff_mem] at this
    obtain ⟨e, he, h4, h5⟩ := this
    exact ⟨e, he, h4, h5⟩
  · rcases Nat.lt_or_ge k listed.size with h' | h'
    · have := h3 k h'
      rw [hun, show B.contains k = false from by cases hc : B.contains k with | false => rfl | true => exact absurd (List.contains_iff_mem.1 hc) hk, show (k == i) = false from by simpa using hki] at this
      simpa using this
    · simp [Array.getElem?_eq_none h'] at hun
/-- In the order that is given: such as read (true), such as must come now, are calm, and keep S (false); then a tail in its order. -/
def ordT (P : Program) (ops : Array Oper) (Q : Exit → Act → World → Prop) (S : World → Prop) (tl : List Nat) : List (Bool × Nat) → Act → World → Prop
  | [], a, w => wpList P ops Q (tl.filterMap fun k => ops[k]?) a w
  | (true, i) :: bs, a, w => match ops[i]? with | some o => ∃ v, YieldsIf P ops S o v a ∧ ordT P ops Q S tl bs (a.put o.dst v) w | none => False
  | (false, i) :: bs, a, w => match ops[i]? with | some o => Region.wanted o (yielded ops a.tmps) = true ∧ o.wp P a w (fun a' w' => S w' ∧ ordT P ops Q S tl bs a' w') (Calm Q) | none => False
def tailB (md : Region.Mode) (ops : Array Oper) : List Nat → Array Bool → Bool
  | k :: ks, listed => decide (Region.ready md ops listed = [k]) && (ops[k]?).isSome && tailB md ops ks (listed.setIfInBounds k true)
  | [], listed => (Region.ready md ops listed).isEmpty
def ordTB (md : Region.Mode) (ops : Array Oper) (tl : List Nat) : List (Bool × Nat) → Array Bool → Bool
  | (true, k) :: bs, listed => (Region.ready md ops listed).contains k && Region.free md ops listed k && waitsT md ops k tl (waitB md ops k) listed && ordTB md ops tl bs (listed.setIfInBounds k true)
  | (false, k) :: bs, listed => decide (Region.ready md ops listed = [k]) && !tl.contains k && ordTB md ops tl bs (listed.setIfInBounds k true)
  | [], listed => tailB md ops tl listed
theorem anyC_tail {full : List Nat} : ∀ (tl : List Nat) (listed : Array Bool) (a : Act) (w : World), (∀ k ∈ tl, k ∈ full) → tailB md ops tl listed = true →
    wpList P ops Q (tl.filterMap fun k => ops[k]?) a w → anyC P md ops Q S (fun k => !full.contains k) tl.length listed a w
  | [], listed, a, w, _, hB, h => ⟨List.isEmpty_iff.1 hB, h⟩
  | k :: ks, listed, a, w, hf, hB, h => by
    simp only [tailB, Bool.and_eq_true, decide_eq_true_eq] at hB
    obtain ⟨⟨hr, hs⟩, hB⟩ := hB
    obtain ⟨o, h0⟩ := Option.isSome_iff_exists.1 hs
    refine ⟨fun h1 => (by rw [hr] at h1; cases h1), fun i hi => ?_⟩
    rw [hr] at hi
    have hik : i = k := by simpa using hi
    subst hik
    have hc : full.contains i = true := List.contains_iff_mem.2 (hf i List.mem_cons_self)
    have hc2 : (!full.contains i) = false := by rw [hc]; rfl
    simp only [hc2]
    rw [List.filterMap_cons, h0] at h
    exact wpOp_mono (fun a' w' h' => ⟨fun h => (by cases h), anyC_tail ks _ a' w' (fun k hk => hf k (List.mem_cons_of_mem _ hk)) hB h'⟩) (wpOp_list h0 h)
theorem anyC_ord {tl : List Nat} (hs : Region.noSelect ops = true) : ∀ (bs : List (Bool × Nat)) (listed : Array Bool) (a : Act) (w : World), S w → ordTB md ops tl bs listed = true →
    ordT P ops Q S tl bs a w → anyC P md ops Q S (fun k => !tl.contains k) (bs.length + tl.length) listed a w
  | [], listed, a, w, hS, hB, h => by
    rw [List.length_nil, Nat.zero_add]
    exact anyC_tail tl listed a w (fun k hk => hk) hB h
  | (true, i) :: bs, listed, a, w, hS, hB, h => by
    simp only [ordTB, Bool.and_eq_true] at hB
    obtain ⟨⟨⟨hr, hf⟩, hw⟩, hB'⟩ := hB
    unfold ordT at h
    cases h0 : ops[i]? with
    | none => simp [h0] at h
    | some o =>
      simp only [h0] at h
      obtain ⟨v, hy, hK⟩ := h
      rw [List.length_cons, Nat.add_right_comm]
      exact anyC_first h0 (Region.noSelect_spec hs) _ listed a w (Region.free_spec h0 hf) (by simpa using hr) (waits_ofT hw) hy hS (anyC_ord hs bs _ _ w hS hB' hK)
  | (false, i) :: bs, listed, a, w, hS, hB, h => by
    simp only [ordTB, Bool.and_eq_true, decide_eq_true_eq] at hB
    obtain ⟨⟨hr, hc⟩, hB'⟩ := hB
    unfold ordT at h
    cases h0 : ops[i]? with
    | none => simp [h0] at h
    | some o =>
      simp only [h0] at h
      rw [List.length_cons, Nat.add_right_comm]
      refine ⟨fun h1 => (by rw [hr] at h1; cases h1), fun j hj => ?_⟩
      rw [hr] at hj
      have hji : j = i := by simpa using hj
      subst hji
      simp only [hc]
      unfold wpOp
      simp only [h0]
      rw [if_pos h.1]
      exact .inl (Oper.wp_mono (fun a' w' h' => ⟨fun _ => h'.1, anyC_ord hs bs _ a' w' h'.1 hB' h'.2⟩) h.2)
end
section
variable {P : Program} {ops : Array Oper} {Q : Exit → Act → World → Prop} {S : World → Prop} {tl : List Nat} {bs : List (Bool × Nat)} {i : Nat} {o : Oper} {a : Act} {w : World}
theorem ordT_true (h0 : ops[i]? = some o) (h : ∃ v, YieldsIf P ops S o v a ∧ ordT P ops Q S tl bs (a.put o.dst v) w) : ordT P ops Q S tl ((true, i) :: bs) a w := by
  unfold ordT; simp only [h0]; exact h
theorem ordT_false (h0 : ops[i]? = some o) (h1 : Region.wanted o (yielded ops a.tmps) = true) (h : o.wp P a w (fun a' w' => S w' ∧ ordT P ops Q S tl bs a' w') (Calm Q)) : ordT P ops Q S tl ((false, i) :: bs) a w := by
  unfold ordT; simp only [h0]; exact ⟨h1, h⟩
theorem ordT_nil (h : wpList P ops Q (tl.filterMap fun k => ops[k]?) a w) : ordT P ops Q S tl [] a w := h
end
def regT (ops : Array Oper) (bs : List (Bool × Nat)) (tl : List Nat) : Bool := Region.noSelect ops && (ops.size == bs.length + tl.length) && ordTB .any ops tl bs (Array.replicate ops.size false)
theorem region_tal {P : Program} {id : Nat} {ops : List Oper} {Q : Exit → Act → World → Prop} {a : Act} {w : World} (S : World → Prop) (bs : List (Bool × Nat)) (tl : List Nat) (hm : P.follows .mixedOrders = true) (hB : regT ops.toArray bs tl = true) (hS : S w.drew)
    (h : ordT P ops.toArray Q S tl bs a w.drew) : (Code.region id ops.toArray true).wp P Q a w := by
  simp only [regT, Bool.and_eq_true, beq_iff_eq] at hB
  have := anyC_ord (md := .any) hB.1.1 bs (Array.replicate ops.toArray.size false) a w.drew hS hB.2 h
  rw [← hB.1.2] at this
  exact wp_region_any hm (any_of_C _ _ _ _ this)
end Go.Proofs.YtldhcknjpmbgnaaGreatDoor.Rk
