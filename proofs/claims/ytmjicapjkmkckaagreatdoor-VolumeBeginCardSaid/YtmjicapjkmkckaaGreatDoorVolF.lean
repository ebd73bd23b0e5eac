/- Trees: plain laws: the order of paths, the kinds of those that stand ahead. -/
import Derived.Test.YtmjicapjkmkckaaGreatDoorVolE
namespace Go.Proofs.YtmjicapjkmkckaaGreatDoor.Rk
open Go.RowKit
set_option linter.unusedVariables false
set_option linter.unusedSimpArgs false

theorem leB_eq : ∀ l m : List UInt8, leB l m = (Op.bytesLess l m || l == m)
  | [], [] => by simp [leB]
  | [], b :: m => by simp [leB, Op.bytesLess]
  | a :: l, [] => by simp [leB, Op.bytesLess]
  | a :: l, b :: m => by
    unfold leB Op.bytesLess
    rw [leB_eq l m]
    by_cases h1 : a < b
    · simp [h1]
    · by_cases h2 : a = b
      · subst h2; simp
      · have h3 : (a == b) = false := by simpa using h2
        simp [h1, h3]
theorem bl_trans : ∀ {a b c : List UInt8}, Op.bytesLess a b = true → Op.bytesLess b c = true → Op.bytesLess a c = true
  | _, _, [], _, h => by simp [Op.bytesLess] at h
  | [], _, c :: z, _, _ => by simp [Op.bytesLess]
  | a :: x, [], c :: z, h, _ => by simp [Op.bytesLess] at h
  | a :: x, b :: y, c :: z, h, k => by
    unfold Op.bytesLess at h k ⊢
    simp only [Bool.or_eq_true, Bool.and_eq_true, decide_eq_true_eq, beq_iff_eq] at h k ⊢
    rcases h with h | ⟨h, h'⟩
    · rcases k with k | ⟨k, k'⟩
      · exact .inl (UInt8.lt_trans h k)
      · subst k; exact .inl h
    · subst h
      rcases k with k | ⟨k, k'⟩
      · exact .inl k
      · exact .inr ⟨k, bl_trans h' k'⟩
theorem bl_total : ∀ (a b : List UInt8), Op.bytesLess a b = true ∨ a = b ∨ Op.bytesLess b a = true
  | [], [] => .inr (.inl rfl)
  | [], b :: y => .inl (by simp [Op.bytesLess])
  | a :: x, [] => .inr (.inr (by simp [Op.bytesLess]))
  | a :: x, b :: y => by
    unfold Op.bytesLess
    simp only [Bool.or_eq_true, Bool.and_eq_true, decide_eq_true_eq, beq_iff_eq]
    by_cases h1 : a < b
    · exact .inl (.inl h1)
    · by_cases h2 : b < a
      · exact .inr (.inr (.inl h2))
      · have h3 : a = b := UInt8.toNat_inj.1 (by rw [UInt8.lt_iff_toNat_lt] at h1 h2; omega)
        subst h3
        rcases bl_total x y with h | h | h
        · exact .inl (.inr ⟨rfl, h⟩)
        · exact .inr (.inl (by rw [h]))
        · exact .inr (.inr (.inr ⟨rfl, h⟩))
theorem leB_iff {a b : List UInt8} : leB a b = true ↔ Op.bytesLess a b = true ∨ a = b := by rw [leB_eq]; simp
theorem not_leB {a b : List UInt8} : leB a b = false ↔ Op.bytesLess b a = true := by
  constructor
  · intro h
    rcases bl_total a b with k | k | k
    · rw [leB_iff.2 (.inl k)] at h; cases h
    · rw [leB_iff.2 (.inr k)] at h; cases h
    · exact k
  · intro h
    cases k : leB a b with
    | false => rfl
    | true =>
      rcases leB_iff.1 k with k | k
      · have := bl_trans k h; rw [bytesLess_irrefl] at this; cases this
      · subst k; rw [bytesLess_irrefl] at h; cases h
/-- What holds of the nodes that were looked at: none is behind the last one, and no path stands twice. -/
structure TInv (pre : List Nd) : Prop where
  le : ∀ m ∈ pre, leB m.path (lastPath pre) = true
  once : (pre.map (·.path)).Nodup
theorem TInv.nil : TInv [] := ⟨by simp, by simp⟩
theorem lastPath_snoc (pre : List Nd) (n : Nd) : lastPath (pre ++ [n]) = n.path := by simp [lastPath]
theorem TInv.fresh {pre : List Nd} (h : TInv pre) {n : Nd} (hn : leB n.path (lastPath pre) = false) : ∀ m ∈ pre, m.path ≠ n.path := fun m hm e => by
  have := h.le m hm
  rw [e, hn] at this; cases this
theorem TInv.step {pre : List Nd} (h : TInv pre) {n : Nd} (hn : leB n.path (lastPath pre) = false) : TInv (pre ++ [n]) := by
  refine ⟨fun m hm => ?_, ?_⟩
  · rw [lastPath_snoc]
    rcases List.mem_append.1 hm with hm | hm
    · have h1 := h.le m hm
      have h2 := not_leB.1 hn
      rcases leB_iff.1 h1 with h1 | h1
      · exact leB_iff.2 (.inl (bl_trans h1 h2))
      · rw [h1]; exact leB_iff.2 (.inl h2)
    · rw [List.mem_singleton.1 hm]; exact leB_iff.2 (.inr rfl)
  · rw [List.map_append, List.nodup_append]
    refine ⟨h.once, by simp, ?_⟩
    intro a ha b hb
    obtain ⟨m, hm, rfl⟩ := List.mem_map.1 ha
    rw [List.map_singleton, List.mem_singleton] at hb
    subst hb
    exact h.fresh hn m hm
/-- The kind of whom a path is. -/
theorem kindAt_cases {pre : List Nd} (h : TInv pre) (p : List UInt8) : (∃ m ∈ pre, m.path = p ∧ kindAt pre p = m.kind ∧ ∀ m' ∈ pre, m'.path = p → m'.kind = m.kind) ∨ ((∀ m ∈ pre, m.path ≠ p) ∧ kindAt pre p = 0) := by
  unfold kindAt
  cases hf : pre.reverse.find? (fun n => n.path == p) with
  | none =>
    right
    rw [List.find?_eq_none] at hf
    exact ⟨fun m hm e => hf m (List.mem_reverse.2 hm) (by simp [e]), rfl⟩
  | some m =>
    left
    have hm := List.mem_reverse.1 (List.mem_of_find?_eq_some hf)
    have hp : m.path = p := by simpa using List.find?_some hf
    refine ⟨m, hm, hp, rfl, fun m' hm' hp' => ?_⟩
    have hinj : ∀ {l : List Nd}, (l.map (·.path)).Nodup → ∀ a ∈ l, ∀ b ∈ l, a.path = b.path → a = b := by
      intro l
      induction l with
      | nil => intro _ a ha; cases ha
      | cons c l ih =>
        intro hd a ha b hb e
        rw [List.map_cons, List.nodup_cons] at hd
        rcases List.mem_cons.1 ha with h1 | h1
        · rcases List.mem_cons.1 hb with h2 | h2
          · rw [h1, h2]
          · exact absurd (show c.path ∈ l.map (·.path) from List.mem_map.2 ⟨b, h2, by rw [← h1]; exact e.symm⟩) hd.1
        · rcases List.mem_cons.1 hb with h2 | h2
          · exact absurd (show c.path ∈ l.map (·.path) from List.mem_map.2 ⟨a, h1, by rw [← h2]; exact e⟩) hd.1
          · exact ih hd.2 a h1 b h2 e
    rw [hinj h.once m' hm' m hm (hp'.trans hp.symm)]
/-- How a tree is looked at, node by node. -/
theorem tmayGo_step {t : List Nd} {k : Nat} {n : Nd} (hn : t[k]? = some n) : tmayGo (t.take k) (t.drop k) = (nextOk (t.take k) n && tmayGo (t.take (k + 1)) (t.drop (k + 1))) := by
  have hlt := (List.getElem?_eq_some_iff.1 hn).1
  have h := (List.getElem?_eq_some_iff.1 hn).2
  rw [List.drop_eq_getElem_cons hlt, h, tmayGo, List.take_succ_eq_append_getElem hlt, h]
end Go.Proofs.YtmjicapjkmkckaaGreatDoor.Rk
