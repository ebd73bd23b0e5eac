/- Base words, continued: slices of slices. -/
import Derived.Test.YtejalhoaljlnhaaBase2
set_option linter.unusedVariables false
set_option linter.unusedSimpArgs false
namespace Go.Proofs.Ytejalhoaljlnhaa.Rk
open Go.RowKit

/-- What is read in every world that keeps F lies in F: so its cells are the same in all of them. -/
theorem Sl.of_weak {α : Type} {d : Kd α} {w : World} {F : Nat → Prop} {A : Option Addr} {c : Nat} {xs : List α} (h1 : xs.length ≤ c) (h2 : c ≤ 9223372036854775807)
    (h : ∀ W, Keeps F w W → ∃ vs, Cells W A vs ∧ Reps d W xs vs) : Sl d w F A c xs := by
  refine ⟨h1, h2, ?_⟩
  obtain ⟨vs, hc, hr⟩ := h w (.refl _ _)
  refine ⟨vs, fun W hW => ?_⟩
  obtain ⟨us, kc, kr⟩ := h W hW
  have hl : us.length = vs.length := by rw [kr.len, hr.len]
  by_cases hn : vs = []
  · subst hn
    obtain rfl : us = [] := List.eq_nil_of_length_eq_zero (by simpa using hl)
    exact ⟨kc, kr⟩
  · obtain ⟨b, o, rfl, hcell⟩ := hc hn
    have hun : us ≠ [] := by rintro rfl; apply hn; exact List.eq_nil_of_length_eq_zero (by simpa using hl.symm)
    obtain ⟨b', o', e, kcell⟩ := kc hun
    cases e
    have hb : b < w.heap.size := by
      obtain ⟨u, hu⟩ : ∃ u, vs[0]? = some u := by
        cases vs with
        | nil => exact absurd rfl hn
        | cons u _ => exact ⟨u, rfl⟩
      exact World.block_lt_of_cell? w _ (hcell 0 u hu)
    have hF : F b := by
      apply Classical.byContradiction
      intro hnF
      have hk : Keeps F w { w with heap := w.heap.setIfInBounds b (.map #[] 0) } := by
        intro k hFk hk
        have : k ≠ b := by rintro rfl; exact hnF hFk
        simp [Array.getElem?_setIfInBounds, Ne.symm this]
      obtain ⟨ws, jc, jr⟩ := h _ hk
      have hwl : ws.length = vs.length := by rw [jr.len, hr.len]
      have hwn : ws ≠ [] := by rintro rfl; apply hn; exact List.eq_nil_of_length_eq_zero (by simpa using hwl.symm)
      obtain ⟨b'', o'', e, jcell⟩ := jc hwn
      cases e
      obtain ⟨u, hu⟩ : ∃ u, ws[0]? = some u := by
        cases ws with
        | nil => exact absurd rfl hwn
        | cons u _ => exact ⟨u, rfl⟩
      have := jcell 0 u hu
      simp [World.cell?, Array.getElem?_setIfInBounds, hb] at this
    have heq : us = vs := by
      apply List.ext_getElem? 
      intro j
      rcases Nat.lt_or_ge j vs.length with hj | hj
      · have q1 := kcell j _ (List.getElem?_eq_getElem (by omega : j < us.length))
        have q2 := hcell j _ (List.getElem?_eq_getElem hj)
        rw [World.cell?_of_block (w := w) (hW b hF hb), q2] at q1
        rw [List.getElem?_eq_getElem hj, List.getElem?_eq_getElem (by omega : j < us.length)]
        exact q1.symm
      · rw [List.getElem?_eq_none hj, List.getElem?_eq_none (by omega)]
    subst heq
    exact ⟨kc, kr⟩

/-- An element that is a slice. -/
theorem Sl.slice_at {α : Type} {d : Kd α} {w : World} {F : Nat → Prop} {A : Option Addr} {c : Nat} {xs : List (List α)} (h : Sl (Kd.slice d) w F A c xs) {i : Nat} {x : List α} (hi : xs[i]? = some x) :
    ∃ b o A' c', A = some ⟨b, o, none⟩ ∧ w.cell? ⟨b, o + i, none⟩ = some (.slice A' x.length c') ∧ Sl d w F A' c' x := by
  obtain ⟨h1, h2, vs, hv⟩ := h
  obtain ⟨hc, hr⟩ := hv w (.refl _ _)
  have hlen := hr.len
  have hil : i < xs.length := (List.getElem?_eq_some_iff.1 hi).1
  have hsz : (Kd.slice d).sz = 1 := rfl
  rw [hsz, Nat.mul_one] at hlen
  obtain ⟨u, hu⟩ : ∃ u, vs[i]? = some u := ⟨_, List.getElem?_eq_getElem (by omega)⟩
  have hdt : (vs.drop (i * (Kd.slice d).sz)).take (Kd.slice d).sz = [u] := by
    rw [hsz, Nat.mul_one, List.drop_eq_getElem_cons (by omega : i < vs.length), List.take_succ_cons, List.take_zero]
    rw [List.getElem?_eq_getElem (by omega)] at hu
    injection hu with hu
    rw [hu]
  have hK := hr.at_ i hi
  rw [hdt] at hK
  obtain ⟨A', c', e, k1, k2, _⟩ := hK
  injection e with e _
  subst e
  obtain ⟨b, o, rfl, hcell⟩ := hc.at_ hu
  refine ⟨b, o, A', c', rfl, hcell, Sl.of_weak k1 k2 fun W hW => ?_⟩
  have hK := (hv W hW).2.at_ i hi
  rw [hdt] at hK
  obtain ⟨A2, c2, e, _, _, r⟩ := hK
  injection e with e _
  injection e with e1 _ e2
  subst e1
  exact r
/-- The address of a slice that has elements. -/
theorem Sl.addr {α : Type} {d : Kd α} {w : World} {F : Nat → Prop} {A : Option Addr} {c : Nat} {xs : List α} (h : Sl d w F A c xs) (hd : 0 < d.sz) (hn : xs ≠ []) : ∃ b o, A = some ⟨b, o, none⟩ := by
  obtain ⟨vs, hc, hr⟩ := h.now
  have hl := hr.len
  have : vs ≠ [] := by
    rintro rfl
    cases xs with
    | nil => exact hn rfl
    | cons x xs => simp [Nat.succ_mul] at hl; omega
  obtain ⟨b, o, e, _⟩ := hc this
  exact ⟨b, o, e⟩
theorem splice_bcs (l x : List UInt8) (i : Nat) : splice (bcs l) i (bcs x) = bcs (splice l i x) := by simp [splice, bcs, List.map_take, List.map_drop]
theorem splice_length (l x : List UInt8) (i : Nat) (h : i + x.length ≤ l.length) : (splice l i x).length = l.length := length_splice l i x h
theorem splice_append (l x y : List UInt8) (i : Nat) (h : i + x.length + y.length ≤ l.length) : splice (splice l i x) (i + x.length) y = splice l i (x ++ y) := by
  unfold splice
  have h1 : (l.take i ++ (x ++ l.drop (i + x.length))).take (i + x.length) = l.take i ++ x := by
    rw [← List.append_assoc, List.take_left']
    simp; omega
  have h2 : (l.take i ++ (x ++ l.drop (i + x.length))).drop (i + x.length + y.length) = l.drop (i + x.length + y.length) := by
    rw [← List.append_assoc, List.drop_append, List.drop_of_length_le (by simp; omega), List.nil_append, List.drop_drop]
    congr 1
    simp; omega
  rw [h1, h2]
  simp [List.append_assoc, Nat.add_assoc]
theorem splice_nil (l : List UInt8) (i : Nat) : splice l i [] = l := by simp [splice]

/-- 'xs[p:]' of a block that is known, without a case on its end. -/
theorem cut_from {P : Program} {t e : TypeId} {z : Value} {bytes : Nat} (et : ET P t e z 1 bytes) (g n p : Nat) (hp : p ≤ n) :
    ∃ dp : Option Addr, (∀ W : World, (Instr.slice t (.slice (some ⟨g, 0, none⟩) n n) (some (.int .i64 (p : Int))) none none).run P W = .ok (.slice dp (n - p) (n - p)) W) ∧ (p < n → dp = some ⟨g, p, none⟩) := by
  obtain ⟨i, hi, _, hsz, _⟩ := info_parts et.i
  refine ⟨if n = p then some ⟨g, 0, none⟩ else some ⟨g, 0 + p, none⟩, fun W => ?_, fun h => by rw [if_neg (by omega), Nat.zero_add]⟩
  have hel : P.elem t = e := by simp [Program.elem, et.u]
  have hu : P.underlying t = some (.slice (P.elem t)) := by rw [hel]; exact et.u
  rw [run_slice_l W t (some ⟨g, 0, none⟩) n n hu .i64 (p : Int) (Int.natCast_nonneg _) (by omega), hel]
  simp [sizeOf, typeInfo, hi, hsz, sliced, Result.andThen, Addr.add_lit]
end Go.Proofs.Ytejalhoaljlnhaa.Rk
