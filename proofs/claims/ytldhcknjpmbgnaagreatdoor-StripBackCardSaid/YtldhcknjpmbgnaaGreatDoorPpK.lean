/- Parse: what a step keeps. Plain. -/
import Derived.Test.YtldhcknjpmbgnaaGreatDoorPpJ
namespace Go.Proofs.YtldhcknjpmbgnaaGreatDoor.Rk
open Go.RowKit Go.Shelf
set_option linter.unusedVariables false
set_option linter.unusedSimpArgs false
set_option maxRecDepth 100000

theorem must_ok {α : Type} {b : Bool} {e : Int} {r : Except Int α} {z : α} (h : (must b e >>= fun _ => r) = .ok z) : b = true ∧ r = .ok z := by
  cases b
  · cases h
  · exact ⟨rfl, h⟩
/-- What is told is short. -/
def Ev.Ok (e : Ev) : Prop := e.R ∧ e.node.S ∧ e.data.length ≤ 512
/-- A state, and what is told, are short. -/
def StepOk (x : Ps × List Ev) : Prop := x.1.S ∧ x.1.R ∧ (∀ e ∈ x.2, e.Ok) ∧ x.2.length ≤ 2
theorem z64 : R64 0 := ⟨by decide, by decide⟩
theorem nz_S : nz.S := ⟨Nat.zero_le _, Nat.zero_le _, Nat.zero_le _⟩
theorem ps0_S : ps0.S := ⟨nz_S, Nat.zero_le _, Nat.zero_le _, Nat.zero_le _⟩
theorem ps0_R : ps0.R := ⟨z64, z64, z64, nz_R, Nat.zero_le _, Nat.zero_le _, Nat.zero_le _⟩
theorem max_le {n : Nat} (h : n ≤ 10000) : n ≤ maxLen := by simp only [maxLen]; omega
theorem evOver_ok : evOver.Ok := ⟨evOver_R, nz_S, Nat.zero_le _⟩
theorem evData_ok {l : List UInt8} (h : l.length ≤ 512) : (evData l).Ok := ⟨evData_R h, nz_S, h⟩
theorem evNode_ok {n : Nd} (h : n.S) (k : n.R) : (evNode n).Ok := ⟨⟨z64, k, Nat.zero_le _⟩, h, Nat.zero_le _⟩
theorem psR_of {p z l : Int} {n : Nd} {t a b : List UInt8} (h1 : R64 p) (h2 : R64 z) (h3 : R64 l) (h4 : n.R) (h5 : t.length ≤ 1000) (h6 : a.length ≤ 1000) (h7 : b.length ≤ 1000) : (⟨p, n, z, l, t, a, b⟩ : Ps).R :=
  ⟨h1, h2, h3, h4, max_le (show t.length ≤ 10000 by omega), max_le (show a.length ≤ 10000 by omega), max_le (show b.length ≤ 10000 by omega)⟩
theorem pnodeN_S {s : Ps} {h : Hd} (hs : s.S) (hh : h.S) : (pnodeN s h).S := by
  refine ⟨?_, ?_, Nat.zero_le _⟩
  · show (if s.name = [] then joinP h.pre h.name else s.name).length ≤ 1000
    have h1 := hh.1
    have h2 := hh.2.1
    have h3 := hs.2.2.1
    split
    · unfold joinP
      split
      · omega
      · rw [List.length_append, List.length_cons]; omega
    · exact h3
  · show (if s.link = [] then h.link else s.link).length ≤ 1000
    have h1 := hh.2.2
    have h3 := hs.2.2.2
    split <;> omega
theorem pnodeN_R {s : Ps} {h : Hd} (hs : s.S) (hh : h.S) (hr : h.R) : (pnodeN s h).R := by
  have := pnodeN_S hs hh
  exact ⟨hr.1, hr.2.1, hr.2.2.1, hr.2.2.2.2.1, max_le (by have := this.1; omega), max_le (by have := this.2.1; omega), Nat.zero_le _⟩
theorem pnode_ok {s : Ps} {h : Hd} (hs : s.S) (hh : h.S) (hr : h.R) {x : Ps × List Ev} (hx : pnode s h = .ok x) : StepOk x := by
  have n1 := pnodeN_S hs hh
  have n2 := pnodeN_R hs hh hr
  unfold pnode at hx
  obtain ⟨_, hx⟩ := must_ok hx
  obtain ⟨_, hx⟩ := must_ok hx
  obtain ⟨_, hx⟩ := must_ok hx
  obtain ⟨_, hx⟩ := must_ok hx
  injection hx with hx
  subst hx
  split
  · refine ⟨ps0_S, ps0_R, fun e he => ?_, by simp⟩
    simp only [List.mem_cons, List.not_mem_nil, or_false] at he
    rcases he with rfl | rfl
    · exact evNode_ok n1 n2
    · exact evOver_ok
  · refine ⟨⟨n1, Nat.zero_le _, Nat.zero_le _, Nat.zero_le _⟩, psR_of ⟨by decide, by decide⟩ hr.2.2.2.1 hr.2.2.2.1 n2 (Nat.zero_le _) (Nat.zero_le _) (Nat.zero_le _), fun e he => ?_, by simp⟩
    simp only [List.mem_cons, List.not_mem_nil, or_false] at he
    subst he
    exact evNode_ok n1 n2
theorem ptext_ok {s : Ps} {h : Hd} {own : List UInt8} {ph : Int} (hs : s.S) (hsr : s.R) (hr : h.R) (hp : R64 ph) {x : Ps × List Ev} (hx : ptext s h own ph = .ok x) : StepOk x := by
  unfold ptext at hx
  obtain ⟨_, hx⟩ := must_ok hx
  obtain ⟨_, hx⟩ := must_ok hx
  injection hx with hx
  subst hx
  exact ⟨hs, psR_of hp hr.2.2.2.1 hr.2.2.2.1 hsr.2.2.2.1 hs.2.1 hs.2.2.1 hs.2.2.2, fun e he => (by cases he), Nat.zero_le _⟩
theorem phead_ok {s : Ps} {b : List UInt8} (hs : s.S) (hsr : s.R) {x : Ps × List Ev} (hx : phead s b = .ok x) : StepOk x := by
  have hh := hget_S b
  have hr := hget_R b
  unfold phead at hx
  split at hx
  · obtain ⟨_, hx⟩ := must_ok hx
    injection hx with hx
    subst hx
    exact ⟨hs, psR_of ⟨by decide, by decide⟩ hsr.2.1 hsr.2.2.1 hsr.2.2.2.1 hs.2.1 hs.2.2.1 hs.2.2.2, fun e he => (by cases he), Nat.zero_le _⟩
  · obtain ⟨_, hx⟩ := must_ok hx
    split at hx
    · exact ptext_ok hs hsr hr ⟨by decide, by decide⟩ hx
    · split at hx
      · exact ptext_ok hs hsr hr ⟨by decide, by decide⟩ hx
      · split at hx
        · cases hx
        · exact pnode_ok hs hh hr hx
theorem cutZ_len (l : List UInt8) : (cutZ l).1.length ≤ l.length := by
  unfold cutZ
  split
  · rw [List.length_dropLast]; omega
  · exact Nat.le_refl _
theorem pname_ok {s : Ps} {b : List UInt8} (hs : s.S) (hsr : s.R) (hz : s.size ≤ 301) {x : Ps × List Ev} (hx : pname s b = .ok x) : StepOk x := by
  have hc := cutZ_len (b.take s.size.toNat)
  rw [List.length_take] at hc
  unfold pname at hx
  obtain ⟨_, hx⟩ := must_ok hx
  injection hx with hx
  subst hx
  have hl : (cutZ (b.take s.size.toNat)).1.length ≤ 1000 := by omega
  split
  · exact ⟨⟨hs.1, hs.2.1, hl, hs.2.2.2⟩, psR_of z64 z64 z64 hsr.2.2.2.1 hs.2.1 hl hs.2.2.2, fun e he => (by cases he), Nat.zero_le _⟩
  · exact ⟨⟨hs.1, hs.2.1, hs.2.2.1, hl⟩, psR_of z64 z64 z64 hsr.2.2.2.1 hs.2.1 hs.2.2.1 hl, fun e he => (by cases he), Nat.zero_le _⟩
theorem pdata_ok {s : Ps} {b : List UInt8} (hs : s.S) (hsr : s.R) (hl : 1 ≤ s.left) {x : Ps × List Ev} (hx : pdata s b = .ok x) : StepOk x := by
  have hd : (b.take (min s.left 512).toNat).length ≤ 512 := by rw [List.length_take]; omega
  unfold pdata at hx
  injection hx with hx
  subst hx
  split
  · refine ⟨ps0_S, ps0_R, fun e he => ?_, by simp⟩
    simp only [List.mem_cons, List.not_mem_nil, or_false] at he
    rcases he with rfl | rfl
    · exact evData_ok hd
    · exact evOver_ok
  · have h3 := hsr.2.2.1
    refine ⟨hs, psR_of hsr.1 hsr.2.1 ⟨by have := h3.2; omega, by have := h3.2; omega⟩ hsr.2.2.2.1 hs.2.1 hs.2.2.1 hs.2.2.2, fun e he => ?_, by simp⟩
    simp only [List.mem_cons, List.not_mem_nil, or_false] at he
    subst he
    exact evData_ok hd
theorem pstep_ok {s : Ps} {b : List UInt8} (hs : s.S) (hsr : s.R) {x : Ps × List Ev} (hx : pstepE s b = .ok x) : StepOk x := by
  unfold pstepE at hx
  split at hx
  · rename_i hm
    split at hx
    · exact phead_ok hs hsr hx
    · split at hx
      · rename_i hp
        exact pname_ok hs hsr (psMay_text hm.1 hp).2 hx
      · split at hx
        · rename_i hp
          exact pdata_ok hs hsr (psMay_data hm.1 hp).1 hx
        · split at hx
          · unfold pzero at hx
            obtain ⟨_, hx⟩ := must_ok hx
            injection hx with hx
            subst hx
            exact ⟨hs, psR_of ⟨by decide, by decide⟩ hsr.2.1 hsr.2.2.1 hsr.2.2.2.1 hs.2.1 hs.2.2.1 hs.2.2.2, fun e he => (by cases he), Nat.zero_le _⟩
          · cases hx
  · cases hx
/-- What a run tells, and where it ends. -/
theorem prun_ok {s : Ps} (hs : s.S) (hsr : s.R) (l : List (List UInt8)) : (prun s l).1.S ∧ (prun s l).1.R ∧ (∀ e ∈ (prun s l).2.1, e.Ok) ∧ (prun s l).2.1.length ≤ 2 * l.length := by
  induction l generalizing s with
  | nil => exact ⟨hs, hsr, fun e he => (by cases he), Nat.zero_le _⟩
  | cons b l ih =>
    unfold prun
    cases hE : pstepE s b with
    | error e => exact ⟨hs, hsr, fun e he => (by cases he), Nat.zero_le _⟩
    | ok x =>
      obtain ⟨t, told⟩ := x
      obtain ⟨h1, h2, h3, h4⟩ := pstep_ok hs hsr hE
      dsimp only at h1 h2 h3 h4 ⊢
      split
      · exact ⟨h1, h2, h3, by simp only [List.length_cons]; omega⟩
      · obtain ⟨k1, k2, k3, k4⟩ := ih h1 h2
        refine ⟨k1, k2, fun e he => ?_, by simp only [List.length_append, List.length_cons]; omega⟩
        rcases List.mem_append.1 he with he | he
        · exact h3 e he
        · exact k3 e he
end Go.Proofs.YtldhcknjpmbgnaaGreatDoor.Rk
