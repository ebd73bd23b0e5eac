/- ParS: ParA ParB ParC ParD ParE -/
import Derived.Test.YtldhcknjpmbgnaaGreatDoorCgA
/- A parser that goes block by block: plain Lean. -/
namespace Go.Proofs.YtldhcknjpmbgnaaGreatDoor.Rk
open Go.RowKit
set_option linter.unusedVariables false
set_option linter.unusedSimpArgs false

/-! ### states -/
structure Ps where
  phase : Int
  node : Nd
  size : Int
  left : Int
  text : List UInt8
  name : List UInt8
  link : List UInt8
def nz : Nd := ⟨[], [], 0, 0, 0, 0, 0, []⟩
def ps0 : Ps := ⟨0, nz, 0, 0, [], [], []⟩
/-- What is told. -/
structure Ev where
  kind : Int
  node : Nd
  data : List UInt8
def inR (n a b : Int) : Bool := decide (a ≤ n) && decide (n ≤ b)
def lmayT (x : List UInt8) : Bool := x == [] || ltext x
def words (s : Ps) : Bool := lmayT s.name && lmayT s.link
def nzB (n : Nd) : Bool := n.path == [] && (n.link == [] && (n.kind == 0 && (n.mode == 0 && (n.uid == 0 && (n.gid == 0 && (n.mtime == 0 && n.data == []))))))
/-- May a state be? -/
def psMay (s : Ps) : Bool :=
  if s.phase = 0 then (nzB s.node && (s.size == 0 && (s.left == 0 && s.text == []))) && words s
  else if s.phase = 1 ∨ s.phase = 2 then (nzB s.node && (s.left == s.size && s.text == [])) && ((if s.phase = 2 then s.link else s.name) == [] && (inR s.size 2 301 && words s))
  else if s.phase = 3 then (s.text == [] && (s.name == [] && s.link == [])) && (s.node.kind == 48 && (s.node.data == [] && (one s.node && (inR s.size 1 4000 && (inR s.left 1 s.size && (s.size - s.left) % 512 == 0)))))
  else if s.phase = 4 ∨ s.phase = 5 then nzB s.node && (s.size == 0 && (s.left == 0 && (s.text == [] && (s.name == [] && s.link == []))))
  else false

/-! ### a step -/
def joinP (a b : List UInt8) : List UInt8 := if a = [] then b else a ++ 47 :: b
def begins (s whole : List UInt8) : Bool := s == whole.take 100
def must (b : Bool) (e : Int) : Except Int Unit := if b then .ok () else .error e
def evNode (n : Nd) : Ev := ⟨0, n, []⟩
def evData (l : List UInt8) : Ev := ⟨1, nz, l⟩
def evOver : Ev := ⟨2, nz, []⟩
/-- The node of a header. -/
def pnodeN (s : Ps) (h : Hd) : Nd := ⟨if s.name = [] then joinP h.pre h.name else s.name, if s.link = [] then h.link else s.link, h.ty, h.mode, h.uid, h.gid, h.mtime, []⟩
def pnode (s : Ps) (h : Hd) : Except Int (Ps × List Ev) := do
  must (s.name == [] || (h.pre == [] && begins h.name s.name)) 2
  must (s.link == [] || begins h.link s.link) 2
  must (pmay (pnodeN s h).path) 6
  must (one (pnodeN s h) && decide (h.size ≤ if (pnodeN s h).kind = 48 then 4000 else 0)) 2
  return if h.size = 0 then (ps0, [evNode (pnodeN s h), evOver]) else (⟨3, pnodeN s h, h.size, h.size, [], [], []⟩, [evNode (pnodeN s h)])
def longLink : List UInt8 := [46, 47, 46, 47, 64, 76, 111, 110, 103, 76, 105, 110, 107]
def ptext (s : Ps) (h : Hd) (own : List UInt8) (ph : Int) : Except Int (Ps × List Ev) := do
  must (own == []) 5
  must ((h.name == longLink && (h.pre == [] && (h.link == [] && (h.mode == 0 && (h.uid == 0 && (h.gid == 0 && (h.mtime == 0 && (h.off == 0 && h.real == 0)))))))) && inR h.size 2 301) 2
  return ({ s with phase := ph, size := h.size, left := h.size }, [])
def phead (s : Ps) (b : List UInt8) : Except Int (Ps × List Ev) :=
  if (hget b).2 = 4 then do
    must (s.name == [] && s.link == []) 2
    return ({ s with phase := 4 }, [])
  else do
    must ((hget b).2 == 0) (hget b).2
    if (hget b).1.ty = 76 then ptext s (hget b).1 s.name 1
    else if (hget b).1.ty = 75 then ptext s (hget b).1 s.link 2
    else if (hget b).1.ty = 77 ∨ (hget b).1.ty = 86 then .error 5
    else pnode s (hget b).1
def cutZ (l : List UInt8) : List UInt8 × Bool := if l.getLast? = some 0 then (l.dropLast, true) else (l, false)
def pname (s : Ps) (b : List UInt8) : Except Int (Ps × List Ev) := do
  must ((cutZ (b.take s.size.toNat)).2 && (ltext (cutZ (b.take s.size.toNat)).1 && !(b.drop s.size.toNat).any (· != 0))) 2
  return if s.phase = 1 then ({ s with phase := 0, size := 0, left := 0, name := (cutZ (b.take s.size.toNat)).1 }, []) else ({ s with phase := 0, size := 0, left := 0, link := (cutZ (b.take s.size.toNat)).1 }, [])
def pdata (s : Ps) (b : List UInt8) : Except Int (Ps × List Ev) :=
  .ok (if s.left - min s.left 512 = 0 then (ps0, [evData (b.take (min s.left 512).toNat), evOver]) else ({ s with left := s.left - min s.left 512 }, [evData (b.take (min s.left 512).toNat)]))
def pzero (s : Ps) (b : List UInt8) : Except Int (Ps × List Ev) := do
  must (!b.any (· != 0)) 2
  return ({ s with phase := 5 }, [])
def pstepE (s : Ps) (b : List UInt8) : Except Int (Ps × List Ev) :=
  if psMay s = true ∧ b.length = 512 then
    if s.phase = 0 then phead s b
    else if s.phase = 1 ∨ s.phase = 2 then pname s b
    else if s.phase = 3 then pdata s b
    else if s.phase = 4 then pzero s b
    else .error 17
  else .error 1
/-- Step takes a block. -/
def pstep (s : Ps) (b : List UInt8) : Ps × List Ev × Int := match pstepE s b with | .ok (t, l) => (t, l, 0) | .error e => (s, [], e)
/-- Run takes several. -/
def prun (s : Ps) : List (List UInt8) → Ps × List Ev × Nat × Int
  | [] => (s, [], 0, 0)
  | b :: l => match pstepE s b with
    | .error e => (s, [], 0, e)
    | .ok (t, told) => if t.phase = 5 then (t, told, 1, 0) else let r := prun t l; (r.1, told ++ r.2.1, r.2.2.1 + 1, r.2.2.2)

/-! ### what a tree's blocks do -/
/-- Several steps, all of which are well. -/
inductive Steps : Ps → List (List UInt8) → Ps → List Ev → Prop
  | nil (s : Ps) : Steps s [] s []
  | cons {s t u : Ps} {b : List UInt8} {l : List (List UInt8)} {e f : List Ev} (h : pstepE s b = .ok (t, e)) (k : Steps t l u f) : Steps s (b :: l) u (e ++ f)
theorem Steps.one {s t : Ps} {b : List UInt8} {e : List Ev} (h : pstepE s b = .ok (t, e)) : Steps s [b] t e := by
  have := Steps.cons h (Steps.nil t)
  rwa [List.append_nil] at this
theorem Steps.trans {s t u : Ps} {l m : List (List UInt8)} {e f : List Ev} (h : Steps s l t e) (k : Steps t m u f) : Steps s (l ++ m) u (e ++ f) := by
  induction h with
  | nil s => exact k
  | cons h _ ih => rw [List.cons_append, List.append_assoc]; exact .cons h (ih k)
theorem Steps.split {s u : Ps} {l m : List (List UInt8)} {g : List Ev} (h : Steps s (l ++ m) u g) : ∃ t e f, Steps s l t e ∧ Steps t m u f ∧ g = e ++ f := by
  induction l generalizing s g with
  | nil => exact ⟨s, [], g, .nil s, h, rfl⟩
  | cons b l ih =>
    cases h with
    | cons h1 h2 =>
      obtain ⟨t, e, f, a1, a2, rfl⟩ := ih h2
      exact ⟨t, _, f, .cons h1 a1, a2, by rw [List.append_assoc]⟩
theorem Steps.det {s t u : Ps} {l : List (List UInt8)} {e f : List Ev} (h : Steps s l t e) (k : Steps s l u f) : t = u ∧ e = f := by
  induction h generalizing u f with
  | nil s => cases k; exact ⟨rfl, rfl⟩
  | cons h1 h2 ih =>
    cases k with
    | cons k1 k2 =>
      rw [h1] at k1
      injection k1 with k1
      injection k1 with k3 k4
      subst k3 k4
      obtain ⟨rfl, rfl⟩ := ih k2
      exact ⟨rfl, rfl⟩
end Go.Proofs.YtldhcknjpmbgnaaGreatDoor.Rk
/- A parser, and a tree's blocks: plain Lean. -/
namespace Go.Proofs.YtldhcknjpmbgnaaGreatDoor.Rk
open Go.RowKit
set_option linter.unusedVariables false
set_option linter.unusedSimpArgs false
set_option maxRecDepth 100000

def sA (name link : List UInt8) : Ps := ⟨0, nz, 0, 0, [], name, link⟩
def sT (ph sz : Int) (name link : List UInt8) : Ps := ⟨ph, nz, sz, sz, [], name, link⟩
def sD (n : Nd) (size left : Int) : Ps := ⟨3, n, size, left, [], [], []⟩
def sZ (ph : Int) : Ps := ⟨ph, nz, 0, 0, [], [], []⟩
/-- A node without its bytes. -/
def noData (n : Nd) : Nd := ⟨n.path, n.link, n.kind, n.mode, n.uid, n.gid, n.mtime, []⟩
theorem nzB_nz : nzB nz = true := by decide
theorem may_A {name link : List UInt8} (h1 : lmayT name = true) (h2 : lmayT link = true) : psMay (sA name link) = true := by
  unfold psMay
  rw [if_pos (show (sA name link).phase = 0 from rfl)]
  show ((nzB nz && ((0 : Int) == 0 && ((0 : Int) == 0 && ([] : List UInt8) == []))) && (lmayT name && lmayT link)) = true
  rw [h1, h2, nzB_nz]; decide
theorem may_T {ph sz : Int} {name link : List UInt8} (hp : ph = 1 ∨ ph = 2) (h0 : (if ph = 2 then link else name) = []) (hz : inR sz 2 301 = true) (h1 : lmayT name = true) (h2 : lmayT link = true) : psMay (sT ph sz name link) = true := by
  unfold psMay
  rw [if_neg (show ¬ (sT ph sz name link).phase = 0 by show ¬ ph = 0; omega), if_pos (show (sT ph sz name link).phase = 1 ∨ (sT ph sz name link).phase = 2 from hp)]
  show ((nzB nz && (sz == sz && ([] : List UInt8) == [])) && ((if ph = 2 then link else name) == [] && (inR sz 2 301 && (lmayT name && lmayT link)))) = true
  rw [h0, hz, h1, h2, nzB_nz]; simp
theorem may_D {n : Nd} {size left : Int} (hk : n.kind = 48) (hd : n.data = []) (ho : one n = true) (h1 : 1 ≤ size ∧ size ≤ 4000) (h2 : 1 ≤ left ∧ left ≤ size) (h3 : (size - left) % 512 = 0) : psMay (sD n size left) = true := by
  unfold psMay
  rw [if_neg (show ¬ (sD n size left).phase = 0 from (by decide : ¬ (3 : Int) = 0)), if_neg (show ¬ ((sD n size left).phase = 1 ∨ (sD n size left).phase = 2) from (by decide : ¬ ((3 : Int) = 1 ∨ (3 : Int) = 2))), if_pos (show (sD n size left).phase = 3 from rfl)]
  show ((([] : List UInt8) == [] && (([] : List UInt8) == [] && ([] : List UInt8) == [])) && (n.kind == 48 && (n.data == [] && (one n && (inR size 1 4000 && (inR left 1 size && (size - left) % 512 == 0)))))) = true
  rw [hk, hd, ho, h3]
  unfold inR
  simp [h1, h2]
theorem may_Z {ph : Int} (hp : ph = 4 ∨ ph = 5) : psMay (sZ ph) = true := by
  rcases hp with rfl | rfl <;> decide
theorem lmayT_nil : lmayT [] = true := rfl
theorem lmayT_of {x : List UInt8} (h : ltext x = true) : lmayT x = true := by unfold lmayT; rw [h]; simp
theorem hget_put {h : Hd} (f : Fits h) (r : h.R) : hget ((hput h).getD []) = (h, 0) := by rw [hput_fits f]; exact hget_block _ r f
theorem ltext_ne {x : List UInt8} (h : ltext x = true) : x ≠ [] ∧ x.length ≤ 300 := ⟨(ltext_iff.1 h).1, (ltext_iff.1 h).2.1⟩
theorem len_pos {x : List UInt8} (h : x ≠ []) : 1 ≤ x.length := List.length_pos_iff.2 h
/-- A long text's header. -/
theorem step_long {k : UInt8} {x name link : List UInt8} (hk : k = 75 ∨ k = 76) (hx : ltext x = true) (h0 : (if k = 75 then link else name) = []) (h1 : lmayT name = true) (h2 : lmayT link = true) :
    pstepE (sA name link) ((hput (longHd k x)).getD []) = .ok (sT (if k = 75 then 2 else 1) ((x.length : Int) + 1) name link, []) := by
  obtain ⟨hx0, hx3⟩ := ltext_ne hx
  have hx1 := len_pos hx0
  have hF := longHd_fits (k := k) (s := x) hk hx3
  have hg := hget_put hF (longHd_R (k := k) (s := x) hx3)
  have hin : inR ((x.length : Int) + 1) 2 301 = true := by unfold inR; simp; omega
  unfold pstepE
  rw [if_pos ⟨may_A h1 h2, block512 hF⟩, if_pos (show (sA name link).phase = 0 from rfl)]
  unfold phead
  rw [hg, if_neg (show ¬ (longHd k x, (0 : Int)).2 = 4 from (by decide : ¬ (0 : Int) = 4))]
  have hm : must (((longHd k x, (0 : Int)).2) == 0) ((longHd k x, (0 : Int)).2) = .ok () := rfl
  have ht : (longHd k x, (0 : Int)).1.ty = k := rfl
  have hq : must (((longHd k x).name == longLink && ((longHd k x).pre == [] && ((longHd k x).link == [] && ((longHd k x).mode == 0 && ((longHd k x).uid == 0 && ((longHd k x).gid == 0 && ((longHd k x).mtime == 0 && ((longHd k x).off == 0 && (longHd k x).real == 0)))))))) && inR (longHd k x).size 2 301) 2 = .ok () := by
    show must ((longLink == longLink && (([] : List UInt8) == [] && (([] : List UInt8) == [] && ((0 : Int) == 0 && ((0 : Int) == 0 && ((0 : Int) == 0 && ((0 : Int) == 0 && ((0 : Int) == 0 && (0 : Int) == 0)))))))) && inR ((x.length : Int) + 1) 2 301) 2 = _
    rw [hin]; rfl
  rw [hm, ht]
  rcases hk with rfl | rfl
  · rw [if_pos rfl] at h0
    show (if (75 : UInt8) = 76 then ptext (sA name link) (longHd 75 x) name 1 else if (75 : UInt8) = 75 then ptext (sA name link) (longHd 75 x) link 2 else if (75 : UInt8) = 77 ∨ (75 : UInt8) = 86 then .error 5 else pnode (sA name link) (longHd 75 x)) = _
    rw [if_neg (by decide), if_pos rfl, h0]
    unfold ptext
    rw [hq]; rfl
  · rw [if_neg (by decide)] at h0
    show (if (76 : UInt8) = 76 then ptext (sA name link) (longHd 76 x) name 1 else if (76 : UInt8) = 75 then ptext (sA name link) (longHd 76 x) link 2 else if (76 : UInt8) = 77 ∨ (76 : UInt8) = 86 then .error 5 else pnode (sA name link) (longHd 76 x)) = _
    rw [if_pos rfl, h0]
    unfold ptext
    rw [hq]; rfl
theorem padB_drop {s : List UInt8} (h : s.length ≤ 512) : (padB s).drop s.length = zeros (512 - s.length) := by
  unfold padB
  rw [List.take_of_length_le h, List.drop_left]
theorem zeros_none (k : Nat) : (zeros k).any (· != 0) = false := by
  rw [List.any_eq_false]
  intro x hx
  rw [(List.mem_replicate.1 hx).2]; decide
/-- A long text's block. -/
theorem step_text {ph : Int} {x name link : List UInt8} (hp : ph = 1 ∨ ph = 2) (hx : ltext x = true) (h0 : (if ph = 2 then link else name) = []) (h1 : lmayT name = true) (h2 : lmayT link = true) :
    pstepE (sT ph ((x.length : Int) + 1) name link) (padB (x ++ [0])) = .ok (if ph = 1 then sA x link else sA name x, []) := by
  obtain ⟨hx0, hx3⟩ := ltext_ne hx
  have hx1 := len_pos hx0
  have hin : inR ((x.length : Int) + 1) 2 301 = true := by unfold inR; simp; omega
  have hl : (x ++ [0]).length ≤ 512 := by rw [List.length_append, List.length_singleton]; omega
  have e1 : ((x.length : Int) + 1).toNat = (x ++ [0]).length := by rw [List.length_append, List.length_singleton]; omega
  unfold pstepE
  rw [if_pos ⟨may_T hp h0 hin h1 h2, padB_length _⟩, if_neg (show ¬ (sT ph ((x.length : Int) + 1) name link).phase = 0 by show ¬ ph = 0; omega), if_pos (show (sT ph ((x.length : Int) + 1) name link).phase = 1 ∨ (sT ph ((x.length : Int) + 1) name link).phase = 2 from hp)]
  unfold pname
  have e2 : (padB (x ++ [0])).take (sT ph ((x.length : Int) + 1) name link).size.toNat = x ++ [0] := by
    show (padB (x ++ [0])).take ((x.length : Int) + 1).toNat = _
    rw [e1, padB_take hl]
  have e3 : (padB (x ++ [0])).drop (sT ph ((x.length : Int) + 1) name link).size.toNat = zeros (512 - (x ++ [0]).length) := by
    show (padB (x ++ [0])).drop ((x.length : Int) + 1).toNat = _
    rw [e1, padB_drop hl]
  have e4 : cutZ (x ++ [0]) = (x, true) := by
    unfold cutZ
    rw [List.getLast?_concat, if_pos rfl, List.dropLast_concat]
  rw [e2, e3, e4, zeros_none, hx]
  rcases hp with rfl | rfl <;> rfl
theorem one_noData {n : Nd} (h : One n) : one (noData n) = true := by
  refine one_iff.2 ⟨?_, h.path, h.mode, h.uid, h.gid, h.mtime⟩
  rcases kind_cases h.kind with ⟨a, b, _⟩ | ⟨a, b1, b2, b3, b4, _, b5⟩ | ⟨a, b, _⟩ | ⟨a, b, _⟩
  · unfold kindOk; rw [if_pos (show (noData n).kind = 48 from a)]
    show (n.link == [] && decide (([] : List UInt8).length ≤ 4000)) = true
    rw [b]; rfl
  · unfold kindOk
    rw [if_neg (show ¬ (noData n).kind = 48 by show ¬ n.kind = 48; rw [a]; decide), if_pos (show (noData n).kind = 49 from a)]
    show ((n.mode == 0 && n.uid == 0 && n.gid == 0 && n.mtime == 0 && ([] : List UInt8) == []) && pmay n.link) = true
    rw [b1, b2, b3, b4, b5]; rfl
  · unfold kindOk
    rw [if_neg (show ¬ (noData n).kind = 48 by show ¬ n.kind = 48; rw [a]; decide), if_neg (show ¬ (noData n).kind = 49 by show ¬ n.kind = 49; rw [a]; decide), if_pos (show (noData n).kind = 50 from a)]
    show (ltext n.link && ([] : List UInt8) == []) = true
    rw [b]; rfl
  · unfold kindOk
    rw [if_neg (show ¬ (noData n).kind = 48 by show ¬ n.kind = 48; rw [a]; decide), if_neg (show ¬ (noData n).kind = 49 by show ¬ n.kind = 49; rw [a]; decide), if_neg (show ¬ (noData n).kind = 50 by show ¬ n.kind = 50; rw [a]; decide), if_pos (show (noData n).kind = 53 from a)]
    show (n.link == [] && ([] : List UInt8) == []) = true
    rw [b]; rfl
end Go.Proofs.YtldhcknjpmbgnaaGreatDoor.Rk
/- A parser, and a node's blocks: plain Lean. -/
namespace Go.Proofs.YtldhcknjpmbgnaaGreatDoor.Rk
open Go.RowKit
set_option linter.unusedVariables false
set_option linter.unusedSimpArgs false
set_option maxRecDepth 100000

theorem join_split {p : List UInt8} (h : pmay p = true) (h2 : (psplit p).2.2 = true) : joinP (psplit p).1 (psplit p).2.1 = p := by
  rcases psplit_cases h with ⟨_, e⟩ | ⟨_, e⟩ | ⟨_, a, b, hp, e, _, _, _⟩
  · rw [e]; rfl
  · rw [e] at h2; cases h2
  · rw [e]
    unfold joinP
    rw [if_neg ?_]
    · exact hp.symm
    · rintro rfl
      have := pmay_parts h [] (by rw [hp]; show [] ∈ pparts (47 :: b); rw [pparts_cons, if_pos rfl]; exact List.mem_cons_self)
      cases this
def nmOf (n : Nd) : List UInt8 := if (lneeds n).1 = true then n.path else []
def lkOf (n : Nd) : List UInt8 := if (lneeds n).2 = true then n.link else []
theorem lk_long {n : Nd} (h : One n) (hl : (lneeds n).2 = true) : ltext n.link = true ∧ 100 < n.link.length := by
  have h1 : 100 < n.link.length := by
    unfold lneeds at hl
    exact of_decide_eq_true hl
  obtain ⟨h2, h3⟩ := kind_link h.kind
  refine ⟨ltext_iff.2 ⟨?_, h2, h3⟩, h1⟩
  rintro e; rw [e] at h1; simp at h1
theorem nm_long {n : Nd} (h : One n) (hl : (lneeds n).1 = true) : ltext n.path = true ∧ (psplit n.path).2.2 = false := by
  rw [needs_name h.path] at hl
  exact ⟨ltext_iff.2 ⟨pmay_ne h.path, pmay_len h.path, pmay_zero h.path⟩, by simpa using hl⟩
theorem nmOf_may {n : Nd} (h : One n) : lmayT (nmOf n) = true := by
  unfold nmOf
  split
  · rename_i hl; exact lmayT_of (nm_long h hl).1
  · rfl
theorem lkOf_may {n : Nd} (h : One n) : lmayT (lkOf n) = true := by
  unfold lkOf
  split
  · rename_i hl; exact lmayT_of (lk_long h hl).1
  · rfl
theorem pnodeN_eq {n : Nd} (h : One n) : pnodeN (sA (nmOf n) (lkOf n)) (ehead n) = noData n := by
  have hp : (if nmOf n = [] then joinP (ehead n).pre (ehead n).name else nmOf n) = n.path := by
    unfold nmOf
    by_cases hl : (lneeds n).1 = true
    · rw [if_pos hl, if_neg (pmay_ne h.path)]
    · rw [if_neg hl, if_pos rfl]
      have e : (ehead n).name = (psplit n.path).2.1 := by show (if (lneeds n).1 = true then _ else _) = _; rw [if_neg hl]
      rw [e]
      rw [needs_name h.path] at hl
      exact join_split h.path (by simpa using hl)
  have hk : (if lkOf n = [] then (ehead n).link else lkOf n) = n.link := by
    unfold lkOf
    by_cases hl : (lneeds n).2 = true
    · rw [if_pos hl, if_neg (ltext_ne (lk_long h hl).1).1]
    · rw [if_neg hl, if_pos rfl]
      have h1 : ¬ 100 < n.link.length := by
        intro h1; apply hl
        unfold lneeds
        exact decide_eq_true h1
      exact short_le (by omega)
  unfold pnodeN
  show (⟨if nmOf n = [] then joinP (ehead n).pre (ehead n).name else nmOf n, if lkOf n = [] then (ehead n).link else lkOf n, _, _, _, _, _, _⟩ : Nd) = _
  rw [hp, hk]; rfl
theorem begins_short (s : List UInt8) : begins (short s) s = true := by unfold begins short; simp
/-- A node's header. -/
theorem step_head {n : Nd} (h : One n) : pstepE (sA (nmOf n) (lkOf n)) ((hput (ehead n)).getD []) = .ok (if n.data.length = 0 then (ps0, [evNode (noData n), evOver]) else (sD (noData n) n.data.length n.data.length, [evNode (noData n)])) := by
  have hF := ehead_fits h
  have hg := hget_put hF (ehead_R h)
  have hty : (ehead n).ty = n.kind := rfl
  unfold pstepE
  rw [if_pos ⟨may_A (nmOf_may h) (lkOf_may h), block512 hF⟩, if_pos (show (sA (nmOf n) (lkOf n)).phase = 0 from rfl)]
  unfold phead
  rw [hg, if_neg (show ¬ (ehead n, (0 : Int)).2 = 4 from (by decide : ¬ (0 : Int) = 4))]
  have hm : must (((ehead n, (0 : Int)).2) == 0) ((ehead n, (0 : Int)).2) = .ok () := rfl
  rw [hm]
  show (if (ehead n).ty = 76 then _ else if (ehead n).ty = 75 then _ else if (ehead n).ty = 77 ∨ (ehead n).ty = 86 then _ else pnode (sA (nmOf n) (lkOf n)) (ehead n)) = _
  rw [hty]
  have hk := kind_ty h.kind
  rw [if_neg (by rcases hk with e | e | e | e <;> rw [e] <;> decide), if_neg (by rcases hk with e | e | e | e <;> rw [e] <;> decide), if_neg (by rcases hk with e | e | e | e <;> rw [e] <;> decide)]
  unfold pnode
  have m1 : ((sA (nmOf n) (lkOf n)).name == [] || ((ehead n).pre == [] && begins (ehead n).name (sA (nmOf n) (lkOf n)).name)) = true := by
    show (nmOf n == [] || ((ehead n).pre == [] && begins (ehead n).name (nmOf n))) = true
    unfold nmOf
    by_cases hl : (lneeds n).1 = true
    · rw [if_pos hl]
      obtain ⟨_, h2⟩ := nm_long h hl
      have e1 : (ehead n).name = short n.path := by show (if (lneeds n).1 = true then _ else _) = _; rw [if_pos hl]
      have e2 : (ehead n).pre = [] := by
        show (psplit n.path).1 = []
        rcases psplit_cases h.path with ⟨_, e⟩ | ⟨_, e⟩ | ⟨_, a, b, hp, e, _, _, _⟩
        · rw [e]
        · rw [e]
        · rw [e] at h2; cases h2
      rw [e1, e2, begins_short]; simp
    · rw [if_neg hl]; rfl
  have m2 : ((sA (nmOf n) (lkOf n)).link == [] || begins (ehead n).link (sA (nmOf n) (lkOf n)).link) = true := by
    show (lkOf n == [] || begins (short n.link) (lkOf n)) = true
    unfold lkOf
    by_cases hl : (lneeds n).2 = true
    · rw [if_pos hl, begins_short]; simp
    · rw [if_neg hl]; rfl
  have m3 : (one (noData n) && decide ((ehead n).size ≤ if (noData n).kind = 48 then 4000 else 0)) = true := by
    rw [one_noData h]
    show (true && decide ((n.data.length : Int) ≤ if n.kind = 48 then 4000 else 0)) = true
    rw [Bool.true_and, decide_eq_true_eq]
    rcases kind_cases h.kind with ⟨a, _, b⟩ | ⟨a, _, _, _, _, b, _⟩ | ⟨a, _, b⟩ | ⟨a, _, b⟩
    · rw [if_pos a]; omega
    · rw [if_neg (by rw [a]; decide), b]; simp
    · rw [if_neg (by rw [a]; decide), b]; simp
    · rw [if_neg (by rw [a]; decide), b]; simp
  rw [pnodeN_eq h, m1, m2, m3, show pmay (noData n).path = true from h.path]
  show Except.ok (if (n.data.length : Int) = 0 then (ps0, [evNode (noData n), evOver]) else (⟨3, noData n, n.data.length, n.data.length, [], [], []⟩, [evNode (noData n)])) = _
  by_cases hd : n.data.length = 0
  · rw [if_pos (by omega), if_pos hd]
  · rw [if_neg (by omega), if_neg hd]; rfl

/-! ### a node's bytes -/
def dataEvs (s : List UInt8) : List Ev := if h : s = [] then [] else evData (s.take 512) :: dataEvs (s.drop 512)
  termination_by s.length
  decreasing_by
    have := List.length_pos_iff.2 h
    rw [List.length_drop]; omega
theorem dataEvs_nil : dataEvs [] = [] := by rw [dataEvs, dif_pos rfl]
theorem dataEvs_cons {s : List UInt8} (h : s ≠ []) : dataEvs s = evData (s.take 512) :: dataEvs (s.drop 512) := by rw [dataEvs, dif_neg h]
theorem step_data {n : Nd} {size : Int} {d : List UInt8} (hk : n.kind = 48) (hd : n.data = []) (ho : one n = true) (hs : size ≤ 4000) (h0 : d ≠ []) (h1 : (d.length : Int) ≤ size) (h2 : (size - d.length) % 512 = 0) :
    pstepE (sD n size d.length) (padB d) = .ok (if d.drop 512 = [] then (ps0, [evData (d.take 512), evOver]) else (sD n size ((d.drop 512).length : Nat), [evData (d.take 512)])) := by
  have hl := len_pos h0
  unfold pstepE
  rw [if_pos ⟨may_D hk hd ho ⟨by omega, hs⟩ ⟨by omega, h1⟩ h2, padB_length d⟩, if_neg (show ¬ (sD n size d.length).phase = 0 from (by decide : ¬ (3 : Int) = 0)), if_neg (show ¬ ((sD n size d.length).phase = 1 ∨ (sD n size d.length).phase = 2) from (by decide : ¬ ((3 : Int) = 1 ∨ (3 : Int) = 2))), if_pos (show (sD n size d.length).phase = 3 from rfl)]
  unfold pdata
  have e1 : (padB d).take (min (sD n size d.length).left 512).toNat = d.take 512 := by
    show (padB d).take (min (d.length : Int) 512).toNat = d.take 512
    by_cases h : d.length ≤ 512
    · have e : (min (d.length : Int) 512).toNat = d.length := by omega
      rw [e, padB_take h, List.take_of_length_le h]
    · have e : (min (d.length : Int) 512).toNat = 512 := by omega
      rw [e]
      unfold padB
      rw [List.take_append_of_le_length (by rw [List.length_take]; omega), List.take_take]; simp
  have e2 : (sD n size d.length).left - min (sD n size d.length).left 512 = ((d.drop 512).length : Nat) := by
    show (d.length : Int) - min (d.length : Int) 512 = ((d.drop 512).length : Nat)
    rw [List.length_drop]; omega
  rw [e1, e2]
  by_cases h : d.drop 512 = []
  · rw [if_pos h, if_pos (by rw [h]; rfl)]
  · rw [if_neg h, if_neg (by have := len_pos h; omega)]; rfl
theorem steps_data {n : Nd} {size : Int} (hk : n.kind = 48) (hd : n.data = []) (ho : one n = true) (hs : size ≤ 4000) : ∀ (k : Nat) (d : List UInt8), d.length ≤ k → d ≠ [] → (d.length : Int) ≤ size → (size - d.length) % 512 = 0 →
    Steps (sD n size d.length) (cutB d) ps0 (dataEvs d ++ [evOver])
  | 0, d, hk', h0, _, _ => absurd (List.length_eq_zero_iff.1 (by omega)) h0
  | k + 1, d, hk', h0, h1, h2 => by
    have hst := step_data hk hd ho hs h0 h1 h2
    have hl := len_pos h0
    rw [cutB_cons h0, dataEvs_cons h0]
    by_cases h : d.drop 512 = []
    · rw [if_pos h] at hst
      rw [h, cutB_nil, dataEvs_nil]
      exact Steps.one hst
    · rw [if_neg h] at hst
      have ih := steps_data hk hd ho hs k (d.drop 512) (by rw [List.length_drop]; omega) h (by rw [List.length_drop]; omega) (by have := len_pos h; rw [List.length_drop] at this ⊢; omega)
      show Steps _ _ _ ([evData (d.take 512)] ++ (dataEvs (d.drop 512) ++ [evOver]))
      exact Steps.cons hst ih
theorem pre_data {n : Nd} {size : Int} (hk : n.kind = 48) (hd : n.data = []) (ho : one n = true) (hs : size ≤ 4000) : ∀ (j : Nat) (d : List UInt8), j < (cutB d).length → (d.length : Int) ≤ size → (size - d.length) % 512 = 0 →
    ∃ e, Steps (sD n size d.length) ((cutB d).take j) (sD n size ((d.length : Int) - 512 * j)) e
  | 0, d, _, _, _ => ⟨[], by rw [List.take_zero]; simpa using Steps.nil _⟩
  | j + 1, d, hj, h1, h2 => by
    have h0 : d ≠ [] := by rintro rfl; rw [cutB_nil] at hj; simp at hj
    have hst := step_data hk hd ho hs h0 h1 h2
    rw [cutB_cons h0, List.length_cons] at hj
    have h : d.drop 512 ≠ [] := by intro e; rw [e, cutB_nil] at hj; simp at hj
    rw [if_neg h] at hst
    have h5 := len_pos h
    have hdl : (d.drop 512).length = d.length - 512 := List.length_drop
    obtain ⟨e, he⟩ := pre_data hk hd ho hs j (d.drop 512) (by omega) (by omega) (by omega)
    rw [cutB_cons h0, List.take_succ_cons]
    have e5 : (((d.drop 512).length : Nat) : Int) - 512 * (j : Nat) = (d.length : Int) - 512 * ((j + 1 : Nat) : Int) := by omega
    rw [e5] at he
    exact ⟨_, Steps.cons hst he⟩

/-! ### a node -/
def Pre (s : Ps) (l : List (List UInt8)) (Q : Ps → Prop) : Prop := ∀ j, j ≤ l.length → ∃ t e, Steps s (l.take j) t e ∧ Q t
theorem Pre.nil {s : Ps} {Q : Ps → Prop} (h : Q s) : Pre s [] Q := fun j hj => ⟨s, [], by simpa using Steps.nil s, h⟩
theorem Pre.append {s t : Ps} {l m : List (List UInt8)} {e : List Ev} {Q : Ps → Prop} (hs : Steps s l t e) (h : Pre s l Q) (k : Pre t m Q) : Pre s (l ++ m) Q := fun j hj => by
  by_cases hl : j ≤ l.length
  · rw [List.take_append_of_le_length hl]; exact h j hl
  · rw [List.take_append, List.take_of_length_le (by omega)]
    obtain ⟨u, f, h1, h2⟩ := k (j - l.length) (by rw [List.length_append] at hj; omega)
    exact ⟨u, _, hs.trans h1, h2⟩
theorem lputB_yes {k : UInt8} {x : List UInt8} (hk : k = 75 ∨ k = 76) (hx : ltext x = true) : (lputB k x).getD [] = [(hput (longHd k x)).getD [], padB (x ++ [0])] := by
  unfold lputB
  have h1 : ((k == 75 || k == 76) && ltext x) = true := by rw [hx]; rcases hk with rfl | rfl <;> rfl
  rw [if_pos h1, Option.getD_some, cutB_short (by simp) (by have := ltext_ne hx; rw [List.length_append]; simp; omega)]
theorem steps_long {k : UInt8} {x name link : List UInt8} (hk : k = 75 ∨ k = 76) (hx : ltext x = true) (h0 : (if k = 75 then link else name) = []) (h1 : lmayT name = true) (h2 : lmayT link = true) :
    Steps (sA name link) ((lputB k x).getD []) (if k = 75 then sA name x else sA x link) [] ∧ Pre (sA name link) ((lputB k x).getD []) (fun s => s.phase ≠ 3) := by
  rw [lputB_yes hk hx]
  have a := step_long hk hx h0 h1 h2
  have b : pstepE (sT (if k = 75 then 2 else 1) ((x.length : Int) + 1) name link) (padB (x ++ [0])) = .ok (if k = 75 then sA name x else sA x link, []) := by
    rcases hk with rfl | rfl
    · exact step_text (ph := 2) (.inr rfl) hx (by simpa using h0) h1 h2
    · exact step_text (ph := 1) (.inl rfl) hx (by simpa using h0) h1 h2
  have S : Steps (sA name link) [(hput (longHd k x)).getD [], padB (x ++ [0])] (if k = 75 then sA name x else sA x link) [] := Steps.cons a (Steps.one b)
  refine ⟨S, fun j hj => ?_⟩
  match j, hj with
  | 0, _ => exact ⟨_, _, Steps.nil _, by show (0 : Int) ≠ 3; decide⟩
  | 1, _ =>
    refine ⟨_, _, Steps.one a, ?_⟩
    rcases hk with rfl | rfl
    · show (if (75 : UInt8) = 75 then (2 : Int) else 1) ≠ 3
      decide
    · show (if (76 : UInt8) = 75 then (2 : Int) else 1) ≠ 3
      decide
  | 2, _ => exact ⟨_, _, S, by rcases hk with rfl | rfl <;> (show (0 : Int) ≠ 3; decide)⟩
theorem steps_ahead {n : Nd} (h : One n) : Steps ps0 (aheadB n) (sA (nmOf n) (lkOf n)) [] ∧ Pre ps0 (aheadB n) (fun s => s.phase ≠ 3) := by
  unfold aheadB
  have p1 : Steps ps0 (if (lneeds n).2 = true then (lputB 75 n.link).getD [] else []) (sA [] (lkOf n)) [] ∧ Pre ps0 (if (lneeds n).2 = true then (lputB 75 n.link).getD [] else []) (fun s => s.phase ≠ 3) := by
    unfold lkOf
    by_cases hl : (lneeds n).2 = true
    · rw [if_pos hl, if_pos hl]
      exact steps_long (name := []) (link := []) (.inl rfl) (lk_long h hl).1 rfl rfl rfl
    · rw [if_neg hl, if_neg hl]
      exact ⟨Steps.nil _, Pre.nil (by decide)⟩
  have p2 : Steps (sA [] (lkOf n)) (if (lneeds n).1 = true then (lputB 76 n.path).getD [] else []) (sA (nmOf n) (lkOf n)) [] ∧ Pre (sA [] (lkOf n)) (if (lneeds n).1 = true then (lputB 76 n.path).getD [] else []) (fun s => s.phase ≠ 3) := by
    unfold nmOf
    by_cases hl : (lneeds n).1 = true
    · rw [if_pos hl, if_pos hl]
      exact steps_long (name := []) (link := lkOf n) (.inr rfl) (nm_long h hl).1 rfl rfl (lkOf_may h)
    · rw [if_neg hl, if_neg hl]
      exact ⟨Steps.nil _, Pre.nil (by show (0 : Int) ≠ 3; decide)⟩
  exact ⟨p1.1.trans p2.1, Pre.append p1.1 p1.2 p2.2⟩
def nodeEvs (n : Nd) : List Ev := evNode (noData n) :: (dataEvs n.data ++ [evOver])
theorem eput_yes {n : Nd} (h : One n) : eput n = aheadB n ++ [(hput (ehead n)).getD []] ++ cutB n.data := by unfold eput; rw [if_pos (one_iff.2 h)]
theorem edata_yes {n : Nd} (h : One n) : edata n = (cutB n.data).length := by unfold edata; rw [if_pos (one_iff.2 h), cutB_len]
theorem data_file {n : Nd} (h : One n) (hd : n.data ≠ []) : n.kind = 48 := by
  rcases kind_cases h.kind with ⟨a, _, b⟩ | ⟨a, _, _, _, _, b, _⟩ | ⟨a, _, b⟩ | ⟨a, _, b⟩
  · exact a
  · exact absurd b hd
  · exact absurd b hd
  · exact absurd b hd
/-- A node's blocks are read as the node. -/
theorem steps_node {n : Nd} (h : One n) : Steps ps0 (eput n) ps0 (nodeEvs n) := by
  rw [eput_yes h]
  have hs := step_head h
  by_cases hd : n.data.length = 0
  · have hd' := List.length_eq_zero_iff.1 hd
    rw [if_pos hd] at hs
    have h1 := (steps_ahead h).1.trans (Steps.one hs)
    rw [hd', cutB_nil, List.append_nil]
    unfold nodeEvs
    rw [hd', dataEvs_nil]
    exact h1
  · have hd' : n.data ≠ [] := fun e => hd (by rw [e]; rfl)
    rw [if_neg hd] at hs
    have h1 := (steps_ahead h).1.trans (Steps.one hs)
    have h2 := steps_data (n := noData n) (size := n.data.length) (show (noData n).kind = 48 from (data_file h hd' : n.kind = 48)) rfl (one_noData h) (by have := kind_data h.kind; omega) n.data.length n.data (Nat.le_refl _) hd' (Int.le_refl _) (by simp)
    exact h1.trans h2
/-- Where one is in the midst of a node. -/
theorem pre_node {n : Nd} (h : One n) {j : Nat} (hj : j < (eput n).length) : ∃ s e, Steps ps0 ((eput n).take j) s e ∧
    ((j < (eput n).length - edata n ∧ s.phase ≠ 3) ∨ ((eput n).length - edata n ≤ j ∧ n.kind = 48 ∧ s = sD (noData n) n.data.length ((n.data.length : Int) - 512 * ((j - ((eput n).length - edata n) : Nat) : Int)))) := by
  have hlen : (eput n).length - edata n = (aheadB n).length + 1 := by
    rw [eput_yes h, edata_yes h]; simp only [List.length_append, List.length_cons, List.length_nil]; omega
  rw [hlen]
  have hA := steps_ahead h
  by_cases h1 : j ≤ (aheadB n).length
  · obtain ⟨s, e, h2, h3⟩ := hA.2 j h1
    refine ⟨s, e, ?_, .inl ⟨by omega, h3⟩⟩
    rw [eput_yes h, List.append_assoc, List.take_append_of_le_length h1]; exact h2
  · have h2 : (aheadB n).length + 1 ≤ j := by omega
    have hd' : n.data ≠ [] := by
      intro e
      rw [eput_yes h, e, cutB_nil] at hj
      simp only [List.length_append, List.length_cons, List.length_nil] at hj
      omega
    have hd : ¬ n.data.length = 0 := by have := len_pos hd'; omega
    have hs := step_head h
    rw [if_neg hd] at hs
    have h3 := hA.1.trans (Steps.one hs)
    obtain ⟨e, he⟩ := pre_data (n := noData n) (size := n.data.length) (show (noData n).kind = 48 from (data_file h hd' : n.kind = 48)) rfl (one_noData h) (by have := kind_data h.kind; omega) (j - ((aheadB n).length + 1)) n.data (by
      rw [eput_yes h] at hj
      simp only [List.length_append, List.length_cons, List.length_nil] at hj
      omega) (Int.le_refl _) (by simp)
    refine ⟨_, [] ++ [evNode (noData n)] ++ e, ?_, .inr ⟨h2, data_file h hd', rfl⟩⟩
    rw [eput_yes h, List.take_append, List.take_of_length_le (by simp only [List.length_append, List.length_cons, List.length_nil]; omega)]
    have e6 : (aheadB n ++ [(hput (ehead n)).getD []]).length = (aheadB n).length + 1 := by simp
    rw [e6]
    exact h3.trans he
end Go.Proofs.YtldhcknjpmbgnaaGreatDoor.Rk
/- A parser, and a tree's stream: plain Lean. -/
namespace Go.Proofs.YtldhcknjpmbgnaaGreatDoor.Rk
open Go.RowKit
set_option linter.unusedVariables false
set_option linter.unusedSimpArgs false
set_option maxRecDepth 100000

def flatE (t : List Nd) : List (List UInt8) := (t.map eput).flatten
theorem flatE_cons (n : Nd) (t : List Nd) : flatE (n :: t) = eput n ++ flatE t := rfl
theorem steps_flat : ∀ (t : List Nd), (∀ n ∈ t, One n) → Steps ps0 (flatE t) ps0 ((t.map nodeEvs).flatten)
  | [], _ => Steps.nil _
  | n :: t, h => by
    rw [flatE_cons]
    exact (steps_node (h n List.mem_cons_self)).trans (steps_flat t (fun m hm => h m (List.mem_cons_of_mem _ hm)))
theorem hget_zero : hget (zeros 512) = (hd0, 4) := by
  unfold hget
  have h : isZero (zeros 512) = true := by
    unfold isZero
    rw [List.all_eq_true]
    intro x hx
    rw [(List.mem_replicate.1 hx).2]; rfl
  rw [if_neg (by rw [zeros512]; decide), if_pos h]
theorem step_zero1 : pstepE ps0 (zeros 512) = .ok (sZ 4, []) := by
  unfold pstepE
  rw [if_pos ⟨(may_A lmayT_nil lmayT_nil : psMay ps0 = true), zeros512⟩, if_pos (show ps0.phase = 0 from rfl)]
  unfold phead
  rw [hget_zero]
  rfl
theorem step_zero2 : pstepE (sZ 4) (zeros 512) = .ok (sZ 5, []) := by
  unfold pstepE
  rw [if_pos ⟨may_Z (.inl rfl), zeros512⟩, if_neg (show ¬ (sZ 4).phase = 0 from (by decide : ¬ (4 : Int) = 0)), if_neg (show ¬ ((sZ 4).phase = 1 ∨ (sZ 4).phase = 2) from (by decide : ¬ ((4 : Int) = 1 ∨ (4 : Int) = 2))), if_neg (show ¬ (sZ 4).phase = 3 from (by decide : ¬ (4 : Int) = 3)), if_pos (show (sZ 4).phase = 4 from rfl)]
  unfold pzero
  rw [zeros_none]; rfl
theorem steps_zeros : Steps ps0 [zeros 512, zeros 512] (sZ 5) [] := Steps.cons step_zero1 (Steps.one step_zero2)
theorem tmay_One {t : List Nd} (h : tmay t = true) : ∀ n ∈ t, One n := fun n hn => one_iff.1 (tmay_one h n hn)
theorem sall_yes {t : List Nd} (h : tmay t = true) : sall t = flatE t ++ [zeros 512, zeros 512] := by unfold sall; rw [if_pos h]; rfl
/-- A tree's stream is read to its end. -/
theorem steps_sall {t : List Nd} (h : tmay t = true) : Steps ps0 (sall t) (sZ 5) ((t.map nodeEvs).flatten) := by
  rw [sall_yes h]
  have := (steps_flat t (tmay_One h)).trans steps_zeros
  rwa [List.append_nil] at this
theorem step_live {s t : Ps} {b : List UInt8} {e : List Ev} (h : pstepE s b = .ok (t, e)) : psMay s = true ∧ s.phase ≠ 5 := by
  unfold pstepE at h
  split at h
  · rename_i h1
    refine ⟨h1.1, fun h5 => ?_⟩
    rw [h5, if_neg (by decide), if_neg (by decide), if_neg (by decide), if_neg (by decide)] at h
    cases h
  · cases h
theorem steps_live {s u : Ps} {b : List UInt8} {l : List (List UInt8)} {e : List Ev} (h : Steps s (b :: l) u e) : psMay s = true ∧ s.phase ≠ 5 := by
  cases h with
  | cons h1 _ => exact step_live h1

/-! ### where one is -/
theorem flat_at : ∀ (t : List Nd) (pos : Nat), pos < (flatE t).length → ∃ (k j : Nat) (n : Nd), t[k]? = some n ∧ j < (eput n).length ∧ pos = (flatE (t.take k)).length + j ∧ (flatE t).take pos = flatE (t.take k) ++ (eput n).take j
  | [], pos, h => by simp [flatE] at h
  | n :: t, pos, h => by
    by_cases hp : pos < (eput n).length
    · exact ⟨0, pos, n, rfl, hp, by simp [flatE], by rw [flatE_cons, List.take_append_of_le_length (by omega)]; rfl⟩
    · rw [flatE_cons, List.length_append] at h
      obtain ⟨k, j, m, h1, h2, h3, h4⟩ := flat_at t (pos - (eput n).length) (by omega)
      refine ⟨k + 1, j, m, by simpa using h1, h2, ?_, ?_⟩
      · rw [List.take_succ_cons, flatE_cons, List.length_append]; omega
      · rw [flatE_cons, List.take_append, List.take_of_length_le (by omega), List.take_succ_cons, flatE_cons, List.append_assoc, h4]
theorem stGo_at : ∀ (l : List Nd) (p k : Nat), k < l.length → (startsGo p l)[k]? = some (p + (flatE (l.take (k + 1))).length)
  | [], p, k, h => by simp at h
  | n :: l, p, 0, _ => by simp [startsGo, flatE]
  | n :: l, p, k + 1, h => by
    have := stGo_at l (p + (eput n).length) k (by simpa using h)
    unfold startsGo
    rw [List.getElem?_cons_succ, this, List.take_succ_cons, flatE_cons, List.length_append, Nat.add_assoc]
theorem stGo_le : ∀ (l : List Nd) (p k : Nat), ∀ y ∈ (p :: startsGo p l).take (k + 1), y ≤ p + (flatE (l.take k)).length
  | l, p, 0, y, hy => by simp at hy; omega
  | [], p, k + 1, y, hy => by simp [startsGo] at hy; omega
  | n :: l, p, k + 1, y, hy => by
    rw [List.take_succ_cons] at hy
    rcases List.mem_cons.1 hy with hy | hy
    · omega
    · unfold startsGo at hy
      have := stGo_le l (p + (eput n).length) k y hy
      rw [List.take_succ_cons, flatE_cons, List.length_append]; omega
theorem stGo_all : ∀ (l : List Nd) (p : Nat), ∀ y ∈ (p :: startsGo p l), y ≤ p + (flatE l).length := fun l p y hy => by
  have h : (p :: startsGo p l).take (l.length + 1) = p :: startsGo p l := List.take_of_length_le (by
    have : ∀ (l : List Nd) (p : Nat), (startsGo p l).length = l.length := fun l => by
      induction l with
      | nil => intro p; rfl
      | cons n l ih => intro p; unfold startsGo; simp [ih]
    simp [this])
  have := stGo_le l p l.length y (by rw [h]; exact hy)
  rwa [List.take_length] at this
theorem flat_take_le (t : List Nd) (k : Nat) (n : Nd) (h : t[k]? = some n) : (flatE (t.take (k + 1))).length = (flatE (t.take k)).length + (eput n).length := by
  have hlt := (List.getElem?_eq_some_iff.1 h).1
  rw [List.take_succ_eq_append_getElem hlt, (List.getElem?_eq_some_iff.1 h).2]
  simp [flatE]
theorem whereB_at {t : List Nd} (h : tmay t = true) {k j : Nat} {n : Nd} (hn : t[k]? = some n) (hj : j < (eput n).length) (hle : (flatE (t.take k)).length + j < (sall t).length) :
    whereB t (((flatE (t.take k)).length + j : Nat) : Int) = ((k : Int), max (-1) ((j : Int) - (eput n).length + edata n)) := by
  have hlt := (List.getElem?_eq_some_iff.1 hn).1
  have hs : starts t = 0 :: startsGo 0 t := by unfold starts; rw [if_pos h]
  have hx : (starts t)[k + 1]? = some ((flatE (t.take k)).length + (eput n).length) := by
    rw [hs, List.getElem?_cons_succ, stGo_at t 0 k hlt, flat_take_le t k n hn, Nat.zero_add]
  have hi : idxOf (((flatE (t.take k)).length + j : Nat) : Int) (starts t) = ((k + 1 : Nat) : Int) := idxOf_some hx (by omega) (fun y hy => by
    rw [hs] at hy
    have := stGo_le t 0 k y hy
    omega)
  rw [whereB_pos (by omega) (k := k) (by rw [hi]; omega) hn hx]
  congr 2
  omega
theorem whereB_end {t : List Nd} (h : tmay t = true) {pos : Nat} (h1 : (flatE t).length ≤ pos) (h2 : pos < (sall t).length) : whereB t (pos : Int) = ((t.length : Int), -1) := by
  refine whereB_neg (by omega) ?_
  rw [idxOf_none]
  · decide
  · intro x hx
    unfold starts at hx
    rw [if_pos h] at hx
    have := stGo_all t 0 x hx
    omega
theorem noData_file {n : Nd} (h : One n) (hk : n.kind = 48) : noData n = bareN n := by
  have hl : n.link = [] := by
    rcases kind_cases h.kind with ⟨_, b, _⟩ | ⟨a, _⟩ | ⟨a, _⟩ | ⟨a, _⟩
    · exact b
    · rw [hk] at a; exact absurd a (by decide)
    · rw [hk] at a; exact absurd a (by decide)
    · rw [hk] at a; exact absurd a (by decide)
  unfold noData bareN
  rw [hl, hk]
/-- What a parser is, at a place of a tree's stream. -/
theorem where_state {t : List Nd} (h : tmay t = true) {pos : Nat} (hp : pos < (sall t).length) : ∃ s e, Steps ps0 ((sall t).take pos) s e ∧ psMay s = true ∧ s.phase ≠ 5 ∧
    (((whereB t (pos : Int)).2 = -1 ∧ s.phase ≠ 3) ∨ ∃ (k j : Nat) (n : Nd), whereB t (pos : Int) = ((k : Int), (j : Int)) ∧ t[k]? = some n ∧ cmay n (512 * (j : Int)) = true ∧ s = sD (bareN n) n.data.length ((n.data.length : Int) - 512 * (j : Int))) := by
  obtain ⟨s, e, f, h1, h2, -⟩ := Steps.split (l := (sall t).take pos) (m := (sall t).drop pos) (by rw [List.take_append_drop]; exact steps_sall h)
  rw [List.drop_eq_getElem_cons hp] at h2
  obtain ⟨h3, h4⟩ := steps_live h2
  refine ⟨s, e, h1, h3, h4, ?_⟩
  clear h2 f
  by_cases hf : pos < (flatE t).length
  · obtain ⟨k, j, n, a1, a2, a3, a4⟩ := flat_at t pos hf
    have hO := tmay_One h n (List.mem_of_getElem? a1)
    obtain ⟨s', e', b1, b2⟩ := pre_node hO a2
    have hst : Steps ps0 ((sall t).take pos) s' (((t.take k).map nodeEvs).flatten ++ e') := by
      rw [sall_yes h, List.take_append_of_le_length (by omega), a4]
      exact (steps_flat (t.take k) (fun m hm => tmay_One h m (List.mem_of_mem_take hm))).trans b1
    obtain ⟨rfl, -⟩ := Steps.det h1 hst
    have hw := whereB_at h a1 a2 (by rw [← a3]; exact hp)
    rw [← a3] at hw
    have hed : edata n ≤ (eput n).length := by
      rw [eput_yes hO, edata_yes hO]; simp only [List.length_append]; omega
    rcases b2 with ⟨c1, c2⟩ | ⟨c1, c2, c3⟩
    · left
      rw [hw]
      refine ⟨?_, c2⟩
      show max (-1 : Int) _ = -1
      omega
    · right
      obtain ⟨jj, hjj⟩ : ∃ jj, j - ((eput n).length - edata n) = jj := ⟨_, rfl⟩
      have hw2 : whereB t (pos : Int) = ((k : Int), (jj : Int)) := by
        rw [hw]
        congr 1
        omega
      rw [hjj] at c3
      refine ⟨k, jj, n, hw2, a1, ?_, by rw [c3, noData_file hO c2]⟩
      obtain ⟨k', j', n', d1, d2, d3⟩ := whereB_may (t := t) (i := (pos : Int)) (by rw [hw2]; show (jj : Int) ≠ -1; omega)
      rw [hw2] at d1
      injection d1 with d1 d4
      obtain rfl : k = k' := by omega
      obtain rfl : jj = j' := by omega
      rw [a1] at d2
      injection d2 with d2
      subst d2
      exact d3
  · left
    rw [whereB_end h (by omega) hp]
    refine ⟨rfl, ?_⟩
    have hlen : (sall t).length = (flatE t).length + 2 := by rw [sall_yes h]; simp
    have hF := steps_flat t (tmay_One h)
    rcases (by omega : pos = (flatE t).length ∨ pos = (flatE t).length + 1) with e1 | e1
    · have hst : Steps ps0 ((sall t).take pos) ps0 ((t.map nodeEvs).flatten) := by
        rw [sall_yes h, e1, List.take_left]; exact hF
      obtain ⟨rfl, -⟩ := Steps.det h1 hst
      decide
    · have hst : Steps ps0 ((sall t).take pos) (sZ 4) ((t.map nodeEvs).flatten ++ []) := by
        have e2 : (sall t).take pos = flatE t ++ [zeros 512] := by
          rw [sall_yes h, e1, List.take_append, List.take_of_length_le (by omega)]
          congr 1
          rw [show (flatE t).length + 1 - (flatE t).length = 1 by omega]; rfl
        rw [e2]
        exact hF.trans (Steps.one step_zero1)
      obtain ⟨rfl, -⟩ := Steps.det h1 hst
      show (4 : Int) ≠ 3
      decide
end Go.Proofs.YtldhcknjpmbgnaaGreatDoor.Rk
/- A parser stays what may be: plain Lean. -/
namespace Go.Proofs.YtldhcknjpmbgnaaGreatDoor.Rk
open Go.RowKit
set_option linter.unusedVariables false
set_option linter.unusedSimpArgs false
set_option maxRecDepth 100000

theorem must_bind {α : Type} {b : Bool} {e : Int} {f : Unit → Except Int α} {x : α} (h : (must b e >>= f) = .ok x) : b = true ∧ f () = .ok x := by
  cases b with
  | false => cases h
  | true => exact ⟨rfl, h⟩
theorem nzB_iff {n : Nd} : nzB n = true ↔ n = nz := by
  unfold nzB
  simp only [Bool.and_eq_true, beq_iff_eq]
  constructor
  · rintro ⟨a, b, c, d, e, f, g, i⟩
    cases n
    simp only at a b c d e f g i
    subst a b c d e f g i
    rfl
  · rintro rfl
    exact ⟨rfl, rfl, rfl, rfl, rfl, rfl, rfl, rfl⟩
/-- What a state is that may be. -/
theorem psMay_cases {s : Ps} (h : psMay s = true) :
    (s = sA s.name s.link ∧ lmayT s.name = true ∧ lmayT s.link = true) ∨
    ((s.phase = 1 ∨ s.phase = 2) ∧ s = sT s.phase s.size s.name s.link ∧ (if s.phase = 2 then s.link else s.name) = [] ∧ inR s.size 2 301 = true ∧ lmayT s.name = true ∧ lmayT s.link = true) ∨
    (s = sD s.node s.size s.left ∧ s.node.kind = 48 ∧ s.node.data = [] ∧ one s.node = true ∧ 1 ≤ s.size ∧ s.size ≤ 4000 ∧ 1 ≤ s.left ∧ s.left ≤ s.size ∧ (s.size - s.left) % 512 = 0) ∨
    ((s.phase = 4 ∨ s.phase = 5) ∧ s = sZ s.phase) := by
  obtain ⟨ph, nd, sz, lf, tx, nm, lk⟩ := s
  unfold psMay at h
  dsimp only at h
  by_cases h0 : ph = 0
  · subst h0
    rw [if_pos rfl] at h
    unfold words at h
    simp only [Bool.and_eq_true, beq_iff_eq, nzB_iff] at h
    obtain ⟨⟨rfl, rfl, rfl, rfl⟩, h1, h2⟩ := h
    exact .inl ⟨rfl, h1, h2⟩
  · rw [if_neg h0] at h
    by_cases h1 : ph = 1 ∨ ph = 2
    · rw [if_pos h1] at h
      unfold words at h
      simp only [Bool.and_eq_true, beq_iff_eq, nzB_iff] at h
      obtain ⟨⟨rfl, rfl, rfl⟩, h2, h3, h4, h5⟩ := h
      exact .inr (.inl ⟨h1, rfl, h2, h3, h4, h5⟩)
    · rw [if_neg h1] at h
      by_cases h3 : ph = 3
      · subst h3
        rw [if_pos rfl] at h
        unfold inR at h
        simp only [Bool.and_eq_true, beq_iff_eq, decide_eq_true_eq] at h
        obtain ⟨⟨rfl, rfl, rfl⟩, a, b, c, ⟨d, e⟩, ⟨f, g⟩, i⟩ := h
        exact .inr (.inr (.inl ⟨rfl, a, b, c, d, e, f, g, i⟩))
      · rw [if_neg h3] at h
        by_cases h4 : ph = 4 ∨ ph = 5
        · rw [if_pos h4] at h
          simp only [Bool.and_eq_true, beq_iff_eq, nzB_iff] at h
          obtain ⟨rfl, rfl, rfl, rfl, rfl, rfl⟩ := h
          exact .inr (.inr (.inr ⟨h4, rfl⟩))
        · rw [if_neg h4] at h; cases h
theorem hget_size {b : List UInt8} (h : (hget b).2 = 0) : 0 ≤ (hget b).1.size := by
  have := hget_good h
  obtain ⟨x, hx⟩ := (hput_some this).1.size
  exact (put_iff.1 hx).1
theorem may_ps0 : psMay ps0 = true := may_A lmayT_nil lmayT_nil
theorem pnode_may {s t : Ps} {h : Hd} {e : List Ev} (hz : 0 ≤ h.size) (hs : pnode s h = .ok (t, e)) : psMay t = true := by
  unfold pnode at hs
  obtain ⟨_, hs⟩ := must_bind hs
  obtain ⟨_, hs⟩ := must_bind hs
  obtain ⟨_, hs⟩ := must_bind hs
  obtain ⟨h4, hs⟩ := must_bind hs
  simp only [Bool.and_eq_true, decide_eq_true_eq] at h4
  injection hs with hs
  by_cases h0 : h.size = 0
  · rw [if_pos h0] at hs
    injection hs with hs _
    rw [← hs]; exact may_ps0
  · rw [if_neg h0] at hs
    injection hs with hs _
    rw [← hs]
    have hk : (pnodeN s h).kind = 48 := by
      apply Classical.byContradiction
      intro hk
      rw [if_neg hk] at h4
      omega
    rw [if_pos hk] at h4
    exact may_D hk rfl h4.1 ⟨by omega, h4.2⟩ ⟨by omega, Int.le_refl _⟩ (by simp)
theorem ptext_may {s t : Ps} {h : Hd} {own : List UInt8} {ph : Int} {e : List Ev} (hA : s = sA s.name s.link) (h1 : lmayT s.name = true) (h2 : lmayT s.link = true) (hp : ph = 1 ∨ ph = 2) (ho : own = if ph = 2 then s.link else s.name) (hs : ptext s h own ph = .ok (t, e)) : psMay t = true := by
  unfold ptext at hs
  obtain ⟨h3, hs⟩ := must_bind hs
  obtain ⟨h4, hs⟩ := must_bind hs
  injection hs with hs
  injection hs with hs _
  have h3 : own = [] := by simpa using h3
  rw [Bool.and_eq_true] at h4
  have e1 : t = sT ph h.size s.name s.link := by rw [← hs, hA]; rfl
  rw [e1]
  exact may_T hp (by rw [← ho, h3]) h4.2 h1 h2
/-- What may be stays so. -/
theorem step_may {s t : Ps} {b : List UInt8} {e : List Ev} (h : pstepE s b = .ok (t, e)) : psMay t = true := by
  unfold pstepE at h
  split at h
  · rename_i h1
    obtain ⟨hm, hb⟩ := h1
    rcases psMay_cases hm with ⟨c1, c2, c3⟩ | ⟨c1, c2, c3, c4, c5, c6⟩ | ⟨c1, c2, c3, c4, c5, c6, c7, c8, c9⟩ | ⟨c1, c2⟩
    · have hp : s.phase = 0 := by rw [c1]; rfl
      rw [if_pos hp] at h
      unfold phead at h
      split at h
      · obtain ⟨h2, h⟩ := must_bind h
        injection h with h
        injection h with h _
        simp only [Bool.and_eq_true, beq_iff_eq] at h2
        have : t = sZ 4 := by rw [← h, c1, h2.1, h2.2]; rfl
        rw [this]; exact may_Z (.inl rfl)
      · obtain ⟨h2, h⟩ := must_bind h
        have h2 : (hget b).2 = 0 := by simpa using h2
        split at h
        · exact ptext_may c1 c2 c3 (.inl rfl) (by rw [if_neg (by decide)]) h
        · split at h
          · exact ptext_may c1 c2 c3 (.inr rfl) (by rw [if_pos rfl]) h
          · split at h
            · cases h
            · exact pnode_may (hget_size h2) h
    · rw [if_neg (by omega), if_pos c1] at h
      unfold pname at h
      obtain ⟨h2, h⟩ := must_bind h
      simp only [Bool.and_eq_true] at h2
      injection h with h
      have hl := lmayT_of h2.2.1
      by_cases hp : s.phase = 1
      · rw [if_pos hp] at h
        injection h with h _
        have : t = sA (cutZ (b.take s.size.toNat)).1 s.link := by rw [← h]; rw [c2]; rfl
        rw [this]; exact may_A hl c6
      · rw [if_neg hp] at h
        injection h with h _
        have : t = sA s.name (cutZ (b.take s.size.toNat)).1 := by rw [← h]; rw [c2]; rfl
        rw [this]; exact may_A c5 hl
    · have hp : s.phase = 3 := by rw [c1]; rfl
      rw [if_neg (by omega), if_neg (by omega), if_pos hp] at h
      unfold pdata at h
      injection h with h
      split at h
      · injection h with h _
        rw [← h]; exact may_ps0
      · injection h with h _
        have : t = sD s.node s.size (s.left - min s.left 512) := by rw [← h]; rw [c1]; rfl
        rw [this]
        exact may_D c2 c3 c4 ⟨c5, c6⟩ ⟨by omega, by omega⟩ (by omega)
    · rcases c1 with c1 | c1
      · rw [if_neg (by omega), if_neg (by omega), if_neg (by omega), if_pos c1] at h
        unfold pzero at h
        obtain ⟨_, h⟩ := must_bind h
        injection h with h
        injection h with h _
        have : t = sZ 5 := by rw [← h, c2, c1]; rfl
        rw [this]; exact may_Z (.inr rfl)
      · rw [if_neg (by omega), if_neg (by omega), if_neg (by omega), if_neg (by omega)] at h
        cases h
  · cases h
end Go.Proofs.YtldhcknjpmbgnaaGreatDoor.Rk
