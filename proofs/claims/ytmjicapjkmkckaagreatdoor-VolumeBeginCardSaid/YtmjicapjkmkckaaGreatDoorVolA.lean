/- Trees as blocks, as volumes: plain Lean: paths, long names, nodes, blocks. -/
import Derived.Test.YtmjicapjkmkckaaGreatDoorLabB
namespace Go.Proofs.YtmjicapjkmkckaaGreatDoor.Rk
open Go.RowKit
set_option linter.unusedVariables false
set_option linter.unusedSimpArgs false

/-! ### paths -/
/-- A path's parts. -/
def pparts : List UInt8 → List (List UInt8)
  | [] => [[]]
  | c :: l => if c = 47 then [] :: pparts l else match pparts l with
    | [] => [[c]]
    | x :: xs => (c :: x) :: xs
def oddP (s : List UInt8) : Bool := s == [] || (s == [46] || s == [46, 46])
def pmay (p : List UInt8) : Bool := (pparts p).all (fun s => !oddP s) && (decide (p.length ≤ 300) && !p.contains 0)
/-- What stands ahead of the first slash; what stands behind it. -/
def headP (p : List UInt8) : List UInt8 := p.takeWhile (· != 47)
def tailP (p : List UInt8) : List UInt8 := (p.dropWhile (· != 47)).drop 1
theorem pparts_cons (c : UInt8) (l : List UInt8) : pparts (c :: l) = if c = 47 then [] :: pparts l else match pparts l with
    | [] => [[c]]
    | x :: xs => (c :: x) :: xs := rfl
theorem pparts_ne : ∀ p, pparts p ≠ []
  | [] => by simp [pparts]
  | c :: l => by
    rw [pparts_cons]
    split
    · simp
    · split <;> simp
theorem pparts_slash : ∀ {p : List UInt8}, (47 : UInt8) ∈ p → pparts p = headP p :: pparts (tailP p)
  | [], h => by simp at h
  | c :: l, h => by
    rw [pparts_cons]
    by_cases hc : c = 47
    · subst hc
      have h1 : headP (47 :: l) = [] := by simp [headP]
      have h2 : tailP (47 :: l) = l := by simp [tailP]
      rw [if_pos rfl, h1, h2]
    · have hl : (47 : UInt8) ∈ l := by
        rcases List.mem_cons.1 h with h | h
        · exact absurd h.symm hc
        · exact h
      have h1 : headP (c :: l) = c :: headP l := by simp [headP, hc]
      have h2 : tailP (c :: l) = tailP l := by simp [tailP, hc]
      rw [if_neg hc, pparts_slash hl, h1, h2]
theorem pparts_none : ∀ {p : List UInt8}, (47 : UInt8) ∉ p → pparts p = [p]
  | [], _ => rfl
  | c :: l, h => by
    have hc : c ≠ 47 := fun e => h (by simp [e])
    rw [pparts_cons, if_neg hc, pparts_none (fun hl => h (by simp [hl]))]
theorem tailP_length {p : List UInt8} (h : (47 : UInt8) ∈ p) : (tailP p).length < p.length := by
  have h1 : p.dropWhile (· != 47) ≠ [] := by
    intro e
    have e1 := List.takeWhile_append_dropWhile (p := (· != 47)) (l := p)
    rw [e, List.append_nil] at e1
    have e2 := List.all_takeWhile (p := (· != 47)) (l := p)
    rw [e1, List.all_eq_true] at e2
    simpa using e2 47 h
  have h2 : (p.dropWhile (· != 47)).length ≤ p.length := (List.dropWhile_sublist _).length_le
  have h3 := List.length_pos_iff.2 h1
  unfold tailP
  rw [List.length_drop]
  omega

/-! ### blocks -/
/-- A text's first block. -/
def padB (s : List UInt8) : List UInt8 := s.take 512 ++ zeros (512 - s.length)
theorem padB_length (s : List UInt8) : (padB s).length = 512 := by
  unfold padB zeros
  rw [List.length_append, List.length_take, List.length_replicate]; omega
/-- A text's blocks. -/
def cutB (s : List UInt8) : List (List UInt8) := if h : s = [] then [] else padB s :: cutB (s.drop 512)
  termination_by s.length
  decreasing_by
    have := List.length_pos_iff.2 h
    rw [List.length_drop]; omega
def manyB (n : Nat) : Nat := if n < 1 then 0 else (n - 1) / 512 + 1
theorem cutB_nil : cutB [] = [] := by rw [cutB, dif_pos rfl]
theorem cutB_cons {s : List UInt8} (h : s ≠ []) : cutB s = padB s :: cutB (s.drop 512) := by rw [cutB, dif_neg h]
theorem cutB_length : ∀ (k : Nat) (s : List UInt8), s.length ≤ k → (cutB s).length = manyB s.length
  | 0, s, h => by
    have : s = [] := List.length_eq_zero_iff.1 (by omega)
    subst this; rw [cutB_nil]; rfl
  | k + 1, s, h => by
    by_cases hs : s = []
    · subst hs; rw [cutB_nil]; rfl
    · have h1 := List.length_pos_iff.2 hs
      rw [cutB_cons hs, List.length_cons, cutB_length k _ (by rw [List.length_drop]; omega), List.length_drop]
      unfold manyB
      split <;> split <;> omega
theorem cutB_blocks : ∀ (k : Nat) (s : List UInt8), s.length ≤ k → ∀ b ∈ cutB s, b.length = 512
  | 0, s, h => by
    have : s = [] := List.length_eq_zero_iff.1 (by omega)
    subst this; rw [cutB_nil]; simp
  | k + 1, s, h => by
    by_cases hs : s = []
    · subst hs; rw [cutB_nil]; simp
    · have h1 := List.length_pos_iff.2 hs
      rw [cutB_cons hs]
      intro b hb
      rcases List.mem_cons.1 hb with rfl | hb
      · exact padB_length s
      · exact cutB_blocks k _ (by rw [List.length_drop]; omega) b hb

/-! ### nodes -/
structure Nd where
  path : List UInt8
  link : List UInt8
  kind : UInt8
  mode : Int
  uid : Int
  gid : Int
  mtime : Int
  data : List UInt8
/-- The first place of a byte. -/
def idx (c : UInt8) (l : List UInt8) : Int := if c ∈ l then (l.takeWhile (· != c)).length else -1
/-- A path's prefix and name. -/
def psplit (p : List UInt8) : List UInt8 × List UInt8 × Bool :=
  if pmay p then
    if p.length ≤ 100 then ([], p, true)
    else
      let i := idx 47 (p.drop (p.length - 101))
      if i < 0 ∨ 155 < (p.length - 101 : Nat) + i then ([], [], false) else (p.take (p.length - 101 + i.toNat), p.drop (p.length - 101 + i.toNat + 1), true)
  else ([], [], false)
def short (s : List UInt8) : List UInt8 := s.take 100
def lneeds (n : Nd) : Bool × Bool := (!(psplit n.path).2.2 && pmay n.path, decide (100 < n.link.length))
def longHd (kind : UInt8) (s : List UInt8) : Hd := ⟨[46, 47, 46, 47, 64, 76, 111, 110, 103, 76, 105, 110, 107], [], [], 0, 0, 0, (s.length : Int) + 1, 0, kind, 0, 0⟩
def ltext (s : List UInt8) : Bool := !(s == []) && (decide (s.length ≤ 300) && !s.contains 0)
/-- A long text's blocks. -/
def lputB (kind : UInt8) (s : List UInt8) : Option (List (List UInt8)) :=
  if (kind == 75 || kind == 76) && ltext s then some ((hput (longHd kind s)).getD [] :: cutB (s ++ [0])) else none
def aheadB (n : Nd) : List (List UInt8) :=
  (if (lneeds n).2 then (lputB 75 n.link).getD [] else []) ++ (if (lneeds n).1 then (lputB 76 n.path).getD [] else [])
def ehead (n : Nd) : Hd :=
  ⟨if (lneeds n).1 then short n.path else (psplit n.path).2.1, (psplit n.path).1, short n.link, n.mode, n.uid, n.gid, n.data.length, n.mtime, n.kind, 0, 0⟩
def inN (n m : Int) : Bool := decide (0 ≤ n) && decide (n ≤ m)
def kindOk (n : Nd) : Bool :=
  if n.kind = 48 then n.link == [] && decide (n.data.length ≤ 4000)
  else if n.kind = 49 then (n.mode == 0 && n.uid == 0 && n.gid == 0 && n.mtime == 0 && n.data == []) && pmay n.link
  else if n.kind = 50 then ltext n.link && n.data == []
  else if n.kind = 53 then n.link == [] && n.data == []
  else false
def one (n : Nd) : Bool := kindOk n && (pmay n.path && (inN n.mode 4095 && (inN n.uid 1099511627776 && (inN n.gid 1099511627776 && inN n.mtime 1099511627776))))
/-- A node's blocks. -/
def eput (n : Nd) : List (List UInt8) := if one n then aheadB n ++ [(hput (ehead n)).getD []] ++ cutB n.data else []
def edata (n : Nd) : Nat := if one n then manyB n.data.length else 0
end Go.Proofs.YtmjicapjkmkckaaGreatDoor.Rk
