/- VolS: VolA VolB VolC VolD VolE VolF -/
import Derived.Test.YtldhcknjpmbgnaaGreatDoorLabS
import Derived.Lib.LastIndexByte
/- Trees as blocks, as volumes: plain Lean: paths, long names, nodes, blocks. -/
namespace Go.Proofs.YtldhcknjpmbgnaaGreatDoor.Rk
open Go.RowKit
set_option linter.unusedVariables false
set_option linter.unusedSimpArgs false

/-! ### paths -/
/-- A path's parts. -/
def pparts : List UInt8 → List (List UInt8)
  | [] => [[]]
  | c :: l => if c = 47 then [] :: pparts l else match pparts l with
    | [] => [[c]]
    | x :: xs => (c :: x) :: xs
def oddP (s : List UInt8) : Bool := s == [] || (s == [46] || s == [46, 46])
def pmay (p : List UInt8) : Bool := (pparts p).all (fun s => !oddP s) && (decide (p.length ≤ 300) && !p.contains 0)
/-- What stands ahead of the first slash; what stands behind it. -/
def headP (p : List UInt8) : List UInt8 := p.takeWhile (· != 47)
def tailP (p : List UInt8) : List UInt8 := (p.dropWhile (· != 47)).drop 1
theorem pparts_cons (c : UInt8) (l : List UInt8) : pparts (c :: l) = if c = 47 then [] :: pparts l else match pparts l with
    | [] => [[c]]
    | x :: xs => (c :: x) :: xs := rfl
theorem pparts_ne : ∀ p, pparts p ≠ []
  | [] => by simp [pparts]
  | c :: l => by
    rw [pparts_cons]
    split
    · simp
    · split <;> simp
theorem pparts_slash : ∀ {p : List UInt8}, (47 : UInt8) ∈ p → pparts p = headP p :: pparts (tailP p)
  | [], h => by simp at h
  | c :: l, h => by
    rw [pparts_cons]
    by_cases hc : c = 47
    · subst hc
      have h1 : headP (47 :: l) = [] := by simp [headP]
      have h2 : tailP (47 :: l) = l := by simp [tailP]
      rw [if_pos rfl, h1, h2]
    · have hl : (47 : UInt8) ∈ l := by
        rcases List.mem_cons.1 h with h | h
        · exact absurd h.symm hc
        · exact h
      have h1 : headP (c :: l) = c :: headP l := by simp [headP, hc]
      have h2 : tailP (c :: l) = tailP l := by simp [tailP, hc]
      rw [if_neg hc, pparts_slash hl, h1, h2]
theorem pparts_none : ∀ {p : List UInt8}, (47 : UInt8) ∉ p → pparts p = [p]
  | [], _ => rfl
  | c :: l, h => by
    have hc : c ≠ 47 := fun e => h (by simp [e])
    rw [pparts_cons, if_neg hc, pparts_none (fun hl => h (by simp [hl]))]
theorem tailP_length {p : List UInt8} (h : (47 : UInt8) ∈ p) : (tailP p).length < p.length := by
  have h1 : p.dropWhile (· != 47) ≠ [] := by
    intro e
    have e1 := List.takeWhile_append_dropWhile (p := (· != 47)) (l := p)
    rw [e, List.append_nil] at e1
    have e2 := List.all_takeWhile (p := (· != 47)) (l := p)
    rw [e1, List.all_eq_true] at e2
    simpa using e2 47 h
  have h2 : (p.dropWhile (· != 47)).length ≤ p.length := (List.dropWhile_sublist _).length_le
  have h3 := List.length_pos_iff.2 h1
  unfold tailP
  rw [List.length_drop]
  omega

/-! ### blocks -/
/-- A text's first block. -/
def padB (s : List UInt8) : List UInt8 := s.take 512 ++ zeros (512 - s.length)
theorem padB_length (s : List UInt8) : (padB s).length = 512 := by
  unfold padB zeros
  rw [List.length_append, List.length_take, List.length_replicate]; omega
/-- A text's blocks. -/
def cutB (s : List UInt8) : List (List UInt8) := if h : s = [] then [] else padB s :: cutB (s.drop 512)
  termination_by s.length
  decreasing_by
    have := List.length_pos_iff.2 h
    rw [List.length_drop]; omega
def manyB (n : Nat) : Nat := if n < 1 then 0 else (n - 1) / 512 + 1
theorem cutB_nil : cutB [] = [] := by rw [cutB, dif_pos rfl]
theorem cutB_cons {s : List UInt8} (h : s ≠ []) : cutB s = padB s :: cutB (s.drop 512) := by rw [cutB, dif_neg h]
theorem cutB_length : ∀ (k : Nat) (s : List UInt8), s.length ≤ k → (cutB s).length = manyB s.length
  | 0, s, h => by
    have : s = [] := List.length_eq_zero_iff.1 (by omega)
    subst this; rw [cutB_nil]; rfl
  | k + 1, s, h => by
    by_cases hs : s = []
    · subst hs; rw [cutB_nil]; rfl
    · have h1 := List.length_pos_iff.2 hs
      rw [cutB_cons hs, List.length_cons, cutB_length k _ (by rw [List.length_drop]; omega), List.length_drop]
      unfold manyB
      split <;> split <;> omega
theorem cutB_blocks : ∀ (k : Nat) (s : List UInt8), s.length ≤ k → ∀ b ∈ cutB s, b.length = 512
  | 0, s, h => by
    have : s = [] := List.length_eq_zero_iff.1 (by omega)
    subst this; rw [cutB_nil]; simp
  | k + 1, s, h => by
    by_cases hs : s = []
    · subst hs; rw [cutB_nil]; simp
    · have h1 := List.length_pos_iff.2 hs
      rw [cutB_cons hs]
      intro b hb
      rcases List.mem_cons.1 hb with rfl | hb
      · exact padB_length s
      · exact cutB_blocks k _ (by rw [List.length_drop]; omega) b hb

/-! ### nodes -/
structure Nd where
  path : List UInt8
  link : List UInt8
  kind : UInt8
  mode : Int
  uid : Int
  gid : Int
  mtime : Int
  data : List UInt8
/-- The first place of a byte. -/
def idx (c : UInt8) (l : List UInt8) : Int := if c ∈ l then (l.takeWhile (· != c)).length else -1
/-- A path's prefix and name. -/
def psplit (p : List UInt8) : List UInt8 × List UInt8 × Bool :=
  if pmay p then
    if p.length ≤ 100 then ([], p, true)
    else
      let i := idx 47 (p.drop (p.length - 101))
      if i < 0 ∨ 155 < (p.length - 101 : Nat) + i then ([], [], false) else (p.take (p.length - 101 + i.toNat), p.drop (p.length - 101 + i.toNat + 1), true)
  else ([], [], false)
def short (s : List UInt8) : List UInt8 := s.take 100
def lneeds (n : Nd) : Bool × Bool := (!(psplit n.path).2.2 && pmay n.path, decide (100 < n.link.length))
def longHd (kind : UInt8) (s : List UInt8) : Hd := ⟨[46, 47, 46, 47, 64, 76, 111, 110, 103, 76, 105, 110, 107], [], [], 0, 0, 0, (s.length : Int) + 1, 0, kind, 0, 0⟩
def ltext (s : List UInt8) : Bool := !(s == []) && (decide (s.length ≤ 300) && !s.contains 0)
/-- A long text's blocks. -/
def lputB (kind : UInt8) (s : List UInt8) : Option (List (List UInt8)) :=
  if (kind == 75 || kind == 76) && ltext s then some ((hput (longHd kind s)).getD [] :: cutB (s ++ [0])) else none
def aheadB (n : Nd) : List (List UInt8) :=
  (if (lneeds n).2 then (lputB 75 n.link).getD [] else []) ++ (if (lneeds n).1 then (lputB 76 n.path).getD [] else [])
def ehead (n : Nd) : Hd :=
  ⟨if (lneeds n).1 then short n.path else (psplit n.path).2.1, (psplit n.path).1, short n.link, n.mode, n.uid, n.gid, n.data.length, n.mtime, n.kind, 0, 0⟩
def inN (n m : Int) : Bool := decide (0 ≤ n) && decide (n ≤ m)
def kindOk (n : Nd) : Bool :=
  if n.kind = 48 then n.link == [] && decide (n.data.length ≤ 4000)
  else if n.kind = 49 then (n.mode == 0 && n.uid == 0 && n.gid == 0 && n.mtime == 0 && n.data == []) && pmay n.link
  else if n.kind = 50 then ltext n.link && n.data == []
  else if n.kind = 53 then n.link == [] && n.data == []
  else false
def one (n : Nd) : Bool := kindOk n && (pmay n.path && (inN n.mode 4095 && (inN n.uid 1099511627776 && (inN n.gid 1099511627776 && inN n.mtime 1099511627776))))
/-- A node's blocks. -/
def eput (n : Nd) : List (List UInt8) := if one n then aheadB n ++ [(hput (ehead n)).getD []] ++ cutB n.data else []
def edata (n : Nd) : Nat := if one n then manyB n.data.length else 0
end Go.Proofs.YtldhcknjpmbgnaaGreatDoor.Rk
/- Trees as blocks, as volumes: plain Lean: trees, the stream, what goes on, the volumes. -/
namespace Go.Proofs.YtldhcknjpmbgnaaGreatDoor.Rk
open Go.RowKit
set_option linter.unusedVariables false
set_option linter.unusedSimpArgs false

/-! ### trees -/
def leB : List UInt8 → List UInt8 → Bool
  | [], _ => true
  | _ :: _, [] => false
  | a :: l, b :: m => decide (a < b) || (a == b && leB l m)
/-- The kind of the last node of such a path; 0, if there is none. -/
def kindAt (t : List Nd) (p : List UInt8) : UInt8 := match t.reverse.find? (fun n => n.path == p) with
  | some n => n.kind
  | none => 0
/-- The last place of a byte. -/
def lastIdx (c : UInt8) (l : List UInt8) : Int := Lib.lastIndexByte (ofL l) c.toNat
def parent (p : List UInt8) : List UInt8 × Bool := if lastIdx 47 p < 0 || !pmay p then ([], false) else (p.take (lastIdx 47 p).toNat, true)
def lastPath (t : List Nd) : List UInt8 := (t.getLast?.map (·.path)).getD []
/-- May a node stand behind these? -/
def nextOk (t : List Nd) (n : Nd) : Bool :=
  one n && (!leB n.path (lastPath t) && (!((parent n.path).2 && !(kindAt t (parent n.path).1 == 53)) && !(n.kind == 49 && !(kindAt t n.link == 48))))
def tmayGo : List Nd → List Nd → Bool
  | _, [] => true
  | t, n :: l => nextOk t n && tmayGo (t ++ [n]) l
def tmay (t : List Nd) : Bool := decide (t.length ≤ 20) && tmayGo [] t

/-! ### the stream -/
def zblocks (n : Nat) : List (List UInt8) := if n < 1 ∨ 400 < n then [] else List.replicate n (zeros 512)
def sall (t : List Nd) : List (List UInt8) := if tmay t then (t.map eput).flatten ++ [zeros 512, zeros 512] else []
def startsGo : Nat → List Nd → List Nat
  | _, [] => []
  | p, n :: l => (p + (eput n).length) :: startsGo (p + (eput n).length) l
def starts (t : List Nd) : List Nat := if tmay t then 0 :: startsGo 0 t else []
/-- Whose a block is: the node's number, and which of its bytes' blocks. -/
def whereB (t : List Nd) (i : Int) : Int × Int :=
  if i < 0 ∨ ((sall t).length : Int) ≤ i then (-1, -1)
  else
    let l := starts t
    let k : Int := (match l.findIdx? (fun at' : Nat => decide (i < (at' : Int))) with | some j => (j : Int) | none => -1) - 1
    if k < 0 then (t.length, -1)
    else match t[k.toNat]? with
      | some n => (k, max (-1) (i - (l.getD (k.toNat + 1) 0 : Nat) + (edata n : Nat)))
      | none => (k, -1)

/-! ### what goes on -/
def cfile (n : Nd) : Bool := n.kind == 48 && one n
def cmay (n : Nd) (off : Int) : Bool := cfile n && (decide (0 ≤ off) && (decide (off < n.data.length) && off % 512 == 0))
def contHd (n : Nd) (off whole : Int) : Hd := ⟨short n.path, [], [], n.mode, n.uid, n.gid, whole - off, n.mtime, 77, off, whole⟩
def cputB (n : Nd) (off whole : Int) : List (List UInt8) := (if 100 < n.path.length then (lputB 76 n.path).getD [] else []) ++ [(hput (contHd n off whole)).getD []]
def cput (n : Nd) (off : Int) : List (List UInt8) := if cmay n off then cputB n off n.data.length else []

/-! ### volumes -/
structure St where
  label : List UInt8
  b : Int
  caps : List Int
def smay (s : St) : Bool := lmay s.label 1 && (decide (1 ≤ s.b) && (decide (s.b ≤ 20) && (decide (s.caps.length ≤ 12) && s.caps.all (fun n => decide (0 ≤ n) && decide (n ≤ 200)))))
/-- What a volume begins with. -/
def vbeg (t : List Nd) (s : St) (pos n : Int) : List (List UInt8) :=
  (lput s.label n).getD [] :: (if (whereB t pos).2 = -1 then [] else match t[(whereB t pos).1.toNat]? with | some nd => cput nd (512 * (whereB t pos).2) | none => [])
def vbegin (t : List Nd) (s : St) (pos n : Int) : Option (List (List UInt8)) :=
  if (lput s.label n).isSome ∧ 0 ≤ pos ∧ pos < (sall t).length then some (vbeg t s pos n) else none
def vbeginO (t : List Nd) (s : St) (pos n : Int) : Option (List (List UInt8)) := if tmay t && smay s then vbegin t s pos n else none
section
variable {β : Type}
/-- The volumes from a place on: all blocks, what a volume begins with, blocks of noughts, the blocks of a record, the capacities that are left, how many volumes there are, the place. -/
def sgo (all : List β) (bg : Nat → Nat → List β) (z : Nat → List β) (B : Nat) : List Nat → Nat → Nat → List (List β) × Int
  | [], _, pos => ([], if pos < all.length then 14 else 0)
  | cap :: caps, i, pos =>
    if pos < all.length then
      if B * cap ≤ (bg pos (i + 1)).length then ([], 13)
      else
        let e := min all.length (pos + (B * cap - (bg pos (i + 1)).length))
        let v := bg pos (i + 1) ++ (all.take e).drop pos
        let r := sgo all bg z B caps (i + 1) e
        ((if e = all.length ∧ 0 < v.length % B then v ++ z (B - v.length % B) else v) :: r.1, r.2)
    else ([], 0)
end
def vsplit (t : List Nd) (s : St) : List (List (List UInt8)) × Int :=
  if tmay t && smay s then sgo (sall t) (fun pos n => vbeg t s pos n) zblocks s.b.toNat (s.caps.map Int.toNat) 0 0 else ([], 1)
def vneeds (t : List Nd) (s : St) : Int := if (vsplit t s).2 = 0 then (vsplit t s).1.length else -1
end Go.Proofs.YtldhcknjpmbgnaaGreatDoor.Rk
/- Volumes: plain laws of how a stream is split. -/
namespace Go.Proofs.YtldhcknjpmbgnaaGreatDoor.Rk
set_option linter.unusedVariables false
set_option linter.unusedSimpArgs false
section
variable {β : Type} {all : List β} {bg : Nat → Nat → List β} {z : Nat → List β} {B : Nat}
theorem sgo_done {caps : List Nat} {i pos : Nat} (h : ¬ pos < all.length) : sgo all bg z B caps i pos = ([], 0) := by
  cases caps with
  | nil => unfold sgo; rw [if_neg h]
  | cons c cs => unfold sgo; rw [if_neg h]
theorem sgo_none {i pos : Nat} (h : pos < all.length) : sgo all bg z B [] i pos = ([], 14) := by unfold sgo; rw [if_pos h]
theorem sgo_small {cap : Nat} {caps : List Nat} {i pos : Nat} (h : pos < all.length) (h2 : B * cap ≤ (bg pos (i + 1)).length) : sgo all bg z B (cap :: caps) i pos = ([], 13) := by
  unfold sgo; rw [if_pos h, if_pos h2]
/-- Where a volume ends. -/
def endAt (all : List β) (bg : Nat → Nat → List β) (B cap i pos : Nat) : Nat := min all.length (pos + (B * cap - (bg pos (i + 1)).length))
/-- A volume, without the noughts behind it. -/
def bare (all : List β) (bg : Nat → Nat → List β) (B cap i pos : Nat) : List β := bg pos (i + 1) ++ (all.take (endAt all bg B cap i pos)).drop pos
/-- A volume. -/
def volAt (all : List β) (bg : Nat → Nat → List β) (z : Nat → List β) (B cap i pos : Nat) : List β :=
  if endAt all bg B cap i pos = all.length ∧ 0 < (bare all bg B cap i pos).length % B then bare all bg B cap i pos ++ z (B - (bare all bg B cap i pos).length % B) else bare all bg B cap i pos
theorem sgo_step {cap : Nat} {caps : List Nat} {i pos : Nat} (h : pos < all.length) (h2 : ¬ B * cap ≤ (bg pos (i + 1)).length) :
    sgo all bg z B (cap :: caps) i pos = (volAt all bg z B cap i pos :: (sgo all bg z B caps (i + 1) (endAt all bg B cap i pos)).1, (sgo all bg z B caps (i + 1) (endAt all bg B cap i pos)).2) := by
  rw [sgo, if_pos h, if_neg h2]; rfl
theorem endAt_le (cap i pos : Nat) : endAt all bg B cap i pos ≤ all.length := Nat.min_le_left _ _
theorem endAt_lt {cap i pos : Nat} (h : pos < all.length) (h2 : ¬ B * cap ≤ (bg pos (i + 1)).length) : pos < endAt all bg B cap i pos := by
  unfold endAt; omega
theorem bare_length {cap i pos : Nat} (h : pos < all.length) (h2 : ¬ B * cap ≤ (bg pos (i + 1)).length) : (bare all bg B cap i pos).length = (bg pos (i + 1)).length + (endAt all bg B cap i pos - pos) := by
  have := endAt_le (all := all) (bg := bg) (B := B) cap i pos
  unfold bare
  rw [List.length_append, List.length_drop, List.length_take, Nat.min_eq_left this]
theorem mod_room {n B k : Nat} (hB : 1 ≤ B) (h : n ≤ B * k) : (if 0 < n % B then n + (B - n % B) else n) ≤ B * k ∧ (if 0 < n % B then n + (B - n % B) else n) % B = 0 ∧ n ≤ (if 0 < n % B then n + (B - n % B) else n) := by
  have h1 := Nat.div_add_mod n B
  have h2 := Nat.mod_lt n hB
  split
  · rename_i h3
    have e : n + (B - n % B) = B * (n / B + 1) := by rw [Nat.mul_add, Nat.mul_one]; omega
    have h4 : n / B < k := by
      rw [Nat.div_lt_iff_lt_mul hB]
      rcases Nat.lt_or_ge n (k * B) with h5 | h5
      · exact h5
      · have : n = B * k := Nat.le_antisymm h (by rw [Nat.mul_comm]; exact h5)
        rw [this, Nat.mul_mod_right] at h3; omega
    refine ⟨?_, ?_, by omega⟩
    · rw [e]; exact Nat.mul_le_mul_left _ h4
    · rw [e, Nat.mul_mod_right]
  · exact ⟨h, by omega, Nat.le_refl _⟩
/-- A volume's length. -/
theorem volAt_length (hB : 1 ≤ B) (hz : ∀ k, 1 ≤ k → k ≤ B → (z k).length = k) {cap i pos : Nat} (h : pos < all.length) (h2 : ¬ B * cap ≤ (bg pos (i + 1)).length) :
    (volAt all bg z B cap i pos).length ≤ B * cap ∧ (volAt all bg z B cap i pos).length % B = 0 ∧ (bg pos (i + 1)).length + 1 ≤ (volAt all bg z B cap i pos).length ∧
    (endAt all bg B cap i pos < all.length → (volAt all bg z B cap i pos).length = B * cap ∧ endAt all bg B cap i pos = pos + (B * cap - (bg pos (i + 1)).length)) := by
  have hl := bare_length h h2
  have hlt := endAt_lt h h2
  have hm : (bare all bg B cap i pos).length ≤ B * cap := by rw [hl]; unfold endAt; omega
  have key := mod_room hB hm
  unfold volAt
  by_cases he : endAt all bg B cap i pos = all.length
  · have e : (if endAt all bg B cap i pos = all.length ∧ 0 < (bare all bg B cap i pos).length % B then bare all bg B cap i pos ++ z (B - (bare all bg B cap i pos).length % B) else bare all bg B cap i pos).length =
        if 0 < (bare all bg B cap i pos).length % B then (bare all bg B cap i pos).length + (B - (bare all bg B cap i pos).length % B) else (bare all bg B cap i pos).length := by
      by_cases h3 : 0 < (bare all bg B cap i pos).length % B
      · have := Nat.mod_lt (bare all bg B cap i pos).length hB
        rw [if_pos ⟨he, h3⟩, if_pos h3, List.length_append, hz _ (by omega) (by omega)]
      · rw [if_neg (by simp [h3]), if_neg h3]
    rw [e]
    refine ⟨key.1, key.2.1, ?_, fun h5 => by omega⟩
    have := key.2.2
    omega
  · have h4 : endAt all bg B cap i pos < all.length := Nat.lt_of_le_of_ne (endAt_le _ _ _) he
    rw [if_neg (by simp [he])]
    have h5 : endAt all bg B cap i pos = pos + (B * cap - (bg pos (i + 1)).length) := by unfold endAt at h4 ⊢; omega
    have h6 : (bare all bg B cap i pos).length = B * cap := by rw [hl, h5]; omega
    exact ⟨by omega, by rw [h6, Nat.mul_mod_right], by omega, fun _ => ⟨h6, h5⟩⟩
/-- No volume has more blocks than there is room for. -/
theorem sgo_room (hB : 1 ≤ B) (hz : ∀ k, 1 ≤ k → k ≤ B → (z k).length = k) (hb : ∀ p n, 1 ≤ (bg p n).length) : ∀ (caps : List Nat) (i pos : Nat),
    (sgo all bg z B caps i pos).1.length ≤ caps.length ∧ ((sgo all bg z B caps i pos).2 = 0 ∨ (sgo all bg z B caps i pos).2 = 13 ∨ (sgo all bg z B caps i pos).2 = 14) ∧
    ((sgo all bg z B caps i pos).2 = 14 → (sgo all bg z B caps i pos).1.length = caps.length) ∧ ((sgo all bg z B caps i pos).2 = 0 → pos < all.length → 1 ≤ (sgo all bg z B caps i pos).1.length) ∧
    ∀ j v, (sgo all bg z B caps i pos).1[j]? = some v → ∃ cap, caps[j]? = some cap ∧ 2 ≤ v.length ∧ v.length ≤ B * cap ∧ v.length % B = 0 ∧ (v.length = B * cap ∨ ((sgo all bg z B caps i pos).2 = 0 ∧ j + 1 = (sgo all bg z B caps i pos).1.length))
  | [], i, pos => by
    by_cases h : pos < all.length
    · rw [sgo_none h]; simp
    · rw [sgo_done h]; simp [h]
  | cap :: caps, i, pos => by
    by_cases h : pos < all.length
    · by_cases h2 : B * cap ≤ (bg pos (i + 1)).length
      · rw [sgo_small h h2]; simp
      · rw [sgo_step h h2]
        obtain ⟨a1, a2, a3, a4, a5⟩ := sgo_room hB hz hb caps (i + 1) (endAt all bg B cap i pos)
        obtain ⟨v1, v2, v3, v4⟩ := volAt_length hB hz h h2
        have hb1 := hb pos (i + 1)
        refine ⟨by simpa using a1, a2, fun e => by simpa using a3 e, fun _ _ => by simp, ?_⟩
        intro j v hv
        cases j with
        | zero =>
          have hv : volAt all bg z B cap i pos = v := by simpa using hv
          subst hv
          refine ⟨cap, rfl, by omega, v1, v2, ?_⟩
          by_cases he : endAt all bg B cap i pos < all.length
          · exact .inl (v4 he).1
          · right
            rw [sgo_done he]
            exact ⟨rfl, rfl⟩
        | succ j =>
          obtain ⟨c, hc, h3, h4, h5, h6⟩ := a5 j v (by simpa using hv)
          refine ⟨c, by simpa using hc, h3, h4, h5, ?_⟩
          rcases h6 with h6 | ⟨h6, h7⟩
          · exact .inl h6
          · exact .inr ⟨h6, by simp [h7]⟩
    · rw [sgo_done h]; simp [h]
/-- With more capacities. -/
theorem sgo_more (more : List Nat) : ∀ (caps : List Nat) (i pos : Nat),
    ((sgo all bg z B caps i pos).2 ≠ 14 → sgo all bg z B (caps ++ more) i pos = sgo all bg z B caps i pos) ∧
    ((sgo all bg z B caps i pos).2 = 14 → ∃ p, sgo all bg z B (caps ++ more) i pos = ((sgo all bg z B caps i pos).1 ++ (sgo all bg z B more (i + caps.length) p).1, (sgo all bg z B more (i + caps.length) p).2) ∧ p < all.length)
  | [], i, pos => by
    by_cases h : pos < all.length
    · rw [sgo_none h]; exact ⟨fun h => absurd rfl h, fun _ => ⟨pos, by simp, h⟩⟩
    · rw [sgo_done h, sgo_done h]; simp
  | cap :: caps, i, pos => by
    by_cases h : pos < all.length
    · by_cases h2 : B * cap ≤ (bg pos (i + 1)).length
      · rw [sgo_small h h2, List.cons_append, sgo_small h h2]; simp
      · rw [sgo_step h h2, List.cons_append, sgo_step h h2]
        obtain ⟨a1, a2⟩ := sgo_more more caps (i + 1) (endAt all bg B cap i pos)
        refine ⟨fun e => by rw [a1 e], fun e => ?_⟩
        obtain ⟨p, hp, hlt⟩ := a2 e
        exact ⟨p, by rw [hp]; simp [Nat.add_assoc, Nat.add_comm 1], hlt⟩
    · rw [sgo_done h, sgo_done h]; simp
end
end Go.Proofs.YtldhcknjpmbgnaaGreatDoor.Rk
/- Volumes: plain laws of how a stream is split: how many, what is used, what stands where. -/
namespace Go.Proofs.YtldhcknjpmbgnaaGreatDoor.Rk
set_option linter.unusedVariables false
set_option linter.unusedSimpArgs false
section
variable {β : Type} {all : List β} {bg : Nat → Nat → List β} {z : Nat → List β} {B : Nat}
theorem sgo_bound (hb1 : ∀ p n, 1 ≤ (bg p n).length) (hb4 : ∀ p n, (bg p n).length ≤ 4) (least : Nat) (hl : 1 ≤ least) : ∀ (caps : List Nat) (i pos : Nat), (sgo all bg z B caps i pos).2 = 0 → pos < all.length →
    (sgo all bg z B caps i pos).1.length ≤ all.length - pos ∧
    ((∀ j cap, j < (sgo all bg z B caps i pos).1.length → caps[j]? = some cap → least + 4 ≤ B * cap) → ((sgo all bg z B caps i pos).1.length - 1) * least < all.length - pos)
  | [], i, pos, h0, h => by rw [sgo_none h] at h0; cases h0
  | cap :: caps, i, pos, h0, h => by
    by_cases h2 : B * cap ≤ (bg pos (i + 1)).length
    · rw [sgo_small h h2] at h0; cases h0
    · rw [sgo_step h h2] at h0 ⊢
      have hlt := endAt_lt h h2
      have hle := endAt_le (all := all) (bg := bg) (B := B) cap i pos
      by_cases he : endAt all bg B cap i pos < all.length
      · obtain ⟨a1, a2⟩ := sgo_bound hb1 hb4 least hl caps (i + 1) (endAt all bg B cap i pos) h0 he
        obtain ⟨r, hr⟩ : ∃ r, (sgo all bg z B caps (i + 1) (endAt all bg B cap i pos)).1.length = r := ⟨_, rfl⟩
        simp only [List.length_cons, hr] at a1 a2 ⊢
        refine ⟨by omega, fun hj => ?_⟩
        have hc := hj 0 cap (by omega) rfl
        have h4 := hb4 pos (i + 1)
        have h5 : endAt all bg B cap i pos = pos + (B * cap - (bg pos (i + 1)).length) := by unfold endAt at he ⊢; omega
        have a3 := a2 (fun j c h6 h7 => hj (j + 1) c (by omega) (by simpa using h7))
        cases r with
        | zero => simp; omega
        | succ r =>
          simp only [Nat.add_sub_cancel] at a3 ⊢
          rw [Nat.succ_mul]; omega
      · rw [sgo_done he]
        simp only [List.length_cons, List.length_nil]
        exact ⟨by omega, fun _ => by simp; omega⟩
/-- What all volumes hold together, and what the last block is. -/
theorem sgo_last (hB : 1 ≤ B) (hz : ∀ k, 1 ≤ k → k ≤ B → (z k).length = k) (hb1 : ∀ p n, 1 ≤ (bg p n).length) (hb4 : ∀ p n, (bg p n).length ≤ 4) (zb : β) (hzl : ∀ k, 1 ≤ k → k ≤ B → (z k).getLast? = some zb) (hal : all.getLast? = some zb) :
    ∀ (caps : List Nat) (i pos : Nat), (sgo all bg z B caps i pos).2 = 0 → pos < all.length →
    (∃ v, (sgo all bg z B caps i pos).1.getLast? = some v ∧ 2 ≤ v.length ∧ v.getLast? = some zb) ∧
    all.length - pos + (sgo all bg z B caps i pos).1.length ≤ ((sgo all bg z B caps i pos).1.map List.length).sum ∧
    ((sgo all bg z B caps i pos).1.map List.length).sum + 1 ≤ all.length - pos + 4 * (sgo all bg z B caps i pos).1.length + B
  | [], i, pos, h0, h => by rw [sgo_none h] at h0; cases h0
  | cap :: caps, i, pos, h0, h => by
    by_cases h2 : B * cap ≤ (bg pos (i + 1)).length
    · rw [sgo_small h h2] at h0; cases h0
    · rw [sgo_step h h2] at h0 ⊢
      have hlt := endAt_lt h h2
      have hle := endAt_le (all := all) (bg := bg) (B := B) cap i pos
      have hbl := bare_length h h2
      have k1 := hb1 pos (i + 1)
      have k4 := hb4 pos (i + 1)
      by_cases he : endAt all bg B cap i pos < all.length
      · obtain ⟨⟨v, a1, a2, a3⟩, a4, a5⟩ := sgo_last hB hz hb1 hb4 zb hzl hal caps (i + 1) (endAt all bg B cap i pos) h0 he
        have hva : volAt all bg z B cap i pos = bare all bg B cap i pos := by unfold volAt; rw [if_neg (by omega)]
        obtain ⟨r, hr⟩ : ∃ r, (sgo all bg z B caps (i + 1) (endAt all bg B cap i pos)).1 = r := ⟨_, rfl⟩
        rw [hr] at a1 a4 a5 ⊢
        rw [hva]
        simp only [List.map_cons, List.sum_cons, List.length_cons]
        refine ⟨⟨v, ?_, a2, a3⟩, by omega, by omega⟩
        rw [List.getLast?_cons, a1]; rfl
      · rw [sgo_done he]
        have hea : endAt all bg B cap i pos = all.length := by omega
        simp only [List.map_cons, List.map_nil, List.sum_cons, List.sum_nil, List.length_cons, List.length_nil]
        have hmod := Nat.mod_lt (bare all bg B cap i pos).length hB
        unfold volAt
        by_cases h3 : 0 < (bare all bg B cap i pos).length % B
        · rw [if_pos ⟨hea, h3⟩]
          have hzz := hz (B - (bare all bg B cap i pos).length % B) (by omega) (by omega)
          refine ⟨⟨bare all bg B cap i pos ++ z (B - (bare all bg B cap i pos).length % B), rfl, by rw [List.length_append]; omega, ?_⟩, by rw [List.length_append]; omega, by rw [List.length_append]; omega⟩
          rw [List.getLast?_append, hzl _ (by omega) (by omega)]; rfl
        · rw [if_neg (by simp [h3])]
          refine ⟨⟨bare all bg B cap i pos, rfl, by omega, ?_⟩, by omega, by omega⟩
          unfold bare
          rw [hea, List.take_length, List.getLast?_append, List.getLast?_drop, if_neg (by omega), hal]; rfl
/-- What stands in a volume. -/
theorem volAt_at (hB : 1 ≤ B) (zb : β) (hz : ∀ k, 1 ≤ k → k ≤ B → z k = List.replicate k zb) {cap i pos : Nat} (h : pos < all.length) (h2 : ¬ B * cap ≤ (bg pos (i + 1)).length) :
    (volAt all bg z B cap i pos).take (bg pos (i + 1)).length = bg pos (i + 1) ∧
    ∀ k, (bg pos (i + 1)).length ≤ k → k < (volAt all bg z B cap i pos).length →
      (volAt all bg z B cap i pos)[k]? = if pos + (k - (bg pos (i + 1)).length) < all.length then all[pos + (k - (bg pos (i + 1)).length)]? else some zb := by
  have hbl := bare_length h h2
  have hlt := endAt_lt h h2
  have hle := endAt_le (all := all) (bg := bg) (B := B) cap i pos
  have hb : ∀ k, (bg pos (i + 1)).length ≤ k → k < (bare all bg B cap i pos).length → (bare all bg B cap i pos)[k]? = all[pos + (k - (bg pos (i + 1)).length)]? := fun k h3 h4 => by
    unfold bare
    rw [List.getElem?_append_right h3, List.getElem?_drop, List.getElem?_take_of_lt (by omega)]
  unfold volAt
  by_cases he : endAt all bg B cap i pos = all.length ∧ 0 < (bare all bg B cap i pos).length % B
  · rw [if_pos he]
    have hmod := Nat.mod_lt (bare all bg B cap i pos).length hB
    rw [hz _ (by omega) (by omega)]
    refine ⟨?_, fun k h3 h4 => ?_⟩
    · rw [List.take_append_of_le_length (by omega)]
      unfold bare
      rw [List.take_left]
    · by_cases h5 : k < (bare all bg B cap i pos).length
      · rw [List.getElem?_append_left h5, hb k h3 h5, if_pos (by omega)]
      · rw [List.length_append, List.length_replicate] at h4
        rw [List.getElem?_append_right (by omega), List.getElem?_replicate, if_pos (by omega), if_neg (by omega)]
  · rw [if_neg he]
    refine ⟨?_, fun k h3 h4 => ?_⟩
    · unfold bare
      rw [List.take_left]
    · rw [hb k h3 h4, if_pos (by omega)]
end
end Go.Proofs.YtldhcknjpmbgnaaGreatDoor.Rk
/- Trees as blocks: plain laws: which headers may be, how long blocks are, how many there are. -/
namespace Go.Proofs.YtldhcknjpmbgnaaGreatDoor.Rk
open Go.RowKit
set_option linter.unusedVariables false
set_option linter.unusedSimpArgs false

/-! ### paths -/
theorem pmay_parts {p : List UInt8} (h : pmay p = true) : ∀ s ∈ pparts p, oddP s = false := by
  unfold pmay at h
  simp only [Bool.and_eq_true, List.all_eq_true] at h
  intro s hs
  have := h.1 s hs
  simpa using this
theorem pmay_len {p : List UInt8} (h : pmay p = true) : p.length ≤ 300 := by
  unfold pmay at h
  simp only [Bool.and_eq_true, decide_eq_true_eq] at h
  exact h.2.1
theorem pmay_zero {p : List UInt8} (h : pmay p = true) : (0 : UInt8) ∉ p := by
  unfold pmay at h
  simp only [Bool.and_eq_true] at h
  simpa using h.2.2
theorem pmay_ne {p : List UInt8} (h : pmay p = true) : p ≠ [] := by
  rintro rfl
  have := pmay_parts h [] (by simp [pparts])
  cases this
/-- A path that ends by a slash has an empty part. -/
theorem pparts_end : ∀ (a : List UInt8), [] ∈ pparts (a ++ [47])
  | [] => by simp [pparts]
  | c :: a => by
    rw [List.cons_append, pparts_cons]
    by_cases hc : c = 47
    · rw [if_pos hc]; exact List.mem_cons_of_mem _ (pparts_end a)
    · rw [if_neg hc]
      have ih := pparts_end a
      cases hp : pparts (a ++ [47]) with
      | nil => exact absurd hp (pparts_ne _)
      | cons x xs =>
        dsimp only
        rw [hp] at ih
        rcases List.mem_cons.1 ih with h | h
        · -- the first part of a path that ends by a slash is empty: then a is empty, or begins by a slash
          cases a with
          | nil =>
            have : pparts ([] ++ [47] : List UInt8) = [[], []] := rfl
            rw [this] at hp
            injection hp with h1 h2
            rw [← h2]; simp
          | cons d a =>
            rw [List.cons_append, pparts_cons] at hp
            by_cases hd : d = 47
            · rw [if_pos hd] at hp
              injection hp with h1 h2
              rw [← h2]; exact List.mem_cons_of_mem _ (pparts_end a)
            · rw [if_neg hd] at hp
              split at hp
              · rename_i h0; exact absurd h0 (pparts_ne _)
              · injection hp with h1 h2
                rw [← h] at h1; cases h1
        · exact List.mem_cons_of_mem _ h
theorem idx_lt {c : UInt8} {l : List UInt8} (h : 0 ≤ idx c l) : ∃ k : Nat, idx c l = k ∧ k < l.length ∧ l[k]? = some c ∧ c ∉ l.take k := by
  unfold idx at h ⊢
  by_cases hc : c ∈ l
  · rw [if_pos hc]
    refine ⟨_, rfl, ?_⟩
    have key : ∀ {l : List UInt8}, c ∈ l → (l.takeWhile (· != c)).length < l.length ∧ l[(l.takeWhile (· != c)).length]? = some c ∧ c ∉ l.take (l.takeWhile (· != c)).length := by
      intro l
      induction l with
      | nil => intro h; cases h
      | cons d l ih =>
        intro h
        by_cases hd : d = c
        · subst hd; simp
        · have hl : c ∈ l := by
            rcases List.mem_cons.1 h with h | h
            · exact absurd h.symm hd
            · exact h
          obtain ⟨h1, h2, h3⟩ := ih hl
          have e : (d :: l).takeWhile (· != c) = d :: l.takeWhile (· != c) := by simp [hd]
          rw [e, List.length_cons]
          refine ⟨by simpa using h1, by simpa using h2, ?_⟩
          rw [List.take_succ_cons]
          intro hm
          rcases List.mem_cons.1 hm with hm | hm
          · exact hd hm.symm
          · exact h3 hm
    exact key hc
  · rw [if_neg hc] at h; omega
/-- What a split path is. -/
theorem psplit_cases {p : List UInt8} (h : pmay p = true) : (p.length ≤ 100 ∧ psplit p = ([], p, true)) ∨ (100 < p.length ∧ psplit p = ([], [], false)) ∨
    (100 < p.length ∧ ∃ a b, p = a ++ 47 :: b ∧ psplit p = (a, b, true) ∧ a.length ≤ 155 ∧ b.length ≤ 100 ∧ b ≠ []) := by
  have hl := pmay_len h
  unfold psplit
  rw [if_pos h]
  by_cases h1 : p.length ≤ 100
  · rw [if_pos h1]; exact .inl ⟨h1, rfl⟩
  · rw [if_neg h1]
    dsimp only
    by_cases h2 : idx 47 (p.drop (p.length - 101)) < 0 ∨ 155 < (p.length - 101 : Nat) + idx 47 (p.drop (p.length - 101))
    · rw [if_pos h2]; exact .inr (.inl ⟨by omega, rfl⟩)
    · rw [if_neg h2]
      right; right
      refine ⟨by omega, ?_⟩
      obtain ⟨k, hk, hlt, hget, _⟩ := idx_lt (c := 47) (l := p.drop (p.length - 101)) (by omega)
      rw [hk] at h2 ⊢
      rw [List.length_drop] at hlt
      rw [List.getElem?_drop] at hget
      simp only [Int.toNat_natCast]
      have hlt2 : p.length - 101 + k < p.length := by omega
      have hp : p = p.take (p.length - 101 + k) ++ 47 :: p.drop (p.length - 101 + k + 1) := by
        have h3 := List.getElem?_eq_some_iff.1 hget
        have e := List.take_append_drop (p.length - 101 + k) p
        rw [List.drop_eq_getElem_cons hlt2, h3.2] at e
        exact e.symm
      refine ⟨_, _, hp, rfl, ?_, ?_, ?_⟩
      · rw [List.length_take]; omega
      · rw [List.length_drop]; omega
      · intro h0
        rw [h0] at hp
        have := pmay_parts h [] (by rw [hp]; exact pparts_end _)
        cases this

/-! ### headers -/
theorem put8 {n : Int} (h0 : 0 ≤ n) (h1 : n ≤ 1099511627776) : ∃ l, put n 8 = some l := by
  rcases Nat.lt_or_ge n.toNat (8 ^ 7) with h | h
  · exact ⟨_, put_iff.2 ⟨h0, by decide, by decide, .inl ⟨h, rfl⟩⟩⟩
  · exact ⟨_, put_iff.2 ⟨h0, by decide, by decide, .inr ⟨h, by simp; omega, rfl⟩⟩⟩
theorem put12 {n : Int} (h0 : 0 ≤ n) (h1 : n ≤ 1099511627776) : ∃ l, put n 12 = some l := by
  rcases Nat.lt_or_ge n.toNat (8 ^ 11) with h | h
  · exact ⟨_, put_iff.2 ⟨h0, by decide, by decide, .inl ⟨h, rfl⟩⟩⟩
  · exact ⟨_, put_iff.2 ⟨h0, by decide, by decide, .inr ⟨h, by simp; omega, rfl⟩⟩⟩
theorem inN_iff {n m : Int} : inN n m = true ↔ 0 ≤ n ∧ n ≤ m := by simp [inN]
/-- A node that may be alone, opened. -/
structure One (n : Nd) : Prop where
  kind : kindOk n = true
  path : pmay n.path = true
  mode : 0 ≤ n.mode ∧ n.mode ≤ 4095
  uid : 0 ≤ n.uid ∧ n.uid ≤ 1099511627776
  gid : 0 ≤ n.gid ∧ n.gid ≤ 1099511627776
  mtime : 0 ≤ n.mtime ∧ n.mtime ≤ 1099511627776
theorem one_iff {n : Nd} : one n = true ↔ One n := by
  unfold one
  simp only [Bool.and_eq_true, inN_iff]
  exact ⟨fun ⟨a, b, c, d, e, f⟩ => ⟨a, b, c, d, e, f⟩, fun ⟨a, b, c, d, e, f⟩ => ⟨a, b, c, d, e, f⟩⟩
theorem ltext_iff {s : List UInt8} : ltext s = true ↔ s ≠ [] ∧ s.length ≤ 300 ∧ (0 : UInt8) ∉ s := by
  unfold ltext
  simp
/-- What a kind asks. -/
theorem kind_cases {n : Nd} (h : kindOk n = true) : (n.kind = 48 ∧ n.link = [] ∧ n.data.length ≤ 4000) ∨ (n.kind = 49 ∧ n.mode = 0 ∧ n.uid = 0 ∧ n.gid = 0 ∧ n.mtime = 0 ∧ n.data = [] ∧ pmay n.link = true) ∨
    (n.kind = 50 ∧ ltext n.link = true ∧ n.data = []) ∨ (n.kind = 53 ∧ n.link = [] ∧ n.data = []) := by
  unfold kindOk at h
  by_cases h1 : n.kind = 48
  · rw [if_pos h1] at h; simp only [Bool.and_eq_true, beq_iff_eq, decide_eq_true_eq] at h; exact .inl ⟨h1, h.1, h.2⟩
  · rw [if_neg h1] at h
    by_cases h2 : n.kind = 49
    · rw [if_pos h2] at h; simp only [Bool.and_eq_true, beq_iff_eq] at h; exact .inr (.inl ⟨h2, h.1.1.1.1.1, h.1.1.1.1.2, h.1.1.1.2, h.1.1.2, h.1.2, h.2⟩)
    · rw [if_neg h2] at h
      by_cases h3 : n.kind = 50
      · rw [if_pos h3] at h; simp only [Bool.and_eq_true, beq_iff_eq] at h; exact .inr (.inr (.inl ⟨h3, h.1, h.2⟩))
      · rw [if_neg h3] at h
        by_cases h4 : n.kind = 53
        · rw [if_pos h4] at h; simp only [Bool.and_eq_true, beq_iff_eq] at h; exact .inr (.inr (.inr ⟨h4, h.1, h.2⟩))
        · rw [if_neg h4] at h; cases h
theorem kind_link {n : Nd} (h : kindOk n = true) : n.link.length ≤ 300 ∧ (0 : UInt8) ∉ n.link := by
  rcases kind_cases h with ⟨_, e, _⟩ | ⟨_, _, _, _, _, _, e⟩ | ⟨_, e, _⟩ | ⟨_, e, _⟩
  · rw [e]; simp
  · exact ⟨pmay_len e, pmay_zero e⟩
  · exact (ltext_iff.1 e).2
  · rw [e]; simp
theorem kind_data {n : Nd} (h : kindOk n = true) : n.data.length ≤ 4000 := by
  rcases kind_cases h with ⟨_, _, e⟩ | ⟨_, _, _, _, _, e, _⟩ | ⟨_, _, e⟩ | ⟨_, _, e⟩
  · exact e
  all_goals rw [e]; simp
theorem kind_ty {n : Nd} (h : kindOk n = true) : n.kind = 48 ∨ n.kind = 49 ∨ n.kind = 50 ∨ n.kind = 53 := by
  rcases kind_cases h with ⟨e, _⟩ | ⟨e, _⟩ | ⟨e, _⟩ | ⟨e, _⟩ <;> simp [e]
theorem short_len (s : List UInt8) : (short s).length ≤ 100 := by unfold short; rw [List.length_take]; omega
theorem short_zero {s : List UInt8} (h : (0 : UInt8) ∉ s) : (0 : UInt8) ∉ short s := fun h0 => h (List.mem_of_mem_take h0)
theorem short_ne {s : List UInt8} (h : s ≠ []) : short s ≠ [] := by
  cases s with
  | nil => exact absurd rfl h
  | cons a l => simp [short]
theorem needs_name {n : Nd} (h : pmay n.path = true) : (lneeds n).1 = !(psplit n.path).2.2 := by unfold lneeds; simp [h]
/-- The header of a node that may be. -/
theorem ehead_fits {n : Nd} (h : One n) : Fits (ehead n) := by
  have hk := kind_link h.kind
  have hd := kind_data h.kind
  have ht := kind_ty h.kind
  have h0 := pmay_zero h.path
  have hty : tyOk n.kind = true := by rcases ht with e | e | e | e <;> rw [e] <;> decide
  have hn77 : n.kind ≠ 77 := by rcases ht with e | e | e | e <;> rw [e] <;> decide
  have hname : (ehead n).name ≠ [] ∧ (ehead n).name.length ≤ 100 ∧ (0 : UInt8) ∉ (ehead n).name ∧ (ehead n).pre.length ≤ 155 ∧ (0 : UInt8) ∉ (ehead n).pre := by
    unfold ehead
    dsimp only
    rw [needs_name h.path]
    rcases psplit_cases h.path with ⟨h1, e⟩ | ⟨h1, e⟩ | ⟨h1, a, b, hp, e, h2, h3, h4⟩
    · rw [e]; exact ⟨by simpa using pmay_ne h.path, by simpa using h1, by simpa using h0, by simp, by simp⟩
    · rw [e]; exact ⟨by simpa using short_ne (pmay_ne h.path), by simpa using short_len _, by simpa using short_zero h0, by simp, by simp⟩
    · rw [e]
      rw [hp] at h0
      simp only [List.mem_append, List.mem_cons, not_or] at h0
      exact ⟨by simpa using h4, by simpa using h3, by simpa using h0.2.2, h2, h0.1⟩
  obtain ⟨a1, a2, a3, a4, a5⟩ := hname
  refine ⟨a1, hty, a2, a3, short_len _, short_zero hk.2, put8 h.mode.1 (by have := h.mode.2; show n.mode ≤ _; omega), put8 h.uid.1 h.uid.2, put8 h.gid.1 h.gid.2, put12 (Int.natCast_nonneg _) ?_, put12 h.mtime.1 h.mtime.2, fun e => absurd e hn77, fun _ => ⟨rfl, rfl, a4, a5⟩⟩
  show (n.data.length : Int) ≤ _
  omega
theorem longHd_fits {k : UInt8} {s : List UInt8} (hk : k = 75 ∨ k = 76) (h : s.length ≤ 300) : Fits (longHd k s) := by
  have p8 : ∃ l, put 0 8 = some l := put8 (by decide) (by decide)
  have p12 : ∃ l, put 0 12 = some l := put12 (by decide) (by decide)
  have hty : tyOk k = true := by rcases hk with rfl | rfl <;> decide
  have h77 : k ≠ 77 := by rcases hk with rfl | rfl <;> decide
  refine ⟨by simp [longHd], hty, by simp [longHd], by simp [longHd], by simp [longHd], by simp [longHd], p8, p8, p8, put12 ?_ ?_, p12, fun e => absurd e h77, fun _ => ⟨rfl, rfl, by simp [longHd], by simp [longHd]⟩⟩
  · show (0 : Int) ≤ s.length + 1; omega
  · show (s.length : Int) + 1 ≤ _; omega
theorem contHd_fits {n : Nd} (h : One n) {off whole : Int} (h0 : 0 ≤ off) (h1 : off ≤ whole) (h2 : whole ≤ 4000) : Fits (contHd n off whole) := by
  have h0' := pmay_zero h.path
  refine ⟨short_ne (pmay_ne h.path), (show tyOk 77 = true by decide), short_len _, short_zero h0', by simp [contHd], by simp [contHd], put8 h.mode.1 (by have := h.mode.2; show n.mode ≤ _; omega), put8 h.uid.1 h.uid.2, put8 h.gid.1 h.gid.2, put12 ?_ ?_, put12 h.mtime.1 h.mtime.2, fun _ => ⟨rfl, put12 h0 ?_, put12 ?_ ?_⟩, fun e => absurd rfl e⟩
  all_goals simp only [contHd]; omega
theorem R64_le {n : Int} (h0 : 0 ≤ n) (h1 : n ≤ 1099511627776) : R64 n := ⟨by omega, by omega⟩
theorem ehead_R {n : Nd} (h : One n) : (ehead n).R := by
  have hd := kind_data h.kind
  refine ⟨R64_le h.mode.1 (by have := h.mode.2; show n.mode ≤ _; omega), R64_le h.uid.1 h.uid.2, R64_le h.gid.1 h.gid.2, R64_le (Int.natCast_nonneg _) (by show (n.data.length : Int) ≤ _; omega), R64_le h.mtime.1 h.mtime.2, (⟨by decide, by decide⟩ : R64 0), (⟨by decide, by decide⟩ : R64 0)⟩
theorem longHd_R {k : UInt8} {s : List UInt8} (h : s.length ≤ 300) : (longHd k s).R := by
  have z : R64 0 := ⟨by decide, by decide⟩
  exact ⟨z, z, z, R64_le (by show (0 : Int) ≤ s.length + 1; omega) (by show (s.length : Int) + 1 ≤ _; omega), z, z, z⟩
theorem contHd_R {n : Nd} (h : One n) {off whole : Int} (h0 : 0 ≤ off) (h1 : off ≤ whole) (h2 : whole ≤ 4000) : (contHd n off whole).R := by
  refine ⟨R64_le h.mode.1 (by have := h.mode.2; show n.mode ≤ _; omega), R64_le h.uid.1 h.uid.2, R64_le h.gid.1 h.gid.2, R64_le ?_ ?_, R64_le h.mtime.1 h.mtime.2, R64_le h0 (by show off ≤ _; omega), R64_le ?_ ?_⟩
  all_goals simp only [contHd]; omega
theorem hput_fits {h : Hd} (f : Fits h) : hput h = some (blockOf h) := by unfold hput; rw [if_pos ((fits_iff _).2 f)]
theorem block512 {h : Hd} (f : Fits h) : ((hput h).getD []).length = 512 := by rw [hput_fits f]; exact blockOf_length _ f

/-! ### blocks -/
def AllB (l : List (List UInt8)) : Prop := ∀ b ∈ l, b.length = 512
theorem AllB.nil : AllB [] := by simp [AllB]
theorem AllB.append {l m : List (List UInt8)} (h : AllB l) (k : AllB m) : AllB (l ++ m) := fun b hb => by
  rcases List.mem_append.1 hb with hb | hb
  · exact h b hb
  · exact k b hb
theorem AllB.cons {b : List UInt8} {m : List (List UInt8)} (h : b.length = 512) (k : AllB m) : AllB (b :: m) := fun c hc => by
  rcases List.mem_cons.1 hc with rfl | hc
  · exact h
  · exact k c hc
theorem cutB_all (s : List UInt8) : AllB (cutB s) := cutB_blocks s.length s (Nat.le_refl _)
theorem cutB_len (s : List UInt8) : (cutB s).length = manyB s.length := cutB_length s.length s (Nat.le_refl _)
theorem zeros512 : (zeros 512).length = 512 := zeros_length 512
theorem lputB_all {k : UInt8} {s : List UInt8} : AllB ((lputB k s).getD []) := by
  unfold lputB
  by_cases h : ((k == 75 || k == 76) && ltext s) = true
  · rw [if_pos h]
    simp only [Bool.and_eq_true, Bool.or_eq_true, beq_iff_eq] at h
    exact AllB.cons (block512 (longHd_fits h.1 (ltext_iff.1 h.2).2.1)) (cutB_all _)
  · rw [if_neg h]; exact AllB.nil
theorem lputB_len {k : UInt8} {s : List UInt8} : ((lputB k s).getD []).length ≤ 2 := by
  unfold lputB
  by_cases h : ((k == 75 || k == 76) && ltext s) = true
  · rw [if_pos h]
    simp only [Bool.and_eq_true] at h
    have h1 := (ltext_iff.1 h.2).2.1
    rw [Option.getD_some, List.length_cons, cutB_len, List.length_append]
    simp only [List.length_singleton]
    unfold manyB; rw [if_neg (by omega)]; omega
  · rw [if_neg h]; simp
theorem eput_all (n : Nd) : AllB (eput n) := by
  unfold eput
  by_cases h : one n = true
  · rw [if_pos h]
    refine AllB.append (AllB.append ?_ (AllB.cons (block512 (ehead_fits (one_iff.1 h))) AllB.nil)) (cutB_all _)
    unfold aheadB
    refine AllB.append ?_ ?_ <;> split <;> first | exact lputB_all | exact AllB.nil
  · rw [if_neg h]; exact AllB.nil
theorem eput_pos {n : Nd} (h : one n = true) : 1 ≤ (eput n).length := by
  unfold eput; rw [if_pos h]; simp only [List.length_append, List.length_singleton]; omega
theorem eput_le (n : Nd) : (eput n).length ≤ 13 := by
  unfold eput
  by_cases h : one n = true
  · rw [if_pos h]
    have hd := kind_data (one_iff.1 h).kind
    have h1 : (aheadB n).length ≤ 4 := by
      unfold aheadB
      rw [List.length_append]
      have a1 := lputB_len (k := 75) (s := n.link)
      have a2 := lputB_len (k := 76) (s := n.path)
      split <;> split <;> simp <;> omega
    simp only [List.length_append, List.length_singleton, cutB_len]
    have : manyB n.data.length ≤ 8 := by unfold manyB; split <;> omega
    omega
  · rw [if_neg h]; simp
theorem tmay_one {t : List Nd} (h : tmay t = true) : ∀ n ∈ t, one n = true := by
  unfold tmay at h
  simp only [Bool.and_eq_true] at h
  have key : ∀ (l pre : List Nd), tmayGo pre l = true → ∀ n ∈ l, one n = true := by
    intro l
    induction l with
    | nil => intro _ _ n hn; cases hn
    | cons a l ih =>
      intro pre h n hn
      unfold tmayGo at h
      simp only [Bool.and_eq_true] at h
      rcases List.mem_cons.1 hn with rfl | hn
      · unfold nextOk at h
        simp only [Bool.and_eq_true] at h
        exact h.1.1
      · exact ih _ h.2 n hn
  exact key t [] h.2
theorem tmay_len {t : List Nd} (h : tmay t = true) : t.length ≤ 20 := by
  unfold tmay at h
  simp only [Bool.and_eq_true, decide_eq_true_eq] at h
  exact h.1
theorem sall_all (t : List Nd) : AllB (sall t) := by
  unfold sall
  split
  · refine AllB.append ?_ (AllB.cons zeros512 (AllB.cons zeros512 AllB.nil))
    intro b hb
    obtain ⟨l, hl, hb⟩ := List.mem_flatten.1 hb
    obtain ⟨n, _, rfl⟩ := List.mem_map.1 hl
    exact eput_all n b hb
  · exact AllB.nil
theorem flat_len : ∀ (t : List Nd), ((t.map eput).flatten).length ≤ 13 * t.length
  | [] => by simp
  | n :: t => by
    rw [List.map_cons, List.flatten_cons, List.length_append, List.length_cons]
    have := flat_len t
    have := eput_le n
    omega
theorem sall_len {t : List Nd} (h : tmay t = true) : 2 ≤ (sall t).length ∧ (sall t).length ≤ 262 := by
  unfold sall
  rw [if_pos h]
  have := flat_len t
  have := tmay_len h
  rw [List.length_append]
  simp only [List.length_cons, List.length_nil]
  omega
theorem sall_last {t : List Nd} (h : tmay t = true) : (sall t).getLast? = some (zeros 512) := by
  unfold sall
  rw [if_pos h]
  rw [List.getLast?_append]
  simp
theorem cput_all (n : Nd) (off : Int) : AllB (cput n off) := by
  unfold cput
  by_cases h : cmay n off = true
  · rw [if_pos h]
    have h' := h
    unfold cmay cfile at h'
    simp only [Bool.and_eq_true, decide_eq_true_eq, beq_iff_eq] at h'
    have ho := one_iff.1 h'.1.2
    have hd := kind_data ho.kind
    unfold cputB
    refine AllB.append ?_ (AllB.cons (block512 (contHd_fits ho h'.2.1 (by omega) (by omega))) AllB.nil)
    split
    · exact lputB_all
    · exact AllB.nil
  · rw [if_neg h]; exact AllB.nil
theorem cput_len (n : Nd) (off : Int) : (cput n off).length ≤ 3 := by
  unfold cput
  split
  · unfold cputB
    rw [List.length_append]
    have := lputB_len (k := 76) (s := n.path)
    split <;> simp only [List.length_nil, List.length_singleton] <;> omega
  · simp
end Go.Proofs.YtldhcknjpmbgnaaGreatDoor.Rk
/- Trees: plain laws: the order of paths, the kinds of those that stand ahead. -/
namespace Go.Proofs.YtldhcknjpmbgnaaGreatDoor.Rk
open Go.RowKit
set_option linter.unusedVariables false
set_option linter.unusedSimpArgs false

theorem leB_eq : ∀ l m : List UInt8, leB l m = (Op.bytesLess l m || l == m)
  | [], [] => by simp [leB]
  | [], b :: m => by simp [leB, Op.bytesLess]
  | a :: l, [] => by simp [leB, Op.bytesLess]
  | a :: l, b :: m => by
    unfold leB Op.bytesLess
    rw [leB_eq l m]
    by_cases h1 : a < b
    · simp [h1]
    · by_cases h2 : a = b
      · subst h2; simp
      · have h3 : (a == b) = false := by simpa using h2
        simp [h1, h3]
theorem bl_trans : ∀ {a b c : List UInt8}, Op.bytesLess a b = true → Op.bytesLess b c = true → Op.bytesLess a c = true
  | _, _, [], _, h => by simp [Op.bytesLess] at h
  | [], _, c :: z, _, _ => by simp [Op.bytesLess]
  | a :: x, [], c :: z, h, _ => by simp [Op.bytesLess] at h
  | a :: x, b :: y, c :: z, h, k => by
    unfold Op.bytesLess at h k ⊢
    simp only [Bool.or_eq_true, Bool.and_eq_true, decide_eq_true_eq, beq_iff_eq] at h k ⊢
    rcases h with h | ⟨h, h'⟩
    · rcases k with k | ⟨k, k'⟩
      · exact .inl (UInt8.lt_trans h k)
      · subst k; exact .inl h
    · subst h
      rcases k with k | ⟨k, k'⟩
      · exact .inl k
      · exact .inr ⟨k, bl_trans h' k'⟩
theorem bl_total : ∀ (a b : List UInt8), Op.bytesLess a b = true ∨ a = b ∨ Op.bytesLess b a = true
  | [], [] => .inr (.inl rfl)
  | [], b :: y => .inl (by simp [Op.bytesLess])
  | a :: x, [] => .inr (.inr (by simp [Op.bytesLess]))
  | a :: x, b :: y => by
    unfold Op.bytesLess
    simp only [Bool.or_eq_true, Bool.and_eq_true, decide_eq_true_eq, beq_iff_eq]
    by_cases h1 : a < b
    · exact .inl (.inl h1)
    · by_cases h2 : b < a
      · exact .inr (.inr (.inl h2))
      · have h3 : a = b := UInt8.toNat_inj.1 (by rw [UInt8.lt_iff_toNat_lt] at h1 h2; omega)
        subst h3
        rcases bl_total x y with h | h | h
        · exact .inl (.inr ⟨rfl, h⟩)
        · exact .inr (.inl (by rw [h]))
        · exact .inr (.inr (.inr ⟨rfl, h⟩))
theorem leB_iff {a b : List UInt8} : leB a b = true ↔ Op.bytesLess a b = true ∨ a = b := by rw [leB_eq]; simp
theorem not_leB {a b : List UInt8} : leB a b = false ↔ Op.bytesLess b a = true := by
  constructor
  · intro h
    rcases bl_total a b with k | k | k
    · rw [leB_iff.2 (.inl k)] at h; cases h
    · rw [leB_iff.2 (.inr k)] at h; cases h
    · exact k
  · intro h
    cases k : leB a b with
    | false => rfl
    | true =>
      rcases leB_iff.1 k with k | k
      · have := bl_trans k h; rw [bytesLess_irrefl] at this; cases this
      · subst k; rw [bytesLess_irrefl] at h; cases h
/-- What holds of the nodes that were looked at: none is behind the last one, and no path stands twice. -/
structure TInv (pre : List Nd) : Prop where
  le : ∀ m ∈ pre, leB m.path (lastPath pre) = true
  once : (pre.map (·.path)).Nodup
theorem TInv.nil : TInv [] := ⟨by simp, by simp⟩
theorem lastPath_snoc (pre : List Nd) (n : Nd) : lastPath (pre ++ [n]) = n.path := by simp [lastPath]
theorem TInv.fresh {pre : List Nd} (h : TInv pre) {n : Nd} (hn : leB n.path (lastPath pre) = false) : ∀ m ∈ pre, m.path ≠ n.path := fun m hm e => by
  have := h.le m hm
  rw [e, hn] at this; cases this
theorem TInv.step {pre : List Nd} (h : TInv pre) {n : Nd} (hn : leB n.path (lastPath pre) = false) : TInv (pre ++ [n]) := by
  refine ⟨fun m hm => ?_, ?_⟩
  · rw [lastPath_snoc]
    rcases List.mem_append.1 hm with hm | hm
    · have h1 := h.le m hm
      have h2 := not_leB.1 hn
      rcases leB_iff.1 h1 with h1 | h1
      · exact leB_iff.2 (.inl (bl_trans h1 h2))
      · rw [h1]; exact leB_iff.2 (.inl h2)
    · rw [List.mem_singleton.1 hm]; exact leB_iff.2 (.inr rfl)
  · rw [List.map_append, List.nodup_append]
    refine ⟨h.once, by simp, ?_⟩
    intro a ha b hb
    obtain ⟨m, hm, rfl⟩ := List.mem_map.1 ha
    rw [List.map_singleton, List.mem_singleton] at hb
    subst hb
    exact h.fresh hn m hm
/-- The kind of whom a path is. -/
theorem kindAt_cases {pre : List Nd} (h : TInv pre) (p : List UInt8) : (∃ m ∈ pre, m.path = p ∧ kindAt pre p = m.kind ∧ ∀ m' ∈ pre, m'.path = p → m'.kind = m.kind) ∨ ((∀ m ∈ pre, m.path ≠ p) ∧ kindAt pre p = 0) := by
  unfold kindAt
  cases hf : pre.reverse.find? (fun n => n.path == p) with
  | none =>
    right
    rw [List.find?_eq_none] at hf
    exact ⟨fun m hm e => hf m (List.mem_reverse.2 hm) (by simp [e]), rfl⟩
  | some m =>
    left
    have hm := List.mem_reverse.1 (List.mem_of_find?_eq_some hf)
    have hp : m.path = p := by simpa using List.find?_some hf
    refine ⟨m, hm, hp, rfl, fun m' hm' hp' => ?_⟩
    have hinj : ∀ {l : List Nd}, (l.map (·.path)).Nodup → ∀ a ∈ l, ∀ b ∈ l, a.path = b.path → a = b := by
      intro l
      induction l with
      | nil => intro _ a ha; cases ha
      | cons c l ih =>
        intro hd a ha b hb e
        rw [List.map_cons, List.nodup_cons] at hd
        rcases List.mem_cons.1 ha with h1 | h1
        · rcases List.mem_cons.1 hb with h2 | h2
          · rw [h1, h2]
          · exact absurd (show c.path ∈ l.map (·.path) from List.mem_map.2 ⟨b, h2, by rw [← h1]; exact e.symm⟩) hd.1
        · rcases List.mem_cons.1 hb with h2 | h2
          · exact absurd (show c.path ∈ l.map (·.path) from List.mem_map.2 ⟨a, h1, by rw [← h2]; exact e⟩) hd.1
          · exact ih hd.2 a h1 b h2 e
    rw [hinj h.once m' hm' m hm (hp'.trans hp.symm)]
/-- How a tree is looked at, node by node. -/
theorem tmayGo_step {t : List Nd} {k : Nat} {n : Nd} (hn : t[k]? = some n) : tmayGo (t.take k) (t.drop k) = (nextOk (t.take k) n && tmayGo (t.take (k + 1)) (t.drop (k + 1))) := by
  have hlt := (List.getElem?_eq_some_iff.1 hn).1
  have h := (List.getElem?_eq_some_iff.1 hn).2
  rw [List.drop_eq_getElem_cons hlt, h, tmayGo, List.take_succ_eq_append_getElem hlt, h]
end Go.Proofs.YtldhcknjpmbgnaaGreatDoor.Rk
