/- Trees as blocks, as volumes: plain Lean: trees, the stream, what goes on, the volumes. -/
import Derived.Test.YtmjicapjkmkckaaGreatDoorVolA
import Derived.Lib.LastIndexByte
namespace Go.Proofs.YtmjicapjkmkckaaGreatDoor.Rk
open Go.RowKit
set_option linter.unusedVariables false
set_option linter.unusedSimpArgs false

/-! ### trees -/
def leB : List UInt8 → List UInt8 → Bool
  | [], _ => true
  | _ :: _, [] => false
  | a :: l, b :: m => decide (a < b) || (a == b && leB l m)
/-- The kind of the last node of such a path; 0, if there is none. -/
def kindAt (t : List Nd) (p : List UInt8) : UInt8 := match t.reverse.find? (fun n => n.path == p) with
  | some n => n.kind
  | none => 0
/-- The last place of a byte. -/
def lastIdx (c : UInt8) (l : List UInt8) : Int := Lib.lastIndexByte (ofL l) c.toNat
def parent (p : List UInt8) : List UInt8 × Bool := if lastIdx 47 p < 0 || !pmay p then ([], false) else (p.take (lastIdx 47 p).toNat, true)
def lastPath (t : List Nd) : List UInt8 := (t.getLast?.map (·.path)).getD []
/-- May a node stand behind these? -/
def nextOk (t : List Nd) (n : Nd) : Bool :=
  one n && (!leB n.path (lastPath t) && (!((parent n.path).2 && !(kindAt t (parent n.path).1 == 53)) && !(n.kind == 49 && !(kindAt t n.link == 48))))
def tmayGo : List Nd → List Nd → Bool
  | _, [] => true
  | t, n :: l => nextOk t n && tmayGo (t ++ [n]) l
def tmay (t : List Nd) : Bool := decide (t.length ≤ 20) && tmayGo [] t

/-! ### the stream -/
def zblocks (n : Nat) : List (List UInt8) := if n < 1 ∨ 400 < n then [] else List.replicate n (zeros 512)
def sall (t : List Nd) : List (List UInt8) := if tmay t then (t.map eput).flatten ++ [zeros 512, zeros 512] else []
def startsGo : Nat → List Nd → List Nat
  | _, [] => []
  | p, n :: l => (p + (eput n).length) :: startsGo (p + (eput n).length) l
def starts (t : List Nd) : List Nat := if tmay t then 0 :: startsGo 0 t else []
/-- Whose a block is: the node's number, and which of its bytes' blocks. -/
def whereB (t : List Nd) (i : Int) : Int × Int :=
  if i < 0 ∨ ((sall t).length : Int) ≤ i then (-1, -1)
  else
    let l := starts t
    let k : Int := (match l.findIdx? (fun at' : Nat => decide (i < (at' : Int))) with | some j => (j : Int) | none => -1) - 1
    if k < 0 then (t.length, -1)
    else match t[k.toNat]? with
      | some n => (k, max (-1) (i - (l.getD (k.toNat + 1) 0 : Nat) + (edata n : Nat)))
      | none => (k, -1)

/-! ### what goes on -/
def cfile (n : Nd) : Bool := n.kind == 48 && one n
def cmay (n : Nd) (off : Int) : Bool := cfile n && (decide (0 ≤ off) && (decide (off < n.data.length) && off % 512 == 0))
def contHd (n : Nd) (off whole : Int) : Hd := ⟨short n.path, [], [], n.mode, n.uid, n.gid, whole - off, n.mtime, 77, off, whole⟩
def cputB (n : Nd) (off whole : Int) : List (List UInt8) := (if 100 < n.path.length then (lputB 76 n.path).getD [] else []) ++ [(hput (contHd n off whole)).getD []]
def cput (n : Nd) (off : Int) : List (List UInt8) := if cmay n off then cputB n off n.data.length else []

/-! ### volumes -/
structure St where
  label : List UInt8
  b : Int
  caps : List Int
def smay (s : St) : Bool := lmay s.label 1 && (decide (1 ≤ s.b) && (decide (s.b ≤ 20) && (decide (s.caps.length ≤ 12) && s.caps.all (fun n => decide (0 ≤ n) && decide (n ≤ 200)))))
/-- What a volume begins with. -/
def vbeg (t : List Nd) (s : St) (pos n : Int) : List (List UInt8) :=
  (lput s.label n).getD [] :: (if (whereB t pos).2 = -1 then [] else match t[(whereB t pos).1.toNat]? with | some nd => cput nd (512 * (whereB t pos).2) | none => [])
def vbegin (t : List Nd) (s : St) (pos n : Int) : Option (List (List UInt8)) :=
  if (lput s.label n).isSome ∧ 0 ≤ pos ∧ pos < (sall t).length then some (vbeg t s pos n) else none
def vbeginO (t : List Nd) (s : St) (pos n : Int) : Option (List (List UInt8)) := if tmay t && smay s then vbegin t s pos n else none
section
variable {β : Type}
/-- The volumes from a place on: all blocks, what a volume begins with, blocks of noughts, the blocks of a record, the capacities that are left, how many volumes there are, the place. -/
def sgo (all : List β) (bg : Nat → Nat → List β) (z : Nat → List β) (B : Nat) : List Nat → Nat → Nat → List (List β) × Int
  | [], _, pos => ([], if pos < all.length then 14 else 0)
  | cap :: caps, i, pos =>
    if pos < all.length then
      if B * cap ≤ (bg pos (i + 1)).length then ([], 13)
      else
        let e := min all.length (pos + (B * cap - (bg pos (i + 1)).length))
        let v := bg pos (i + 1) ++ (all.take e).drop pos
        let r := sgo all bg z B caps (i + 1) e
        ((if e = all.length ∧ 0 < v.length % B then v ++ z (B - v.length % B) else v) :: r.1, r.2)
    else ([], 0)
end
def vsplit (t : List Nd) (s : St) : List (List (List UInt8)) × Int :=
  if tmay t && smay s then sgo (sall t) (fun pos n => vbeg t s pos n) zblocks s.b.toNat (s.caps.map Int.toNat) 0 0 else ([], 1)
def vneeds (t : List Nd) (s : St) : Int := if (vsplit t s).2 = 0 then (vsplit t s).1.length else -1
end Go.Proofs.YtmjicapjkmkckaaGreatDoor.Rk
