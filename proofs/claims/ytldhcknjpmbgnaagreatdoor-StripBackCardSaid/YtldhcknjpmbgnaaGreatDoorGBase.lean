/- GBase: Base Base2 Base3 Fork Fork2 -/
import Derived.WalkKit
import Derived.ArgAppend
import Derived.OwnWalk
import Derived.OneCell
import Derived.Below
import Derived.KernelRfl
import Derived.RowKit
import Derived.RowKit3
import Derived.Lib.ConvBytes
import Derived.Laws.MakeOwn
import Derived.Laws.OwnMore
import Derived.Laws.BytesArg
import Derived.Laws.IdiomCopy
import Derived.Laws.CopyOwn
import Derived.LoopTactic
import Derived.Deep.LoopGhost
import Derived.Deep.QuietTactic
import Derived.BigQuiet
import Derived.Deep.DeepCutAuto
import Derived.Deep.CutBlock
import Derived.Deep.RegionHeld3
import Derived.Deep.RegionLaw
import Derived.StillTailTactics
import Derived.WalkSmall
import Derived.Lib.Hide
import Derived.Lib.Strings
import Derived.Maps.AppendAt
import Derived.StillTail
set_option maxRecDepth 100000
/- Base words: slices that are read, rows that a call has made, what stays as it was. No program's text. -/
set_option linter.unusedVariables false
set_option linter.unusedSimpArgs false
namespace Go.Proofs.YtldhcknjpmbgnaaGreatDoor.Rk
open Go.RowKit

/-- A fact that the walk's simp doesn't look into. -/
structure Au (p : Prop) : Prop where mk :: (out : p)

/-- A name for a term, hidden from the walk. -/
theorem au {α : Type} (a : α) : ∃ x, Au (a = x) := ⟨a, ⟨rfl⟩⟩

/-! ### addresses, blocks -/
theorem add0 (g j : Nat) : (⟨g, 0, none⟩ : Addr).add j = ⟨g, j, none⟩ := by unfold Addr.add; split <;> simp_all
theorem add_add (a : Addr) (i j : Nat) : (a.add i).add j = a.add (i + j) := by
  unfold Addr.add
  by_cases h1 : i = 0 <;> by_cases h2 : j = 0 <;> simp [h1, h2, Nat.add_assoc]
theorem add_zero (a : Addr) : a.add 0 = a := by simp [Addr.add]
theorem add_block (a : Addr) (n : Nat) : (a.add n).block = a.block := by unfold Addr.add; split <;> rfl
theorem blk_set {w : World} {g : Nat} {t : TypeId} {cs : List Value} (h : w.heap[g]? = some (.cells cs.toArray t (0, 0))) (j : Nat) (u : Value) :
    (w.setCell ⟨g, j, none⟩ u).heap[g]? = some (.cells (cs.set j u).toArray t (0, 0)) := by
  have hlt := lt_of_block h
  have h' : w.heap[g] = .cells cs.toArray t (0, 0) := by simpa [Array.getElem?_eq_getElem hlt] using h
  show (w.heap.modify g _)[g]? = _
  rw [Array.getElem?_eq_getElem (by simpa using hlt), Array.getElem_modify_self, h']
  simp
theorem blk_far {w : World} {g : Nat} {o : Obj} (h : w.heap[g]? = some o) {p : Addr} (hp : g ≠ p.block) (u : Value) : (w.setCell p u).heap[g]? = some o :=
  (Below.heap_setCell w p u g hp).trans h
theorem blk_cell {w : World} {g : Nat} {t : TypeId} {cs : List Value} (h : w.heap[g]? = some (.cells cs.toArray t (0, 0))) (j : Nat) {v : Value} (hv : cs[j]? = some v) :
    w.cell? ⟨g, j, none⟩ = some v := by rw [cell_of_row w g j _ t _ h]; simpa using hv
theorem blk_free {w : World} {g : Nat} {t : TypeId} {cs : Array Value} (h : w.heap[g]? = some (.cells cs t (0, 0))) (j : Nat) : w.frozen? ⟨g, j, none⟩ = false := by simp [World.frozen?, h]
theorem blk_alloc {w : World} {g : Nat} {o : Obj} (h : w.heap[g]? = some o) (o' : Obj) : (w.alloc o').heap[g]? = some o := (Below.heap_alloc w o' g (lt_of_block h)).trans h
theorem blk_below {w w' : World} {B g : Nat} {o : Obj} (h : w.heap[g]? = some o) (hb : Below B w w') (hg : g < B) : w'.heap[g]? = some o := (hb.block g hg).trans h

/-! ### what stays -/
/-- The blocks of F are as they were. -/
def Keeps (F : Nat → Prop) (w W : World) : Prop := ∀ k, F k → k < w.heap.size → W.heap[k]? = w.heap[k]?
theorem Keeps.refl (F : Nat → Prop) (w : World) : Keeps F w w := fun _ _ _ => rfl
theorem Keeps.mono {F G : Nat → Prop} {w W : World} (h : Keeps G w W) (hs : ∀ k, F k → G k) : Keeps F w W := fun k hk => h k (hs k hk)
theorem Keeps.trans {F : Nat → Prop} {w W V : World} (h : Keeps F w W) (hs : w.heap.size ≤ W.heap.size) (k : Keeps F W V) : Keeps F w V :=
  fun i hF hi => (k i hF (Nat.lt_of_lt_of_le hi hs)).trans (h i hF hi)
theorem Keeps.below {F : Nat → Prop} {w W : World} (h : Below w.heap.size w W) : Keeps F w W := fun k _ hk => h.block k hk
theorem Keeps.below' {F : Nat → Prop} {B : Nat} {w W : World} (h : Below B w W) (hF : ∀ k, F k → k < B) : Keeps F w W := fun k hk _ => h.block k (hF k hk)
theorem Keeps.set {F : Nat → Prop} (w : World) {p : Addr} (u : Value) (hp : ¬ F p.block) : Keeps F w (w.setCell p u) :=
  fun k hk _ => Below.heap_setCell w p u k (fun e => hp (e ▸ hk))
theorem Keeps.grown {F : Nat → Prop} {w W : World} {row : Option Nat} (h : w.grownBy W row) (hr : ∀ g, row = some g → ¬ F g) : Keeps F w W :=
  fun k hk hlt => h.block k hlt (fun e => hr k e.symm hk)
theorem Keeps.alloc {F : Nat → Prop} (w : World) (o : Obj) : Keeps F w (w.alloc o) := fun k _ hk => Below.heap_alloc w o k hk

/-! ### cells that are read -/
def Cells (w : World) (A : Option Addr) (vs : List Value) : Prop := vs ≠ [] → ∃ b o, A = some ⟨b, o, none⟩ ∧ ∀ j u, vs[j]? = some u → w.cell? ⟨b, o + j, none⟩ = some u
theorem Cells.nil (w : World) (A : Option Addr) : Cells w A [] := fun h => absurd rfl h
theorem Cells.at_ {w : World} {A : Option Addr} {vs : List Value} (h : Cells w A vs) {j : Nat} {u : Value} (hu : vs[j]? = some u) : ∃ b o, A = some ⟨b, o, none⟩ ∧ w.cell? ⟨b, o + j, none⟩ = some u := by
  obtain ⟨b, o, e, hc⟩ := h (by rintro rfl; simp at hu)
  exact ⟨b, o, e, hc j u hu⟩
theorem Cells.of_add {w : World} {A : Option Addr} {vs : List Value} (h : vs ≠ [] → ∃ ad, A = some ad ∧ ∀ j u, vs[j]? = some u → w.cell? (ad.add j) = some u) : Cells w A vs := fun hn => by
  obtain ⟨⟨b, o, sp⟩, e, hc⟩ := h hn
  obtain ⟨u, hu⟩ : ∃ u, vs[0]? = some u := by
    cases vs with
    | nil => exact absurd rfl hn
    | cons u _ => exact ⟨u, rfl⟩
  have h0 := hc 0 u hu
  rw [add_zero] at h0
  have hs : sp = none := by
    cases sp with
    | none => rfl
    | some x => simp [World.cell?] at h0; split at h0 <;> cases h0
  subst hs
  exact ⟨b, o, e, fun j u hu => by have := hc j u hu; rwa [Addr.add_lit] at this⟩
theorem Cells.to_add {w : World} {A : Option Addr} {vs : List Value} (h : Cells w A vs) (hn : vs ≠ []) : ∃ ad, A = some ad ∧ ∀ j u, vs[j]? = some u → w.cell? (ad.add j) = some u := by
  obtain ⟨b, o, e, hc⟩ := h hn
  exact ⟨_, e, fun j u hu => by rw [Addr.add_lit]; exact hc j u hu⟩
theorem Cells.loc {w W : World} {A : Option Addr} {vs : List Value} (h : Cells w A vs) (hk : Keeps (fun _ => True) w W) : Cells W A vs := fun hn => by
  obtain ⟨b, o, e, hc⟩ := h hn
  refine ⟨b, o, e, fun j u hu => ?_⟩
  have h1 := hc j u hu
  have h2 := World.block_lt_of_cell? w _ h1
  exact (World.cell?_of_block (hk _ trivial h2)).trans h1
theorem Cells.take {w : World} {A : Option Addr} {vs : List Value} (h : Cells w A vs) (n : Nat) : Cells w A (vs.take n) := fun hn => by
  obtain ⟨b, o, e, hc⟩ := h (by rintro rfl; simp at hn)
  refine ⟨b, o, e, fun j u hu => hc j u ?_⟩
  rw [List.getElem?_take] at hu
  split at hu
  · exact hu
  · cases hu
theorem Cells.drop {w : World} {b o : Nat} {vs : List Value} (h : Cells w (some ⟨b, o, none⟩) vs) (n : Nat) : Cells w (some ⟨b, o + n, none⟩) (vs.drop n) := fun hn => by
  obtain ⟨b', o', e, hc⟩ := h (by rintro rfl; simp at hn)
  cases e
  refine ⟨_, _, rfl, fun j u hu => ?_⟩
  rw [Nat.add_assoc]
  exact hc _ u (by rwa [List.getElem?_drop] at hu)

/-! ### kinds -/
structure Kd (α : Type) where
  sz : Nat
  K : World → α → List Value → Prop
  len : ∀ {w x cs}, K w x cs → cs.length = sz
  one : ∀ {w x cs}, K w x cs → ∀ u ∈ cs, u.oneCell' = true
  loc : ∀ {w W x cs}, Keeps (fun _ => True) w W → K w x cs → K W x cs
def Kd.flat {α : Type} (n : Nat) (enc : α → List Value) (hl : ∀ x, (enc x).length = n) (h1 : ∀ x, ∀ u ∈ enc x, u.oneCell' = true) : Kd α where
  sz := n
  K := fun _ x cs => cs = enc x
  len := fun h => by rw [h, hl]
  one := fun h u hu => h1 _ u (h ▸ hu)
  loc := fun _ h => h
def Kd.one1 {α : Type} (enc : α → Value) (h1 : ∀ x, (enc x).oneCell' = true) : Kd α :=
  Kd.flat 1 (fun x => [enc x]) (fun _ => rfl) (fun x u hu => by rw [List.mem_singleton.1 hu]; exact h1 x)
def Kd.byte : Kd UInt8 := Kd.one1 (fun b => .int .u8 b.toNat) (fun _ => rfl)
/-- Elements without memory, of which something holds. -/
def Kd.flatI {α : Type} (n : Nat) (enc : α → List Value) (I : α → Prop) (hl : ∀ x, (enc x).length = n) (h1 : ∀ x, ∀ u ∈ enc x, u.oneCell' = true) : Kd α where
  sz := n
  K := fun _ x cs => cs = enc x ∧ I x
  len := fun h => by rw [h.1, hl]
  one := fun h u hu => h1 _ u (h.1 ▸ hu)
  loc := fun _ h => h
def R64 (n : Int) : Prop := -9223372036854775808 ≤ n ∧ n < 9223372036854775808
def Kd.int : Kd Int := Kd.flatI 1 (fun n => [.int .i64 n]) R64 (fun _ => rfl) (fun x u hu => by rw [List.mem_singleton.1 hu]; rfl)

def Reps {α : Type} (d : Kd α) (w : World) : List α → List Value → Prop
  | [], vs => vs = []
  | x :: xs, vs => ∃ c r, vs = c ++ r ∧ d.K w x c ∧ Reps d w xs r
section
variable {α : Type} {d : Kd α} {w W : World}
theorem Reps.len : ∀ {xs : List α} {vs : List Value}, Reps d w xs vs → vs.length = xs.length * d.sz
  | [], _, h => by simp [show _ = [] from h]
  | x :: xs, _, ⟨c, r, e, hc, hr⟩ => by rw [e, List.length_append, d.len hc, hr.len, List.length_cons, Nat.succ_mul, Nat.add_comm]
theorem Reps.one : ∀ {xs : List α} {vs : List Value}, Reps d w xs vs → ∀ u ∈ vs, u.oneCell' = true
  | [], _, h, u, hu => by rw [show _ = [] from h] at hu; cases hu
  | x :: xs, _, ⟨c, r, e, hc, hr⟩, u, hu => by
    rw [e, List.mem_append] at hu
    rcases hu with hu | hu
    · exact d.one hc u hu
    · exact hr.one u hu
theorem Reps.loc (hk : Keeps (fun _ => True) w W) : ∀ {xs : List α} {vs : List Value}, Reps d w xs vs → Reps d W xs vs
  | [], _, h => h
  | x :: xs, _, ⟨c, r, e, hc, hr⟩ => ⟨c, r, e, d.loc hk hc, hr.loc hk⟩
theorem Reps.append : ∀ {xs ys : List α} {vs us : List Value}, Reps d w xs vs → Reps d w ys us → Reps d w (xs ++ ys) (vs ++ us)
  | [], _, _, _, h, k => by rw [show _ = [] from h]; exact k
  | x :: xs, _, _, us, ⟨c, r, e, hc, hr⟩, k => ⟨c, r ++ us, by rw [e, List.append_assoc], hc, hr.append k⟩
theorem Reps.single {x : α} {c : List Value} (h : d.K w x c) : Reps d w [x] c := ⟨c, [], by simp, h, rfl⟩
theorem Reps.at_ : ∀ {xs : List α} {vs : List Value} (i : Nat) {x : α}, Reps d w xs vs → xs[i]? = some x → d.K w x ((vs.drop (i * d.sz)).take d.sz)
  | [], _, _, _, _, h => by simp at h
  | x :: xs, _, 0, y, ⟨c, r, e, hc, hr⟩, h => by
    have : x = y := by simpa using h
    subst this
    rw [e]
    simp only [Nat.zero_mul, List.drop_zero]
    rw [← d.len hc, List.take_left]; exact hc
  | x :: xs, _, i + 1, y, ⟨c, r, e, hc, hr⟩, h => by
    have := hr.at_ i (by simpa using h)
    have e2 : (c ++ r).drop ((i + 1) * d.sz) = r.drop (i * d.sz) := by
      rw [Nat.succ_mul, Nat.add_comm, ← List.drop_drop, ← d.len hc, List.drop_left]
    rw [e, e2]; exact this
theorem Reps.take : ∀ {xs : List α} {vs : List Value} (n : Nat), Reps d w xs vs → Reps d w (xs.take n) (vs.take (n * d.sz))
  | [], _, n, h => by rw [show _ = [] from h]; simp; rfl
  | x :: xs, _, 0, h => by simp; rfl
  | x :: xs, _, n + 1, ⟨c, r, e, hc, hr⟩ => by
    refine ⟨c, r.take (n * d.sz), ?_, hc, hr.take n⟩
    rw [e, List.take_append, d.len hc, Nat.succ_mul, List.take_of_length_le (by rw [d.len hc]; omega)]
    congr 2; omega
theorem Reps.drop : ∀ {xs : List α} {vs : List Value} (n : Nat), Reps d w xs vs → Reps d w (xs.drop n) (vs.drop (n * d.sz))
  | [], _, n, h => by rw [show _ = [] from h]; simp; rfl
  | x :: xs, _, 0, h => by simpa using h
  | x :: xs, _, n + 1, ⟨c, r, e, hc, hr⟩ => by
    have := hr.drop n
    have e2 : (c ++ r).drop ((n + 1) * d.sz) = r.drop (n * d.sz) := by
      rw [Nat.succ_mul, Nat.add_comm, ← List.drop_drop, ← d.len hc, List.drop_left]
    rw [e, e2]; exact this
end
/-- One-cell elements without memory. -/
theorem Reps.one1 {α : Type} {enc : α → Value} {h1 : ∀ x, (enc x).oneCell' = true} {w : World} : ∀ {xs : List α} {vs : List Value}, Reps (Kd.one1 enc h1) w xs vs ↔ vs = xs.map enc
  | [], _ => Iff.rfl
  | x :: xs, vs => by
    constructor
    · rintro ⟨c, r, e, hc, hr⟩
      rw [e, show c = [enc x] from hc, Reps.one1.1 hr]; rfl
    · intro h
      exact ⟨[enc x], xs.map enc, h, rfl, Reps.one1.2 rfl⟩

/-- The slice at A, of so great a capacity, reads as xs, whatever happens outside of F. -/
def Sl {α : Type} (d : Kd α) (w : World) (F : Nat → Prop) (A : Option Addr) (c : Nat) (xs : List α) : Prop :=
  xs.length ≤ c ∧ c ≤ 9223372036854775807 ∧ ∃ vs, ∀ W, Keeps F w W → Cells W A vs ∧ Reps d W xs vs
section
variable {α : Type} {d : Kd α} {w W : World} {F G : Nat → Prop} {A : Option Addr} {c : Nat} {xs : List α}
theorem Sl.mono (h : Sl d w F A c xs) (hs : ∀ k, F k → G k) : Sl d w G A c xs := ⟨h.1, h.2.1, h.2.2.imp fun vs hv W hW => hv W (hW.mono hs)⟩
theorem Sl.keep (h : Sl d w F A c xs) (hk : Keeps F w W) (hs : w.heap.size ≤ W.heap.size) : Sl d W F A c xs :=
  ⟨h.1, h.2.1, h.2.2.imp fun vs hv V hV => hv V (hk.trans hs hV)⟩
theorem Sl.below (h : Sl d w F A c xs) (hb : Below w.heap.size w W) : Sl d W F A c xs := h.keep (.below hb) hb.size
theorem Sl.set (h : Sl d w F A c xs) {p : Addr} (u : Value) (hp : ¬ F p.block) : Sl d (w.setCell p u) F A c xs := h.keep (.set w u hp) (by simp [World.setCell])
theorem Sl.grown (h : Sl d w F A c xs) {row : Option Nat} (hg : w.grownBy W row) (hr : ∀ g, row = some g → ¬ F g) : Sl d W F A c xs := h.keep (.grown hg hr) hg.size
theorem Sl.alloc (h : Sl d w F A c xs) (o : Obj) : Sl d (w.alloc o) F A c xs := h.keep (.alloc w o) (by simp)
theorem Sl.drewN (h : Sl d w F A c xs) (n : Nat) : Sl d (w.drewN n) F A c xs := h.keep (fun _ _ _ => rfl) (Nat.le_refl _)
theorem Sl.now (h : Sl d w F A c xs) : ∃ vs, Cells w A vs ∧ Reps d w xs vs := h.2.2.imp fun vs hv => hv w (.refl _ _)
theorem Sl.le (h : Sl d w F A c xs) : xs.length ≤ 9223372036854775807 := Nat.le_trans h.1 h.2.1
/-- All that is there now. -/
theorem Sl.mk_now {vs : List Value} (h1 : xs.length ≤ c) (h2 : c ≤ 9223372036854775807) (hc : Cells w A vs) (hr : Reps d w xs vs) : Sl d w (fun _ => True) A c xs :=
  ⟨h1, h2, vs, fun W hW => ⟨hc.loc hW, hr.loc hW⟩⟩
theorem Sl.all (h : Sl d w F A c xs) : Sl d w (fun _ => True) A c xs := h.mono fun _ _ => trivial
theorem Sl.nil (d : Kd α) (w : World) (F : Nat → Prop) : Sl d w F none 0 [] := ⟨Nat.le_refl _, by decide, [], fun _ _ => ⟨Cells.nil _ _, rfl⟩⟩
end
/-- A slice as an element. -/
def Kd.slice {α : Type} (d : Kd α) : Kd (List α) where
  sz := 1
  K := fun w xs cs => ∃ A c, cs = [.slice A xs.length c] ∧ xs.length ≤ c ∧ c ≤ 9223372036854775807 ∧ ∃ vs, Cells w A vs ∧ Reps d w xs vs
  len := by rintro w x cs ⟨A, c, rfl, _⟩; rfl
  one := by rintro w x cs ⟨A, c, rfl, _⟩ u hu; rw [List.mem_singleton.1 hu]; rfl
  loc := by
    rintro w W x cs hk ⟨A, c, rfl, h1, h2, vs, hc, hr⟩
    exact ⟨A, c, rfl, h1, h2, vs, hc.loc hk, hr.loc hk⟩

/-! ### bytes -/
def ofL (l : List UInt8) : ByteArray := ⟨l.toArray⟩
def bcs (l : List UInt8) : List Value := l.map fun b => .int .u8 b.toNat
theorem bcs_length (l : List UInt8) : (bcs l).length = l.length := by simp [bcs]
theorem bcs_append (l m : List UInt8) : bcs (l ++ m) = bcs l ++ bcs m := by simp [bcs]
theorem reps_bytes {w : World} {l : List UInt8} {vs : List Value} : Reps Kd.byte w l vs ↔ vs = bcs l := Reps.one1
theorem bcs_one (l : List UInt8) : ∀ u ∈ bcs l, u.oneCell' = true := by intro u hu; obtain ⟨_, _, rfl⟩ := List.mem_map.1 hu; rfl
theorem ofL_data (s : ByteArray) : ofL s.data.toList = s := by cases s; rfl
theorem ofL_size (l : List UInt8) : (ofL l).size = l.length := by simp [ofL, ByteArray.size]
@[go_sem] theorem ofL_toList (l : List UInt8) : (ofL l).toList = l := Lib.toList_data (ofL l)
theorem ofL_inj {l m : List UInt8} (h : ofL l = ofL m) : l = m := by simpa [ofL] using h
section
variable {w : World} {F : Nat → Prop} {A : Option Addr} {c : Nat} {l : List UInt8}
/-- All of a slice of bytes. -/
theorem Sl.bytes (h : Sl Kd.byte w F A c l) : Cells w A (bcs l) := by
  obtain ⟨vs, hc, hr⟩ := h.now
  rw [reps_bytes] at hr
  exact hr ▸ hc
theorem Sl.byte_at (h : Sl Kd.byte w F A c l) (i : Nat) (hi : i < l.length) : ∃ b o, A = some ⟨b, o, none⟩ ∧ w.cell? ⟨b, o + i, none⟩ = some (.int .u8 (l[i].toNat : Int)) :=
  h.bytes.at_ (by simp [bcs, hi])
theorem Sl.of_bytes (h1 : l.length ≤ c) (h2 : c ≤ 9223372036854775807) (h : ∀ W, Keeps F w W → Cells W A (bcs l)) : Sl Kd.byte w F A c l :=
  ⟨h1, h2, bcs l, fun W hW => ⟨h W hW, reps_bytes.2 rfl⟩⟩
end
/-- A text, or none. -/
def strOr : Option (List UInt8) → Value
  | some l => .tuple #[.string (ofL l), .bool true]
  | none => .tuple #[.string ⟨#[]⟩, .bool false]
/-- Bytes in new memory, or none: (.., bool). -/
def bytesOr (w : World) (o : Option (List UInt8)) (e : Ending) (w' : World) : Prop :=
  Below w.heap.size w w' ∧ match o with
  | some l => ∃ A c, e = .returned (.tuple #[.slice A l.length c, .bool true]) ∧ Sl Kd.byte w' (fun k => w.heap.size ≤ k) A c l
  | none => e = .returned (.tuple #[.slice none 0 0, .bool false])

/-! ### a row that the call has made -/
/-- v: a slice at the head of its block, of n elements, whose cells are xs; it may be written up to its capacity. -/
def Row (w : World) (base size : Nat) (v : Value) (n : Nat) (xs : List Value) : Prop :=
  xs.length = n * size ∧ ((v = .slice none 0 0 ∧ n = 0) ∨ ∃ g cap, v = .slice (some ⟨g, 0, none⟩) n cap ∧ base ≤ g ∧ g < w.heap.size ∧ n ≤ cap ∧ cap ≤ maxLen ∧
    (∀ j u, xs[j]? = some u → w.cell? ⟨g, j, none⟩ = some u) ∧ ∀ j, j < cap * size → (w.cell? ⟨g, j, none⟩).isSome = true ∧ w.frozen? ⟨g, j, none⟩ = false)
section
variable {w W : World} {base size n : Nat} {v : Value} {xs : List Value}
theorem Row.nil (w : World) (base size : Nat) : Row w base size (.slice none 0 0) 0 [] := ⟨by simp, .inl ⟨rfl, rfl⟩⟩
theorem Row.of_own {e : TypeId} (h : w.ownsRow base e size v n xs) : Row w base size v n xs := by
  refine ⟨h.1, ?_⟩
  rcases h.2 with h2 | ⟨g, cap, cur, rfl, hb, hg, hn, hm, hs, ht⟩
  · exact .inl h2
  · refine .inr ⟨g, cap, rfl, hb, lt_of_block hg, hn, hm, fun j u hu => ?_, fun j hj => ?_⟩
    · rw [cell_of_row w g j cur e _ hg]
      rw [← ht, List.getElem?_take] at hu
      split at hu
      · simpa using hu
      · cases hu
    · rw [cell_of_row w g j cur e _ hg]
      exact ⟨by simp [hs, hj], blk_free hg j⟩
theorem Row.block (h : Row w base size v n xs) : ∀ g, v.ownBlock = some g → base ≤ g ∧ g < w.heap.size := by
  intro g hg
  rcases h.2 with ⟨rfl, _⟩ | ⟨g', cap, rfl, hb, hl, _⟩
  · simp [Value.ownBlock] at hg
  · have : g' = g := by simpa [Value.ownBlock] using hg
    subst this; exact ⟨hb, hl⟩
theorem Row.keep (h : Row w base size v n xs) (hk : ∀ g, v.ownBlock = some g → W.heap[g]? = w.heap[g]?) (hs : w.heap.size ≤ W.heap.size) : Row W base size v n xs := by
  refine ⟨h.1, ?_⟩
  rcases h.2 with h2 | ⟨g, cap, rfl, hb, hl, hn, hm, hc, hf⟩
  · exact .inl h2
  · have e := hk g (by simp [Value.ownBlock])
    refine .inr ⟨g, cap, rfl, hb, by omega, hn, hm, fun j u hu => ?_, fun j hj => ?_⟩
    · rw [World.cell?_of_block (w := w) e]; exact hc j u hu
    · rw [World.cell?_of_block (w := w) e, World.frozen?_of_block (w := w) e]; exact hf j hj
theorem Row.below (h : Row w base size v n xs) (hb : Below w.heap.size w W) : Row W base size v n xs := h.keep (fun g hg => hb.block g (h.block g hg).2) hb.size
theorem Row.alloc (h : Row w base size v n xs) (o : Obj) : Row (w.alloc o) base size v n xs := h.keep (fun g hg => Below.heap_alloc w o g (h.block g hg).2) (by simp)
theorem Row.set (h : Row w base size v n xs) {p : Addr} (u : Value) (hp : v.ownBlock ≠ some p.block) : Row (w.setCell p u) base size v n xs :=
  h.keep (fun g hg => Below.heap_setCell w p u g (fun e => hp (by rw [hg, e]))) (by simp [World.setCell])
theorem Row.grown {row : Option Nat} (h : Row w base size v n xs) (hg : w.grownBy W row) (hne : ∀ g, v.ownBlock = some g → row ≠ some g) : Row W base size v n xs :=
  h.keep (fun g hg' => hg.block g (h.block g hg').2 (fun e => hne g hg' e.symm)) hg.size
theorem Row.drewN (h : Row w base size v n xs) (k : Nat) : Row (w.drewN k) base size v n xs := h.keep (fun _ _ => rfl) (Nat.le_refl _)
theorem Row.lower {base' : Nat} (h : Row w base size v n xs) (hb : base' ≤ base) : Row w base' size v n xs := by
  refine ⟨h.1, ?_⟩
  rcases h.2 with h2 | ⟨g, cap, rfl, hb', r⟩
  · exact .inl h2
  · exact .inr ⟨g, cap, rfl, Nat.le_trans hb hb', r⟩
/-- A row as a slice value. -/
theorem Row.form (h : Row w base size v n xs) : ∃ A c, v = .slice A n c ∧ n ≤ c ∧ c ≤ 9223372036854775807 ∧ Cells w A xs ∧ ∀ W, Keeps (fun k => base ≤ k) w W → Cells W A xs := by
  rcases h.2 with ⟨rfl, rfl⟩ | ⟨g, cap, rfl, hb, hl, hn, hm, hc, hf⟩
  · have : xs = [] := List.eq_nil_of_length_eq_zero (by simpa using h.1)
    subst this
    exact ⟨none, 0, rfl, Nat.le_refl _, by decide, Cells.nil _ _, fun _ _ => Cells.nil _ _⟩
  · refine ⟨_, cap, rfl, hn, by simpa [maxLen] using hm, fun _ => ⟨_, _, rfl, fun j u hu => by rw [Nat.zero_add]; exact hc j u hu⟩, fun W hW _ => ⟨_, _, rfl, fun j u hu => ?_⟩⟩
    rw [Nat.zero_add, World.cell?_of_block (w := w) (hW g hb hl)]
    exact hc j u hu
end

theorem setCells_keeps (b : Nat) : ∀ (vs : List Value) (o : Nat) (w : World), (w.setCells b o vs).heap.size = w.heap.size ∧ (∀ k, k ≠ b → (w.setCells b o vs).heap[k]? = w.heap[k]?) ∧
    (w.setCells b o vs).os = w.os ∧ (w.setCells b o vs).tape = w.tape ∧ (w.setCells b o vs).output = w.output
  | [], _, w => ⟨rfl, fun _ _ => rfl, rfl, rfl, rfl⟩
  | v :: r, o, w => by
    obtain ⟨h1, h2, h3, h4, h5⟩ := setCells_keeps b r (o + 1) (w.setCell ⟨b, o, none⟩ v)
    rw [World.setCells]
    refine ⟨h1.trans (by simp [World.setCell]), fun k hk => (h2 k hk).trans (Below.heap_setCell _ _ _ _ hk), h3, h4, h5⟩
theorem cell_setCells_some (b : Nat) : ∀ (vs : List Value) (o : Nat) (w : World) (p : Addr), (w.cell? p).isSome = true → ((w.setCells b o vs).cell? p).isSome = true
  | [], _, _, _, h => h
  | v :: r, o, w, p, h => by
    rw [World.setCells]
    apply cell_setCells_some b r
    obtain ⟨u, hu⟩ := Option.isSome_iff_exists.1 h
    obtain ⟨u', hu'⟩ := cell?_setCell_some (p := ⟨b, o, none⟩) (x := v) hu
    rw [hu']; rfl

theorem made_bytes (d : Nat) : madeCells #[Value.int .u8 0] d = (bcs (List.replicate d 0)).toArray := by
  apply Array.ext
  · simp [madeCells, bcs]
  · intro i h1 h2
    simp [madeCells, bcs, Nat.mod_one]

/-- What is known of a slice type and its elements. -/
structure ET (P : Program) (t e : TypeId) (z : Value) (size bytes : Nat) : Prop where
  u : P.underlying t = some (.slice e)
  i : (P.info? e).map (fun i => (i.zero, i.size, i.bytes)) = some (some z, size, bytes)
  zs : z.cells.size = size
  pos : 0 < size

section
variable {P : Program} (w : World)
/-- append onto a row of the call's own. -/
theorem run_append_row {t e : TypeId} {z : Value} {size bytes : Nat} (et : ET P t e z size bytes) (ty : TypeId) {base n m c : Nat} {v : Value} {xs news : List Value} (hrow : Row w base size v n xs)
    {A : Option Addr} (hc : Cells w A news) (hl : news.length = m * size) (h1 : ∀ u ∈ news, u.oneCell' = true)
    (h63 : n + m ≤ maxLen) (hbytes : (n + m) * bytes ≤ 140737488355328) (hbase : base ≤ w.heap.size) :
    ∃ v' w', (Builtin.append_ #[t, t] ty #[v, .slice A m c]).run P w = .ok v' w' ∧ Row w' base size v' (n + m) (xs ++ news) ∧ w.grownBy w' v.ownBlock ∧ (v'.ownBlock = v.ownBlock ∨ ∀ g, v'.ownBlock = some g → w.heap.size ≤ g) := by
  obtain ⟨i, hi, hz, hsz, hby⟩ := info_parts et.i
  have hpos := et.pos
  rcases Nat.eq_zero_or_pos m with hm0 | hmp
  · subst hm0
    have hn : news = [] := List.eq_nil_of_length_eq_zero (by simpa using hl)
    subst hn
    refine ⟨v, w, ?_, by simpa using hrow, World.grownBy.refl w _, .inl rfl⟩
    rcases hrow.2 with ⟨rfl, rfl⟩ | ⟨g, cap, rfl, hb, hgl, hn, hm, hcc, hf⟩
    · cases A with
      | none => simp [Builtin.append_, run_underlying et.u, sizeOf, typeInfo, hi, Builtin.lenOf, Builtin.firstCells]
      | some a =>
        have h0 := run_loadCells_list (P := P) w a [] (by simp)
        simp only [List.length_nil] at h0
        simp [Builtin.append_, run_underlying et.u, sizeOf, typeInfo, hi, Builtin.lenOf, Builtin.firstCells, h0]
    · cases A with
      | none => simp [Builtin.append_, run_underlying et.u, sizeOf, typeInfo, hi, Builtin.lenOf, Builtin.firstCells, hn, storeCells]
      | some a =>
        have h0 := run_loadCells_list (P := P) w a [] (by simp)
        simp only [List.length_nil] at h0
        simp [Builtin.append_, run_underlying et.u, sizeOf, typeInfo, hi, Builtin.lenOf, Builtin.firstCells, hn, storeCells, h0]
  · obtain ⟨ad, rfl, hcell⟩ := hc.to_add (by rintro rfl; have := Nat.mul_pos hmp hpos; simp at hl; omega)
    rcases hrow.2 with ⟨rfl, rfl⟩ | ⟨g, cap, rfl, hb, hgl, hn, hm, hcc, hf⟩
    · obtain ⟨v', w', hr, ho, hg, _, hw⟩ := run_append_own_at (P := P) w base t ty e i z size bytes et.u hi hz hsz hby et.zs hpos _ 0 [] (World.ownsRow_nil w base e size) ad m c news hl hcell h1 h63 hbytes hbase
      obtain rfl : xs = [] := List.eq_nil_of_length_eq_zero (by simpa using hrow.1)
      refine ⟨v', w', hr, Row.of_own ho, hg, .inr fun g hgg => ?_⟩
      rcases hw with hw | hw
      · rw [hw] at hgg; simp [Value.ownBlock] at hgg
      · rw [hw] at hgg; cases hgg; exact Nat.le_refl _
    · by_cases hroom : n + m ≤ cap
      · have hin : ∀ j, j < news.length → n * size + j < cap * size := fun j hj => by
          have : (n + m) * size ≤ cap * size := Nat.mul_le_mul_right _ hroom
          rw [Nat.add_mul] at this; omega
        have hr := run_append_room_cells (P := P) w t ty e i et.u hi g 0 n cap ad m c news (by rw [hsz]; exact hl) hcell h1 hroom
          (by intro j hj; simpa [hsz] using (hf _ (hin j hj)).1) (by intro j hj; simpa [hsz] using (hf _ (hin j hj)).2)
        rw [hsz] at hr
        simp only [Nat.zero_add] at hr
        obtain ⟨k1, k2, k3, k4, k5⟩ := setCells_keeps g news (n * size) w
        refine ⟨_, _, hr, ⟨by rw [List.length_append, hrow.1, hl, Nat.add_mul], .inr ⟨g, cap, rfl, hb, by omega, hroom, hm, ?_, ?_⟩⟩, ⟨k3, k4, k5, by omega, ?_⟩, .inl rfl⟩
        · intro j u hu
          rw [List.getElem?_append] at hu
          split at hu
          · rename_i hj
            rw [World.cell?_setCells_out g news _ w _ (by intro _ _; left; simp; have := hrow.1; omega)]
            exact hcc j u hu
          · rename_i hj
            have hj' : j - n * size < news.length := by
              have := (List.getElem?_eq_some_iff.1 hu).1
              have := hrow.1; omega
            have := World.cell?_setCells_in g news (n * size) w (by intro j hj; exact (hf _ (hin j hj)).1) (j - n * size) hj'
            rw [show n * size + (j - n * size) = j from by have := hrow.1; omega] at this
            rw [this]
            rw [hrow.1] at hu
            rw [List.getElem?_eq_getElem hj'] at hu
            exact hu
        · intro j hj
          rw [World.frozen?_setCells]
          refine ⟨?_, (hf j hj).2⟩
          exact cell_setCells_some g news _ w _ (hf j hj).1
        · intro k hk hne
          exact k2 k (fun e => hne (by simp [Value.ownBlock, e]))
      · obtain ⟨v', w', hr, ho, hg⟩ := run_append_arg_grows (P := P) w t ty e i z size bytes et.u hi hz hsz hby et.zs hpos ⟨g, 0, none⟩ n cap xs hrow.1 (fun j u hu => by rw [add0]; exact hcc j u hu) ad m c news hl hcell (by omega) h63 hbytes
        exact ⟨v', w', hr, (Row.of_own ho).lower hbase, ⟨hg.os, hg.tape, hg.output, hg.size, fun k hk _ => hg.block k hk (by simp)⟩, .inr fun g' hgg => (World.ownsRow.lt ho g' hgg).1⟩
theorem wp_append_row {o : Oper} {a : Act} {K : Act → World → Prop} {Q : Exit → Act → World → Prop} {t e : TypeId} {z : Value} {size bytes : Nat} (et : ET P t e z size bytes) (s x : Operand)
    (ho : o.op = .call { callee := .builtin .append, args := #[s, x], argTypes := #[t, t] }) {base n m c : Nat} {v : Value} {xs news : List Value} (hs : a.eval s = v) (hrow : Row w base size v n xs)
    {A : Option Addr} (hx : a.eval x = .slice A m c) (hc : Cells w A news) (hl : news.length = m * size) (h1 : ∀ u ∈ news, u.oneCell' = true)
    (h63 : n + m ≤ maxLen) (hbytes : (n + m) * bytes ≤ 140737488355328) (hbase : base ≤ w.heap.size)
    (h : ∀ v' w', Row w' base size v' (n + m) (xs ++ news) → w.grownBy w' v.ownBlock → (v'.ownBlock = v.ownBlock ∨ ∀ g, v'.ownBlock = some g → w.heap.size ≤ g) → K (a.put o.dst v') w') : o.wp P a w K Q := by
  obtain ⟨v', w', hr, h2, h3, h4⟩ := run_append_row w et o.type hrow hc hl h1 h63 hbytes hbase
  unfold Oper.wp execOp
  simp only [ho, resolve, invoke, builtin, Sem.run_bind, Sem.run_pure, Result.andThen_ok, List.map_toArray, List.map_cons, List.map_nil, hs, hx]
  rw [hr]
  exact h v' w' h2 h3 h4
theorem wpList_append_row {ops : Array Oper} {rest : List Oper} {o : Oper} {a : Act} {Q : Exit → Act → World → Prop} (hgd : o.guard = none) {t e : TypeId} {z : Value} {size bytes : Nat} (et : ET P t e z size bytes) (s x : Operand)
    (ho : o.op = .call { callee := .builtin .append, args := #[s, x], argTypes := #[t, t] }) {base n m c : Nat} {v : Value} {xs news : List Value} (hs : a.eval s = v) (hrow : Row w base size v n xs)
    {A : Option Addr} (hx : a.eval x = .slice A m c) (hc : Cells w A news) (hl : news.length = m * size) (h1 : ∀ u ∈ news, u.oneCell' = true)
    (h63 : n + m ≤ maxLen) (hbytes : (n + m) * bytes ≤ 140737488355328) (hbase : base ≤ w.heap.size)
    (h : ∀ v' w', Row w' base size v' (n + m) (xs ++ news) → w.grownBy w' v.ownBlock → (v'.ownBlock = v.ownBlock ∨ ∀ g, v'.ownBlock = some g → w.heap.size ≤ g) → wpList P ops Q rest (a.put o.dst v') w') : wpList P ops Q (o :: rest) a w :=
  wpList_plain hgd fun _ hK => wp_append_row w et s x ho hs hrow hx hc hl h1 h63 hbytes hbase fun v' w' h2 h3 h4 => hK _ _ (h v' w' h2 h3 h4)
end

section
variable {P : Program}
/-- make([]byte, m). -/
theorem make_bytes {t e : TypeId} (et : ET P t e (.int .u8 0) 1 1) (m : Nat) (hn : m ≤ 281474976710656) :
    ∀ W : World, (Instr.makeSlice t (.int .i64 (m : Int)) (.int .i64 (m : Int))).run P W = .ok (.slice (some ⟨W.heap.size, 0, none⟩) m m) (W.alloc (.cells (bcs (List.replicate m 0)).toArray e)) := by
  intro W
  obtain ⟨i, hi, hz, hsz, hby⟩ := info_parts et.i
  have h := run_make (P := P) W t e i (.int .u8 0) et.u hi hz .i64 .i64 m m (by omega) (by omega) (by rw [hby]; omega) (by omega)
  rw [h, ← made_bytes]
  simp [hsz, Value.cells]
/-- string(b). -/
theorem bytes_str {src dst e : TypeId} (hs : P.underlying src = some (.slice e)) (he : P.underlying e = some (.int .u8)) (hd : P.underlying dst = some .string) {w : World} {A : Option Addr} {l : List UInt8} (h : Cells w A (bcs l)) (n c : Nat) (hn : n = l.length) :
    (convert src dst (.slice A n c)).run P w = .ok (.string (ofL l)) w := by
  subst hn
  cases A with
  | none =>
    have : l = [] := by
      cases l with
      | nil => rfl
      | cons x l => obtain ⟨b, o, h1, _⟩ := h (by simp [bcs]); cases h1
    subst this
    exact run_convert_bytes_nil w src e hs he _ c dst hd
  | some ad =>
    have hl : (loadCells ad l.length).run P w = .ok (bcs l).toArray w := by
      have := run_loadCells_list (P := P) w ad (bcs l) (fun j v hj => by
        obtain ⟨b, o, h1, h2⟩ := h.at_ hj
        cases h1; rw [Addr.add_lit]; exact h2)
      simpa [bcs] using this
    rw [run_convert_bytes_string w src dst e _ l.length c hs he hd]
    have hb : bcs l = (l.map fun b => (b.toNat : Int)).map (Value.int .u8) := by simp [bcs]
    rw [run_bytesToString w _ l.length c (l.map fun b => (b.toNat : Int)) (by rw [← hb]; exact hl), foldl_push_bytes]
    simp [ofL, ByteArray.empty, ByteArray.emptyWithCapacity, Function.comp_def]
    rfl
theorem cells_of_blk {w : World} {g : Nat} {t : TypeId} {cs : List Value} (h : w.heap[g]? = some (.cells cs.toArray t (0, 0))) : Cells w (some ⟨g, 0, none⟩) cs :=
  fun _ => ⟨_, _, rfl, fun j u hu => by rw [Nat.zero_add]; exact blk_cell h j hu⟩
/-- []byte(s): where, how great, and the world behind. -/
def bytesCap (w : World) (e : TypeId) (l : List UInt8) : Nat := grownCap w l.length 0 e
theorem str_bytes {src dst e : TypeId} {u : TypeDesc} (hs : P.underlying src = some u) (hd : P.underlying dst = some (.slice e)) (he : P.underlying e = some (.int .u8)) (l : List UInt8) :
    ∀ W : World, (convert src dst (.string (ofL l))).run P W = .ok (.slice (some ⟨W.heap.size, 0, none⟩) l.length (bytesCap W e l)) (Lib.bytesWorld W e (ofL l)) := by
  intro W
  have := Lib.run_convert_string_bytes (P := P) W src dst e (ofL l) hs hd he
  rw [ofL_size] at this
  exact this
theorem bytesWorld_cells (W : World) (e : TypeId) (l : List UInt8) : ∀ j u, (bcs l)[j]? = some u → (Lib.bytesWorld W e (ofL l)).cell? ⟨W.heap.size, j, none⟩ = some u := by
  intro j u hu
  have hj : j < l.length := by have := (List.getElem?_eq_some_iff.1 hu).1; simpa [bcs] using this
  rw [Lib.bytesWorld_cell W e (ofL l) j (by rw [ofL_size]; exact hj)]
  simp [bcs, hj] at hu
  rw [← hu]
  simp [ofL, List.getElem?_eq_getElem hj]
theorem bytesWorld_below (W : World) (e : TypeId) (l : List UInt8) : Below W.heap.size W (Lib.bytesWorld W e (ofL l)) :=
  ⟨rfl, rfl, rfl, by rw [Lib.bytesWorld_size]; omega, fun i hi => Lib.bytesWorld_at_old W e (ofL l) i hi⟩
end

/-! ### draws alone -/
def Drawn (w w' : World) : Prop := ∃ n, w' = w.drewN n
theorem Drawn.refl (w : World) : Drawn w w := ⟨0, rfl⟩
theorem Drawn.step {w w' : World} (h : Drawn w w') (n : Nat) : Drawn w (w'.drewN n) := by
  obtain ⟨m, rfl⟩ := h
  exact ⟨m + n, World.drewN_drewN ..⟩
theorem Drawn.trans {a b c : World} (h : Drawn a b) (k : Drawn b c) : Drawn a c := by
  obtain ⟨m, rfl⟩ := k
  exact h.step m
theorem Drawn.below {w w' : World} (h : Drawn w w') (B : Nat) : Below B w w' := by
  obtain ⟨n, rfl⟩ := h
  exact ⟨rfl, rfl, rfl, Nat.le_refl _, fun _ _ => rfl⟩
theorem below_drewN {B : Nat} {a w : World} (h : Below B a w) (n : Nat) : Below B a (w.drewN n) := ⟨h.os, h.tape, h.output, h.size, h.block⟩
/-- One call behind another. -/
theorem bt {a b c : World} (h : Below a.heap.size a b) (k : Below b.heap.size b c) : Below a.heap.size a c := h.trans (k.mono h.size)
theorem below_then {B : Nat} {a b c : World} (h : Below B a b) (k : Below b.heap.size b c) (hB : B ≤ b.heap.size) : Below B a c := h.trans (k.mono hB)

theorem bytesWorld_row (W : World) (e : TypeId) (l : List UInt8) (hl : l.length ≤ 1000000) (base : Nat) (hb : base ≤ W.heap.size) :
    Row (Lib.bytesWorld W e (ofL l)) base 1 (.slice (some ⟨W.heap.size, 0, none⟩) l.length (bytesCap W e l)) l.length (bcs l) := by
  refine ⟨by simp [bcs], .inr ⟨W.heap.size, _, rfl, hb, by rw [Lib.bytesWorld_size]; omega, grownCap_ge _ _ _ _, grownCap_le_maxLen _ _ _ _ (by simp only [maxLen]; omega), bytesWorld_cells W _ l, fun j hj => ?_⟩⟩
  have h := Lib.bytesWorld_at_new W e (ofL l)
  have hs : (Lib.bytesCells W e (ofL l)).size = l.length + (grownCap W l.length 0 e - l.length) := by
    have hz : (ofL l).data.size = l.length := by simp [ofL]
    have hz2 : (ofL l).size = l.length := ofL_size l
    simp [Lib.bytesCells, hz, hz2]
  have hg := grownCap_ge W l.length 0 e
  have hj' : j < (Lib.bytesCells W e (ofL l)).size := by rw [hs]; simp only [bytesCap, Nat.mul_one] at hj; omega
  constructor
  · rw [cell_of_row _ _ j _ _ _ h]; simp [hj']
  · simp [World.frozen?, h]; omega
theorem Row.sl_bytes {w : World} {base : Nat} {v : Value} {l : List UInt8} (h : Row w base 1 v l.length (bcs l)) : ∃ A c, v = .slice A l.length c ∧ Sl Kd.byte w (fun k => base ≤ k) A c l := by
  obtain ⟨A, c, rfl, h1, h2, _, h3⟩ := h.form
  exact ⟨A, c, rfl, Sl.of_bytes h1 h2 h3⟩
theorem cells_new1 (w : World) (v : Value) (t : TypeId) : Cells (w.alloc (.cells #[v] t)) (some ⟨w.heap.size, 0, none⟩) [v] := cells_of_blk (cs := [v]) (heap_alloc_new w _)
theorem cells_newN (w : World) (cs : List Value) (t : TypeId) : Cells (w.alloc (.cells cs.toArray t)) (some ⟨w.heap.size, 0, none⟩) cs := cells_of_blk (heap_alloc_new w _)

theorem ret_true {b : Bool} (h : b = true) : Ending.returned (.bool b) = Ending.returned (.bool true) := by rw [h]
theorem ret_bool {a b : Bool} (h : a = b) : Ending.returned (.bool a) = Ending.returned (.bool b) := by rw [h]
end Go.Proofs.YtldhcknjpmbgnaaGreatDoor.Rk
/- Base words, continued: stores into rows; texts. -/
set_option linter.unusedVariables false
set_option linter.unusedSimpArgs false
namespace Go.Proofs.YtldhcknjpmbgnaaGreatDoor.Rk
open Go.RowKit

theorem Row.head {w : World} {base size n : Nat} {v : Value} {xs : List Value} (h : Row w base size v n xs) (hn : 0 < n) : ∃ g cap, v = .slice (some ⟨g, 0, none⟩) n cap ∧ base ≤ g ∧ g < w.heap.size ∧ n ≤ cap ∧ cap ≤ 9223372036854775807 := by
  rcases h.2 with ⟨_, h0⟩ | ⟨g, cap, rfl, hb, hl, hc, hm, _⟩
  · omega
  · exact ⟨g, cap, rfl, hb, hl, hc, by simpa [maxLen] using hm⟩
theorem Row.cell {w : World} {base size n g cap : Nat} {xs : List Value} (h : Row w base size (.slice (some ⟨g, 0, none⟩) n cap) n xs) {j : Nat} {u : Value} (hu : xs[j]? = some u) :
    w.cell? ⟨g, j, none⟩ = some u ∧ w.frozen? ⟨g, j, none⟩ = false := by
  rcases h.2 with ⟨h0, _⟩ | ⟨g', cap', e, hb, hl, hc, hm, hcell, hf⟩
  · cases h0
  · injection e with e1 _ e2
    injection e1 with e1
    injection e1 with e1
    subst e1 e2
    have hj : j < n * size := by have := (List.getElem?_eq_some_iff.1 hu).1; rw [h.1] at this; exact this
    exact ⟨hcell j u hu, (hf j (Nat.lt_of_lt_of_le hj (Nat.mul_le_mul_right _ hc))).2⟩
theorem Row.store {w : World} {base size n g cap : Nat} {xs : List Value} (h : Row w base size (.slice (some ⟨g, 0, none⟩) n cap) n xs) (j : Nat) (u : Value) :
    Row (w.setCell ⟨g, j, none⟩ u) base size (.slice (some ⟨g, 0, none⟩) n cap) n (xs.set j u) := by
  refine ⟨by rw [List.length_set]; exact h.1, ?_⟩
  rcases h.2 with ⟨h0, _⟩ | ⟨g', cap', e, hb, hl, hc, hm, hcell, hf⟩
  · cases h0
  · injection e with e1 _ e2
    injection e1 with e1
    injection e1 with e1
    subst e1 e2
    refine .inr ⟨g, cap, rfl, hb, by simpa [World.setCell] using hl, hc, hm, fun i v hv => ?_, fun i hi => ?_⟩
    · by_cases hij : j = i
      · subst hij
        have hlt : j < xs.length := by have := (List.getElem?_eq_some_iff.1 hv).1; simpa using this
        rw [List.getElem?_set_self hlt] at hv
        injection hv with hv
        subst hv
        exact World.cell?_setCell_same _ _ _ (hcell j _ (List.getElem?_eq_getElem hlt))
      · rw [List.getElem?_set_ne hij] at hv
        rw [World.cell?_setCell_other _ _ _ _ (by simp [hij])]
        exact hcell i v hv
    · obtain ⟨a, b⟩ := hf i hi
      obtain ⟨u1, h1⟩ := Option.isSome_iff_exists.1 a
      obtain ⟨u2, h2⟩ := cell?_setCell_some (p := ⟨g, j, none⟩) (x := u) h1
      exact ⟨by rw [h2]; rfl, by rw [World.frozen?_setCell]; exact b⟩
theorem bcs_set (l : List UInt8) (j : Nat) (c : UInt8) : (bcs l).set j (.int .u8 c.toNat) = bcs (l.set j c) := by simp [bcs, List.map_set]
theorem bcs_get {l : List UInt8} {j : Nat} {c : UInt8} (h : l[j]? = some c) : (bcs l)[j]? = some (.int .u8 (c.toNat : Int)) := by simp [bcs, h]

theorem ofL_append (l m : List UInt8) : ofL l ++ ofL m = ofL (l ++ m) := by
  have : (ofL l ++ ofL m).data = (ofL (l ++ m)).data := by simp [ofL]
  cases h1 : ofL l ++ ofL m; cases h2 : ofL (l ++ m)
  simp [h1, h2] at this
  simp [this]

/-- Texts in order. -/
@[go_sem] theorem binOp_string_leq (t : TypeId) (a b : ByteArray) : binOp .leq t (.string a) (.string b) = pure (.bool (Op.bytesLess a.toList b.toList || a.toList == b.toList)) := by simp [binOp, Op.stringOp]
theorem bytesLess_irrefl : ∀ l : List UInt8, Op.bytesLess l l = false
  | [] => rfl
  | a :: l => by
    have h : ¬ a < a := by simp
    simp [Op.bytesLess, bytesLess_irrefl l]
theorem bytesLess_append (l m k : List UInt8) : Op.bytesLess (l ++ m) (l ++ k) = Op.bytesLess m k := by
  induction l with
  | nil => rfl
  | cons a l ih =>
    have h : ¬ a < a := by simp
    simp [Op.bytesLess, ih]

theorem row_lit1 (w : World) (base : Nat) (e : TypeId) (u : Value) (hb : base ≤ w.heap.size) : Row (w.alloc (.cells #[u] e)) base 1 (.slice (some ⟨w.heap.size, 0, none⟩) 1 1) 1 [u] :=
  Row.of_own (by simpa using World.ownsRow_lit (base := base) (e := e) (size := 1) w #[u] 1 hb (by decide) rfl)

theorem row_lit (w : World) (base : Nat) (e : TypeId) (cs : List Value) (size n : Nat) (hb : base ≤ w.heap.size) (hl : cs.length = n * size) (hn : n ≤ maxLen) : Row (w.alloc (.cells cs.toArray e)) base size (.slice (some ⟨w.heap.size, 0, none⟩) n n) n cs :=
  Row.of_own (by simpa using World.ownsRow_lit (base := base) (e := e) (size := size) w cs.toArray n hb hn (by simpa using hl))
theorem cell_alloc {w : World} {p : Addr} {v : Value} (h : w.cell? p = some v) (o : Obj) : (w.alloc o).cell? p = some v :=
  (World.cell?_of_block (w := w) (Below.heap_alloc w o p.block (World.block_lt_of_cell? w _ h))).trans h
theorem cell_below {w W : World} {p : Addr} {v : Value} (h : w.cell? p = some v) (hb : Below w.heap.size w W) : W.cell? p = some v :=
  (hb.cell (World.block_lt_of_cell? w _ h)).trans h
/-- Cells in new memory, whatever happens elsewhere. -/
def Fresh (w w' : World) (A : Option Addr) (vs : List Value) : Prop := ∀ W, Keeps (fun k => w.heap.size ≤ k) w' W → Cells W A vs
theorem Fresh.below {w w' W : World} {A : Option Addr} {vs : List Value} (h : Fresh w w' A vs) (hb : Below w'.heap.size w' W) : Fresh w W A vs := fun V hV => h V ((Keeps.below hb).trans hb.size hV)
theorem Fresh.now {w w' : World} {A : Option Addr} {vs : List Value} (h : Fresh w w' A vs) : Cells w' A vs := h w' (.refl _ _)

/-- copy onto a block that is known whole. -/
theorem wpList_copy_blk {P : Program} (w : World) {ops : Array Oper} {rest : List Oper} {o : Oper} {a : Act} {Q : Exit → Act → World → Prop} (hgd : o.guard = none) (d s : Operand) (dT sT : TypeId)
    (ho : o.op = .call { callee := .builtin .copy, args := #[d, s], argTypes := #[dT, sT] }) (elem : TypeId) (hu : P.underlying dT = some (.slice elem)) (hsz : (P.info? elem).map (·.size) = some 1)
    (dp sp : Option Addr) (dLen dCap sLen sCap : Nat) (hd : a.eval d = .slice dp dLen dCap) (hs : a.eval s = .slice sp sLen sCap)
    (g off : Nat) (cur : List Value) (t : TypeId) (hg : w.heap[g]? = some (.cells cur.toArray t (0, 0))) (cs : List Value) (hn : cs.length = Nat.min sLen dLen)
    (hpos : 0 < cs.length → dp = some ⟨g, off, none⟩) (hsrc : Cells w sp cs) (hfit : off + cs.length ≤ cur.length) (h1 : ∀ v ∈ cs, v.oneCell' = true)
    (h : ∀ w', Au (w'.heap[g]? = some (.cells (splice cur off cs).toArray t (0, 0))) → w.grownBy w' (some g) → wpList P ops Q rest (a.put o.dst (goInt cs.length)) w') :
    wpList P ops Q (o :: rest) a w := by
  by_cases h0 : cs.length = 0
  · obtain rfl : cs = [] := List.eq_nil_of_length_eq_zero h0
    refine wpList_copy_nothing hgd d s dT sT ho elem hu hsz dp sp dLen dCap sLen sCap hd hs (by simpa using hn.symm) ?_
    exact h w ⟨by simpa [splice] using hg⟩ (World.grownBy.refl w _)
  · obtain rfl := hpos (by omega)
    obtain ⟨ad, rfl, hc⟩ := hsrc.to_add (by rintro rfl; exact h0 rfl)
    refine wpList_copy_own hgd d s dT sT ho elem hu hsz g off dLen dCap ad sLen sCap hd hs cur.toArray t hg cs hn hc (by simpa using hfit) h1 ?_
    refine h _ ⟨by simpa [splice] using setRow_heap w g _ _ t _ hg⟩ ⟨rfl, rfl, rfl, by simp [World.setRow], fun k _ hk => setRow_other w g k _ (by rintro rfl; exact hk rfl)⟩
theorem grown_trans {a b c : World} {row : Option Nat} (h : a.grownBy b row) (k : b.grownBy c row) : a.grownBy c row :=
  ⟨k.os.trans h.os, k.tape.trans h.tape, k.output.trans h.output, Nat.le_trans h.size k.size, fun i hi hne => (k.block i (Nat.lt_of_lt_of_le hi h.size) hne).trans (h.block i hi hne)⟩
theorem grown_alloc {a b : World} {row : Option Nat} (h : a.grownBy b row) (o : Obj) : a.grownBy (b.alloc o) row :=
  ⟨h.os, h.tape, h.output, by simp; have := h.size; omega, fun k hk hr => (Below.heap_alloc b o k (by have := h.size; omega)).trans (h.block k hk hr)⟩
theorem grown_drewN {a b : World} {row : Option Nat} (h : a.grownBy b row) (n : Nat) : a.grownBy (b.drewN n) row := ⟨h.os, h.tape, h.output, h.size, h.block⟩
theorem grown_set {a b : World} {row : Option Nat} (h : a.grownBy b row) {p : Addr} (hp : row = some p.block ∨ a.heap.size ≤ p.block) (u : Value) : a.grownBy (b.setCell p u) row :=
  ⟨h.os, h.tape, h.output, by simpa [World.setCell] using h.size, fun k hk hr => (Below.heap_setCell b p u k (by rintro rfl; rcases hp with rfl | hp; exact hr rfl; omega)).trans (h.block k hk hr)⟩
theorem grown_below {a b c : World} {row : Option Nat} (h : a.grownBy b row) (k : Below b.heap.size b c) : a.grownBy c row :=
  ⟨k.os.trans h.os, k.tape.trans h.tape, k.output.trans h.output, Nat.le_trans h.size k.size, fun i hi hne => (k.block i (Nat.lt_of_lt_of_le hi h.size)).trans (h.block i hi hne)⟩
theorem grown_of {a b : World} (h : Below a.heap.size a b) (row : Option Nat) : a.grownBy b row := ⟨h.os, h.tape, h.output, h.size, fun i hi _ => h.block i hi⟩
theorem below_of_grown {B : Nat} {w0 a b : World} {g : Nat} (h0 : Below B w0 a) (h : a.grownBy b (some g)) (hB : B ≤ a.heap.size) (hg : B ≤ g) : Below B w0 b := h0.grown h hB (fun k hk => by cases hk; exact hg)

/-- append onto a row of the call's own, as one step of a region that draws. -/
theorem step_append_row {P : Program} (w : World) {ops : Array Oper} {o : Oper} {a : Act} {K : Act → World → Prop} {Q : Exit → Act → World → Prop} {E : Prop} (hgd : o.guard = none) {t e : TypeId} {z : Value} {size bytes : Nat} (et : ET P t e z size bytes) (s x : Operand)
    (ho : o.op = .call { callee := .builtin .append, args := #[s, x], argTypes := #[t, t] }) {base n m c : Nat} {v : Value} {xs news : List Value} (hs : a.eval s = v) (hrow : Row w base size v n xs)
    {A : Option Addr} (hx : a.eval x = .slice A m c) (hc : Cells w A news) (hl : news.length = m * size) (h1 : ∀ u ∈ news, u.oneCell' = true)
    (h63 : n + m ≤ maxLen) (hbytes : (n + m) * bytes ≤ 140737488355328) (hbase : base ≤ w.heap.size)
    (h : ∀ v' w', Row w' base size v' (n + m) (xs ++ news) → w.grownBy w' v.ownBlock → (v'.ownBlock = v.ownBlock ∨ ∀ g, v'.ownBlock = some g → w.heap.size ≤ g) → K (a.put o.dst v') w') :
    if Region.wanted o (yielded ops a.tmps) = true then Oper.wp P o a w K Q else E := by
  have hw : Region.wanted o (yielded ops a.tmps) = true := by simp [Region.wanted, hgd]
  rw [if_pos hw]
  exact wp_append_row w et s x ho hs hrow hx hc hl h1 h63 hbytes hbase h
end Go.Proofs.YtldhcknjpmbgnaaGreatDoor.Rk
/- Base words, continued: slices of slices. -/
set_option linter.unusedVariables false
set_option linter.unusedSimpArgs false
namespace Go.Proofs.YtldhcknjpmbgnaaGreatDoor.Rk
open Go.RowKit

/-- What is read in every world that keeps F lies in F: so its cells are the same in all of them. -/
theorem Sl.of_weak {α : Type} {d : Kd α} {w : World} {F : Nat → Prop} {A : Option Addr} {c : Nat} {xs : List α} (h1 : xs.length ≤ c) (h2 : c ≤ 9223372036854775807)
    (h : ∀ W, Keeps F w W → ∃ vs, Cells W A vs ∧ Reps d W xs vs) : Sl d w F A c xs := by
  refine ⟨h1, h2, ?_⟩
  obtain ⟨vs, hc, hr⟩ := h w (.refl _ _)
  refine ⟨vs, fun W hW => ?_⟩
  obtain ⟨us, kc, kr⟩ := h W hW
  have hl : us.length = vs.length := by rw [kr.len, hr.len]
  by_cases hn : vs = []
  · subst hn
    obtain rfl : us = [] := List.eq_nil_of_length_eq_zero (by simpa using hl)
    exact ⟨kc, kr⟩
  · obtain ⟨b, o, rfl, hcell⟩ := hc hn
    have hun : us ≠ [] := by rintro rfl; apply hn; exact List.eq_nil_of_length_eq_zero (by simpa using hl.symm)
    obtain ⟨b', o', e, kcell⟩ := kc hun
    cases e
    have hb : b < w.heap.size := by
      obtain ⟨u, hu⟩ : ∃ u, vs[0]? = some u := by
        cases vs with
        | nil => exact absurd rfl hn
        | cons u _ => exact ⟨u, rfl⟩
      exact World.block_lt_of_cell? w _ (hcell 0 u hu)
    have hF : F b := by
      apply Classical.byContradiction
      intro hnF
      have hk : Keeps F w { w with heap := w.heap.setIfInBounds b (.map #[] 0) } := by
        intro k hFk hk
        have : k ≠ b := by rintro rfl; exact hnF hFk
        simp [Array.getElem?_setIfInBounds, Ne.symm this]
      obtain ⟨ws, jc, jr⟩ := h _ hk
      have hwl : ws.length = vs.length := by rw [jr.len, hr.len]
      have hwn : ws ≠ [] := by rintro rfl; apply hn; exact List.eq_nil_of_length_eq_zero (by simpa using hwl.symm)
      obtain ⟨b'', o'', e, jcell⟩ := jc hwn
      cases e
      obtain ⟨u, hu⟩ : ∃ u, ws[0]? = some u := by
        cases ws with
        | nil => exact absurd rfl hwn
        | cons u _ => exact ⟨u, rfl⟩
      have := jcell 0 u hu
      simp [World.cell?, Array.getElem?_setIfInBounds, hb] at this
    have heq : us = vs := by
      apply List.ext_getElem? 
      intro j
      rcases Nat.lt_or_ge j vs.length with hj | hj
      · have q1 := kcell j _ (List.getElem?_eq_getElem (by omega : j < us.length))
        have q2 := hcell j _ (List.getElem?_eq_getElem hj)
        rw [World.cell?_of_block (w := w) (hW b hF hb), q2] at q1
        rw [List.getElem?_eq_getElem hj, List.getElem?_eq_getElem (by omega : j < us.length)]
        exact q1.symm
      · rw [List.getElem?_eq_none hj, List.getElem?_eq_none (by omega)]
    subst heq
    exact ⟨kc, kr⟩

/-- An element that is a slice. -/
theorem Sl.slice_at {α : Type} {d : Kd α} {w : World} {F : Nat → Prop} {A : Option Addr} {c : Nat} {xs : List (List α)} (h : Sl (Kd.slice d) w F A c xs) {i : Nat} {x : List α} (hi : xs[i]? = some x) :
    ∃ b o A' c', A = some ⟨b, o, none⟩ ∧ w.cell? ⟨b, o + i, none⟩ = some (.slice A' x.length c') ∧ Sl d w F A' c' x := by
  obtain ⟨h1, h2, vs, hv⟩ := h
  obtain ⟨hc, hr⟩ := hv w (.refl _ _)
  have hlen := hr.len
  have hil : i < xs.length := (List.getElem?_eq_some_iff.1 hi).1
  have hsz : (Kd.slice d).sz = 1 := rfl
  rw [hsz, Nat.mul_one] at hlen
  obtain ⟨u, hu⟩ : ∃ u, vs[i]? = some u := ⟨_, List.getElem?_eq_getElem (by omega)⟩
  have hdt : (vs.drop (i * (Kd.slice d).sz)).take (Kd.slice d).sz = [u] := by
    rw [hsz, Nat.mul_one, List.drop_eq_getElem_cons (by omega : i < vs.length), List.take_succ_cons, List.take_zero]
    rw [List.getElem?_eq_getElem (by omega)] at hu
    injection hu with hu
    rw [hu]
  have hK := hr.at_ i hi
  rw [hdt] at hK
  obtain ⟨A', c', e, k1, k2, _⟩ := hK
  injection e with e _
  subst e
  obtain ⟨b, o, rfl, hcell⟩ := hc.at_ hu
  refine ⟨b, o, A', c', rfl, hcell, Sl.of_weak k1 k2 fun W hW => ?_⟩
  have hK := (hv W hW).2.at_ i hi
  rw [hdt] at hK
  obtain ⟨A2, c2, e, _, _, r⟩ := hK
  injection e with e _
  injection e with e1 _ e2
  subst e1
  exact r
/-- The address of a slice that has elements. -/
theorem Sl.addr {α : Type} {d : Kd α} {w : World} {F : Nat → Prop} {A : Option Addr} {c : Nat} {xs : List α} (h : Sl d w F A c xs) (hd : 0 < d.sz) (hn : xs ≠ []) : ∃ b o, A = some ⟨b, o, none⟩ := by
  obtain ⟨vs, hc, hr⟩ := h.now
  have hl := hr.len
  have : vs ≠ [] := by
    rintro rfl
    cases xs with
    | nil => exact hn rfl
    | cons x xs => simp [Nat.succ_mul] at hl; omega
  obtain ⟨b, o, e, _⟩ := hc this
  exact ⟨b, o, e⟩
theorem splice_bcs (l x : List UInt8) (i : Nat) : splice (bcs l) i (bcs x) = bcs (splice l i x) := by simp [splice, bcs, List.map_take, List.map_drop]
theorem splice_length (l x : List UInt8) (i : Nat) (h : i + x.length ≤ l.length) : (splice l i x).length = l.length := length_splice l i x h
theorem splice_append (l x y : List UInt8) (i : Nat) (h : i + x.length + y.length ≤ l.length) : splice (splice l i x) (i + x.length) y = splice l i (x ++ y) := by
  unfold splice
  have h1 : (l.take i ++ (x ++ l.drop (i + x.length))).take (i + x.length) = l.take i ++ x := by
    rw [← List.append_assoc, List.take_left']
    simp; omega
  have h2 : (l.take i ++ (x ++ l.drop (i + x.length))).drop (i + x.length + y.length) = l.drop (i + x.length + y.length) := by
    rw [← List.append_assoc, List.drop_append, List.drop_of_length_le (by simp; omega), List.nil_append, List.drop_drop]
    congr 1
    simp; omega
  rw [h1, h2]
  simp [List.append_assoc, Nat.add_assoc]
theorem splice_nil (l : List UInt8) (i : Nat) : splice l i [] = l := by simp [splice]

/-- 'xs[p:]' of a block that is known, without a case on its end. -/
theorem cut_from {P : Program} {t e : TypeId} {z : Value} {bytes : Nat} (et : ET P t e z 1 bytes) (g n p : Nat) (hp : p ≤ n) :
    ∃ dp : Option Addr, (∀ W : World, (Instr.slice t (.slice (some ⟨g, 0, none⟩) n n) (some (.int .i64 (p : Int))) none none).run P W = .ok (.slice dp (n - p) (n - p)) W) ∧ (p < n → dp = some ⟨g, p, none⟩) := by
  obtain ⟨i, hi, _, hsz, _⟩ := info_parts et.i
  refine ⟨if n = p then some ⟨g, 0, none⟩ else some ⟨g, 0 + p, none⟩, fun W => ?_, fun h => by rw [if_neg (by omega), Nat.zero_add]⟩
  have hel : P.elem t = e := by simp [Program.elem, et.u]
  have hu : P.underlying t = some (.slice (P.elem t)) := by rw [hel]; exact et.u
  rw [run_slice_l W t (some ⟨g, 0, none⟩) n n hu .i64 (p : Int) (Int.natCast_nonneg _) (by omega), hel]
  simp [sizeOf, typeInfo, hi, hsz, sliced, Result.andThen, Addr.add_lit]
end Go.Proofs.YtldhcknjpmbgnaaGreatDoor.Rk
/- Regions whose operations come up in one order, but for two neighbours in their midst: two orders. -/
namespace Go.Proofs.YtldhcknjpmbgnaaGreatDoor.Rk
open Go.RowKit
set_option linter.unusedVariables false
set_option linter.unusedSimpArgs false

def Qn (Q : Exit → Act → World → Prop) (N : Act → World → Prop) : Exit → Act → World → Prop
  | .normal, a, w => N a w
  | e, a, w => Q e a w
def seqP (md : Region.Mode) (ops : Array Oper) : Nat → Nat → Array Bool → Bool
  | 0, _, _ => true
  | g + 1, k, listed => decide (Region.ready md ops listed = [k]) && seqP md ops g (k + 1) (listed.setIfInBounds k true)
def marks : Nat → Nat → Array Bool → Array Bool
  | 0, _, listed => listed
  | g + 1, k, listed => marks g (k + 1) (listed.setIfInBounds k true)
section
variable {P : Program} {ops : Array Oper} {Q : Exit → Act → World → Prop} {N : Act → World → Prop} {md : Region.Mode}
theorem wp_Qn {o : Oper} {a : Act} {w : World} {K : Act → World → Prop} (h : o.wp P a w K (Qn Q N)) : o.wp P a w K Q := by
  unfold Oper.wp at *
  generalize (execOp a.eval o).run P w = r at *
  cases r with
  | ok n w' =>
    cases n <;> simp only [Oper.upon] at h ⊢ <;> exact h
  | halt x w' =>
    cases x <;> simp only [Oper.upon] at h ⊢ <;> exact h
theorem wpOp_Qn {i : Nat} {a : Act} {w : World} {K : Act → World → Prop} (h : wpOp P ops (Qn Q N) i K a w) : wpOp P ops Q i K a w := by
  unfold wpOp at *
  cases h0 : ops[i]? with
  | none => simpa [h0] using h
  | some o =>
    simp only [h0] at h ⊢
    by_cases hw : Region.wanted o (yielded ops a.tmps) = true
    · rw [if_pos hw] at h ⊢
      exact h.imp wp_Qn (fun ⟨h1, h2⟩ => ⟨h1, h2⟩)
    · rw [if_neg hw] at h ⊢
      exact h
theorem wpOp_list {k : Nat} {o : Oper} {l : List Oper} {a : Act} {w : World} (h0 : ops[k]? = some o) (h : wpList P ops Q (o :: l) a w) : wpOp P ops Q k (wpList P ops Q l) a w := by
  unfold wpOp; simp only [h0]; exact h
theorem wpAny_pre {g : Nat} : ∀ (l : List Oper) (k : Nat) (listed : Array Bool) (a : Act) (w : World), (∀ j, j < l.length → l[j]? = ops[k + j]?) → seqP md ops l.length k listed = true →
    (∀ a' w', N a' w' → wpAny P md ops Q g (marks l.length k listed) a' w') → wpList P ops (Qn Q N) l a w → wpAny P md ops Q (l.length + g) listed a w
  | [], k, listed, a, w, _, _, hN, h => by
    have := hN a w h
    simpa [marks] using this
  | o :: l, k, listed, a, w, hl, hB, hN, h => by
    have h0 : ops[k]? = some o := by simpa using (hl 0 (by simp)).symm
    simp only [List.length_cons, seqP, Bool.and_eq_true, decide_eq_true_eq] at hB
    rw [List.length_cons, Nat.add_right_comm]
    refine ⟨fun h1 => (by rw [hB.1] at h1; cases h1), fun i hi => ?_⟩
    rw [hB.1] at hi
    have hik : i = k := by simpa using hi
    subst hik
    exact wpOp_mono (fun a' w' h' => wpAny_pre l (i + 1) _ a' w' (fun j hj => by have := hl (j + 1) (by simp; omega); simpa [Nat.add_assoc, Nat.add_comm 1 j] using this) hB.2 (fun a'' w'' hn => hN a'' w'' hn) h') (wpOp_Qn (wpOp_list h0 h))
theorem wpAny_two {k : Nat} {o p : Oper} {l : List Oper} {listed : Array Bool} {a : Act} {w : World} (h0 : ops[k]? = some o) (h1 : ops[k + 1]? = some p) (hl : ∀ j, l[j]? = ops[k + 2 + j]?)
    (r0 : Region.ready md ops listed = [k, k + 1]) (r1 : Region.ready md ops (listed.setIfInBounds k true) = [k + 1]) (r2 : Region.ready md ops (listed.setIfInBounds (k + 1) true) = [k])
    (hB : Region.seqB md ops l.length (k + 2) ((listed.setIfInBounds k true).setIfInBounds (k + 1) true) = true)
    (a1 : wpList P ops Q (o :: p :: l) a w) (a2 : wpList P ops Q (p :: o :: l) a w) : wpAny P md ops Q (l.length + 2) listed a w := by
  refine ⟨fun h => (by rw [r0] at h; cases h), fun i hi => ?_⟩
  rw [r0] at hi
  simp only [List.mem_cons, List.not_mem_nil, or_false] at hi
  rcases hi with rfl | rfl
  · refine wpOp_mono (fun a' w' h' => ?_) (wpOp_list h0 a1)
    refine ⟨fun h => (by rw [r1] at h; cases h), fun j hj => ?_⟩
    rw [r1] at hj
    obtain rfl : j = i + 1 := by simpa using hj
    exact wpOp_mono (fun a'' w'' h'' => wpAny_of_seq l (i + 2) _ a'' w'' hl hB h'') (wpOp_list h1 h')
  · refine wpOp_mono (fun a' w' h' => ?_) (wpOp_list h1 a2)
    refine ⟨fun h => (by rw [r2] at h; cases h), fun j hj => ?_⟩
    rw [r2] at hj
    obtain rfl : j = k := by simpa using hj
    refine wpOp_mono (fun a'' w'' h'' => wpAny_of_seq l (j + 2) _ a'' w'' hl ?_ h'') (wpOp_list h0 h')
    rw [Array.setIfInBounds_comm _ _ (by omega)]
    exact hB
end
def forkB (md : Region.Mode) (ops : Array Oper) (n : Nat) : Bool :=
  seqP md ops n 0 (Array.replicate ops.size false) && decide (Region.ready md ops (marks n 0 (Array.replicate ops.size false)) = [n, n + 1]) &&
    decide (Region.ready md ops ((marks n 0 (Array.replicate ops.size false)).setIfInBounds n true) = [n + 1]) &&
    decide (Region.ready md ops ((marks n 0 (Array.replicate ops.size false)).setIfInBounds (n + 1) true) = [n]) &&
    Region.seqB md ops (ops.size - n - 2) (n + 2) (((marks n 0 (Array.replicate ops.size false)).setIfInBounds n true).setIfInBounds (n + 1) true)
theorem wp_region_fork {P : Program} {id : Nat} {Q : Exit → Act → World → Prop} {a : Act} {w : World} {l : List Oper} (n : Nat) {o p : Oper} {r : List Oper} (hm : P.follows .mixedOrders = true) (hd : l.drop n = o :: p :: r)
    (hB : forkB .any l.toArray n = true)
    (h : wpList P l.toArray (Qn Q fun a' w' => wpList P l.toArray Q (o :: p :: r) a' w' ∧ wpList P l.toArray Q (p :: o :: r) a' w') (l.take n) a w.drew) : (Code.region id l.toArray true).wp P Q a w := by
  refine wp_region_any hm ?_
  simp only [forkB, Bool.and_eq_true, decide_eq_true_eq] at hB
  obtain ⟨⟨⟨⟨b1, b2⟩, b3⟩, b4⟩, b5⟩ := hB
  have hlen : (l.drop n).length = r.length + 2 := by rw [hd]; simp
  have hsz : l.toArray.size = l.length := by simp
  rw [List.length_drop] at hlen
  have hat : ∀ j, (o :: p :: r)[j]? = l[n + j]? := fun j => by rw [← hd, List.getElem?_drop]
  have htl : (l.take n).length = n := by rw [List.length_take]; omega
  have := wpAny_pre (md := .any) (ops := l.toArray) (Q := Q) (g := r.length + 2) (l.take n) 0 (Array.replicate l.toArray.size false) a w.drew (fun j hj => by
    rw [htl] at hj
    rw [List.getElem?_take, if_pos hj]; simp) (by rw [htl]; exact b1) (fun a' w' hN => by
    rw [htl]
    refine wpAny_two (k := n) (by simpa using (hat 0).symm) (by simpa using (hat 1).symm) (fun j => ?_) b2 b3 b4 ?_ hN.1 hN.2
    · have := hat (j + 2)
      simp only [List.getElem?_cons_succ] at this
      rw [this]; simp [Nat.add_assoc, Nat.add_comm 2 j]
    · rw [show r.length = l.toArray.size - n - 2 by omega]; exact b5) h
  rw [htl, show n + (r.length + 2) = l.toArray.size by omega] at this
  exact this
end Go.Proofs.YtldhcknjpmbgnaaGreatDoor.Rk
/- Regions that begin by a call, and only read behind it. -/
namespace Go.Proofs.YtldhcknjpmbgnaaGreatDoor.Rk
open Go.RowKit
set_option linter.unusedVariables false
set_option linter.unusedSimpArgs false

/-- A first operation that is taken first, then some in one order, then none but such as read. -/
def leadB (md : Region.Mode) (ops : Array Oper) (n : Nat) : Bool :=
  Region.noSelect ops && ((Region.ready md ops (Array.replicate ops.size false)).contains 0 && (Region.free md ops (Array.replicate ops.size false) 0 &&
    (seqP md ops n 1 ((Array.replicate ops.size false).setIfInBounds 0 true) && Region.lexFrom md ops (ops.size - n - 1) (n + 1) (marks n 1 ((Array.replicate ops.size false).setIfInBounds 0 true)))))
theorem wp_region_lead {P : Program} {id : Nat} {Q : Exit → Act → World → Prop} {a : Act} {w : World} {o : Oper} {r : List Oper} (n : Nat) (v : Value) (hm : P.follows .mixedOrders = true) (hn : n ≤ r.length)
    (hy : Yields P (o :: r).toArray o v a) (hQ : ∀ c a w, Q (.panic c) (a.put o.dst v) w → Q (.panic c) a w) (hB : leadB .any (o :: r).toArray n = true)
    (h : wpList P (o :: r).toArray (Qn Q fun a' w' => wpQuiet P (o :: r).toArray (fun w'' => ∃ n, w'' = w'.drewN n) (fun a'' => ∀ w'', (∃ n, w'' = w'.drewN n) → Q .normal a'' w'') (r.drop n) a') (r.take n) (a.put o.dst v) w.drew) : (Code.region id (o :: r).toArray true).wp P Q a w := by
  refine wp_region_any hm ?_
  simp only [leadB, Bool.and_eq_true] at hB
  obtain ⟨b1, b2, b3, b4, b5⟩ := hB
  have hsz : (o :: r).toArray.size = r.length + 1 := by simp
  have htl : (r.take n).length = n := by rw [List.length_take]; omega
  have := wpAny_pre (md := .any) (ops := (o :: r).toArray) (Q := Q) (g := r.length - n) (r.take n) 1 ((Array.replicate (o :: r).toArray.size false).setIfInBounds 0 true) (a.put o.dst v) w.drew (fun j hj => by
    rw [htl] at hj
    rw [List.getElem?_take, if_pos hj]; simp [Nat.add_comm 1 j]) (by rw [htl]; exact b4) (fun a' w' hN => by
    rw [htl]
    refine wpAny_of_quiet (C := fun w'' => ∃ n, w'' = w'.drewN n) (Q := fun a'' => ∀ w'', (∃ n, w'' = w'.drewN n) → Q .normal a'' w'') (fun _ w'' hw'' h => h w'' hw'') _ _ _ _ ⟨0, rfl⟩ ?_
    have hx := wpAnyQ_lex (C := fun w'' => ∃ n, w'' = w'.drewN n) (md := .any) b1 (r.drop n) (n + 1) (marks n 1 ((Array.replicate (o :: r).toArray.size false).setIfInBounds 0 true)) a' (fun j => by
      rw [List.getElem?_drop]; simp [Nat.add_right_comm n 1 j]) (by rw [List.length_drop, show r.length - n = (o :: r).toArray.size - n - 1 by omega]; exact b5) hN
    rwa [List.length_drop] at hx) h
  rw [htl, show n + (r.length - n) = r.length by omega] at this
  rw [hsz] at this ⊢
  rw [hsz] at b2 b3
  exact wpAny_take (i := 0) (oi := o) (v := v) (by simp) b1 b3 b2 hQ hy this
end Go.Proofs.YtldhcknjpmbgnaaGreatDoor.Rk
