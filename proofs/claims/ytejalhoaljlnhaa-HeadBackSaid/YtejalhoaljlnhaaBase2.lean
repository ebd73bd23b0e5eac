/- Base words, continued: stores into rows; texts. -/
import Derived.Test.YtejalhoaljlnhaaBase
set_option linter.unusedVariables false
set_option linter.unusedSimpArgs false
namespace Go.Proofs.Ytejalhoaljlnhaa.Rk
open Go.RowKit

theorem Row.head {w : World} {base size n : Nat} {v : Value} {xs : List Value} (h : Row w base size v n xs) (hn : 0 < n) : ∃ g cap, v = .slice (some ⟨g, 0, none⟩) n cap ∧ base ≤ g ∧ g < w.heap.size ∧ n ≤ cap ∧ cap ≤ 9223372036854775807 := by
  rcases h.2 with ⟨_, h0⟩ | ⟨g, cap, rfl, hb, hl, hc, hm, _⟩
  · omega
  · exact ⟨g, cap, rfl, hb, hl, hc, by simpa [maxLen] using hm⟩
theorem Row.cell {w : World} {base size n g cap : Nat} {xs : List Value} (h : Row w base size (.slice (some ⟨g, 0, none⟩) n cap) n xs) {j : Nat} {u : Value} (hu : xs[j]? = some u) :
    w.cell? ⟨g, j, none⟩ = some u ∧ w.frozen? ⟨g, j, none⟩ = false := by
  rcases h.2 with ⟨h0, _⟩ | ⟨g', cap', e, hb, hl, hc, hm, hcell, hf⟩
  · cases h0
  · injection e with e1 _ e2
    injection e1 with e1
    injection e1 with e1
    subst e1 e2
    have hj : j < n * size := by have := (List.getElem?_eq_some_iff.1 hu).1; rw [h.1] at this; exact this
    exact ⟨hcell j u hu, (hf j (Nat.lt_of_lt_of_le hj (Nat.mul_le_mul_right _ hc))).2⟩
theorem Row.store {w : World} {base size n g cap : Nat} {xs : List Value} (h : Row w base size (.slice (some ⟨g, 0, none⟩) n cap) n xs) (j : Nat) (u : Value) :
    Row (w.setCell ⟨g, j, none⟩ u) base size (.slice (some ⟨g, 0, none⟩) n cap) n (xs.set j u) := by
  refine ⟨by rw [List.length_set]; exact h.1, ?_⟩
  rcases h.2 with ⟨h0, _⟩ | ⟨g', cap', e, hb, hl, hc, hm, hcell, hf⟩
  · cases h0
  · injection e with e1 _ e2
    injection e1 with e1
    injection e1 with e1
    subst e1 e2
    refine .inr ⟨g, cap, rfl, hb, by simpa [World.setCell] using hl, hc, hm, fun i v hv => ?_, fun i hi => ?_⟩
    · by_cases hij : j = i
      · subst hij
        have hlt : j < xs.length := by have := (List.getElem?_eq_some_iff.1 hv).1; simpa using this
        rw [List.getElem?_set_self hlt] at hv
        injection hv with hv
        subst hv
        exact World.cell?_setCell_same _ _ _ (hcell j _ (List.getElem?_eq_getElem hlt))
      · rw [List.getElem?_set_ne hij] at hv
        rw [World.cell?_setCell_other _ _ _ _ (by simp [hij])]
        exact hcell i v hv
    · obtain ⟨a, b⟩ := hf i hi
      obtain ⟨u1, h1⟩ := Option.isSome_iff_exists.1 a
      obtain ⟨u2, h2⟩ := cell?_setCell_some (p := ⟨g, j, none⟩) (x := u) h1
      exact ⟨by rw [h2]; rfl, by rw [World.frozen?_setCell]; exact b⟩
theorem bcs_set (l : List UInt8) (j : Nat) (c : UInt8) : (bcs l).set j (.int .u8 c.toNat) = bcs (l.set j c) := by simp [bcs, List.map_set]
theorem bcs_get {l : List UInt8} {j : Nat} {c : UInt8} (h : l[j]? = some c) : (bcs l)[j]? = some (.int .u8 (c.toNat : Int)) := by simp [bcs, h]

theorem ofL_append (l m : List UInt8) : ofL l ++ ofL m = ofL (l ++ m) := by
  have : (ofL l ++ ofL m).data = (ofL (l ++ m)).data := by simp [ofL]
  cases h1 : ofL l ++ ofL m; cases h2 : ofL (l ++ m)
  simp [h1, h2] at this
  simp [this]

/-- Texts in order. -/
@[go_sem] theorem binOp_string_leq (t : TypeId) (a b : ByteArray) : binOp .leq t (.string a) (.string b) = pure (.bool (Op.bytesLess a.toList b.toList || a.toList == b.toList)) := by simp [binOp, Op.stringOp]
theorem bytesLess_irrefl : ∀ l : List UInt8, Op.bytesLess l l = false
  | [] => rfl
  | a :: l => by
    have h : ¬ a < a := by simp
    simp [Op.bytesLess, bytesLess_irrefl l]
theorem bytesLess_append (l m k : List UInt8) : Op.bytesLess (l ++ m) (l ++ k) = Op.bytesLess m k := by
  induction l with
  | nil => rfl
  | cons a l ih =>
    have h : ¬ a < a := by simp
    simp [Op.bytesLess, ih]

theorem row_lit1 (w : World) (base : Nat) (e : TypeId) (u : Value) (hb : base ≤ w.heap.size) : Row (w.alloc (.cells #[u] e)) base 1 (.slice (some ⟨w.heap.size, 0, none⟩) 1 1) 1 [u] :=
  Row.of_own (by simpa using World.ownsRow_lit (base := base) (e := e) (size := 1) w #[u] 1 hb (by decide) rfl)

theorem row_lit (w : World) (base : Nat) (e : TypeId) (cs : List Value) (size n : Nat) (hb : base ≤ w.heap.size) (hl : cs.length = n * size) (hn : n ≤ maxLen) : Row (w.alloc (.cells cs.toArray e)) base size (.slice (some ⟨w.heap.size, 0, none⟩) n n) n cs :=
  Row.of_own (by simpa using World.ownsRow_lit (base := base) (e := e) (size := size) w cs.toArray n hb hn (by simpa using hl))
theorem cell_alloc {w : World} {p : Addr} {v : Value} (h : w.cell? p = some v) (o : Obj) : (w.alloc o).cell? p = some v :=
  (World.cell?_of_block (w := w) (Below.heap_alloc w o p.block (World.block_lt_of_cell? w _ h))).trans h
theorem cell_below {w W : World} {p : Addr} {v : Value} (h : w.cell? p = some v) (hb : Below w.heap.size w W) : W.cell? p = some v :=
  (hb.cell (World.block_lt_of_cell? w _ h)).trans h
/-- Cells in new memory, whatever happens elsewhere. -/
def Fresh (w w' : World) (A : Option Addr) (vs : List Value) : Prop := ∀ W, Keeps (fun k => w.heap.size ≤ k) w' W → Cells W A vs
theorem Fresh.below {w w' W : World} {A : Option Addr} {vs : List Value} (h : Fresh w w' A vs) (hb : Below w'.heap.size w' W) : Fresh w W A vs := fun V hV => h V ((Keeps.below hb).trans hb.size hV)
theorem Fresh.now {w w' : World} {A : Option Addr} {vs : List Value} (h : Fresh w w' A vs) : Cells w' A vs := h w' (.refl _ _)

/-- copy onto a block that is known whole. -/
theorem wpList_copy_blk {P : Program} (w : World) {ops : Array Oper} {rest : List Oper} {o : Oper} {a : Act} {Q : Exit → Act → World → Prop} (hgd : o.guard = none) (d s : Operand) (dT sT : TypeId)
    (ho : o.op = .call { callee := .builtin .copy, args := #[d, s], argTypes := #[dT, sT] }) (elem : TypeId) (hu : P.underlying dT = some (.slice elem)) (hsz : (P.info? elem).map (·.size) = some 1)
    (dp sp : Option Addr) (dLen dCap sLen sCap : Nat) (hd : a.eval d = .slice dp dLen dCap) (hs : a.eval s = .slice sp sLen sCap)
    (g off : Nat) (cur : List Value) (t : TypeId) (hg : w.heap[g]? = some (.cells cur.toArray t (0, 0))) (cs : List Value) (hn : cs.length = Nat.min sLen dLen)
    (hpos : 0 < cs.length → dp = some ⟨g, off, none⟩) (hsrc : Cells w sp cs) (hfit : off + cs.length ≤ cur.length) (h1 : ∀ v ∈ cs, v.oneCell' = true)
    (h : ∀ w', Au (w'.heap[g]? = some (.cells (splice cur off cs).toArray t (0, 0))) → w.grownBy w' (some g) → wpList P ops Q rest (a.put o.dst (goInt cs.length)) w') :
    wpList P ops Q (o :: rest) a w := by
  by_cases h0 : cs.length = 0
  · obtain rfl : cs = [] := List.eq_nil_of_length_eq_zero h0
    refine wpList_copy_nothing hgd d s dT sT ho elem hu hsz dp sp dLen dCap sLen sCap hd hs (by simpa using hn.symm) ?_
    exact h w ⟨by simpa [splice] using hg⟩ (World.grownBy.refl w _)
  · obtain rfl := hpos (by omega)
    obtain ⟨ad, rfl, hc⟩ := hsrc.to_add (by rintro rfl; exact h0 rfl)
    refine wpList_copy_own hgd d s dT sT ho elem hu hsz g off dLen dCap ad sLen sCap hd hs cur.toArray t hg cs hn hc (by simpa using hfit) h1 ?_
    refine h _ ⟨by simpa [splice] using setRow_heap w g _ _ t _ hg⟩ ⟨rfl, rfl, rfl, by simp [World.setRow], fun k _ hk => setRow_other w g k _ (by rintro rfl; exact hk rfl)⟩
theorem grown_trans {a b c : World} {row : Option Nat} (h : a.grownBy b row) (k : b.grownBy c row) : a.grownBy c row :=
  ⟨k.os.trans h.os, k.tape.trans h.tape, k.output.trans h.output, Nat.le_trans h.size k.size, fun i hi hne => (k.block i (Nat.lt_of_lt_of_le hi h.size) hne).trans (h.block i hi hne)⟩
theorem grown_alloc {a b : World} {row : Option Nat} (h : a.grownBy b row) (o : Obj) : a.grownBy (b.alloc o) row :=
  ⟨h.os, h.tape, h.output, by simp; have := h.size; omega, fun k hk hr => (Below.heap_alloc b o k (by have := h.size; omega)).trans (h.block k hk hr)⟩
theorem grown_drewN {a b : World} {row : Option Nat} (h : a.grownBy b row) (n : Nat) : a.grownBy (b.drewN n) row := ⟨h.os, h.tape, h.output, h.size, h.block⟩
theorem grown_set {a b : World} {row : Option Nat} (h : a.grownBy b row) {p : Addr} (hp : row = some p.block ∨ a.heap.size ≤ p.block) (u : Value) : a.grownBy (b.setCell p u) row :=
  ⟨h.os, h.tape, h.output, by simpa [World.setCell] using h.size, fun k hk hr => (Below.heap_setCell b p u k (by rintro rfl; rcases hp with rfl | hp; exact hr rfl; omega)).trans (h.block k hk hr)⟩
theorem grown_below {a b c : World} {row : Option Nat} (h : a.grownBy b row) (k : Below b.heap.size b c) : a.grownBy c row :=
  ⟨k.os.trans h.os, k.tape.trans h.tape, k.output.trans h.output, Nat.le_trans h.size k.size, fun i hi hne => (k.block i (Nat.lt_of_lt_of_le hi h.size)).trans (h.block i hi hne)⟩
theorem grown_of {a b : World} (h : Below a.heap.size a b) (row : Option Nat) : a.grownBy b row := ⟨h.os, h.tape, h.output, h.size, fun i hi _ => h.block i hi⟩
theorem below_of_grown {B : Nat} {w0 a b : World} {g : Nat} (h0 : Below B w0 a) (h : a.grownBy b (some g)) (hB : B ≤ a.heap.size) (hg : B ≤ g) : Below B w0 b := h0.grown h hB (fun k hk => by cases hk; exact hg)

/-- append onto a row of the call's own, as one step of a region that draws. -/
theorem step_append_row {P : Program} (w : World) {ops : Array Oper} {o : Oper} {a : Act} {K : Act → World → Prop} {Q : Exit → Act → World → Prop} {E : Prop} (hgd : o.guard = none) {t e : TypeId} {z : Value} {size bytes : Nat} (et : ET P t e z size bytes) (s x : Operand)
    (ho : o.op = .call { callee := .builtin .append, args := #[s, x], argTypes := #[t, t] }) {base n m c : Nat} {v : Value} {xs news : List Value} (hs : a.eval s = v) (hrow : Row w base size v n xs)
    {A : Option Addr} (hx : a.eval x = .slice A m c) (hc : Cells w A news) (hl : news.length = m * size) (h1 : ∀ u ∈ news, u.oneCell' = true)
    (h63 : n + m ≤ maxLen) (hbytes : (n + m) * bytes ≤ 140737488355328) (hbase : base ≤ w.heap.size)
    (h : ∀ v' w', Row w' base size v' (n + m) (xs ++ news) → w.grownBy w' v.ownBlock → (v'.ownBlock = v.ownBlock ∨ ∀ g, v'.ownBlock = some g → w.heap.size ≤ g) → K (a.put o.dst v') w') :
    if Region.wanted o (yielded ops a.tmps) = true then Oper.wp P o a w K Q else E := by
  have hw : Region.wanted o (yielded ops a.tmps) = true := by simp [Region.wanted, hgd]
  rw [if_pos hw]
  exact wp_append_row w et s x ho hs hrow hx hc hl h1 h63 hbytes hbase h
end Go.Proofs.Ytejalhoaljlnhaa.Rk
