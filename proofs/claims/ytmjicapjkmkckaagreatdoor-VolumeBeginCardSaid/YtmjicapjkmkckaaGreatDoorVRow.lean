/- Rows of elements that have memory of their own. No program's text. -/
import Derived.Test.YtmjicapjkmkckaaGreatDoorGBase
import Derived.Lib.AppendZerosOnto
import Derived.OwnWalkIn
import Derived.CallsIn
namespace Go.Proofs.YtmjicapjkmkckaaGreatDoor.Rk
open Go.RowKit
set_option linter.unusedVariables false
set_option linter.unusedSimpArgs false

/-- v is a row of the call's own, of the elements xs; what the elements lean on lies in G, or from base on, and not in the row's own block. -/
def RowD {α : Type} (d : Kd α) (w : World) (G : Nat → Prop) (base : Nat) (v : Value) (xs : List α) : Prop :=
  ∃ (F : Nat → Prop) (vs : List Value), (∀ k, F k → (G k ∨ base ≤ k) ∧ k < w.heap.size) ∧ (∀ g, v.ownBlock = some g → ¬ F g) ∧ Row w base d.sz v xs.length vs ∧ ∀ W, Keeps F w W → Reps d W xs vs
/-- A slice's elements: its cells now, and what they read as, whatever happens outside of F. -/
def Els {α : Type} (d : Kd α) (w : World) (F : Nat → Prop) (A : Option Addr) (xs : List α) : Prop := ∃ vs, Cells w A vs ∧ ∀ W, Keeps F w W → Reps d W xs vs
section
variable {α : Type} {d : Kd α} {w W : World} {F G : Nat → Prop} {base : Nat} {v : Value} {xs ys : List α} {A : Option Addr} {c : Nat}
theorem Sl.els (h : Sl d w F A c xs) : Els d w F A xs := by
  obtain ⟨_, _, vs, hv⟩ := h
  exact ⟨vs, (hv w (.refl _ _)).1, fun W hW => (hv W hW).2⟩
/-- What there is of the memory at a time. -/
theorem Sl.old (h : Sl d w F A c xs) : Sl d w (fun k => F k ∧ k < w.heap.size) A c xs :=
  ⟨h.1, h.2.1, h.2.2.imp fun vs hv W hW => hv W fun k hk hlt => hW k ⟨hk, hlt⟩ hlt⟩
theorem Els.mono (h : Els d w F A xs) (hs : ∀ k, F k → G k) : Els d w G A xs := h.imp fun vs hv => ⟨hv.1, fun W hW => hv.2 W (hW.mono hs)⟩
theorem RowD.nil (d : Kd α) (w : World) (G : Nat → Prop) (base : Nat) : RowD d w G base (.slice none 0 0) [] :=
  ⟨fun _ => False, [], fun k h => h.elim, fun g h => by simp [Value.ownBlock] at h, Row.nil _ _ _, fun W _ => rfl⟩
theorem RowD.row (h : RowD d w G base v xs) : ∃ vs, Row w base d.sz v xs.length vs := by obtain ⟨F, vs, _, _, h3, _⟩ := h; exact ⟨vs, h3⟩
theorem RowD.keep (h : RowD d w G base v xs) (hk : ∀ k, (G k ∨ base ≤ k) → k < w.heap.size → W.heap[k]? = w.heap[k]?) (hs : w.heap.size ≤ W.heap.size) : RowD d W G base v xs := by
  obtain ⟨F, vs, h1, h2, h3, h4⟩ := h
  refine ⟨F, vs, fun k hk => ⟨(h1 k hk).1, Nat.lt_of_lt_of_le (h1 k hk).2 hs⟩, h2, h3.keep (fun g hg => hk g (.inr (h3.block g hg).1) (h3.block g hg).2) hs, fun V hV => h4 V ?_⟩
  intro k hF hlt
  exact (hV k hF (Nat.lt_of_lt_of_le hlt hs)).trans (hk k (h1 k hF).1 hlt)
theorem RowD.below (h : RowD d w G base v xs) (hb : Below w.heap.size w W) : RowD d W G base v xs := h.keep (fun k _ hlt => hb.block k hlt) hb.size
theorem RowD.alloc (h : RowD d w G base v xs) (o : Obj) : RowD d (w.alloc o) G base v xs := h.keep (fun k _ hlt => Below.heap_alloc w o k hlt) (by simp)
theorem RowD.set (h : RowD d w G base v xs) {p : Addr} (u : Value) (hG : ¬ G p.block) (hp : p.block < base) : RowD d (w.setCell p u) G base v xs :=
  h.keep (fun k hk _ => Below.heap_setCell w p u k (by rintro rfl; rcases hk with hk | hk; exact hG hk; omega)) (by simp [World.setCell])
theorem RowD.drewN (h : RowD d w G base v xs) (n : Nat) : RowD d (w.drewN n) G base v xs := h.keep (fun _ _ _ => rfl) (Nat.le_refl _)
theorem RowD.form (h : RowD d w G base v xs) : ∃ A c, v = .slice A xs.length c := by
  obtain ⟨vs, h3⟩ := h.row
  obtain ⟨A, c, e, _⟩ := h3.form
  exact ⟨A, c, e⟩
/-- The row as a slice. -/
theorem RowD.sl (h : RowD d w G base v xs) : ∃ A c, v = .slice A xs.length c ∧ Sl d w (fun k => G k ∨ base ≤ k) A c xs := by
  obtain ⟨F, vs, h1, h2, h3, h4⟩ := h
  obtain ⟨A, c, rfl, hn, hc, _, hv⟩ := h3.form
  exact ⟨A, c, rfl, hn, hc, vs, fun W hW => ⟨hv W (hW.mono fun k hk => .inr hk), h4 W (hW.mono fun k hk => (h1 k hk).1)⟩⟩
/-- More elements stand behind. -/
theorem RowD.more {w' : World} {v' : Value} {vs us : List Value} {F : Nat → Prop} (h1 : ∀ k, F k → (G k ∨ base ≤ k) ∧ k < w.heap.size) (h2 : ∀ g, v.ownBlock = some g → ¬ F g)
    (h4 : ∀ W, Keeps F w W → Reps d W xs vs) (hy : ∀ W, Keeps F w W → Reps d W ys us)
    (hrow : Row w' base d.sz v' (xs.length + ys.length) (vs ++ us)) (hg : w.grownBy w' v.ownBlock) (hv : v'.ownBlock = v.ownBlock ∨ ∀ g, v'.ownBlock = some g → w.heap.size ≤ g) :
    RowD d w' G base v' (xs ++ ys) := by
  have hk : Keeps F w w' := .grown hg h2
  refine ⟨F, vs ++ us, fun k hk => ⟨(h1 k hk).1, Nat.lt_of_lt_of_le (h1 k hk).2 hg.size⟩, ?_, by rw [List.length_append]; exact hrow, fun W hW => ?_⟩
  · intro g hg' hF
    rcases hv with hv | hv
    · exact h2 g (by rw [← hv]; exact hg') hF
    · have := hv g hg'
      have := (h1 g hF).2
      omega
  · have := hk.trans hg.size hW
    exact (h4 W this).append (hy W this)
end

section
variable {α : Type} {d : Kd α} {P : Program} (w : World)
/-- append onto a row: of a slice that lies elsewhere. -/
theorem wp_append_rowD {o : Oper} {a : Act} {K : Act → World → Prop} {Q : Exit → Act → World → Prop} {t e : TypeId} {z : Value} {bytes : Nat} (et : ET P t e z d.sz bytes) (s x : Operand)
    (ho : o.op = .call { callee := .builtin .append, args := #[s, x], argTypes := #[t, t] }) {base m c : Nat} {G F2 : Nat → Prop} {v : Value} {xs ys : List α} (hs : a.eval s = v) (hrow : RowD d w G base v xs)
    {A : Option Addr} (hx : a.eval x = .slice A m c) (hm : m = ys.length) (hy : Els d w F2 A ys) (hF2 : ∀ k, F2 k → (G k ∨ base ≤ k)) (hown : ∀ g, v.ownBlock = some g → ¬ F2 g)
    (h63 : xs.length + ys.length ≤ maxLen) (hbytes : (xs.length + ys.length) * bytes ≤ 140737488355328) (hbase : base ≤ w.heap.size)
    (h : ∀ v' w', RowD d w' G base v' (xs ++ ys) → w.grownBy w' v.ownBlock → (v'.ownBlock = v.ownBlock ∨ ∀ g, v'.ownBlock = some g → w.heap.size ≤ g) → K (a.put o.dst v') w') : o.wp P a w K Q := by
  subst hm
  obtain ⟨F, vs, h1, h2, h3, h4⟩ := hrow
  obtain ⟨us, hc, hr⟩ := hy
  have hr0 := hr w (.refl _ _)
  refine wp_append_row (size := d.sz) (xs := vs) (news := us) w et s x ho hs h3 hx hc hr0.len hr0.one h63 hbytes hbase fun v' w' k1 k2 k3 => h v' w' ?_ k2 k3
  refine RowD.more (w := w) (v := v) (F := fun k => F k ∨ (F2 k ∧ k < w.heap.size)) ?_ ?_ (fun W hW => h4 W (hW.mono fun k hk => .inl hk)) (fun W hW => hr W fun k hk hlt => hW k (.inr ⟨hk, hlt⟩) hlt) k1 k2 k3
  · rintro k (hk | ⟨hk, hlt⟩)
    · exact h1 k hk
    · exact ⟨hF2 k hk, hlt⟩
  · rintro g hg (hk | ⟨hk, _⟩)
    · exact h2 g hg hk
    · exact hown g hg hk
theorem wpList_append_rowD {ops : Array Oper} {rest : List Oper} {o : Oper} {a : Act} {Q : Exit → Act → World → Prop} (hgd : o.guard = none) {t e : TypeId} {z : Value} {bytes : Nat} (et : ET P t e z d.sz bytes) (s x : Operand)
    (ho : o.op = .call { callee := .builtin .append, args := #[s, x], argTypes := #[t, t] }) {base m c : Nat} {G F2 : Nat → Prop} {v : Value} {xs ys : List α} (hs : a.eval s = v) (hrow : RowD d w G base v xs)
    {A : Option Addr} (hx : a.eval x = .slice A m c) (hm : m = ys.length) (hy : Els d w F2 A ys) (hF2 : ∀ k, F2 k → (G k ∨ base ≤ k)) (hown : ∀ g, v.ownBlock = some g → ¬ F2 g)
    (h63 : xs.length + ys.length ≤ maxLen) (hbytes : (xs.length + ys.length) * bytes ≤ 140737488355328) (hbase : base ≤ w.heap.size)
    (h : ∀ v' w', RowD d w' G base v' (xs ++ ys) → w.grownBy w' v.ownBlock → (v'.ownBlock = v.ownBlock ∨ ∀ g, v'.ownBlock = some g → w.heap.size ≤ g) → wpList P ops Q rest (a.put o.dst v') w') : wpList P ops Q (o :: rest) a w :=
  wpList_plain hgd fun _ hK => wp_append_rowD w et s x ho hs hrow hx hm hy hF2 hown h63 hbytes hbase fun v' w' h2 h3 h4 => hK _ _ (h v' w' h2 h3 h4)
/-- What lies below the row stays through an append. -/
theorem RowD.kept {G : Nat → Prop} {base k : Nat} {v : Value} {xs : List α} {W : World} {o : Obj} (h : RowD d w G base v xs) (hg : w.grownBy W v.ownBlock) (hk : w.heap[k]? = some o) (hlt : k < base) : W.heap[k]? = some o := by
  refine (hg.block k (lt_of_block hk) ?_).trans hk
  intro e
  obtain ⟨vs, hr⟩ := h.row
  have := (hr.block k e.symm).1
  omega
theorem RowD.low {G : Nat → Prop} {base : Nat} {v : Value} {xs : List α} (h : RowD d w G base v xs) : ∀ g, v.ownBlock = some g → base ≤ g := fun g hg => by
  obtain ⟨vs, hr⟩ := h.row
  exact (hr.block g hg).1
theorem RowD.high {G : Nat → Prop} {base : Nat} {v : Value} {xs : List α} (h : RowD d w G base v xs) : ∀ g, v.ownBlock = some g → g < w.heap.size := fun g hg => by
  obtain ⟨vs, hr⟩ := h.row
  exact (hr.block g hg).2
/-- The same, within a fence. -/
theorem wpListIn_append_rowD {FF : Fence} {nF : Nat} {ops : Array Oper} {rest : List Oper} {o : Oper} {a : Act} {Q : Exit → Act → World → Prop} (hgd : o.guard = none) {t e : TypeId} {z : Value} {bytes : Nat} (et : ET P t e z d.sz bytes) (s x : Operand)
    (ho : o.op = .call { callee := .builtin .append, args := #[s, x], argTypes := #[t, t] }) {base m c : Nat} {G F2 : Nat → Prop} {v : Value} {xs ys : List α} (hs : a.eval s = v) (hrow : RowD d w G base v xs)
    {A : Option Addr} (hx : a.eval x = .slice A m c) (hm : m = ys.length) (hy : Els d w F2 A ys) (hF2 : ∀ k, F2 k → (G k ∨ base ≤ k)) (hown : ∀ g, v.ownBlock = some g → ¬ F2 g)
    (h63 : xs.length + ys.length ≤ maxLen) (hbytes : (xs.length + ys.length) * bytes ≤ 140737488355328) (hbase : base ≤ w.heap.size)
    (h : ∀ v' w', RowD d w' G base v' (xs ++ ys) → w.grownBy w' v.ownBlock → (v'.ownBlock = v.ownBlock ∨ ∀ g, v'.ownBlock = some g → w.heap.size ≤ g) → wpListIn FF nF P ops Q rest (a.put o.dst v') w') : wpListIn FF nF P ops Q (o :: rest) a w := by
  subst hm
  obtain ⟨F, vs, h1, h2, h3, h4⟩ := hrow
  obtain ⟨us, hc, hr⟩ := hy
  have hr0 := hr w (.refl _ _)
  obtain ⟨v', w', hrun, k1, k2, k3⟩ := run_append_row (size := d.sz) (xs := vs) (news := us) (c := c) w et o.type h3 hc hr0.len hr0.one h63 hbytes hbase
  refine wpListIn_plain hgd fun K hK => ?_
  unfold Oper.wpIn
  refine ⟨by simp [Oper.about, ho, resolve, Target.leads, Sem.run_pure], ?_⟩
  rw [Oper.semAt_plain FF _ _ (by rw [ho]; intro c hc'; cases hc')]
  simp [execOp, ho, resolve, invoke, builtin, hs, hx, hrun, Result.andThen]
  refine hK _ _ (h v' w' ?_ k2 k3)
  refine RowD.more (w := w) (v := v) (F := fun k => F k ∨ (F2 k ∧ k < w.heap.size)) ?_ ?_ (fun W hW => h4 W (hW.mono fun k hk => .inl hk)) (fun W hW => hr W fun k hk hlt => hW k (.inr ⟨hk, hlt⟩) hlt) k1 k2 k3
  · rintro k (hk | ⟨hk, hlt⟩)
    · exact h1 k hk
    · exact ⟨hF2 k hk, hlt⟩
  · rintro g hg (hk | ⟨hk, _⟩)
    · exact h2 g hg hk
    · exact hown g hg hk
/-- The same, as the run of the builtin. -/
theorem run_append_rowD {t e : TypeId} {z : Value} {bytes : Nat} (et : ET P t e z d.sz bytes) (ty : TypeId) {base m c : Nat} {G F2 : Nat → Prop} {v : Value} {xs ys : List α} (hrow : RowD d w G base v xs)
    {A : Option Addr} (hm : m = ys.length) (hy : Els d w F2 A ys) (hF2 : ∀ k, F2 k → (G k ∨ base ≤ k)) (hown : ∀ g, v.ownBlock = some g → ¬ F2 g)
    (h63 : xs.length + ys.length ≤ maxLen) (hbytes : (xs.length + ys.length) * bytes ≤ 140737488355328) (hbase : base ≤ w.heap.size) :
    ∃ v' w', (Builtin.append_ #[t, t] ty #[v, .slice A m c]).run P w = .ok v' w' ∧ RowD d w' G base v' (xs ++ ys) ∧ w.grownBy w' v.ownBlock ∧ (v'.ownBlock = v.ownBlock ∨ ∀ g, v'.ownBlock = some g → w.heap.size ≤ g) := by
  subst hm
  obtain ⟨F, vs, h1, h2, h3, h4⟩ := hrow
  obtain ⟨us, hc, hr⟩ := hy
  have hr0 := hr w (.refl _ _)
  obtain ⟨v', w', hrun, k1, k2, k3⟩ := run_append_row (size := d.sz) (xs := vs) (news := us) (c := c) w et ty h3 hc hr0.len hr0.one h63 hbytes hbase
  refine ⟨v', w', hrun, ?_, k2, k3⟩
  refine RowD.more (w := w) (v := v) (F := fun k => F k ∨ (F2 k ∧ k < w.heap.size)) ?_ ?_ (fun W hW => h4 W (hW.mono fun k hk => .inl hk)) (fun W hW => hr W fun k hk hlt => hW k (.inr ⟨hk, hlt⟩) hlt) k1 k2 k3
  · rintro k (hk | ⟨hk, hlt⟩)
    · exact h1 k hk
    · exact ⟨hF2 k hk, hlt⟩
  · rintro g hg (hk | ⟨hk, _⟩)
    · exact h2 g hg hk
    · exact hown g hg hk
end
section
variable {w : World}
/-- An element that is a slice, in a block of its own. -/
theorem els_one {α : Type} {d : Kd α} {F : Nat → Prop} {A B : Option Addr} {c : Nat} {x : List α} (hA : Cells w A [.slice B x.length c]) (hx : Sl d w F B c x) : Els (Kd.slice d) w F A [x] := by
  refine ⟨[.slice B x.length c], hA, fun W hW => ?_⟩
  obtain ⟨h1, h2, vs, hv⟩ := hx
  exact Reps.single ⟨B, c, rfl, h1, h2, vs, (hv W hW).1, (hv W hW).2⟩
/-- Two elements that are slices. -/
theorem els_two {α : Type} {d : Kd α} {F : Nat → Prop} {A B C : Option Addr} {c k : Nat} {x y : List α} (hA : Cells w A [.slice B x.length c, .slice C y.length k]) (hx : Sl d w F B c x) (hy : Sl d w F C k y) : Els (Kd.slice d) w F A [x, y] := by
  refine ⟨[.slice B x.length c, .slice C y.length k], hA, fun W hW => ?_⟩
  obtain ⟨h1, h2, vs, hv⟩ := hx
  obtain ⟨k1, k2, us, hu⟩ := hy
  exact (Reps.single (d := Kd.slice d) (x := x) ⟨B, c, rfl, h1, h2, vs, (hv W hW).1, (hv W hW).2⟩).append (Reps.single ⟨C, k, rfl, k1, k2, us, (hu W hW).1, (hu W hW).2⟩)
theorem els_three {α : Type} {d : Kd α} {F : Nat → Prop} {A B C D : Option Addr} {c k m : Nat} {x y z : List α} (hA : Cells w A [.slice B x.length c, .slice C y.length k, .slice D z.length m]) (hx : Sl d w F B c x) (hy : Sl d w F C k y) (hz : Sl d w F D m z) : Els (Kd.slice d) w F A [x, y, z] := by
  refine ⟨[.slice B x.length c, .slice C y.length k, .slice D z.length m], hA, fun W hW => ?_⟩
  obtain ⟨h1, h2, vs, hv⟩ := hx
  obtain ⟨k1, k2, us, hu⟩ := hy
  obtain ⟨j1, j2, ts, ht⟩ := hz
  exact (Reps.single (d := Kd.slice d) (x := x) ⟨B, c, rfl, h1, h2, vs, (hv W hW).1, (hv W hW).2⟩).append ((Reps.single (d := Kd.slice d) (x := y) ⟨C, k, rfl, k1, k2, us, (hu W hW).1, (hu W hW).2⟩).append (Reps.single ⟨D, m, rfl, j1, j2, ts, (ht W hW).1, (ht W hW).2⟩))
/-- Elements in a block that has just been laid. -/
theorem sl_lit {α : Type} {d : Kd α} {F : Nat → Prop} {e : TypeId} {vs : List Value} {xs : List α} (hl : xs.length ≤ 9223372036854775807) (hr : ∀ W, Keeps F w W → Reps d W xs vs) :
    Sl d (w.alloc (.cells vs.toArray e)) (fun k => F k ∧ k < w.heap.size ∨ k = w.heap.size) (some ⟨w.heap.size, 0, none⟩) xs.length xs := by
  refine ⟨Nat.le_refl _, hl, vs, fun W hW => ⟨?_, hr W ?_⟩⟩
  · have h := heap_alloc_new w (.cells vs.toArray e)
    exact cells_of_blk ((hW w.heap.size (.inr rfl) (by simp)).trans h)
  · intro k hk hlt
    exact (hW k (.inl ⟨hk, hlt⟩) (by simp; omega)).trans (Below.heap_alloc w _ k hlt)
/-- Slices in a block that has just been laid. -/
theorem sl_one {α : Type} {d : Kd α} {F : Nat → Prop} {e : TypeId} {B : Option Addr} {c n : Nat} {x : List α} (hn : x.length = n) (hx : Sl d w F B c x) :
    Sl (Kd.slice d) (w.alloc (.cells #[.slice B n c] e)) (fun k => F k ∧ k < w.heap.size ∨ k = w.heap.size) (some ⟨w.heap.size, 0, none⟩) 1 [x] := by
  subst hn
  obtain ⟨h1, h2, vs, hv⟩ := hx
  exact sl_lit (d := Kd.slice d) (vs := [.slice B x.length c]) (xs := [x]) (by simp) fun W hW => Reps.single ⟨B, c, rfl, h1, h2, vs, (hv W hW).1, (hv W hW).2⟩
theorem sl_two {α : Type} {d : Kd α} {F : Nat → Prop} {e : TypeId} {B C : Option Addr} {c k n m : Nat} {x y : List α} (hn : x.length = n) (hm : y.length = m) (hx : Sl d w F B c x) (hy : Sl d w F C k y) :
    Sl (Kd.slice d) (w.alloc (.cells #[.slice B n c, .slice C m k] e)) (fun k => F k ∧ k < w.heap.size ∨ k = w.heap.size) (some ⟨w.heap.size, 0, none⟩) 2 [x, y] := by
  subst hn hm
  obtain ⟨h1, h2, vs, hv⟩ := hx
  obtain ⟨k1, k2, us, hu⟩ := hy
  exact sl_lit (d := Kd.slice d) (vs := [.slice B x.length c, .slice C y.length k]) (xs := [x, y]) (by simp) fun W hW =>
    (Reps.single (d := Kd.slice d) (x := x) ⟨B, c, rfl, h1, h2, vs, (hv W hW).1, (hv W hW).2⟩).append (Reps.single ⟨C, k, rfl, k1, k2, us, (hu W hW).1, (hu W hW).2⟩)
theorem sl_three {α : Type} {d : Kd α} {F : Nat → Prop} {e : TypeId} {B C D : Option Addr} {c k j n m q : Nat} {x y z : List α} (hn : x.length = n) (hm : y.length = m) (hq : z.length = q) (hx : Sl d w F B c x) (hy : Sl d w F C k y) (hz : Sl d w F D j z) :
    Sl (Kd.slice d) (w.alloc (.cells #[.slice B n c, .slice C m k, .slice D q j] e)) (fun k => F k ∧ k < w.heap.size ∨ k = w.heap.size) (some ⟨w.heap.size, 0, none⟩) 3 [x, y, z] := by
  subst hn hm hq
  obtain ⟨h1, h2, vs, hv⟩ := hx
  obtain ⟨k1, k2, us, hu⟩ := hy
  obtain ⟨j1, j2, ts, ht⟩ := hz
  exact sl_lit (d := Kd.slice d) (vs := [.slice B x.length c, .slice C y.length k, .slice D z.length j]) (xs := [x, y, z]) (by simp) fun W hW =>
    (Reps.single (d := Kd.slice d) (x := x) ⟨B, c, rfl, h1, h2, vs, (hv W hW).1, (hv W hW).2⟩).append ((Reps.single (d := Kd.slice d) (x := y) ⟨C, k, rfl, k1, k2, us, (hu W hW).1, (hu W hW).2⟩).append (Reps.single ⟨D, j, rfl, j1, j2, ts, (ht W hW).1, (ht W hW).2⟩))
theorem Sl.up {α : Type} {d : Kd α} {B B' : Nat} {A : Option Addr} {c : Nat} {x : List α} (hB : B' ≤ B) (h : Sl d w (fun k => B ≤ k) A c x) : Sl d w (fun k => B' ≤ k) A c x := h.mono fun k hk => Nat.le_trans hB hk
theorem sl_one_up {α : Type} {d : Kd α} {B : Nat} {e : TypeId} {A : Option Addr} {c n : Nat} {x : List α} (hB : B ≤ w.heap.size) (hn : x.length = n) (hx : Sl d w (fun k => B ≤ k) A c x) :
    Sl (Kd.slice d) (w.alloc (.cells #[.slice A n c] e)) (fun k => B ≤ k) (some ⟨w.heap.size, 0, none⟩) 1 [x] := (sl_one hn hx).mono fun k hk => by rcases hk with ⟨hk, _⟩ | hk <;> omega
theorem sl_two_up {α : Type} {d : Kd α} {B : Nat} {e : TypeId} {A C : Option Addr} {c k n m : Nat} {x y : List α} (hB : B ≤ w.heap.size) (hn : x.length = n) (hm : y.length = m) (hx : Sl d w (fun k => B ≤ k) A c x) (hy : Sl d w (fun k => B ≤ k) C k y) :
    Sl (Kd.slice d) (w.alloc (.cells #[.slice A n c, .slice C m k] e)) (fun k => B ≤ k) (some ⟨w.heap.size, 0, none⟩) 2 [x, y] := (sl_two hn hm hx hy).mono fun k hk => by rcases hk with ⟨hk, _⟩ | hk <;> omega
theorem sl_three_up {α : Type} {d : Kd α} {B : Nat} {e : TypeId} {A C D : Option Addr} {c k j n m q : Nat} {x y z : List α} (hB : B ≤ w.heap.size) (hn : x.length = n) (hm : y.length = m) (hq : z.length = q) (hx : Sl d w (fun k => B ≤ k) A c x) (hy : Sl d w (fun k => B ≤ k) C k y) (hz : Sl d w (fun k => B ≤ k) D j z) :
    Sl (Kd.slice d) (w.alloc (.cells #[.slice A n c, .slice C m k, .slice D q j] e)) (fun k => B ≤ k) (some ⟨w.heap.size, 0, none⟩) 3 [x, y, z] := (sl_three hn hm hq hx hy hz).mono fun k hk => by rcases hk with ⟨hk, _⟩ | hk <;> omega
end
end Go.Proofs.YtmjicapjkmkckaaGreatDoor.Rk
