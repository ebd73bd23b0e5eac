/- VMis: VIter VRow VMap -/
import Derived.Test.YtldhcknjpmbgnaaGreatDoorGBase
import Derived.RangeFuncIn
import Derived.RangeFuncRecord
import Derived.RangeFuncSeq
import Derived.RangeFuncLeaves
import Derived.RangeFuncCalls
import Derived.Shelf.Abstract
import Derived.OwnWalkIn
import Derived.Shelf.RegionOpen
import Derived.TacticsInMore
import Derived.Laws.EntriesVeiled
import Derived.LoopNIn
import Derived.LoopIn
import Derived.Lib.AppendZerosOnto
import Derived.CallsIn
import Derived.Maps.OwnOps
/- A loop over a function, walked in place: the record, one round, the statement. No program's text. -/
namespace Go.Proofs.YtldhcknjpmbgnaaGreatDoor.Rk
open Go.RowKit Go.Shelf
set_option linter.unusedVariables false
set_option linter.unusedSimpArgs false
section
variable {P : Program}
/-- The record of a loop over a function. -/
def rcd (fn : FuncId) (tmps : Array Value) (ps : Array Tmp) (assign body : Code) (D : Nat) (st : LoopState) (pe : Option Code) : Loop :=
  { state := st, pending := pe, fn := fn, tmps := tmps, params := ps, assign := assign, body := body, defers := D }
/-- It lies at L; no round has put a call off. -/
structure Rcd (W : World) (L D : Nat) (r : Loop) : Prop where
  lp : W.heap[L]? = some (.loop r)
  dl : W.heap[D]? = some (.deferred (some []))
theorem Rcd.keep {W V : World} {L D : Nat} {r : Loop} (h : Rcd W L D r) (h1 : V.heap[L]? = W.heap[L]?) (h2 : V.heap[D]? = W.heap[D]?) : Rcd V L D r := ⟨h1.trans h.lp, h2.trans h.dl⟩
theorem Rcd.below {W V : World} {L D : Nat} {r : Loop} (h : Rcd W L D r) (hb : Below W.heap.size W V) : Rcd V L D r := h.keep (hb.block L (lt_of_block h.lp)) (hb.block D (lt_of_block h.dl))
theorem Rcd.alloc {W : World} {L D : Nat} {r : Loop} (h : Rcd W L D r) (o : Obj) : Rcd (W.alloc o) L D r := h.keep (Below.heap_alloc W o L (lt_of_block h.lp)) (Below.heap_alloc W o D (lt_of_block h.dl))
theorem Rcd.set {W : World} {L D : Nat} {r : Loop} (h : Rcd W L D r) {p : Addr} (u : Value) (h1 : p.block ≠ L) (h2 : p.block ≠ D) : Rcd (W.setCell p u) L D r :=
  h.keep (Below.heap_setCell W p u L (Ne.symm h1)) (Below.heap_setCell W p u D (Ne.symm h2))
theorem Rcd.grown {W V : World} {L D : Nat} {r : Loop} {row : Option Nat} (h : Rcd W L D r) (hg : W.grownBy V row) (h1 : row ≠ some L) (h2 : row ≠ some D) : Rcd V L D r :=
  h.keep (hg.block L (lt_of_block h.lp) (Ne.symm h1)) (hg.block D (lt_of_block h.dl) (Ne.symm h2))
theorem Rcd.drewN {W : World} {L D : Nat} {r : Loop} (h : Rcd W L D r) (n : Nat) : Rcd (W.drewN n) L D r := h.keep rfl rfl
theorem Rcd.turn {W : World} {L D : Nat} {r : Loop} (h : Rcd W L D r) (r' : Loop) (hn : D ≠ L) : Rcd (W.putObj L (.loop r')) L D r' :=
  ⟨World.putObj_heap_same (lt_of_block h.lp), (World.putObj_heap_other hn).trans h.dl⟩
theorem cell_putObj {W : World} {L : Nat} {o : Obj} {p : Addr} (h : p.block ≠ L) : (W.putObj L o).cell? p = W.cell? p := World.cell?_of_block (World.putObj_heap_other h)
theorem frozen_putObj {W : World} {L : Nat} {o : Obj} {p : Addr} (h : p.block ≠ L) : (W.putObj L o).frozen? p = W.frozen? p := World.frozen?_of_block (World.putObj_heap_other h)
theorem grown_putObj (W : World) (L : Nat) (o : Obj) : W.grownBy (W.putObj L o) (some L) := ⟨rfl, rfl, rfl, by simp, fun k _ hk => World.putObj_heap_other (fun e => hk (by rw [e]))⟩

/-- How a round may end. -/
def roundEnd (L D : Nat) (r : LoopState → Option Code → Loop) (R : Ending → World → Prop) : Exit → Act → World → Prop
  | .normal, _, W => Rcd W L D (r .busy none) ∧ R (.returned (.bool true)) (W.putObj L (.loop (r .ready none)))
  | .ret, _, W => Rcd W L D (r .busy none) ∧ R (.returned (.bool false)) (W.putObj L (.loop (r .done (some .ret))))
  | _, _, _ => False
/-- One round: yield is called; the loop's variables are assigned; the body is walked. -/
theorem over_round {r : LoopState → Option Code → Loop} {fn : FuncId} {tmps : Array Value} {ps : Array Tmp} {assign body : Code} {L D : Nat} (hr : Au (r = rcd fn tmps ps assign body D)) {args : Array Value} {W : World} {R : Ending → World → Prop}
    (hl : Rcd W L D (r .ready none)) (hs : args.size = ps.size)
    (h : assign.wpIn (Fence.wide.inRound L) 0 P (Exit.then (fun a1 W1 => Rcd W1 L D (r .ready none) ∧
      body.wpIn (Fence.wide.inRound L) 0 P (roundEnd L D r R) a1 (W1.putObj L (.loop (r .busy none)))) (fun _ _ _ => False))
      { tmps := (ps.zip args).foldl (fun t (p, v) => t.setIfInBounds p v) tmps, defers := [] } W) :
    YieldAt Fence.wide 0 P L args W R := by
  obtain rfl := hr.out
  refine ⟨fn, _, assign, body, run_yield hl.lp hs, roundIn_of_wpIn trivial (wpIn_mono h ?_)⟩
  intro e a1 W1 hp
  cases e with
  | normal =>
    obtain ⟨h1, h2⟩ := hp
    refine ⟨_, run_beginRound h1.lp rfl, wpIn_mono h2 ?_⟩
    intro e2 a2 W2 hp2
    cases e2 with
    | normal => exact ⟨_, _, run_endRound none hp2.1.lp, hp2.2⟩
    | ret => exact ⟨_, _, run_endRound (some .ret) hp2.1.lp, hp2.2⟩
    | exit id => exact hp2.elim
    | goto t => exact hp2.elim
    | panic ch => exact hp2.elim
    | outgrown => exact hp2.elim
  | exit id => exact hp.elim
  | goto t => exact hp.elim
  | ret => exact hp.elim
  | panic ch => exact hp.elim
  | outgrown => exact hp.elim
/-- The statement: the record is laid, the function is called; behind it the walk goes on, or what a round left pending is done. -/
theorem over_in {g : Operand} {ps : Array Tmp} {assign body : Code} {Q : Exit → Act → World → Prop} {a : Act} {w : World} {gf : Nat} {lb : Array Value}
    (hg : a.eval g = .func (.func gf) #[] lb) (eg : Enters P gf)
    (h : ∀ (r : LoopState → Option Code → Loop) fn W1, Au (r = rcd fn a.tmps ps assign body w.heap.size) → Below w.heap.size w W1 → W1.heap.size = w.heap.size + 2 →
      Rcd W1 (w.heap.size + 1) w.heap.size (r .ready none) →
      CallsIn Fence.wide 0 P gf (#[.func (.yield (w.heap.size + 1)) #[] #[]] ++ lb) W1 fun e W' => (∃ v, e = .returned v) ∧
        ((Rcd W' (w.heap.size + 1) w.heap.size (r .ready none) ∧
          Q .normal { tmps := a.tmps, defers := { target := .collected w.heap.size, args := #[] } :: a.defers } (W'.putObj (w.heap.size + 1) (.loop (r .exhausted none)))) ∨
         (Rcd W' (w.heap.size + 1) w.heap.size (r .done (some .ret)) ∧
          Code.ret.wpIn Fence.wide 0 P Q { tmps := a.tmps, defers := { target := .collected w.heap.size, args := #[] } :: a.defers } (W'.putObj (w.heap.size + 1) (.loop (r .exhausted (some .ret))))))) :
    (Code.rangeFunc g ps assign body).wpIn Fence.wide 0 P Q a w := by
  refine wpIn_rangeFunc fun fn _ => ?_
  have hD : (w.alloc (.deferred (some []))).heap[w.heap.size]? = some (.deferred (some [])) := World.alloc_heap_new w _
  have hL := World.alloc_heap_new (w.alloc (.deferred (some []))) (.loop (rcd fn a.tmps ps assign body w.heap.size .ready none))
  rw [World.size_alloc] at hL
  refine ⟨w.heap.size + 1, _, _, { target := .fn (.func gf) lb, args := #[.func (.yield (w.heap.size + 1)) #[] #[]] }, (w.alloc (.deferred (some []))).alloc (.loop (rcd fn a.tmps ps assign body w.heap.size .ready none)), gf, #[.func (.yield (w.heap.size + 1)) #[] #[]] ++ lb,
    (w.alloc (.deferred (some []))).alloc (.loop (rcd fn a.tmps ps assign body w.heap.size .ready none)), run_enterLoop_outer fn a.tmps ps assign body, ?_, fun _ _ => trivial, ?_, (fun h => by cases h), ?_⟩
  · simp only [rangeCall, resolve, hg, List.map_toArray, List.map_cons, List.map_nil]
    simp [go_sem, Act.eval, rcd]
  · simp [invoke, go_sem]
    exact eg _ _
  · refine (h (rcd fn a.tmps ps assign body w.heap.size) fn _ ⟨rfl⟩ (((Below.refl _ _).alloc (Nat.le_refl _) _).alloc (by simp) _) (by simp) ⟨hL, (Below.heap_alloc _ _ _ (by simp)).trans hD⟩).mono ?_
    rintro e W' ⟨⟨v, rfl⟩, (⟨h1, h2⟩ | ⟨h1, h2⟩)⟩
    · exact ⟨none, _, run_endLoop h1.lp (by simp [rcd]), h2⟩
    · exact ⟨some .ret, _, run_endLoop h1.lp (by simp [rcd]), h2⟩
/-- A call of yield. -/
theorem upon_yield {o : Oper} {a : Act} {K : Act → World → Prop} {Q : Exit → Act → World → Prop} {L : Nat} {args : Array Value} {W : World} {R : Ending → World → Prop} (h : YieldAt Fence.wide 0 P L args W R)
    (hk : ∀ e W', R e W' → ∃ v, e = .returned v ∧ K (a.put o.dst v) W') : o.uponIn Fence.wide 0 P a K Q (Sem.run P (Instr.yield L args) W) := by
  obtain ⟨fn, tmps, assign, body, hy, hR⟩ := h
  rw [hy]
  refine ⟨(fun h => by cases h), hR.mono ?_⟩
  intro e W' he
  obtain ⟨v, rfl, h2⟩ := hk e W' he
  exact h2
/-- The last step of a function that held such a loop: what was put off is none. -/
theorem end_marks {f : Func} {tmps : Array Value} {D : Nat} {W : World} {R : Ending → World → Prop} {v : Value} (hd : W.heap[D]? = some (.deferred (some [])))
    (hr : (results f tmps).run P (W.putObj D (.deferred none)) = .ok v (W.putObj D (.deferred none))) (hR : R (.returned v) (W.putObj D (.deferred none))) :
    bodyPostM Fence.wide 0 P f R .ret { tmps := tmps, defers := [{ target := .collected D, args := #[] }] } W :=
  ⟨by simp, .inl ⟨D, _, rfl, run_takeDeferred hd, v, hr, hR⟩⟩
theorem Rcd.deferred {W : World} {L D : Nat} {r : Loop} (h : Rcd W L D r) (hn : D ≠ L) (o : Obj) : (W.putObj L o).heap[D]? = some (.deferred (some [])) := (World.putObj_heap_other hn).trans h.dl
end
end Go.Proofs.YtldhcknjpmbgnaaGreatDoor.Rk
/- Rows of elements that have memory of their own. No program's text. -/
namespace Go.Proofs.YtldhcknjpmbgnaaGreatDoor.Rk
open Go.RowKit
set_option linter.unusedVariables false
set_option linter.unusedSimpArgs false

/-- v is a row of the call's own, of the elements xs; what the elements lean on lies in G, or from base on, and not in the row's own block. -/
def RowD {α : Type} (d : Kd α) (w : World) (G : Nat → Prop) (base : Nat) (v : Value) (xs : List α) : Prop :=
  ∃ (F : Nat → Prop) (vs : List Value), (∀ k, F k → (G k ∨ base ≤ k) ∧ k < w.heap.size) ∧ (∀ g, v.ownBlock = some g → ¬ F g) ∧ Row w base d.sz v xs.length vs ∧ ∀ W, Keeps F w W → Reps d W xs vs
/-- A slice's elements: its cells now, and what they read as, whatever happens outside of F. -/
def Els {α : Type} (d : Kd α) (w : World) (F : Nat → Prop) (A : Option Addr) (xs : List α) : Prop := ∃ vs, Cells w A vs ∧ ∀ W, Keeps F w W → Reps d W xs vs
section
variable {α : Type} {d : Kd α} {w W : World} {F G : Nat → Prop} {base : Nat} {v : Value} {xs ys : List α} {A : Option Addr} {c : Nat}
theorem Sl.els (h : Sl d w F A c xs) : Els d w F A xs := by
  obtain ⟨_, _, vs, hv⟩ := h
  exact ⟨vs, (hv w (.refl _ _)).1, fun W hW => (hv W hW).2⟩
/-- What there is of the memory at a time. -/
theorem Sl.old (h : Sl d w F A c xs) : Sl d w (fun k => F k ∧ k < w.heap.size) A c xs :=
  ⟨h.1, h.2.1, h.2.2.imp fun vs hv W hW => hv W fun k hk hlt => hW k ⟨hk, hlt⟩ hlt⟩
theorem Els.mono (h : Els d w F A xs) (hs : ∀ k, F k → G k) : Els d w G A xs := h.imp fun vs hv => ⟨hv.1, fun W hW => hv.2 W (hW.mono hs)⟩
theorem RowD.nil (d : Kd α) (w : World) (G : Nat → Prop) (base : Nat) : RowD d w G base (.slice none 0 0) [] :=
  ⟨fun _ => False, [], fun k h => h.elim, fun g h => by simp [Value.ownBlock] at h, Row.nil _ _ _, fun W _ => rfl⟩
theorem RowD.row (h : RowD d w G base v xs) : ∃ vs, Row w base d.sz v xs.length vs := by obtain ⟨F, vs, _, _, h3, _⟩ := h; exact ⟨vs, h3⟩
theorem RowD.keep (h : RowD d w G base v xs) (hk : ∀ k, (G k ∨ base ≤ k) → k < w.heap.size → W.heap[k]? = w.heap[k]?) (hs : w.heap.size ≤ W.heap.size) : RowD d W G base v xs := by
  obtain ⟨F, vs, h1, h2, h3, h4⟩ := h
  refine ⟨F, vs, fun k hk => ⟨(h1 k hk).1, Nat.lt_of_lt_of_le (h1 k hk).2 hs⟩, h2, h3.keep (fun g hg => hk g (.inr (h3.block g hg).1) (h3.block g hg).2) hs, fun V hV => h4 V ?_⟩
  intro k hF hlt
  exact (hV k hF (Nat.lt_of_lt_of_le hlt hs)).trans (hk k (h1 k hF).1 hlt)
theorem RowD.below (h : RowD d w G base v xs) (hb : Below w.heap.size w W) : RowD d W G base v xs := h.keep (fun k _ hlt => hb.block k hlt) hb.size
theorem RowD.alloc (h : RowD d w G base v xs) (o : Obj) : RowD d (w.alloc o) G base v xs := h.keep (fun k _ hlt => Below.heap_alloc w o k hlt) (by simp)
theorem RowD.set (h : RowD d w G base v xs) {p : Addr} (u : Value) (hG : ¬ G p.block) (hp : p.block < base) : RowD d (w.setCell p u) G base v xs :=
  h.keep (fun k hk _ => Below.heap_setCell w p u k (by rintro rfl; rcases hk with hk | hk; exact hG hk; omega)) (by simp [World.setCell])
theorem RowD.drewN (h : RowD d w G base v xs) (n : Nat) : RowD d (w.drewN n) G base v xs := h.keep (fun _ _ _ => rfl) (Nat.le_refl _)
theorem RowD.form (h : RowD d w G base v xs) : ∃ A c, v = .slice A xs.length c := by
  obtain ⟨vs, h3⟩ := h.row
  obtain ⟨A, c, e, _⟩ := h3.form
  exact ⟨A, c, e⟩
/-- The row as a slice. -/
theorem RowD.sl (h : RowD d w G base v xs) : ∃ A c, v = .slice A xs.length c ∧ Sl d w (fun k => G k ∨ base ≤ k) A c xs := by
  obtain ⟨F, vs, h1, h2, h3, h4⟩ := h
  obtain ⟨A, c, rfl, hn, hc, _, hv⟩ := h3.form
  exact ⟨A, c, rfl, hn, hc, vs, fun W hW => ⟨hv W (hW.mono fun k hk => .inr hk), h4 W (hW.mono fun k hk => (h1 k hk).1)⟩⟩
/-- More elements stand behind. -/
theorem RowD.more {w' : World} {v' : Value} {vs us : List Value} {F : Nat → Prop} (h1 : ∀ k, F k → (G k ∨ base ≤ k) ∧ k < w.heap.size) (h2 : ∀ g, v.ownBlock = some g → ¬ F g)
    (h4 : ∀ W, Keeps F w W → Reps d W xs vs) (hy : ∀ W, Keeps F w W → Reps d W ys us)
    (hrow : Row w' base d.sz v' (xs.length + ys.length) (vs ++ us)) (hg : w.grownBy w' v.ownBlock) (hv : v'.ownBlock = v.ownBlock ∨ ∀ g, v'.ownBlock = some g → w.heap.size ≤ g) :
    RowD d w' G base v' (xs ++ ys) := by
  have hk : Keeps F w w' := .grown hg h2
  refine ⟨F, vs ++ us, fun k hk => ⟨(h1 k hk).1, Nat.lt_of_lt_of_le (h1 k hk).2 hg.size⟩, ?_, by rw [List.length_append]; exact hrow, fun W hW => ?_⟩
  · intro g hg' hF
    rcases hv with hv | hv
    · exact h2 g (by rw [← hv]; exact hg') hF
    · have := hv g hg'
      have := (h1 g hF).2
      omega
  · have := hk.trans hg.size hW
    exact (h4 W this).append (hy W this)
end

section
variable {α : Type} {d : Kd α} {P : Program} (w : World)
/-- append onto a row: of a slice that lies elsewhere. -/
theorem wp_append_rowD {o : Oper} {a : Act} {K : Act → World → Prop} {Q : Exit → Act → World → Prop} {t e : TypeId} {z : Value} {bytes : Nat} (et : ET P t e z d.sz bytes) (s x : Operand)
    (ho : o.op = .call { callee := .builtin .append, args := #[s, x], argTypes := #[t, t] }) {base m c : Nat} {G F2 : Nat → Prop} {v : Value} {xs ys : List α} (hs : a.eval s = v) (hrow : RowD d w G base v xs)
    {A : Option Addr} (hx : a.eval x = .slice A m c) (hm : m = ys.length) (hy : Els d w F2 A ys) (hF2 : ∀ k, F2 k → (G k ∨ base ≤ k)) (hown : ∀ g, v.ownBlock = some g → ¬ F2 g)
    (h63 : xs.length + ys.length ≤ maxLen) (hbytes : (xs.length + ys.length) * bytes ≤ 140737488355328) (hbase : base ≤ w.heap.size)
    (h : ∀ v' w', RowD d w' G base v' (xs ++ ys) → w.grownBy w' v.ownBlock → (v'.ownBlock = v.ownBlock ∨ ∀ g, v'.ownBlock = some g → w.heap.size ≤ g) → K (a.put o.dst v') w') : o.wp P a w K Q := by
  subst hm
  obtain ⟨F, vs, h1, h2, h3, h4⟩ := hrow
  obtain ⟨us, hc, hr⟩ := hy
  have hr0 := hr w (.refl _ _)
  refine wp_append_row (size := d.sz) (xs := vs) (news := us) w et s x ho hs h3 hx hc hr0.len hr0.one h63 hbytes hbase fun v' w' k1 k2 k3 => h v' w' ?_ k2 k3
  refine RowD.more (w := w) (v := v) (F := fun k => F k ∨ (F2 k ∧ k < w.heap.size)) ?_ ?_ (fun W hW => h4 W (hW.mono fun k hk => .inl hk)) (fun W hW => hr W fun k hk hlt => hW k (.inr ⟨hk, hlt⟩) hlt) k1 k2 k3
  · rintro k (hk | ⟨hk, hlt⟩)
    · exact h1 k hk
    · exact ⟨hF2 k hk, hlt⟩
  · rintro g hg (hk | ⟨hk, _⟩)
    · exact h2 g hg hk
    · exact hown g hg hk
theorem wpList_append_rowD {ops : Array Oper} {rest : List Oper} {o : Oper} {a : Act} {Q : Exit → Act → World → Prop} (hgd : o.guard = none) {t e : TypeId} {z : Value} {bytes : Nat} (et : ET P t e z d.sz bytes) (s x : Operand)
    (ho : o.op = .call { callee := .builtin .append, args := #[s, x], argTypes := #[t, t] }) {base m c : Nat} {G F2 : Nat → Prop} {v : Value} {xs ys : List α} (hs : a.eval s = v) (hrow : RowD d w G base v xs)
    {A : Option Addr} (hx : a.eval x = .slice A m c) (hm : m = ys.length) (hy : Els d w F2 A ys) (hF2 : ∀ k, F2 k → (G k ∨ base ≤ k)) (hown : ∀ g, v.ownBlock = some g → ¬ F2 g)
    (h63 : xs.length + ys.length ≤ maxLen) (hbytes : (xs.length + ys.length) * bytes ≤ 140737488355328) (hbase : base ≤ w.heap.size)
    (h : ∀ v' w', RowD d w' G base v' (xs ++ ys) → w.grownBy w' v.ownBlock → (v'.ownBlock = v.ownBlock ∨ ∀ g, v'.ownBlock = some g → w.heap.size ≤ g) → wpList P ops Q rest (a.put o.dst v') w') : wpList P ops Q (o :: rest) a w :=
  wpList_plain hgd fun _ hK => wp_append_rowD w et s x ho hs hrow hx hm hy hF2 hown h63 hbytes hbase fun v' w' h2 h3 h4 => hK _ _ (h v' w' h2 h3 h4)
/-- What lies below the row stays through an append. -/
theorem RowD.kept {G : Nat → Prop} {base k : Nat} {v : Value} {xs : List α} {W : World} {o : Obj} (h : RowD d w G base v xs) (hg : w.grownBy W v.ownBlock) (hk : w.heap[k]? = some o) (hlt : k < base) : W.heap[k]? = some o := by
  refine (hg.block k (lt_of_block hk) ?_).trans hk
  intro e
  obtain ⟨vs, hr⟩ := h.row
  have := (hr.block k e.symm).1
  omega
theorem RowD.low {G : Nat → Prop} {base : Nat} {v : Value} {xs : List α} (h : RowD d w G base v xs) : ∀ g, v.ownBlock = some g → base ≤ g := fun g hg => by
  obtain ⟨vs, hr⟩ := h.row
  exact (hr.block g hg).1
theorem RowD.high {G : Nat → Prop} {base : Nat} {v : Value} {xs : List α} (h : RowD d w G base v xs) : ∀ g, v.ownBlock = some g → g < w.heap.size := fun g hg => by
  obtain ⟨vs, hr⟩ := h.row
  exact (hr.block g hg).2
/-- The same, within a fence. -/
theorem wpListIn_append_rowD {FF : Fence} {nF : Nat} {ops : Array Oper} {rest : List Oper} {o : Oper} {a : Act} {Q : Exit → Act → World → Prop} (hgd : o.guard = none) {t e : TypeId} {z : Value} {bytes : Nat} (et : ET P t e z d.sz bytes) (s x : Operand)
    (ho : o.op = .call { callee := .builtin .append, args := #[s, x], argTypes := #[t, t] }) {base m c : Nat} {G F2 : Nat → Prop} {v : Value} {xs ys : List α} (hs : a.eval s = v) (hrow : RowD d w G base v xs)
    {A : Option Addr} (hx : a.eval x = .slice A m c) (hm : m = ys.length) (hy : Els d w F2 A ys) (hF2 : ∀ k, F2 k → (G k ∨ base ≤ k)) (hown : ∀ g, v.ownBlock = some g → ¬ F2 g)
    (h63 : xs.length + ys.length ≤ maxLen) (hbytes : (xs.length + ys.length) * bytes ≤ 140737488355328) (hbase : base ≤ w.heap.size)
    (h : ∀ v' w', RowD d w' G base v' (xs ++ ys) → w.grownBy w' v.ownBlock → (v'.ownBlock = v.ownBlock ∨ ∀ g, v'.ownBlock = some g → w.heap.size ≤ g) → wpListIn FF nF P ops Q rest (a.put o.dst v') w') : wpListIn FF nF P ops Q (o :: rest) a w := by
  subst hm
  obtain ⟨F, vs, h1, h2, h3, h4⟩ := hrow
  obtain ⟨us, hc, hr⟩ := hy
  have hr0 := hr w (.refl _ _)
  obtain ⟨v', w', hrun, k1, k2, k3⟩ := run_append_row (size := d.sz) (xs := vs) (news := us) (c := c) w et o.type h3 hc hr0.len hr0.one h63 hbytes hbase
  refine wpListIn_plain hgd fun K hK => ?_
  unfold Oper.wpIn
  refine ⟨by simp [Oper.about, ho, resolve, Target.leads, Sem.run_pure], ?_⟩
  rw [Oper.semAt_plain FF _ _ (by rw [ho]; intro c hc'; cases hc')]
  simp [execOp, ho, resolve, invoke, builtin, hs, hx, hrun, Result.andThen]
  refine hK _ _ (h v' w' ?_ k2 k3)
  refine RowD.more (w := w) (v := v) (F := fun k => F k ∨ (F2 k ∧ k < w.heap.size)) ?_ ?_ (fun W hW => h4 W (hW.mono fun k hk => .inl hk)) (fun W hW => hr W fun k hk hlt => hW k (.inr ⟨hk, hlt⟩) hlt) k1 k2 k3
  · rintro k (hk | ⟨hk, hlt⟩)
    · exact h1 k hk
    · exact ⟨hF2 k hk, hlt⟩
  · rintro g hg (hk | ⟨hk, _⟩)
    · exact h2 g hg hk
    · exact hown g hg hk
/-- The same, as the run of the builtin. -/
theorem run_append_rowD {t e : TypeId} {z : Value} {bytes : Nat} (et : ET P t e z d.sz bytes) (ty : TypeId) {base m c : Nat} {G F2 : Nat → Prop} {v : Value} {xs ys : List α} (hrow : RowD d w G base v xs)
    {A : Option Addr} (hm : m = ys.length) (hy : Els d w F2 A ys) (hF2 : ∀ k, F2 k → (G k ∨ base ≤ k)) (hown : ∀ g, v.ownBlock = some g → ¬ F2 g)
    (h63 : xs.length + ys.length ≤ maxLen) (hbytes : (xs.length + ys.length) * bytes ≤ 140737488355328) (hbase : base ≤ w.heap.size) :
    ∃ v' w', (Builtin.append_ #[t, t] ty #[v, .slice A m c]).run P w = .ok v' w' ∧ RowD d w' G base v' (xs ++ ys) ∧ w.grownBy w' v.ownBlock ∧ (v'.ownBlock = v.ownBlock ∨ ∀ g, v'.ownBlock = some g → w.heap.size ≤ g) := by
  subst hm
  obtain ⟨F, vs, h1, h2, h3, h4⟩ := hrow
  obtain ⟨us, hc, hr⟩ := hy
  have hr0 := hr w (.refl _ _)
  obtain ⟨v', w', hrun, k1, k2, k3⟩ := run_append_row (size := d.sz) (xs := vs) (news := us) (c := c) w et ty h3 hc hr0.len hr0.one h63 hbytes hbase
  refine ⟨v', w', hrun, ?_, k2, k3⟩
  refine RowD.more (w := w) (v := v) (F := fun k => F k ∨ (F2 k ∧ k < w.heap.size)) ?_ ?_ (fun W hW => h4 W (hW.mono fun k hk => .inl hk)) (fun W hW => hr W fun k hk hlt => hW k (.inr ⟨hk, hlt⟩) hlt) k1 k2 k3
  · rintro k (hk | ⟨hk, hlt⟩)
    · exact h1 k hk
    · exact ⟨hF2 k hk, hlt⟩
  · rintro g hg (hk | ⟨hk, _⟩)
    · exact h2 g hg hk
    · exact hown g hg hk
end
section
variable {w : World}
/-- An element that is a slice, in a block of its own. -/
theorem els_one {α : Type} {d : Kd α} {F : Nat → Prop} {A B : Option Addr} {c : Nat} {x : List α} (hA : Cells w A [.slice B x.length c]) (hx : Sl d w F B c x) : Els (Kd.slice d) w F A [x] := by
  refine ⟨[.slice B x.length c], hA, fun W hW => ?_⟩
  obtain ⟨h1, h2, vs, hv⟩ := hx
  exact Reps.single ⟨B, c, rfl, h1, h2, vs, (hv W hW).1, (hv W hW).2⟩
/-- Two elements that are slices. -/
theorem els_two {α : Type} {d : Kd α} {F : Nat → Prop} {A B C : Option Addr} {c k : Nat} {x y : List α} (hA : Cells w A [.slice B x.length c, .slice C y.length k]) (hx : Sl d w F B c x) (hy : Sl d w F C k y) : Els (Kd.slice d) w F A [x, y] := by
  refine ⟨[.slice B x.length c, .slice C y.length k], hA, fun W hW => ?_⟩
  obtain ⟨h1, h2, vs, hv⟩ := hx
  obtain ⟨k1, k2, us, hu⟩ := hy
  exact (Reps.single (d := Kd.slice d) (x := x) ⟨B, c, rfl, h1, h2, vs, (hv W hW).1, (hv W hW).2⟩).append (Reps.single ⟨C, k, rfl, k1, k2, us, (hu W hW).1, (hu W hW).2⟩)
theorem els_three {α : Type} {d : Kd α} {F : Nat → Prop} {A B C D : Option Addr} {c k m : Nat} {x y z : List α} (hA : Cells w A [.slice B x.length c, .slice C y.length k, .slice D z.length m]) (hx : Sl d w F B c x) (hy : Sl d w F C k y) (hz : Sl d w F D m z) : Els (Kd.slice d) w F A [x, y, z] := by
  refine ⟨[.slice B x.length c, .slice C y.length k, .slice D z.length m], hA, fun W hW => ?_⟩
  obtain ⟨h1, h2, vs, hv⟩ := hx
  obtain ⟨k1, k2, us, hu⟩ := hy
  obtain ⟨j1, j2, ts, ht⟩ := hz
  exact (Reps.single (d := Kd.slice d) (x := x) ⟨B, c, rfl, h1, h2, vs, (hv W hW).1, (hv W hW).2⟩).append ((Reps.single (d := Kd.slice d) (x := y) ⟨C, k, rfl, k1, k2, us, (hu W hW).1, (hu W hW).2⟩).append (Reps.single ⟨D, m, rfl, j1, j2, ts, (ht W hW).1, (ht W hW).2⟩))
/-- Elements in a block that has just been laid. -/
theorem sl_lit {α : Type} {d : Kd α} {F : Nat → Prop} {e : TypeId} {vs : List Value} {xs : List α} (hl : xs.length ≤ 9223372036854775807) (hr : ∀ W, Keeps F w W → Reps d W xs vs) :
    Sl d (w.alloc (.cells vs.toArray e)) (fun k => F k ∧ k < w.heap.size ∨ k = w.heap.size) (some ⟨w.heap.size, 0, none⟩) xs.length xs := by
  refine ⟨Nat.le_refl _, hl, vs, fun W hW => ⟨?_, hr W ?_⟩⟩
  · have h := heap_alloc_new w (.cells vs.toArray e)
    exact cells_of_blk ((hW w.heap.size (.inr rfl) (by simp)).trans h)
  · intro k hk hlt
    exact (hW k (.inl ⟨hk, hlt⟩) (by simp; omega)).trans (Below.heap_alloc w _ k hlt)
/-- Slices in a block that has just been laid. -/
theorem sl_one {α : Type} {d : Kd α} {F : Nat → Prop} {e : TypeId} {B : Option Addr} {c n : Nat} {x : List α} (hn : x.length = n) (hx : Sl d w F B c x) :
    Sl (Kd.slice d) (w.alloc (.cells #[.slice B n c] e)) (fun k => F k ∧ k < w.heap.size ∨ k = w.heap.size) (some ⟨w.heap.size, 0, none⟩) 1 [x] := by
  subst hn
  obtain ⟨h1, h2, vs, hv⟩ := hx
  exact sl_lit (d := Kd.slice d) (vs := [.slice B x.length c]) (xs := [x]) (by simp) fun W hW => Reps.single ⟨B, c, rfl, h1, h2, vs, (hv W hW).1, (hv W hW).2⟩
theorem sl_two {α : Type} {d : Kd α} {F : Nat → Prop} {e : TypeId} {B C : Option Addr} {c k n m : Nat} {x y : List α} (hn : x.length = n) (hm : y.length = m) (hx : Sl d w F B c x) (hy : Sl d w F C k y) :
    Sl (Kd.slice d) (w.alloc (.cells #[.slice B n c, .slice C m k] e)) (fun k => F k ∧ k < w.heap.size ∨ k = w.heap.size) (some ⟨w.heap.size, 0, none⟩) 2 [x, y] := by
  subst hn hm
  obtain ⟨h1, h2, vs, hv⟩ := hx
  obtain ⟨k1, k2, us, hu⟩ := hy
  exact sl_lit (d := Kd.slice d) (vs := [.slice B x.length c, .slice C y.length k]) (xs := [x, y]) (by simp) fun W hW =>
    (Reps.single (d := Kd.slice d) (x := x) ⟨B, c, rfl, h1, h2, vs, (hv W hW).1, (hv W hW).2⟩).append (Reps.single ⟨C, k, rfl, k1, k2, us, (hu W hW).1, (hu W hW).2⟩)
theorem sl_three {α : Type} {d : Kd α} {F : Nat → Prop} {e : TypeId} {B C D : Option Addr} {c k j n m q : Nat} {x y z : List α} (hn : x.length = n) (hm : y.length = m) (hq : z.length = q) (hx : Sl d w F B c x) (hy : Sl d w F C k y) (hz : Sl d w F D j z) :
    Sl (Kd.slice d) (w.alloc (.cells #[.slice B n c, .slice C m k, .slice D q j] e)) (fun k => F k ∧ k < w.heap.size ∨ k = w.heap.size) (some ⟨w.heap.size, 0, none⟩) 3 [x, y, z] := by
  subst hn hm hq
  obtain ⟨h1, h2, vs, hv⟩ := hx
  obtain ⟨k1, k2, us, hu⟩ := hy
  obtain ⟨j1, j2, ts, ht⟩ := hz
  exact sl_lit (d := Kd.slice d) (vs := [.slice B x.length c, .slice C y.length k, .slice D z.length j]) (xs := [x, y, z]) (by simp) fun W hW =>
    (Reps.single (d := Kd.slice d) (x := x) ⟨B, c, rfl, h1, h2, vs, (hv W hW).1, (hv W hW).2⟩).append ((Reps.single (d := Kd.slice d) (x := y) ⟨C, k, rfl, k1, k2, us, (hu W hW).1, (hu W hW).2⟩).append (Reps.single ⟨D, j, rfl, j1, j2, ts, (ht W hW).1, (ht W hW).2⟩))
theorem Sl.up {α : Type} {d : Kd α} {B B' : Nat} {A : Option Addr} {c : Nat} {x : List α} (hB : B' ≤ B) (h : Sl d w (fun k => B ≤ k) A c x) : Sl d w (fun k => B' ≤ k) A c x := h.mono fun k hk => Nat.le_trans hB hk
theorem sl_one_up {α : Type} {d : Kd α} {B : Nat} {e : TypeId} {A : Option Addr} {c n : Nat} {x : List α} (hB : B ≤ w.heap.size) (hn : x.length = n) (hx : Sl d w (fun k => B ≤ k) A c x) :
    Sl (Kd.slice d) (w.alloc (.cells #[.slice A n c] e)) (fun k => B ≤ k) (some ⟨w.heap.size, 0, none⟩) 1 [x] := (sl_one hn hx).mono fun k hk => by rcases hk with ⟨hk, _⟩ | hk <;> omega
theorem sl_two_up {α : Type} {d : Kd α} {B : Nat} {e : TypeId} {A C : Option Addr} {c k n m : Nat} {x y : List α} (hB : B ≤ w.heap.size) (hn : x.length = n) (hm : y.length = m) (hx : Sl d w (fun k => B ≤ k) A c x) (hy : Sl d w (fun k => B ≤ k) C k y) :
    Sl (Kd.slice d) (w.alloc (.cells #[.slice A n c, .slice C m k] e)) (fun k => B ≤ k) (some ⟨w.heap.size, 0, none⟩) 2 [x, y] := (sl_two hn hm hx hy).mono fun k hk => by rcases hk with ⟨hk, _⟩ | hk <;> omega
theorem sl_three_up {α : Type} {d : Kd α} {B : Nat} {e : TypeId} {A C D : Option Addr} {c k j n m q : Nat} {x y z : List α} (hB : B ≤ w.heap.size) (hn : x.length = n) (hm : y.length = m) (hq : z.length = q) (hx : Sl d w (fun k => B ≤ k) A c x) (hy : Sl d w (fun k => B ≤ k) C k y) (hz : Sl d w (fun k => B ≤ k) D j z) :
    Sl (Kd.slice d) (w.alloc (.cells #[.slice A n c, .slice C m k, .slice D q j] e)) (fun k => B ≤ k) (some ⟨w.heap.size, 0, none⟩) 3 [x, y, z] := (sl_three hn hm hq hx hy hz).mono fun k hk => by rcases hk with ⟨hk, _⟩ | hk <;> omega
end
end Go.Proofs.YtldhcknjpmbgnaaGreatDoor.Rk
/- Maps that a call makes: what stands in them, in order. No program's text. -/
namespace Go.Proofs.YtldhcknjpmbgnaaGreatDoor.Rk
open Go.RowKit Go.Maps
set_option linter.unusedVariables false
set_option linter.unusedSimpArgs false
/-- Block b is a map; its entries are ps. -/
def MapL (P : Program) (k : TypeId) (w : World) (b : Nat) (ps : List (Value × Value)) : Prop :=
  ∃ (es : Array MapEntry) (clock : Nat), w.heap[b]? = some (.map es clock) ∧ es.toList.map (fun e => (e.key, e.val)) = ps ∧ ∀ p ∈ ps, ∃ l, keyOf P k p.1 = some l
section
variable {P : Program} {k e t : TypeId} {w W : World} {b : Nat} {ps : List (Value × Value)}
theorem MapL.keep (h : MapL P k w b ps) (hk : W.heap[b]? = w.heap[b]?) : MapL P k W b ps := by
  obtain ⟨es, c, h1, h2, h3⟩ := h
  exact ⟨es, c, hk.trans h1, h2, h3⟩
theorem MapL.lt (h : MapL P k w b ps) : b < w.heap.size := by
  obtain ⟨es, c, h1, _⟩ := h
  exact lt_of_block h1
theorem MapL.below (h : MapL P k w b ps) (hb : Below w.heap.size w W) : MapL P k W b ps := h.keep (hb.block b h.lt)
theorem MapL.made (P : Program) (k : TypeId) (w : World) : MapL P k (w.alloc (.map #[] 0)) w.heap.size [] := ⟨#[], 0, heap_alloc_new _ _, rfl, by simp⟩
theorem MapL.keys (h : ∀ p ∈ ps, ∃ l, keyOf P k p.1 = some l) {es : Array MapEntry} (he : es.toList.map (fun e => (e.key, e.val)) = ps) : ∀ e ∈ es.toList, ∃ l, keyOf P k e.key = some l := fun e hm => by
  have : (e.key, e.val) ∈ ps := by rw [← he]; exact List.mem_map.2 ⟨e, hm, rfl⟩
  exact h _ this
/-- A key that is not there. -/
theorem run_lookup_miss (K : Keyed P k) (ht : P.underlying t = some (.map k e)) {z : Value} (hz : (zeroValue e).run P w = .ok z w) (h : MapL P k w b ps) {x : Value} {l : Lit} (hx : keyOf P k x = some l) (hm : ∀ p ∈ ps, p.1 ≠ x) (c : Bool) :
    (Instr.lookup t (.map (some b)) x c).run P w = .ok (if c then .tuple #[z, .bool false] else z) w := by
  obtain ⟨es, cl, h1, h2, h3⟩ := h
  rcases K.find w hx es.toList (MapL.keys h3 h2) with ⟨q1, q2⟩ | ⟨j, e0, q1, q2, q3⟩
  · cases c <;> simp [Instr.lookup, run_underlying ht, MapKept.run_getObj_map h1, K.check w es.isEmpty hx, q1, hz, Result.andThen]
  · exfalso
    have : (e0.key, e0.val) ∈ ps := by rw [← h2]; exact List.mem_map.2 ⟨e0, List.mem_of_getElem? q2, rfl⟩
    exact hm _ this q3
/-- A key that is there. -/
theorem run_lookup_hit (K : Keyed P k) (ht : P.underlying t = some (.map k e)) (h : MapL P k w b ps) {x v : Value} {l : Lit} (hx : keyOf P k x = some l) (hm : (x, v) ∈ ps) (hu : ∀ p ∈ ps, p.1 = x → p.2 = v) (c : Bool) :
    (Instr.lookup t (.map (some b)) x c).run P w = .ok (if c then .tuple #[v, .bool true] else v) w := by
  obtain ⟨es, cl, h1, h2, h3⟩ := h
  rcases K.find w hx es.toList (MapL.keys h3 h2) with ⟨q1, q2⟩ | ⟨j, e0, q1, q2, q3⟩
  · exfalso
    rw [← h2] at hm
    obtain ⟨e0, he, heq⟩ := List.mem_map.1 hm
    exact q2 e0 he (by injection heq)
  · have hmem : (e0.key, e0.val) ∈ ps := by rw [← h2]; exact List.mem_map.2 ⟨e0, List.mem_of_getElem? q2, rfl⟩
    have hv : e0.val = v := hu _ hmem q3
    cases c <;> simp [Instr.lookup, run_underlying ht, MapKept.run_getObj_map h1, K.check w es.isEmpty hx, q1, hv, Result.andThen]
/-- A new key. -/
theorem run_update_new (K : Keyed P k) (ht : P.underlying t = some (.map k e)) (h : MapL P k w b ps) {x v : Value} {l : Lit} (hx : keyOf P k x = some l) (hm : ∀ p ∈ ps, p.1 ≠ x) :
    ∃ o, (Instr.mapUpdate t (.map (some b)) x v).run P w = .ok () (w.putObj b o) ∧ MapL P k (w.putObj b o) b (ps ++ [(x, v)]) := by
  obtain ⟨es, cl, h1, h2, h3⟩ := h
  rcases K.find w hx es.toList (MapL.keys h3 h2) with ⟨q1, q2⟩ | ⟨j, e0, q1, q2, q3⟩
  · refine ⟨.map (es.push ⟨x, v, cl⟩) (cl + 1), ?_, ⟨_, _, World.putObj_heap_same (lt_of_block h1), ?_, ?_⟩⟩
    · simp [Instr.mapUpdate, run_underlying ht, MapKept.run_getObj_map h1, K.check w false hx, q1, MapKept.run_setObj_map _ h1, Result.andThen, World.putObj]
    · simp [h2]
    · intro p hp
      rcases List.mem_append.1 hp with hp | hp
      · exact h3 p hp
      · rw [List.mem_singleton.1 hp]; exact ⟨l, hx⟩
  · exfalso
    have : (e0.key, e0.val) ∈ ps := by rw [← h2]; exact List.mem_map.2 ⟨e0, List.mem_of_getElem? q2, rfl⟩
    exact hm _ this q3
end
end Go.Proofs.YtldhcknjpmbgnaaGreatDoor.Rk
