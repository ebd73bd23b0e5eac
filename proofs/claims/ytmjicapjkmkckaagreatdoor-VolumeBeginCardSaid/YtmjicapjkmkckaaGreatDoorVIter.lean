/- A loop over a function, walked in place: the record, one round, the statement. No program's text. -/
import Derived.Test.YtmjicapjkmkckaaGreatDoorGBase
import Derived.RangeFuncIn
import Derived.RangeFuncRecord
import Derived.RangeFuncSeq
import Derived.RangeFuncLeaves
import Derived.RangeFuncCalls
import Derived.Shelf.Abstract
import Derived.OwnWalkIn
import Derived.Shelf.RegionOpen
import Derived.TacticsInMore
import Derived.Laws.EntriesVeiled
import Derived.LoopNIn
import Derived.LoopIn
namespace Go.Proofs.YtmjicapjkmkckaaGreatDoor.Rk
open Go.RowKit Go.Shelf
set_option linter.unusedVariables false
set_option linter.unusedSimpArgs false
section
variable {P : Program}
/-- The record of a loop over a function. -/
def rcd (fn : FuncId) (tmps : Array Value) (ps : Array Tmp) (assign body : Code) (D : Nat) (st : LoopState) (pe : Option Code) : Loop :=
  { state := st, pending := pe, fn := fn, tmps := tmps, params := ps, assign := assign, body := body, defers := D }
/-- It lies at L; no round has put a call off. -/
structure Rcd (W : World) (L D : Nat) (r : Loop) : Prop where
  lp : W.heap[L]? = some (.loop r)
  dl : W.heap[D]? = some (.deferred (some []))
theorem Rcd.keep {W V : World} {L D : Nat} {r : Loop} (h : Rcd W L D r) (h1 : V.heap[L]? = W.heap[L]?) (h2 : V.heap[D]? = W.heap[D]?) : Rcd V L D r := ⟨h1.trans h.lp, h2.trans h.dl⟩
theorem Rcd.below {W V : World} {L D : Nat} {r : Loop} (h : Rcd W L D r) (hb : Below W.heap.size W V) : Rcd V L D r := h.keep (hb.block L (lt_of_block h.lp)) (hb.block D (lt_of_block h.dl))
theorem Rcd.alloc {W : World} {L D : Nat} {r : Loop} (h : Rcd W L D r) (o : Obj) : Rcd (W.alloc o) L D r := h.keep (Below.heap_alloc W o L (lt_of_block h.lp)) (Below.heap_alloc W o D (lt_of_block h.dl))
theorem Rcd.set {W : World} {L D : Nat} {r : Loop} (h : Rcd W L D r) {p : Addr} (u : Value) (h1 : p.block ≠ L) (h2 : p.block ≠ D) : Rcd (W.setCell p u) L D r :=
  h.keep (Below.heap_setCell W p u L (Ne.symm h1)) (Below.heap_setCell W p u D (Ne.symm h2))
theorem Rcd.grown {W V : World} {L D : Nat} {r : Loop} {row : Option Nat} (h : Rcd W L D r) (hg : W.grownBy V row) (h1 : row ≠ some L) (h2 : row ≠ some D) : Rcd V L D r :=
  h.keep (hg.block L (lt_of_block h.lp) (Ne.symm h1)) (hg.block D (lt_of_block h.dl) (Ne.symm h2))
theorem Rcd.drewN {W : World} {L D : Nat} {r : Loop} (h : Rcd W L D r) (n : Nat) : Rcd (W.drewN n) L D r := h.keep rfl rfl
theorem Rcd.turn {W : World} {L D : Nat} {r : Loop} (h : Rcd W L D r) (r' : Loop) (hn : D ≠ L) : Rcd (W.putObj L (.loop r')) L D r' :=
  ⟨World.putObj_heap_same (lt_of_block h.lp), (World.putObj_heap_other hn).trans h.dl⟩
theorem cell_putObj {W : World} {L : Nat} {o : Obj} {p : Addr} (h : p.block ≠ L) : (W.putObj L o).cell? p = W.cell? p := World.cell?_of_block (World.putObj_heap_other h)
theorem frozen_putObj {W : World} {L : Nat} {o : Obj} {p : Addr} (h : p.block ≠ L) : (W.putObj L o).frozen? p = W.frozen? p := World.frozen?_of_block (World.putObj_heap_other h)
theorem grown_putObj (W : World) (L : Nat) (o : Obj) : W.grownBy (W.putObj L o) (some L) := ⟨rfl, rfl, rfl, by simp, fun k _ hk => World.putObj_heap_other (fun e => hk (by rw [e]))⟩

/-- How a round may end. -/
def roundEnd (L D : Nat) (r : LoopState → Option Code → Loop) (R : Ending → World → Prop) : Exit → Act → World → Prop
  | .normal, _, W => Rcd W L D (r .busy none) ∧ R (.returned (.bool true)) (W.putObj L (.loop (r .ready none)))
  | .ret, _, W => Rcd W L D (r .busy none) ∧ R (.returned (.bool false)) (W.putObj L (.loop (r .done (some .ret))))
  | _, _, _ => False
/-- One round: yield is called; the loop's variables are assigned; the body is walked. -/
theorem over_round {r : LoopState → Option Code → Loop} {fn : FuncId} {tmps : Array Value} {ps : Array Tmp} {assign body : Code} {L D : Nat} (hr : Au (r = rcd fn tmps ps assign body D)) {args : Array Value} {W : World} {R : Ending → World → Prop}
    (hl : Rcd W L D (r .ready none)) (hs : args.size = ps.size)
    (h : assign.wpIn (Fence.wide.inRound L) 0 P (Exit.then (fun a1 W1 => Rcd W1 L D (r .ready none) ∧
      body.wpIn (Fence.wide.inRound L) 0 P (roundEnd L D r R) a1 (W1.putObj L (.loop (r .busy none)))) (fun _ _ _ => False))
      { tmps := (ps.zip args).foldl (fun t (p, v) => t.setIfInBounds p v) tmps, defers := [] } W) :
    YieldAt Fence.wide 0 P L args W R := by
  obtain rfl := hr.out
  refine ⟨fn, _, assign, body, run_yield hl.lp hs, roundIn_of_wpIn trivial (wpIn_mono h ?_)⟩
  intro e a1 W1 hp
  cases e with
  | normal =>
    obtain ⟨h1, h2⟩ := hp
    refine ⟨_, run_beginRound h1.lp rfl, wpIn_mono h2 ?_⟩
    intro e2 a2 W2 hp2
    cases e2 with
    | normal => exact ⟨_, _, run_endRound none hp2.1.lp, hp2.2⟩
    | ret => exact ⟨_, _, run_endRound (some .ret) hp2.1.lp, hp2.2⟩
    | exit id => exact hp2.elim
    | goto t => exact hp2.elim
    | panic ch => exact hp2.elim
    | outgrown => exact hp2.elim
  | exit id => exact hp.elim
  | goto t => exact hp.elim
  | ret => exact hp.elim
  | panic ch => exact hp.elim
  | outgrown => exact hp.elim
/-- The statement: the record is laid, the function is called; behind it the walk goes on, or what a round left pending is done. -/
theorem over_in {g : Operand} {ps : Array Tmp} {assign body : Code} {Q : Exit → Act → World → Prop} {a : Act} {w : World} {gf : Nat} {lb : Array Value}
    (hg : a.eval g = .func (.func gf) #[] lb) (eg : Enters P gf)
    (h : ∀ (r : LoopState → Option Code → Loop) fn W1, Au (r = rcd fn a.tmps ps assign body w.heap.size) → Below w.heap.size w W1 → W1.heap.size = w.heap.size + 2 →
      Rcd W1 (w.heap.size + 1) w.heap.size (r .ready none) →
      CallsIn Fence.wide 0 P gf (#[.func (.yield (w.heap.size + 1)) #[] #[]] ++ lb) W1 fun e W' => (∃ v, e = .returned v) ∧
        ((Rcd W' (w.heap.size + 1) w.heap.size (r .ready none) ∧
          Q .normal { tmps := a.tmps, defers := { target := .collected w.heap.size, args := #[] } :: a.defers } (W'.putObj (w.heap.size + 1) (.loop (r .exhausted none)))) ∨
         (Rcd W' (w.heap.size + 1) w.heap.size (r .done (some .ret)) ∧
          Code.ret.wpIn Fence.wide 0 P Q { tmps := a.tmps, defers := { target := .collected w.heap.size, args := #[] } :: a.defers } (W'.putObj (w.heap.size + 1) (.loop (r .exhausted (some .ret))))))) :
    (Code.rangeFunc g ps assign body).wpIn Fence.wide 0 P Q a w := by
  refine wpIn_rangeFunc fun fn _ => ?_
  have hD : (w.alloc (.deferred (some []))).heap[w.heap.size]? = some (.deferred (some [])) := World.alloc_heap_new w _
  have hL := World.alloc_heap_new (w.alloc (.deferred (some []))) (.loop (rcd fn a.tmps ps assign body w.heap.size .ready none))
  rw [World.size_alloc] at hL
  refine ⟨w.heap.size + 1, _, _, { target := .fn (.func gf) lb, args := #[.func (.yield (w.heap.size + 1)) #[] #[]] }, (w.alloc (.deferred (some []))).alloc (.loop (rcd fn a.tmps ps assign body w.heap.size .ready none)), gf, #[.func (.yield (w.heap.size + 1)) #[] #[]] ++ lb,
    (w.alloc (.deferred (some []))).alloc (.loop (rcd fn a.tmps ps assign body w.heap.size .ready none)), run_enterLoop_outer fn a.tmps ps assign body, ?_, fun _ _ => trivial, ?_, (fun h => by cases h), ?_⟩
  · simp only [rangeCall, resolve, hg, List.map_toArray, List.map_cons, List.map_nil]
    simp [go_sem, Act.eval, rcd]
  · simp [invoke, go_sem]
    exact eg _ _
  · refine (h (rcd fn a.tmps ps assign body w.heap.size) fn _ ⟨rfl⟩ (((Below.refl _ _).alloc (Nat.le_refl _) _).alloc (by simp) _) (by simp) ⟨hL, (Below.heap_alloc _ _ _ (by simp)).trans hD⟩).mono ?_
    rintro e W' ⟨⟨v, rfl⟩, (⟨h1, h2⟩ | ⟨h1, h2⟩)⟩
    · exact ⟨none, _, run_endLoop h1.lp (by simp [rcd]), h2⟩
    · exact ⟨some .ret, _, run_endLoop h1.lp (by simp [rcd]), h2⟩
/-- A call of yield. -/
theorem upon_yield {o : Oper} {a : Act} {K : Act → World → Prop} {Q : Exit → Act → World → Prop} {L : Nat} {args : Array Value} {W : World} {R : Ending → World → Prop} (h : YieldAt Fence.wide 0 P L args W R)
    (hk : ∀ e W', R e W' → ∃ v, e = .returned v ∧ K (a.put o.dst v) W') : o.uponIn Fence.wide 0 P a K Q (Sem.run P (Instr.yield L args) W) := by
  obtain ⟨fn, tmps, assign, body, hy, hR⟩ := h
  rw [hy]
  refine ⟨(fun h => by cases h), hR.mono ?_⟩
  intro e W' he
  obtain ⟨v, rfl, h2⟩ := hk e W' he
  exact h2
/-- The last step of a function that held such a loop: what was put off is none. -/
theorem end_marks {f : Func} {tmps : Array Value} {D : Nat} {W : World} {R : Ending → World → Prop} {v : Value} (hd : W.heap[D]? = some (.deferred (some [])))
    (hr : (results f tmps).run P (W.putObj D (.deferred none)) = .ok v (W.putObj D (.deferred none))) (hR : R (.returned v) (W.putObj D (.deferred none))) :
    bodyPostM Fence.wide 0 P f R .ret { tmps := tmps, defers := [{ target := .collected D, args := #[] }] } W :=
  ⟨by simp, .inl ⟨D, _, rfl, run_takeDeferred hd, v, hr, hR⟩⟩
theorem Rcd.deferred {W : World} {L D : Nat} {r : Loop} (h : Rcd W L D r) (hn : D ≠ L) (o : Obj) : (W.putObj L o).heap[D]? = some (.deferred (some [])) := (World.putObj_heap_other hn).trans h.dl
end
end Go.Proofs.YtmjicapjkmkckaaGreatDoor.Rk
