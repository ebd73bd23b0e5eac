/- Check: Next, walked. -/
import Derived.Test.YtldhcknjpmbgnaaGreatDoorCkE
namespace Go.Proofs.YtldhcknjpmbgnaaGreatDoor.Rk
open Go.RowKit Go.Shelf
attribute [local go_sem] Oper.semAt_some
set_option linter.unusedVariables false
set_option linter.unusedSimpArgs false
set_option maxRecDepth 100000

theorem nextF_calls (s : Ps) (hS : s.S) (hsR : s.R) (name : List UInt8) (num : Int) (t : Tp) (hR : R64 t.cap) {n : Nat} (hn : t.recs.length = n) {r : Bool} (h : ((cfitsT s name num t).2 == 0) = r) {A : Option Addr} {c : Nat} {F : Nat → Prop} {q1 q2 q3 : Nat} (w : World) (hT : Tab w) (ha : Sl (Kd.slice Kd.byte) w F A c t.recs)
    (h1 : w.heap[q1]? = some (.cells s.cells.toArray 25 (0, 0))) (h2 : w.cell? ⟨q2, 0, none⟩ = some (.string (ofL name))) (h3 : w.cell? ⟨q3, 0, none⟩ = some (.int .i64 num)) :
    Calls Tryz.prog 36 #[.agg #[.int .i64 t.cap, .slice A n c, .bool t.mark], .pointer (some ⟨q1, 0, none⟩), .pointer (some ⟨q2, 0, none⟩), .pointer (some ⟨q3, 0, none⟩)] w fun e w' => e = .returned (.bool r) ∧ Below w.heap.size w w' := by
  have hb0 := (Below.refl w.heap.size w).alloc (Nat.le_refl _) (.cells #[.int .i64 t.cap, .slice A n c, .bool t.mark] 38)
  have B0 : (w.alloc (.cells #[.int .i64 t.cap, .slice A n c, .bool t.mark] 38)).heap[w.heap.size]? = some (.cells #[.int .i64 t.cap, .slice A n c, .bool t.mark] 38 (0, 0)) := heap_alloc_new _ _
  have H0 := Au.mk (ha.old.alloc (.cells #[.int .i64 t.cap, .slice A n c, .bool t.mark] 38))
  have T0 := Au.mk (hT.below hb0)
  have x0 := blk_cell B0 0 rfl
  have x1 := blk_cell B0 1 rfl
  have x2 := blk_cell B0 2 rfl
  obtain ⟨⟨k, er⟩, W1⟩ := au (cfitsT s name num t)
  have CM := Au.mk (fun (W : World) (hT : Tab W) (h : Sl (Kd.slice Kd.byte) W (fun k => F k ∧ k < w.heap.size) A c t.recs) => cfits_calls s hS hsR name num t hR hn W1.out W hT h)
  rw [W1.out] at h
  dsimp only at h
  have B1 := blk_alloc h1 (.cells #[.int .i64 t.cap, .slice A n c, .bool t.mark] 38)
  obtain ⟨f0, f1, f2, f3, f4, f5, f6, f7, f8, f9, f10, f11, f12, f13⟩ := st_cells s B1
  have k2 := cell_alloc h2 (.cells #[.int .i64 t.cap, .slice A n c, .bool t.mark] 38)
  have k3 := cell_alloc h3 (.cells #[.int .i64 t.cap, .slice A n c, .bool t.mark] 38)
  unfold Ps.agg at CM
  clear hT ha h1 h2 h3 B1
  go_enter Tryz.func36, Tryz.ntmps36
  go_wp2_with fail
  refine (CM.out _ T0.out H0.out).mono ?_
  rintro e w1 ⟨rfl, b1⟩
  have e1 := Au.mk (below_then hb0 b1 hb0.size)
  clear x0 x1 x2 f0 f1 f2 f3 f4 f5 f6 f7 f8 f9 f10 f11 f12 f13 k2 k3 B0 b1 CM H0 T0
  go_wp2_with fail
  go_ret
  exact ⟨rfl, e1.out⟩
theorem places_append {p : Tp → Bool} : ∀ (a b : List Tp) (j : Nat), placesT p j (a ++ b) = placesT p j a ++ placesT p (j + a.length) b
  | [], b, j => by simp [placesT]
  | t :: a, b, j => by
    have ih := places_append (p := p) a b (j + 1)
    rw [List.cons_append]
    unfold placesT
    rw [ih, List.length_cons, show j + 1 + a.length = j + (a.length + 1) by omega]
    split
    · rw [List.cons_append]
      congr 2
      cases b <;> rfl
    · congr 1
      cases b <;> rfl
theorem places_first {p : Tp → Bool} {l : List Tp} {k : Nat} {t : Tp} (hk : l[k]? = some t) (hp : p t = true) (h0 : placesT p 0 (l.take k) = []) : ∃ rest, placesT p 0 l = k :: rest := by
  refine ⟨placesT p (0 + (l.take (k + 1)).length) (l.drop (k + 1)), ?_⟩
  have h1 := places_snoc (p := p) l 0 k t hk
  rw [h0, hp, if_pos rfl, Nat.zero_add, List.nil_append] at h1
  have h2 := places_append (p := p) (l.take (k + 1)) (l.drop (k + 1)) 0
  rw [List.take_append_drop, h1] at h2
  exact h2
/-- What the loop of Next holds. -/
def NxtJ (l : List Tp) (p : Tp → Bool) (w : World) (L D : Nat) (rd : Loop) (k : Nat) (W : World) : Prop :=
  placesT p 0 (l.take k) = [] ∧ Rcd W L D rd ∧ Below D w W ∧ L < W.heap.size
def NxtX (l : List Tp) (p : Tp → Bool) (w : World) (n L D : Nat) (rx : Loop) (W : World) : Prop :=
  ∃ k : Nat, (∃ rest, placesT p 0 l = k :: rest) ∧ W.heap[n]? = some (.cells #[.int .i64 (k : Int)] 3 (0, 0)) ∧ Rcd W L D rx ∧ Below n w W ∧ L < W.heap.size
set_option maxHeartbeats 4000000 in
theorem cnextT_calls (s : Ps) (hS : s.S) (hsR : s.R) (name : List UInt8) (num : Int) (l : List Tp) {ll : Nat} (hll : l.length = ll) {r : Int} (hr : cnextT s name num l = r) {A : Option Addr} {c : Nat} {F : Nat → Prop} (w : World) (hT : Tab w) (ha : Sl Kd.tp w F A c l) :
    Calls Tryz.prog 14 #[s.agg, .string (ofL name), .int .i64 num, .slice A ll c] w fun e w' => e = .returned (.int .i64 r) ∧ Below w.heap.size w w' := by
  subst hll
  have HS := Au.mk hS
  have HR := Au.mk hsR
  have hmf : ∀ (fn : Fn) (first cap : Array Value) (w : World), (Instr.makeFunc fn first cap).run Tryz.prog w = .ok (.func fn first cap) w := fun _ _ _ _ => rfl
  have hb0 : Below w.heap.size w ((((w.alloc (.cells s.cells.toArray 25)).alloc (.cells #[.string (ofL name)] 9)).alloc (.cells #[.int .i64 num] 3)).alloc (.cells #[.int .i64 0] 3)) := ((((Below.refl _ _).alloc (Nat.le_refl _) _).alloc (by simp) _).alloc (by simp; omega) _).alloc (by simp; omega) _
  have q1 : ((((w.alloc (.cells s.cells.toArray 25)).alloc (.cells #[.string (ofL name)] 9)).alloc (.cells #[.int .i64 num] 3)).alloc (.cells #[.int .i64 0] 3)).heap[w.heap.size]? = some (.cells s.cells.toArray 25 (0, 0)) := blk_alloc (blk_alloc (blk_alloc (heap_alloc_new _ _) _) _) _
  have q2 : ((((w.alloc (.cells s.cells.toArray 25)).alloc (.cells #[.string (ofL name)] 9)).alloc (.cells #[.int .i64 num] 3)).alloc (.cells #[.int .i64 0] 3)).heap[w.heap.size + 1]? = some (.cells #[.string (ofL name)] 9 (0, 0)) := by
    have := heap_alloc_new (w.alloc (.cells s.cells.toArray 25)) (.cells #[.string (ofL name)] 9)
    rw [World.size_alloc] at this
    exact blk_alloc (blk_alloc this _) _
  have q3 : ((((w.alloc (.cells s.cells.toArray 25)).alloc (.cells #[.string (ofL name)] 9)).alloc (.cells #[.int .i64 num] 3)).alloc (.cells #[.int .i64 0] 3)).heap[w.heap.size + 1 + 1]? = some (.cells #[.int .i64 num] 3 (0, 0)) := by
    have := heap_alloc_new ((w.alloc (.cells s.cells.toArray 25)).alloc (.cells #[.string (ofL name)] 9)) (.cells #[.int .i64 num] 3)
    rw [World.size_alloc, World.size_alloc] at this
    exact blk_alloc this _
  have q4 : ((((w.alloc (.cells s.cells.toArray 25)).alloc (.cells #[.string (ofL name)] 9)).alloc (.cells #[.int .i64 num] 3)).alloc (.cells #[.int .i64 0] 3)).heap[w.heap.size + 1 + 1 + 1]? = some (.cells #[.int .i64 0] 3 (0, 0)) := by
    have := heap_alloc_new (((w.alloc (.cells s.cells.toArray 25)).alloc (.cells #[.string (ofL name)] 9)).alloc (.cells #[.int .i64 num] 3)) (.cells #[.int .i64 0] 3)
    rwa [World.size_alloc, World.size_alloc, World.size_alloc] at this
  have T0 := hT.below hb0
  have a0 := ha.old.below hb0
  obtain ⟨mm, M1⟩ := au (psMay s)
  have CM := Au.mk (fun W : World => psmay_calls s HS.out HR.out M1.out W)
  unfold Ps.agg at CM ⊢
  unfold cnextT at hr
  rw [M1.out] at hr
  have Hr := Au.mk hr
  clear hT ha hr hS hsR
  refine (callsIn_wide (n := 0)).1 ?_
  refine callsIn_of_wp_marks Tryz.func14 rfl trivial (wpIn_wide.2 ?_) rfl
  simp only [Tryz.ntmps14, List.size_toArray, List.length_cons, List.length_nil, Nat.reduceAdd, Nat.reduceSub, Array.replicate_succ, Array.replicate_zero, List.push_toArray, List.append_toArray, List.nil_append, List.cons_append]
  unfold Ps.cells at q1 q2 q3 q4 hb0 T0 a0
  go_upto_region 1 with fail
  generalize (((w.alloc (.cells #[.int .i64 s.phase, .string (ofL s.node.path), .string (ofL s.node.link), .int .u8 s.node.kind.toNat, .int .i64 s.node.mode, .int .i64 s.node.uid, .int .i64 s.node.gid, .int .i64 s.node.mtime, .string (ofL s.node.data), .int .i64 s.size, .int .i64 s.left, .string (ofL s.text), .string (ofL s.name), .string (ofL s.link)] 25)).alloc (.cells #[.string (ofL name)] 9)).alloc (.cells #[.int .i64 num] 3)).alloc (.cells #[.int .i64 0] 3) = W0 at hb0 q1 q2 q3 q4 T0 a0 ⊢
  obtain ⟨n, Hn⟩ := au w.heap.size
  rw [Hn.out] at hb0 q1 q2 q3 q4 ⊢
  have hw0 := lt_of_block q4
  obtain ⟨f0, f1, f2, f3, f4, f5, f6, f7, f8, f9, f10, f11, f12, f13⟩ := st_cells s q1
  go_wp2_with fail
  refine (CM.out _).mono ?_
  rintro e w1 ⟨rfl, b1⟩
  have hb1 : Below n w w1 := hb0.trans (b1.mono (by omega))
  have hbw : ∀ W, Below n w W → Below w.heap.size w W := fun W h => by rw [Hn.out]; exact h
  have p1 := Au.mk (blk_below q1 b1 (lt_of_block q1))
  have p2 := Au.mk (blk_below q2 b1 (lt_of_block q2))
  have p3 := Au.mk (blk_below q3 b1 (lt_of_block q3))
  have p4 := blk_below q4 b1 (lt_of_block q4)
  have T1 := Au.mk (T0.below b1)
  have a1 := Au.mk (a0.below b1)
  have B1 := Au.mk hb1
  have hw1 := lt_of_block p4
  clear f0 f1 f2 f3 f4 f5 f6 f7 f8 f9 f10 f11 f12 f13 q1 q2 q3 q4 T0 a0 b1 hb0 CM
  have c4 := cell_of_one p4
  have g4 := free_of_one p4
  cases mm
  · have hr : (-1 : Int) = r := Hr.out
    subst hr
    go_wp2_with fail
    have p5 : (w1.setCell ⟨n + 1 + 1 + 1, 0, none⟩ (.int .i64 (-1))).heap[n + 1 + 1 + 1]? = some (.cells #[.int .i64 (-1)] 3 (0, 0)) := one_setCell p4
    have c5 := cell_of_one p5
    refine end_plain (v := .int .i64 (-1)) (by simp [results, Tryz.results14, go_sem, c5]) ⟨rfl, hbw _ (hb1.setCell (p := ⟨n + 1 + 1 + 1, 0, none⟩) (by simp; omega) _)⟩
  · go_wp2_with fail
    refine (such_calls A l.length c 36 #[.pointer (some ⟨n, 0, none⟩), .pointer (some ⟨n + 1, 0, none⟩), .pointer (some ⟨n + 1 + 1, 0, none⟩)] w1).mono ?_
    rintro e w' ⟨rfl, rfl⟩
    have hb2 : Below w1.heap.size w1 ((w1.alloc (.cells #[.slice A l.length c] 26)).alloc (.cells #[.func (.func 36) #[] #[.pointer (some ⟨n, 0, none⟩), .pointer (some ⟨n + 1, 0, none⟩), .pointer (some ⟨n + 1 + 1, 0, none⟩)]] 77)) := ((Below.refl _ _).alloc (Nat.le_refl _) _).alloc (by simp) _
    have x1 : ((w1.alloc (.cells #[.slice A l.length c] 26)).alloc (.cells #[.func (.func 36) #[] #[.pointer (some ⟨n, 0, none⟩), .pointer (some ⟨n + 1, 0, none⟩), .pointer (some ⟨n + 1 + 1, 0, none⟩)]] 77)).heap[w1.heap.size]? = some (.cells #[.slice A l.length c] 26 (0, 0)) := blk_alloc (heap_alloc_new _ _) _
    have x2 : ((w1.alloc (.cells #[.slice A l.length c] 26)).alloc (.cells #[.func (.func 36) #[] #[.pointer (some ⟨n, 0, none⟩), .pointer (some ⟨n + 1, 0, none⟩), .pointer (some ⟨n + 1 + 1, 0, none⟩)]] 77)).heap[w1.heap.size + 1]? = some (.cells #[.func (.func 36) #[] #[.pointer (some ⟨n, 0, none⟩), .pointer (some ⟨n + 1, 0, none⟩), .pointer (some ⟨n + 1 + 1, 0, none⟩)]] 77 (0, 0)) := by
      have := heap_alloc_new (w1.alloc (.cells #[.slice A l.length c] 26)) (.cells #[.func (.func 36) #[] #[.pointer (some ⟨n, 0, none⟩), .pointer (some ⟨n + 1, 0, none⟩), .pointer (some ⟨n + 1 + 1, 0, none⟩)]] 77)
      rwa [World.size_alloc] at this
    have hz2 : ((w1.alloc (.cells #[.slice A l.length c] 26)).alloc (.cells #[.func (.func 36) #[] #[.pointer (some ⟨n, 0, none⟩), .pointer (some ⟨n + 1, 0, none⟩), .pointer (some ⟨n + 1 + 1, 0, none⟩)]] 77)).heap.size = w1.heap.size + 2 := by simp
    go_upto_region 4 with fail
    generalize (w1.alloc (.cells #[.slice A l.length c] 26)).alloc (.cells #[.func (.func 36) #[] #[.pointer (some ⟨n, 0, none⟩), .pointer (some ⟨n + 1, 0, none⟩), .pointer (some ⟨n + 1 + 1, 0, none⟩)]] 77) = W2 at hb2 x1 x2 hz2 ⊢
    obtain ⟨nb, Hnb⟩ := au w1.heap.size
    rw [Hnb.out] at x1 x2 hz2 hw1 ⊢
    have hb12 : Below n w W2 := hb1.trans (hb2.mono (by rw [Hnb.out]; omega))
    have P1 := Au.mk (blk_below p1.out hb2 (lt_of_block p1.out))
    have P2 := Au.mk (blk_below p2.out hb2 (lt_of_block p2.out))
    have P3 := Au.mk (blk_below p3.out hb2 (lt_of_block p3.out))
    have P4 := blk_below p4 hb2 (lt_of_block p4)
    have T2 := Au.mk (T1.out.below hb2)
    have a2 := Au.mk (a1.out.below hb2)
    refine (wpIn_wide (n := 0)).1 ?_
    refine over_in rfl (enters_of Tryz.func55 (by kernel_rfl) rfl) ?_
    intro rd fn W3 Hrd hb3 hz3 hR
    rw [hz2] at hR hb3 hz3 Hrd ⊢
    have hb23 : Below W2.heap.size W2 W3 := by rw [hz2]; exact hb3
    have hb13 : Below n w W3 := hb12.trans (hb23.mono (by omega))
    obtain ⟨pp, PP⟩ := au (fun t : Tp => (cfitsT s name num t).2 == 0)
    have hJ0 : NxtJ l pp W2 (nb + 2 + 1) (nb + 2) (rd .ready none) 0 W3 := ⟨by rw [List.take_zero]; rfl, hR, hb3, by rw [hz3]; omega⟩
    have hpp : ∀ t, pp t = ((cfitsT s name num t).2 == 0) := fun t => by rw [← PP.out]
    have hw4 := lt_of_block P4
    have hk2 : ∀ W, Below (nb + 2) W2 W → Below W2.heap.size W2 W := fun W h => by rw [hz2]; exact h
    refine (such_walkN (L := nb + 2 + 1) (n := nb) (q1 := n) (q2 := n + 1) (q3 := n + 1 + 1) l pp (A := A) (c := c) (F := fun k => F k ∧ k < w.heap.size) (NxtJ l pp W2 (nb + 2 + 1) (nb + 2) (rd .ready none)) (NxtX l pp W2 (n + 1 + 1 + 1) (nb + 2 + 1) (nb + 2) (rd .done (some .ret)))
      (fun k W h => ⟨(h.2.2.1.block _ (by omega)).trans x1, (h.2.2.1.block _ (by omega)).trans x2, a2.out.below (hk2 W h.2.2.1)⟩) (fun k W V h hb => ⟨h.1, h.2.1.below hb, h.2.2.1.trans (hb.mono (by have := h.2.2.2; omega)), by have := h.2.2.2; have := hb.size; omega⟩) ?_ ?_ ?_ W3 hJ0).mono ?_
    · intro k t W hk hp hJ
      obtain ⟨j1, j5, j6, j7⟩ := hJ
      refine ⟨?_, j5, j6, j7⟩
      rw [places_snoc l 0 k t hk, hp, if_neg (by decide), List.append_nil]; exact j1
    · intro k t W A' c' m' r' hk hm' hJ hs hR' hp
      have hb := hJ.2.2.1
      exact nextF_calls s HS.out HR.out name num t hR' hm' (by rw [← hpp]; exact hp) W (T2.out.below (hk2 W hb)) hs ((hb.block _ (by omega)).trans P1.out) (cell_of_one ((hb.block _ (by omega)).trans P2.out)) (cell_of_one ((hb.block _ (by omega)).trans P3.out))
    · intro k t W hk hp hJ
      obtain ⟨j1, j5, j6, j7⟩ := hJ
      have J5 := Au.mk j5
      have hfirst := places_first hk hp j1
      refine over_round Hrd j5 rfl ?_
      have Jr := Au.mk (j5.turn (rd .busy none) (by omega : nb + 2 ≠ nb + 2 + 1))
      have Jb := Au.mk (below_putObj j6 (L := nb + 2 + 1) (by omega) (by omega) (.loop (rd .busy none)))
      have Jz : Au (nb + 2 + 1 < (W.putObj (nb + 2 + 1) (.loop (rd .busy none))).heap.size) := ⟨by simpa using j7⟩
      have Hf := Au.mk hfirst
      clear j1 j5 j6 j7 hJ0 hR hb3 hb23 hb13 hk hp hfirst
      gi_wp2_with fail
      refine ⟨J5.out, ?_⟩
      generalize W.putObj (nb + 2 + 1) (.loop (rd .busy none)) = Wb at Jr Jb Jz ⊢
      have o4 := (Jb.out.block _ (by omega)).trans P4
      have c4 := cell_of_one o4
      have g4 := free_of_one o4
      gi_wp2_with fail
      have o5 : (Wb.setCell ⟨n + 1 + 1 + 1, 0, none⟩ (.int .i64 (k : Int))).heap[n + 1 + 1 + 1]? = some (.cells #[.int .i64 (k : Int)] 3 (0, 0)) := one_setCell o4
      have r5 := Jr.out.set (p := ⟨n + 1 + 1 + 1, 0, none⟩) (.int .i64 (k : Int)) (by simp; omega) (by simp; omega)
      have b5 := (Jb.out.mono (by omega : n + 1 + 1 + 1 ≤ nb + 2)).setCell (p := ⟨n + 1 + 1 + 1, 0, none⟩) (Nat.le_refl _) (.int .i64 (k : Int))
      have z5 : nb + 2 + 1 < (Wb.setCell ⟨n + 1 + 1 + 1, 0, none⟩ (.int .i64 (k : Int))).heap.size := by simpa [World.setCell] using Jz.out
      clear c4 g4 o4
      generalize Wb.setCell ⟨n + 1 + 1 + 1, 0, none⟩ (.int .i64 (k : Int)) = W5 at o5 r5 b5 z5 ⊢
      exact ⟨r5, .inr ⟨rfl, k, Hf.out, (World.putObj_heap_other (by omega)).trans o5, r5.turn _ (by omega), below_putObj b5 (by omega) (by omega) _, by simpa using z5⟩⟩
    · rintro e W' ⟨hv, (hJ | hJ)⟩
      · obtain ⟨j1, j5, j6, j7⟩ := hJ
        rw [List.take_of_length_le (Nat.le_refl _)] at j1
        have hr : (-1 : Int) = r := by
          have hr := Hr.out
          rw [if_neg (by decide), PP.out, j1] at hr
          exact hr
        refine ⟨hv, .inl ⟨j5, ?_⟩⟩
        have b6 := below_putObj j6 (L := nb + 2 + 1) (by omega) (by omega) (.loop (rd .exhausted none))
        have D6 := Au.mk (j5.deferred (by omega) (.loop (rd .exhausted none)))
        have z6 : nb + 2 + 1 < (W'.putObj (nb + 2 + 1) (.loop (rd .exhausted none))).heap.size := by simpa using j7
        clear j1 j5 j6 j7 hJ0 hR hb3 hv
        generalize W'.putObj (nb + 2 + 1) (.loop (rd .exhausted none)) = W6 at b6 D6 z6 ⊢
        have o6 := (b6.block _ (by omega)).trans P4
        have c4 := cell_of_one o6
        have g4 := free_of_one o6
        have B6 := Au.mk b6
        have Hrr := Au.mk hr
        clear b6 hr
        go_wp2_with fail
        have o7 : (W6.setCell ⟨n + 1 + 1 + 1, 0, none⟩ (.int .i64 (-1))).heap[n + 1 + 1 + 1]? = some (.cells #[.int .i64 (-1)] 3 (0, 0)) := one_setCell o6
        have D7 : (W6.setCell ⟨n + 1 + 1 + 1, 0, none⟩ (.int .i64 (-1))).heap[nb + 2]? = some (.deferred (some [])) := (Below.heap_setCell W6 ⟨n + 1 + 1 + 1, 0, none⟩ (.int .i64 (-1)) (nb + 2) (by simp; omega)).trans D6.out
        have b7 : Below n w (W6.setCell ⟨n + 1 + 1 + 1, 0, none⟩ (.int .i64 (-1))) := (hb12.trans (B6.out.mono (by omega))).setCell (p := ⟨n + 1 + 1 + 1, 0, none⟩) (by simp; omega) (.int .i64 (-1))
        have z7 : nb + 2 + 1 < (W6.setCell ⟨n + 1 + 1 + 1, 0, none⟩ (.int .i64 (-1))).heap.size := by simpa [World.setCell] using z6
        clear c4 g4 o6
        generalize W6.setCell ⟨n + 1 + 1 + 1, 0, none⟩ (.int .i64 (-1)) = W7 at o7 D7 b7 z7 ⊢
        have c7 : (W7.putObj (nb + 2) (.deferred none)).cell? ⟨n + 1 + 1 + 1, 0, none⟩ = some (.int .i64 (-1)) := cell_of_one ((World.putObj_heap_other (by omega)).trans o7)
        refine end_marks (v := .int .i64 (-1)) D7 (by simp [results, Tryz.results14, go_sem, c7]) ⟨by rw [Hrr.out], hbw _ (below_putObj b7 (by omega) (by omega) _)⟩
      · obtain ⟨k, ⟨rest, hp⟩, o5, j5, j6, j7⟩ := hJ
        have hr : (k : Int) = r := by
          have hr := Hr.out
          rw [if_neg (by decide), PP.out, hp] at hr
          exact hr
        refine ⟨hv, .inr ⟨j5, ?_⟩⟩
        have b6 := below_putObj j6 (L := nb + 2 + 1) (by omega) (by omega) (.loop (rd .exhausted (some .ret)))
        have D6 := j5.deferred (by omega) (.loop (rd .exhausted (some .ret)))
        have o6 : (W'.putObj (nb + 2 + 1) (.loop (rd .exhausted (some .ret)))).heap[n + 1 + 1 + 1]? = some (.cells #[.int .i64 (k : Int)] 3 (0, 0)) := (World.putObj_heap_other (by omega)).trans o5
        have z6 : nb + 2 + 1 < (W'.putObj (nb + 2 + 1) (.loop (rd .exhausted (some .ret)))).heap.size := by simpa using j7
        clear j5 j6 j7 hJ0 hR hb3 hv o5 hp
        generalize W'.putObj (nb + 2 + 1) (.loop (rd .exhausted (some .ret))) = W6 at b6 D6 z6 o6 ⊢
        have b7 : Below n w W6 := hb12.trans (b6.mono (by omega))
        have c7 : (W6.putObj (nb + 2) (.deferred none)).cell? ⟨n + 1 + 1 + 1, 0, none⟩ = some (.int .i64 (k : Int)) := cell_of_one ((World.putObj_heap_other (by omega)).trans o6)
        have Hrr := Au.mk hr
        clear hr
        gi_wp2_with fail
        refine end_marks (v := .int .i64 (k : Int)) D6 (by simp [results, Tryz.results14, go_sem, c7]) ⟨by rw [Hrr.out], hbw _ (below_putObj b7 (by omega) (by omega) _)⟩
end Go.Proofs.YtldhcknjpmbgnaaGreatDoor.Rk
