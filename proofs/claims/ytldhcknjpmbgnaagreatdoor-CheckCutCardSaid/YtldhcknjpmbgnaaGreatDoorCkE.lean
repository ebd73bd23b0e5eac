/- Check: Find, walked. -/
import Derived.Test.YtldhcknjpmbgnaaGreatDoorCkD
namespace Go.Proofs.YtldhcknjpmbgnaaGreatDoor.Rk
open Go.RowKit Go.Shelf
attribute [local go_sem] Oper.semAt_some
set_option linter.unusedVariables false
set_option linter.unusedSimpArgs false
set_option maxRecDepth 100000

theorem findF_calls (name : List UInt8) (num : Int) (t : Tp) (hR : R64 t.cap) {n : Nat} (hn : t.recs.length = n) {r : Bool} (h : hasT name num t = r) {A : Option Addr} {c : Nat} {F : Nat → Prop} {q1 q2 : Nat} (w : World) (hT : Tab w) (ha : Sl (Kd.slice Kd.byte) w F A c t.recs)
    (h1 : w.cell? ⟨q1, 0, none⟩ = some (.string (ofL name))) (h2 : w.cell? ⟨q2, 0, none⟩ = some (.int .i64 num)) :
    Calls Tryz.prog 38 #[.agg #[.int .i64 t.cap, .slice A n c, .bool t.mark], .pointer (some ⟨q1, 0, none⟩), .pointer (some ⟨q2, 0, none⟩)] w fun e w' => e = .returned (.bool r) ∧ Below w.heap.size w w' := by
  have hb0 := (Below.refl w.heap.size w).alloc (Nat.le_refl _) (.cells #[.int .i64 t.cap, .slice A n c, .bool t.mark] 38)
  have B0 : (w.alloc (.cells #[.int .i64 t.cap, .slice A n c, .bool t.mark] 38)).heap[w.heap.size]? = some (.cells #[.int .i64 t.cap, .slice A n c, .bool t.mark] 38 (0, 0)) := heap_alloc_new _ _
  have H0 := Au.mk (ha.old.alloc (.cells #[.int .i64 t.cap, .slice A n c, .bool t.mark] 38))
  have T0 := Au.mk (hT.below hb0)
  have f0 := blk_cell B0 0 rfl
  have f1 := blk_cell B0 1 rfl
  have f2 := blk_cell B0 2 rfl
  obtain ⟨⟨own, no, er⟩, W1⟩ := au (cwho t)
  have CM := Au.mk (fun (W : World) (hT : Tab W) (h : Sl (Kd.slice Kd.byte) W (fun k => F k ∧ k < w.heap.size) A c t.recs) => cwho_calls t hR hn W1.out W hT h)
  unfold hasT at h
  rw [W1.out] at h
  dsimp only at h
  obtain ⟨x, X1⟩ := au (er == 0)
  obtain ⟨y, Y1⟩ := au (own == name)
  obtain ⟨z, Z1⟩ := au (no == num)
  rw [X1.out, Y1.out, Z1.out] at h
  have x1 := X1.out
  have y1 := Y1.out
  have z1 := Z1.out
  have Hr := Au.mk h
  have k1 := cell_alloc h1 (.cells #[.int .i64 t.cap, .slice A n c, .bool t.mark] 38)
  have k2 := cell_alloc h2 (.cells #[.int .i64 t.cap, .slice A n c, .bool t.mark] 38)
  clear hT ha h h1 h2
  go_enter Tryz.func38, Tryz.ntmps38
  go_wp2_with fail
  refine (CM.out _ T0.out H0.out).mono ?_
  rintro e w1 ⟨rfl, b1⟩
  have e1 := Au.mk (below_then hb0 b1 hb0.size)
  have l1 := cell_below k1 b1
  have l2 := cell_below k2 b1
  clear f0 f1 f2 k1 k2 B0 b1 CM H0 T0
  cases x
  · go_wp2_with fail
    go_ret
    exact ⟨ret_bool (by rw [← Hr.out]; rfl), e1.out⟩
  cases y
  · go_wp2_with fail
    go_ret
    exact ⟨ret_bool (by rw [← Hr.out]; rfl), e1.out⟩
  go_wp2_with fail
  go_ret
  exact ⟨ret_bool (by rw [← Hr.out]; rfl), e1.out⟩
/-- What the loop of AppendSeq holds. -/
def SeqJ (l : List Tp) (p : Tp → Bool) (w : World) (n L D base : Nat) (rd : Loop) (k : Nat) (W : World) : Prop :=
  (∃ v, W.heap[n]? = some (.cells #[v] 31 (0, 0)) ∧ RowD Kd.int W (fun _ => False) base v ((placesT p 0 (l.take k)).map fun i : Nat => (i : Int))) ∧ Rcd W L D rd ∧ Below n w W ∧ base ≤ W.heap.size
theorem seqJ_below {l : List Tp} {p : Tp → Bool} {w : World} {n L D base : Nat} {rd : Loop} {k : Nat} {W V : World} (h : SeqJ l p w n L D base rd k W) (hw : n ≤ W.heap.size) (hb : Below W.heap.size W V) : SeqJ l p w n L D base rd k V := by
  obtain ⟨⟨v, h3, h4⟩, h5, h6, h7⟩ := h
  exact ⟨⟨v, blk_below h3 hb (lt_of_block h3), h4.below hb⟩, h5.below hb, below_then h6 hb hw, Nat.le_trans h7 hb.size⟩
theorem places_len {p : Tp → Bool} : ∀ (l : List Tp) (j : Nat), (placesT p j l).length ≤ l.length
  | [], j => Nat.le_refl _
  | t :: l, j => by
    have := places_len (p := p) l (j + 1)
    unfold placesT
    split
    · simp; omega
    · simp; omega
set_option maxHeartbeats 4000000 in
theorem appSeq_calls (name : List UInt8) (num : Int) (l : List Tp) (hlen : l.length ≤ 1000) {m : Nat} {xs : List Int} (hxs : (cfind l name num).map (fun i : Nat => (i : Int)) = xs) (hm : xs.length = m) {A : Option Addr} {c : Nat} {F : Nat → Prop} {nb q1 q2 : Nat} (w : World) (hT : Tab w) (ha : Sl Kd.tp w F A c l)
    (h1 : w.heap[nb]? = some (.cells #[.slice A l.length c] 26 (0, 0))) (h2 : w.heap[nb + 1]? = some (.cells #[.func (.func 38) #[] #[.pointer (some ⟨q1, 0, none⟩), .pointer (some ⟨q2, 0, none⟩)]] 77 (0, 0)))
    (h3 : w.heap[q1]? = some (.cells #[.string (ofL name)] 9 (0, 0))) (h4 : w.heap[q2]? = some (.cells #[.int .i64 num] 3 (0, 0))) :
    Calls Tryz.prog 56 #[.slice none 0 0, .func (.func 55) #[] #[.pointer (some ⟨nb, 0, none⟩), .pointer (some ⟨nb + 1, 0, none⟩)]] w fun e w' => ∃ A' c', e = .returned (.slice A' m c') ∧ Sl Kd.int w' (fun k => w.heap.size ≤ k) A' c' xs ∧ Below w.heap.size w w' := by
  have HT := Au.mk hT
  have Ha := Au.mk ha.old
  have H1 := Au.mk h1
  have H2 := Au.mk h2
  have H3 := Au.mk h3
  have H4 := Au.mk h4
  have l1 := lt_of_block h1
  have l2 := lt_of_block h2
  have l3 := lt_of_block h3
  have l4 := lt_of_block h4
  have Hxs := Au.mk hxs
  have Hm := Au.mk hm
  have hb0 : Below w.heap.size w (w.alloc (.cells #[.slice none 0 0] 31)) := (Below.refl _ _).alloc (Nat.le_refl _) _
  have hM0 : (w.alloc (.cells #[.slice none 0 0] 31)).heap[w.heap.size]? = some (.cells #[.slice none 0 0] 31 (0, 0)) := heap_alloc_new _ _
  have hz0 : (w.alloc (.cells #[.slice none 0 0] 31)).heap.size = w.heap.size + 1 := by simp
  clear hT ha h1 h2 h3 h4 hxs hm
  refine (callsIn_wide (n := 0)).1 ?_
  refine callsIn_of_wp_marks Tryz.func56 rfl trivial (wpIn_wide.2 ?_) rfl
  simp only [Tryz.ntmps56, List.size_toArray, List.length_cons, List.length_nil, Nat.reduceAdd, Nat.reduceSub, Array.replicate_succ, Array.replicate_zero, List.push_toArray, List.append_toArray, List.nil_append, List.cons_append]
  go_wp2_with fail
  generalize w.alloc (.cells #[.slice none 0 0] 31) = W0 at hb0 hM0 hz0 ⊢
  obtain ⟨n, Hn⟩ := au w.heap.size
  rw [Hn.out] at hM0 hz0 hb0 l1 l2 l3 l4 ⊢
  refine (wpIn_wide (n := 0)).1 ?_
  refine over_in rfl (enters_of Tryz.func55 (by kernel_rfl) rfl) ?_
  intro rd fn W1 Hrd hb1 hz1 hR
  rw [hz0] at hR hb1 hz1 Hrd ⊢
  have hb01 : Below n w W1 := hb0.trans (hb1.mono (by omega))
  have hJ0 : SeqJ l (hasT name num) w n (n + 1 + 1) (n + 1) W1.heap.size (rd .ready none) 0 W1 :=
    ⟨⟨.slice none 0 0, (hb1.block _ (by omega)).trans hM0, by rw [List.take_zero]; exact RowD.nil _ _ _ _⟩, hR, hb01, Nat.le_refl _⟩
  have Hz1 := Au.mk hz1
  have hbw : ∀ W, Below n w W → Below w.heap.size w W := fun W h => by rw [Hn.out]; exact h
  refine (such_walkF (L := n + 1 + 1) (n := nb) (q1 := q1) (q2 := q2) l (hasT name num) (A := A) (c := c) (F := fun k => F k ∧ k < w.heap.size) (SeqJ l (hasT name num) w n (n + 1 + 1) (n + 1) W1.heap.size (rd .ready none)) (fun _ => False)
    (fun k W h => ⟨(h.2.2.1.block _ l1).trans H1.out, (h.2.2.1.block _ l2).trans H2.out, Ha.out.below (hbw W h.2.2.1)⟩) (fun k W V h hb => seqJ_below h (by have := h.2.2.2; omega) hb) ?_ ?_ ?_ W1 hJ0).mono ?_
  · intro k t W hk hp hJ
    obtain ⟨⟨v, j3, j4⟩, j5, j6, j7⟩ := hJ
    refine ⟨⟨v, j3, ?_⟩, j5, j6, j7⟩
    rw [places_snoc l 0 k t hk, hp, if_neg (by decide), List.append_nil]; exact j4
  · intro k t W A' c' m' r hk hm' hJ hs hR' hp
    have hbw1 := hbw W hJ.2.2.1
    exact findF_calls name num t hR' hm' hp W (HT.out.below hbw1) hs (cell_of_one ((hJ.2.2.1.block _ l3).trans H3.out)) (cell_of_one ((hJ.2.2.1.block _ l4).trans H4.out))
  · intro k t W hk hp hJ
    obtain ⟨⟨v, j3, j4⟩, j5, j6, j7⟩ := hJ
    have J5 := Au.mk j5
    refine over_round Hrd j5 rfl ?_
    have hkl : k < l.length := (List.getElem?_eq_some_iff.1 hk).1
    have Jr := Au.mk (j5.turn (rd .busy none) (by omega : n + 1 ≠ n + 1 + 1))
    have Jb := Au.mk (below_putObj j6 (L := n + 1 + 1) (by omega) (by omega) (.loop (rd .busy none)))
    have Jo := Au.mk ((World.putObj_heap_other (w := W) (o := .loop (rd .busy none)) (by omega : n ≠ n + 1 + 1)).trans j3)
    have Jd := Au.mk (j4.keep (W := W.putObj (n + 1 + 1) (.loop (rd .busy none))) (fun k hk hlt => World.putObj_heap_other (by rcases hk with hk | hk; exact hk.elim; omega)) (by simp))
    have Jz : Au (W1.heap.size ≤ (W.putObj (n + 1 + 1) (.loop (rd .busy none))).heap.size) := ⟨by simpa using j7⟩
    have hdl : ((placesT (hasT name num) 0 (l.take k)).map fun i : Nat => (i : Int)).length ≤ 1000 := by
      have := places_len (p := hasT name num) (l.take k) 0
      rw [List.length_map]
      rw [List.length_take] at this; omega
    have hnext : (placesT (hasT name num) 0 (l.take (k + 1))).map (fun i : Nat => (i : Int)) = ((placesT (hasT name num) 0 (l.take k)).map fun i : Nat => (i : Int)) ++ [(k : Int)] := by
      rw [places_snoc l 0 k t hk, hp, if_pos rfl, List.map_append, Nat.zero_add]; rfl
    have Hnext := Au.mk hnext
    clear j3 j4 j5 j6 j7 hJ0 hR hb1 hb01 hnext hk hp
    gi_wp2_with fail
    refine ⟨J5.out, ?_⟩
    generalize W.putObj (n + 1 + 1) (.loop (rd .busy none)) = Wb at Jr Jb Jo Jd Jz ⊢
    obtain ⟨dn, Hdn⟩ := au ((placesT (hasT name num) 0 (l.take k)).map fun i : Nat => (i : Int))
    rw [Hdn.out] at Jd hdl
    have c1 := cell_of_one Jo.out
    have LC : Au (Cells (Wb.alloc (.cells #[.int .i64 (k : Int)] 3)) (some ⟨Wb.heap.size, 0, none⟩) [.int .i64 (k : Int)]) := ⟨cells_new1 _ _ _⟩
    have hkR : R64 (k : Int) := ⟨by omega, by omega⟩
    have Hels := Au.mk (els_int LC.out hkR)
    have Jd4 := Au.mk (Jd.out.alloc (.cells #[.int .i64 (k : Int)] 3))
    have Hbx : Au (∀ W5, (Wb.alloc (.cells #[.int .i64 (k : Int)] 3)).grownBy W5 v.ownBlock → W5.heap[n]? = some (.cells #[v] 31 (0, 0))) :=
      ⟨fun W5 hg5 => Jd4.out.kept _ hg5 (blk_alloc Jo.out _) (by omega)⟩
    have H3' : Au (dn.length + [(k : Int)].length ≤ maxLen ∧ (dn.length + [(k : Int)].length) * 8 ≤ 140737488355328 ∧ W1.heap.size ≤ (Wb.alloc (.cells #[.int .i64 (k : Int)] 3)).heap.size) :=
      ⟨by simp only [List.length_singleton, maxLen]; omega, by simp only [List.length_singleton]; omega, by have := Jz.out; simp; omega⟩
    clear hz1 hkR
    gi_wp2_with (gi_at_builtin; refine wpListIn_append_rowD (d := Kd.int) (G := fun _ => False) (F2 := fun _ => False) (base := W1.heap.size) (xs := dn) (ys := [(k : Int)]) _ rfl etInts _ _ rfl rfl Jd4.out rfl rfl Hels.out (fun _ h => h.elim) (fun _ _ h => h.elim) H3'.out.1 H3'.out.2.1 H3'.out.2.2 ?_; intro v' W5 hr5 hg5 ho5; obtain ⟨A5, c5, rfl⟩ := hr5.form; have Hr5 := Au.mk hr5; have Hg5 := Au.mk hg5; clear hr5 hg5 ho5; have c2 := cell_of_one (Hbx.out W5 Hg5.out); have c3 := free_of_one (Hbx.out W5 Hg5.out))
    have hz1 := Hz1.out
    have hJz := Jz.out
    have hg5 : (Wb.alloc (.cells #[.int .i64 (k : Int)] 3)).grownBy W5 v.ownBlock := Hg5.out
    have o5 := Hbx.out W5 hg5
    have r4 := Jr.out.alloc (.cells #[.int .i64 (k : Int)] 3)
    have r5 : Rcd W5 (n + 1 + 1) (n + 1) (rd .busy none) := ⟨Jd4.out.kept _ hg5 r4.lp (by omega), Jd4.out.kept _ hg5 r4.dl (by omega)⟩
    have b5 : Below n w W5 := (Jb.out.alloc (by omega) _).grown hg5 (by simp; omega) (fun k hk => by have := Jd4.out.low _ k hk; omega)
    have z5' : W1.heap.size ≤ W5.heap.size := by have := hg5.size; simp at this; omega
    have hlen2 : dn.length + 1 = (dn ++ [(k : Int)]).length := by simp
    have r6 := r5.set (p := ⟨n, 0, none⟩) (.slice A5 (dn.length + 1) c5) (by simp; omega) (by simp)
    have b6 := b5.setCell (p := ⟨n, 0, none⟩) (Nat.le_refl _) (.slice A5 (dn.length + 1) c5)
    have o6 : (W5.setCell ⟨n, 0, none⟩ (.slice A5 (dn.length + 1) c5)).heap[n]? = some (.cells #[.slice A5 (dn.length + 1) c5] 31 (0, 0)) := one_setCell o5
    have d6 := Hr5.out.set (p := ⟨n, 0, none⟩) (.slice A5 (dn.length + 1) c5) (fun h => h) (by simp; omega)
    have s6 : W1.heap.size ≤ (W5.setCell ⟨n, 0, none⟩ (.slice A5 (dn.length + 1) c5)).heap.size := by simpa [World.setCell] using z5'
    clear c1 c2 c3
    generalize W5.setCell ⟨n, 0, none⟩ (.slice A5 (dn.length + 1) c5) = W6 at r6 b6 o6 d6 s6 ⊢
    rw [← hz1]
    refine ⟨r6, rfl, ⟨.slice A5 (dn.length + 1) c5, (World.putObj_heap_other (by omega)).trans o6, ?_⟩, r6.turn _ (by omega), below_putObj b6 (by omega) (by omega) _, by simpa using s6⟩
    rw [Hnext.out, Hdn.out, hlen2]
    exact d6.keep (fun k hk hlt => World.putObj_heap_other (by rcases hk with hk | hk; exact hk.elim; omega)) (by simp)
  · rintro e W' ⟨hv, (hJ | hJ)⟩
    · obtain ⟨⟨v, j3, j4⟩, j5, j6, j7⟩ := hJ
      refine ⟨hv, .inl ⟨j5, ?_⟩⟩
      rw [List.take_of_length_le (Nat.le_refl _)] at j4
      have hj4 : RowD Kd.int W' (fun _ => False) W1.heap.size v xs := by rw [← Hxs.out]; exact j4
      have b2 := below_putObj j6 (L := n + 1 + 1) (by omega) (by omega) (.loop (rd .exhausted none))
      have D2 := Au.mk (j5.deferred (by omega) (.loop (rd .exhausted none)))
      have O2 := (World.putObj_heap_other (w := W') (o := .loop (rd .exhausted none)) (by omega : n ≠ n + 1 + 1)).trans j3
      have R2 := hj4.keep (W := W'.putObj (n + 1 + 1) (.loop (rd .exhausted none))) (fun k hk hlt => World.putObj_heap_other (by rcases hk with hk | hk; exact hk.elim; omega)) (by simp)
      have z2 : W1.heap.size ≤ (W'.putObj (n + 1 + 1) (.loop (rd .exhausted none))).heap.size := by simpa using j7
      clear hJ0 hR hb1 hb01 j3 j4 j5 j6 j7 hj4 hv
      generalize W'.putObj (n + 1 + 1) (.loop (rd .exhausted none)) = W2 at b2 D2 O2 R2 z2 ⊢
      obtain ⟨A2, c2, rfl, hsl2⟩ := R2.sl
      rw [Hm.out] at O2
      have q1 := cell_of_one O2
      have S2 := Au.mk hsl2
      have B2 := Au.mk b2
      clear hsl2 R2 O2 b2
      go_wp2_with fail
      refine end_marks (v := .slice A2 m c2) D2.out (by simp [results, Tryz.results56, go_sem]) ⟨A2, c2, rfl, ?_, hbw _ (below_putObj B2.out (by omega) (by omega) _)⟩
      exact (S2.out.keep (fun k hk _ => World.putObj_heap_other (by rcases hk with hk | hk; exact hk.elim; omega)) (by simp)).mono fun k hk => by have := Hn.out; have := Hz1.out; rcases hk with hk | hk; exact hk.elim; omega
    · exact hJ.elim
theorem collect_calls (name : List UInt8) (num : Int) (l : List Tp) (hlen : l.length ≤ 1000) {m : Nat} {xs : List Int} (hxs : (cfind l name num).map (fun i : Nat => (i : Int)) = xs) (hm : xs.length = m) {A : Option Addr} {c : Nat} {F : Nat → Prop} {nb q1 q2 : Nat} (w : World) (hT : Tab w) (ha : Sl Kd.tp w F A c l)
    (h1 : w.heap[nb]? = some (.cells #[.slice A l.length c] 26 (0, 0))) (h2 : w.heap[nb + 1]? = some (.cells #[.func (.func 38) #[] #[.pointer (some ⟨q1, 0, none⟩), .pointer (some ⟨q2, 0, none⟩)]] 77 (0, 0)))
    (h3 : w.heap[q1]? = some (.cells #[.string (ofL name)] 9 (0, 0))) (h4 : w.heap[q2]? = some (.cells #[.int .i64 num] 3 (0, 0))) :
    Calls Tryz.prog 37 #[.func (.func 55) #[] #[.pointer (some ⟨nb, 0, none⟩), .pointer (some ⟨nb + 1, 0, none⟩)]] w fun e w' => ∃ A' c', e = .returned (.slice A' m c') ∧ Sl Kd.int w' (fun k => w.heap.size ≤ k) A' c' xs ∧ Below w.heap.size w w' := by
  have Hc := Au.mk (appSeq_calls name num l hlen hxs hm w hT ha h1 h2 h3 h4)
  clear hT ha h1 h2 h3 h4
  go_enter Tryz.func37, Tryz.ntmps37
  go_wp2_with fail
  refine Hc.out.mono ?_
  rintro e w1 ⟨A1, c1, rfl, s1, b1⟩
  have S1 := Au.mk s1
  have B1 := Au.mk b1
  clear s1 b1
  go_wp2_with fail
  go_ret
  exact ⟨A1, c1, rfl, S1.out, B1.out⟩
theorem find_calls (name : List UInt8) (num : Int) (l : List Tp) (hlen : l.length ≤ 1000) {ll : Nat} (hll : l.length = ll) {m : Nat} {xs : List Int} (hxs : (cfind l name num).map (fun i : Nat => (i : Int)) = xs) (hm : xs.length = m) {A : Option Addr} {c : Nat} {F : Nat → Prop} (w : World) (hT : Tab w) (ha : Sl Kd.tp w F A c l) :
    Calls Tryz.prog 15 #[.slice A ll c, .string (ofL name), .int .i64 num] w fun e w' => ∃ A' c', e = .returned (.slice A' m c') ∧ Sl Kd.int w' (fun k => w.heap.size ≤ k) A' c' xs ∧ Below w.heap.size w w' := by
  subst hll
  have hmf : ∀ (fn : Fn) (first cap : Array Value) (w : World), (Instr.makeFunc fn first cap).run Tryz.prog w = .ok (.func fn first cap) w := fun _ _ _ _ => rfl
  have hb0 : Below w.heap.size w ((w.alloc (.cells #[.string (ofL name)] 9)).alloc (.cells #[.int .i64 num] 3)) := ((Below.refl _ _).alloc (Nat.le_refl _) _).alloc (by simp) _
  have q1 : ((w.alloc (.cells #[.string (ofL name)] 9)).alloc (.cells #[.int .i64 num] 3)).heap[w.heap.size]? = some (.cells #[.string (ofL name)] 9 (0, 0)) := blk_alloc (heap_alloc_new _ _) _
  have q2 : ((w.alloc (.cells #[.string (ofL name)] 9)).alloc (.cells #[.int .i64 num] 3)).heap[w.heap.size + 1]? = some (.cells #[.int .i64 num] 3 (0, 0)) := by
    have := heap_alloc_new (w.alloc (.cells #[.string (ofL name)] 9)) (.cells #[.int .i64 num] 3)
    rwa [World.size_alloc] at this
  have Hx := Au.mk hxs
  have Hm := Au.mk hm
  have T0 := hT.below hb0
  have a0 := ha.old.below hb0
  clear hT ha hxs hm
  go_enter Tryz.func15, Tryz.ntmps15
  go_upto_region 1 with fail
  generalize (w.alloc (.cells #[.string (ofL name)] 9)).alloc (.cells #[.int .i64 num] 3) = W0 at hb0 q1 q2 T0 a0 ⊢
  have Q1 := Au.mk q1
  have Q2 := Au.mk q2
  have HT0 := Au.mk T0
  have A0 := Au.mk a0
  have E0 := Au.mk hb0
  clear q1 q2 T0 a0 hb0
  go_wp2_with fail
  refine (such_calls A l.length c 38 #[.pointer (some ⟨w.heap.size, 0, none⟩), .pointer (some ⟨w.heap.size + 1, 0, none⟩)] W0).mono ?_
  rintro e w1 ⟨rfl, rfl⟩
  have hb1 : Below W0.heap.size W0 ((W0.alloc (.cells #[.slice A l.length c] 26)).alloc (.cells #[.func (.func 38) #[] #[.pointer (some ⟨w.heap.size, 0, none⟩), .pointer (some ⟨w.heap.size + 1, 0, none⟩)]] 77)) := ((Below.refl _ _).alloc (Nat.le_refl _) _).alloc (by simp) _
  have x1 : ((W0.alloc (.cells #[.slice A l.length c] 26)).alloc (.cells #[.func (.func 38) #[] #[.pointer (some ⟨w.heap.size, 0, none⟩), .pointer (some ⟨w.heap.size + 1, 0, none⟩)]] 77)).heap[W0.heap.size]? = some (.cells #[.slice A l.length c] 26 (0, 0)) := blk_alloc (heap_alloc_new _ _) _
  have x2 : ((W0.alloc (.cells #[.slice A l.length c] 26)).alloc (.cells #[.func (.func 38) #[] #[.pointer (some ⟨w.heap.size, 0, none⟩), .pointer (some ⟨w.heap.size + 1, 0, none⟩)]] 77)).heap[W0.heap.size + 1]? = some (.cells #[.func (.func 38) #[] #[.pointer (some ⟨w.heap.size, 0, none⟩), .pointer (some ⟨w.heap.size + 1, 0, none⟩)]] 77 (0, 0)) := by
    have := heap_alloc_new (W0.alloc (.cells #[.slice A l.length c] 26)) (.cells #[.func (.func 38) #[] #[.pointer (some ⟨w.heap.size, 0, none⟩), .pointer (some ⟨w.heap.size + 1, 0, none⟩)]] 77)
    rwa [World.size_alloc] at this
  have C2 := Au.mk (collect_calls name num l hlen Hx.out Hm.out (nb := W0.heap.size) (q1 := w.heap.size) (q2 := w.heap.size + 1) _ (HT0.out.below hb1) (A0.out.below hb1) x1 x2 (blk_below Q1.out hb1 (lt_of_block Q1.out)) (blk_below Q2.out hb1 (lt_of_block Q2.out)))
  have E1 := Au.mk (below_then E0.out hb1 E0.out.size)
  clear x1 x2
  generalize (W0.alloc (.cells #[.slice A l.length c] 26)).alloc (.cells #[.func (.func 38) #[] #[.pointer (some ⟨w.heap.size, 0, none⟩), .pointer (some ⟨w.heap.size + 1, 0, none⟩)]] 77) = W1 at hb1 C2 E1 ⊢
  clear hb1
  go_wp2_with fail
  refine C2.out.mono ?_
  rintro e w2 ⟨A2, c2, rfl, s2, b2⟩
  have S2 := Au.mk s2
  have E2 := Au.mk (below_then E1.out b2 E1.out.size)
  have z1 := E1.out.size
  clear s2 b2
  go_wp2_with fail
  go_ret
  exact ⟨A2, c2, rfl, S2.out.mono fun k hk => Nat.le_trans z1 hk, E2.out⟩
end Go.Proofs.YtldhcknjpmbgnaaGreatDoor.Rk
