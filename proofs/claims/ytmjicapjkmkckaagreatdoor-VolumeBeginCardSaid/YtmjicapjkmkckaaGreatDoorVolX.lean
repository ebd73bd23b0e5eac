/- Blocks of a text: block.Cut, walked. -/
import Derived.Test.YtmjicapjkmkckaaGreatDoorVolW
namespace Go.Proofs.YtmjicapjkmkckaaGreatDoor.Rk
open Go.RowKit Go.Shelf
attribute [local go_sem] Oper.semAt_some
set_option linter.unusedVariables false
set_option linter.unusedSimpArgs false
set_option maxRecDepth 100000

set_option maxHeartbeats 2000000 in
theorem cutB_calls (s : List UInt8) (hs : s.length ≤ 10000) {l : List (List UInt8)} (hl : cutB s = l) (w : World) :
    Calls Tryz.prog 132 #[.string (ofL s)] w fun e w' => ∃ A c, e = .returned (.slice A l.length c) ∧ Sl (Kd.slice Kd.byte) w' (fun k => w.heap.size ≤ k) A c l ∧ Below w.heap.size w w' := by
  have Hl := Au.mk hl
  clear hl
  refine (callsIn_wide (n := 0)).1 ?_
  refine callsIn_of_wp_marks Tryz.func132 rfl trivial ?_ rfl
  simp only [Tryz.ntmps132, List.size_toArray, List.length_cons, List.length_nil, Nat.reduceAdd, Nat.reduceSub, Array.replicate_succ, Array.replicate_zero, List.push_toArray, List.append_toArray, List.nil_append, List.cons_append]
  gi_wp2_with fail
  refine ⟨trivial, rfl, (callsIn_wide.2 (pieces_calls s _)).mono ?_⟩
  rintro e w' ⟨rfl, rfl⟩
  gi_wp2_with fail
  have hb0 : Below w.heap.size w ((w.alloc (.cells #[.slice none 0 0] 33)).alloc (.cells #[.string (ofL s)] 9)) :=
    ((Below.refl _ _).alloc (Nat.le_refl _) _).alloc (by simp) _
  have hM0 : ((w.alloc (.cells #[.slice none 0 0] 33)).alloc (.cells #[.string (ofL s)] 9)).heap[w.heap.size]? = some (.cells #[.slice none 0 0] 33 (0, 0)) ∧
      ((w.alloc (.cells #[.slice none 0 0] 33)).alloc (.cells #[.string (ofL s)] 9)).heap[w.heap.size + 1]? = some (.cells #[.string (ofL s)] 9 (0, 0)) := by
    have h2 := heap_alloc_new (w.alloc (.cells #[.slice none 0 0] 33)) (.cells #[.string (ofL s)] 9)
    have h1 := heap_alloc_new w (.cells #[.slice none 0 0] 33)
    simp only [World.size_alloc] at h2
    exact ⟨blk_alloc h1 _, h2⟩
  generalize (w.alloc (.cells #[.slice none 0 0] 33)).alloc (.cells #[.string (ofL s)] 9) = W0 at hb0 hM0 ⊢
  obtain ⟨n, Hn⟩ := au w.heap.size
  rw [Hn.out] at hb0 hM0 ⊢
  have hsz := lt_of_block hM0.2
  refine over_in rfl (enters_of Tryz.func175 (by kernel_rfl) rfl) ?_
  intro rd fn W1 Hrd hb1 hz1 hR
  have hJ0 : CutJ s w n (W0.heap.size + 1) W0.heap.size W1.heap.size (rd .ready none) s W1 :=
    ⟨hs, ⟨[], .slice none 0 0, rfl, (hb1.block _ (by omega)).trans hM0.1, RowD.nil _ _ _ _⟩, (hb1.block _ (by omega)).trans hM0.2, hR, below_then hb0 hb1 (by omega), Nat.le_refl _⟩
  have Hz1 := Au.mk hz1
  refine (pieces_walk (n := n + 1) (CutJ s w n (W0.heap.size + 1) W0.heap.size W1.heap.size (rd .ready none)) (CutJ' s w n (W0.heap.size + 1) W0.heap.size W1.heap.size (rd .ready none)) (fun q W h => ⟨h.1, h.2.2.1⟩) (fun q W h => h.2.2.1) ?_ (fun q W h => cutJ_step (by omega) (by omega) (by omega) h) s W1 hJ0).mono ?_
  · intro q W hq hJ
    obtain ⟨j1, ⟨done, v, j2, j3, j4⟩, j5, j6, j7, j8⟩ := hJ
    have J6 := Au.mk j6
    have hlen := cutB_len s
    have hdl : done.length + 1 ≤ 1000 := by
      have h2 := congrArg List.length j2
      rw [List.length_append, cutB_cons hq, List.length_cons, hlen] at h2
      unfold manyB at h2
      split at h2 <;> omega
    refine over_round Hrd j6 rfl ?_
    have hltn := lt_of_block j3
    have Jr := Au.mk (j6.turn (rd .busy none) (by omega : W0.heap.size ≠ W0.heap.size + 1))
    have Jb := Au.mk (below_putObj j7 (L := W0.heap.size + 1) (by omega) (by omega) (.loop (rd .busy none)))
    have Jt := Au.mk ((World.putObj_heap_other (w := W) (o := .loop (rd .busy none)) (by omega : n + 1 ≠ W0.heap.size + 1)).trans j5)
    have Jo := Au.mk ((World.putObj_heap_other (w := W) (o := .loop (rd .busy none)) (by omega : n ≠ W0.heap.size + 1)).trans j3)
    have Jd := Au.mk (j4.keep (W := W.putObj (W0.heap.size + 1) (.loop (rd .busy none))) (fun k hk hlt => World.putObj_heap_other (by rcases hk with hk | hk; exact hk.elim; omega)) (by simp))
    have Jz : Au (W1.heap.size ≤ (W.putObj (W0.heap.size + 1) (.loop (rd .busy none))).heap.size) := ⟨by simpa using j8⟩
    have Hq := Au.mk hq
    have J2 := Au.mk j2
    clear j2 j3 j4 j5 j6 j7 j8 hq hlen hltn hJ0 hR hz1
    gi_wp2_with fail
    refine ⟨J6.out, ?_⟩
    generalize W.putObj (W0.heap.size + 1) (.loop (rd .busy none)) = Wb at Jr Jb Jt Jo Jd Jz ⊢
    obtain ⟨z5, Hz5⟩ := au (zeros 512)
    have Hz5l : Au (z5.length = 512) := ⟨by rw [← Hz5.out]; exact zeros512⟩
    gi_wp2_with fail
    rw [make512 Hz5.out]
    have G2 := Au.mk (heap_alloc_new Wb (.cells (bcs z5).toArray 5))
    gi_wp2_with fail
    have hcp := Lib.run_copy_row_string (P := Tryz.prog) (Wb.alloc (.cells (bcs z5).toArray 5)) 43 9 3 5 Wb.heap.size 0 512 512 (ofL (q.take 512)) (bcs z5).toArray 5 Tryz.underlying43 (by kernel_rfl) G2.out
      (by rw [ofL_size, List.length_take]; omega) (by rw [ofL_size, List.length_take]; simp [bcs, Hz5l.out]; omega)
    have e1 : (bcs z5).toArray.toList = bcs z5 := rfl
    rw [e1, padB_splice Hz5.out] at hcp
    rw [hcp]
    have G3 := Au.mk (setRow_heap (Wb.alloc (.cells (bcs z5).toArray 5)) Wb.heap.size (bcs z5).toArray (bcs (padB q)).toArray 5 (0, 0) G2.out)
    have K3 : Au (∀ k, k < Wb.heap.size → ((Wb.alloc (.cells (bcs z5).toArray 5)).setRow Wb.heap.size (bcs (padB q)).toArray).heap[k]? = Wb.heap[k]?) :=
      ⟨fun k hk => (setRow_other _ _ k _ (by omega)).trans (Below.heap_alloc Wb _ k hk)⟩
    have S3 : Au (((Wb.alloc (.cells (bcs z5).toArray 5)).setRow Wb.heap.size (bcs (padB q)).toArray).heap.size = Wb.heap.size + 1) := ⟨by simp [World.setRow]⟩
    have B3 := Au.mk (below_setRow (g := Wb.heap.size) ((Below.refl Wb.heap.size Wb).alloc (Nat.le_refl _) (.cells (bcs z5).toArray 5)) (Nat.le_refl _) (bcs (padB q)).toArray)
    clear hcp e1 G2
    generalize (Wb.alloc (.cells (bcs z5).toArray 5)).setRow Wb.heap.size (bcs (padB q)).toArray = W3 at G3 K3 S3 B3 ⊢
    obtain ⟨g, Hg⟩ := au Wb.heap.size
    rw [Hg.out] at G3
    have hltn := lt_of_block Jo.out
    have Jo3 := Au.mk ((K3.out n hltn).trans Jo.out)
    have Jt3 := Au.mk ((K3.out (n + 1) (lt_of_block Jt.out)).trans Jt.out)
    have Jr3 := Au.mk (Jr.out.below B3.out)
    have Jd3 := Au.mk (Jd.out.below B3.out)
    have Jb3 := Au.mk (below_then Jb.out B3.out (by have := Jz.out; have := Hz1.out; omega))
    have hpad : Sl Kd.byte W3 (fun k => k = g) (some ⟨g, 0, none⟩) 512 (padB q) := blk_sl G3.out (padB_length q) (by decide)
    have hne : ∀ g', v.ownBlock = some g' → ¬ g' = g := fun g' hg' h => by
      obtain ⟨vs, hr⟩ := Jd.out.row
      have := (hr.block g' hg').2
      rw [Hg.out] at this; omega
    have hgW : W1.heap.size ≤ g := by rw [← Hg.out]; exact Jz.out
    have hels : Els (Kd.slice Kd.byte) (W3.alloc (.cells #[.slice (some ⟨g, 0, none⟩) 512 512] 43)) (fun k => k = g) (some ⟨W3.heap.size, 0, none⟩) [padB q] := els_one (by rw [padB_length]; exact cells_new1 _ _ _) (hpad.alloc _)
    have hz1 := Hz1.out
    have hS3 := S3.out
    have hJz := Jz.out
    have Jd4 := Au.mk (Jd3.out.alloc (.cells #[.slice (some ⟨g, 0, none⟩) 512 512] 43))
    have Hels := Au.mk hels
    have Hne := Au.mk hne
    have H3 : Au (done.length + [padB q].length ≤ maxLen ∧ (done.length + [padB q].length) * 24 ≤ 140737488355328 ∧ W1.heap.size ≤ (W3.alloc (.cells #[.slice (some ⟨g, 0, none⟩) 512 512] 43)).heap.size) :=
      ⟨by simp only [List.length_singleton, maxLen]; omega, by simp only [List.length_singleton]; omega, by simp; omega⟩
    have Hbx : Au (∀ W5, (W3.alloc (.cells #[.slice (some ⟨g, 0, none⟩) 512 512] 43)).grownBy W5 v.ownBlock → W5.heap[n]? = some (.cells #[v] 33 (0, 0))) :=
      ⟨fun W5 hg5 => Jd4.out.kept _ hg5 (blk_alloc Jo3.out _) (by omega)⟩
    have Hgw : Au (∀ k, k = g → False ∨ W1.heap.size ≤ k) := ⟨fun k hk => .inr (by rw [hk]; exact hgW)⟩
    have c1 := cell_of_one Jo3.out
    have Hlt := Au.mk hltn
    have Hsz := Au.mk hsz
    rw [Hg.out]
    clear hels hne hgW hpad hS3 hJz hz1 hltn hsz hdl
    gi_wp2_with (gi_at_builtin; refine wpListIn_append_rowD (d := Kd.slice Kd.byte) (G := fun _ => False) (F2 := fun k => k = g) (base := W1.heap.size) (xs := done) (ys := [padB q]) _ rfl etBlks _ _ rfl rfl Jd4.out rfl rfl Hels.out Hgw.out Hne.out H3.out.1 H3.out.2.1 H3.out.2.2 ?_; intro v' W5 hr5 hg5 ho5; obtain ⟨A5, c5, rfl⟩ := hr5.form; have Hr5 := Au.mk hr5; have Hg5 := Au.mk hg5; clear hr5 hg5 ho5; have c2 := cell_of_one (Hbx.out W5 Hg5.out); have c3 := free_of_one (Hbx.out W5 Hg5.out))
    have hz1 := Hz1.out
    have hsz := Hsz.out
    have hS3 := S3.out
    have hJz := Jz.out
    have hg5 : (W3.alloc (.cells #[.slice (some ⟨g, 0, none⟩) 512 512] 43)).grownBy W5 v.ownBlock := Hg5.out
    have o5 := Hbx.out W5 hg5
    have t5 := Jd4.out.kept _ hg5 (blk_alloc Jt3.out _) (by omega)
    have r4 := Jr3.out.alloc (.cells #[.slice (some ⟨g, 0, none⟩) 512 512] 43)
    have r5 : Rcd W5 (W0.heap.size + 1) W0.heap.size (rd .busy none) := ⟨Jd4.out.kept _ hg5 r4.lp (by omega), Jd4.out.kept _ hg5 r4.dl (by omega)⟩
    have b5 : Below n w W5 := (Jb3.out.alloc (by omega) _).grown hg5 (by simp; omega) (fun k hk => by have := Jd4.out.low _ k hk; omega)
    have z5' : W1.heap.size ≤ W5.heap.size := by have := hg5.size; simp at this; omega
    have hlen : done.length + 1 = (done ++ [padB q]).length := by simp
    have r6 := r5.set (p := ⟨n, 0, none⟩) (.slice A5 (done.length + 1) c5) (by simp; omega) (by simp; omega)
    have b6 := b5.setCell (p := ⟨n, 0, none⟩) (Nat.le_refl _) (.slice A5 (done.length + 1) c5)
    have o6 : (W5.setCell ⟨n, 0, none⟩ (.slice A5 (done.length + 1) c5)).heap[n]? = some (.cells #[.slice A5 (done.length + 1) c5] 33 (0, 0)) := one_setCell o5
    have t6 := (Below.heap_setCell W5 ⟨n, 0, none⟩ (.slice A5 (done.length + 1) c5) (n + 1) (by simp)).trans t5
    have d6 := Hr5.out.set (p := ⟨n, 0, none⟩) (.slice A5 (done.length + 1) c5) (fun h => h) (by simp; omega)
    have s6 : W1.heap.size ≤ (W5.setCell ⟨n, 0, none⟩ (.slice A5 (done.length + 1) c5)).heap.size := by simpa [World.setCell] using z5'
    generalize W5.setCell ⟨n, 0, none⟩ (.slice A5 (done.length + 1) c5) = W6 at r6 b6 o6 t6 d6 s6 ⊢
    refine ⟨r6, rfl, j1, ⟨done ++ [padB q], .slice A5 (done.length + 1) c5, cut_done (done := q) Hq.out J2.out, ?_, ?_⟩, ?_, r6.turn _ (by omega), below_putObj b6 (by omega) (by omega) _, by simpa using s6⟩
    · exact (World.putObj_heap_other (by omega)).trans o6
    · rw [hlen]
      exact d6.keep (fun k hk hlt => World.putObj_heap_other (by rcases hk with hk | hk; exact hk.elim; omega)) (by simp)
    · exact (World.putObj_heap_other (by omega)).trans t6
  · rintro e W' ⟨hv, _, ⟨done, v, h2, h3, h4⟩, h5, h6, h7, h8⟩
    refine ⟨hv, .inl ⟨h6, ?_⟩⟩
    have hdone : done = l := by rw [← Hl.out, ← h2, cutB_nil, List.append_nil]
    subst hdone
    have b2 := below_putObj h7 (L := W0.heap.size + 1) (by omega) (by omega) (.loop (rd .exhausted none))
    have D2 := Au.mk (h6.deferred (by omega) (.loop (rd .exhausted none)))
    have O2 := (World.putObj_heap_other (w := W') (o := .loop (rd .exhausted none)) (by omega : n ≠ W0.heap.size + 1)).trans h3
    have R2 := Au.mk (h4.keep (W := W'.putObj (W0.heap.size + 1) (.loop (rd .exhausted none))) (fun k hk hlt => World.putObj_heap_other (by rcases hk with hk | hk; exact hk.elim; omega)) (by simp))
    have Hb := Au.mk b2
    have Hn2 := Au.mk (show n < W0.heap.size ∧ W1.heap.size ≤ (W'.putObj (W0.heap.size + 1) (.loop (rd .exhausted none))).heap.size from ⟨by omega, by simpa using h8⟩)
    have q1 := cell_of_one O2
    clear b2 O2 h2 h3 h4 h5 h6 h7 h8 hsz hJ0 hR hz1 hb1 hb0 hM0 hv
    generalize W'.putObj (W0.heap.size + 1) (.loop (rd .exhausted none)) = W2 at *
    gi_wp2_with fail
    obtain ⟨A, c, rfl, hsl⟩ := R2.out.sl
    have h5 := Hn2.out
    have h6 := Hz1.out
    rw [Hn.out]
    refine end_marks (v := .slice A done.length c) D2.out (by simp [results, Tryz.results132, go_sem]) ⟨A, c, rfl, ?_, below_putObj Hb.out (by omega) (by omega) _⟩
    exact (hsl.keep (W := W2.putObj W0.heap.size (.deferred none)) (fun k hk hlt => World.putObj_heap_other (by rcases hk with hk | hk; exact hk.elim; omega)) (by simp)).mono (fun k hk => by rcases hk with hk | hk; exact hk.elim; omega)
end Go.Proofs.YtmjicapjkmkckaaGreatDoor.Rk
