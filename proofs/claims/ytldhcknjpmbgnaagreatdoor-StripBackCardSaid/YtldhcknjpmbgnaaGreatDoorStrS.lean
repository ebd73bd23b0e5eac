/- Streams, walked; regions that draw their order. -/
import Derived.Test.YtldhcknjpmbgnaaGreatDoorVolN
namespace Go.Proofs.YtldhcknjpmbgnaaGreatDoor.Rk
open Go.RowKit Go.Shelf
attribute [local go_sem] Oper.semAt_some
set_option linter.unusedVariables false
set_option linter.unusedSimpArgs false
set_option maxRecDepth 100000

theorem entries_calls (A : Option Addr) (n c : Nat) (w : World) : Calls Tryz.prog 52 #[.slice A n c] w fun e w' => e = .returned (.func (.func 85) #[] #[.pointer (some ⟨w.heap.size, 0, none⟩)]) ∧ w.alloc (.cells #[.slice A n c] 48) = w' := by
  go_enter Tryz.func52, Tryz.ntmps52
  go_wp2_with fail
  go_ret
  exact ⟨rfl, rfl⟩
set_option maxHeartbeats 2000000 in
theorem entries_walk {L n : Nat} (t : List Nd) (hS : AllS t) (hm : tmay t = true) {A : Option Addr} {c : Nat} {F : Nat → Prop} (J : Nat → World → Prop)
    (hC : ∀ k W, J k W → W.heap[n]? = some (.cells #[.slice A t.length c] 48 (0, 0)) ∧ Sl Kd.nd W F A c t) (hB : ∀ k W V, J k W → Below W.heap.size W V → J k V)
    (hY : ∀ k nd W0 W A' c', t[k]? = some nd → J k W0 → Below W0.heap.size W0 W → Sl (Kd.slice Kd.byte) W (fun j => W0.heap.size ≤ j) A' c' (eput nd) →
      YieldAt Fence.wide 0 Tryz.prog L #[.int .i64 k, .slice A' (eput nd).length c'] W fun e W' => e = .returned (.bool true) ∧ J (k + 1) W')
    (W1 : World) (h0 : J 0 W1) :
    CallsIn Fence.wide 0 Tryz.prog 85 #[.func (.yield L) #[] #[], .pointer (some ⟨n, 0, none⟩)] W1 fun e W' => (∃ v, e = .returned v) ∧ J t.length W' := by
  have HC := Au.mk hC
  have HB := Au.mk hB
  have HY := Au.mk hY
  have HS := Au.mk hS
  have Hm := Au.mk hm
  have H0 := Au.mk h0
  obtain ⟨hbox, hsl⟩ := hC 0 W1 h0
  have hle := hsl.le
  have Hsl := Au.mk hsl
  have Hbox := Au.mk hbox
  have c1 := cell_of_one hbox
  clear hC hB hY hS hm h0 hbox hsl
  refine callsIn_of_wp Tryz.func85 rfl trivial ?_ rfl
  simp only [Tryz.ntmps85, List.size_toArray, List.length_cons, List.length_nil, Nat.reduceAdd, Nat.reduceSub, Array.replicate_succ, Array.replicate_zero, List.push_toArray, List.append_toArray, List.nil_append, List.cons_append]
  gi_wp2_with fail
  refine ⟨trivial, rfl, (callsIn_wide.2 (tmay_calls t HS.out Hm.out _ Hsl.out)).mono ?_⟩
  rintro e W2 ⟨rfl, b2⟩
  have H2 := Au.mk (HB.out 0 W1 W2 H0.out b2)
  have c2 := cell_of_one ((HC.out 0 W2 H2.out).1)
  clear c1 b2 H0 Hsl Hbox
  gi_wp2_with fail
  gi_loopw [12] (fun i wr => ∃ k : Nat, k ≤ t.length ∧ i = .int .i64 k ∧ Au (J k wr)) (fun i _ => t.length - (intOf i).toNat)
  case atStart => exact ⟨0, Nat.zero_le _, rfl, H2⟩
  case round =>
    obtain ⟨k, hk, rfl, HJ⟩ := hrel
    by_cases hlt : k < t.length
    · obtain ⟨nd, hn⟩ : ∃ n, t[k]? = some n := ⟨_, List.getElem?_eq_getElem hlt⟩
      obtain ⟨hbox, hsl⟩ := HC.out k wr HJ.out
      obtain ⟨hR, b, o, rfl, f0, f1, f2, f3, f4, f5, f6, f7⟩ := hsl.nd_at hn
      have HnS : Au nd.S := ⟨HS.out nd (List.mem_of_getElem? hn)⟩
      have Hn := Au.mk hn
      obtain ⟨l, Hl⟩ := au (eput nd)
      obtain ⟨x, Hx⟩ := au (one nd)
      have HJ1 := Au.mk (HB.out k wr (wr.alloc (.cells nd.cells.toArray 23)) HJ.out ((Below.refl _ _).alloc (Nat.le_refl _) _))
      have B1 := Au.mk (nd_box wr nd)
      clear hR hn hbox hsl
      gi_wp2_with fail
      refine ⟨trivial, rfl, (callsIn_wide.2 (eput_calls nd HnS.out Hl.out Hx.out _)).mono ?_⟩
      rintro e W3 ⟨A3, c3, rfl, s3, b3⟩
      have S3 := Au.mk s3
      have B3 := Au.mk b3
      clear s3 b3 f0 f1 f2 f3 f4 f5 f6 f7 c2
      gi_wp2_with fail
      have hyy := HY.out k nd _ W3 A3 c3 Hn.out HJ1.out B3.out (by rw [Hl.out]; exact S3.out)
      rw [Hl.out] at hyy
      refine upon_yield hyy ?_
      rintro e W4 ⟨rfl, hj4⟩
      refine ⟨_, rfl, ?_⟩
      have HJ4 := Au.mk hj4
      clear hj4 hyy
      gi_wp2_with fail
      go_roundw
      case rel => exact ⟨k + 1, by omega, by go_num, HJ4⟩
      case measure => simp [intOf]; omega
    · obtain rfl : k = t.length := by omega
      gi_wp2_with fail
      go_end0
      exact ⟨⟨_, rfl⟩, HJ.out⟩
end Go.Proofs.YtldhcknjpmbgnaaGreatDoor.Rk

namespace Go.Proofs.YtldhcknjpmbgnaaGreatDoor.Rk
open Go.RowKit Go.Shelf
attribute [local go_sem] Oper.semAt_some
set_option linter.unusedVariables false
set_option linter.unusedSimpArgs false
set_option maxRecDepth 100000

theorem end_plain {P : Program} {f : Func} {tmps : Array Value} {W : World} {R : Ending → World → Prop} {v : Value} (hr : (results f tmps).run P W = .ok v W) (hR : R (.returned v) W) :
    bodyPostM Fence.wide 0 P f R .ret { tmps := tmps, defers := [] } W := ⟨v, hr, hR⟩
/-- What the loop of All holds. -/
def AllJ (t : List Nd) (w : World) (A : Option Addr) (c : Nat) (F : Nat → Prop) (n L D base : Nat) (rd : Loop) (k : Nat) (W : World) : Prop :=
  W.heap[n + 1]? = some (.cells #[.slice A t.length c] 48 (0, 0)) ∧ Sl Kd.nd W F A c t ∧ (∃ v, W.heap[n]? = some (.cells #[v] 36 (0, 0)) ∧ RowD (Kd.slice Kd.byte) W (fun _ => False) base v ((t.take k).map eput).flatten) ∧ Rcd W L D rd ∧ Below w.heap.size w W ∧ base ≤ W.heap.size
theorem allJ_below {t : List Nd} {w : World} {A : Option Addr} {c : Nat} {F : Nat → Prop} {n L D base : Nat} {rd : Loop} {k : Nat} {W V : World} (h : AllJ t w A c F n L D base rd k W) (hw : w.heap.size ≤ W.heap.size) (hb : Below W.heap.size W V) : AllJ t w A c F n L D base rd k V := by
  obtain ⟨h1, h2, ⟨v, h3, h4⟩, h5, h6, h7⟩ := h
  exact ⟨blk_below h1 hb (lt_of_block h1), h2.below hb, ⟨v, blk_below h3 hb (lt_of_block h3), h4.below hb⟩, h5.below hb, below_then h6 hb hw, Nat.le_trans h7 hb.size⟩
theorem z2_calls (w : World) : Calls Tryz.prog 45 #[.int .i64 2] w fun e w' => ∃ A c, e = .returned (.slice A 2 c) ∧ Sl (Kd.slice Kd.byte) w' (fun k => w.heap.size ≤ k) A c [zeros 512, zeros 512] ∧ Below w.heap.size w w' := zblocks_calls (n := 2) (l := [zeros 512, zeros 512]) rfl (by decide) w
theorem flat_map_succ {t : List Nd} {k : Nat} {n : Nd} (hn : t[k]? = some n) : ((t.take (k + 1)).map eput).flatten = ((t.take k).map eput).flatten ++ eput n := by
  have hlt := (List.getElem?_eq_some_iff.1 hn).1
  rw [List.take_succ_eq_append_getElem hlt, (List.getElem?_eq_some_iff.1 hn).2]
  simp
set_option maxHeartbeats 4000000 in
theorem sall_calls (t : List Nd) (hS : AllS t) {A : Option Addr} {c : Nat} {F : Nat → Prop} {l : List (List UInt8)} {b : Bool} (hl : sall t = l) (hb : tmay t = b) (w : World) (ha : Sl Kd.nd w F A c t) :
    Calls Tryz.prog 28 #[.slice A t.length c] w fun e w' => ∃ A' c', e = .returned (.tuple #[.slice A' l.length c', .bool b]) ∧ Sl (Kd.slice Kd.byte) w' (fun j => w.heap.size ≤ j) A' c' l ∧ Below w.heap.size w w' := by
  have HS := Au.mk hS
  have Ha := Au.mk ha
  have Hb := Au.mk hb
  have Hl := Au.mk hl
  have hle := ha.le
  clear hS ha hb hl
  refine (callsIn_wide (n := 0)).1 ?_
  refine callsIn_of_wp_marks Tryz.func28 rfl trivial (wpIn_wide.2 ?_) rfl
  simp only [Tryz.ntmps28, List.size_toArray, List.length_cons, List.length_nil, Nat.reduceAdd, Nat.reduceSub, Array.replicate_succ, Array.replicate_zero, List.push_toArray, List.append_toArray, List.nil_append, List.cons_append]
  go_wp2_with fail
  refine (tmay_calls t HS.out Hb.out _ Ha.out).mono ?_
  rintro e w1 ⟨rfl, b1⟩
  cases b
  · have hl0 : [] = l := by rw [← Hl.out]; unfold sall; rw [Hb.out]; rfl
    subst hl0
    go_wp2_with fail
    exact end_plain (v := .tuple #[.slice none 0 0, .bool false]) (by simp [results, Tryz.results28, go_sem]) ⟨none, 0, rfl, Sl.nil _ _ _, b1⟩
  · go_wp2_with fail
    refine (entries_calls _ _ _ _).mono ?_
    rintro e w' ⟨rfl, rfl⟩
    go_wp2_with fail
    have hs1 := b1.size
    have hb0 : Below w.heap.size w ((w1.alloc (.cells #[.slice none 0 0] 36)).alloc (.cells #[.slice A t.length c] 48)) := (b1.alloc hs1 _).alloc (by simp; omega) _
    have hM0 : ((w1.alloc (.cells #[.slice none 0 0] 36)).alloc (.cells #[.slice A t.length c] 48)).heap[w1.heap.size]? = some (.cells #[.slice none 0 0] 36 (0, 0)) ∧
        ((w1.alloc (.cells #[.slice none 0 0] 36)).alloc (.cells #[.slice A t.length c] 48)).heap[w1.heap.size + 1]? = some (.cells #[.slice A t.length c] 48 (0, 0)) := by
      have h2 := heap_alloc_new (w1.alloc (.cells #[.slice none 0 0] 36)) (.cells #[.slice A t.length c] 48)
      have h1 := heap_alloc_new w1 (.cells #[.slice none 0 0] 36)
      simp only [World.size_alloc] at h2
      exact ⟨blk_alloc h1 _, h2⟩
    have ha0 : Sl Kd.nd ((w1.alloc (.cells #[.slice none 0 0] 36)).alloc (.cells #[.slice A t.length c] 48)) (fun k => F k ∧ k < w.heap.size) A c t := ((Ha.out.old.below b1).alloc _).alloc _
    generalize (w1.alloc (.cells #[.slice none 0 0] 36)).alloc (.cells #[.slice A t.length c] 48) = W0 at hb0 hM0 ha0 ⊢
    obtain ⟨n, Hn⟩ := au w1.heap.size
    rw [Hn.out] at hM0 hs1 ⊢
    have hsz := lt_of_block hM0.2
    refine (wpIn_wide (n := 0)).1 ?_
    refine over_in rfl (enters_of Tryz.func85 (by kernel_rfl) rfl) ?_
    intro rd fn W1 Hrd hb1 hz1 hR
    have hJ0 : AllJ t w A c (fun k => F k ∧ k < w.heap.size) n (W0.heap.size + 1) W0.heap.size W1.heap.size (rd .ready none) 0 W1 :=
      ⟨(hb1.block _ (by omega)).trans hM0.2, ha0.below hb1, ⟨.slice none 0 0, (hb1.block _ (by omega)).trans hM0.1, RowD.nil _ _ _ _⟩, hR, below_then hb0 hb1 hb0.size, Nat.le_refl _⟩
    have Hz1 := Au.mk hz1
    refine (entries_walk (n := n + 1) t HS.out Hb.out (AllJ t w A c (fun k => F k ∧ k < w.heap.size) n (W0.heap.size + 1) W0.heap.size W1.heap.size (rd .ready none)) (fun k W h => ⟨h.1, h.2.1⟩) (fun k W V h hb => allJ_below h (h.2.2.2.2.1).size hb) ?_ W1 hJ0).mono ?_
    · intro k nd Wz W A' c' hn hJz hbz hsl
      have hJ := allJ_below hJz hJz.2.2.2.2.1.size hbz
      obtain ⟨y1, y2, ⟨v0, y3, y4⟩, y5, y6, y7⟩ := hJz
      obtain ⟨j1, j2, ⟨v, j3, j4⟩, j5, j6, j7⟩ := hJ
      have hv : v = v0 := by
        have h := blk_below y3 hbz (lt_of_block y3)
        rw [j3] at h
        injection h with h
        injection h with h
        simpa using h
      subst hv
      have Hown : Au (∀ g, v.ownBlock = some g → ¬ (Wz.heap.size ≤ g)) := ⟨fun g hg h => by have := y4.high _ g hg; omega⟩
      have Hf2 : Au (∀ j, Wz.heap.size ≤ j → (False ∨ W1.heap.size ≤ j)) := ⟨fun j hj => .inr (Nat.le_trans y7 hj)⟩
      have hkl : k < t.length := (List.getElem?_eq_some_iff.1 hn).1
      have hlen : ((t.take k).map eput).flatten.length + (eput nd).length ≤ 13 * 20 := by
        have h1 := flat_len (t.take (k + 1))
        rw [flat_map_succ hn, List.length_append, List.length_take] at h1
        have := tmay_len Hb.out
        omega
      have J5 := Au.mk j5
      refine over_round Hrd j5 rfl ?_
      have hltn := lt_of_block j3
      have Jr := Au.mk (j5.turn (rd .busy none) (by omega : W0.heap.size ≠ W0.heap.size + 1))
      have Jb := Au.mk (below_putObj j6 (L := W0.heap.size + 1) (by omega) (by omega) (.loop (rd .busy none)))
      have Jt := Au.mk ((World.putObj_heap_other (w := W) (o := .loop (rd .busy none)) (by omega : n + 1 ≠ W0.heap.size + 1)).trans j1)
      have Jo := Au.mk ((World.putObj_heap_other (w := W) (o := .loop (rd .busy none)) (by omega : n ≠ W0.heap.size + 1)).trans j3)
      have Jd := Au.mk (j4.keep (W := W.putObj (W0.heap.size + 1) (.loop (rd .busy none))) (fun k hk hlt => World.putObj_heap_other (by rcases hk with hk | hk; exact hk.elim; omega)) (by simp))
      have Ja := Au.mk (j2.keep (W := W.putObj (W0.heap.size + 1) (.loop (rd .busy none))) (fun k hk hlt => World.putObj_heap_other (by have := hk.2; omega)) (by simp))
      have Js := Au.mk (hsl.keep (W := W.putObj (W0.heap.size + 1) (.loop (rd .busy none))) (fun k hk hlt => World.putObj_heap_other (by omega)) (by simp))
      have Jz : Au (W1.heap.size ≤ (W.putObj (W0.heap.size + 1) (.loop (rd .busy none))).heap.size) := ⟨by simpa using j7⟩
      have Hlen := Au.mk hlen
      have Hnd := Au.mk hn
      clear y1 y2 y3 y4 y5 y6 y7 j1 j2 j3 j4 j5 j6 j7 hsl hbz hlen hn hJ0 hR
      gi_wp2_with fail
      refine ⟨J5.out, ?_⟩
      generalize W.putObj (W0.heap.size + 1) (.loop (rd .busy none)) = Wb at Jr Jb Jt Jo Jd Ja Js Jz ⊢
      obtain ⟨le, Hle⟩ := au (eput nd)
      obtain ⟨dn, Hdn⟩ := au ((t.take k).map eput).flatten
      rw [Hle.out] at Js Hlen ⊢
      rw [Hdn.out] at Jd Hlen
      have c1 := cell_of_one Jo.out
      have H3 : Au (dn.length + le.length ≤ maxLen ∧ (dn.length + le.length) * 24 ≤ 140737488355328) := ⟨by have := Hlen.out; simp only [maxLen]; omega⟩
      have Hbx : Au (∀ W5, Wb.grownBy W5 v.ownBlock → W5.heap[n]? = some (.cells #[v] 36 (0, 0))) := ⟨fun W5 hg5 => Jd.out.kept _ hg5 Jo.out (by omega)⟩
      have Hsz := Au.mk hsz
      clear hsz hltn hz1
      gi_wp2_with (gi_at_builtin; refine wpListIn_append_rowD (d := Kd.slice Kd.byte) (G := fun _ => False) (F2 := fun j => Wz.heap.size ≤ j) (base := W1.heap.size) (xs := dn) (ys := le) _ rfl etBlks _ _ rfl rfl Jd.out rfl rfl Js.out.els Hf2.out Hown.out H3.out.1 H3.out.2 Jz.out ?_; intro v' W5 hr5 hg5 ho5; obtain ⟨A5, c5, rfl⟩ := hr5.form; have Hr5 := Au.mk hr5; have Hg5 := Au.mk hg5; clear hr5 hg5 ho5; have c2 := cell_of_one (Hbx.out W5 Hg5.out); have c3 := free_of_one (Hbx.out W5 Hg5.out))
      have hz1 := Hz1.out
      have hsz := Hsz.out
      have hJz := Jz.out
      have hg5 : Wb.grownBy W5 v.ownBlock := Hg5.out
      have o5 := Hbx.out W5 hg5
      have t5 := Jd.out.kept _ hg5 Jt.out (by omega)
      have r5 : Rcd W5 (W0.heap.size + 1) W0.heap.size (rd .busy none) := ⟨Jd.out.kept _ hg5 Jr.out.lp (by omega), Jd.out.kept _ hg5 Jr.out.dl (by omega)⟩
      have hw5 : w.heap.size ≤ W1.heap.size := by have := hb0.size; omega
      have b5 : Below w.heap.size w W5 := Jb.out.grown hg5 (by omega) (fun k hk => by have := Jd.out.low _ k hk; omega)
      have a5 : Sl Kd.nd W5 (fun k => F k ∧ k < w.heap.size) A c t := Ja.out.keep (fun k hk hlt => hg5.block k hlt (fun e => by have := Jd.out.low _ k e.symm; have := hk.2; omega)) hg5.size
      have z5' : W1.heap.size ≤ W5.heap.size := Nat.le_trans hJz hg5.size
      have hlen : dn.length + le.length = (dn ++ le).length := by simp
      have r6 := r5.set (p := ⟨n, 0, none⟩) (.slice A5 (dn.length + le.length) c5) (by simp; omega) (by simp; omega)
      have b6 := b5.setCell (p := ⟨n, 0, none⟩) (by simp; omega) (.slice A5 (dn.length + le.length) c5)
      have o6 : (W5.setCell ⟨n, 0, none⟩ (.slice A5 (dn.length + le.length) c5)).heap[n]? = some (.cells #[.slice A5 (dn.length + le.length) c5] 36 (0, 0)) := one_setCell o5
      have t6 := (Below.heap_setCell W5 ⟨n, 0, none⟩ (.slice A5 (dn.length + le.length) c5) (n + 1) (by simp)).trans t5
      have d6 := Hr5.out.set (p := ⟨n, 0, none⟩) (.slice A5 (dn.length + le.length) c5) (fun h => h) (by simp; omega)
      have a6 := a5.set (p := ⟨n, 0, none⟩) (.slice A5 (dn.length + le.length) c5) (fun h => by have := h.2; simp at this; omega)
      have s6 : W1.heap.size ≤ (W5.setCell ⟨n, 0, none⟩ (.slice A5 (dn.length + le.length) c5)).heap.size := by simpa [World.setCell] using z5'
      generalize W5.setCell ⟨n, 0, none⟩ (.slice A5 (dn.length + le.length) c5) = W6 at r6 b6 o6 t6 d6 a6 s6 ⊢
      rw [← hz1]
      refine ⟨r6, rfl, (World.putObj_heap_other (by omega)).trans t6, a6.keep (fun k hk hlt => World.putObj_heap_other (by have := hk.2; omega)) (by simp), ⟨.slice A5 (dn.length + le.length) c5, (World.putObj_heap_other (by omega)).trans o6, ?_⟩, r6.turn _ (by omega), below_putObj b6 (by omega) (by omega) _, by simpa using s6⟩
      rw [flat_map_succ Hnd.out, Hdn.out, Hle.out, hlen]
      exact d6.keep (fun k hk hlt => World.putObj_heap_other (by rcases hk with hk | hk; exact hk.elim; omega)) (by simp)
    · rintro e W' ⟨hv, h1, h2, ⟨v, h3, h4⟩, h5, h6, h7⟩
      refine ⟨hv, .inl ⟨h5, ?_⟩⟩
      have b2 := below_putObj h6 (L := W0.heap.size + 1) (by omega) (by omega) (.loop (rd .exhausted none))
      have D2 := Au.mk (h5.deferred (by omega) (.loop (rd .exhausted none)))
      have O2 := (World.putObj_heap_other (w := W') (o := .loop (rd .exhausted none)) (by omega : n ≠ W0.heap.size + 1)).trans h3
      have R2 := Au.mk (h4.keep (W := W'.putObj (W0.heap.size + 1) (.loop (rd .exhausted none))) (fun k hk hlt => World.putObj_heap_other (by rcases hk with hk | hk; exact hk.elim; omega)) (by simp))
      have Hb2 := Au.mk b2
      have Hn2 := Au.mk (show n + 1 < W0.heap.size ∧ w.heap.size ≤ W1.heap.size ∧ W1.heap.size ≤ (W'.putObj (W0.heap.size + 1) (.loop (rd .exhausted none))).heap.size from ⟨by omega, by have := hb0.size; omega, by simpa using h7⟩)
      have q1 := cell_of_one O2
      clear b2 O2 h1 h2 h3 h4 h5 h6 h7 hsz hJ0 hR hz1 hb1 hM0 hv ha0
      generalize W'.putObj (W0.heap.size + 1) (.loop (rd .exhausted none)) = W2 at *
      obtain ⟨A2, c2, rfl, hsl2⟩ := R2.out.sl
      obtain ⟨dn, Hdn⟩ := au ((t.take t.length).map eput).flatten
      rw [Hdn.out] at hsl2 q1 R2
      have S2 : Au (Sl (Kd.slice Kd.byte) W2 (fun k => W1.heap.size ≤ k) A2 c2 dn) := ⟨hsl2.mono (fun k hk => by rcases hk with hk | hk; exact hk.elim; exact hk)⟩
      have hfl : Au ([dn, [zeros 512, zeros 512]].flatten = l) := ⟨by
        rw [← Hl.out, ← Hdn.out, List.take_of_length_le (Nat.le_refl _)]
        unfold sall; rw [Hb.out]; simp⟩
      have hfl2 : Au ([dn, [zeros 512, zeros 512]].flatten.length ≤ 1000000) := ⟨by
        rw [hfl.out, ← Hl.out]
        have := (sall_len Hb.out).2
        omega⟩
      clear hsl2
      have S2d : Sl (Kd.slice Kd.byte) W2.drew (fun k => W1.heap.size ≤ k) A2 c2 dn := S2.out.drewN 1
      have Hsz2 : Au (W1.heap.size ≤ W2.heap.size) := ⟨Hn2.out.2.2⟩
      go_upto_region 7 with fail
      go_region_held3 (fun w' => w'.cell? ⟨n, 0, none⟩ = some (.slice A2 dn.length c2)) (go_keep)
        (first | (go_at_call 45; refine (z2_calls _).mono ?_; rintro e w3 ⟨A3, c3, rfl, s3, b3⟩; have g3 := cell_below (w := W2.drew) q1 b3; have z3 := (show W1.heap.size ≤ w3.heap.size from Nat.le_trans Hsz2.out b3.size); have s4 := sl_two_up (B := W1.heap.size) (e := 36) z3 (n := dn.length) (m := 2) rfl rfl (S2d.below b3) (s3.up Hsz2.out)) | (go_at_call 44; refine (concat_calls [dn, [zeros 512, zeros 512]] rfl hfl2.out hfl.out _ s4).mono ?_; rintro e w5 ⟨A5, c5, rfl, s5, b5⟩; have g5 := cell_below (cell_alloc g3 _) b5))
      have e2 := below_drewN Hb2.out 1
      have hw1 := Hn2.out.2.1
      have e3 := below_then e2 b3 (Nat.le_trans hw1 Hsz2.out)
      have e4 := e3.alloc (Nat.le_trans hw1 z3) (.cells #[.slice A2 dn.length c2, .slice A3 2 c3] 36)
      have e5 := below_then e4 b5 (by simp; omega)
      have D5 := Au.mk (blk_below (blk_alloc (blk_below (w := W2.drew) D2.out b3 (lt_of_block D2.out)) (.cells #[.slice A2 dn.length c2, .slice A3 2 c3] 36)) b5 (lt_of_block (blk_alloc (blk_below (w := W2.drew) D2.out b3 (lt_of_block D2.out)) _)))
      have hz5 := b5.size
      have S5 : Au (Sl (Kd.slice Kd.byte) w5 (fun k => w.heap.size ≤ k ∧ k ≠ W0.heap.size) A5 c5 l) := ⟨s5.mono (fun k hk => by have := Hz1.out; rcases hk with hk | hk; omega; simp at hk; omega)⟩
      go_wp2_with fail
      refine end_marks (v := .tuple #[.slice A5 l.length c5, .bool true]) D5.out (by simp [results, Tryz.results28, go_sem]) ⟨A5, c5, rfl, ?_, below_putObj e5 hb0.size e5.size _⟩
      exact (S5.out.keep (fun k hk _ => World.putObj_heap_other hk.2) (by simp)).mono fun k hk => hk.1
end Go.Proofs.YtldhcknjpmbgnaaGreatDoor.Rk

namespace Go.Proofs.YtldhcknjpmbgnaaGreatDoor.Rk
open Go.RowKit
set_option linter.unusedVariables false
set_option linter.unusedSimpArgs false

section
variable {P : Program} {ops : Array Oper} {Q : Exit → Act → World → Prop} {md : Region.Mode} {S : World → Prop} {L : Nat → Bool}
/-- Whatever order is picked; S holds behind those of L. -/
def anyL (P : Program) (md : Region.Mode) (ops : Array Oper) (Q : Exit → Act → World → Prop) (S : World → Prop) (L : Nat → Bool) : Nat → Array Bool → Act → World → Prop
  | 0, listed, a, w => Region.ready md ops listed = [] ∧ Q .normal a w
  | g + 1, listed, a, w =>
    (Region.ready md ops listed = [] → Q .normal a w) ∧
    ∀ i ∈ Region.ready md ops listed, wpOp P ops Q i (fun a' w' => (L i = true → S w') ∧ anyL P md ops Q S L g (listed.setIfInBounds i true) a' w') a w
theorem any_of_L : ∀ (g : Nat) (listed : Array Bool) (a : Act) (w : World), anyL P md ops Q S L g listed a w → wpAny P md ops Q g listed a w
  | 0, _, _, _, h => h
  | g + 1, _, _, _, h => ⟨h.1, fun i hi => wpOp_mono (fun a' w' h' => any_of_L g _ a' w' h'.2) (h.2 i hi)⟩
/-- What waits for i: a set that none can enter while i is not taken. -/
structure Waits (md : Region.Mode) (ops : Array Oper) (i : Nat) (B : List Nat) (L : Nat → Bool) (listed : Array Bool) : Prop where
  self : i ∉ B
  un : ∀ k ∈ B, listed.getD k true = false
  dep : ∀ k ∈ B, ∀ o, ops[k]? = some o → ∃ e ∈ o.after, Region.binds md e = true ∧ (e.on = i ∨ e.on ∈ B)
  rest : ∀ k, k ∉ B → k ≠ i → listed.getD k true = false → L k = true
theorem getD_ff {l : Array Bool} {k : Nat} (h : l.getD k true = false) : l.getD k false = false := by
  rcases Nat.lt_or_ge k l.size with h' | h'
  · simp [h'] at h ⊢; exact h
  · simp [Array.getElem?_eq_none h'] at h
theorem getD_mono {l : Array Bool} {j k : Nat} (h : (l.setIfInBounds j true).getD k true = false) : l.getD k true = false := by
  by_cases hjk : j = k
  · subst hjk
    rcases Nat.lt_or_ge j l.size with h' | h'
    · simp [h'] at h
    · simp [Array.getElem?_eq_none, h'] at h
  · rwa [getD_set_ne true hjk] at h
theorem anyL_first {i : Nat} {oi : Oper} {v : Value} {B : List Nat} (hi : ops[i]? = some oi) (hsel : ∀ (j : Nat) (o : Oper) cs b, ops[j]? = some o → o.op ≠ .select cs b)
    (hQ : ∀ c a w, Q (.panic c) (a.put oi.dst v) w → Q (.panic c) a w) :
    ∀ (g : Nat) (listed : Array Bool) (a : Act) (w : World),
      (∀ j oj, ops[j]? = some oj → j ≠ i → listed.getD j true = false → (∀ e ∈ oj.after, Region.binds md e = true → e.on ≠ i) → oi.apart ops oj = true) →
      i ∈ Region.ready md ops listed → Waits md ops i B L listed → YieldsIf P ops S oi v a → S w →
      anyL P md ops Q S L g (listed.setIfInBounds i true) (a.put oi.dst v) w → anyL P md ops Q S L (g + 1) listed a w := by
  intro g
  induction g with
  | zero =>
    intro listed a w _ hr _ hy hS H
    refine ⟨fun h => (by rw [h] at hr; cases hr), fun j hj => ?_⟩
    by_cases hji : j = i
    · subst hji; exact hy.wpOp hi hS ⟨fun _ => hS, H⟩
    · have := ready_mono hj hji
      rw [H.1] at this
      cases this
  | succ g ih =>
    intro listed a w hfree hr hW hy hS H
    refine ⟨fun h => (by rw [h] at hr; cases hr), fun j hj => ?_⟩
    by_cases hji : j = i
    · subst hji; exact hy.wpOp hi hS ⟨fun _ => hS, H⟩
    have h1 := H.2 j (ready_mono hj hji)
    obtain ⟨hjun, oj, hoj, hall⟩ := mem_ready.1 hj
    have hi0 := (mem_ready.1 hr).1
    have hnot : ∀ e ∈ oj.after, Region.binds md e = true → e.on ≠ i := fun e he hb heq => by
      have := hall e he hb
      rw [heq, getD_ff hi0] at this
      cases this
    have hjB : j ∉ B := fun hm => by
      obtain ⟨e, he, hb, h2⟩ := hW.dep j hm oj hoj
      rcases h2 with h2 | h2
      · exact hnot e he hb h2
      · have := hall e he hb
        rw [getD_ff (hW.un _ h2)] at this
        cases this
    have hLj := hW.rest j hjB hji hjun
    have h2 := wpOp_putIf hoj (hfree j oj hoj hji hjun hnot) (fun cs b => hsel i oi cs b hi) (fun cs b => hsel j oj cs b hoj) hQ hy h1
    have hW' : Waits md ops i B L (listed.setIfInBounds j true) :=
      ⟨hW.self, fun k hk => by rw [getD_set_ne true (fun (e : j = k) => hjB (by rw [e]; exact hk))]; exact hW.un k hk, hW.dep, fun k hk hki hun => hW.rest k hk hki (getD_mono hun)⟩
    have hfree' : ∀ k ok, ops[k]? = some ok → k ≠ i → (listed.setIfInBounds j true).getD k true = false →
        (∀ e ∈ ok.after, Region.binds md e = true → e.on ≠ i) → oi.apart ops ok = true := fun k ok hk hki hun hno => hfree k ok hk hki (getD_mono hun) hno
    refine wpOp_mono (fun a' w' h3 => ⟨h3.2.1, ih (listed.setIfInBounds j true) a' w' hfree' (ready_mono hr (Ne.symm hji)) hW' h3.1 (h3.2.1 hLj) ?_⟩) h2
    rw [Array.setIfInBounds_comm _ _ hji]
    exact h3.2.2
/-- Those that wait for i, reckoned. -/
def waitB (md : Region.Mode) (ops : Array Oper) (i : Nat) : List Nat :=
  (List.range ops.size).foldl (fun B k => if (match ops[k]? with | some o => o.after.any (fun e => Region.binds md e && (e.on == i || B.contains e.on)) | none => false) then B ++ [k] else B) []
def waitsB (md : Region.Mode) (ops : Array Oper) (i c : Nat) (B : List Nat) (listed : Array Bool) : Bool :=
  !B.contains i && B.all (fun k => !listed.getD k true && (match ops[k]? with | some o => o.after.any (fun e => Region.binds md e && (e.on == i || B.contains e.on)) | none => true)) &&
    (List.range listed.size).all (fun k => B.contains k || k == i || listed.getD k true || decide (k < c))
theorem waits_of {i c : Nat} {B : List Nat} {listed : Array Bool} (h : waitsB md ops i c B listed = true) : Waits md ops i B (fun k => decide (k < c)) listed := by
  simp only [waitsB, Bool.and_eq_true, Bool.not_eq_true', List.all_eq_true, List.mem_range, Bool.or_eq_true, beq_iff_eq, List.contains_iff_mem, decide_eq_true_eq] at h
  obtain ⟨⟨h1, h2⟩, h3⟩ := h
  refine ⟨fun hm => (by rw [List.contains_iff_mem.2 hm] at h1; cases h1), fun k hk => (h2 k hk).1, fun k hk o ho => ?_, fun k hk hki hun => ?_⟩
  · have := (h2 k hk).2
    rw [ho] at this
    simp only [Array.any_eq_true', Bool.and_eq_true, Bool.or_eq_true, beq_iff_eq, List.contains_iff_mem] at this
    obtain ⟨e, he, h4, h5⟩ := this
    exact ⟨e, he, h4, h5⟩
  · rcases Nat.lt_or_ge k listed.size with h' | h'
    · rcases h3 k h' with ((h | h) | h) | h
      · exact absurd h hk
      · exact absurd h hki
      · rw [hun] at h; cases h
      · exact decide_eq_true h
    · simp [Array.getElem?_eq_none h'] at hun
/-- One behind the other: such as read (true), such as must come now and keep S (false); then the rest. -/
def opsL (P : Program) (ops : Array Oper) (Q : Exit → Act → World → Prop) (S : World → Prop) : List Bool → List Oper → Act → World → Prop
  | true :: bs, o :: l, a, w => ∃ v, YieldsIf P ops S o v a ∧ opsL P ops Q S bs l (a.put o.dst v) w
  | false :: bs, o :: l, a, w => Region.wanted o (yielded ops a.tmps) = true ∧ o.wp P a w (fun a' w' => S w' ∧ opsL P ops Q S bs l a' w') Q
  | _, l, a, w => wpList P ops Q l a w
def opsB (md : Region.Mode) (ops : Array Oper) (c : Nat) : List Bool → Nat → Array Bool → Bool
  | true :: bs, k, listed => (Region.ready md ops listed).contains k && Region.free md ops listed k && waitsB md ops k c (waitB md ops k) listed && opsB md ops c bs (k + 1) (listed.setIfInBounds k true)
  | false :: bs, k, listed => decide (Region.ready md ops listed = [k]) && opsB md ops c bs (k + 1) (listed.setIfInBounds k true)
  | [], k, listed => decide (c ≤ k) && seqP md ops (ops.size - k) k listed && (Region.ready md ops (marks (ops.size - k) k listed)).isEmpty
/-- The last, in one order; none of them is of L. -/
theorem anyL_tail {c : Nat} : ∀ (l : List Oper) (k : Nat) (listed : Array Bool) (a : Act) (w : World), c ≤ k → (∀ j, j < l.length → l[j]? = ops[k + j]?) → seqP md ops l.length k listed = true → Region.ready md ops (marks l.length k listed) = [] →
    wpList P ops Q l a w → anyL P md ops Q S (fun k => decide (k < c)) l.length listed a w
  | [], k, listed, a, w, _, _, _, hr, h => ⟨hr, h⟩
  | o :: l, k, listed, a, w, hck, hl, hB, hr, h => by
    have h0 : ops[k]? = some o := by simpa using (hl 0 (by simp)).symm
    simp only [List.length_cons, seqP, Bool.and_eq_true, decide_eq_true_eq] at hB
    refine ⟨fun h1 => (by rw [hB.1] at h1; cases h1), fun i hi => ?_⟩
    rw [hB.1] at hi
    have hik : i = k := by simpa using hi
    subst hik
    exact wpOp_mono (fun a' w' h' => ⟨fun h => absurd (of_decide_eq_true h) (by omega), anyL_tail l _ _ a' w' (by omega) (fun j hj => by have := hl (j + 1) (by simpa using hj); simpa [Nat.add_assoc, Nat.add_comm 1 j] using this) hB.2 hr h'⟩) (wpOp_list h0 h)
theorem anyL_ops {c : Nat} (hs : Region.noSelect ops = true) (hQ : ∀ c a a' w, Q (.panic c) a w → Q (.panic c) a' w) : ∀ (bs : List Bool) (l : List Oper) (k : Nat) (listed : Array Bool) (a : Act) (w : World), S w → bs.length ≤ l.length → k + l.length = ops.size → (∀ j, j < l.length → l[j]? = ops[k + j]?) → opsB md ops c bs k listed = true →
    opsL P ops Q S bs l a w → anyL P md ops Q S (fun k => decide (k < c)) l.length listed a w
  | [], l, k, listed, a, w, _, _, hk, hl, hB, h => by
    simp only [opsB, Bool.and_eq_true, decide_eq_true_eq] at hB
    obtain ⟨⟨h1, h2⟩, h3⟩ := hB
    have e : ops.size - k = l.length := by omega
    rw [e] at h2 h3
    exact anyL_tail l k listed a w h1 hl h2 (List.isEmpty_iff.1 h3) (by cases l <;> exact h)
  | b :: bs, [], k, listed, a, w, _, hb, hk, hl, hB, h => by simp at hb
  | true :: bs, o :: l, k, listed, a, w, hS, hb, hk, hl, hB, h => by
    have h0 : ops[k]? = some o := by simpa using (hl 0 (by simp)).symm
    simp only [opsB, Bool.and_eq_true] at hB
    obtain ⟨⟨⟨hr, hf⟩, hw⟩, hB'⟩ := hB
    obtain ⟨v, hy, hK⟩ := h
    exact anyL_first h0 (Region.noSelect_spec hs) (fun c a w h => hQ c _ _ w h) _ listed a w (Region.free_spec h0 hf) (by simpa using hr) (waits_of hw) hy hS
      (anyL_ops hs hQ bs l (k + 1) _ _ w hS (by simpa using hb) (by simp only [List.length_cons] at hk; omega) (fun j hj => by have := hl (j + 1) (by simpa using hj); simpa [Nat.add_assoc, Nat.add_comm 1 j] using this) hB' hK)
  | false :: bs, o :: l, k, listed, a, w, hS, hb, hk, hl, hB, h => by
    have h0 : ops[k]? = some o := by simpa using (hl 0 (by simp)).symm
    simp only [opsB, Bool.and_eq_true, decide_eq_true_eq] at hB
    refine ⟨fun h1 => (by rw [hB.1] at h1; cases h1), fun i hi => ?_⟩
    rw [hB.1] at hi
    have hik : i = k := by simpa using hi
    subst hik
    unfold wpOp
    simp only [h0]
    rw [if_pos h.1]
    exact .inl (Oper.wp_mono (fun a' w' h' => ⟨fun _ => h'.1, anyL_ops hs hQ bs l (i + 1) _ a' w' h'.1 (by simpa using hb) (by simp only [List.length_cons] at hk; omega) (fun j hj => by have := hl (j + 1) (by simpa using hj); simpa [Nat.add_assoc, Nat.add_comm 1 j] using this) hB.2 h'.2⟩) h.2)
end

/-- No panic, nor any other way out. -/
def Calm (Q : Exit → Act → World → Prop) : Exit → Act → World → Prop
  | .normal, a, w => Q .normal a w
  | _, _, _ => False
theorem calm_lets {Q : Exit → Act → World → Prop} : ¬ LetsOut (Calm Q) := fun ⟨_, _, h⟩ => h
def noDefer (o : Oper) : Bool := match o.op with | .defer _ => false | _ => true
theorem noDefer_spec {o : Oper} (h : noDefer o = true) : ∀ c, o.op ≠ .defer c := fun c e => by simp [noDefer, e] at h
theorem rowsIn_of {F : Fence} {n : Nat} {P : Program} {row : String} {args : Array Value} {w : World} {R : Value → World → Prop} (hF : ∀ m : Machine, Machine.fenced P F m) (h : Rows P row args w R) : RowsIn F n P row args w R :=
  fun c cs _ => let ⟨v, w', r, s⟩ := h c cs; ⟨v, w', r, (StepsIn.of_steps s).mono fun m _ => hF m⟩
theorem upon_in {P : Program} {o : Oper} {a : Act} {K : Act → World → Prop} {Q : Exit → Act → World → Prop} {l : Nat} {r : Result Next} (h : o.upon P a K (Calm Q) r) : o.uponIn (Fence.wide.inRound l) 0 P a K Q r := by
  cases r with
  | ok x w' =>
    cases x <;> simp only [Oper.upon, Oper.uponIn] at h ⊢
    case value => exact h
    case skip => exact h
    case defer => exact h
    case enter f args =>
      refine ⟨fun hd => by simp [Fence.wide] at hd, CallsIn.inRound _ ((callsIn_wide.2 h).mono fun e w'' he => ?_)⟩
      cases e with
      | returned v => exact he
      | panicked c => exact he.elim
      | outgrown => exact absurd he calm_lets
    case row row args => exact ⟨fun hd => by simp [Fence.wide] at hd, rowsIn_of (fun m => by rw [fenced_inRound]; exact fenced_wide P m) h⟩
  | halt x w' => cases x <;> simp only [Oper.upon, Oper.uponIn] at h ⊢ <;> exact h.elim
theorem op_in {P : Program} {ops : Array Oper} {Q : Exit → Act → World → Prop} {K : Act → World → Prop} {l i : Nat} {a : Act} {w : World} (hd : ∀ o, ops[i]? = some o → noDefer o = true) (h : wpOp P ops (Calm Q) i K a w) : wpOpIn (Fence.wide.inRound l) 0 P ops Q i K a w := by
  unfold wpOp at h
  unfold wpOpIn
  cases h0 : ops[i]? with
  | none => simpa [h0] using h
  | some o =>
    simp only [h0] at h ⊢
    by_cases hw : Region.wanted o (yielded ops a.tmps) = true
    · rw [if_pos hw] at h ⊢
      rcases h with h | h
      · refine ⟨fun f _ => trivial, ?_⟩
        rw [Oper.semAt_eq _ _ _ (noDefer_spec (hd o h0))]
        exact upon_in h
      · exact absurd h.2 calm_lets
    · rw [if_neg hw] at h ⊢
      exact ⟨fun f _ => trivial, h⟩
theorem any_in {P : Program} {md : Region.Mode} {ops : Array Oper} {Q : Exit → Act → World → Prop} {l : Nat} (hd : ∀ (i : Nat) (o : Oper), ops[i]? = some o → noDefer o = true) : ∀ (g : Nat) (listed : Array Bool) (a : Act) (w : World), wpAny P md ops (Calm Q) g listed a w → wpAnyIn (Fence.wide.inRound l) 0 P md ops Q g listed a w
  | 0, _, _, _, h => h
  | g + 1, listed, a, w, h => ⟨h.1, fun i hi => wpOpIn_mono (fun a' w' h' => any_in hd g _ a' w' h') (op_in (hd i) (h.2 i hi))⟩
def regB (md : Region.Mode) (ops : Array Oper) (bs : List Bool) : Bool := Region.noSelect ops && opsB md ops bs.length bs 0 (Array.replicate ops.size false)
theorem any_ops {P : Program} {ops : List Oper} {Q : Exit → Act → World → Prop} {S : World → Prop} {a : Act} {w : World} (bs : List Bool) (hb : bs.length ≤ ops.length) (hB : regB .any ops.toArray bs = true) (hS : S w) (hQ : ∀ c a a' w, Q (.panic c) a w → Q (.panic c) a' w)
    (h : opsL P ops.toArray Q S bs ops a w) : wpAny P .any ops.toArray Q ops.toArray.size (Array.replicate ops.toArray.size false) a w := by
  simp only [regB, Bool.and_eq_true] at hB
  have hsz : ops.toArray.size = ops.length := by simp
  have := anyL_ops (md := .any) hB.1 hQ bs ops 0 (Array.replicate ops.toArray.size false) a w hS hb (by simp) (fun j _ => by simp) hB.2 h
  rw [hsz]
  rw [hsz] at this
  exact any_of_L _ _ _ _ this
/-- A region in a round. -/
theorem round_ops {P : Program} {id : Nat} {ops : List Oper} {Q : Exit → Act → World → Prop} {a : Act} {w : World} {l : Nat} (S : World → Prop) (bs : List Bool) (hm : P.follows .mixedOrders = true) (hrm : bs.length ≤ ops.length) (hB : regB .any ops.toArray bs = true) (hd : ops.all noDefer = true) (hS : S w.drew)
    (h : opsL P ops.toArray (Calm Q) S bs ops a w.drew) : (Code.region id ops.toArray true).wpIn (Fence.wide.inRound l) 0 P Q a w :=
  wpIn_region_any hm (any_in (fun i o ho => List.all_eq_true.1 hd o (List.mem_of_getElem? (by simpa using ho))) _ _ _ _ (any_ops bs hrm hB hS (fun _ _ _ _ h => h) h))
theorem Calm.imp {Q : Exit → Act → World → Prop} : ∀ (e : Exit) (a : Act) (w : World), Calm Q e a w → Q e a w := fun e a w h => by
  cases e <;> first | exact h | exact h.elim
/-- The same outside a round. -/
theorem region_ops {P : Program} {id : Nat} {ops : List Oper} {Q : Exit → Act → World → Prop} {a : Act} {w : World} (S : World → Prop) (bs : List Bool) (hm : P.follows .mixedOrders = true) (hrm : bs.length ≤ ops.length) (hB : regB .any ops.toArray bs = true) (hS : S w.drew)
    (h : opsL P ops.toArray (Calm Q) S bs ops a w.drew) : (Code.region id ops.toArray true).wp P Q a w :=
  Code.wp_mono Calm.imp (wp_region_any hm (any_ops bs hrm hB hS (fun _ _ _ _ h => h) h))
end Go.Proofs.YtldhcknjpmbgnaaGreatDoor.Rk

namespace Go.Proofs.YtldhcknjpmbgnaaGreatDoor.Rk
open Go.RowKit Go.Shelf
attribute [local go_sem] Oper.semAt_some
set_option linter.unusedVariables false
set_option linter.unusedSimpArgs false
set_option maxRecDepth 100000

theorem smany_calls (t : List Nd) (hS : AllS t) {A : Option Addr} {c : Nat} {F : Nat → Prop} {m : Nat} (hm : (sall t).length = m) (w : World) (ha : Sl Kd.nd w F A c t) :
    Calls Tryz.prog 114 #[.slice A t.length c] w fun e w' => e = .returned (.int .i64 m) ∧ Below w.heap.size w w' := by
  obtain ⟨l, Hl⟩ := au (sall t)
  obtain ⟨b, Hb⟩ := au (tmay t)
  have hlm : l.length = m := by rw [← Hl.out, hm]
  have Hm := Au.mk hlm
  have Hc := Au.mk (sall_calls t hS Hl.out Hb.out w ha)
  clear hS hm ha hlm
  go_enter Tryz.func114, Tryz.ntmps114
  go_wp2_with fail
  refine Hc.out.mono ?_
  rintro e w1 ⟨A1, c1, rfl, s1, b1⟩
  go_wp2_with fail
  go_ret
  exact ⟨by rw [← Hm.out]; rfl, b1⟩
theorem etInts : ET Tryz.prog 31 3 (.int .i64 0) 1 8 := ⟨Tryz.underlying31, by kernel_rfl, rfl, by decide⟩
def intsV (xs : List Nat) : List Value := xs.map fun x : Nat => .int .i64 (x : Int)
theorem reps_ints {w : World} {xs : List Nat} (h : ∀ x ∈ xs, x ≤ 1000000) : Reps Kd.int w (xs.map fun x : Nat => (x : Int)) (intsV xs) := by
  induction xs with
  | nil => rfl
  | cons x xs ih => exact ⟨[.int .i64 (x : Int)], intsV xs, rfl, ⟨rfl, by have := h x List.mem_cons_self; show R64 (x : Int); unfold R64; omega⟩, ih (fun y hy => h y (List.mem_cons_of_mem _ hy))⟩
theorem intsV_length (xs : List Nat) : (intsV xs).length = xs.length := by simp [intsV]
/-- What the loop of Starts holds. -/
def StJ (t : List Nd) (w : World) (A : Option Addr) (c : Nat) (F : Nat → Prop) (n L D base : Nat) (rd : Loop) (k : Nat) (W : World) : Prop :=
  W.heap[n + 2]? = some (.cells #[.slice A t.length c] 48 (0, 0)) ∧ Sl Kd.nd W F A c t ∧ (∃ v, W.heap[n + 1]? = some (.cells #[v] 31 (0, 0)) ∧ Row W n 1 v (k + 1) (intsV ((starts t).take (k + 1))) ∧ (∀ g, v.ownBlock = some g → g = n ∨ base ≤ g)) ∧ Rcd W L D rd ∧ Below w.heap.size w W ∧ base ≤ W.heap.size
theorem stJ_below {t : List Nd} {w : World} {A : Option Addr} {c : Nat} {F : Nat → Prop} {n L D base : Nat} {rd : Loop} {k : Nat} {W V : World} (h : StJ t w A c F n L D base rd k W) (hw : w.heap.size ≤ W.heap.size) (hb : Below W.heap.size W V) : StJ t w A c F n L D base rd k V := by
  obtain ⟨h1, h2, ⟨v, h3, h4, h8⟩, h5, h6, h7⟩ := h
  exact ⟨blk_below h1 hb (lt_of_block h1), h2.below hb, ⟨v, blk_below h3 hb (lt_of_block h3), h4.below hb, h8⟩, h5.below hb, below_then h6 hb hw, Nat.le_trans h7 hb.size⟩
theorem startsGo_at : ∀ (t : List Nd) (p k : Nat) (n : Nd), t[k]? = some n → ∃ x, ((p :: startsGo p t))[k]? = some x ∧ (p :: startsGo p t)[k + 1]? = some (x + (eput n).length) ∧ x ≤ p + 13 * k
  | [], p, k, n, h => by simp at h
  | m :: t, p, 0, n, h => by
    have : m = n := by simpa using h
    subst this
    exact ⟨p, rfl, by simp [startsGo], by omega⟩
  | m :: t, p, k + 1, n, h => by
    obtain ⟨x, h1, h2, h3⟩ := startsGo_at t (p + (eput m).length) k n (by simpa using h)
    refine ⟨x, by simpa [startsGo] using h1, by simpa [startsGo] using h2, ?_⟩
    have := eput_le m
    omega
theorem startsGo_len : ∀ (t : List Nd) (p : Nat), (startsGo p t).length = t.length
  | [], _ => rfl
  | m :: t, p => by simp [startsGo, startsGo_len t]
theorem startsGo_le : ∀ (t : List Nd) (p : Nat), ∀ y ∈ p :: startsGo p t, y ≤ p + 13 * t.length
  | [], p, y, h => by have : y = p := by simpa [startsGo] using h
                      omega
  | m :: t, p, y, h => by
    have hm := eput_le m
    rcases List.mem_cons.1 h with h | h
    · omega
    · have := startsGo_le t (p + (eput m).length) y h
      simp only [List.length_cons]
      omega
theorem Row.sl_ints {w : World} {F : Nat → Prop} {base n : Nat} {v : Value} {xs : List Nat} (h : Row w base 1 v n (intsV xs)) (hn : xs.length = n) (hb : ∀ x ∈ xs, x ≤ 1000000) (hF : ∀ g, v.ownBlock = some g → F g) :
    ∃ A c, v = .slice A n c ∧ Sl Kd.int w F A c (xs.map fun x : Nat => (x : Int)) := by
  rcases h.2 with ⟨rfl, rfl⟩ | ⟨g, cap, rfl, hb', hl, hn', hm, hc, hf⟩
  · have : xs = [] := List.eq_nil_of_length_eq_zero hn
    subst this
    exact ⟨none, 0, rfl, Sl.nil _ _ _⟩
  · refine ⟨_, cap, rfl, by simpa [hn] using hn', by simpa [maxLen] using hm, intsV xs, fun W hW => ⟨fun _ => ⟨_, _, rfl, fun j u hu => ?_⟩, reps_ints hb⟩⟩
    rw [Nat.zero_add, World.cell?_of_block (w := w) (hW g (hF g rfl) hl)]
    exact hc j u hu
theorem take_snocN {l : List Nat} {k x : Nat} (h : l[k]? = some x) : l.take (k + 1) = l.take k ++ [x] := by
  have hlt := (List.getElem?_eq_some_iff.1 h).1
  rw [List.take_succ_eq_append_getElem hlt, (List.getElem?_eq_some_iff.1 h).2]
set_option maxHeartbeats 4000000 in
theorem starts_calls (t : List Nd) (hS : AllS t) {A : Option Addr} {c : Nat} {F : Nat → Prop} {l : List Nat} (hl : starts t = l) (w : World) (ha : Sl Kd.nd w F A c t) :
    Calls Tryz.prog 113 #[.slice A t.length c] w fun e w' => ∃ A' c', e = .returned (.slice A' l.length c') ∧ Sl Kd.int w' (fun j => w.heap.size ≤ j) A' c' (l.map fun x : Nat => (x : Int)) ∧ Below w.heap.size w w' := by
  have HS := Au.mk hS
  have Ha := Au.mk ha
  have Hl := Au.mk hl
  obtain ⟨b, Hb⟩ := au (tmay t)
  have hle := ha.le
  clear hS ha hl
  refine (callsIn_wide (n := 0)).1 ?_
  refine callsIn_of_wp_marks Tryz.func113 rfl trivial (wpIn_wide.2 ?_) rfl
  simp only [Tryz.ntmps113, List.size_toArray, List.length_cons, List.length_nil, Nat.reduceAdd, Nat.reduceSub, Array.replicate_succ, Array.replicate_zero, List.push_toArray, List.append_toArray, List.nil_append, List.cons_append]
  go_wp2_with fail
  refine (tmay_calls t HS.out Hb.out _ Ha.out).mono ?_
  rintro e w1 ⟨rfl, b1⟩
  cases b
  · have hl0 : [] = l := by rw [← Hl.out]; unfold starts; rw [Hb.out]; rfl
    subst hl0
    go_wp2_with fail
    exact end_plain (v := .slice none 0 0) (by simp [results, Tryz.results113, go_sem]) ⟨none, 0, rfl, Sl.nil _ _ _, b1⟩
  · go_wp2_with fail
    refine (entries_calls _ _ _ _).mono ?_
    rintro e w' ⟨rfl, rfl⟩
    go_wp2_with fail
    have hs1 := b1.size
    have hb0 : Below w.heap.size w (((w1.alloc (.cells #[.int .i64 0] 3)).alloc (.cells #[.slice (some ⟨w1.heap.size, 0, none⟩) 1 1] 31)).alloc (.cells #[.slice A t.length c] 48)) := ((b1.alloc hs1 _).alloc (by simp; omega) _).alloc (by simp; omega) _
    have hM0 : (((w1.alloc (.cells #[.int .i64 0] 3)).alloc (.cells #[.slice (some ⟨w1.heap.size, 0, none⟩) 1 1] 31)).alloc (.cells #[.slice A t.length c] 48)).heap[w1.heap.size + 1]? = some (.cells #[.slice (some ⟨w1.heap.size, 0, none⟩) 1 1] 31 (0, 0)) ∧
        (((w1.alloc (.cells #[.int .i64 0] 3)).alloc (.cells #[.slice (some ⟨w1.heap.size, 0, none⟩) 1 1] 31)).alloc (.cells #[.slice A t.length c] 48)).heap[w1.heap.size + 2]? = some (.cells #[.slice A t.length c] 48 (0, 0)) := by
      have h3 := heap_alloc_new ((w1.alloc (.cells #[.int .i64 0] 3)).alloc (.cells #[.slice (some ⟨w1.heap.size, 0, none⟩) 1 1] 31)) (.cells #[.slice A t.length c] 48)
      have h2 := heap_alloc_new (w1.alloc (.cells #[.int .i64 0] 3)) (.cells #[.slice (some ⟨w1.heap.size, 0, none⟩) 1 1] 31)
      simp only [World.size_alloc] at h3 h2
      exact ⟨blk_alloc h2 _, h3⟩
    have hrow0 : Row (((w1.alloc (.cells #[.int .i64 0] 3)).alloc (.cells #[.slice (some ⟨w1.heap.size, 0, none⟩) 1 1] 31)).alloc (.cells #[.slice A t.length c] 48)) w1.heap.size 1 (.slice (some ⟨w1.heap.size, 0, none⟩) 1 1) 1 [.int .i64 0] := ((row_lit1 w1 w1.heap.size 3 (.int .i64 0) (Nat.le_refl _)).alloc _).alloc _
    have ha0 : Sl Kd.nd (((w1.alloc (.cells #[.int .i64 0] 3)).alloc (.cells #[.slice (some ⟨w1.heap.size, 0, none⟩) 1 1] 31)).alloc (.cells #[.slice A t.length c] 48)) (fun k => F k ∧ k < w.heap.size) A c t := (((Ha.out.old.below b1).alloc _).alloc _).alloc _
    generalize ((w1.alloc (.cells #[.int .i64 0] 3)).alloc (.cells #[.slice (some ⟨w1.heap.size, 0, none⟩) 1 1] 31)).alloc (.cells #[.slice A t.length c] 48) = W0 at hb0 hM0 hrow0 ha0 ⊢
    obtain ⟨n, Hn⟩ := au w1.heap.size
    rw [Hn.out] at hM0 hrow0 hs1 ⊢
    have hsz := lt_of_block hM0.2
    refine (wpIn_wide (n := 0)).1 ?_
    refine over_in rfl (enters_of Tryz.func85 (by kernel_rfl) rfl) ?_
    intro rd fn W1 Hrd hb1 hz1 hR
    have hst : starts t = 0 :: startsGo 0 t := by unfold starts; rw [Hb.out]; rfl
    have Hst := Au.mk hst
    have hJ0 : StJ t w A c (fun k => F k ∧ k < w.heap.size) n (W0.heap.size + 1) W0.heap.size W1.heap.size (rd .ready none) 0 W1 :=
      ⟨(hb1.block _ (by omega)).trans hM0.2, ha0.below hb1, ⟨_, (hb1.block _ (by omega)).trans hM0.1, by rw [hst]; exact (hrow0.below hb1 : Row W1 n 1 _ 1 (intsV [0])), fun g hg => .inl (by simpa [Value.ownBlock] using hg.symm)⟩, hR, below_then hb0 hb1 hb0.size, Nat.le_refl _⟩
    have Hz1 := Au.mk hz1
    clear hst
    refine (entries_walk (n := n + 2) t HS.out Hb.out (StJ t w A c (fun k => F k ∧ k < w.heap.size) n (W0.heap.size + 1) W0.heap.size W1.heap.size (rd .ready none)) (fun k W h => ⟨h.1, h.2.1⟩) (fun k W V h hb => stJ_below h (h.2.2.2.2.1).size hb) ?_ W1 hJ0).mono ?_
    · intro k nd Wz W A' c' hn hJz hbz hsl
      have hJ := stJ_below hJz hJz.2.2.2.2.1.size hbz
      obtain ⟨j1, j2, ⟨v, j3, j4, j8⟩, j5, j6, j7⟩ := hJ
      obtain ⟨x, hx1, hx2, hx3⟩ := startsGo_at t 0 k nd hn
      rw [← Hst.out] at hx1 hx2
      have hkl : k < t.length := (List.getElem?_eq_some_iff.1 hn).1
      have ht20 := tmay_len Hb.out
      have hel := eput_le nd
      have J5 := Au.mk j5
      refine over_round Hrd j5 rfl ?_
      have hltn := lt_of_block j3
      have hown : ∀ g, v.ownBlock = some g → g ≠ W0.heap.size + 1 := fun g hg => by rcases j8 g hg with h | h <;> omega
      have Jr := Au.mk (j5.turn (rd .busy none) (by omega : W0.heap.size ≠ W0.heap.size + 1))
      have Jb := Au.mk (below_putObj j6 (L := W0.heap.size + 1) (by omega) (by omega) (.loop (rd .busy none)))
      have Jt := Au.mk ((World.putObj_heap_other (w := W) (o := .loop (rd .busy none)) (by omega : n + 2 ≠ W0.heap.size + 1)).trans j1)
      have Jo := Au.mk ((World.putObj_heap_other (w := W) (o := .loop (rd .busy none)) (by omega : n + 1 ≠ W0.heap.size + 1)).trans j3)
      have Jd := Au.mk (j4.keep (W := W.putObj (W0.heap.size + 1) (.loop (rd .busy none))) (fun g hg => World.putObj_heap_other (hown g hg)) (by simp))
      have Ja := Au.mk (j2.keep (W := W.putObj (W0.heap.size + 1) (.loop (rd .busy none))) (fun k hk hlt => World.putObj_heap_other (by have := hk.2; omega)) (by simp))
      have Jz : Au (W1.heap.size ≤ (W.putObj (W0.heap.size + 1) (.loop (rd .busy none))).heap.size) := ⟨by simpa using j7⟩
      have J8 := Au.mk j8
      have Hnd := Au.mk hn
      have Hx := Au.mk (And.intro hx1 hx2)
      obtain ⟨g, cap, rfl, hg1, hg2, hg3, hg4⟩ := j4.head (Nat.succ_pos k)
      clear j1 j2 j3 j4 j5 j6 j7 j8 hsl hbz hn hJ0 hR hx1 hx2 hJz hown
      gi_wp2_with fail
      refine ⟨J5.out, ?_⟩
      generalize W.putObj (W0.heap.size + 1) (.loop (rd .busy none)) = Wb at Jr Jb Jt Jo Jd Ja Jz ⊢
      obtain ⟨le, Hle⟩ := au (eput nd).length
      rw [Hle.out] at hel ⊢
      obtain ⟨m, Hmk⟩ := au (k + 1)
      rw [Hmk.out] at Jo Jd
      have hkm : k < m := by have := Hmk.out; omega
      have hm20 : m ≤ 21 := by have := Hmk.out; omega
      have c1 := cell_of_one Jo.out
      have c2 : Wb.cell? ⟨g, k, none⟩ = some (.int .i64 (x : Int)) := (Jd.out.cell (by rw [intsV, List.getElem?_map, List.getElem?_take_of_lt (by omega), Hx.out.1]; rfl)).1
      have hxb : (x : Int) ≤ 1000 := by omega
      have hlb : (le : Int) ≤ 13 := by omega
      have hwx : IntKind.i64.wrap ((x : Int) + le) = (x : Int) + le := by rw [IntKind.wrap_i64]; omega
      have hmx : Tryz.prog.follows .mixedOrders = true := by kernel_rfl
      gi_wp2_with fail
      refine round_ops (fun w' => w'.cell? ⟨n + 1, 0, none⟩ = some (.slice (some ⟨g, 0, none⟩) m cap) ∧ w'.cell? ⟨g, k, none⟩ = some (.int .i64 (x : Int))) [true, true, true, true, true, true, true, true, false] hmx (by decide) (by kernel_rfl) (by kernel_rfl) ⟨c1, c2⟩ ?_
      simp only [opsL]
      iterate 8
        refine ⟨?_, Or.inl ⟨by rfl, fun w' hw' => ?_⟩, ?_⟩
        rotate_left 1
        · obtain ⟨hc1, hc2⟩ := hw'
          go_simp
          all_goals (with_reducible rfl)
        try simp only [Act.put, List.setIfInBounds_toArray, List.set_cons_zero, List.set_cons_succ]
      refine ⟨by rfl, ?_⟩
      go_simp
      refine ⟨⟨cell_alloc c1 _, cell_alloc c2 _⟩, ?_⟩
      have hbe : Below Wb.heap.size Wb (Wb.alloc (.cells #[.int .i64 ((x : Int) + le)] 3)).drew := below_drewN ((Below.refl _ _).alloc (Nat.le_refl _) _) 1
      have hlit : Cells (Wb.alloc (.cells #[.int .i64 ((x : Int) + le)] 3)).drew (some ⟨Wb.heap.size, 0, none⟩) [.int .i64 ((x : Int) + le)] := cells_new1 _ _ _
      have hz3 : (Wb.alloc (.cells #[.int .i64 ((x : Int) + le)] 3)).drew.heap.size = Wb.heap.size + 1 := by simp [World.drew]
      generalize (Wb.alloc (.cells #[.int .i64 ((x : Int) + le)] 3)).drew = W3 at hbe hlit hz3 ⊢
      have K5 := Au.mk (Jr.out.below hbe)
      have Kb := Au.mk (below_then Jb.out hbe (by have := Jz.out; have := hb0.size; omega))
      have Kt := Au.mk (blk_below Jt.out hbe (lt_of_block Jt.out))
      have Ko := Au.mk (blk_below Jo.out hbe (lt_of_block Jo.out))
      have Kd3 := Au.mk (Jd.out.below hbe)
      have Ka := Au.mk (Ja.out.below hbe)
      have Kz : Au (W1.heap.size ≤ W3.heap.size) := ⟨by have := Jz.out; omega⟩
      have Kl := Au.mk hlit
      have Kg : Au (∀ W5, W3.grownBy W5 (some g) → W5.heap[n + 1]? = some (.cells #[.slice (some ⟨g, 0, none⟩) m cap] 31 (0, 0))) := ⟨fun W5 hg5 => (hg5.block _ (lt_of_block Ko.out) (by rcases J8.out g rfl with h | h <;> simp <;> omega)).trans Ko.out⟩
      clear hbe hlit hz3 Jr Jb Jt Jo Jd Ja Jz c1 c2
      go_wp2_with (at_builtin; refine wpList_append_row _ rfl etInts _ _ rfl rfl Kd3.out rfl Kl.out rfl (by simp [Value.oneCell']) (by simp only [maxLen]; omega) (by omega) (by have := Kz.out; omega) ?_; intro v' W5 hr5 hg5 ho5; obtain ⟨A5, c5, rfl, -⟩ := hr5.form; have Hr5 := Au.mk hr5; have Hg5 := Au.mk hg5; have Ho5 := Au.mk ho5; clear hr5 hg5 ho5; have c3 := cell_of_one (Kg.out W5 Hg5.out); have c4 := free_of_one (Kg.out W5 Hg5.out))
      simp only [Calm]
      have hz1 := Hz1.out
      have hJz := Kz.out
      have hg5 : W3.grownBy W5 (some g) := Hg5.out
      have hgn := J8.out g rfl
      have o5 := Kg.out W5 hg5
      have ho5 : ∀ g', (Value.slice A5 (m + 1) c5).ownBlock = some g' → g' = n ∨ W1.heap.size ≤ g' := fun g' hg' => by
        rcases Ho5.out with h | h
        · rw [h] at hg'; exact J8.out g' hg'
        · have := h g' hg'; omega
      have t5 : W5.heap[n + 2]? = _ := (hg5.block _ (lt_of_block Kt.out) (by rcases hgn with h | h <;> simp <;> omega)).trans Kt.out
      have hsz := hsz
      have r5 : Rcd W5 (W0.heap.size + 1) W0.heap.size (rd .busy none) := ⟨(hg5.block _ (lt_of_block K5.out.lp) (by rcases hgn with h | h <;> simp <;> omega)).trans K5.out.lp, (hg5.block _ (lt_of_block K5.out.dl) (by rcases hgn with h | h <;> simp <;> omega)).trans K5.out.dl⟩
      have hw5 : w.heap.size ≤ W1.heap.size := by have := hb0.size; omega
      have b5 : Below w.heap.size w W5 := Kb.out.grown hg5 (by omega) (fun k hk => by have : k = g := (by simpa using hk.symm); rcases hgn with h | h <;> omega)
      have a5 : Sl Kd.nd W5 (fun k => F k ∧ k < w.heap.size) A c t := Ka.out.keep (fun k hk hlt => hg5.block k hlt (fun e => by have : k = g := (by simpa using e); have := hk.2; rcases hgn with h | h <;> omega)) hg5.size
      have z5' : W1.heap.size ≤ W5.heap.size := Nat.le_trans hJz hg5.size
      have hv5 : (Value.slice A5 (m + 1) c5).ownBlock ≠ some (n + 1) := fun h => by rcases ho5 _ h with h | h <;> omega
      have hv6 : (Value.slice A5 (m + 1) c5).ownBlock ≠ some (W0.heap.size + 1) := fun h => by rcases ho5 _ h with h | h <;> omega
      have r6 := r5.set (p := ⟨n + 1, 0, none⟩) (.slice A5 (m + 1) c5) (by simp; omega) (by simp; omega)
      have b6 := b5.setCell (p := ⟨n + 1, 0, none⟩) (by simp; omega) (.slice A5 (m + 1) c5)
      have o6 : (W5.setCell ⟨n + 1, 0, none⟩ (.slice A5 (m + 1) c5)).heap[n + 1]? = some (.cells #[.slice A5 (m + 1) c5] 31 (0, 0)) := one_setCell o5
      have t6 := (Below.heap_setCell W5 ⟨n + 1, 0, none⟩ (.slice A5 (m + 1) c5) (n + 2) (by simp)).trans t5
      have d6 := Hr5.out.set (p := ⟨n + 1, 0, none⟩) (.slice A5 (m + 1) c5) hv5
      have a6 := a5.set (p := ⟨n + 1, 0, none⟩) (.slice A5 (m + 1) c5) (fun h => by have := h.2; simp at this; omega)
      have s6 : W1.heap.size ≤ (W5.setCell ⟨n + 1, 0, none⟩ (.slice A5 (m + 1) c5)).heap.size := by simpa [World.setCell] using z5'
      have hx1 := Hx.out.1
      have hx2 := Hx.out.2
      have hmk := Hmk.out
      have Hmk2 : Au (k + 1 + 1 = m + 1) := ⟨by rw [hmk]⟩
      have hint : intsV ((starts t).take (m + 1)) = intsV ((starts t).take m) ++ [.int .i64 ((x : Int) + le)] := by
        rw [← hmk, take_snocN hx2, intsV, List.map_append, ← Hle.out]; simp [intsV]
      have Hint := Au.mk hint
      clear hint hmk hx1 hx2 Hr5 c3 c4 t5 r5 b5 a5 o5 Hg5 Ho5
      generalize W5.setCell ⟨n + 1, 0, none⟩ (.slice A5 (m + 1) c5) = W6 at r6 b6 o6 t6 d6 a6 s6 ⊢
      gi_wp2_with fail
      rw [← hz1]
      refine ⟨r6, rfl, (World.putObj_heap_other (by omega)).trans t6, a6.keep (fun k hk hlt => World.putObj_heap_other (by have := hk.2; omega)) (by simp), ⟨.slice A5 (m + 1) c5, (World.putObj_heap_other (by omega)).trans o6, ?_, ho5⟩, r6.turn _ (by omega), below_putObj b6 (by omega) (by omega) _, by simpa using s6⟩
      rw [Hmk2.out, Hint.out]
      exact d6.keep (fun g hg => World.putObj_heap_other (fun e => hv6 (by rw [hg, e]))) (by simp)
    · rintro e W' ⟨hv, h1, h2, ⟨v, h3, h4, h8⟩, h5, h6, h7⟩
      refine ⟨hv, .inl ⟨h5, ?_⟩⟩
      have b2 := below_putObj h6 (L := W0.heap.size + 1) (by omega) (by omega) (.loop (rd .exhausted none))
      have D2 := Au.mk (h5.deferred (by omega) (.loop (rd .exhausted none)))
      have hown : ∀ g, v.ownBlock = some g → g ≠ W0.heap.size + 1 := fun g hg => by rcases h8 g hg with h | h <;> omega
      have O2 := (World.putObj_heap_other (w := W') (o := .loop (rd .exhausted none)) (by omega : n + 1 ≠ W0.heap.size + 1)).trans h3
      have R2 := Au.mk (h4.keep (W := W'.putObj (W0.heap.size + 1) (.loop (rd .exhausted none))) (fun g hg => World.putObj_heap_other (hown g hg)) (by simp))
      have Hb2 := Au.mk b2
      have q1 := cell_of_one O2
      have H8 := Au.mk h8
      have hlen : (starts t).length = t.length + 1 := by rw [Hst.out, List.length_cons, startsGo_len]
      have hl2 : l.length = t.length + 1 := by rw [← Hl.out, hlen]
      have ht20 := tmay_len Hb.out
      have hbig : ∀ y ∈ l, y ≤ 1000000 := fun y hy => by
        rw [← Hl.out, Hst.out] at hy
        have := startsGo_le t 0 y hy
        omega
      have htk : (starts t).take (t.length + 1) = l := by rw [Hl.out, List.take_of_length_le (by omega)]
      rw [htk] at R2
      obtain ⟨A2, c2, rfl, hsl2⟩ := R2.out.sl_ints (F := fun k => w.heap.size ≤ k ∧ k ≠ W0.heap.size) hl2 hbig (fun g hg => by have := hb0.size; rcases h8 g hg with h | h <;> omega)
      have S2 := Au.mk hsl2
      have hl3 : Au (t.length + 1 = l.length) := ⟨hl2.symm⟩
      rw [hl3.out] at q1
      have hzW0 := Au.mk hb0.size
      have hzW2 : Au (W0.heap.size ≤ (W'.putObj (W0.heap.size + 1) (.loop (rd .exhausted none))).heap.size) := ⟨by have := lt_of_block h5.dl; simp; omega⟩
      clear b2 O2 h1 h2 h3 h4 h5 h6 h7 h8 hown hsl2 hlen hl2 hbig htk R2 H8 hJ0 hR hb0 hz1 hb1 hM0 hv ha0 hrow0
      generalize W'.putObj (W0.heap.size + 1) (.loop (rd .exhausted none)) = W2 at *
      go_wp2_with fail
      refine end_marks (v := .slice A2 l.length c2) D2.out (by simp [results, Tryz.results113, go_sem]) ⟨A2, c2, rfl, ?_, below_putObj Hb2.out hzW0.out (Nat.le_trans hzW0.out hzW2.out) _⟩
      exact (S2.out.keep (fun k hk _ => World.putObj_heap_other hk.2) (by simp)).mono fun k hk => hk.1
end Go.Proofs.YtldhcknjpmbgnaaGreatDoor.Rk

namespace Go.Proofs.YtldhcknjpmbgnaaGreatDoor.Rk
open Go.RowKit Go.Shelf
set_option linter.unusedVariables false
set_option linter.unusedSimpArgs false
set_option maxRecDepth 100000

theorem Sl.int_at {w : World} {F : Nat → Prop} {A : Option Addr} {c : Nat} {xs : List Nat} (h : Sl Kd.int w F A c (xs.map fun x : Nat => (x : Int))) {k x : Nat} (hn : xs[k]? = some x) :
    ∃ b o, A = some ⟨b, o, none⟩ ∧ w.cell? ⟨b, o + k, none⟩ = some (.int .i64 (x : Int)) := by
  obtain ⟨vs, hc, hr⟩ := h.now
  obtain ⟨he, _⟩ := hr.at_ (x := (x : Int)) k (by simp [hn])
  have hsz : Kd.int.sz = 1 := rfl
  rw [hsz, Nat.mul_one] at he
  refine hc.at_ ?_
  have := congrArg (fun l => l[0]?) he
  simpa using this
theorem where1_calls (x i : Int) {r : Bool} (hr : decide (i < x) = r) {p : Addr} (w : World) (hc : w.cell? p = some (.int .i64 i)) : Calls Tryz.prog 116 #[.int .i64 x, .pointer (some p)] w fun e w' => e = .returned (.bool r) ∧ w = w' := by
  go_enter Tryz.func116, Tryz.ntmps116
  go_wp2_with fail
  go_ret
  exact ⟨rfl, rfl⟩
/-- The first that lies behind i. -/
def idxOf (i : Int) (xs : List Nat) : Int := match xs.findIdx? (fun at' : Nat => decide (i < (at' : Int))) with | some j => (j : Int) | none => -1
theorem idxOf_none {i : Int} {xs : List Nat} (h : ∀ x ∈ xs, ¬ i < (x : Int)) : idxOf i xs = -1 := by
  unfold idxOf
  rw [List.findIdx?_eq_none_iff.2 (fun x hx => by simpa using h x hx)]
theorem idxOf_some {i : Int} {xs : List Nat} {k x : Nat} (hk : xs[k]? = some x) (hx : i < (x : Int)) (h : ∀ y ∈ xs.take k, ¬ i < (y : Int)) : idxOf i xs = (k : Int) := by
  unfold idxOf
  obtain ⟨hlt, he⟩ := List.getElem?_eq_some_iff.1 hk
  have : xs.findIdx? (fun at' : Nat => decide (i < (at' : Int))) = some k := by
    rw [List.findIdx?_eq_some_iff_getElem]
    refine ⟨hlt, by simpa [he] using hx, fun j hj => ?_⟩
    have hm : xs[j] ∈ xs.take k := by
      rw [List.mem_take_iff_getElem]
      exact ⟨j, by omega, rfl⟩
    simpa using h _ hm
  rw [this]
theorem indexInts_calls (xs : List Nat) {n : Nat} (hn : xs.length = n) (i : Int) {r : Int} (hr : idxOf i xs = r) {A : Option Addr} {c : Nat} {F : Nat → Prop} {p : Addr} (w : World) (ha : Sl Kd.int w F A c (xs.map fun x : Nat => (x : Int))) (hc : w.cell? p = some (.int .i64 i)) :
    Calls Tryz.prog 115 #[.slice A n c, .func (.func 116) #[] #[.pointer (some p)]] w fun e w' => e = .returned (.int .i64 r) ∧ w = w' := by
  subst hn
  have Hr := Au.mk hr
  have Hc := Au.mk hc
  have hle := ha.le
  rw [List.length_map] at hle
  clear hr hc
  go_enter Tryz.func115, Tryz.ntmps115
  go_wp2_with fail
  go_loop [8] (fun j => ∃ k : Nat, k ≤ xs.length ∧ j = .int .i64 k ∧ Au (∀ y ∈ xs.take k, ¬ i < (y : Int))) (fun j => xs.length - (intOf j).toNat)
  case atStart => exact ⟨0, Nat.zero_le _, rfl, ⟨fun y hy => by simp at hy⟩⟩
  case round =>
    obtain ⟨k, hk, rfl, H0⟩ := hrel
    by_cases hlt : k < xs.length
    · obtain ⟨x, hx⟩ : ∃ x, xs[k]? = some x := ⟨_, List.getElem?_eq_getElem hlt⟩
      obtain ⟨b, o, rfl, ck⟩ := ha.int_at hx
      have Hx := Au.mk hx
      clear hx
      obtain ⟨d, Hd⟩ := au (decide (i < (x : Int)))
      cases d
      · go_wp2_with (go_at_call 116; refine (where1_calls _ _ Hd.out _ Hc.out).mono ?_; rintro e w' ⟨rfl, rfl⟩)
        go_round
        case rel =>
          refine ⟨k + 1, by omega, by go_num, ⟨fun y hy => ?_⟩⟩
          rw [take_snocN Hx.out] at hy
          rcases List.mem_append.1 hy with hy | hy
          · have := H0.out y hy; omega
          · rw [List.mem_singleton.1 hy]; exact of_decide_eq_false Hd.out
        case measure => simp [intOf]; omega
      · have hr2 : r = (k : Int) := by rw [← Hr.out]; exact idxOf_some Hx.out (of_decide_eq_true Hd.out) H0.out
        subst hr2
        go_wp2_with (go_at_call 116; refine (where1_calls _ _ Hd.out _ Hc.out).mono ?_; rintro e w' ⟨rfl, rfl⟩)
        go_ret
        exact ⟨rfl, rfl⟩
    · have hr2 : r = -1 := by
        have := H0.out
        rw [show k = xs.length by omega, List.take_length] at this
        rw [← Hr.out, idxOf_none this]
      subst hr2
      go_wp2_with fail
      go_ret
      exact ⟨rfl, rfl⟩
theorem whereB_out {t : List Nd} {i : Int} (h : i < 0 ∨ ((sall t).length : Int) ≤ i) : whereB t i = (-1, -1) := by unfold whereB; rw [if_pos h]
theorem whereB_neg {t : List Nd} {i : Int} (h : ¬ (i < 0 ∨ ((sall t).length : Int) ≤ i)) (hk : idxOf i (starts t) - 1 < 0) : whereB t i = ((t.length : Int), -1) := by
  unfold whereB; rw [if_neg h]; exact if_pos hk
theorem whereB_pos {t : List Nd} {i : Int} (h : ¬ (i < 0 ∨ ((sall t).length : Int) ≤ i)) {k : Nat} (hk : idxOf i (starts t) - 1 = k) {n : Nd} (hn : t[k]? = some n) {x : Nat} (hx : (starts t)[k + 1]? = some x) : whereB t i = ((k : Int), max (-1) (i - x + edata n)) := by
  unfold whereB; rw [if_neg h]
  show (if idxOf i (starts t) - 1 < 0 then ((t.length : Int), (-1 : Int)) else match t[(idxOf i (starts t) - 1).toNat]? with
    | some n => (idxOf i (starts t) - 1, max (-1) (i - ((starts t).getD ((idxOf i (starts t) - 1).toNat + 1) 0 : Nat) + (edata n : Nat)))
    | none => (idxOf i (starts t) - 1, -1)) = _
  rw [hk, if_neg (by omega), Int.toNat_natCast, hn]
  simp only [List.getD, hx, Option.getD_some]
theorem idxOf_le (i : Int) (xs : List Nat) : -1 ≤ idxOf i xs ∧ idxOf i xs < xs.length ∨ idxOf i xs = -1 := by
  unfold idxOf
  cases h : xs.findIdx? (fun at' : Nat => decide (i < (at' : Int))) with
  | none => exact .inr rfl
  | some j =>
    have := (List.findIdx?_eq_some_iff_getElem.1 h).1
    exact .inl ⟨by simp, by simpa using this⟩
set_option maxHeartbeats 4000000 in
theorem where_calls (t : List Nd) (hS : AllS t) (i : Int) (hi : R64 i) {r : Int × Int} (hr : whereB t i = r) {A : Option Addr} {c : Nat} {F : Nat → Prop} (w : World) (ha : Sl Kd.nd w F A c t) :
    Calls Tryz.prog 69 #[.slice A t.length c, .int .i64 i] w fun e w' => e = .returned (.tuple #[.int .i64 r.1, .int .i64 r.2]) ∧ Below w.heap.size w w' := by
  have HS := Au.mk hS
  have Ha := Au.mk ha
  have Hr := Au.mk hr
  have hle := ha.le
  obtain ⟨l, Hl⟩ := au (starts t)
  obtain ⟨m, Hm⟩ := au (sall t).length
  clear hS ha hr
  obtain ⟨B0, b0⟩ : Au ((w.alloc (.cells #[.int .i64 i] 3)).heap[w.heap.size]? = some (.cells #[.int .i64 i] 3 (0, 0))) ∧ Below w.heap.size w (w.alloc (.cells #[.int .i64 i] 3)) := ⟨⟨heap_alloc_new w _⟩, (Below.refl w.heap.size w).alloc (Nat.le_refl _) _⟩
  have a0 := Au.mk (Ha.out.old.alloc (.cells #[.int .i64 i] 3))
  have hB0 := Au.mk (lt_of_block B0.out)
  have q0 := cell_of_one B0.out
  go_enter Tryz.func69, Tryz.ntmps69
  go_wp2_with (go_at_call 113; refine (starts_calls t HS.out Hl.out _ a0.out).mono ?_; rintro e w1 ⟨A1, c1, rfl, s1, b1⟩; have B1 := Au.mk (blk_below B0.out b1 hB0.out); have S1 := Au.mk s1; have a1 := Au.mk (a0.out.below b1); have hb1 := below_then b0 b1 b0.size; have q1 := cell_of_one B1.out; clear s1)
  have hmx : Tryz.prog.follows .mixedOrders = true := by kernel_rfl
  obtain ⟨d, Hd⟩ := au (decide (i < 0))
  cases d
  · have hd := Hd.out
    refine region_ops (fun w' => w'.cell? ⟨w.heap.size, 0, none⟩ = some (.int .i64 i)) [true, true, true, true, true, false] hmx (by decide) (by kernel_rfl) q1 ?_
    simp only [opsL]
    iterate 5
      refine ⟨?_, Or.inl ⟨by rfl, fun w' hw' => ?_⟩, ?_⟩
      rotate_left 1
      · go_simp
        all_goals (with_reducible rfl)
      try simp only [Act.put, List.setIfInBounds_toArray, List.set_cons_zero, List.set_cons_succ]
    refine ⟨by rfl, ?_⟩
    go_simp
    refine (smany_calls t HS.out Hm.out _ (a1.out.drewN 1)).mono ?_
    rintro e w2 ⟨rfl, b2⟩
    have hb2 := below_then (below_drewN hb1 1) b2 hb1.size
    have B2 := Au.mk (blk_below (w := w1.drew) B1.out b2 (lt_of_block B1.out))
    have q2 := cell_of_one B2.out
    have a2 := Au.mk ((a1.out.drewN 1).below b2)
    have S2 := Au.mk ((S1.out.drewN 1).below b2)
    refine ⟨q2, ?_⟩
    clear b2 q1 q0 b1
    obtain ⟨f, Hf⟩ := au (decide ((m : Int) ≤ i))
    have hf := Hf.out
    cases f
    · go_wp2_with fail
      simp only [Calm]
      have him : i < (m : Int) := Int.not_le.1 (of_decide_eq_false hf)
      have hi0 : ¬ i < 0 := of_decide_eq_false hd
      have Hin : Au (¬ (i < 0 ∨ ((sall t).length : Int) ≤ i)) := ⟨by rw [Hm.out]; omega⟩
      have Htm : Au (tmay t = true) := ⟨by
        cases h : tmay t with
        | true => rfl
        | false =>
          have : sall t = [] := by unfold sall; rw [h]; rfl
          rw [← Hm.out, this] at him
          simp at him
          omega⟩
      have ht20 := tmay_len Htm.out
      have hl1 : Au (l.length = t.length + 1) := ⟨by rw [← Hl.out]; unfold starts; rw [Htm.out]; simp [startsGo_len]⟩
      obtain ⟨k, Hk⟩ := au (idxOf i l)
      obtain ⟨ll, Hll⟩ := au l.length
      rw [Hll.out]
      obtain ⟨g, Hg⟩ := au (decide (k - 1 < 0))
      have hg := Hg.out
      have hkr : Au (-1 ≤ k ∧ k ≤ t.length) := ⟨by
        have h1 := idxOf_le i l
        rw [Hk.out, hl1.out] at h1
        omega⟩
      cases g
      · have hgk : ¬ (k - 1 < 0) := of_decide_eq_false hg
        obtain ⟨kk, hkk⟩ : ∃ kk : Nat, k - 1 = (kk : Int) := ⟨(k - 1).toNat, by omega⟩
        have hkt : kk < t.length := by have := hkr.out; omega
        obtain ⟨n, hn⟩ : ∃ n, t[kk]? = some n := ⟨_, List.getElem?_eq_getElem hkt⟩
        obtain ⟨x, hx⟩ : ∃ x, l[kk + 1]? = some x := ⟨_, List.getElem?_eq_getElem (by rw [hl1.out]; omega)⟩
        have hr2 : Au (r = ((kk : Int), max (-1) (i - x + edata n))) := ⟨by rw [← Hr.out]; exact whereB_pos Hin.out (by rw [Hl.out, Hk.out]; exact hkk) hn (by rw [Hl.out]; exact hx)⟩
        obtain ⟨hnR, b, o, rfl, f0, f1, f2, f3, f4, f5, f6, f7⟩ := a2.out.nd_at hn
        obtain ⟨k1, Hk1⟩ := au (kk + 1)
        rw [Hk1.out] at hx
        obtain ⟨b', o', rfl, f8⟩ := S2.out.int_at hx
        have hxb : x ≤ 1000 := by
          have h1 := startsGo_le t 0 x (by have h2 : starts t = 0 :: startsGo 0 t := (by unfold starts; rw [Htm.out]; rfl); rw [← h2, Hl.out]; exact List.mem_of_getElem? hx)
          omega
        have hib : i ≤ 1000 := by
          have := (sall_len Htm.out).2
          rw [Hm.out] at this
          omega
        have HnS := Au.mk (HS.out n (List.mem_of_getElem? hn))
        obtain ⟨ed, Hed⟩ := au (edata n)
        rw [Hed.out] at hr2
        have hedb : ed ≤ 1000 := by
          have := HnS.out.2.2
          rw [← Hed.out]; unfold edata manyB; split <;> (try split) <;> omega
        have hw1 : IntKind.i64.wrap (k - 1) = (kk : Int) := by rw [hkk, IntKind.wrap_i64]; omega
        have hw2 : IntKind.i64.wrap ((kk : Int) + 1) = (k1 : Int) := by rw [← Hk1.out, IntKind.wrap_i64]; omega
        have hw3 : IntKind.i64.wrap (i - x) = i - x := by rw [IntKind.wrap_i64]; omega
        have hw4 : IntKind.i64.wrap (i - x + ed) = i - x + ed := by rw [IntKind.wrap_i64]; omega
        have hg2 : decide ((kk : Int) < 0) = false := by simp
        have hkt2 : k1 < ll := by rw [← Hk1.out, ← Hll.out, hl1.out]; omega
        have hll : ll ≤ 21 := by rw [← Hll.out, hl1.out]; omega
        have hhx := Au.mk hx
        have hhn := Au.mk hn
        clear hx hn hkk hgk him hi0 hg hkr Hk1
        go_wp2_with (go_at_call 115; refine (indexInts_calls l Hll.out i Hk.out _ S2.out q2).mono ?_; rintro e w3 ⟨rfl, rfl⟩)
        refine region_ops (fun w' => w'.cell? ⟨w.heap.size, 0, none⟩ = some (.int .i64 i) ∧ w'.cell? ⟨b', o' + k1, none⟩ = some (.int .i64 (x : Int)) ∧ w'.cell? ⟨b, o + kk * 8, none⟩ = some (.string (ofL n.path)) ∧ w'.cell? ⟨b, o + kk * 8 + 1, none⟩ = some (.string (ofL n.link)) ∧ w'.cell? ⟨b, o + kk * 8 + 2, none⟩ = some (.int .u8 n.kind.toNat) ∧
          w'.cell? ⟨b, o + kk * 8 + 3, none⟩ = some (.int .i64 n.mode) ∧ w'.cell? ⟨b, o + kk * 8 + 4, none⟩ = some (.int .i64 n.uid) ∧ w'.cell? ⟨b, o + kk * 8 + 5, none⟩ = some (.int .i64 n.gid) ∧ w'.cell? ⟨b, o + kk * 8 + 6, none⟩ = some (.int .i64 n.mtime) ∧ w'.cell? ⟨b, o + kk * 8 + 7, none⟩ = some (.string (ofL n.data))) [true, true, true, true, true, true, true, true, true, true, true, true, false, true, true, true, true] hmx (by decide) (by kernel_rfl) ⟨q2, f8, f0, f1, f2, f3, f4, f5, f6, f7⟩ ?_
        simp only [opsL]
        iterate 12
          refine ⟨?_, Or.inl ⟨by rfl, fun w' hw' => ?_⟩, ?_⟩
          rotate_left 1
          · obtain ⟨g0, g1, g2, g3, g4, g5, g6, g7, g8, g9⟩ := hw'
            go_simp
            all_goals (with_reducible rfl)
          try simp only [Act.put, List.setIfInBounds_toArray, List.set_cons_zero, List.set_cons_succ]
        refine ⟨by rfl, ?_⟩
        go_simp
        refine (edata_calls n HnS.out _).mono ?_
        rintro e w3 ⟨rfl, b3⟩
        rw [Hed.out]
        have k0 := cell_below (w := w2.drew) q2 b3
        refine ⟨⟨k0, cell_below (w := w2.drew) f8 b3, cell_below (w := w2.drew) f0 b3, cell_below (w := w2.drew) f1 b3, cell_below (w := w2.drew) f2 b3, cell_below (w := w2.drew) f3 b3, cell_below (w := w2.drew) f4 b3, cell_below (w := w2.drew) f5 b3, cell_below (w := w2.drew) f6 b3, cell_below (w := w2.drew) f7 b3⟩, ?_⟩
        have hb3 := below_then (below_drewN hb2 1) b3 hb2.size
        clear q2 f0 f1 f2 f3 f4 f5 f6 f7 f8 b3 k0
        try simp only [Act.put, List.setIfInBounds_toArray, List.set_cons_zero, List.set_cons_succ]
        refine ⟨?_, Or.inl ⟨by rfl, fun w' hw' => ?_⟩, ?_⟩
        rotate_left 1
        · clear hw'
          go_simp
          all_goals (with_reducible rfl)
        try simp only [Act.put, List.setIfInBounds_toArray, List.set_cons_zero, List.set_cons_succ]
        refine ⟨?_, Or.inl ⟨by rfl, fun w' hw' => ?_⟩, ?_⟩
        rotate_left 1
        · clear hw'
          go_simp
          all_goals (with_reducible rfl)
        iterate 2
          refine ⟨?_, Or.inl ⟨by rfl, fun w' hw' => ?_⟩, ?_⟩
          rotate_left 1
          · clear hw'
            go_simp
            all_goals (with_reducible rfl)
          try simp only [Act.put, List.setIfInBounds_toArray, List.set_cons_zero, List.set_cons_succ]
        go_wp2_with fail
        simp only [Calm]
        go_wp2_with fail
        go_ret2
        refine ⟨?_, hb3⟩
        rw [hr2.out]
        rfl
      · have hw1 : IntKind.i64.wrap (k - 1) = k - 1 := by have := hkr.out; rw [IntKind.wrap_i64]; omega
        go_wp2_with (go_at_call 115; refine (indexInts_calls l Hll.out i Hk.out _ S2.out q2).mono ?_; rintro e w3 ⟨rfl, rfl⟩)
        go_ret2
        refine ⟨?_, hb2⟩
        rw [← Hr.out, whereB_neg Hin.out (by rw [Hl.out, Hk.out]; exact of_decide_eq_true hg)]
        rfl
    · go_wp2_with fail
      simp only [Calm]
      go_wp2_with fail
      go_ret2
      refine ⟨?_, hb2⟩
      rw [← Hr.out, whereB_out (.inr (by rw [Hm.out]; exact of_decide_eq_true hf))]
      rfl
  · have hd := Hd.out
    go_quiet (fail)
    go_wp2_with fail
    go_ret2
    refine ⟨?_, by first | exact hb1 | exact below_drewN hb1 _⟩
    rw [← Hr.out, whereB_out (.inl (of_decide_eq_true hd))]
    rfl
end Go.Proofs.YtldhcknjpmbgnaaGreatDoor.Rk
