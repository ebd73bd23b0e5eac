/- Gathering, reading; StripBack, walked. -/
import Derived.Test.YtldhcknjpmbgnaaGreatDoorPpL
import Derived.Test.YtldhcknjpmbgnaaGreatDoorStrpS
import Derived.Test.YtldhcknjpmbgnaaGreatDoorCkB
import Derived.Test.YtldhcknjpmbgnaaGreatDoorVMis
import Derived.Laws.CopyRow
import Derived.Laws.CopyOwn
import Derived.WalkMore
import Derived.Test.YtldhcknjpmbgnaaGreatDoorStpW
import Derived.Deep.DeepCutAuto
namespace Go.Proofs.YtldhcknjpmbgnaaGreatDoor.Rk
open Go.RowKit Go.Shelf
set_option linter.unusedVariables false
set_option linter.unusedSimpArgs false
set_option maxRecDepth 100000

theorem etNds8 : ET Tryz.prog 48 23 (.agg #[.string ⟨#[]⟩, .string ⟨#[]⟩, .int .u8 0, .int .i64 0, .int .i64 0, .int .i64 0, .int .i64 0, .string ⟨#[]⟩]) 8 88 := ⟨Tryz.underlying48, by kernel_rfl, rfl, by decide⟩
theorem reps_nds {w W : World} : ∀ {xs : List Nd} {vs : List Value}, Reps Kd.nd w xs vs → Reps Kd.nd W xs vs
  | [], _, h => h
  | _ :: _, _, ⟨c, r, e, hc, hr⟩ => ⟨c, r, e, hc, reps_nds hr⟩
theorem Sl.els_nd {w : World} {F : Nat → Prop} {A : Option Addr} {c : Nat} {l : List Nd} (h : Sl Kd.nd w F A c l) : Els Kd.nd w (fun _ => False) A l := by
  obtain ⟨vs, h1, h2⟩ := h.now
  exact ⟨vs, h1, fun W _ => reps_nds h2⟩
/-- The last node's bytes, in its row. -/
theorem reps_lastD {w W : World} {n y : Nd} (hy : y = { n with data := y.data }) (hR : y.R) : ∀ {l : List Nd} {vs : List Value}, Reps Kd.nd w (l ++ [n]) vs →
    vs[l.length * 8 + 7]? = some (.string (ofL n.data)) ∧ Reps Kd.nd W (l ++ [y]) (vs.set (l.length * 8 + 7) (.string (ofL y.data)))
  | [], vs, h => by
    obtain ⟨c, r, rfl, ⟨rfl, hc⟩, hr⟩ := h
    have hr : r = [] := hr
    subst hr
    refine ⟨rfl, y.cells, [], ?_, ⟨rfl, hR⟩, rfl⟩
    rw [hy]; rfl
  | x :: l, vs, h => by
    obtain ⟨c, r, rfl, ⟨rfl, hc⟩, hr⟩ := h
    obtain ⟨h1, h2⟩ := reps_lastD (W := W) hy hR hr
    have hi : (x :: l).length * 8 + 7 = x.cells.length + (l.length * 8 + 7) := by
      show (l.length + 1) * 8 + 7 = 8 + (l.length * 8 + 7); omega
    refine ⟨?_, x.cells, r.set (l.length * 8 + 7) (.string (ofL y.data)), ?_, ⟨rfl, hc⟩, h2⟩
    · rw [hi, List.getElem?_append_right (Nat.le_add_right _ _), Nat.add_sub_cancel_left]; exact h1
    · rw [hi, List.set_append_right _ _ (Nat.le_add_right _ _), Nat.add_sub_cancel_left]
/-- Where a gathering stands: its boxes. -/
structure GAt (W : World) (n : Nat) (out : List Nd) (op : Bool) (w : World) : Prop where
  out : ∃ v, w.heap[n]? = some (.cells #[v] 48 (0, 0)) ∧ RowD Kd.nd w (fun _ => False) (n + 2) v out
  op : w.heap[n + 1]? = some (.cells #[.bool op] 4 (0, 0))
  below : Below n W w
theorem GAt.step {W w w' : World} {n : Nat} {out : List Nd} {op : Bool} (h : GAt W n out op w) (hb : Below w.heap.size w w') : GAt W n out op w' := by
  obtain ⟨⟨v, h1, h2⟩, h3, h4⟩ := h
  exact ⟨⟨v, blk_below h1 hb (lt_of_block h1), h2.below hb⟩, blk_below h3 hb (lt_of_block h3), h4.trans (hb.mono (by have := lt_of_block h1; omega))⟩
theorem GAt.setOp {W w : World} {n : Nat} {out : List Nd} {op : Bool} (h : GAt W n out op w) (b : Bool) : GAt W n out b (w.setCell ⟨n + 1, 0, none⟩ (.bool b)) := by
  obtain ⟨⟨v, h1, h2⟩, h3, h4⟩ := h
  exact ⟨⟨v, (Below.heap_setCell w ⟨n + 1, 0, none⟩ _ n (by simp)).trans h1, h2.set _ (fun h => h) (by simp)⟩, one_setCell h3, h4.setCell (p := ⟨n + 1, 0, none⟩) (by simp) _⟩
theorem GAt.push {W w w4 w5 : World} {n : Nat} {out out' : List Nd} {op : Bool} {v v' : Value} (h : GAt W n out op w) (hv : w.heap[n]? = some (.cells #[v] 48 (0, 0))) (R : RowD Kd.nd w (fun _ => False) (n + 2) v out) (hb : Below w.heap.size w w4)
    (hr : RowD Kd.nd w5 (fun _ => False) (n + 2) v' out') (hg : w4.grownBy w5 v.ownBlock) : GAt W n out' op (w5.setCell ⟨n, 0, none⟩ v') := by
  have hl := R.low w
  have hz := lt_of_block h.op
  have hz4 := hb.size
  have hk : ∀ k, k < n + 2 → w5.heap[k]? = w.heap[k]? := fun k hk => (hg.block k (by omega) (fun e => by have := hl k e.symm; omega)).trans (hb.block k (by omega))
  refine ⟨⟨v', one_setCell ((hk n (by omega)).trans hv), hr.set v' (fun h => h) (by simp)⟩, ((Below.heap_setCell w5 ⟨n, 0, none⟩ v' (n + 1) (by simp)).trans (hk (n + 1) (by omega))).trans h.op, ?_⟩
  have b4 : Below n W w4 := h.below.trans (hb.mono (by omega))
  exact (b4.grown hg (by omega) (fun g hg2 => by have := hl g hg2; omega)).setCell (p := ⟨n, 0, none⟩) (by simp) v'
/-- The last node's bytes in the row. -/
theorem GAt.last {W w : World} {n : Nat} {l : List Nd} {m : Nd} {op : Bool} (h : GAt W n (l ++ [m]) op w) : ∃ g cap, w.heap[n]? = some (.cells #[.slice (some ⟨g, 0, none⟩) (l.length + 1) cap] 48 (0, 0)) ∧ n + 2 ≤ g ∧ w.cell? ⟨g, l.length * 8 + 7, none⟩ = some (.string (ofL m.data)) ∧
    w.frozen? ⟨g, l.length * 8 + 7, none⟩ = false ∧ l.length + 1 ≤ cap ∧ cap ≤ maxLen ∧ ∀ y : Nd, y = { m with data := y.data } → y.R → GAt W n (l ++ [y]) op (w.setCell ⟨g, l.length * 8 + 7, none⟩ (.string (ofL y.data))) := by
  obtain ⟨⟨v, h1, h2⟩, h3, h4⟩ := h
  obtain ⟨F, vs, a1, a2, a3, a4⟩ := h2
  have hr := a4 w (.refl _ _)
  have hlen : (l ++ [m]).length = l.length + 1 := by simp
  have hs := hr.len
  rw [hlen] at hs a3
  have hs : vs.length = (l.length + 1) * 8 := hs
  obtain ⟨b1, b2⟩ := a3
  rcases b2 with ⟨rfl, b2⟩ | ⟨g, cap, rfl, c1, c2, c3, c4, c5, c6⟩
  · omega
  have hmR : m.R := by
    have := Reps.at_ (d := Kd.nd) l.length hr (x := m) (by simp)
    exact this.2
  obtain ⟨k1, -⟩ := reps_lastD (W := w) (y := m) rfl hmR hr
  have hlt : l.length * 8 + 7 < cap * 8 := by have := Nat.mul_le_mul_right 8 c3; omega
  refine ⟨g, cap, h1, c1, c5 _ _ k1, (c6 _ hlt).2, c3, c4, fun y hy hR => ?_⟩
  obtain ⟨-, k2⟩ := reps_lastD (W := w) hy hR hr
  refine ⟨⟨_, (Below.heap_setCell w ⟨g, l.length * 8 + 7, none⟩ _ n (by simp; omega)).trans h1, fun _ => False, vs.set (l.length * 8 + 7) (.string (ofL y.data)), fun k h => h.elim, fun _ _ h => h, ?_, fun W' _ => reps_nds k2⟩, (Below.heap_setCell w ⟨g, l.length * 8 + 7, none⟩ _ (n + 1) (by simp; omega)).trans h3, h4.setCell (p := ⟨g, l.length * 8 + 7, none⟩) (by simp; omega) _⟩
  have a3 : Row w (n + 2) 8 (.slice (some ⟨g, 0, none⟩) (l.length + 1) cap) (l.length + 1) vs := ⟨b1, .inr ⟨g, cap, rfl, c1, c2, c3, c4, c5, c6⟩⟩
  have hl2 : (l ++ [y]).length = l.length + 1 := by simp
  rw [hl2]
  exact a3.store _ _
/-- What the gathering of the rest comes to. -/
theorem gloop_stop {l : List Ev} {s : List Nd × Bool} {k : Nat} {e : Ev} (hk : l[k]? = some e) (h : gstep s e = none) : gloop s (l.drop k) = (s.1, false) := by
  obtain ⟨hlt, rfl⟩ := List.getElem?_eq_some_iff.1 hk
  rw [List.drop_eq_getElem_cons hlt]
  simp [gloop, h]
theorem gloop_next {l : List Ev} {s t : List Nd × Bool} {k : Nat} {e : Ev} (hk : l[k]? = some e) (h : gstep s e = some t) : gloop s (l.drop k) = gloop t (l.drop (k + 1)) := by
  obtain ⟨hlt, rfl⟩ := List.getElem?_eq_some_iff.1 hk
  rw [List.drop_eq_getElem_cons hlt]
  simp [gloop, h]
/-- What a gathering keeps: as many bytes as were told, at most. -/
def GInv (k : Nat) (s : List Nd × Bool) : Prop := s.1.length ≤ k ∧ (∀ m ∈ s.1, m.R ∧ m.data.length ≤ 10000 + 512 * k) ∧ (s.2 = true → s.1 ≠ [])
theorem GInv.step {k : Nat} {s t : List Nd × Bool} {e : Ev} (h : GInv k s) (hk : k ≤ 1000000) (he : e.Ok) (hs : gstep s e = some t) : GInv (k + 1) t := by
  obtain ⟨h1, h2, h3⟩ := h
  obtain ⟨e1, e2, e3⟩ := he
  unfold gstep at hs
  split at hs
  · injection hs with hs
    subst hs
    refine ⟨by simp; exact h1, fun m hm => ?_, fun _ => by simp⟩
    rcases List.mem_append.1 hm with hm | hm
    · exact ⟨(h2 m hm).1, by have := (h2 m hm).2; omega⟩
    · rw [List.mem_singleton.1 hm]
      exact ⟨e1.2.1, by have := e2.2.2; omega⟩
  · split at hs
    · rename_i hc
      injection hs with hs
      subst hs
      obtain ⟨out, op⟩ := s
      have hne := h3 hc.2
      obtain ⟨l, m, hlm⟩ : ∃ l m, out = l ++ [m] := ⟨_, _, (List.dropLast_concat_getLast hne).symm⟩
      dsimp only at h1 h2 hlm ⊢
      subst hlm
      rw [addData_snoc]
      refine ⟨by simp at h1 ⊢; omega, fun x hx => ?_, fun _ => by simp⟩
      rcases List.mem_append.1 hx with hx | hx
      · have := h2 x (List.mem_append.2 (.inl hx))
        exact ⟨this.1, by omega⟩
      · rw [List.mem_singleton.1 hx]
        have hm := h2 m (by simp)
        have hd : (m.data ++ e.data).length ≤ 10000 + 512 * (k + 1) := by rw [List.length_append]; omega
        refine ⟨?_, hd⟩
        obtain ⟨⟨r1, r2, r3, r4, r5, r6, r7⟩, -⟩ := hm
        exact ⟨r1, r2, r3, r4, r5, r6, by simp only [maxLen]; show (m.data ++ e.data).length ≤ _; omega⟩
    · split at hs
      · injection hs with hs
        subst hs
        exact ⟨by show s.1.length ≤ k + 1; omega, fun m hm => ⟨(h2 m hm).1, by have := (h2 m hm).2; omega⟩, fun h => by cases h⟩
      · cases hs
theorem gstep_node {out : List Nd} {e : Ev} (h : e.kind = 0) : gstep (out, false) e = some (out ++ [e.node], true) := by
  unfold gstep; rw [if_pos ⟨h, rfl⟩]
theorem gstep_data {out : List Nd} {e : Ev} (h : e.kind = 1) : gstep (out, true) e = some (addData out e.data, true) := by
  unfold gstep; rw [if_neg (fun hc => by cases hc.2), if_pos ⟨h, rfl⟩]
theorem gstep_over {out : List Nd} {e : Ev} (h : e.kind = 2) : gstep (out, true) e = some (out, false) := by
  unfold gstep; rw [if_neg (fun hc => by cases hc.2), if_neg (fun hc => by rw [h] at hc; exact absurd hc.1 (by decide)), if_pos ⟨h, rfl⟩]
theorem gstep_no {out : List Nd} {e : Ev} {op : Bool} (h : (e.kind = 0 ∧ op = true) ∨ (e.kind ≠ 0 ∧ op = false) ∨ (e.kind ≠ 0 ∧ e.kind ≠ 1 ∧ e.kind ≠ 2)) : gstep (out, op) e = none := by
  unfold gstep
  rw [if_neg, if_neg, if_neg]
  · rintro ⟨h1, h2⟩
    have h2 : op = true := h2
    rcases h with ⟨h3, h4⟩ | ⟨h3, h4⟩ | ⟨h3, h4, h5⟩
    · omega
    · rw [h4] at h2; cases h2
    · exact h5 h1
  · rintro ⟨h1, h2⟩
    have h2 : op = true := h2
    rcases h with ⟨h3, h4⟩ | ⟨h3, h4⟩ | ⟨h3, h4, h5⟩
    · omega
    · rw [h4] at h2; cases h2
    · exact h4 h1
  · rintro ⟨h1, h2⟩
    have h2 : op = false := h2
    rcases h with ⟨h3, h4⟩ | ⟨h3, h4⟩ | ⟨h3, h4, h5⟩
    · rw [h4] at h2; cases h2
    · exact h3 h1
    · exact h3 h1
set_option maxHeartbeats 2000000 in
theorem gtake_calls (W : World) {n : Nat} (e : Ev) (he : e.Ok) {out : List Nd} {op : Bool} {k : Nat} (hk : k ≤ 1000000) (hI : GInv k (out, op)) (w : World) (hJ : GAt W n out op w) :
    Calls Tryz.prog 94 #[e.agg, .pointer (some ⟨n + 1, 0, none⟩), .pointer (some ⟨n, 0, none⟩)] w fun r w' =>
      r = .returned (.bool (gstep (out, op) e).isSome) ∧ GAt W n ((gstep (out, op) e).getD (out, op)).1 ((gstep (out, op) e).getD (out, op)).2 w' := by
  have hb0 : Below w.heap.size w (w.alloc (.cells e.cells.toArray 147)) := (Below.refl _ _).alloc (Nat.le_refl _) _
  have X0 := Au.mk (heap_alloc_new w (.cells e.cells.toArray 147))
  have J0 := Au.mk (hJ.step hb0)
  have z0 : n + 2 ≤ w.heap.size := by have := lt_of_block hJ.op; omega
  have HE := Au.mk he
  have HI := Au.mk hI
  have hmx : Tryz.prog.follows .mixedOrders = true := by kernel_rfl
  obtain ⟨r, Hr⟩ := au (gstep (out, op) e)
  rw [Hr.out]
  unfold Ev.agg
  clear hJ he hI hb0
  go_enter Tryz.func94, Tryz.ntmps94
  go_upto_region 2 with fail
  generalize hq : w.alloc _ = W1
  have X1 : Au (W1.heap[w.heap.size]? = some (.cells e.cells.toArray 147 (0, 0))) := ⟨by rw [← hq]; exact X0.out⟩
  have J1 : Au (GAt W n out op W1) := ⟨by rw [← hq]; exact J0.out⟩
  clear hq X0 J0
  obtain ⟨x, Hx⟩ := au w.heap.size
  rw [Hx.out] at X1 z0 ⊢
  unfold Ev.cells at X1
  have f0 := blk_cell X1.out 0 rfl
  have f1 := blk_cell X1.out 1 rfl
  have f2 := blk_cell X1.out 2 rfl
  have f3 := blk_cell X1.out 3 rfl
  have f4 := blk_cell X1.out 4 rfl
  have f5 := blk_cell X1.out 5 rfl
  have f6 := blk_cell X1.out 6 rfl
  have f7 := blk_cell X1.out 7 rfl
  have f8 := blk_cell X1.out 8 rfl
  have f9 := blk_cell X1.out 9 rfl
  have fo := cell_of_one J1.out.op
  have fp := free_of_one J1.out.op
  by_cases k0 : e.kind = 0
  · have t0 : (e.kind == 0) = true := beq_iff_eq.2 k0
    have t1 : (e.kind == 1) = false := by rw [k0]; rfl
    have t2 : (e.kind == 2) = false := by rw [k0]; rfl
    have K0 := Au.mk k0
    clear k0
    cases op
    · have hr := Hr.out
      rw [gstep_node K0.out] at hr
      subst hr
      obtain ⟨v, o1, r1⟩ := J1.out.out
      have c1 := cell_of_one o1
      have g1 := free_of_one o1
      have B2 := Au.mk ((Below.refl W1.heap.size W1).alloc (Nat.le_refl _) (.cells e.node.cells.toArray 23))
      have R2 := Au.mk (r1.below B2.out)
      have E2 : Au (Els Kd.nd (W1.alloc (.cells e.node.cells.toArray 23)) (fun _ => False) (some ⟨W1.heap.size, 0, none⟩) [e.node]) := ⟨e.node.cells, cells_of_blk (heap_alloc_new W1 (.cells e.node.cells.toArray 23)), fun W _ => Reps.single ⟨rfl, HE.out.1.2.1⟩⟩
      have O1 := Au.mk o1
      have R1 := Au.mk r1
      have hol : out.length ≤ 1000000 := Nat.le_trans HI.out.1 hk
      have L1 : Au (out.length + [e.node].length ≤ maxLen) := ⟨by simp only [maxLen, List.length_singleton]; omega⟩
      have L2 : Au ((out.length + [e.node].length) * 88 ≤ 140737488355328) := ⟨by simp only [List.length_singleton]; omega⟩
      have z1 := lt_of_block J1.out.op
      have L3 : Au (n + 2 ≤ (W1.alloc (.cells e.node.cells.toArray 23)).heap.size) := ⟨by simp; omega⟩
      have L4 : Au ((out ++ [e.node]).length = out.length + 1) := ⟨by simp⟩
      have HU := Au.mk (fun g (hg : v.ownBlock = some g) => r1.low W1 g hg)
      have HK : Au (∀ W5, (W1.alloc (.cells e.node.cells.toArray 23)).grownBy W5 v.ownBlock → ∀ j, j < n + 2 → W5.heap[j]? = W1.heap[j]?) := ⟨fun W5 hg j hj => (hg.block j (by simp; omega) (fun e => by have := HU.out _ e.symm; omega)).trans (B2.out.block j (by omega))⟩
      clear o1 r1
      unfold Nd.cells at B2 R2 E2 L3 HK
      go_wp2_with (at_builtin; refine wpList_append_rowD (d := Kd.nd) (G := fun _ => False) (F2 := fun _ => False) (base := n + 2) (xs := out) (ys := [e.node]) _ rfl etNds8 _ _ rfl rfl R2.out rfl rfl E2.out (fun _ h => h.elim) (fun _ _ h => h.elim) L1.out L2.out L3.out ?_; intro v5 W5 hr5 hg5 ho5; obtain ⟨A5, c5, rfl⟩ := hr5.form; rw [L4.out] at hr5 ⊢; have Hr5 := Au.mk hr5; have Hg5 := Au.mk hg5; have d1 := cell_of_one ((HK.out W5 hg5 n (by omega)).trans O1.out); have d2 := free_of_one ((HK.out W5 hg5 n (by omega)).trans O1.out); have d3 := cell_of_one ((HK.out W5 hg5 (n + 1) (by omega)).trans J1.out.op); have d4 := free_of_one ((HK.out W5 hg5 (n + 1) (by omega)).trans J1.out.op); clear hr5 hg5 ho5)
      go_ret
      exact ⟨rfl, (J1.out.push O1.out R1.out B2.out Hr5.out Hg5.out).setOp true⟩
    · have hr := Hr.out
      rw [gstep_no (.inl ⟨K0.out, rfl⟩)] at hr
      subst hr
      go_wp2_with fail
      go_ret
      exact ⟨rfl, J1.out⟩
  have t0 : (e.kind == 0) = false := beq_eq_false_iff_ne.2 k0
  cases op
  · have hr := Hr.out
    rw [gstep_no (.inr (.inl ⟨k0, rfl⟩))] at hr
    subst hr
    by_cases k1 : e.kind = 1
    · have t1 : (e.kind == 1) = true := beq_iff_eq.2 k1
      have t2 : (e.kind == 2) = false := by rw [k1]; rfl
      clear k0 k1
      go_wp2_with fail
      go_ret
      exact ⟨rfl, J1.out⟩
    · have t1 : (e.kind == 1) = false := beq_eq_false_iff_ne.2 k1
      by_cases k2 : e.kind = 2
      · have t2 : (e.kind == 2) = true := beq_iff_eq.2 k2
        clear k0 k1 k2
        go_wp2_with fail
        go_ret
        exact ⟨rfl, J1.out⟩
      · have t2 : (e.kind == 2) = false := beq_eq_false_iff_ne.2 k2
        clear k0 k1 k2
        go_wp2_with fail
        go_ret
        exact ⟨rfl, J1.out⟩
  by_cases k1 : e.kind = 1
  · have t1 : (e.kind == 1) = true := beq_iff_eq.2 k1
    have hr := Hr.out
    rw [gstep_data k1] at hr
    clear k0 k1
    have hne : out ≠ [] := HI.out.2.2 rfl
    obtain ⟨l, m, hlm⟩ : ∃ l m, out = l ++ [m] := ⟨_, _, (List.dropLast_concat_getLast hne).symm⟩
    subst hlm
    rw [addData_snoc] at hr
    subst hr
    obtain ⟨g, cap, hb, hg, hcell, hfro, hcap, hcm, hst⟩ := (J1.out.step (below_drewN (Below.refl _ _) 1)).last
    obtain ⟨q, Hq⟩ := au l.length
    obtain ⟨L, HL⟩ := au (l.length + 1)
    have hLq : L = q + 1 := by rw [← HL.out, Hq.out]
    rw [HL.out] at hb hcap
    rw [Hq.out] at hcell hfro hst
    have hq6 : q < 1000000 := by have := HI.out.1; dsimp only at this; rw [List.length_append, Hq.out, List.length_singleton] at this; omega
    have hw1 : IntKind.i64.wrap ((L : Int) - 1) = (q : Int) := by rw [hLq, IntKind.wrap_i64]; omega
    have hqL : q < L := by omega
    have hqLi : (q : Int) < (L : Int) := by omega
    have hmd : m.data.length ≤ 600000000 := by have := (HI.out.2.1 m (by simp)).2; omega
    have hmR : m.R := (HI.out.2.1 m (by simp)).1
    have hed := HE.out.2.2
    have Hst := Au.mk (hst { m with data := m.data ++ e.data } rfl ⟨hmR.1, hmR.2.1, hmR.2.2.1, hmR.2.2.2.1, hmR.2.2.2.2.1, hmR.2.2.2.2.2.1, by simp only [maxLen]; rw [List.length_append]; omega⟩)
    have HLq := Au.mk hLq
    have hsz : ¬ (9223372036854775807 < (ofL m.data).size + (ofL e.data).size) := by rw [ofL_size, ofL_size]; omega
    have HC := Au.mk hcell
    have HF := Au.mk hfro
    have c0 := cell_of_one hb
    have hcc : q * 8 + 7 < cap * 8 := by omega
    clear hst hLq hb hmR
    go_upto_region 5 with fail
    refine Code.wp_mono Calm.imp ?_
    refine region_tal (fun w' => w'.cell? ⟨n, 0, none⟩ = some (.slice (some ⟨g, 0, none⟩) L cap) ∧ w'.cell? ⟨g, q * 8 + 7, none⟩ = some (.string (ofL m.data)) ∧ w'.cell? ⟨x, 9, none⟩ = some (.string (ofL e.data))) [(true, 0), (true, 1), (true, 2), (true, 3), (true, 4), (true, 5), (true, 6), (true, 7), (true, 8), (true, 9), (true, 10), (true, 11)] [12] hmx (by kernel_rfl) ⟨c0, hcell, f9⟩ ?_
    clear f0 f1 f2 f3 f4 f5 f6 f7 f8 f9 c0 hcell fo fp
    iterate 12
      refine ordT_true rfl ⟨?_, Or.inl ⟨by rfl, fun w' hw' => ?_⟩, ?_⟩
      rotate_left 1
      · obtain ⟨q0, q1, q2⟩ := hw'
        go_simp
        all_goals (with_reducible rfl)
      try simp only [Act.put, List.setIfInBounds_toArray, List.set_cons_zero, List.set_cons_succ]
    refine ordT_nil ?_
    simp only [List.filterMap_cons, List.filterMap_nil, List.getElem?_toArray, List.getElem?_cons_succ, List.getElem?_cons_zero, Act.put, List.setIfInBounds_toArray, List.set_cons_zero, List.set_cons_succ]
    change wpList _ _ _ [_] _ _
    have hcell : W1.drew.cell? ⟨g, q * 8 + 7, none⟩ = some (.string (ofL m.data)) := HC.out
    have hfro : W1.drew.frozen? ⟨g, q * 8 + 7, none⟩ = false := HF.out
    have hcell2 : W1.cell? ⟨g, q * 8 + 7, none⟩ = some (.string (ofL m.data)) := HC.out
    have hfro2 : W1.frozen? ⟨g, q * 8 + 7, none⟩ = false := HF.out
    go_wp2_with fail
    try simp only [Calm]
    go_wp2_with fail
    try go_ret
    refine ⟨rfl, ?_⟩
    have := Hst.out
    try dsimp only at this
    rw [← ofL_append] at this
    exact this
  have t1 : (e.kind == 1) = false := beq_eq_false_iff_ne.2 k1
  by_cases k2 : e.kind = 2
  · have t2 : (e.kind == 2) = true := beq_iff_eq.2 k2
    have hr := Hr.out
    rw [gstep_over k2] at hr
    subst hr
    clear k0 k1 k2
    go_wp2_with fail
    go_ret
    exact ⟨rfl, J1.out.setOp false⟩
  · have t2 : (e.kind == 2) = false := beq_eq_false_iff_ne.2 k2
    have hr := Hr.out
    rw [gstep_no (.inr (.inr ⟨k0, k1, k2⟩))] at hr
    subst hr
    clear k0 k1 k2
    go_wp2_with fail
    go_ret
    exact ⟨rfl, J1.out⟩
section
variable {P : Program} {t e : TypeId} {z : Value} {sz bytes : Nat}
/-- make([]T, n). -/
theorem make_any (et : ET P t e z sz bytes) (n : Nat) (hn : bytes * n ≤ 281474976710656) (hm : n ≤ maxLen) :
    ∀ W : World, (Instr.makeSlice t (.int .i64 (n : Int)) (.int .i64 (n : Int))).run P W = .ok (.slice (some ⟨W.heap.size, 0, none⟩) n n) (W.alloc (.cells (madeCells z.cells (n * sz)) e)) := by
  intro W
  obtain ⟨i, hi, hz, hsz, hby⟩ := info_parts et.i
  simp only [maxLen] at hm
  have h := run_make (P := P) W t e i z et.u hi hz .i64 .i64 n n (by omega) (by omega) (by rw [hby]; have : ((bytes * n : Nat) : Int) ≤ 281474976710656 := by omega
                                                                                           rwa [Int.natCast_mul] at this) (by omega)
  rw [h]
  simp [hsz]
/-- copy of a whole row. -/
theorem run_copy_whole (et : ET P t e z sz bytes) (w : World) (ty : TypeId) {g n m c : Nat} {A : Option Addr} {cur : Array Value} {tt : TypeId} {cs : List Value} (hg : w.heap[g]? = some (.cells cur tt (0, 0)))
    (hl : cs.length = n * sz) (hc : cur.size = n * sz) (hsrc : Cells w A cs) (h1 : ∀ v ∈ cs, v.oneCell' = true) :
    (Builtin.copy_ #[t, t] ty #[.slice (some ⟨g, 0, none⟩) n m, .slice A n c]).run P w = .ok (goInt n) (w.setRow g cs.toArray) := by
  obtain ⟨i, hi, hz, hsz, hby⟩ := info_parts et.i
  have hst := run_storeCells_at (P := P) g 0 tt cs 0 cur w hg (by omega) h1
  have hfin : (cur.toList.take (0 + 0) ++ cs ++ cur.toList.drop (0 + 0 + cs.length)).toArray = cs.toArray := by
    have : cur.toList.drop cs.length = [] := by rw [List.drop_eq_nil_iff]; simp; omega
    simp [this]
  rw [hfin] at hst
  cases A with
  | none =>
    have h0 : cs = [] := by
      apply Classical.byContradiction; intro hne
      obtain ⟨_, _, hA, _⟩ := hsrc hne
      cases hA
    subst h0
    simp [Builtin.copy_, run_underlying et.u, Builtin.lenOf, Builtin.firstCells, sizeOf, typeInfo, hi, hst]
  | some a =>
    have hload : (loadCells a (n * sz)).run P w = .ok cs.toArray w := by
      rw [← hl]
      by_cases hne : cs = []
      · subst hne
        exact run_loadCells_list (P := P) w a [] (by simp)
      · obtain ⟨ad, hA, hcell⟩ := hsrc.to_add hne
        cases hA
        exact run_loadCells_list (P := P) w a cs hcell
    simp [Builtin.copy_, run_underlying et.u, Builtin.lenOf, Builtin.firstCells, sizeOf, typeInfo, hi, hsz, hload, hst]
theorem wpList_copy_whole (et : ET P t e z sz bytes) (w : World) {ops : Array Oper} {rest : List Oper} {o : Oper} {a : Act} {Q : Exit → Act → World → Prop} (hgd : o.guard = none) (d s : Operand)
    (ho : o.op = .call { callee := .builtin .copy, args := #[d, s], argTypes := #[t, t] }) {g n m c : Nat} {A : Option Addr} (hd : a.eval d = .slice (some ⟨g, 0, none⟩) n m) (hs : a.eval s = .slice A n c)
    {cur : Array Value} {tt : TypeId} {cs : List Value} (hg : w.heap[g]? = some (.cells cur tt (0, 0)))
    (hl : cs.length = n * sz) (hc : cur.size = n * sz) (hsrc : Cells w A cs) (h1 : ∀ v ∈ cs, v.oneCell' = true)
    (h : ∀ w', Au (w'.heap[g]? = some (.cells cs.toArray tt (0, 0))) → w.grownBy w' (some g) → wpList P ops Q rest (a.put o.dst (goInt n)) w') : wpList P ops Q (o :: rest) a w := by
  refine wpList_plain hgd fun K hK => ?_
  have hrun := run_copy_whole (P := P) et w o.type hg hl hc hsrc h1 (m := m) (c := c)
  unfold Oper.wp
  simp [execOp, ho, resolve, invoke, builtin, hd, hs, hrun, Result.andThen]
  exact hK _ _ (h _ ⟨by simpa using setRow_heap w g _ _ tt _ hg⟩ ⟨rfl, rfl, rfl, by simp [World.setRow], fun k _ hk => setRow_other w g k _ (by rintro rfl; exact hk rfl)⟩)
/-- The same, the world behind it named. -/
theorem copy_whole (et : ET P t e z sz bytes) (w : World) (ty : TypeId) {g n m c : Nat} {A : Option Addr} {cur : Array Value} {tt : TypeId} {cs : List Value} (hg : w.heap[g]? = some (.cells cur tt (0, 0)))
    (hl : cs.length = n * sz) (hc : cur.size = n * sz) (hsrc : Cells w A cs) (h1 : ∀ v ∈ cs, v.oneCell' = true) :
    ∃ w', (Builtin.copy_ #[t, t] ty #[.slice (some ⟨g, 0, none⟩) n m, .slice A n c]).run P w = .ok (.int .i64 (n : Int)) w' ∧ Au (w'.heap[g]? = some (.cells cs.toArray tt (0, 0))) ∧ Au (w.grownBy w' (some g)) :=
  ⟨_, run_copy_whole et w ty hg hl hc hsrc h1, ⟨by simpa using setRow_heap w g _ _ tt _ hg⟩, ⟨⟨rfl, rfl, rfl, by simp [World.setRow], fun k _ hk => setRow_other w g k _ (by rintro rfl; exact hk rfl)⟩⟩⟩
end
/-- A row of the call's own, of elements that lean on nothing that changes: all its cells. -/
theorem sl_whole {α : Type} {d : Kd α} {w : World} {F : Nat → Prop} {g n m : Nat} {tt : TypeId} {cs : List Value} {xs : List α} (hg : w.heap[g]? = some (.cells cs.toArray tt (0, 0))) (hn : xs.length = n) (hm : n ≤ m) (hm2 : m ≤ maxLen) (hr : ∀ W, Keeps F w W → Reps d W xs cs) (hF : F g) :
    Sl d w F (some ⟨g, 0, none⟩) m xs := by
  have hlt := lt_of_block hg
  refine ⟨by omega, by simpa [maxLen] using hm2, cs, fun W hW => ⟨?_, hr W hW⟩⟩
  exact cells_of_blk ((hW g hF hlt).trans hg)
theorem Sl.ev_at {w : World} {F : Nat → Prop} {A : Option Addr} {c : Nat} {t : List Ev} (h : Sl Kd.ev w F A c t) {k : Nat} {e : Ev} (hn : t[k]? = some e) :
    ∃ b o, A = some ⟨b, o, none⟩ ∧ ∀ j u, e.cells[j]? = some u → w.cell? ⟨b, o + k * 10 + j, none⟩ = some u := by
  obtain ⟨vs, hc, hr⟩ := h.now
  obtain ⟨he, hR⟩ := hr.at_ k hn
  have hsz : Kd.ev.sz = 10 := rfl
  rw [hsz] at he
  have hat : ∀ j u, e.cells[j]? = some u → vs[k * 10 + j]? = some u := fun j u hj => by
    rw [← he, List.getElem?_take] at hj
    split at hj
    · rw [List.getElem?_drop] at hj; exact hj
    · cases hj
  obtain ⟨b, o, rfl, h0⟩ := hc.at_ (hat 0 _ rfl)
  refine ⟨b, o, rfl, fun j u hj => ?_⟩
  obtain ⟨b', o', e, h1⟩ := hc.at_ (hat j u hj)
  injection e with e; injection e with e1 e2; subst e1 e2
  rw [Nat.add_assoc]; exact h1
theorem gat_new (W : World) : GAt W W.heap.size [] false ((W.alloc (.cells #[.slice none 0 0] 48)).alloc (.cells #[.bool false] 4)) := by
  have hx : ∀ (w : World) (o : Obj) (k : Nat), k = w.heap.size → (w.alloc o).heap[k]? = some o := fun w o k hk => by rw [hk]; exact heap_alloc_new w o
  exact ⟨⟨_, blk_alloc (hx _ _ _ rfl) _, RowD.nil _ _ _ _⟩, hx _ _ _ (by simp), ((Below.refl _ _).alloc (Nat.le_refl _) _).alloc (by simp) _⟩
set_option maxHeartbeats 4000000 in
theorem gather_calls (l : List Ev) (he : ∀ e ∈ l, e.Ok) {N : Nat} (hN : l.length = N) (hl : N ≤ 100000) {t : List Nd} {b : Bool} (hg : gather l = (t, b)) {A : Option Addr} {c : Nat} {F : Nat → Prop} (W : World) (hv : Sl Kd.ev W F A c l) :
    Calls Tryz.prog 54 #[.slice A N c] W fun e w' => ∃ A' c', e = .returned (.tuple #[.slice A' t.length c', .bool b]) ∧ Sl Kd.nd w' (fun k => W.heap.size ≤ k) A' c' t ∧ Below W.heap.size W w' := by
  have hcN := hv.le
  rw [hN] at hcN
  obtain ⟨n, Hn⟩ := au W.heap.size
  have HV := Au.mk hv.old
  have HE := Au.mk he
  have HG := Au.mk hg
  have HNN := Au.mk hN
  have X0 := Au.mk (gat_new W)
  clear hv he hg hN
  go_enter Tryz.func54, Tryz.ntmps54
  go_wp2_with fail
  go_step3
  go_wp2_with fail
  generalize hW1 : World.alloc (World.alloc W _) _ = W1
  have X1 : Au (GAt W W.heap.size [] false W1) := ⟨by rw [← hW1]; exact X0.out⟩
  rw [Hn.out] at X1 ⊢
  clear hW1 X0
  go_step3
  go_wp2_with fail
  go_loopw [6, 14] (fun y i wr => ∃ (k : Nat) (out : List Nd) (op : Bool), k ≤ N ∧ y = .bool true ∧ i = .int .i64 (k : Int) ∧ Au (GInv k (out, op)) ∧ Au (gather l = gloop (out, op) (l.drop k)) ∧ Au (GAt W n out op wr)) (fun _ i _ => N - (intOf i).toNat)
  case atStart => exact ⟨0, [], false, Nat.zero_le _, rfl, rfl, ⟨⟨Nat.zero_le _, fun m hm => (by cases hm), fun h => (by cases h)⟩⟩, ⟨by rw [List.drop_zero]; rfl⟩, X1⟩
  case round =>
    obtain ⟨k, out, op, hk, rfl, rfl, HI, HL, X⟩ := hrel
    by_cases hkn : k = N
    · subst hkn
      have hres := HG.out
      rw [HL.out, ← HNN.out, List.drop_length] at hres
      simp only [gloop, Prod.mk.injEq] at hres
      obtain ⟨rfl, rfl⟩ := hres
      obtain ⟨v, o1, r1⟩ := X.out.out
      obtain ⟨A1, c1, rfl, s1⟩ := r1.sl
      obtain ⟨vs, hc1, hr1⟩ := s1.now
      have cb1 := cell_of_one o1
      obtain ⟨ol, Hol⟩ := au out.length
      have hol : ol ≤ 100000 := by have := HI.out.1; dsimp only at this; rw [Hol.out] at this; omega
      rw [Hol.out] at cb1
      have hvl : vs.length = ol * 8 := by have := hr1.len; rw [Hol.out] at this; exact this
      obtain ⟨Z, HZ⟩ := au (madeCells (Value.cells (.agg #[.string ⟨#[]⟩, .string ⟨#[]⟩, .int .u8 0, .int .i64 0, .int .i64 0, .int .i64 0, .int .i64 0, .string ⟨#[]⟩])) (ol * 8))
      have hmk : ∀ W : World, (Instr.makeSlice 48 (.int .i64 (ol : Int)) (.int .i64 (ol : Int))).run Tryz.prog W = .ok (.slice (some ⟨W.heap.size, 0, none⟩) ol ol) (W.alloc (.cells Z 23)) := by
        rw [← HZ.out]
        exact make_any etNds8 ol (by omega) (by simp only [maxLen]; omega)
      have HZs : Au (Z.size = ol * 8) := ⟨by rw [← HZ.out]; exact size_madeCells _ _⟩
      have Bm := Au.mk ((Below.refl wr.heap.size wr).alloc (Nat.le_refl _) (.cells Z 23))
      have Nm := Au.mk (heap_alloc_new wr (.cells Z 23))
      have Cm : Au (Cells (wr.alloc (.cells Z 23)) A1 vs) := ⟨hc1.loc (Keeps.alloc wr _)⟩
      have cb2 := cell_alloc cb1 (.cells Z 23)
      have Hvl := Au.mk hvl
      have Hr1 := Au.mk hr1
      have Bn : Au (Below n W (wr.alloc (.cells Z 23))) := ⟨X.out.below.trans (Bm.out.mono (by have := lt_of_block X.out.op; omega))⟩
      have zn : n ≤ wr.heap.size := by have := lt_of_block X.out.op; omega
      clear r1 s1 hc1 hr1 o1
      obtain ⟨w9, hcp, N9, g9⟩ := copy_whole etNds8 (wr.alloc (.cells Z 23)) 3 (m := ol) (c := c1) Nm.out Hvl.out HZs.out Cm.out Hr1.out.one
      have B9 : Au (Below n W w9) := ⟨below_of_grown Bn.out g9.out (by simp; omega) (by omega)⟩
      clear g9
      go_wp2_with fail
      try rw [Exit.noGoto_ret]
      go_ret2
      rw [show (out).length = ol from Hol.out, Hn.out]
      refine ⟨_, _, rfl, ?_, B9.out⟩
      exact sl_whole N9.out Hol.out (Nat.le_refl _) (by simp only [maxLen]; omega) (fun _ _ => reps_nds Hr1.out) (by omega)
    · have hlt : k < N := by omega
      have hlti : (k : Int) < N := by omega
      obtain ⟨e, hek⟩ : ∃ e, l[k]? = some e := ⟨_, List.getElem?_eq_getElem (by rw [HNN.out]; exact hlt)⟩
      have Hek := Au.mk hek
      obtain ⟨bb, oo, rfl, hcs⟩ := (HV.out.below (show Below W.heap.size W wr by rw [Hn.out]; exact X.out.below)).ev_at hek
      have c0 : wr.cell? ⟨bb, oo + k * 10, none⟩ = some (.int .i64 e.kind) := hcs 0 _ rfl
      have c1 : wr.cell? ⟨bb, oo + k * 10 + 1, none⟩ = some (.string (ofL e.node.path)) := hcs 1 _ rfl
      have c2 : wr.cell? ⟨bb, oo + k * 10 + 2, none⟩ = some (.string (ofL e.node.link)) := hcs 2 _ rfl
      have c3 : wr.cell? ⟨bb, oo + k * 10 + 3, none⟩ = some (.int .u8 e.node.kind.toNat) := hcs 3 _ rfl
      have c4 : wr.cell? ⟨bb, oo + k * 10 + 4, none⟩ = some (.int .i64 e.node.mode) := hcs 4 _ rfl
      have c5 : wr.cell? ⟨bb, oo + k * 10 + 5, none⟩ = some (.int .i64 e.node.uid) := hcs 5 _ rfl
      have c6 : wr.cell? ⟨bb, oo + k * 10 + 6, none⟩ = some (.int .i64 e.node.gid) := hcs 6 _ rfl
      have c7 : wr.cell? ⟨bb, oo + k * 10 + 7, none⟩ = some (.int .i64 e.node.mtime) := hcs 7 _ rfl
      have c8 : wr.cell? ⟨bb, oo + k * 10 + 8, none⟩ = some (.string (ofL e.node.data)) := hcs 8 _ rfl
      have c9 : wr.cell? ⟨bb, oo + k * 10 + 9, none⟩ = some (.string (ofL e.data)) := hcs 9 _ rfl
      have hw1 : IntKind.i64.wrap ((k : Int) + 1) = (k : Int) + 1 := by rw [IntKind.wrap_i64]; omega
      have heo := HE.out e (List.mem_of_getElem? hek)
      have hB2 : Below wr.heap.size wr (wr.alloc (.cells e.cells.toArray 147)) := (Below.refl _ _).alloc (Nat.le_refl _) _
      have X2 := Au.mk (X.out.step hB2)
      have N2 := Au.mk (heap_alloc_new wr (.cells e.cells.toArray 147))
      have Heo := Au.mk heo
      clear hek hcs heo hB2
      go_upto_region 7 with fail
      generalize hW2 : wr.alloc _ = W2
      have X3 : Au (GAt W n out op W2) := ⟨by rw [← hW2]; exact X2.out⟩
      have N3 : Au (W2.heap[wr.heap.size]? = some (.cells e.cells.toArray 147 (0, 0))) := ⟨by rw [← hW2]; exact N2.out⟩
      clear hW2 X2 N2 c0 c1 c2 c3 c4 c5 c6 c7 c8 c9
      unfold Ev.cells at N3
      have d0 := blk_cell N3.out 0 rfl
      have d1 := blk_cell N3.out 1 rfl
      have d2 := blk_cell N3.out 2 rfl
      have d3 := blk_cell N3.out 3 rfl
      have d4 := blk_cell N3.out 4 rfl
      have d5 := blk_cell N3.out 5 rfl
      have d6 := blk_cell N3.out 6 rfl
      have d7 := blk_cell N3.out 7 rfl
      have d8 := blk_cell N3.out 8 rfl
      have d9 := blk_cell N3.out 9 rfl
      have CT := Au.mk (gtake_calls W e Heo.out (k := k) (by omega) HI.out W2 X3.out)
      unfold Ev.agg at CT
      obtain ⟨r, Hr⟩ := au (gstep (out, op) e)
      rw [Hr.out] at CT
      go_wp2_with fail
      refine CT.out.mono ?_
      rintro e' w3 ⟨rfl, x3⟩
      have X4 := Au.mk x3
      clear x3 CT d0 d1 d2 d3 d4 d5 d6 d7 d8 d9 X3 N3 X
      cases r with
      | none =>
        have hres := HG.out
        rw [HL.out, gloop_stop Hek.out Hr.out] at hres
        simp only [Prod.mk.injEq] at hres
        obtain ⟨rfl, rfl⟩ := hres
        have hf : (none : Option (List Nd × Bool)).isSome = false := rfl
        rw [hf]
        simp only [Option.getD_none] at X4
        obtain ⟨v, o1, r1⟩ := X4.out.out
        obtain ⟨A1, c1, rfl, s1⟩ := r1.sl
        obtain ⟨vs, hc1, hr1⟩ := s1.now
        have cb1 := cell_of_one o1
        obtain ⟨ol, Hol⟩ := au out.length
        have hol : ol ≤ 100000 := by have := HI.out.1; dsimp only at this; rw [Hol.out] at this; omega
        rw [Hol.out] at cb1
        have hvl : vs.length = ol * 8 := by have := hr1.len; rw [Hol.out] at this; exact this
        obtain ⟨Z, HZ⟩ := au (madeCells (Value.cells (.agg #[.string ⟨#[]⟩, .string ⟨#[]⟩, .int .u8 0, .int .i64 0, .int .i64 0, .int .i64 0, .int .i64 0, .string ⟨#[]⟩])) (ol * 8))
        have hmk : ∀ W : World, (Instr.makeSlice 48 (.int .i64 (ol : Int)) (.int .i64 (ol : Int))).run Tryz.prog W = .ok (.slice (some ⟨W.heap.size, 0, none⟩) ol ol) (W.alloc (.cells Z 23)) := by
          rw [← HZ.out]
          exact make_any etNds8 ol (by omega) (by simp only [maxLen]; omega)
        have HZs : Au (Z.size = ol * 8) := ⟨by rw [← HZ.out]; exact size_madeCells _ _⟩
        have Bm := Au.mk ((Below.refl w3.heap.size w3).alloc (Nat.le_refl _) (.cells Z 23))
        have Nm := Au.mk (heap_alloc_new w3 (.cells Z 23))
        have Cm : Au (Cells (w3.alloc (.cells Z 23)) A1 vs) := ⟨hc1.loc (Keeps.alloc w3 _)⟩
        have cb2 := cell_alloc cb1 (.cells Z 23)
        have Hvl := Au.mk hvl
        have Hr1 := Au.mk hr1
        have Bn : Au (Below n W (w3.alloc (.cells Z 23))) := ⟨X4.out.below.trans (Bm.out.mono (by have := lt_of_block X4.out.op; omega))⟩
        have zn : n ≤ w3.heap.size := by have := lt_of_block X4.out.op; omega
        clear r1 s1 hc1 hr1 o1
        obtain ⟨w9, hcp, N9, g9⟩ := copy_whole etNds8 (w3.alloc (.cells Z 23)) 3 (m := ol) (c := c1) Nm.out Hvl.out HZs.out Cm.out Hr1.out.one
        have B9 : Au (Below n W w9) := ⟨below_of_grown Bn.out g9.out (by simp; omega) (by omega)⟩
        clear g9
        go_wp2_with fail
        try rw [Exit.noGoto_ret]
        go_ret2
        rw [show (out).length = ol from Hol.out, Hn.out]
        refine ⟨_, _, rfl, ?_, B9.out⟩
        exact sl_whole N9.out Hol.out (Nat.le_refl _) (by simp only [maxLen]; omega) (fun _ _ => reps_nds Hr1.out) (by omega)
      | some s' =>
        obtain ⟨out', op'⟩ := s'
        have HI2 := Au.mk (HI.out.step (by omega) Heo.out Hr.out)
        have HL2 := Au.mk (show gather l = gloop (out', op') (l.drop (k + 1)) by rw [HL.out, gloop_next Hek.out Hr.out])
        have hf : (some (out', op')).isSome = true := rfl
        rw [hf]
        simp only [Option.getD_some] at X4
        go_wp2_with fail
        exact ⟨⟨k + 1, out', op', hlt, rfl, rfl, HI2, HL2, X4⟩, by show N - ((k : Int) + 1).toNat < N - (k : Int).toNat; omega⟩
/-- A list of blocks that a parser reads whole. -/
theorem read_calls (l : List (List UInt8)) {N : Nat} (hN : l.length = N) (hl : N ≤ 10000) {told : List Ev} {u : Nat} {t : List Nd} {b : Bool} {s : Ps} (hp : prun ps0 l = (s, told, u, 0)) (h5 : s.phase = 5) (hg : gather told = (t, b)) {A : Option Addr} {c : Nat} {F : Nat → Prop} (W : World) (hv : Sl (Kd.slice Kd.byte) W F A c l) :
    Calls Tryz.prog 31 #[.slice A N c] W fun e w' => ∃ A' c', e = .returned (.tuple #[.slice A' t.length c', .int .i64 0]) ∧ Sl Kd.nd w' (fun k => W.heap.size ≤ k) A' c' t ∧ Below W.heap.size W w' := by
  have CR := Au.mk (prun_calls ps0 ps0_S ps0_R l (by omega) W hv)
  rw [hN, hp] at CR
  have hok := prun_ok ps0_S ps0_R l
  rw [hp, hN] at hok
  obtain ⟨-, -, ok3, ok4⟩ := hok
  dsimp only at ok3 ok4
  have O3 := Au.mk ok3
  have O4 := Au.mk ok4
  have H5 := Au.mk h5
  have HG := Au.mk hg
  unfold Ps.agg ps0 at CR
  clear hN hp h5 hg hv ok3 ok4
  go_enter Tryz.func31, Tryz.ntmps31
  go_wp2_with fail
  refine CR.out.mono ?_
  rintro e w1 ⟨A1, c1, he, s1, b1⟩
  dsimp only at he s1
  unfold Ps.agg at he
  subst he
  have B1 := Au.mk b1
  have S2 := Au.mk (s1.alloc (.cells s.cells.toArray 25))
  have B2 := Au.mk (b1.alloc b1.size (.cells s.cells.toArray 25))
  have N2 := Au.mk (heap_alloc_new w1 (.cells s.cells.toArray 25))
  clear s1 b1 CR
  go_upto_region 2 with fail
  generalize hW2 : w1.alloc _ = W2
  have S3 : Au (Sl Kd.ev W2 (fun k => W.heap.size ≤ k) A1 c1 told) := ⟨by rw [← hW2]; exact S2.out⟩
  have B3 : Au (Below W.heap.size W W2) := ⟨by rw [← hW2]; exact B2.out⟩
  have N3 : Au (W2.heap[w1.heap.size]? = some (.cells s.cells.toArray 25 (0, 0))) := ⟨by rw [← hW2]; exact N2.out⟩
  clear hW2 S2 B2 N2
  obtain ⟨x0, x1, x2, x3, x4, x5, x6, x7, x8, x9, x10, x11, x12, x13⟩ := st_cells s N3.out
  have t5 : (s.phase != 5) = false := by rw [H5.out]; rfl
  obtain ⟨tl, Htl⟩ := au told.length
  have htl : tl ≤ 100000 := by have := O4.out; rw [Htl.out] at this; omega
  have CG := Au.mk (gather_calls told O3.out Htl.out htl HG.out W2 S3.out)
  rw [Htl.out]
  go_wp2_with fail
  refine CG.out.mono ?_
  rintro e w3 ⟨A3, c3, rfl, s3, b3⟩
  have S4 := Au.mk (s3.mono (G := fun k => W.heap.size ≤ k) (fun k hk => Nat.le_trans B3.out.size hk))
  have B4 := Au.mk (below_then B3.out b3 B3.out.size)
  clear s3 b3 CG x0 x1 x2 x3 x4 x5 x6 x7 x8 x9 x10 x11 x12 x13
  go_wp2_with fail
  go_ret2
  exact ⟨A3, c3, rfl, S4.out, B4.out⟩
/-- Two lists of nodes: are they the same? -/
theorem same6_calls (l m : List Nd) {r : Bool} (hr : r = true ↔ l = m) {n : Nat} (hn : l.length = n) {k : Nat} (hm : m.length = k) {A B : Option Addr} {c d : Nat} {F G : Nat → Prop} (w : World) (ha : Sl Kd.nd w F A c l) (hb : Sl Kd.nd w G B d m) :
    Calls Tryz.prog 33 #[.slice A n c, .slice B k d] w fun e w' => e = .returned (.bool r) ∧ Drawn w w' := by
  have HR := Au.mk hr
  clear hr
  have hle := ha.le
  have hle2 := hb.le
  rw [hn] at hle
  rw [hm] at hle2
  have Hn := Au.mk hn
  have Hm := Au.mk hm
  have Ha := Au.mk ha
  have Hb := Au.mk hb
  clear ha hb hn hm
  go_enter Tryz.func33, Tryz.ntmps33
  by_cases hnk : n = k
  · subst hnk
    have hne : ((n : Int) != (n : Int)) = false := by simp
    go_wp2_with fail
    go_loopw [5] (fun i wr => ∃ j : Nat, j ≤ n ∧ i = .int .i64 j ∧ Au (l.take j = m.take j) ∧ Drawn w wr) (fun i _ => n - (intOf i).toNat)
    case atStart => exact ⟨0, Nat.zero_le _, rfl, ⟨by simp⟩, Drawn.refl _⟩
    case round =>
      obtain ⟨j, hj, rfl, HT, ⟨nd, rfl⟩⟩ := hrel
      by_cases hlt : j < n
      · obtain ⟨x, hx⟩ : ∃ x, l[j]? = some x := ⟨_, List.getElem?_eq_getElem (by rw [Hn.out]; exact hlt)⟩
        obtain ⟨y, hy⟩ : ∃ x, m[j]? = some x := ⟨_, List.getElem?_eq_getElem (by rw [Hm.out]; exact hlt)⟩
        obtain ⟨-, a1, a2, rfl, f0, f1, f2, f3, f4, f5, f6, f7⟩ := Ha.out.nd_at hx
        obtain ⟨-, b1, b2, rfl, g0, g1, g2, g3, g4, g5, g6, g7⟩ := Hb.out.nd_at hy
        have hq : ∀ W : World, (binOp .neq 23 (.agg #[.string (ofL x.path), .string (ofL x.link), .int .u8 x.kind.toNat, .int .i64 x.mode, .int .i64 x.uid, .int .i64 x.gid, .int .i64 x.mtime, .string (ofL x.data)]) (.agg #[.string (ofL y.path), .string (ofL y.link), .int .u8 y.kind.toNat, .int .i64 y.mode, .int .i64 y.uid, .int .i64 y.gid, .int .i64 y.mtime, .string (ofL y.data)])).run Tryz.prog W = .ok (.bool (!neq x y)) W := fun W => neq_nd x y W
        have hlti : (j : Int) < n := by omega
        have Hx := Au.mk hx
        have Hy := Au.mk hy
        clear hx hy
        cases hxy : neq x y with
        | true =>
          rw [hxy] at hq
          have exy := neq_iff.1 hxy
          have HT2 := Au.mk (show l.take (j + 1) = m.take (j + 1) by rw [List.take_add_one, List.take_add_one, HT.out, Hx.out, Hy.out, exy])
          clear hxy exy
          go_wp2_with fail
          go_quiet (fail)
          go_wp2_with fail
          go_roundw
          case rel => exact ⟨j + 1, by omega, by go_num, HT2, _, rfl⟩
          case measure => simp [intOf]; omega
        | false =>
          rw [hxy] at hq
          have Hne : Au (¬ l = m) := ⟨fun h => by
            have : x = y := by have := Hx.out; rw [h, Hy.out] at this; injection this with this; exact this.symm
            rw [neq_iff.2 this] at hxy; cases hxy⟩
          clear hxy
          go_wp2_with fail
          go_quiet (fail)
          go_wp2_with fail
          obtain rfl : r = false := by cases r with | false => rfl | true => exact (Hne.out (HR.out.1 rfl)).elim
          go_ret
          exact ⟨rfl, Drawn.trans ⟨nd, rfl⟩ ⟨_, rfl⟩⟩
      · have hjn : ¬ (j : Int) < n := by omega
        have hj2 : j = n := by omega
        subst hj2
        have Heq : Au (l = m) := ⟨by have := HT.out; rwa [List.take_of_length_le (by rw [Hn.out]; exact Nat.le_refl _), List.take_of_length_le (by rw [Hm.out]; exact Nat.le_refl _)] at this⟩
        go_wp2_with fail
        obtain rfl : r = true := HR.out.2 Heq.out
        go_ret
        exact ⟨rfl, _, rfl⟩
  · have hne : ((n : Int) != (k : Int)) = true := bne_iff_ne.2 (by omega)
    have Hne : Au (¬ l = m) := ⟨fun h => hnk (by rw [← Hn.out, h, Hm.out])⟩
    go_wp2_with fail
    obtain rfl : r = false := by cases r with | false => rfl | true => exact (Hne.out (HR.out.1 rfl)).elim
    go_ret
    exact ⟨rfl, Drawn.refl _⟩
set_option maxHeartbeats 4000000 in
theorem StripBack_walkN (t : List Nd) (s : St) (hsb : R64 s.b) (more : List (List (List UInt8))) {mm : Nat} (Hmm : Au (more.length = mm)) {Am : Option Addr} {cm : Nat} {H : Nat → Prop} {A Ac : Option Addr} {c cc : Nat} {F G : Nat → Prop} (w : World) (ha : Sl Kd.nd w F A c t) (hs : Sl Kd.int w G Ac cc s.caps) (hm : Sl KBk3 w H Am cm more) (hT : Tab w) :
    Calls Tryz.prog 10 #[.slice A t.length c, s.agg Ac cc, .slice Am mm cm] w fun e w' => e = .returned (.bool true) ∧ Below w.heap.size w w' := by
  have J0 : Au ((w.alloc (.cells (s.cells Ac cc).toArray 50)).heap[w.heap.size]? = some (.cells (s.cells Ac cc).toArray 50 (0, 0))) := ⟨heap_alloc_new _ _⟩
  have e0 := (Below.refl w.heap.size w).alloc (Nat.le_refl _) (.cells (s.cells Ac cc).toArray 50)
  have s0 := Au.mk (hs.old.alloc (.cells (s.cells Ac cc).toArray 50))
  have a0 := Au.mk (ha.old.alloc (.cells (s.cells Ac cc).toArray 50))
  have T0 := Au.mk (hT.below e0)
  have hcc := hs.le
  have htt := ha.le
  have f0 := blk_cell J0.out 0 rfl
  have f1 := blk_cell J0.out 1 rfl
  have f2 := blk_cell J0.out 2 rfl
  obtain ⟨one, Hone⟩ := au (fewT t)
  obtain ⟨two, Htwo⟩ := au (fewS s)
  have F16 := Au.mk (fun W : World => few16_calls s Htwo.out (A := Ac) (c := cc) W)
  have CS := Au.mk (fun (hS : AllS t) (l : List (List (List UInt8))) (en : Int) (h : vsplit t s = (l, en)) (W : World) (hT : Tab W) (h1 : Sl Kd.nd W (fun k => F k ∧ k < w.heap.size) A c t) (h2 : Sl Kd.int W (fun k => G k ∧ k < w.heap.size) Ac cc s.caps) => split_calls t hS s h W hT h1 h2)
  unfold St.agg at F16 CS ⊢
  unfold St.cells at f0 f1 f2 e0 s0 J0 a0 T0
  clear ha hs hT
  have hcm := hm.le
  rw [Hmm.out] at hcm
  have HM := Au.mk hm.old
  clear hm
  go_enter Tryz.func10, Tryz.ntmps10
  go_wp2_with fail
  refine (awake17_calls _ T0.out).mono ?_
  rintro e w1 ⟨rfl, b1⟩
  have e1 := below_then e0 b1 e0.size
  have J1 := Au.mk (blk_below J0.out b1 (lt_of_block J0.out))
  have T1 := Au.mk (T0.out.below b1)
  have a1 := Au.mk (a0.out.below b1)
  have s1 := Au.mk (s0.out.below b1)
  clear f0 f1 f2 b1
  have f0 := blk_cell J1.out 0 rfl
  have f1 := blk_cell J1.out 1 rfl
  have f2 := blk_cell J1.out 2 rfl
  go_wp2_with fail
  refine (few06_calls t Hone.out _ a1.out).mono ?_
  rintro e w2 ⟨rfl, b2⟩
  have e2 := below_then e1 b2 e1.size
  have J2 := Au.mk (blk_below J1.out b2 (lt_of_block J1.out))
  have T2 := Au.mk (T1.out.below b2)
  have a2 := Au.mk (a1.out.below b2)
  have s2 := Au.mk (s1.out.below b2)
  clear f0 f1 f2 b2
  have f0 := blk_cell J2.out 0 rfl
  have f1 := blk_cell J2.out 1 rfl
  have f2 := blk_cell J2.out 2 rfl
  go_wp2_with fail
  refine (F16.out _).mono ?_
  rintro e w3 ⟨rfl, b3⟩
  have e3 := below_then e2 b3 e2.size
  have J3 := Au.mk (blk_below J2.out b3 (lt_of_block J2.out))
  have T3 := Au.mk (T2.out.below b3)
  have a3 := Au.mk (a2.out.below b3)
  have s3 := Au.mk (s2.out.below b3)
  clear f0 f1 f2 b3
  have f0 := blk_cell J3.out 0 rfl
  have f1 := blk_cell J3.out 1 rfl
  have f2 := blk_cell J3.out 2 rfl
  cases one
  · go_wp2_with fail
    go_ret
    exact ⟨rfl, e3⟩
  cases two
  · go_wp2_with fail
    go_ret
    exact ⟨rfl, e3⟩
  have hS := (few_all Hone.out).1
  have ht30 := (few_all Hone.out).2
  by_cases hmm : (15 : Int) < (mm : Int)
  · go_wp2_with fail
    go_ret
    exact ⟨rfl, e3⟩
  obtain ⟨⟨l, en⟩, Hl⟩ := au (vsplit t s)
  obtain ⟨ll, Hll⟩ := au l.length
  obtain ⟨al, Hal⟩ := au (sall t)
  obtain ⟨m, Hm⟩ := au al.length
  have VL := Au.mk (vols_len Hl.out)
  have hl20 : ll ≤ 20 := by
    have h1 := (room_ok Hl.out).1
    have h2 : s.caps.length ≤ 20 := by
      have := Htwo.out
      unfold fewS at this
      simp only [Bool.and_eq_true, decide_eq_true_eq] at this
      exact this.2
    rw [← Hll.out]; omega
  go_wp2_with fail
  refine (CS.out hS l en Hl.out _ T3.out a3.out s3.out).mono ?_
  rintro e w4 ⟨A4, c4, rfl, v4, b4⟩
  rw [Hll.out]
  have V4 := Au.mk v4
  have z34 := b4.size
  have e4 := below_then e3 b4 e3.size
  have J4 := Au.mk (blk_below J3.out b4 (lt_of_block J3.out))
  have T4 := Au.mk (T3.out.below b4)
  have a4 := Au.mk (a3.out.below b4)
  have s4 := Au.mk (s3.out.below b4)
  clear f0 f1 f2 b4
  have f0 := blk_cell J4.out 0 rfl
  have f1 := blk_cell J4.out 1 rfl
  have f2 := blk_cell J4.out 2 rfl
  clear v4
  by_cases h1 : en ≠ 0
  · have t1 : (en != 0) = true := bne_iff_ne.2 h1
    clear h1
    go_wp2_with fail
    go_ret
    exact ⟨rfl, e4⟩
  have h1 : en = 0 := Decidable.not_not.1 h1
  subst h1
  obtain ⟨htm, -⟩ := (stream_ok Hl.out).2 (by decide)
  have hm1000 : m ≤ 1000 := by have := (sall_len htm).2; rw [Hal.out, Hm.out] at this; omega
  have RT := run_tree htm
  rw [Hal.out, Hm.out] at RT
  have hsa : sstrip s.label l = (sZ 5, al, 0) := by have := strip_all Hl.out []; rw [List.append_nil, Hal.out] at this; exact this
  have Htk : (l ++ more).take ll = l := by rw [← Hll.out, List.take_left]
  have hB : ∀ v ∈ (l ++ more).take ll, v.length ≤ 4000 := by rw [Htk]; exact VL.out
  have hst : (sloop s.label ps0 0 ((l ++ more).take ll)).1.phase = 5 := by
    rw [Htk]
    have : (sstrip s.label l).1 = (sloop s.label ps0 0 l).1 := rfl
    rw [← this, hsa]; rfl
  have hLN : (l ++ more).length = ll + mm := by rw [List.length_append, Hll.out, Hmm.out]
  have hmmN : mm ≤ 15 := by omega
  have C9 := Au.mk (fun (W : World) (hT : Tab W) (F' : Nat → Prop) (A' : Option Addr) (c' : Nat) (h : Sl KBk3 W F' A' c' (l ++ more)) => Strip_calls s.label (l ++ more) hLN (by omega : ll ≤ ll + mm) (by omega) hB (.inr (.inr hst)) (show sstrip s.label ((l ++ more).take ll) = (sZ 5, al, 0) by rw [Htk]; exact hsa) W hT h)
  have RT' := Au.mk RT
  have Htm := Au.mk htm
  have hmx : Tryz.prog.follows .mixedOrders = true := by kernel_rfl
  clear RT hsa Htk hB hst htm
  go_wp2_with fail
  refine (sall_calls t hS Hal.out Htm.out _ a4.out).mono ?_
  rintro e w5 ⟨A5, c5, rfl, u5, b5⟩
  rw [Hm.out]
  have U5 := Au.mk u5
  have V5 := Au.mk (V4.out.below b5)
  have e5 := below_then e4 b5 e4.size
  have J5 := Au.mk (blk_below J4.out b5 (lt_of_block J4.out))
  have T5 := Au.mk (T4.out.below b5)
  have a5 := Au.mk (a4.out.below b5)
  have s5 := Au.mk (s4.out.below b5)
  clear f0 f1 f2
  have f0 := blk_cell J5.out 0 rfl
  have f1 := blk_cell J5.out 1 rfl
  have f2 := blk_cell J5.out 2 rfl
  clear u5 f0 f1 f2 V4
  have z35 : w3.heap.size ≤ w5.heap.size := Nat.le_trans z34 b5.size
  have z05 : w.heap.size ≤ w5.heap.size := e5.size
  have HM5 := Au.mk (HM.out.below e5)
  go_upto_region 10 with fail
  refine Code.wp_mono Calm.imp ?_
  refine region_tre (fun w' => BlkIs w' w.heap.size #[.string (ofL s.label), .int .i64 s.b, .slice Ac s.caps.length cc] 50) (Ord.rds [0, 1, 2, 4] (.now 3 (.now 5 (.now 6 (Ord.rds [7, 8, 9, 10, 11] .stop))))) hmx (by kernel_rfl) ⟨J5.out⟩ ?_
  iterate 4
    refine ordX_rd rfl ⟨?_, Or.inl ⟨by rfl, fun w' hw' => ?_⟩, ?_⟩
    rotate_left 1
    · skip
      have q0 := blk_cell hw'.out 0 rfl
      have q1 := blk_cell hw'.out 1 rfl
      have q2 := blk_cell hw'.out 2 rfl
      clear hw'
      go_simp
      all_goals (with_reducible rfl)
    try simp only [Act.put, List.getElem_toArray, List.getElem_cons_succ, List.getElem_cons_zero, List.setIfInBounds_toArray, List.set_cons_zero, List.set_cons_succ]
  refine ordX_now rfl (by rfl) ?_
  refine wp_append_rowD (d := KBk3) w5.drew (G := (fun k => w3.heap.size ≤ k ∨ (H k ∧ k < w.heap.size))) (F2 := fun k => w3.heap.size ≤ k) (base := w5.heap.size) (xs := []) (ys := l) etVols _ _ rfl rfl (RowD.nil _ _ _ _) rfl Hll.out.symm (V5.out.drewN 1).els (fun k hk => .inl (.inl hk)) (fun g hg => by cases hg) (by simp only [maxLen, List.length_nil]; rw [Hll.out]; omega) (by simp only [List.length_nil]; rw [Hll.out]; omega) (Nat.le_refl _) ?_
  intro v7 w7 hr7 hg7 ho7
  have hg7' : w5.drew.grownBy w7 none := hg7
  have B7 : Au (Below w5.heap.size w5 w7) := ⟨(below_drewN (Below.refl _ _) 1).grown hg7' (Nat.le_refl _) (fun g hg => by cases hg)⟩
  have HM7 := Au.mk (HM5.out.below B7.out)
  have hL7 := Au.mk hr7.low
  rw [List.nil_append] at hr7
  obtain ⟨A7, c7, rfl⟩ := hr7.form
  rw [Hll.out]
  have R7 := Au.mk hr7
  rw [Hll.out] at R7 hL7
  have z7 : w5.heap.size ≤ w7.heap.size := B7.out.size
  clear hr7 hg7 ho7 hg7'
  refine ⟨⟨blk_below J5.out B7.out (lt_of_block J5.out)⟩, ?_⟩
  try simp only [Act.put, List.getElem_toArray, List.getElem_cons_succ, List.getElem_cons_zero, List.setIfInBounds_toArray, List.set_cons_zero, List.set_cons_succ]
  refine ordX_now rfl (by rfl) ?_
  refine wp_append_rowD (d := KBk3) w7 (G := (fun k => w3.heap.size ≤ k ∨ (H k ∧ k < w.heap.size))) (F2 := fun k => H k ∧ k < w.heap.size) (base := w5.heap.size) (xs := l) (ys := more) etVols _ _ rfl rfl R7.out rfl Hmm.out.symm HM7.out.els (fun k hk => .inl (.inr hk)) (fun g hg hk => by have := hL7.out g hg; have := hk.2; omega) (by simp only [maxLen]; rw [Hll.out, Hmm.out]; omega) (by rw [Hll.out, Hmm.out]; omega) z7 ?_
  intro v8 w8 hr8 hg8 ho8
  have B8 : Au (Below w5.heap.size w5 w8) := ⟨B7.out.grown hg8 z7 (fun g hg => hL7.out g hg)⟩
  obtain ⟨A8, c8, rfl, s8⟩ := hr8.sl
  rw [hLN]
  have S8 := Au.mk s8
  clear hr8 hg8 ho8 s8
  refine ⟨⟨blk_below J5.out B8.out (lt_of_block J5.out)⟩, ?_⟩
  try simp only [Act.put, List.getElem_toArray, List.getElem_cons_succ, List.getElem_cons_zero, List.setIfInBounds_toArray, List.set_cons_zero, List.set_cons_succ]
  refine ordX_now rfl (by rfl) ?_
  go_simp
  refine (C9.out _ (T5.out.below B8.out) _ _ _ S8.out).mono ?_
  rintro e w9 ⟨A9, c9, rfl, s9, b9⟩
  rw [Hm.out]
  have b9' := below_then B8.out b9 B8.out.size
  have S9 := Au.mk (s9.mono (G := fun k => w5.heap.size ≤ k) (fun k hk => Nat.le_trans B8.out.size hk))
  have J9 := Au.mk (blk_below J5.out b9' (lt_of_block J5.out))
  have a9 := Au.mk (a5.out.below b9')
  have U9 := Au.mk (U5.out.below b9')
  have e9 := below_then e5 b9' e5.size
  clear b9 b9' s9 C9
  refine ⟨⟨J9.out⟩, ?_⟩
  iterate 5
    refine ordX_rd rfl ⟨?_, Or.inl ⟨by rfl, fun w' hw' => ?_⟩, ?_⟩
    rotate_left 1
    · skip
      clear hw'
      go_simp
      all_goals (with_reducible rfl)
    try simp only [Act.put, List.getElem_toArray, List.getElem_cons_succ, List.getElem_cons_zero, List.setIfInBounds_toArray, List.set_cons_zero, List.set_cons_succ]
  refine ordX_stop ?_
  simp only [wpList, Calm]
  have CRD := Au.mk (read_calls al Hm.out (by omega) RT'.out rfl (gather_tree t) w9 S9.out)
  go_wp2_with fail
  refine CRD.out.mono ?_
  rintro e w10 ⟨A10, c10, rfl, s10, b10⟩
  have S10 := Au.mk s10
  have S9' := Au.mk (S9.out.below b10)
  have U10 := Au.mk (U9.out.below b10)
  have a10 := Au.mk (a9.out.below b10)
  have e10 := below_then e9 b10 e9.size
  clear s10 b10 CRD
  have C3 := Au.mk (same3_calls al Hm.out w10 S9'.out U10.out)
  go_wp2_with fail
  refine C3.out.mono ?_
  rintro e w11 ⟨rfl, ⟨nd, rfl⟩⟩
  have C6 := Au.mk (same6_calls t t (r := true) ⟨fun _ => rfl, fun _ => rfl⟩ rfl rfl (w10.drewN nd) (S10.out.drewN nd) (a10.out.drewN nd))
  clear C3
  go_wp2_with fail
  refine C6.out.mono ?_
  rintro e w12 ⟨rfl, ⟨nd2, rfl⟩⟩
  go_wp2_with fail
  go_ret
  exact ⟨rfl, below_drewN e10 (nd + nd2)⟩
theorem StripBack_walk (t : List Nd) (s : St) (hsb : R64 s.b) (more : List (List (List UInt8))) {A Ac Am : Option Addr} {c cc cm : Nat} {F G H : Nat → Prop} (w : World) (ha : Sl Kd.nd w F A c t) (hs : Sl Kd.int w G Ac cc s.caps) (hm : Sl KBk3 w H Am cm more) (hT : Tab w) :
    Calls Tryz.prog 10 #[.slice A t.length c, s.agg Ac cc, .slice Am more.length cm] w fun e w' => e = .returned (.bool true) ∧ Below w.heap.size w w' :=
  StripBack_walkN t s hsb more ⟨rfl⟩ w ha hs hm hT
theorem opens_vol : Opens Tryz.prog 53 (Kd.slice KBk3) := opens_slice Tryz.underlying53 opens_rows (by kernel_rfl) (by decide)
end Go.Proofs.YtldhcknjpmbgnaaGreatDoor.Rk
