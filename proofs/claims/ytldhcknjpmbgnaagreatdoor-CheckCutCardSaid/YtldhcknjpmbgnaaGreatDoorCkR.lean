/- Check: the blocks of records: a loop over a function inside of a loop. -/
import Derived.Test.YtldhcknjpmbgnaaGreatDoorCkB
namespace Go.Proofs.YtldhcknjpmbgnaaGreatDoor.Rk
open Go.RowKit Go.Shelf
attribute [local go_sem] Oper.semAt_some
set_option linter.unusedVariables false
set_option linter.unusedSimpArgs false
set_option maxRecDepth 100000

/-! ### a row whose memory lies in a set of blocks -/
section
variable {α : Type} {d : Kd α} {w W : World} {H H' : Nat → Prop} {base : Nat} {v : Value} {xs ys : List α}
/-- v is a row of the call's own, of the elements xs; what it and its elements lean on lies in H. -/
def RowG {α : Type} (d : Kd α) (w : World) (H : Nat → Prop) (base : Nat) (v : Value) (xs : List α) : Prop :=
  ∃ (F : Nat → Prop) (vs : List Value), (∀ k, F k → H k ∧ k < w.heap.size) ∧ (∀ g, v.ownBlock = some g → ¬ F g ∧ H g) ∧ Row w base d.sz v xs.length vs ∧ ∀ W, Keeps F w W → Reps d W xs vs
theorem RowG.nil (d : Kd α) (w : World) (H : Nat → Prop) (base : Nat) : RowG d w H base (.slice none 0 0) [] :=
  ⟨fun _ => False, [], fun k h => h.elim, fun g h => by simp [Value.ownBlock] at h, Row.nil _ _ _, fun W _ => rfl⟩
theorem RowG.keep (h : RowG d w H base v xs) (hk : ∀ k, H k → k < w.heap.size → W.heap[k]? = w.heap[k]?) (hs : w.heap.size ≤ W.heap.size) : RowG d W H base v xs := by
  obtain ⟨F, vs, h1, h2, h3, h4⟩ := h
  refine ⟨F, vs, fun k hk => ⟨(h1 k hk).1, Nat.lt_of_lt_of_le (h1 k hk).2 hs⟩, h2, h3.keep (fun g hg => hk g (h2 g hg).2 (h3.block g hg).2) hs, fun V hV => h4 V ?_⟩
  intro k hF hlt
  exact (hV k hF (Nat.lt_of_lt_of_le hlt hs)).trans (hk k (h1 k hF).1 hlt)
theorem RowG.below (h : RowG d w H base v xs) (hb : Below w.heap.size w W) : RowG d W H base v xs := h.keep (fun k _ hlt => hb.block k hlt) hb.size
theorem RowG.alloc (h : RowG d w H base v xs) (o : Obj) : RowG d (w.alloc o) H base v xs := h.keep (fun k _ hlt => Below.heap_alloc w o k hlt) (by simp)
theorem RowG.mono (h : RowG d w H base v xs) (hH : ∀ k, H k → k < w.heap.size → H' k) : RowG d w H' base v xs := by
  obtain ⟨F, vs, h1, h2, h3, h4⟩ := h
  exact ⟨F, vs, fun k hk => ⟨hH k (h1 k hk).1 (h1 k hk).2, (h1 k hk).2⟩, fun g hg => ⟨(h2 g hg).1, hH g (h2 g hg).2 (h3.block g hg).2⟩, h3, h4⟩
theorem RowG.own (h : RowG d w H base v xs) {g : Nat} (hg : v.ownBlock = some g) : H g ∧ g < w.heap.size ∧ base ≤ g := by
  obtain ⟨F, vs, h1, h2, h3, h4⟩ := h
  exact ⟨(h2 g hg).2, (h3.block g hg).2, (h3.block g hg).1⟩
theorem RowG.sl (h : RowG d w H base v xs) : ∃ A c, v = .slice A xs.length c ∧ Sl d w (fun k => H k ∨ base ≤ k) A c xs := by
  obtain ⟨F, vs, h1, h2, h3, h4⟩ := h
  obtain ⟨A, c, rfl, hn, hc, _, hv⟩ := h3.form
  exact ⟨A, c, rfl, hn, hc, vs, fun W hW => ⟨hv W (hW.mono fun k hk => .inr hk), h4 W (hW.mono fun k hk => .inl (h1 k hk).1)⟩⟩
/-- One more element that is a slice. -/
theorem RowG.more {β : Type} {d : Kd β} {xs : List (List β)} {x : List β} {w' : World} {v' : Value} {F : Nat → Prop} {vs : List Value} {F2 : Nat → Prop} {A : Option Addr} {c : Nat} (h1 : ∀ k, F k → H k ∧ k < w.heap.size) (h2 : ∀ g, v.ownBlock = some g → ¬ F g ∧ H g)
    (h4 : ∀ W, Keeps F w W → Reps (Kd.slice d) W xs vs) (hx : Sl d w F2 A c x) (hF2 : ∀ k, F2 k → H k) (hown : ∀ g, v.ownBlock = some g → ¬ F2 g) (hH : ∀ k, w.heap.size ≤ k → H k)
    (hrow : Row w' base 1 v' (xs.length + 1) (vs ++ [.slice A x.length c])) (hg : w.grownBy w' v.ownBlock) (hv : v'.ownBlock = v.ownBlock ∨ ∀ g, v'.ownBlock = some g → w.heap.size ≤ g) :
    RowG (Kd.slice d) w' H base v' (xs ++ [x]) := by
  have hk : Keeps (fun k => F k ∨ (F2 k ∧ k < w.heap.size)) w w' := .grown hg (fun g hg' => by
    rintro (hk | ⟨hk, _⟩)
    · exact (h2 g hg').1 hk
    · exact hown g hg' hk)
  refine ⟨fun k => F k ∨ (F2 k ∧ k < w.heap.size), vs ++ [.slice A x.length c], fun k hk => ?_, ?_, by rw [List.length_append, List.length_singleton]; exact hrow, fun W hW => ?_⟩
  · rcases hk with hk | ⟨hk, hlt⟩
    · exact ⟨(h1 k hk).1, Nat.lt_of_lt_of_le (h1 k hk).2 hg.size⟩
    · exact ⟨hF2 k hk, Nat.lt_of_lt_of_le hlt hg.size⟩
  · intro g hg'
    rcases hv with hv | hv
    · rw [hv] at hg'
      refine ⟨?_, (h2 g hg').2⟩
      rintro (hk | ⟨hk, _⟩)
      · exact (h2 g hg').1 hk
      · exact hown g hg' hk
    · have := hv g hg'
      refine ⟨?_, hH g this⟩
      rintro (hk | ⟨_, hlt⟩)
      · have := (h1 g hk).2; omega
      · omega
  · have := hk.trans hg.size hW
    exact (h4 W (this.mono fun k hk => .inl hk)).append (Reps.single (hx.elem W fun k hk hlt => this k (.inr ⟨hk, hlt⟩) hlt))
end
theorem tape_recs {t : Tp} (h : tapeMay t = true) : (∀ r ∈ t.recs, recMay r = true) ∧ t.recs.length ≤ 200 := by
  unfold tapeMay at h
  simp only [Bool.and_eq_true, decide_eq_true_eq, List.all_eq_true] at h
  exact ⟨h.2.2.2, by omega⟩
theorem rblocks_len {rs : List (List UInt8)} (h : ∀ r ∈ rs, recMay r = true) : (rblocks rs).length ≤ rs.length * 20 := by
  induction rs with
  | nil => simp [rblocks]
  | cons r rs ih =>
    have h1 := h r List.mem_cons_self
    have h2 := ih fun x hx => h x (List.mem_cons_of_mem _ hx)
    unfold recMay at h1
    simp only [Bool.and_eq_true, decide_eq_true_eq, beq_iff_eq] at h1
    have h3 := chunk_len (r.length / 512) r (by omega)
    unfold rblocks at h2 ⊢
    rw [List.map_cons, List.flatten_cons, List.length_append, List.length_cons, h3]
    omega

/-- What the inner loop of Blocks holds. -/
structure BlkI (w : World) (A : Option Addr) (c : Nat) (F : Nat → Prop) (rs : List (List UInt8)) (b o cr : Nat) (r : List UInt8) (done : List (List UInt8)) (n nb : Nat) (Ds : List Nat) (rd : Loop) (k : Nat) (W : World) : Prop where
  box : W.heap[nb]? = some (.cells #[.slice (some ⟨b, o, none⟩) r.length cr] 46 (0, 0))
  box2 : W.heap[nb + 1]? = some (.cells #[.int .i64 512] 3 (0, 0))
  rcs : Sl Kd.byte W F (some ⟨b, o, none⟩) cr r
  rows : Sl (Kd.slice Kd.byte) W F A c rs
  out : ∃ v, W.heap[n]? = some (.cells #[v] 36 (0, 0)) ∧ RowG (Kd.slice Kd.byte) W (fun k => n < k ∧ k ∉ Ds ∧ (k < nb ∨ nb + 3 < k)) (n + 1) v (done ++ (chunkN 512 r).take k)
  rcd : Rcd W (nb + 3) (nb + 2) rd
  mks : Mks (n + 1) W Ds
  bel : Below w.heap.size w W
theorem BlkI.below {w : World} {A : Option Addr} {c : Nat} {F : Nat → Prop} {rs : List (List UInt8)} {b o cr : Nat} {r : List UInt8} {done : List (List UInt8)} {n nb : Nat} {Ds : List Nat} {rd : Loop} {k : Nat} {W V : World}
    (h : BlkI w A c F rs b o cr r done n nb Ds rd k W) (hb : Below W.heap.size W V) : BlkI w A c F rs b o cr r done n nb Ds rd k V := by
  obtain ⟨v, h3, h4⟩ := h.out
  exact ⟨blk_below h.box hb (lt_of_block h.box), blk_below h.box2 hb (lt_of_block h.box2), h.rcs.below hb, h.rows.below hb, ⟨v, blk_below h3 hb (lt_of_block h3), h4.below hb⟩, h.rcd.below hb, h.mks.below hb, below_then h.bel hb h.bel.size⟩
/-- The loop's record turns. -/
theorem BlkI.turn {w : World} {A : Option Addr} {c : Nat} {F : Nat → Prop} {rs : List (List UInt8)} {b o cr : Nat} {r : List UInt8} {done : List (List UInt8)} {n nb : Nat} {Ds : List Nat} {rd : Loop} {k : Nat} {W : World}
    (h : BlkI w A c F rs b o cr r done n nb Ds rd k W) (hn : n < nb) (hw : w.heap.size = n) (hF : ∀ k, F k → k < n) (hD : ∀ D ∈ Ds, D < nb) (rd' : Loop) : BlkI w A c F rs b o cr r done n nb Ds rd' k (W.putObj (nb + 3) (.loop rd')) := by
  obtain ⟨v, h3, h4⟩ := h.out
  have ho : ∀ j, j ≠ nb + 3 → (W.putObj (nb + 3) (.loop rd')).heap[j]? = W.heap[j]? := fun j hj => World.putObj_heap_other hj
  exact ⟨(ho _ (by omega)).trans h.box, (ho _ (by omega)).trans h.box2, h.rcs.keep (fun k hk _ => ho k (by have := hF k hk; omega)) (by simp), h.rows.keep (fun k hk _ => ho k (by have := hF k hk; omega)) (by simp),
    ⟨v, (ho _ (by omega)).trans h3, h4.keep (fun k hk _ => ho k (by omega)) (by simp)⟩, h.rcd.turn rd' (by omega), h.mks.keep (fun D hD' => ho D (by have := hD D hD'; omega)), below_putObj h.bel (by omega) (by have := h.bel.size; omega) _⟩
/-- What the outer loop of Blocks holds. -/
def BlkO (w : World) (A : Option Addr) (c : Nat) (F : Nat → Prop) (rs : List (List UInt8)) (n : Nat) (Ds : List Nat) (i : Nat) (W : World) : Prop :=
  (∃ v, W.heap[n]? = some (.cells #[v] 36 (0, 0)) ∧ RowG (Kd.slice Kd.byte) W (fun k => n < k ∧ k ∉ Ds) (n + 1) v (rblocks (rs.take i))) ∧ Sl (Kd.slice Kd.byte) W F A c rs ∧ Mks (n + 1) W Ds ∧ Below w.heap.size w W
theorem wpIn_loop_act {P : Program} {Q : Exit → Act → World → Prop} {a : Act} {w : World} {c : Code} (I : Act → World → Prop) (μ : Act → World → Nat) (h₀ : I a w)
    (round : ∀ a w, I a w → c.wp P (Exit.then (fun a' w' => I a' w' ∧ μ a' w' < μ a w) Q) a w) : (Code.loop c).wp P Q a w :=
  (wpIn_wide (n := 0)).1 (wpIn_loop I μ h₀ fun a w h => wpIn_wide.2 (round a w h))
set_option maxHeartbeats 4000000 in
theorem rblocks_calls (rs : List (List UInt8)) {m : Nat} (hm : rs.length = m) (hr : (∀ r ∈ rs, recMay r = true) ∧ rs.length ≤ 200) {l : List (List UInt8)} (hl : rblocks rs = l) {A : Option Addr} {c : Nat} {F : Nat → Prop} (w : World) (ha : Sl (Kd.slice Kd.byte) w F A c rs) :
    Calls Tryz.prog 41 #[.slice A m c] w fun e w' => ∃ A' c', e = .returned (.tuple #[.slice A' l.length c', .bool true]) ∧ Sl (Kd.slice Kd.byte) w' (fun j => w.heap.size ≤ j) A' c' l ∧ Below w.heap.size w w' := by
  have Hm := Au.mk hm
  have Hr := Au.mk hr
  have hle := ha.le
  rw [hm] at hle
  have hb0 := (Below.refl w.heap.size w).alloc (Nat.le_refl _) (.cells #[.slice none 0 0] 36)
  have hn0 : (w.alloc (.cells #[.slice none 0 0] 36)).heap[w.heap.size]? = some (.cells #[.slice none 0 0] 36 (0, 0)) := heap_alloc_new _ _
  have J0 : Au (BlkO w A c (fun k => F k ∧ k < w.heap.size) rs w.heap.size [] 0 (w.alloc (.cells #[.slice none 0 0] 36))) := ⟨⟨_, hn0, by simp only [rblocks, List.take_zero, List.map_nil, List.flatten_nil]; exact RowG.nil _ _ _ _⟩, ha.old.alloc _, Mks.nil _ _, hb0⟩
  have hlast : rblocks (rs.take m) = l := by rw [List.take_of_length_le (by omega)]; exact hl
  have Hlast := Au.mk hlast
  have hrl := rblocks_len hr.1
  have hmx : Tryz.prog.follows .mixedOrders = true := by kernel_rfl
  obtain ⟨ll, Ll⟩ := au l.length
  rw [Ll.out]
  clear hm hr hl ha hlast hb0 hn0
  refine (callsIn_wide (n := 0)).1 ?_
  refine callsIn_of_wp_marks Tryz.func41 rfl trivial (wpIn_wide.2 ?_) rfl
  simp only [Tryz.ntmps41, List.size_toArray, List.length_cons, List.length_nil, Nat.reduceAdd, Nat.reduceSub, Array.replicate_succ, Array.replicate_zero, List.push_toArray, List.append_toArray, List.nil_append, List.cons_append]
  go_upto_region 3 with fail
  obtain ⟨n, Hn⟩ := au w.heap.size
  generalize w.alloc (.cells #[.slice none 0 0] 36) = W0 at J0 ⊢
  rw [Hn.out] at J0 ⊢
  refine wpIn_loop_act (fun a W => ∃ (u6 u7 u11 u12 u13 u14 u15 u16 u17 u18 u19 u20 u21 u22 u23 u24 u25 : Value) (Ds : List Nat) (i : Nat), i ≤ m ∧ Au (BlkO w A c (fun k => F k ∧ k < n) rs n Ds i W) ∧ a = { tmps := #[.slice A m c, undef, .slice none 0 0, .bool false, .pointer (some ⟨n, 0, none⟩), undef, u6, u7, .slice A m c, .int .i64 (m : Int), .int .i64 (i : Int), u11, u12, u13, u14, u15, u16, u17, u18, u19, u20, u21, u22, u23, u24, u25, undef], defers := mkd Ds }) (fun a _ => m - (intOf (a.tmps.getD 10 undef)).toNat) ?_ ?_
  · exact ⟨_, _, _, _, _, _, _, _, _, _, _, _, _, _, _, _, _, [], 0, Nat.zero_le _, J0, rfl⟩
  · rintro a wr ⟨u6, u7, u11, u12, u13, u14, u15, u16, u17, u18, u19, u20, u21, u22, u23, u24, u25, Ds, i, hi, HJ, rfl⟩
    by_cases hlt : i < m
    · obtain ⟨x, hx⟩ : ∃ x, rs[i]? = some x := ⟨_, List.getElem?_eq_getElem (by have := Hm.out; omega)⟩
      obtain ⟨⟨v, o1, g1⟩, s1, k1, b1⟩ := HJ.out
      obtain ⟨ba, oa, Ax, cx, rfl, ck, sx⟩ := s1.slice_at hx
      have hrm := Hr.out.1 x (List.mem_of_getElem? hx)
      obtain ⟨q, hq, hq1, hq20⟩ : ∃ q, x.length = q * 512 ∧ 1 ≤ q ∧ q ≤ 20 := by
        have h := hrm
        unfold recMay at h
        simp only [Bool.and_eq_true, decide_eq_true_eq, beq_iff_eq] at h
        exact ⟨x.length / 512, by omega, h.2.1, h.2.2⟩
      obtain ⟨b, o, rfl⟩ := sx.addr (by decide) (by rintro rfl; simp at hq; omega)
      obtain ⟨xl, Xl⟩ := au x.length
      have hxl := sx.le
      have hxc := sx.1
      have hxm := sx.2.1
      have Hq := Au.mk hq
      have Hx := Au.mk hx
      have C1 := Au.mk (recMay_calls x Xl.out (by have := Xl.out; omega) hrm (A := some ⟨b, o, none⟩) (c := cx) wr)
      have C2 := Au.mk (chunk_calls (some ⟨b, o, none⟩) xl cx wr)
      rw [Xl.out] at ck
      clear hq hx hrm hxl
      go_wp2_with fail
      refine C1.out.mono ?_
      rintro e w' ⟨rfl, rfl⟩
      go_wp2_with fail
      refine C2.out.mono ?_
      rintro e w' ⟨rfl, rfl⟩
      go_wp2_with fail
      have hsz2 : ((wr.alloc (.cells #[.slice (some ⟨b, o, none⟩) xl cx] 46)).alloc (.cells #[.int .i64 512] 3)).heap.size = wr.heap.size + 2 := by simp
      have hb2 : Below wr.heap.size wr ((wr.alloc (.cells #[.slice (some ⟨b, o, none⟩) xl cx] 46)).alloc (.cells #[.int .i64 512] 3)) := ((Below.refl _ _).alloc (Nat.le_refl _) _).alloc (by simp) _
      have hx2 : ((wr.alloc (.cells #[.slice (some ⟨b, o, none⟩) xl cx] 46)).alloc (.cells #[.int .i64 512] 3)).heap[wr.heap.size]? = some (.cells #[.slice (some ⟨b, o, none⟩) xl cx] 46 (0, 0)) := blk_alloc (heap_alloc_new _ _) _
      have hx3 : ((wr.alloc (.cells #[.slice (some ⟨b, o, none⟩) xl cx] 46)).alloc (.cells #[.int .i64 512] 3)).heap[wr.heap.size + 1]? = some (.cells #[.int .i64 512] 3 (0, 0)) := by
        have := heap_alloc_new (wr.alloc (.cells #[.slice (some ⟨b, o, none⟩) xl cx] 46)) (.cells #[.int .i64 512] 3)
        rwa [World.size_alloc] at this
      have hon := lt_of_block o1
      obtain ⟨nb, Hnb⟩ := au wr.heap.size
      have hDs : ∀ D ∈ Ds, D < nb := fun D hD => by have := k1.lt hD; have := Hnb.out; omega
      have hFn : ∀ k, (F k ∧ k < n) → k < n := fun k hk => hk.2
      have hown : ∀ W1 : World, Below wr.heap.size wr W1 → RowG (Kd.slice Kd.byte) W1 (fun k => n < k ∧ k ∉ Ds ∧ (k < nb ∨ nb + 3 < k)) (n + 1) v (rblocks (rs.take i) ++ (chunkN 512 x).take 0) := fun W1 hW1 => by
        rw [List.take_zero, List.append_nil]
        exact (g1.mono (H' := fun k => n < k ∧ k ∉ Ds ∧ (k < nb ∨ nb + 3 < k)) (fun k hk hlt => ⟨hk.1, hk.2, .inl (by rw [← Hnb.out]; exact hlt)⟩)).below hW1
      generalize (wr.alloc (.cells #[.slice (some ⟨b, o, none⟩) xl cx] 46)).alloc (.cells #[.int .i64 512] 3) = W2 at hsz2 hb2 hx2 hx3 ⊢
      rw [Hnb.out] at hsz2 hx2 hx3 hon ⊢
      refine (wpIn_wide (n := 0)).1 ?_
      refine over_in rfl (enters_of Tryz.func109 (by kernel_rfl) rfl) ?_
      intro rd fn W1 Hrd hb3 hz3 hR
      rw [hsz2] at hR hb3 hz3 Hrd ⊢
      have hb13 : Below wr.heap.size wr W1 := below_then hb2 (by rw [hsz2]; exact hb3) hb2.size
      have hJ0 : BlkI w (some ⟨ba, oa, none⟩) c (fun k => F k ∧ k < n) rs b o cx x (rblocks (rs.take i)) n nb Ds (rd .ready none) 0 W1 :=
        ⟨by rw [Xl.out]; exact (hb3.block _ (by omega)).trans hx2, (hb3.block _ (by omega)).trans hx3, sx.below hb13, s1.below hb13, ⟨v, (hb13.block _ (by rw [Hnb.out]; exact hon)).trans o1, hown W1 hb13⟩, hR, k1.below hb13, below_then b1 hb13 b1.size⟩
      have Xq : Au ((chunkN 512 x).length = q) := ⟨chunk_len q x Hq.out⟩
      refine (chunk_walk (L := nb + 3) (n := nb) x q Hq.out (by omega) hxm (fun k W => BlkI w (some ⟨ba, oa, none⟩) c (fun k => F k ∧ k < n) rs b o cx x (rblocks (rs.take i)) n nb Ds (rd .ready none) k W) (fun k W h => ⟨h.box, h.box2⟩) (fun k W V h hb => h.below hb) ?_ W1 hJ0).mono ?_
      · intro k p W hk hp hJ
        have hDn : Rcd W (nb + 3) (nb + 2) (rd .ready none) := hJ.rcd
        refine over_round Hrd hDn rfl ?_
        have Jb := Au.mk (hJ.turn hon Hn.out hFn hDs (rd .busy none))
        have Jd := Au.mk hDn
        have Hp := Au.mk hp
        have hp5 : p + 512 ≤ x.length := by
          have : (k + 1) * 512 ≤ q * 512 := Nat.mul_le_mul_right _ (by omega)
          have := Hq.out
          omega
        clear hJ hp hR hJ0 hb3 hx2 hx3 hb2 hb13 hz3 hDn
        gi_wp2_with fail
        refine ⟨Jd.out, ?_⟩
        generalize W.putObj (nb + 3) (.loop (rd .busy none)) = Wb at Jb ⊢
        obtain ⟨v', o2, g2⟩ := Jb.out.out
        have c1 := cell_of_one o2
        have SC : Au (Sl Kd.byte Wb.drew (fun k => F k ∧ k < n) (some ⟨b, o + p, none⟩) 512 ((x.drop p).take 512)) := ⟨by
          have := (Jb.out.rcs.cut p 512 512 (by omega) (Nat.le_refl _) (by decide)).drewN 1
          rw [show p * Kd.byte.sz = p from Nat.mul_one p] at this
          exact this⟩
        obtain ⟨y, Y⟩ := au ((x.drop p).take 512)
        rw [Y.out] at SC
        have hyl : y.length = 512 := by rw [← Y.out, List.length_take, List.length_drop]; omega
        gi_wp2_with fail
        refine round_ops (fun w' => w'.cell? ⟨n, 0, none⟩ = some v') [true, true, false, false] hmx (by decide) (by kernel_rfl) (by kernel_rfl) c1 ?_
        simp only [opsL]
        iterate 2
          refine ⟨?_, Or.inl ⟨by rfl, fun w' hw' => ?_⟩, ?_⟩
          rotate_left 1
          · have hc1 := hw'
            go_simp
            all_goals (with_reducible rfl)
          try simp only [Act.put, List.setIfInBounds_toArray, List.set_cons_zero, List.set_cons_succ]
        refine ⟨by rfl, ?_⟩
        go_simp
        refine (clone_calls y hyl (by decide) _ SC.out).mono ?_
        rintro e w3 ⟨A3, c3, rfl, s3, b3⟩
        have d1 : w3.cell? ⟨n, 0, none⟩ = some v' := cell_below (w := Wb.drew) c1 b3
        refine ⟨d1, ?_⟩
        go_simp
        refine ⟨cell_alloc d1 _, ?_⟩
        have hzb : Wb.drew.heap.size = Wb.heap.size := rfl
        have b4 : Below Wb.heap.size Wb (w3.alloc (.cells #[.slice A3 512 c3] 46)) := (below_then (below_drewN (Below.refl _ _) 1) b3 (Nat.le_refl _)).alloc (by have h := b3.size; rw [hzb] at h; exact h) _
        have J4 := Au.mk (Jb.out.below b4)
        have g4 := g2.below b4
        have o4 := Au.mk (blk_below o2 b4 (lt_of_block o2))
        have hlit : Cells (w3.alloc (.cells #[.slice A3 512 c3] 46)) (some ⟨w3.heap.size, 0, none⟩) [.slice A3 512 c3] := cells_new1 _ _ _
        have s4 := s3.alloc (.cells #[.slice A3 512 c3] 46)
        rw [hzb] at s4
        have z4 : Wb.heap.size ≤ (w3.alloc (.cells #[.slice A3 512 c3] 46)).heap.size := b4.size
        have hbz := Jb.out.rcd.lp
        have hbz2 := lt_of_block hbz
        obtain ⟨dn, Hdn⟩ := au (rblocks (rs.take i) ++ (chunkN 512 x).take k)
        have hdl : dn.length ≤ 4020 := by
          rw [← Hdn.out, List.length_append, List.length_take]
          have h1 := rblocks_len (rs := rs.take i) (fun r hr => Hr.out.1 r (List.mem_of_mem_take hr))
          rw [List.length_take] at h1
          have := Xq.out
          have := Hr.out.2
          omega
        have hsucc : rblocks (rs.take i) ++ (chunkN 512 x).take (k + 1) = dn ++ [y] := by
          rw [chunk_succ Hq.out hk, ← List.append_assoc, Hdn.out, ← Hp.out, Y.out]
        have Hsucc := Au.mk hsucc
        rw [Hdn.out] at g4
        have Hvz := Au.mk (fun g (hg : v'.ownBlock = some g) => (g2.own hg).2.1)
        have Hown := Au.mk (fun g (hg : v'.ownBlock = some g) => g4.own hg)
        obtain ⟨Fr, vs, r1, r2, r3, r4⟩ := g4
        have R3 := Au.mk r3
        have R1 := Au.mk r1
        have R2 := Au.mk r2
        have R4 := Au.mk r4
        have S4 := Au.mk s4
        have LC := Au.mk hlit
        have Hbx : Au (∀ W5, (w3.alloc (.cells #[.slice A3 512 c3] 46)).grownBy W5 v'.ownBlock → W5.heap[n]? = some (.cells #[v'] 36 (0, 0))) :=
          ⟨fun W5 hg5 => (hg5.block _ (lt_of_block o4.out) (fun e => by have := (Hown.out n e.symm).1.1; omega)).trans o4.out⟩
        obtain ⟨g9, Hg9⟩ := au w3.heap.size
        rw [Hg9.out] at LC ⊢
        obtain ⟨zb, Zb⟩ := au Wb.heap.size
        rw [Zb.out] at S4 z4 hbz2 Hvz
        clear hsucc hlit s4 r1 r2 r3 r4 b4 s3 b3 d1 c1 o2 g2 SC hzb hbz
        generalize w3.alloc (.cells #[.slice A3 512 c3] 46) = W4 at J4 o4 S4 LC R1 R2 R3 R4 Hown Hbx z4 ⊢
        have n4 := J4.out.bel.size
        rw [Hn.out] at n4
        have nlt := lt_of_block o4.out
        go_wp2_with (at_builtin; refine wpList_append_row _ rfl etBlks _ _ rfl rfl R3.out rfl LC.out rfl (by simp [Value.oneCell']) (by simp only [maxLen]; omega) (by omega) (by omega) ?_; intro v5 W5 hr5 hg5 ho5; obtain ⟨A5, c5, rfl, -⟩ := hr5.form; have Hr5 := Au.mk hr5; have Hg5 := Au.mk hg5; have Ho5 := Au.mk ho5; clear hr5 hg5 ho5; have d3 := cell_of_one (Hbx.out W5 Hg5.out); have d4 := free_of_one (Hbx.out W5 Hg5.out))
        simp only [Calm]
        have hg5 : W4.grownBy W5 v'.ownBlock := Hg5.out
        have ho5 : (Value.slice A5 (dn.length + 1) c5).ownBlock = v'.ownBlock ∨ ∀ g, (Value.slice A5 (dn.length + 1) c5).ownBlock = some g → W4.heap.size ≤ g := Ho5.out
        have o5 := Hbx.out W5 hg5
        have zz := hg5.size
        obtain ⟨u, Hu⟩ := au (Value.slice A5 (dn.length + 1) c5)
        have hr5 := Hr5.out
        rw [Hu.out] at hr5 ho5 ⊢
        have ho : ∀ j, j < W4.heap.size → j ≠ n → (v'.ownBlock = some j → False) → (W5.setCell ⟨n, 0, none⟩ u).heap[j]? = W4.heap[j]? := fun j hj hn how => (Below.heap_setCell W5 ⟨n, 0, none⟩ u j hn).trans (hg5.block _ hj (fun e => how e.symm))
        have hw6 : (W5.setCell ⟨n, 0, none⟩ u).heap.size = W5.heap.size := by simp [World.setCell]
        have hin : ∀ j, nb ≤ j → j ≤ nb + 3 → (W5.setCell ⟨n, 0, none⟩ u).heap[j]? = W4.heap[j]? := fun j h1 h2 => ho j (by omega) (by omega) (fun e => by have := (Hown.out j e).1; omega)
        have hlo : ∀ j, j < n → (W5.setCell ⟨n, 0, none⟩ u).heap[j]? = W4.heap[j]? := fun j h1 => ho j (by omega) (by omega) (fun e => by have := (Hown.out j e).1; omega)
        have g6 : RowG (Kd.slice Kd.byte) W5 (fun k => n < k ∧ k ∉ Ds ∧ (k < nb ∨ nb + 3 < k)) (n + 1) u (dn ++ [y]) :=
          RowG.more (w := W4) (v := v') (F := Fr) (F2 := fun k => zb ≤ k) (A := A3) (c := c3) R1.out R2.out R4.out S4.out (fun k hk => ⟨by omega, fun hD => by have := hDs k hD; omega, .inr (by omega)⟩) (fun g hg hk => by have h1 := Hown.out g hg; have h2 := (Jb.out.out); have := Hvz.out g hg; omega) (fun k hk => ⟨by omega, fun hD => by have := hDs k hD; omega, .inr (by omega)⟩)
            (by rw [hyl]; exact hr5) hg5 ho5
        have J6 : BlkI w (some ⟨ba, oa, none⟩) c (fun k => F k ∧ k < n) rs b o cx x (rblocks (rs.take i)) n nb Ds (rd .busy none) (k + 1) (W5.setCell ⟨n, 0, none⟩ u) :=
          ⟨(hin _ (by omega) (by omega)).trans J4.out.box, (hin _ (by omega) (by omega)).trans J4.out.box2, J4.out.rcs.keep (fun k hk _ => hlo k hk.2) (by omega), J4.out.rows.keep (fun k hk _ => hlo k hk.2) (by omega),
            ⟨u, one_setCell o5, by rw [Hsucc.out]; exact g6.keep (fun k hk _ => Below.heap_setCell W5 ⟨n, 0, none⟩ u k (by simp; omega)) (by omega)⟩,
            J4.out.rcd.keep (hin _ (by omega) (by omega)) (hin _ (by omega) (by omega)),
            J4.out.mks.keep (fun D hD => ho D (J4.out.mks.lt hD) (by have := (J4.out.mks.at_ D hD).1; omega) (fun e => (Hown.out D e).1.2.1 hD)),
            ((J4.out.bel.grown hg5 J4.out.bel.size (fun k hk => by have := (Hown.out k hk).1; have := Hn.out; omega)).setCell (p := ⟨n, 0, none⟩) (by have := Hn.out; simp; omega) u)⟩
        clear hin hlo ho hw6 g6 hr5 ho5
        generalize W5.setCell ⟨n, 0, none⟩ u = W6 at J6 ⊢
        have J7 := J6.turn hon Hn.out hFn hDs (rd .ready none)
        have J6r := J6.rcd
        gi_wp2_with fail
        refine ⟨J6r, rfl, J7⟩
      · rintro e W' ⟨hv, hJ⟩
        refine ⟨hv, .inl ⟨hJ.rcd, ?_⟩⟩
        have J8 := hJ.turn hon Hn.out hFn hDs (rd .exhausted none)
        clear hJ hJ0 hR hb3 hx2 hx3 hb2 hb13 hz3
        generalize W'.putObj (nb + 3) (.loop (rd .exhausted none)) = W8 at J8 ⊢
        have Hn1 : Au (BlkO w (some ⟨ba, oa, none⟩) c (fun k => F k ∧ k < n) rs n ((nb + 2) :: Ds) (i + 1) W8) := ⟨by
          obtain ⟨v8, o8, g8⟩ := J8.out
          refine ⟨⟨v8, o8, ?_⟩, J8.rows, J8.mks.cons (fun hD => by have := hDs _ hD; omega) (by omega) J8.rcd.dl, J8.bel⟩
          rw [rblocks_succ Hx.out]
          rw [show (chunkN 512 x).take q = chunkN 512 x from List.take_of_length_le (by rw [Xq.out]; exact Nat.le_refl _)] at g8
          refine g8.mono fun k hk hlt => ⟨hk.1, fun hD => ?_⟩
          rcases List.mem_cons.1 hD with rfl | hD
          · omega
          · exact hk.2.1 hD⟩
        clear J8
        go_wp2_with fail
        refine ⟨⟨_, _, _, _, _, _, _, _, _, _, _, _, _, _, _, _, _, (nb + 2) :: Ds, i + 1, by omega, Hn1, ⟨rfl, rfl, by omega, rfl, rfl, rfl, rfl, rfl, rfl, rfl, rfl, rfl, rfl, rfl, rfl, rfl, rfl, rfl⟩, rfl⟩, by simp [intOf]; omega⟩
    · have him : i = m := by omega
      subst him
      obtain ⟨⟨v, o1, g1⟩, s1, k1, b1⟩ := HJ.out
      rw [Hlast.out] at g1
      obtain ⟨A5, c5, rfl, -⟩ := g1.sl
      have c1 := cell_of_one o1
      rw [Ll.out] at c1
      have K1 := Au.mk k1
      have G1 := Au.mk g1
      have E1 := Au.mk b1
      clear k1 g1 b1 o1 s1
      go_wp2_with fail
      refine end_mks K1.out (v := .tuple #[.slice A5 ll c5, .bool true]) fun V hb hs hk => ⟨by simp [results, Tryz.results41, go_sem], ?_⟩
      have gV := G1.out.keep (W := V) (fun k hH _ => hk k hH.2) (by omega)
      obtain ⟨A6, c6, e6, s6⟩ := gV.sl
      simp only [Value.slice.injEq, true_and] at e6
      obtain ⟨rfl, -, rfl⟩ := e6
      refine ⟨A5, c5, rfl, s6.mono (fun k hk => ?_), E1.out.trans (hb.mono ?_)⟩
      · have := Hn.out
        rcases hk with hk | hk
        · have := hk.1; omega
        · omega
      · have := Hn.out; omega
end Go.Proofs.YtldhcknjpmbgnaaGreatDoor.Rk
