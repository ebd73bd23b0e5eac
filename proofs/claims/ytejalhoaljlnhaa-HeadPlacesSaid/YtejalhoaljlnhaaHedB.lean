/- Walks: the document's answers for headers: Zero, Get. -/
import Derived.Test.YtejalhoaljlnhaaHedA
namespace Go.Proofs.Ytejalhoaljlnhaa.Rk
open Go.RowKit
set_option linter.unusedVariables false
set_option linter.unusedSimpArgs false

theorem isZero_succ {l : List UInt8} {k : Nat} (hk : k < l.length) (hx : l[k] = 0) (h0 : isZero (l.take k) = true) : isZero (l.take (k + 1)) = true := by
  unfold isZero at h0 ⊢
  rw [List.take_succ_eq_append_getElem hk, hx]
  simp only [List.all_append, h0]
  simp
theorem rzero_calls (l : List UInt8) {n : Nat} (hn : l.length = n) {r : Bool} (hr : isZero l = r) {A : Option Addr} {c : Nat} {F : Nat → Prop} (w : World) (ha : Sl Kd.byte w F A c l) :
    Calls Try.prog 50 #[.slice A n c] w fun e w' => e = .returned (.bool r) ∧ w = w' := by
  subst hn
  have Hr := Au.mk hr
  have hle := ha.le
  clear hr
  go_enter Try.func50, Try.ntmps50
  go_wp2_with fail
  go_loop [3] (fun i => ∃ k : Nat, k ≤ l.length ∧ i = .int .i64 k ∧ Au (isZero (l.take k) = true)) (fun i => l.length - (intOf i).toNat)
  case atStart => exact ⟨0, Nat.zero_le _, rfl, ⟨rfl⟩⟩
  case round =>
    obtain ⟨k, hk, rfl, H0⟩ := hrel
    by_cases hlt : k < l.length
    · obtain ⟨b, o, rfl, ck⟩ := ha.byte_at k hlt
      obtain ⟨x, hx⟩ : ∃ x, l[k] = x := ⟨_, rfl⟩
      rw [hx] at ck
      have Hx := Au.mk hx
      clear hx
      by_cases h0 : x = 0
      · subst h0
        go_wp2_with fail
        go_round
        case rel => exact ⟨k + 1, by omega, by go_num, ⟨isZero_succ hlt Hx.out H0.out⟩⟩
        case measure => simp [intOf]; omega
      · have hx0 : ((x.toNat : Int) != 0) = true := by
          rw [bne_iff_ne]; intro h
          exact h0 (UInt8.toNat_inj.1 (by simpa using h))
        have hr2 : r = false := by
          rw [← Hr.out, isZero, List.all_eq_false]
          exact ⟨x, by rw [← Hx.out]; exact List.getElem_mem hlt, by simpa using h0⟩
        subst hr2
        clear h0
        go_wp2_with fail
        go_ret
        exact ⟨rfl, rfl⟩
    · have hr2 : r = true := by
        have := H0.out
        rw [show k = l.length by omega, List.take_length] at this
        rw [← Hr.out, this]
      subst hr2
      go_wp2_with fail
      go_ret
      exact ⟨rfl, rfl⟩
theorem rget04_no1 (l : List UInt8) {A : Option Addr} {c : Nat} {F : Nat → Prop} (w : World) (ha : Sl Kd.byte w F A c l) (hl : ¬ l.length = 512) :
    Calls Try.prog 31 #[.slice A l.length c] w fun e w' => e = .returned (.tuple #[hd0.agg, .int .i64 1]) ∧ Below w.heap.size w w' := by
  have c1 : ((l.length : Int) != 512) = true := by simp; omega
  have hb0 := Below.refl w.heap.size w
  clear hl
  go_enter Try.func31, Try.ntmps31
  go_wp2_with fail
  ((try simp only [Exit.inBlock, Exit.then]); refine ret_head rfl (heap_alloc_new w (.cells hd0.cells.toArray 36)) rfl rfl rfl ?_)
  exact ⟨rfl, hb0.alloc (Nat.le_refl _) _⟩
theorem rget04_no4 (l : List UInt8) {A : Option Addr} {c : Nat} {F : Nat → Prop} (w : World) (ha : Sl Kd.byte w F A c l) (hl : l.length = 512) (hz : isZero l = true) :
    Calls Try.prog 31 #[.slice A l.length c] w fun e w' => e = .returned (.tuple #[hd0.agg, .int .i64 4]) ∧ Below w.heap.size w w' := by
  have c1 : ((l.length : Int) != 512) = false := by simp [hl]
  have hb0 := Below.refl w.heap.size w
  have Hz := Au.mk hz
  clear hl hz
  go_enter Try.func31, Try.ntmps31
  go_wp2_with fail
  refine (rzero_calls l rfl Hz.out _ (ha.alloc _)).mono ?_
  rintro e w1 ⟨rfl, rfl⟩
  go_wp2_with fail
  ((try simp only [Exit.inBlock, Exit.then]); refine ret_head rfl (heap_alloc_new w (.cells hd0.cells.toArray 36)) rfl rfl rfl ?_)
  exact ⟨rfl, hb0.alloc (Nat.le_refl _) _⟩

set_option maxHeartbeats 4000000 in
theorem rget04_walk (l : List UInt8) {b o : Nat} {c : Nat} {F : Nat → Prop} (w : World) (ha : Sl Kd.byte w F (some ⟨b, o, none⟩) c l) (hl : l.length = 512) (hz : isZero l = false) {r : Hd} {er : Int}
    (hr : (if ((l.drop 148).take 8 == sgn l) = false then (hd0, 3) else if hput (guess l) = some l then (guess l, 0) else (hd0, 2)) = (r, er)) :
    Calls Try.prog 31 #[.slice (some ⟨b, o, none⟩) l.length c] w fun e w' => e = .returned (.tuple #[r.agg, .int .i64 er]) ∧ Below w.heap.size w w' := by
  have c1 : ((l.length : Int) != 512) = false := by simp [hl]
  have hb0 := Below.refl w.heap.size w
  have hcap := ha.1
  have hcap2 := ha.2.1
  have hc5 : 512 ≤ c := by omega
  have hcut := byte_cut ha 148 8 (c - 148) (by omega) (by omega) (by omega)
  have hln : ((l.drop 148).take 8).length = 8 := by simp; omega
  obtain ⟨q, Hq⟩ := au ((l.drop 148).take 8)
  rw [Hq.out] at hcut hln hr
  obtain ⟨sg, Hsg⟩ := au (sgn l)
  rw [Hsg.out] at hr
  obtain ⟨t, Ht⟩ := au (q == sg)
  have ht := Ht.out
  have ht2 : (q != sg) = !t := by rw [bne, ht]
  rw [Ht.out] at hr
  have kc : ∀ W, Below w.heap.size w W → (convert 22 9 (.slice (some ⟨b, o + 148, none⟩) 8 (c - 148))).run Try.prog W = .ok (.string (ofL q)) W := fun W hW => by
    have := str_of (hcut.below hW)
    rwa [hln] at this
  obtain ⟨m, Hm⟩ := au (hsum l)
  have Kc := Au.mk kc
  have Hz := Au.mk hz
  have Hl := Au.mk hl
  have Hr := Au.mk hr
  have h156 : (156 : Int) ≤ c := by omega
  have n148 : ¬ c = 148 := by omega
  clear hl hz hcap hr hln kc hcut
  go_enter Try.func31, Try.ntmps31
  go_wp2_with fail
  refine (rzero_calls l rfl Hz.out _ (ha.alloc _)).mono ?_
  rintro e w1 ⟨rfl, rfl⟩
  go_upto_region 6 with fail
  generalize hW : World.alloc w _ = W5
  have g0 : W5.heap[w.heap.size]? = some (.cells hd0.cells.toArray 36 (0, 0)) := by rw [← hW]; exact heap_alloc_new _ _
  have b5 : Below w.heap.size w W5 := by rw [← hW]; exact hb0.alloc (Nat.le_refl _) _
  have G0 := Au.mk g0
  clear hW g0
  have z1 : Below w.heap.size w W5.drew := below_drewN b5 1
  have k1 := Kc.out _ z1
  have a1 := ha.below z1
  go_region_held_law (fun w' => (convert 22 9 (.slice (some ⟨b, o + 148, none⟩) 8 (c - 148))).run Try.prog w' = .ok (.string (ofL q)) w') (go_keep)
    (first | (go_at_call 35; refine (rsum_of rfl Hm.out _ a1).mono ?_; rintro e w7 ⟨rfl, rfl⟩) | (go_at_call 46; refine (sign_calls l Hsg.out _ Hl.out Hm.out).mono ?_; rintro e w8 ⟨B8, d8, rfl, s8, b8⟩; have k8 := str_of s8; have k9 := Kc.out _ (below_then z1 b8 z1.size)))
  have H9 := Au.mk (blk_below (w := W5.drew) G0.out b8 (lt_of_block G0.out))
  have hb8 := below_then z1 b8 z1.size
  clear k1 a1 k8 k9 ht ht2 z1
  cases t
  · simp only [Bool.not_false]
    go_wp2_with (first | (with_reducible refine wpList_store_head (o := ⟨none, .store 36 (.tmp 2) (.tmp 24), _, _, _, _⟩) rfl (.tmp 2) (.tmp 24) rfl w.heap.size hd0 hd0 ?a1 ?a2 H9.out ?a3))
    case a2 => rfl
    intro w' Hw' hg'
    go_wp2_with fail
    ((try simp only [Exit.inBlock, Exit.then]); refine ret_head rfl Hw'.out rfl rfl rfl ?_)
    have h2 := Hr.out
    rw [if_pos (by simp)] at h2
    injection h2 with h4 h5
    subst h4 h5
    exact ⟨rfl, below_of_grown hb8 hg' hb8.size (Nat.le_refl _)⟩
  · simp only [Bool.not_true]
    have hr2 := Hr.out
    rw [if_neg (by simp)] at hr2
    have hR := guess_R l
    have hS := guess_S l
    obtain ⟨gs, Hgs⟩ := au (guess l)
    rw [Hgs.out] at hR hS hr2
    have Hr2 := Au.mk hr2
    have HR := Au.mk hR
    have HS := Au.mk hS
    obtain ⟨p, Hp⟩ := au ((hput gs).getD [])
    obtain ⟨bb, Hbb⟩ := au ((hput gs).isSome)
    obtain ⟨r2, Hr3⟩ := au (p == l)
    have hgood : (hput gs = some l) = (bb = true ∧ r2 = true) := by
      rw [← Hbb.out, ← Hr3.out, ← Hp.out]
      cases hput gs <;> simp
    have Hgood := Au.mk hgood
    clear hR hS hr2 hgood
    go_wp2_with fail
    refine (rguess_calls l Hgs.out rfl Hl.out _ (ha.below hb8)).mono ?_
    rintro e w9 ⟨rfl, b9⟩
    have hb9 := below_then hb8 b9 hb8.size
    have R9 := Au.mk (blk_below H9.out b9 (lt_of_block H9.out))
    have hlw : w.heap.size < w9.heap.size := lt_of_block R9.out
    unfold Hd.agg
    go_upto_region 9 with fail
    generalize hW : World.alloc w9 _ = W10
    have R10 : Au (W10.heap[w.heap.size]? = some (.cells hd0.cells.toArray 36 (0, 0))) := ⟨by rw [← hW]; exact blk_alloc R9.out _⟩
    have Hq2 : Au (W10.heap[w9.heap.size]? = some (.cells gs.cells.toArray 36 (0, 0))) := ⟨by rw [← hW]; exact heap_alloc_new _ _⟩
    have hb10 : Below w.heap.size w W10 := by rw [← hW]; exact hb9.alloc hb9.size _
    clear hW R9 H9 hb8 hb9
    have k0 := blk_cell Hq2.out 0 rfl
    have k1 := blk_cell Hq2.out 1 rfl
    have k2 := blk_cell Hq2.out 2 rfl
    have k3 := blk_cell Hq2.out 3 rfl
    have k4 := blk_cell Hq2.out 4 rfl
    have k5 := blk_cell Hq2.out 5 rfl
    have k6 := blk_cell Hq2.out 6 rfl
    have k7 := blk_cell Hq2.out 7 rfl
    have k8 := blk_cell Hq2.out 8 rfl
    have k9 := blk_cell Hq2.out 9 rfl
    have k10 := blk_cell Hq2.out 10 rfl
    go_wp2_with fail
    refine (rput04_view gs HR.out HS.out Hp.out Hbb.out _).mono ?_
    rintro e w6 ⟨A6, c6, rfl, s6, b6⟩
    have hb6 : Below w.heap.size w w6 := below_then hb10 b6 hb10.size
    have R6 := Au.mk (blk_below R10.out b6 (lt_of_block R10.out))
    have Q6 := Au.mk (blk_below Hq2.out b6 (lt_of_block Hq2.out))
    clear k0 k1 k2 k3 k4 k5 k6 k7 k8 k9 k10
    cases bb
    · go_wp2_with (first | (with_reducible refine wpList_store_head (o := ⟨none, .store 36 (.tmp 2) (.tmp 41), _, _, _, _⟩) rfl (.tmp 2) (.tmp 41) rfl w.heap.size hd0 hd0 ?b1 ?b2 R6.out ?b3))
      case b1 => rfl
      case b2 => rfl
      intro w' Hw' hg'
      go_wp2_with fail
      ((try simp only [Exit.inBlock, Exit.then]); refine ret_head rfl Hw'.out rfl rfl rfl ?_)
      have h2 := Hr2.out
      have h3 : ¬ hput gs = some l := by rw [Hgood.out]; simp
      rw [if_neg h3] at h2
      injection h2 with h4 h5
      subst h4 h5
      exact ⟨rfl, below_of_grown hb6 hg' hb6.size (Nat.le_refl _)⟩
    · have e1 := str_of s6
      have e2 := str_of (ha.below hb6)
      have r2h := Hr3.out
      have r2n : (p != l) = !r2 := by rw [bne, r2h]
      cases r2
      · go_wp2_with (first | (with_reducible refine wpList_store_head (o := ⟨none, .store 36 (.tmp 2) (.tmp 41), _, _, _, _⟩) rfl (.tmp 2) (.tmp 41) rfl w.heap.size hd0 hd0 ?d1 ?d2 R6.out ?d3))
        case d1 => rfl
        case d2 => rfl
        intro w' Hw' hg'
        go_wp2_with fail
        ((try simp only [Exit.inBlock, Exit.then]); refine ret_head rfl Hw'.out rfl rfl rfl ?_)
        have h2 := Hr2.out
        have h3 : ¬ hput gs = some l := by rw [Hgood.out]; simp
        rw [if_neg h3] at h2
        injection h2 with h4 h5
        subst h4 h5
        exact ⟨rfl, below_of_grown hb6 hg' hb6.size (Nat.le_refl _)⟩
      · have k0 := blk_cell Q6.out 0 rfl
        have k1 := blk_cell Q6.out 1 rfl
        have k2 := blk_cell Q6.out 2 rfl
        have k3 := blk_cell Q6.out 3 rfl
        have k4 := blk_cell Q6.out 4 rfl
        have k5 := blk_cell Q6.out 5 rfl
        have k6 := blk_cell Q6.out 6 rfl
        have k7 := blk_cell Q6.out 7 rfl
        have k8 := blk_cell Q6.out 8 rfl
        have k9 := blk_cell Q6.out 9 rfl
        have k10 := blk_cell Q6.out 10 rfl
        go_wp2_with (first | (with_reducible refine wpList_store_head (o := ⟨none, .store 36 (.tmp 2) (.tmp 42), _, _, _, _⟩) rfl (.tmp 2) (.tmp 42) rfl w.heap.size gs hd0 ?e1 ?e2 R6.out ?e3))
        case e1 => rfl
        case e2 => rfl
        intro w' Hw' hg'
        go_wp2_with fail
        ((try simp only [Exit.inBlock, Exit.then]); refine ret_head rfl Hw'.out rfl rfl rfl ?_)
        have h2 := Hr2.out
        have h3 : hput gs = some l := by rw [Hgood.out]; simp
        rw [if_pos h3] at h2
        injection h2 with h4 h5
        subst h4 h5
        exact ⟨rfl, below_of_grown hb6 hg' hb6.size (Nat.le_refl _)⟩
theorem rget04_view (l : List UInt8) {A : Option Addr} {c : Nat} {F : Nat → Prop} {g : Hd} {er : Int} (hg : (hget l).1 = g) (he : (hget l).2 = er) (w : World) (ha : Sl Kd.byte w F A c l) :
    Calls Try.prog 31 #[.slice A l.length c] w fun e w' => e = .returned (.tuple #[g.agg, .int .i64 er]) ∧ Below w.heap.size w w' := by
  subst hg he
  by_cases hl : l.length = 512
  · obtain ⟨b, o, rfl⟩ := ha.addr (by decide) (by rintro rfl; simp at hl)
    cases hz : isZero l with
    | true =>
      have e : hget l = (hd0, 4) := by simp [hget, hl, hz]
      rw [e]
      exact rget04_no4 l w ha hl hz
    | false =>
      have e : hget l = (if ((l.drop 148).take 8 == sgn l) = false then (hd0, 3) else if hput (guess l) = some l then (guess l, 0) else (hd0, 2)) := by simp only [hget, hl, hz]; rfl
      rw [e]
      exact rget04_walk l w ha hl hz rfl
  · have e : hget l = (hd0, 1) := by simp [hget, hl]
    rw [e]
    exact rget04_no1 l w ha hl
end Go.Proofs.Ytejalhoaljlnhaa.Rk
