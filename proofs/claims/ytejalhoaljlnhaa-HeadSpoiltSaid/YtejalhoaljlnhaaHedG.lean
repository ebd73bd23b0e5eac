/- The laws HeadSum, HeadSpoilt, walked. -/
import Derived.Test.YtejalhoaljlnhaaHedF
namespace Go.Proofs.Ytejalhoaljlnhaa.Rk
open Go.RowKit
set_option linter.unusedVariables false
set_option linter.unusedSimpArgs false

theorem sum_more {b : List UInt8} (hl : b.length = 512) {j : Nat} (hj : j < 512) {x : UInt8} (hx : b[j]? = some x) (h255 : x.toNat < 255) :
    hsum (b.set j (x + 1)) = hsum b + (if 148 ≤ j ∧ j < 156 then 0 else 1) := by
  have h1 := sum_set (c := x + 1) hx hj
  have h2 : (x + 1).toNat = x.toNat + 1 := by
    rw [UInt8.toNat_add]; simp; omega
  rw [hsum512 hl, hsum512 (by rw [List.length_set]; exact hl)]
  unfold sumB at h1
  split
  · rename_i h; rw [if_pos h, if_pos h] at h1; omega
  · rename_i h; rw [if_neg h, if_neg h, h2] at h1; omega

set_option maxRecDepth 100000 in
set_option maxHeartbeats 4000000 in
theorem HeadSum_walk (b : List UInt8) (i : Int) {A : Option Addr} {c : Nat} (hi : R64 i) (w : World) (hs : Sl Kd.byte w (fun _ => True) A c b) :
    Calls Try.prog 13 #[.slice A b.length c, .int .i64 i] w fun e w' => e = .returned (.bool true) ∧ Below w.heap.size w w' := by
  have hle := hs.le
  obtain ⟨m, Hm⟩ := au (hsum b)
  by_cases h600 : b.length ≤ 600
  · have c6 : decide ((600 : Int) < b.length) = false := by simp; omega
    by_cases h512 : b.length = 512
    · have c5 : ((b.length : Int) != 512) = false := by simp [h512]
      have hm := Hm.out
      rw [hsum512 h512] at hm
      have hge := sumK_ge b
      have hl2 := sumK_le b 512
      have m1 : 256 ≤ m := by omega
      have m2 : m ≤ 130560 := by omega
      have Hl := Au.mk h512
      have d1 : decide (m < 256) = false := by simp; omega
      have d2 : decide (130560 < m) = false := by simp; omega
      clear hm hge hl2 h512
      by_cases hi0 : 0 ≤ i ∧ i < 512
      · obtain ⟨i0, i1⟩ := hi0
        obtain ⟨j, rfl⟩ := Int.eq_ofNat_of_zero_le i0
        have hj5 : j < 512 := by omega
        have hj : j < b.length := by have := Hl.out; omega
        have d3 : decide ((j : Int) < 0) = false := by simp
        have d4 : decide ((512 : Int) ≤ (j : Int)) = false := by simp; omega
        obtain ⟨x, hx⟩ : ∃ x, b[j] = x := ⟨_, rfl⟩
        have Hx := Au.mk hx
        clear hx
        by_cases h255 : x.toNat = 255
        · have e1 : ((x.toNat : Int) == 255) = true := by simp [h255]
          clear h255
          go_enter Try.func13, Try.ntmps13
          go_wp2_with fail
          refine (awake04_calls _).mono ?_
          rintro e w1 ⟨rfl, b1⟩
          have s1 := hs.below b1
          go_wp2_with fail
          refine (sum_of rfl Hm.out _ s1).mono ?_
          rintro e w2 ⟨rfl, rfl⟩
          obtain ⟨g, o, rfl, hcell⟩ := s1.byte_at j hj
          rw [Hx.out] at hcell
          go_wp2_with fail
          go_ret
          exact ⟨ret_true (by simp <;> omega), b1⟩
        · have e1 : ((x.toNat : Int) == 255) = false := by simp; omega
          have hx5 : x.toNat < 255 := by have := x.toNat_lt; omega
          have hy : (x + 1).toNat = x.toNat + 1 := by rw [UInt8.toNat_add]; simp; omega
          obtain ⟨y, Hy⟩ := au (x + 1)
          rw [Hy.out] at hy
          have hwr : IntKind.u8.wrap ((x.toNat : Int) + 1) = (y.toNat : Int) := by
            have hb : (2 : Int) ^ IntKind.u8.bits = 256 := by decide
            have hsg : IntKind.u8.signed = false := rfl
            rw [hy]; unfold IntKind.wrap; simp only [hb, hsg, Bool.false_and, Bool.false_eq_true, if_false]; omega
          have hmore := sum_more Hl.out hj5 (x := x) (by rw [List.getElem?_eq_getElem hj, Hx.out]) hx5
          rw [Hy.out, Hm.out] at hmore
          have Hmore := Au.mk hmore
          have hlset : Au ((b.set j y).length = 512) := ⟨by rw [List.length_set]; exact Hl.out⟩
          obtain ⟨m3, Hm3⟩ := au (hsum (b.set j y))
          have hm3 : m3 = m + (if 148 ≤ j ∧ j < 156 then 0 else 1) := by rw [← Hm3.out]; exact Hmore.out
          clear h255 hx5 hy hmore
          go_enter Try.func13, Try.ntmps13
          go_wp2_with fail
          refine (awake04_calls _).mono ?_
          rintro e w1 ⟨rfl, b1⟩
          have s1 := hs.below b1
          go_wp2_with fail
          refine (sum_of rfl Hm.out _ s1).mono ?_
          rintro e w2 ⟨rfl, rfl⟩
          obtain ⟨g, o, rfl, hcell⟩ := s1.byte_at j hj
          rw [Hx.out] at hcell
          go_wp2_with (first | (at_builtin; refine wpList_append_row _ rfl etBytes _ _ rfl rfl (Row.nil _ w1.heap.size 1) rfl s1.bytes (by simp [bcs]) (bcs_one _) (by simp only [maxLen]; omega) (by omega) (Nat.le_refl _) ?_))
          intro v' w3 hrow hg _
          obtain ⟨g3, cap3, rfl, hg3, hg3l, hcap, hcap2⟩ := hrow.head (by omega)
          obtain ⟨q1, q2⟩ := hrow.cell (j := j) (u := .int .u8 (x.toNat : Int)) (by exact bcs_get (by rw [List.getElem?_eq_getElem hj, Hx.out]))
          have hst := hrow.store j (.int .u8 y.toNat)
          rw [bcs_set] at hst
          have hlp : (b.set j y).length = b.length := List.length_set
          rw [← hlp] at hst
          obtain ⟨A5, k5, e5, s5⟩ := hst.sl_bytes
          injection e5 with e51 _ e52
          subst e51 e52
          clear hm3
          go_wp2_with fail
          refine (sum_of hlp Hm3.out _ s5).mono ?_
          rintro e w4 ⟨rfl, rfl⟩
          have cg : Below w1.heap.size w1 w3 := (Below.refl _ _).grown hg (Nat.le_refl _) (by intro k hk; simp [Value.ownBlock] at hk)
          have cs := cg.setCell (p := ⟨g3, j, none⟩) hg3 (.int .u8 y.toNat)
          have c5 := bt b1 cs
          have hm3 : m3 = m + (if 148 ≤ j ∧ j < 156 then 0 else 1) := by rw [← Hm3.out]; exact Hmore.out
          by_cases hr : 148 ≤ j ∧ j < 156
          · rw [if_pos hr] at hm3
            obtain ⟨r1, r2⟩ := hr
            obtain rfl : m3 = m := by omega
            clear hm3
            go_wp2_with fail
            go_ret
            exact ⟨ret_true (by simp), c5⟩
          · rw [if_neg hr] at hm3
            have hwm : IntKind.i64.wrap (m + 1) = m + 1 := by rw [IntKind.wrap_i64]; omega
            rcases Nat.lt_or_ge j 148 with r1 | r1
            · clear hr
              subst hm3
              go_wp2_with fail
              go_ret
              exact ⟨ret_true (by simp <;> omega), c5⟩
            · have r2 : 156 ≤ j := by omega
              clear hr
              subst hm3
              go_wp2_with fail
              go_ret
              exact ⟨ret_true (by simp <;> omega), c5⟩
      · have hor : i < 0 ∨ (0 ≤ i ∧ 512 ≤ i) := by omega
        clear hi0
        rcases hor with h1 | ⟨h1, h2⟩
        all_goals
          go_enter Try.func13, Try.ntmps13
          go_wp2_with fail
          refine (awake04_calls _).mono ?_
          rintro e w1 ⟨rfl, b1⟩
          have s1 := hs.below b1
          go_wp2_with fail
          refine (sum_of rfl Hm.out _ s1).mono ?_
          rintro e w2 ⟨rfl, rfl⟩
          go_wp2_with fail
          go_ret
          exact ⟨ret_true (by simp <;> omega), b1⟩
    · have c5 : ((b.length : Int) != 512) = true := by simp; omega
      have hm : m = -1 := by rw [← Hm.out]; unfold hsum; rw [if_neg h512]
      subst hm
      clear h512 h600
      go_enter Try.func13, Try.ntmps13
      go_wp2_with fail
      refine (awake04_calls _).mono ?_
      rintro e w1 ⟨rfl, b1⟩
      have s1 := hs.below b1
      go_wp2_with fail
      refine (sum_of rfl Hm.out _ s1).mono ?_
      rintro e w2 ⟨rfl, rfl⟩
      go_wp2_with fail
      go_ret
      exact ⟨ret_true (by simp), b1⟩
  · have c6 : decide ((600 : Int) < b.length) = true := by simp; omega
    clear h600
    go_enter Try.func13, Try.ntmps13
    go_wp2_with fail
    refine (awake04_calls _).mono ?_
    rintro e w1 ⟨rfl, b1⟩
    have s1 := hs.below b1
    go_wp2_with fail
    refine (sum_of rfl Hm.out _ s1).mono ?_
    rintro e w2 ⟨rfl, rfl⟩
    go_wp2_with fail
    go_ret
    exact ⟨rfl, b1⟩

set_option maxRecDepth 100000 in
set_option maxHeartbeats 4000000 in
theorem HeadSpoilt_walk (h : Hd) (i : Int) (c : UInt8) (hi : R64 i) (w : World) (hr : h.R) :
    Calls Try.prog 12 #[h.agg, .int .i64 i, .int .u8 c.toNat] w fun e w' => e = .returned (.bool true) ∧ Below w.heap.size w w' := by
  have hb0 := (Below.refl w.heap.size w).alloc (Nat.le_refl _) (.cells h.cells.toArray 36)
  have G0 : Au ((w.alloc (.cells h.cells.toArray 36)).heap[w.heap.size]? = some (.cells h.cells.toArray 36 (0, 0))) := ⟨heap_alloc_new _ _⟩
  have HR := Au.mk hr
  clear hr
  obtain ⟨f, Hf⟩ := au (few h)
  obtain ⟨p, Hp⟩ := au ((hput h).getD [])
  obtain ⟨bb, Hb⟩ := au (hput h).isSome
  unfold Hd.agg
  by_cases hok : f = true ∧ bb = true
  · obtain ⟨rfl, rfl⟩ := hok
    obtain ⟨p', hp'⟩ := Option.isSome_iff_exists.1 Hb.out
    obtain ⟨ff, hbk⟩ := hput_some hp'
    have hpp : p' = p := by rw [← Hp.out, hp']; rfl
    have hl5 : p.length = 512 := by rw [← hpp, ← hbk]; exact blockOf_length h ff
    have Hbk : Au (blockOf h = p) := ⟨by rw [hbk, hpp]⟩
    have Hff := Au.mk ff
    have Hl := Au.mk hl5
    clear hp' ff hbk hpp hl5
    by_cases hi0 : 0 ≤ i ∧ i < 512
    · obtain ⟨i0, i1⟩ := hi0
      obtain ⟨j, rfl⟩ := Int.eq_ofNat_of_zero_le i0
      have hj : j < p.length := by have := Hl.out; omega
      have hj5 : (j : Int) < p.length := by omega
      obtain ⟨x, hx⟩ : ∃ x, p[j] = x := ⟨_, rfl⟩
      have Hx := Au.mk hx
      have hlp5 : p.length ≤ 512 := by have := Hl.out; omega
      clear hx
      by_cases hxc : x = c
      · subst hxc
        have e1 : ((x.toNat : Int) == (x.toNat : Int)) = true := by simp
        go_enter Try.func12, Try.ntmps12
        go_wp2_with fail
        refine (awake04_calls _).mono ?_
        rintro e w1 ⟨rfl, b1⟩
        have G1 := Au.mk (blk_below G0.out b1 (lt_of_block G0.out))
        obtain ⟨k0, k1, k2, k3, k4, k5, k6, k7, k8, k9, k10⟩ := hd_cells h G1.out
        have e1 := below_then hb0 b1 hb0.size
        clear b1
        go_wp2_with fail
        refine (few_calls h Hf.out _).mono ?_
        rintro e w2 ⟨rfl, b2⟩
        have G2 := Au.mk (blk_below G1.out b2 (lt_of_block G1.out))
        clear k0 k1 k2 k3 k4 k5 k6 k7 k8 k9 k10
        obtain ⟨k0, k1, k2, k3, k4, k5, k6, k7, k8, k9, k10⟩ := hd_cells h G2.out
        have e2 := below_then e1 b2 e1.size
        clear b2 G1 e1
        go_wp2_with fail
        refine (hput_view h HR.out Hp.out Hb.out _).mono ?_
        rintro e w3 ⟨A3, c3, rfl, s3, b3⟩
        have e3 := below_then e2 b3 e2.size
        clear k0 k1 k2 k3 k4 k5 k6 k7 k8 k9 k10 b3 G2 e2
        obtain ⟨g, o, rfl, hcell⟩ := s3.byte_at j hj
        rw [Hx.out] at hcell
        go_wp2_with fail
        go_ret
        exact ⟨rfl, e3⟩
      · have ec : ((x.toNat : Int) == (c.toNat : Int)) = false := by rw [byte_beq]; simpa using hxc
        have ec2 : (x.toNat == c.toNat) = false := by simpa [UInt8.toNat_inj] using hxc
        have hsp := spoilt h Hff.out (i := j) (x := x) (c := c) (by rw [Hbk.out, List.getElem?_eq_getElem hj, Hx.out]) hxc
        rw [Hbk.out] at hsp
        have Hg : Au ((hget (p.set j c)).1 = hd0) := ⟨by rw [hsp]⟩
        have He : Au ((hget (p.set j c)).2 = 3) := ⟨by rw [hsp]⟩
        have hlp : (p.set j c).length = p.length := List.length_set
        clear hxc hsp
        go_enter Try.func12, Try.ntmps12
        go_wp2_with fail
        refine (awake04_calls _).mono ?_
        rintro e w1 ⟨rfl, b1⟩
        have G1 := Au.mk (blk_below G0.out b1 (lt_of_block G0.out))
        obtain ⟨k0, k1, k2, k3, k4, k5, k6, k7, k8, k9, k10⟩ := hd_cells h G1.out
        have e1 := below_then hb0 b1 hb0.size
        clear b1
        go_wp2_with fail
        refine (few_calls h Hf.out _).mono ?_
        rintro e w2 ⟨rfl, b2⟩
        have G2 := Au.mk (blk_below G1.out b2 (lt_of_block G1.out))
        clear k0 k1 k2 k3 k4 k5 k6 k7 k8 k9 k10
        obtain ⟨k0, k1, k2, k3, k4, k5, k6, k7, k8, k9, k10⟩ := hd_cells h G2.out
        have e2 := below_then e1 b2 e1.size
        clear b2 G1 e1
        go_wp2_with fail
        refine (hput_view h HR.out Hp.out Hb.out _).mono ?_
        rintro e w3 ⟨A3, c3, rfl, s3, b3⟩
        have e3 := below_then e2 b3 e2.size
        clear k0 k1 k2 k3 k4 k5 k6 k7 k8 k9 k10 b3 G2 e2
        obtain ⟨g, o, rfl, hcell⟩ := s3.byte_at j hj
        rw [Hx.out] at hcell
        go_wp2_with (first | (at_builtin; refine wpList_append_row _ rfl etBytes _ _ rfl rfl (Row.nil _ w3.heap.size 1) rfl s3.bytes (by simp [bcs]) (bcs_one _) (by simp only [maxLen]; omega) (by omega) (Nat.le_refl _) ?_))
        intro v' w4 hrow hg _
        obtain ⟨g3, cap3, rfl, hg3, hg3l, hcap, hcap2⟩ := hrow.head (by omega)
        obtain ⟨q1, q2⟩ := hrow.cell (j := j) (u := .int .u8 (x.toNat : Int)) (by exact bcs_get (by rw [List.getElem?_eq_getElem hj, Hx.out]))
        have hst := hrow.store j (.int .u8 c.toNat)
        rw [bcs_set] at hst
        rw [← hlp] at hst
        obtain ⟨A5, k5, e5, s5⟩ := hst.sl_bytes
        injection e5 with e51 _ e52
        subst e51 e52
        have cg : Below w3.heap.size w3 w4 := (Below.refl _ _).grown hg (Nat.le_refl _) (by intro k hk; simp [Value.ownBlock] at hk)
        have cs := cg.setCell (p := ⟨g3, j, none⟩) hg3 (.int .u8 c.toNat)
        have e4 := below_then e3 cs e3.size
        go_wp2_with fail
        refine (hget_of hlp Hg.out He.out _ s5).mono ?_
        rintro e w5 ⟨rfl, b5⟩
        have e5 := below_then e4 b5 e4.size
        unfold Hd.agg hd0
        go_wp2_with fail
        go_ret
        exact ⟨rfl, e5.alloc e5.size _⟩
    · have hor : i < 0 ∨ (0 ≤ i ∧ (p.length : Int) ≤ i) := by have := Hl.out; omega
      clear hi0
      rcases hor with h1 | ⟨h1, h2⟩
      all_goals
        go_enter Try.func12, Try.ntmps12
        go_wp2_with fail
        refine (awake04_calls _).mono ?_
        rintro e w1 ⟨rfl, b1⟩
        have G1 := Au.mk (blk_below G0.out b1 (lt_of_block G0.out))
        obtain ⟨k0, k1, k2, k3, k4, k5, k6, k7, k8, k9, k10⟩ := hd_cells h G1.out
        have e1 := below_then hb0 b1 hb0.size
        clear b1
        go_wp2_with fail
        refine (few_calls h Hf.out _).mono ?_
        rintro e w2 ⟨rfl, b2⟩
        have G2 := Au.mk (blk_below G1.out b2 (lt_of_block G1.out))
        clear k0 k1 k2 k3 k4 k5 k6 k7 k8 k9 k10
        obtain ⟨k0, k1, k2, k3, k4, k5, k6, k7, k8, k9, k10⟩ := hd_cells h G2.out
        have e2 := below_then e1 b2 e1.size
        clear b2 G1 e1
        go_wp2_with fail
        refine (hput_view h HR.out Hp.out Hb.out _).mono ?_
        rintro e w3 ⟨A3, c3, rfl, s3, b3⟩
        have e3 := below_then e2 b3 e2.size
        clear k0 k1 k2 k3 k4 k5 k6 k7 k8 k9 k10 b3 G2 e2
        go_wp2_with fail
        go_ret
        exact ⟨rfl, e3⟩
  · have hor : f = false ∨ (f = true ∧ bb = false) := by cases f <;> cases bb <;> simp_all
    clear hok
    rcases hor with rfl | ⟨rfl, rfl⟩
    all_goals
      go_enter Try.func12, Try.ntmps12
      go_wp2_with fail
      refine (awake04_calls _).mono ?_
      rintro e w1 ⟨rfl, b1⟩
      have G1 := Au.mk (blk_below G0.out b1 (lt_of_block G0.out))
      obtain ⟨k0, k1, k2, k3, k4, k5, k6, k7, k8, k9, k10⟩ := hd_cells h G1.out
      have e1 := below_then hb0 b1 hb0.size
      clear b1
      go_wp2_with fail
      refine (few_calls h Hf.out _).mono ?_
      rintro e w2 ⟨rfl, b2⟩
      have G2 := Au.mk (blk_below G1.out b2 (lt_of_block G1.out))
      clear k0 k1 k2 k3 k4 k5 k6 k7 k8 k9 k10
      obtain ⟨k0, k1, k2, k3, k4, k5, k6, k7, k8, k9, k10⟩ := hd_cells h G2.out
      have e2 := below_then e1 b2 e1.size
      clear b2 G1 e1
      go_wp2_with fail
      refine (hput_view h HR.out Hp.out Hb.out _).mono ?_
      rintro e w3 ⟨A3, c3, rfl, s3, b3⟩
      have e3 := below_then e2 b3 e2.size
      clear k0 k1 k2 k3 k4 k5 k6 k7 k8 k9 k10 b3 G2 e2
      go_wp2_with fail
      go_ret
      exact ⟨rfl, e3⟩
end Go.Proofs.Ytejalhoaljlnhaa.Rk
