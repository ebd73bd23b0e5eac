/- The law HeadMay, walked. -/
import Derived.Test.YtejalhoaljlnhaaHedF
namespace Go.Proofs.Ytejalhoaljlnhaa.Rk
open Go.RowKit
set_option linter.unusedVariables false
set_option linter.unusedSimpArgs false

def Hd.with3 (h : Hd) (name : List UInt8) (n : Int) : Hd := { h with name := name, size := n, mtime := n }
theorem with3_may (h : Hd) (hm : hmay h = true) (name : List UInt8) (n : Int) (hn : R64 n) :
    hmay (h.with3 name n) = ((!(name == []) && decide (name.length ≤ 100) && !name.contains 0) && decide (0 ≤ n)) := by
  have f := (fits_iff h).1 hm
  have hp : ∀ m, (∃ l, put n m = some l) ↔ (put n m).isSome = true := fun m => Option.isSome_iff_exists.symm
  have h12 := (wide_law n 12 hn (by decide) (by decide)).2.1 (by decide)
  rw [Bool.eq_iff_iff, fits_iff]
  simp only [Bool.and_eq_true, Bool.not_eq_true', beq_eq_false_iff_ne, decide_eq_true_eq]
  constructor
  · intro g
    refine ⟨⟨⟨g.name0, g.nameL⟩, by have := g.nameZ; simpa [Hd.with3] using this⟩, h12.1 ((hp 12).1 g.size)⟩
  · rintro ⟨⟨⟨a, b⟩, c⟩, d⟩
    have e := (hp 12).2 (h12.2 d)
    exact ⟨a, f.ty, b, by simpa [Hd.with3] using c, f.linkL, f.linkZ, f.mode, f.uid, f.gid, e, e, f.more, f.less⟩

set_option maxHeartbeats 4000000 in
theorem HeadMay_walk (h : Hd) (name : List UInt8) (n : Int) (hname : name.length ≤ maxLen) (hn : R64 n) (w : World) (hr : h.R) :
    Calls Try.prog 16 #[h.agg, .string (ofL name), .int .i64 n] w fun e w' => e = .returned (.bool true) ∧ Below w.heap.size w w' := by
  have hb0 := (Below.refl w.heap.size w).alloc (Nat.le_refl _) (.cells h.cells.toArray 36)
  have G0 : Au ((w.alloc (.cells h.cells.toArray 36)).heap[w.heap.size]? = some (.cells h.cells.toArray 36 (0, 0))) := ⟨heap_alloc_new _ _⟩
  have HR := Au.mk hr
  have Hnn := Au.mk hn
  clear hr hname hn
  have hsz : (ofL name).size = name.length := ofL_size name
  obtain ⟨f, Hf⟩ := au (few h)
  obtain ⟨m, Hm⟩ := au (hmay h)
  unfold Hd.agg
  by_cases h200 : name.length ≤ 200
  · have c6 : decide ((200 : Int) < (name.length : Int)) = false := by simp; omega
    have c7 : decide ((200 : Nat) < name.length) = false := by simp; omega
    by_cases hok : f = true ∧ m = true
    · obtain ⟨rfl, rfl⟩ := hok
      have Hlaw := Au.mk (with3_may h Hm.out name n Hnn.out)
      obtain ⟨ne, Hne⟩ := au (name == [])
      obtain ⟨l1, Hl1⟩ := au (decide (name.length ≤ 100))
      obtain ⟨m2, Hm2⟩ := au (hmay (h.with3 name n))
      have hne := Hne.out
      have hl1 := Hl1.out
      have hl1i : decide ((name.length : Int) ≤ 100) = l1 := by rw [← hl1]; simp only [decide_eq_decide]; omega
      have HR2 : Au (h.with3 name n).R := ⟨by obtain ⟨r1, r2, r3, r4, r5, r6, r7⟩ := HR.out; exact ⟨r1, r2, r3, Hnn.out, Hnn.out, r6, r7⟩⟩
      have hlaw : m2 = ((!ne && l1 && !name.contains 0) && decide (0 ≤ n)) := by rw [← Hm2.out, Hlaw.out, Hne.out, Hl1.out]
      have Hl := Au.mk hlaw
      clear hlaw Hlaw
      obtain ⟨gd, Hgd⟩ := au (!ne && l1)
      rw [Hgd.out] at Hl
      have Hgd2 := Hgd.out
      cases ne <;> cases l1 <;> simp only [Bool.not_false, Bool.not_true, Bool.false_and, Bool.true_and] at Hgd2
      all_goals
        clear Hgd
        have Hgd := Au.mk Hgd2
        clear Hgd2
        go_enter Try.func16, Try.ntmps16
        go_wp2_with fail
        refine (awake04_calls _).mono ?_
        rintro e w1 ⟨rfl, b1⟩
        have G1 := Au.mk (blk_below G0.out b1 (lt_of_block G0.out))
        obtain ⟨k0, k1, k2, k3, k4, k5, k6, k7, k8, k9, k10⟩ := hd_cells h G1.out
        have e1 := below_then hb0 b1 hb0.size
        clear b1
        go_wp2_with fail
        refine (few_calls h Hf.out _).mono ?_
        rintro e w2 ⟨rfl, b2⟩
        have G2 := Au.mk (blk_below G1.out b2 (lt_of_block G1.out))
        clear k0 k1 k2 k3 k4 k5 k6 k7 k8 k9 k10
        obtain ⟨k0, k1, k2, k3, k4, k5, k6, k7, k8, k9, k10⟩ := hd_cells h G2.out
        have e2 := below_then e1 b2 e1.size
        clear b2 G1 e1
        go_wp2_with fail
        refine (may_calls h HR.out Hm.out _).mono ?_
        rintro e w3 ⟨rfl, b3⟩
        have G3 := Au.mk (blk_below G2.out b3 (lt_of_block G2.out))
        clear k0 k1 k2 k3 k4 k5 k6 k7 k8 k9 k10
        obtain ⟨k0, k1, k2, k3, k4, k5, k6, k7, k8, k9, k10⟩ := hd_cells h G3.out
        have e3 := below_then e2 b3 e2.size
        clear b3 G2 e2
        go_upto_region 9 with fail
        generalize hW : World.alloc w3 _ = W5
        have G5 : Au (W5.heap[w3.heap.size]? = some (.cells (h.with3 name n).cells.toArray 36 (0, 0))) := ⟨by rw [← hW]; exact heap_alloc_new _ _⟩
        have e5 : Below w.heap.size w W5 := by rw [← hW]; exact e3.alloc e3.size _
        clear hW e3 G3
        clear k0 k1 k2 k3 k4 k5 k6 k7 k8 k9 k10
        go_wp2_with fail
        go_loop [10, 11] (fun v i => ∃ (k : Nat) (t : Bool), k ≤ name.length ∧ i = .int .i64 k ∧ v = .bool t ∧ Au (t = (gd && !(name.take k).contains 0))) (fun _ i => name.length - (intOf i).toNat)
        case atStart => exact ⟨0, _, Nat.zero_le _, rfl, rfl, ⟨by rw [← Hgd.out]; rfl⟩⟩
        case round =>
          obtain ⟨k, t, hk, rfl, rfl, Ht⟩ := hrel
          by_cases hlt : k < name.length
          · have hk2 : k < (ofL name).size := by rw [ofL_size]; exact hlt
            obtain ⟨x, hx⟩ : ∃ x, (ofL name)[k] = x := ⟨_, rfl⟩
            have hxs : name[k] = x := by rw [← hx]; rfl
            obtain ⟨q, hq⟩ : ∃ q, (x == 0) = q := ⟨_, rfl⟩
            have hqi : ((x.toNat : Int) == 0) = q := by
              rw [← hq]
              have := byte_beq x 0
              simpa using this
            have hqn : ((x.toNat : Int) != 0) = !q := by rw [bne, hqi]
            have hstep : (gd && !(name.take (k + 1)).contains 0) = ((gd && !(name.take k).contains 0) && !q) := by
              have he : name.take (k + 1) = name.take k ++ [x] := by rw [← hxs]; exact List.take_succ_eq_append_getElem hlt
              rw [he, ← hq]
              simp only [List.contains_eq_mem, List.mem_append, List.mem_singleton]
              by_cases h0 : (0 : UInt8) ∈ name.take k
              · simp [h0]
              · by_cases h1 : x = 0
                · subst h1; simp
                · simp [h0, Ne.symm h1, h1]
            rw [← Ht.out] at hstep
            have Hstep := Au.mk hstep
            clear hstep hxs hq
            cases t
            · go_wp2_with fail
              go_round
              case rel => exact ⟨k + 1, false, by omega, by go_num, rfl, ⟨by rw [Hstep.out]; rfl⟩⟩
              case measure => simp [intOf]; omega
            · go_wp2_with fail
              go_round
              case rel => exact ⟨k + 1, !q, by omega, by go_num, by first | rfl | simp [hqn], ⟨by rw [Hstep.out]; cases q <;> rfl⟩⟩
              case measure => simp [intOf]; omega
          · have hlast := Ht.out
            rw [List.take_of_length_le (by omega)] at hlast
            have hl := Hl.out
            have hl2 : m2 = (t && decide (0 ≤ n)) := by rw [hl, hlast]
            have Hl2 := Au.mk hl2
            obtain ⟨k0, k1, k2, k3, k4, k5, k6, k7, k8, k9, k10⟩ := hd_cells _ G5.out
            obtain ⟨d, hd⟩ : ∃ d, decide (0 ≤ n) = d := ⟨_, rfl⟩
            rw [hd] at Hl2
            clear hlast hl hl2
            unfold Hd.with3 at k0 k1 k2 k3 k4 k5 k6 k7 k8 k9 k10
            dsimp only at k0 k1 k2 k3 k4 k5 k6 k7 k8 k9 k10
            go_wp2_with fail
            refine (may_calls (h.with3 name n) HR2.out Hm2.out _).mono ?_
            rintro e w6 ⟨rfl, b6⟩
            have e6 := below_then e5 b6 e5.size
            have hl3 := Hl2.out
            cases t
            · obtain rfl : m2 = false := hl3
              go_wp2_with fail
              go_ret
              exact ⟨ret_true (by simp), e6⟩
            · obtain rfl : m2 = d := hl3
              go_wp2_with fail
              go_ret
              exact ⟨ret_true (by simp [*]), e6⟩
    · have hor : f = false ∨ (f = true ∧ m = false) := by cases f <;> cases m <;> simp_all
      clear hok
      rcases hor with rfl | ⟨rfl, rfl⟩
      case' inl =>
        go_enter Try.func16, Try.ntmps16
        go_wp2_with fail
        refine (awake04_calls _).mono ?_
        rintro e w1 ⟨rfl, b1⟩
        have G1 := Au.mk (blk_below G0.out b1 (lt_of_block G0.out))
        obtain ⟨k0, k1, k2, k3, k4, k5, k6, k7, k8, k9, k10⟩ := hd_cells h G1.out
        have e1 := below_then hb0 b1 hb0.size
        clear b1
        go_wp2_with fail
        refine (few_calls h Hf.out _).mono ?_
        rintro e w2 ⟨rfl, b2⟩
        have G2 := Au.mk (blk_below G1.out b2 (lt_of_block G1.out))
        clear k0 k1 k2 k3 k4 k5 k6 k7 k8 k9 k10
        obtain ⟨k0, k1, k2, k3, k4, k5, k6, k7, k8, k9, k10⟩ := hd_cells h G2.out
        have e2 := below_then e1 b2 e1.size
        clear b2 G1 e1
        go_wp2_with fail
        go_ret
        exact ⟨rfl, e2⟩
      go_enter Try.func16, Try.ntmps16
      go_wp2_with fail
      refine (awake04_calls _).mono ?_
      rintro e w1 ⟨rfl, b1⟩
      have G1 := Au.mk (blk_below G0.out b1 (lt_of_block G0.out))
      obtain ⟨k0, k1, k2, k3, k4, k5, k6, k7, k8, k9, k10⟩ := hd_cells h G1.out
      have e1 := below_then hb0 b1 hb0.size
      clear b1
      go_wp2_with fail
      refine (few_calls h Hf.out _).mono ?_
      rintro e w2 ⟨rfl, b2⟩
      have G2 := Au.mk (blk_below G1.out b2 (lt_of_block G1.out))
      clear k0 k1 k2 k3 k4 k5 k6 k7 k8 k9 k10
      obtain ⟨k0, k1, k2, k3, k4, k5, k6, k7, k8, k9, k10⟩ := hd_cells h G2.out
      have e2 := below_then e1 b2 e1.size
      clear b2 G1 e1
      go_wp2_with fail
      refine (may_calls h HR.out Hm.out _).mono ?_
      rintro e w3 ⟨rfl, b3⟩
      have e3 := below_then e2 b3 e2.size
      go_wp2_with fail
      go_ret
      exact ⟨rfl, e3⟩
  · have c6 : decide ((200 : Int) < (name.length : Int)) = true := by simp; omega
    have c7 : decide ((200 : Nat) < name.length) = true := by simp; omega
    cases f
    all_goals
      go_enter Try.func16, Try.ntmps16
      go_wp2_with fail
      refine (awake04_calls _).mono ?_
      rintro e w1 ⟨rfl, b1⟩
      have G1 := Au.mk (blk_below G0.out b1 (lt_of_block G0.out))
      obtain ⟨k0, k1, k2, k3, k4, k5, k6, k7, k8, k9, k10⟩ := hd_cells h G1.out
      have e1 := below_then hb0 b1 hb0.size
      clear b1
      go_wp2_with fail
      refine (few_calls h Hf.out _).mono ?_
      rintro e w2 ⟨rfl, b2⟩
      have G2 := Au.mk (blk_below G1.out b2 (lt_of_block G1.out))
      clear k0 k1 k2 k3 k4 k5 k6 k7 k8 k9 k10
      obtain ⟨k0, k1, k2, k3, k4, k5, k6, k7, k8, k9, k10⟩ := hd_cells h G2.out
      have e2 := below_then e1 b2 e1.size
      clear b2 G1 e1
      go_wp2_with fail
      go_ret
      exact ⟨rfl, e2⟩
end Go.Proofs.Ytejalhoaljlnhaa.Rk
