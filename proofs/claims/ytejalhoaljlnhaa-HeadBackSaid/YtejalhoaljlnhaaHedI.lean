/- The law HeadBack, walked. -/
import Derived.Test.YtejalhoaljlnhaaHedF
import Derived.Test.YtejalhoaljlnhaaFork2
namespace Go.Proofs.Ytejalhoaljlnhaa.Rk
open Go.RowKit
set_option linter.unusedVariables false
set_option linter.unusedSimpArgs false

def heq (g h : Hd) : Bool := g.name == h.name && (g.pre == h.pre && (g.link == h.link && (g.mode == h.mode && (g.uid == h.uid && (g.gid == h.gid && (g.size == h.size && (g.mtime == h.mtime && (g.ty == h.ty && (g.off == h.off && g.real == h.real)))))))))
theorem heq_iff {g h : Hd} : heq g h = true ↔ g = h := by
  unfold heq
  simp only [Bool.and_eq_true, beq_iff_eq]
  constructor
  · rintro ⟨h1, h2, h3, h4, h5, h6, h7, h8, h9, h10, h11⟩
    cases g
    cases h
    simp_all
  · rintro rfl; simp
theorem eql_head (g h : Hd) (w : World) : (binOp .eql 36 (.agg #[.string (ofL g.name), .string (ofL g.pre), .string (ofL g.link), .int .i64 g.mode, .int .i64 g.uid, .int .i64 g.gid, .int .i64 g.size, .int .i64 g.mtime, .int .u8 g.ty.toNat, .int .i64 g.off, .int .i64 g.real]) (.agg #[.string (ofL h.name), .string (ofL h.pre), .string (ofL h.link), .int .i64 h.mode, .int .i64 h.uid, .int .i64 h.gid, .int .i64 h.size, .int .i64 h.mtime, .int .u8 h.ty.toNat, .int .i64 h.off, .int .i64 h.real])).run Try.prog w = .ok (.bool (heq g h)) w := by
  have q1 := Try.eqGuardType36
  have q2 := Try.stoodInHeld36
  have hty : ((g.ty.toNat : Int) == (h.ty.toNat : Int)) = (g.ty == h.ty) := byte_beq _ _
  unfold heq
  rw [run_eql_struct]
  go_simp
  repeat' split
  all_goals simp [*]

set_option maxRecDepth 100000 in
set_option maxHeartbeats 4000000 in
theorem HeadBack_main (h k : Hd) (b : List UInt8) {A : Option Addr} {c : Nat} (w : World) (hr : h.R) (kr : k.R) (hs : Sl Kd.byte w (fun _ => True) A c b) (hf : few h = true) (kf : few k = true) (h600 : b.length ≤ 600) :
    Calls Try.prog 11 #[h.agg, k.agg, .slice A b.length c] w fun e w' => e = .returned (.bool true) ∧ Below w.heap.size w w' := by
  have c6 : decide ((600 : Int) < b.length) = false := by simp; omega
  have hle := hs.le
  have hb0 : Below w.heap.size w ((w.alloc (.cells h.cells.toArray 36)).alloc (.cells k.cells.toArray 36)) := ((Below.refl w.heap.size w).alloc (Nat.le_refl _) _).alloc (by simp) _
  have G0 : Au (((w.alloc (.cells h.cells.toArray 36)).alloc (.cells k.cells.toArray 36)).heap[w.heap.size]? = some (.cells h.cells.toArray 36 (0, 0))) := ⟨blk_alloc (heap_alloc_new _ _) _⟩
  have J0 : Au (((w.alloc (.cells h.cells.toArray 36)).alloc (.cells k.cells.toArray 36)).heap[w.heap.size + 1]? = some (.cells k.cells.toArray 36 (0, 0))) := ⟨heap_alloc2_new _ _ _⟩
  obtain ⟨p, Hp⟩ := au ((hput h).getD [])
  obtain ⟨bb, Hb⟩ := au (hput h).isSome
  obtain ⟨q, Hq⟩ := au ((hput k).getD [])
  obtain ⟨cc, Hc⟩ := au (hput k).isSome
  obtain ⟨g, Hg⟩ := au (hget p).1
  obtain ⟨er, He⟩ := au (hget p).2
  obtain ⟨x, Hx⟩ := au (hget b).1
  obtain ⟨fr, Hfr⟩ := au (hget b).2
  obtain ⟨r, Hrr⟩ := au ((hput x).getD [])
  obtain ⟨ft, Hft⟩ := au (hput x).isSome
  obtain ⟨m, Hm⟩ := au (hmay h)
  obtain ⟨t, Ht⟩ := au (p == q)
  obtain ⟨u, Hu⟩ := au (heq h k)
  obtain ⟨l5, Hl5⟩ := au (p.length)
  have hmb : m = bb := by rw [← Hm.out, ← Hb.out]; unfold hput; cases hmay h <;> rfl
  have one : (bb = true ∧ g = h ∧ er = 0 ∧ l5 = 512) ∨ (bb = false) := by
    cases bb
    · exact .inr rfl
    · obtain ⟨p', hp'⟩ := Option.isSome_iff_exists.1 Hb.out
      obtain ⟨ff, hbk⟩ := hput_some hp'
      have hpp : p' = p := by rw [← Hp.out, hp']; rfl
      have h2 := hget_block h hr ff
      rw [hbk, hpp] at h2
      refine .inl ⟨rfl, ?_, ?_, ?_⟩
      · rw [← Hg.out, h2]
      · rw [← He.out, h2]
      · rw [← Hl5.out, ← hpp, ← hbk]; exact blockOf_length h ff
  have two : bb = true → cc = true → t = u := by
    rintro rfl rfl
    obtain ⟨p', hp'⟩ := Option.isSome_iff_exists.1 Hb.out
    obtain ⟨ff, hbk⟩ := hput_some hp'
    obtain ⟨q', hq'⟩ := Option.isSome_iff_exists.1 Hc.out
    obtain ⟨gg, hck⟩ := hput_some hq'
    have hpp : p' = p := by rw [← Hp.out, hp']; rfl
    have hqq : q' = q := by rw [← Hq.out, hq']; rfl
    have hin := block_inj hr kr ff gg
    rw [hbk, hck, hpp, hqq, ← heq_iff, Hu.out] at hin
    rw [← Ht.out, Bool.eq_iff_iff, beq_iff_eq]
    exact hin
  have three : (fr = 0 ∧ ft = true ∧ r = b) ∨ ((fr == 0) = false ∧ (fr != 0) = true ∧ x = hd0) := by
    by_cases h0 : fr = 0
    · have := hget_good (b := b) (by rw [Hfr.out, h0])
      rw [Hx.out] at this
      exact .inl ⟨h0, by rw [← Hft.out, this]; rfl, by rw [← Hrr.out, this]; rfl⟩
    · have := hget_bad (b := b) (by rw [Hfr.out]; exact h0)
      rw [Hx.out] at this
      exact .inr ⟨by simpa using h0, by simpa using h0, this⟩
  have xR : Au x.R := ⟨by rw [← Hx.out]; exact hget_R b⟩
  have HR := Au.mk hr
  have KR := Au.mk kr
  have Hs := Au.mk hs
  have Hf := Au.mk hf
  have Kf := Au.mk kf
  have T2 := Au.mk two
  have T3 := Au.mk three
  have T1 := Au.mk one
  have Q1 := Au.mk Try.eqGuardType36
  have Q2 := Au.mk Try.stoodInHeld36
  subst hmb
  clear hr kr hs hf kf two three one h600
  unfold Hd.agg
  go_enter Try.func11, Try.ntmps11
  go_wp2_with fail
  refine (awake04_calls _).mono ?_
  rintro e w1 ⟨rfl, b1⟩
  have G1 := Au.mk (blk_below G0.out b1 (lt_of_block G0.out))
  have J1 := Au.mk (blk_below J0.out b1 (lt_of_block J0.out))
  have e1 := below_then hb0 b1 hb0.size
  clear b1 G0 J0 hb0
  obtain ⟨k0, k1, k2, k3, k4, k5, k6, k7, k8, k9, k10⟩ := hd_cells h G1.out
  go_wp2_with fail
  refine (few_calls h Hf.out _).mono ?_
  rintro e w2 ⟨rfl, b2⟩
  have G2 := Au.mk (blk_below G1.out b2 (lt_of_block G1.out))
  have J2 := Au.mk (blk_below J1.out b2 (lt_of_block J1.out))
  have e2 := below_then e1 b2 e1.size
  clear k0 k1 k2 k3 k4 k5 k6 k7 k8 k9 k10
  clear b2 G1 J1 e1
  obtain ⟨k0, k1, k2, k3, k4, k5, k6, k7, k8, k9, k10⟩ := hd_cells k J2.out
  go_wp2_with fail
  refine (few_calls k Kf.out _).mono ?_
  rintro e w3 ⟨rfl, b3⟩
  have G3 := Au.mk (blk_below G2.out b3 (lt_of_block G2.out))
  have J3 := Au.mk (blk_below J2.out b3 (lt_of_block J2.out))
  have e3 := below_then e2 b3 e2.size
  clear k0 k1 k2 k3 k4 k5 k6 k7 k8 k9 k10
  clear b3 G2 J2 e2
  obtain ⟨k0, k1, k2, k3, k4, k5, k6, k7, k8, k9, k10⟩ := hd_cells h G3.out
  go_wp2_with fail
  refine (hput_view h HR.out Hp.out Hb.out _).mono ?_
  rintro e w4 ⟨A4, c4, rfl, s4, b4⟩
  have G4 := Au.mk (blk_below G3.out b4 (lt_of_block G3.out))
  have J4 := Au.mk (blk_below J3.out b4 (lt_of_block J3.out))
  have e4 := below_then e3 b4 e3.size
  clear k0 k1 k2 k3 k4 k5 k6 k7 k8 k9 k10
  clear b4 G3 J3 e3
  obtain ⟨k0, k1, k2, k3, k4, k5, k6, k7, k8, k9, k10⟩ := hd_cells k J4.out
  go_wp2_with fail
  refine (hput_view k KR.out Hq.out Hc.out _).mono ?_
  rintro e w5 ⟨A5, c5, rfl, s5, b5⟩
  have G5 := Au.mk (blk_below G4.out b5 (lt_of_block G4.out))
  have J5 := Au.mk (blk_below J4.out b5 (lt_of_block J4.out))
  have S5 := s4.below b5
  have e5 := below_then e4 b5 e4.size
  clear k0 k1 k2 k3 k4 k5 k6 k7 k8 k9 k10
  clear b5 G4 J4 e4 s4
  go_wp2_with fail
  refine (hget_view p Hg.out He.out _ S5).mono ?_
  rintro e w6 ⟨rfl, b6⟩
  have G6 := Au.mk (blk_below G5.out b6 (lt_of_block G5.out))
  have J6 := Au.mk (blk_below J5.out b6 (lt_of_block J5.out))
  have S6 := S5.below b6
  have S6b := s5.below b6
  have e6 := below_then e5 b6 e5.size
  clear b6 G5 J5 e5 S5 s5
  unfold Hd.agg
  go_upto_region 9 with fail
  generalize hW : World.alloc w6 _ = W7
  have G7 : Au (W7.heap[w.heap.size]? = some (.cells h.cells.toArray 36 (0, 0))) := ⟨by rw [← hW]; exact blk_alloc G6.out _⟩
  have J7 : Au (W7.heap[w.heap.size + 1]? = some (.cells k.cells.toArray 36 (0, 0))) := ⟨by rw [← hW]; exact blk_alloc J6.out _⟩
  have L7 : Au (W7.heap[w6.heap.size]? = some (.cells g.cells.toArray 36 (0, 0))) := ⟨by rw [← hW]; exact heap_alloc_new _ _⟩
  have e7 : Below w.heap.size w W7 := by rw [← hW]; exact e6.alloc e6.size _
  have S7 : Sl Kd.byte W7 (fun k => w3.heap.size ≤ k) A4 c4 p := by rw [← hW]; exact S6.alloc _
  have S7b : Sl Kd.byte W7 (fun k => w4.heap.size ≤ k) A5 c5 q := by rw [← hW]; exact S6b.alloc _
  clear hW G6 J6 e6 S6 S6b
  go_cut [93] (fun v wx => v = .bool false ∧ Below w.heap.size w wx)
  case first =>
    rcases T1.out with ⟨rfl, hgh, rfl, rfl⟩ | rfl
    · rw [hgh] at L7
      have hl5 : ((p.length : Int) != 512) = false := by rw [Hl5.out]; rfl
      clear hgh
      cases cc
      · refine wp_region_lead 2 (.bool true) (by kernel_rfl) (by decide) (Or.inl ⟨by rfl, fun W => by rfl⟩) (fun _ _ _ h => h) (by kernel_rfl) ?_
        simp only [List.take_succ_cons, List.take_zero, List.drop_succ_cons, List.drop_zero]
        generalize hWd : W7.drew = W8
        have e8 : Below w.heap.size w W8 := by rw [← hWd]; exact below_drewN e7 1
        have G8 : Au (W8.heap[w.heap.size]? = some (.cells h.cells.toArray 36 (0, 0))) := ⟨by rw [← hWd]; exact G7.out⟩
        have J8 : Au (W8.heap[w.heap.size + 1]? = some (.cells k.cells.toArray 36 (0, 0))) := ⟨by rw [← hWd]; exact J7.out⟩
        have L8 : Au (W8.heap[w6.heap.size]? = some (.cells h.cells.toArray 36 (0, 0))) := ⟨by rw [← hWd]; exact L7.out⟩
        have S8 : Sl Kd.byte W8 (fun k => w3.heap.size ≤ k) A4 c4 p := by rw [← hWd]; exact S7.drewN 1
        have S8b : Sl Kd.byte W8 (fun k => w4.heap.size ≤ k) A5 c5 q := by rw [← hWd]; exact S7b.drewN 1
        clear hWd
        obtain ⟨k0, k1, k2, k3, k4, k5, k6, k7, k8, k9, k10⟩ := hd_cells h G8.out
        go_wp2_with fail
        refine (may_calls h HR.out Hm.out _).mono ?_
        rintro e w9 ⟨rfl, b9⟩
        have G9 := blk_below G8.out b9 (lt_of_block G8.out)
        have J9 := blk_below J8.out b9 (lt_of_block J8.out)
        have L9 := blk_below L8.out b9 (lt_of_block L8.out)
        have t1 := fun n => str_of ((S8.below b9).drewN n)
        have t2 := fun n => str_of ((S8b.below b9).drewN n)
        have e9 := below_then e8 b9 e8.size
        clear k0 k1 k2 k3 k4 k5 k6 k7 k8 k9 k10
        obtain ⟨k0, k1, k2, k3, k4, k5, k6, k7, k8, k9, k10⟩ := hd_cells h G9
        obtain ⟨j0, j1, j2, j3, j4, j5, j6, j7, j8, j9, j10⟩ := hd_cells k J9
        obtain ⟨l0, l1, l2, l3, l4, l5, l6, l7, l8, l9, l10⟩ := hd_cells h L9
        clear b9 G8 J8 L8 S8 S8b e8 G9 J9 L9
        have q1 := Q1.out
        have q2 := Q2.out
        go_wp2_with fail
        change wpQuiet _ _ _ _ _ _
        repeat (go_big_quiet_step (fail))
        refine wpQuiet_nil ?_
        intro _ hw'
        obtain ⟨nq, rfl⟩ := hw'
        go_wp2_with fail
        go_meet
        exact ⟨rfl, below_drewN e9 _⟩
      · refine wp_region_lead 2 (.bool true) (by kernel_rfl) (by decide) (Or.inl ⟨by rfl, fun W => by rfl⟩) (fun _ _ _ h => h) (by kernel_rfl) ?_
        simp only [List.take_succ_cons, List.take_zero, List.drop_succ_cons, List.drop_zero]
        generalize hWd : W7.drew = W8
        have e8 : Below w.heap.size w W8 := by rw [← hWd]; exact below_drewN e7 1
        have G8 : Au (W8.heap[w.heap.size]? = some (.cells h.cells.toArray 36 (0, 0))) := ⟨by rw [← hWd]; exact G7.out⟩
        have J8 : Au (W8.heap[w.heap.size + 1]? = some (.cells k.cells.toArray 36 (0, 0))) := ⟨by rw [← hWd]; exact J7.out⟩
        have L8 : Au (W8.heap[w6.heap.size]? = some (.cells h.cells.toArray 36 (0, 0))) := ⟨by rw [← hWd]; exact L7.out⟩
        have S8 : Sl Kd.byte W8 (fun k => w3.heap.size ≤ k) A4 c4 p := by rw [← hWd]; exact S7.drewN 1
        have S8b : Sl Kd.byte W8 (fun k => w4.heap.size ≤ k) A5 c5 q := by rw [← hWd]; exact S7b.drewN 1
        clear hWd
        obtain ⟨k0, k1, k2, k3, k4, k5, k6, k7, k8, k9, k10⟩ := hd_cells h G8.out
        go_wp2_with fail
        refine (may_calls h HR.out Hm.out _).mono ?_
        rintro e w9 ⟨rfl, b9⟩
        have G9 := blk_below G8.out b9 (lt_of_block G8.out)
        have J9 := blk_below J8.out b9 (lt_of_block J8.out)
        have L9 := blk_below L8.out b9 (lt_of_block L8.out)
        have t1 := fun n => str_of ((S8.below b9).drewN n)
        have t2 := fun n => str_of ((S8b.below b9).drewN n)
        have e9 := below_then e8 b9 e8.size
        clear k0 k1 k2 k3 k4 k5 k6 k7 k8 k9 k10
        obtain ⟨k0, k1, k2, k3, k4, k5, k6, k7, k8, k9, k10⟩ := hd_cells h G9
        obtain ⟨j0, j1, j2, j3, j4, j5, j6, j7, j8, j9, j10⟩ := hd_cells k J9
        obtain ⟨l0, l1, l2, l3, l4, l5, l6, l7, l8, l9, l10⟩ := hd_cells h L9
        clear b9 G8 J8 L8 S8 S8b e8 G9 J9 L9
        have q1 := Q1.out
        have htu : t = u := by first | exact T2.out rfl rfl | simpa using T2.out
        have hpq : (p == q) = u := by rw [Ht.out, htu]
        have heqv : ∀ W, (binOp .eql 36 (.agg #[.string (ofL h.name), .string (ofL h.pre), .string (ofL h.link), .int .i64 h.mode, .int .i64 h.uid, .int .i64 h.gid, .int .i64 h.size, .int .i64 h.mtime, .int .u8 h.ty.toNat, .int .i64 h.off, .int .i64 h.real]) (.agg #[.string (ofL k.name), .string (ofL k.pre), .string (ofL k.link), .int .i64 k.mode, .int .i64 k.uid, .int .i64 k.gid, .int .i64 k.size, .int .i64 k.mtime, .int .u8 k.ty.toNat, .int .i64 k.off, .int .i64 k.real])).run Try.prog W = .ok (.bool u) W := fun W => by
          have := eql_head h k W
          rwa [Hu.out] at this
        clear htu
        have q2 := Q2.out
        go_wp2_with fail
        change wpQuiet _ _ _ _ _ _
        repeat (go_big_quiet_step (fail))
        refine wpQuiet_nil ?_
        intro _ hw'
        obtain ⟨nq, rfl⟩ := hw'
        go_wp2_with fail
        go_meet
        exact ⟨rfl, below_drewN e9 _⟩
    · refine wp_region_lead 2 (.bool false) (by kernel_rfl) (by decide) (Or.inl ⟨by rfl, fun W => by rfl⟩) (fun _ _ _ h => h) (by kernel_rfl) ?_
      simp only [List.take_succ_cons, List.take_zero, List.drop_succ_cons, List.drop_zero]
      generalize hWd : W7.drew = W8
      have e8 : Below w.heap.size w W8 := by rw [← hWd]; exact below_drewN e7 1
      have G8 : Au (W8.heap[w.heap.size]? = some (.cells h.cells.toArray 36 (0, 0))) := ⟨by rw [← hWd]; exact G7.out⟩
      have J8 : Au (W8.heap[w.heap.size + 1]? = some (.cells k.cells.toArray 36 (0, 0))) := ⟨by rw [← hWd]; exact J7.out⟩
      have L8 : Au (W8.heap[w6.heap.size]? = some (.cells g.cells.toArray 36 (0, 0))) := ⟨by rw [← hWd]; exact L7.out⟩
      have S8 : Sl Kd.byte W8 (fun k => w3.heap.size ≤ k) A4 c4 p := by rw [← hWd]; exact S7.drewN 1
      have S8b : Sl Kd.byte W8 (fun k => w4.heap.size ≤ k) A5 c5 q := by rw [← hWd]; exact S7b.drewN 1
      clear hWd
      obtain ⟨k0, k1, k2, k3, k4, k5, k6, k7, k8, k9, k10⟩ := hd_cells h G8.out
      go_wp2_with fail
      refine (may_calls h HR.out Hm.out _).mono ?_
      rintro e w9 ⟨rfl, b9⟩
      have G9 := blk_below G8.out b9 (lt_of_block G8.out)
      have J9 := blk_below J8.out b9 (lt_of_block J8.out)
      have L9 := blk_below L8.out b9 (lt_of_block L8.out)
      have t1 := fun n => str_of ((S8.below b9).drewN n)
      have t2 := fun n => str_of ((S8b.below b9).drewN n)
      have e9 := below_then e8 b9 e8.size
      clear k0 k1 k2 k3 k4 k5 k6 k7 k8 k9 k10
      obtain ⟨k0, k1, k2, k3, k4, k5, k6, k7, k8, k9, k10⟩ := hd_cells h G9
      obtain ⟨j0, j1, j2, j3, j4, j5, j6, j7, j8, j9, j10⟩ := hd_cells k J9
      obtain ⟨l0, l1, l2, l3, l4, l5, l6, l7, l8, l9, l10⟩ := hd_cells g L9
      clear b9 G8 J8 L8 S8 S8b e8 G9 J9 L9
      have q1 := Q1.out
      have q2 := Q2.out
      go_wp2_with fail
      change wpQuiet _ _ _ _ _ _
      repeat (go_big_quiet_step (fail))
      refine wpQuiet_nil ?_
      intro _ hw'
      obtain ⟨nq, rfl⟩ := hw'
      go_wp2_with fail
      go_meet
      exact ⟨rfl, below_drewN e9 _⟩
  case rest =>
    obtain ⟨rfl, e9⟩ := hcut
    clear T1 T2 Q1 Q2 G7 J7 L7 S7 S7b e7 Hp Hb Hq Hc Hg He Ht Hu Hl5 HR KR Hm
    go_wp2_with fail
    refine (hget_view b Hx.out Hfr.out _ (Hs.out.below e9)).mono ?_
    rintro e w10 ⟨rfl, b10⟩
    have e10 := below_then e9 b10 e9.size
    unfold Hd.agg
    go_upto_region 12 with fail
    generalize hW : World.alloc w10 _ = W11
    have L11 : Au (W11.heap[w10.heap.size]? = some (.cells x.cells.toArray 36 (0, 0))) := ⟨by rw [← hW]; exact heap_alloc_new _ _⟩
    have e11 : Below w.heap.size w W11 := by rw [← hW]; exact e10.alloc e10.size _
    clear hW e10 b10 e9
    obtain ⟨k0, k1, k2, k3, k4, k5, k6, k7, k8, k9, k10⟩ := hd_cells x L11.out
    go_wp2_with fail
    refine (hput_view x xR.out Hrr.out Hft.out _).mono ?_
    rintro e w12 ⟨A12, c12, rfl, s12, b12⟩
    have e12 := below_then e11 b12 e11.size
    have L12 := blk_below L11.out b12 (lt_of_block L11.out)
    clear k0 k1 k2 k3 k4 k5 k6 k7 k8 k9 k10
    obtain ⟨k0, k1, k2, k3, k4, k5, k6, k7, k8, k9, k10⟩ := hd_cells x L12
    have t1 := str_of s12
    have t2 := str_of (Hs.out.below e12)
    clear L12 L11 b12 e11
    have q1 := Try.eqGuardType36
    have q2 := Try.stoodInHeld36
    rcases T3.out with ⟨rfl, rfl, rfl⟩ | ⟨h1, h2, rfl⟩
    · go_wp2_with fail
      go_ret
      exact ⟨ret_true (by simp), e12⟩
    · unfold hd0 at k0 k1 k2 k3 k4 k5 k6 k7 k8 k9 k10
      dsimp only at k0 k1 k2 k3 k4 k5 k6 k7 k8 k9 k10
      go_wp2_with fail
      go_ret
      exact ⟨ret_true (by simp [*]), e12⟩
set_option maxHeartbeats 4000000 in
theorem HeadBack_walk (h k : Hd) (b : List UInt8) {A : Option Addr} {c : Nat} (w : World) (hr : h.R) (kr : k.R) (hs : Sl Kd.byte w (fun _ => True) A c b) :
    Calls Try.prog 11 #[h.agg, k.agg, .slice A b.length c] w fun e w' => e = .returned (.bool true) ∧ Below w.heap.size w w' := by
  obtain ⟨f, Hf⟩ := au (few h)
  obtain ⟨f2, Kf⟩ := au (few k)
  by_cases hok : f = true ∧ f2 = true ∧ b.length ≤ 600
  · obtain ⟨rfl, rfl, h600⟩ := hok
    exact HeadBack_main h k b w hr kr hs Hf.out Kf.out h600
  · have hor : f = false ∨ (f = true ∧ f2 = false) ∨ (f = true ∧ f2 = true ∧ 600 < b.length) := by
      cases f <;> cases f2 <;> simp_all
    have hb0 : Below w.heap.size w ((w.alloc (.cells h.cells.toArray 36)).alloc (.cells k.cells.toArray 36)) := ((Below.refl w.heap.size w).alloc (Nat.le_refl _) _).alloc (by simp) _
    have G0 : Au (((w.alloc (.cells h.cells.toArray 36)).alloc (.cells k.cells.toArray 36)).heap[w.heap.size]? = some (.cells h.cells.toArray 36 (0, 0))) := ⟨blk_alloc (heap_alloc_new _ _) _⟩
    have J0 : Au (((w.alloc (.cells h.cells.toArray 36)).alloc (.cells k.cells.toArray 36)).heap[w.heap.size + 1]? = some (.cells k.cells.toArray 36 (0, 0))) := ⟨heap_alloc2_new _ _ _⟩
    clear hok hs
    unfold Hd.agg
    rcases hor with rfl | ⟨rfl, rfl⟩ | ⟨rfl, rfl, h6⟩
    case' inr.inr => have c6 : decide ((600 : Int) < b.length) = true := by simp; omega
    case' inr.inr => clear h6
    all_goals
      go_enter Try.func11, Try.ntmps11
      go_wp2_with fail
      refine (awake04_calls _).mono ?_
      rintro e w1 ⟨rfl, b1⟩
      have G1 := Au.mk (blk_below G0.out b1 (lt_of_block G0.out))
      have J1 := Au.mk (blk_below J0.out b1 (lt_of_block J0.out))
      have e1 := below_then hb0 b1 hb0.size
      obtain ⟨k0, k1, k2, k3, k4, k5, k6, k7, k8, k9, k10⟩ := hd_cells h G1.out
      go_wp2_with fail
      refine (few_calls h Hf.out _).mono ?_
      rintro e w2 ⟨rfl, b2⟩
      have J2 := Au.mk (blk_below J1.out b2 (lt_of_block J1.out))
      have e2 := below_then e1 b2 e1.size
      clear k0 k1 k2 k3 k4 k5 k6 k7 k8 k9 k10
      obtain ⟨k0, k1, k2, k3, k4, k5, k6, k7, k8, k9, k10⟩ := hd_cells k J2.out
      go_wp2_with fail
      refine (few_calls k Kf.out _).mono ?_
      rintro e w3 ⟨rfl, b3⟩
      have e3 := below_then e2 b3 e2.size
      go_wp2_with fail
      go_ret
      exact ⟨rfl, e3⟩
end Go.Proofs.Ytejalhoaljlnhaa.Rk
