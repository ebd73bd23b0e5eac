/- The law HeadPlaces, walked. -/
import Derived.Test.YtejalhoaljlnhaaHedF
namespace Go.Proofs.Ytejalhoaljlnhaa.Rk
open Go.RowKit
set_option linter.unusedVariables false
set_option linter.unusedSimpArgs false

theorem cut_str {W : World} {F : Nat → Prop} {b o c : Nat} {l : List UInt8} (ha : Sl Kd.byte W F (some ⟨b, o, none⟩) c l) (p n m : Nat) {x : List UInt8} (hx : (l.drop p).take n = x) (hn : x.length = n) (hp : p + n ≤ l.length) (hm : n ≤ m) (hm2 : m ≤ 9223372036854775807) :
    (convert 22 9 (.slice (some ⟨b, o + p, none⟩) n m)).run Try.prog W = .ok (.string (ofL x)) W := by
  have := str_of (byte_cut ha p n m hp hm hm2)
  rw [hx, hn] at this
  exact this
theorem pad_take {n : Nat} {l x : List UInt8} {p : Nat} (h : (l.drop p).take n = pad n x) (hx : x.length ≤ n) : (l.drop p).take x.length = x := by
  have h1 : ((l.drop p).take n).take x.length = (l.drop p).take x.length := by rw [List.take_take]; congr 1; omega
  rw [← h1, h, pad, List.take_left]

set_option maxRecDepth 100000 in
set_option maxHeartbeats 4000000 in
theorem HeadPlaces_walk (h : Hd) (w : World) (hr : h.R) :
    Calls Try.prog 15 #[h.agg] w fun e w' => e = .returned (.bool true) ∧ Below w.heap.size w w' := by
  have hb0 := (Below.refl w.heap.size w).alloc (Nat.le_refl _) (.cells h.cells.toArray 36)
  have G0 : Au ((w.alloc (.cells h.cells.toArray 36)).heap[w.heap.size]? = some (.cells h.cells.toArray 36 (0, 0))) := ⟨heap_alloc_new _ _⟩
  have HR := Au.mk hr
  obtain ⟨r3, r4, r5, r6, r7, r9, r10⟩ := hr
  obtain ⟨f, Hf⟩ := au (few h)
  obtain ⟨p, Hp⟩ := au ((hput h).getD [])
  obtain ⟨bb, Hb⟩ := au (hput h).isSome
  unfold Hd.agg
  by_cases hok : f = true ∧ bb = true
  · obtain ⟨rfl, rfl⟩ := hok
    obtain ⟨p', hp'⟩ := Option.isSome_iff_exists.1 Hb.out
    obtain ⟨ff, hbk⟩ := hput_some hp'
    have hpp : p' = p := by rw [← Hp.out, hp']; rfl
    rw [hpp] at hbk
    have hl5 : p.length = 512 := by rw [← hbk]; exact blockOf_length h ff
    have hsg := sgn_length (layB h (zeros 8))
    have a1 := at_name h ff (sgn (layB h (zeros 8)))
    have a2 := at_link h ff _ hsg
    have a3 := at_size h ff (sgn (layB h (zeros 8)))
    have a4 := at_ustar h ff _ hsg
    have a5 := at_ty h ff _ hsg
    have hlay : layB h (sgn (layB h (zeros 8))) = p := hbk
    rw [hlay] at a1 a2 a3 a4 a5
    have P1 := pad_take a1 ff.nameL
    have P2 := pad_take a2 ff.linkL
    have P5 : p[156]? = some h.ty := by
      have := congrArg (fun l => l[0]?) a5
      simpa [List.getElem?_take, List.getElem?_drop] using this
    have hn1 := ff.nameL
    have hn2 := ff.linkL
    have L3 : (numB h ⟨124, 12, 6⟩).length = 12 := numB_len ff.size
    obtain ⟨sz, Hsz⟩ := au (numB h ⟨124, 12, 6⟩)
    obtain ⟨zb, Hzb⟩ := au (put h.size 12).isSome
    have Hsz2 : Au ((put h.size 12).getD [] = sz) := ⟨Hsz.out⟩
    rw [Hsz.out] at a3 L3
    have Hl := Au.mk hl5
    have A2 := Au.mk P1
    have A3 := Au.mk P2
    have A4 := Au.mk a3
    have A5 := Au.mk a4
    have A6 := Au.mk P5
    have A7 := Au.mk L3
    have Hlay := Au.mk hlay
    have FF := Au.mk ff
    have c5 : ((p.length : Int) != 512) = false := by simp [hl5]
    have z1 : (ofL h.name).size = h.name.length := ofL_size _
    have z2 : (ofL h.link).size = h.link.length := ofL_size _
    have z3 : (ofL h.pre).size = h.pre.length := ofL_size _
    obtain ⟨t, Ht⟩ := au ((h.ty.toNat : Int) == 77)
    have e77 : ((h.ty.toNat : Int) == 77) = (h.ty == 77) := byte_beq h.ty 77
    rw [Ht.out] at e77
    have E77 := Au.mk e77
    clear hp' hpp hbk hl5 a1 a2 a3 a4 a5 P1 P2 P5 L3 hlay ff hsg e77
    go_enter Try.func15, Try.ntmps15
    go_wp2_with fail
    refine (awake04_calls _).mono ?_
    rintro e w1 ⟨rfl, b1⟩
    have G1 := Au.mk (blk_below G0.out b1 (lt_of_block G0.out))
    obtain ⟨k0, k1, k2, k3, k4, k5, k6, k7, k8, k9, k10⟩ := hd_cells h G1.out
    have e1 := below_then hb0 b1 hb0.size
    clear b1
    go_wp2_with fail
    refine (few_calls h Hf.out _).mono ?_
    rintro e w2 ⟨rfl, b2⟩
    have G2 := Au.mk (blk_below G1.out b2 (lt_of_block G1.out))
    clear k0 k1 k2 k3 k4 k5 k6 k7 k8 k9 k10
    obtain ⟨k0, k1, k2, k3, k4, k5, k6, k7, k8, k9, k10⟩ := hd_cells h G2.out
    have e2 := below_then e1 b2 e1.size
    clear b2 G1 e1
    go_wp2_with fail
    refine (hput_view h HR.out Hp.out Hb.out _).mono ?_
    rintro e w3 ⟨A3, c3, rfl, s3, b3⟩
    have e3 := below_then e2 b3 e2.size
    have G3 := Au.mk (blk_below G2.out b3 (lt_of_block G2.out))
    clear k0 k1 k2 k3 k4 k5 k6 k7 k8 k9 k10
    clear b3 G2 e2
    obtain ⟨k0, k1, k2, k3, k4, k5, k6, k7, k8, k9, k10⟩ := hd_cells h G3.out
    go_wp2_with fail
    refine (put_view Hsz2.out Hzb.out r6 _).mono ?_
    rintro e w4 ⟨A4', c4, rfl, s4, b4⟩
    have G4 := Au.mk (blk_below G3.out b4 (lt_of_block G3.out))
    clear k0 k1 k2 k3 k4 k5 k6 k7 k8 k9 k10
    obtain ⟨k0, k1, k2, k3, k4, k5, k6, k7, k8, k9, k10⟩ := hd_cells h G4.out
    have e4 := below_then e3 b4 e3.size
    have s5 := s3.below b4
    clear b4 G3 e3 s3
    obtain ⟨b, o, rfl⟩ := s5.addr (by decide) (by intro h0; have := Hl.out; rw [h0] at this; simp at this)
    have hc := s5.1
    have hc2 := s5.2.1
    have hc5 : 512 ≤ c3 := by have := Hl.out; omega
    clear hc
    have kc1 : ∀ n, (convert 22 9 (.slice (some ⟨b, o, none⟩) h.name.length c3)).run Try.prog (w4.drewN n) = .ok (.string (ofL h.name)) (w4.drewN n) := fun n =>
      cut_str (s5.drewN n) 0 h.name.length c3 A2.out rfl (by have := Hl.out; omega) (by omega) hc2
    have kc2 : ∀ n, (convert 22 9 (.slice (some ⟨b, o + 157, none⟩) h.link.length (c3 - 157))).run Try.prog (w4.drewN n) = .ok (.string (ofL h.link)) (w4.drewN n) := fun n =>
      cut_str (s5.drewN n) 157 h.link.length (c3 - 157) A3.out rfl (by have := Hl.out; omega) (by omega) (by omega)
    have kc3 : ∀ n, (convert 22 9 (.slice (some ⟨b, o + 124, none⟩) 12 (c3 - 124))).run Try.prog (w4.drewN n) = .ok (.string (ofL sz)) (w4.drewN n) := fun n =>
      cut_str (s5.drewN n) 124 12 (c3 - 124) A4.out A7.out (by have := Hl.out; omega) (by omega) (by omega)
    have kc4 : ∀ n, (convert 22 9 (.slice (some ⟨b, o + 257, none⟩) 8 (c3 - 257))).run Try.prog (w4.drewN n) = .ok (.string (ofL ustar)) (w4.drewN n) := fun n =>
      cut_str (s5.drewN n) 257 8 (c3 - 257) A5.out rfl (by have := Hl.out; omega) (by omega) (by omega)
    have kc5 := fun n => str_of (s4.drewN n)
    have x156 : w4.cell? ⟨b, o + 156, none⟩ = some (.int .u8 h.ty.toNat) := by
      have hl156 : 156 < p.length := by have := Hl.out; omega
      obtain ⟨b', o', h1, c1⟩ := s5.byte_at 156 hl156
      injection h1 with h1; injection h1 with h1 h2; subst h1 h2
      have : p[156] = h.ty := by have h3 := A6.out; rw [List.getElem?_eq_getElem hl156] at h3; injection h3
      rw [this] at c1
      exact c1
    have i1 : (h.name.length : Int) ≤ c3 := by omega
    have i2 : (157 : Int) + (h.link.length : Int) ≤ c3 := by omega
    have i3 : IntKind.i64.wrap (157 + (h.link.length : Int)) = 157 + (h.link.length : Int) := by rw [IntKind.wrap_i64]; omega
    have i4 : ((157 : Int) + (h.link.length : Int)).toNat - 157 = h.link.length := by omega
    have i5 : ¬ c3 = 157 := by omega
    have i6 : ¬ c3 = 124 := by omega
    have i7 : ¬ c3 = 257 := by omega
    have i8 : (136 : Int) ≤ c3 := by omega
    have i9 : (265 : Int) ≤ c3 := by omega
    have i10 : (156 : Int) < p.length := by have := Hl.out; omega
    have i11 : (157 : Int) ≤ 157 + (h.link.length : Int) := by omega
    have i12 : ¬ c3 = 0 := by omega
    have hus : (ustar == [117, 115, 116, 97, 114, 0, 48, 48]) = true := rfl
    go_upto_region 7 with fail
    go_quiet (fail)
    generalize hW : w4.drewN nq = W5
    have G5 : Au (W5.heap[w.heap.size]? = some (.cells h.cells.toArray 36 (0, 0))) := ⟨by rw [← hW]; exact G4.out⟩
    have e5 : Below w.heap.size w W5 := by rw [← hW]; exact below_drewN e4 _
    have s6 : Sl Kd.byte W5 (fun k => w2.heap.size ≤ k) (some ⟨b, o, none⟩) c3 p := by rw [← hW]; exact s5.drewN _
    clear hW kc1 kc2 kc3 kc4 kc5 x156 s5 s4 e4 G4 i1 i2 i3 i4 i5 i6 i7 i8 i9 i10 i11 hus
    clear k0 k1 k2 k3 k4 k5 k6 k7 k8 k9 k10
    obtain ⟨k0, k1, k2, k3, k4, k5, k6, k7, k8, k9, k10⟩ := hd_cells h G5.out
    have ht := Ht.out
    have hsg := Au.mk (sgn_length (layB h (zeros 8)))
    cases t
    case true =>
      have h77 : h.ty = 77 := by simpa using E77.out.symm
      have a1 := at_off h FF.out _ hsg.out h77
      have a2 := at_real h FF.out _ hsg.out h77
      rw [Hlay.out] at a1 a2
      have l1 : (numB h ⟨369, 12, 9⟩).length = 12 := numB_len (FF.out.more h77).2.1
      have l2 : (numB h ⟨483, 12, 10⟩).length = 12 := numB_len (FF.out.more h77).2.2
      obtain ⟨of, Hof⟩ := au (numB h ⟨369, 12, 9⟩)
      obtain ⟨rl, Hrl⟩ := au (numB h ⟨483, 12, 10⟩)
      rw [Hof.out] at a1 l1
      rw [Hrl.out] at a2 l2
      obtain ⟨ob, Hob⟩ := au (put h.off 12).isSome
      obtain ⟨rb, Hrb⟩ := au (put h.real 12).isSome
      have Hof2 : Au ((put h.off 12).getD [] = of) := ⟨Hof.out⟩
      have Hrl2 : Au ((put h.real 12).getD [] = rl) := ⟨Hrl.out⟩
      have A1 := Au.mk a1
      have A2 := Au.mk a2
      have L1 := Au.mk l1
      have L2 := Au.mk l2
      clear a1 a2 l1 l2 h77
      go_wp2_with fail
      refine (put_view Hof2.out Hob.out r9 _).mono ?_
      rintro e w6 ⟨A6', c6, rfl, s7, b6⟩
      have G6 := Au.mk (blk_below G5.out b6 (lt_of_block G5.out))
      clear k0 k1 k2 k3 k4 k5 k6 k7 k8 k9 k10
      obtain ⟨k0, k1, k2, k3, k4, k5, k6, k7, k8, k9, k10⟩ := hd_cells h G6.out
      have e6 := below_then e5 b6 e5.size
      have s8 := s6.below b6
      clear b6 e5 G5 s6
      go_wp2_with fail
      refine (put_view Hrl2.out Hrb.out r10 _).mono ?_
      rintro e w7 ⟨A7', c7, rfl, s9, b7⟩
      have e7 := below_then e6 b7 e6.size
      have s10 := s8.below b7
      have s11 := s7.below b7
      clear k0 k1 k2 k3 k4 k5 k6 k7 k8 k9 k10
      clear b7 e6 G6 s8 s7
      have kc1 : ∀ n, (convert 22 9 (.slice (some ⟨b, o + 369, none⟩) 12 (c3 - 369))).run Try.prog (w7.drewN n) = .ok (.string (ofL of)) (w7.drewN n) := fun n =>
        cut_str (s10.drewN n) 369 12 (c3 - 369) A1.out L1.out (by have := Hl.out; omega) (by omega) (by omega)
      have kc2 : ∀ n, (convert 22 9 (.slice (some ⟨b, o + 483, none⟩) 12 (c3 - 483))).run Try.prog (w7.drewN n) = .ok (.string (ofL rl)) (w7.drewN n) := fun n =>
        cut_str (s10.drewN n) 483 12 (c3 - 483) A2.out L2.out (by have := Hl.out; omega) (by omega) (by omega)
      have kc3 := fun n => str_of (s11.drewN n)
      have kc4 := fun n => str_of (s9.drewN n)
      have i1 : (381 : Int) ≤ c3 := by omega
      have i2 : (495 : Int) ≤ c3 := by omega
      have i3 : ¬ c3 = 369 := by omega
      have i4 : ¬ c3 = 483 := by omega
      go_upto_region 11 with fail
      go_quiet (fail)
      go_wp2_with fail
      go_ret
      exact ⟨ret_true (by simp), below_drewN e7 _⟩
    case false =>
      have h77 : ¬ h.ty = 77 := by simpa using E77.out.symm
      have a1 := at_pre h FF.out _ hsg.out h77
      rw [Hlay.out] at a1
      have hn3 := (FF.out.less h77).2.2.1
      have A1 := Au.mk (pad_take a1 hn3)
      clear a1 h77
      have kc1 : ∀ n, (convert 22 9 (.slice (some ⟨b, o + 345, none⟩) h.pre.length (c3 - 345))).run Try.prog (W5.drewN n) = .ok (.string (ofL h.pre)) (W5.drewN n) := fun n =>
        cut_str (s6.drewN n) 345 h.pre.length (c3 - 345) A1.out rfl (by have := Hl.out; omega) (by omega) (by omega)
      have i2 : (345 : Int) + (h.pre.length : Int) ≤ c3 := by omega
      have i3 : IntKind.i64.wrap (345 + (h.pre.length : Int)) = 345 + (h.pre.length : Int) := by rw [IntKind.wrap_i64]; omega
      have i4 : ((345 : Int) + (h.pre.length : Int)).toNat - 345 = h.pre.length := by omega
      have i5 : ¬ c3 = 345 := by omega
      have i11 : (345 : Int) ≤ 345 + (h.pre.length : Int) := by omega
      go_upto_region 12 with fail
      go_quiet (fail)
      go_wp2_with fail
      go_ret
      exact ⟨ret_true (by simp), below_drewN e5 _⟩
  · have hor : f = false ∨ (f = true ∧ bb = false) := by cases f <;> cases bb <;> simp_all
    clear hok
    rcases hor with rfl | ⟨rfl, rfl⟩
    case' inl => cases bb
    all_goals
      go_enter Try.func15, Try.ntmps15
      go_wp2_with fail
      refine (awake04_calls _).mono ?_
      rintro e w1 ⟨rfl, b1⟩
      have G1 := Au.mk (blk_below G0.out b1 (lt_of_block G0.out))
      obtain ⟨k0, k1, k2, k3, k4, k5, k6, k7, k8, k9, k10⟩ := hd_cells h G1.out
      have e1 := below_then hb0 b1 hb0.size
      clear b1
      go_wp2_with fail
      refine (few_calls h Hf.out _).mono ?_
      rintro e w2 ⟨rfl, b2⟩
      have G2 := Au.mk (blk_below G1.out b2 (lt_of_block G1.out))
      clear k0 k1 k2 k3 k4 k5 k6 k7 k8 k9 k10
      obtain ⟨k0, k1, k2, k3, k4, k5, k6, k7, k8, k9, k10⟩ := hd_cells h G2.out
      have e2 := below_then e1 b2 e1.size
      clear b2 G1 e1
      go_wp2_with fail
      refine (hput_view h HR.out Hp.out Hb.out _).mono ?_
      rintro e w3 ⟨A3, c3, rfl, s3, b3⟩
      have e3 := below_then e2 b3 e2.size
      go_wp2_with fail
      go_ret
      exact ⟨rfl, e3⟩
end Go.Proofs.Ytejalhoaljlnhaa.Rk
