/- head.Get: the walk through the loops. -/
import Derived.Test.YtejalhoaljlnhaaHeadP
namespace Go.Proofs.Ytejalhoaljlnhaa.Rk
open Go.RowKit
set_option linter.unusedVariables false
set_option linter.unusedSimpArgs false

theorem setCell_grown {w : World} {g j : Nat} (v : Value) (hg : g < w.heap.size) : w.grownBy (w.setCell ⟨g, j, none⟩ v) (some g) := grown_set (.refl w _) (.inl rfl) v
theorem take_fold {α β : Type} (f : β → α → β) {l : List α} {k : Nat} {s : α} (hk : l[k]? = some s) (b : β) : (l.take (k + 1)).foldl f b = f ((l.take k).foldl f b) s := take_foldl f hk b
theorem cut0_is {l : List UInt8} {n : Nat} (hn : l.length = n) {A B : Option Addr} {c d : Nat} {F G : Nat → Prop} {w : World} (ha : Sl Kd.byte w F A c l) (hb : Sl Kd.byte w G B d [0]) :
    Calls Try.prog 49 #[.slice A n c, .slice B 1 d] w fun e w' => ∃ v b, e = .returned (.tuple #[.slice A (upto l).length c, v, .bool b]) ∧ Drawn w w' := by
  subst hn; exact cut0_calls l A B c d F G w ha hb

theorem get_is {l : List UInt8} {m : Nat} (hm : l.length = m) {n : Int} {b : Bool} (hn : (get l).getD 0 = n) (hb : (get l).isSome = b) {A : Option Addr} {c : Nat} {F : Nat → Prop} {w : World} (ha : Sl Kd.byte w F A c l) :
    Calls Try.prog 22 #[.slice A m c] w fun e w' => e = .returned (.tuple #[.int .i64 n, .bool b]) ∧ Below w.heap.size w w' := by
  subst hm; exact get_view hn hb ha


set_option maxHeartbeats 1000000 in
theorem get_walk (l : List UInt8) {b o : Nat} {c : Nat} {F : Nat → Prop} (w : World) (ha : Sl Kd.byte w F (some ⟨b, o, none⟩) c l) (hl : l.length = 512) (hz : isZero l = false) (hs : ((l.drop 148).take 8 == sgn l) = true) {r : Hd} {er : Int}
    (hr : (if hput (guess l) = some l then (guess l, 0) else (hd0, 2)) = (r, er)) :
    Calls Try.prog 30 #[.slice (some ⟨b, o, none⟩) l.length c] w fun e w' => e = .returned (.tuple #[r.agg, .int .i64 er]) ∧ Below w.heap.size w w' := by
  have c1 : ((l.length : Int) != 512) = false := by simp [hl]
  have hb0 := Below.refl w.heap.size w
  have hcap := ha.1
  have hcap2 := ha.2.1
  have hc5 : 512 ≤ c := by omega
  have hcut := byte_cut ha 148 8 (c - 148) (by omega) (by omega) (by omega)
  have hln : ((l.drop 148).take 8).length = 8 := by simp; omega
  obtain ⟨q, Hq⟩ := au ((l.drop 148).take 8)
  rw [Hq.out] at hs hcut hln
  obtain ⟨sg, Hsg⟩ := au (sgn l)
  rw [Hsg.out] at hs
  have hl156 : 156 < l.length := by omega
  have hty : tyOf l = l[156] := by simp [tyOf, hl156]
  have hby := fun W (hW : Below w.heap.size w W) => (ha.below hW).byte_at 156 hl156
  have hby2 : ∀ W, Below w.heap.size w W → W.cell? ⟨b, o + 156, none⟩ = some (.int .u8 (tyOf l).toNat) := fun W hW => by
    obtain ⟨b', o', e, h⟩ := hby W hW
    injection e with e; injection e with e1 e2; subst e1 e2
    rw [hty]; exact h
  obtain ⟨ty, Hty⟩ := au (tyOf l)
  rw [Hty.out] at hby2
  have Hz := Au.mk hz
  have Hl := Au.mk hl
  have Hs := Au.mk hs
  have Hln := Au.mk hln
  have Hr := Au.mk hr
  clear hl hz hs hcap hln hr hby hty
  go_enter Try.func30, Try.ntmps30
  go_wp2_with fail
  refine (zero_calls l _ _ _ _ (ha.alloc _)).mono ?_
  rintro e w1 ⟨rfl, rfl⟩
  rw [Hz.out]
  go_wp2_with fail
  generalize hW : World.alloc (World.alloc w _) _ = W5
  have g0 : W5.heap[w.heap.size]? = some (.cells hd0.cells.toArray 36 (0, 0)) := by rw [← hW]; exact blk_alloc (heap_alloc_new _ _) _
  have f4 : W5.cell? ⟨w.heap.size + 1, 0, none⟩ = some (.slice (some ⟨b, o, none⟩) l.length c) := by
    rw [← hW]
    have := cell_new (w := w.alloc (.cells hd0.cells.toArray 36)) (cs := [.slice (some ⟨b, o, none⟩) l.length c]) (t := 57) 0 rfl
    rw [World.size_alloc] at this
    exact this
  have hbW : Below w.heap.size w W5 := by rw [← hW]; exact (hb0.alloc (Nat.le_refl _) _).alloc (by simp) _
  clear hW
  have ha5 := ha.below hbW
  have hcut5 := hcut.below hbW
  have h156 : (156 : Int) ≤ c := by omega
  have G0 := Au.mk g0
  clear g0
  go_region_held_law (fun w' => w'.cell? ⟨w.heap.size + 1, 0, none⟩ = some (.slice (some ⟨b, o, none⟩) l.length c)) (go_keep)
    (first | (go_at_call 43; refine (ssum_calls l rfl Hsg.out _ (ha5.drewN 1) Hl.out).mono ?_; rintro e w8 ⟨B8, d8, rfl, s8, b8⟩; have k8 := cell_below (w := W5.drew) f4 b8) | (go_at_call 48; refine (bequal_is Hln.out rfl Hs.out ((hcut5.drewN 1).below b8) s8).mono ?_; rintro e w9 ⟨rfl, rfl⟩))
  have G9 := blk_below (w := W5.drew) G0.out b8 (lt_of_block G0.out)
  have hb8 : Below w.heap.size w w8 := (below_drewN hbW 1).trans (b8.mono (below_drewN hbW 1).size)
  have H9 := Au.mk G9
  have hb156 := hby2 w8 hb8
  clear G9
  go_wp2_with fail
  have g0 : (w8.alloc (.cells ({ hd0 with ty := ty } : Hd).cells.toArray 36)).heap[w8.heap.size]? = some (.cells ({ hd0 with ty := ty } : Hd).cells.toArray 36 (0, 0)) := heap_alloc_new _ _
  refine (words_calls w8.heap.size ty _ (blk_cell g0 8 rfl)).mono ?_
  rintro e w3 ⟨A, c', n, rfl, Hn2, hf, b3⟩
  have g3 := blk_below g0 b3 (lt_of_block g0)
  have r3 := blk_below (blk_alloc H9.out (.cells ({ hd0 with ty := ty } : Hd).cells.toArray 36)) b3 (lt_of_block (blk_alloc H9.out _))
  have hb3 : Below w.heap.size w w3 := (hb8.alloc hb8.size _).trans (b3.mono (by rw [World.size_alloc]; have := hb8.size; omega))
  have hlt3 : w8.heap.size < w3.heap.size := lt_of_block g3
  have hlt8 : w.heap.size < w8.heap.size := lt_of_block H9.out
  have hn5 : n < 4 := by rw [Hn2.out, wordsN]; split <;> decide
  have G3 := Au.mk g3
  have R3 := Au.mk r3
  have Hf := Au.mk hf
  clear g0 g3 r3 hf b3
  go_wp2_with fail
  go_loopw [40] (fun i wr => ∃ k : Nat, k ≤ n ∧ i = .int .i64 k ∧ Au (wr.heap[w8.heap.size]? = some (.cells (guessW l ((wSp ty).take k) { hd0 with ty := ty }).cells.toArray 36 (0, 0))) ∧ w3.grownBy wr (some w8.heap.size)) (fun i _ => n - (intOf i).toNat)
  case atStart => exact ⟨0, Nat.zero_le _, rfl, ⟨by rw [List.take_zero]; exact G3.out⟩, grown_of (.refl _ _) _⟩
  case round =>
    obtain ⟨k, hk, rfl, Hq2, hgr⟩ := hrel
    have hn3 := Hn2.out
    by_cases hlt : k < n
    · obtain ⟨s, Hs2⟩ : ∃ s, Au ((wSp ty)[k]? = some s) := ⟨_, ⟨List.getElem?_eq_getElem (by rw [wSp_len, ← hn3]; exact hlt)⟩⟩
      have hfr := fresh_grown Hf.out hgr (by rw [World.size_alloc]; omega)
      have hcs := hfr.now
      rw [wSp_cells] at hcs
      obtain ⟨b', o', rfl, d0, d1, d2⟩ := place_cells hcs Hs2.out
      obtain ⟨hix, hat⟩ := wSp_mem Hs2.out
      have hbr : Below w.heap.size w wr := below_of_grown hb3 hgr hb3.size (by omega)
      have hfold := take_foldl (fun (h : Hd) (s : Sp) => h.setText s.ix (upto (piece l s))) Hs2.out { hd0 with ty := ty }
      obtain ⟨hd, Hhd⟩ := au (guessW l ((wSp ty).take k) { hd0 with ty := ty })
      rw [Hhd.out] at Hq2
      have Hfold := Au.mk hfold
      have hpl := piece_len Hl.out hat
      have hpc := byte_cut (ha.below hbr) s.at_ s.wide (c - s.at_) (by have := Hl.out; omega) (by omega) (by omega)
      have hpe : (l.drop s.at_).take s.wide = piece l s := rfl
      rw [hpe] at hpc
      obtain ⟨pc, Hpc⟩ := au (piece l s)
      rw [Hpc.out] at hpc hpl
      have Hpl := Au.mk hpl
      have hbd : (s.at_ : Int) + s.wide ≤ c := by omega
      have hw0 : s.wide < 512 ∧ 0 < s.wide := by
        have := List.mem_of_getElem? Hs2.out
        unfold wSp at this; split at this <;> simp at this <;> (rcases this with rfl | rfl | rfl <;> decide) <;> (rcases this with rfl | rfl <;> decide)
      have hsc : s.at_ ≠ c := by omega
      clear hcs hn3 hfr hfold hpl hpe
      go_wp2_with fail
      generalize hW : World.alloc wr _ = W6
      have f0 : W6.cell? ⟨wr.heap.size, 0, none⟩ = some (.int .i64 s.at_) := by rw [← hW]; exact cell_new (cs := [_, _, _]) 0 rfl
      have f1 : W6.cell? ⟨wr.heap.size, 1, none⟩ = some (.int .i64 s.wide) := by rw [← hW]; exact cell_new (cs := [_, _, _]) 1 rfl
      have f2 : W6.cell? ⟨wr.heap.size, 2, none⟩ = some (.pointer (some ⟨w8.heap.size, s.ix, none⟩)) := by rw [← hW]; exact cell_new (cs := [_, _, _]) 2 rfl
      have hpc6 := hpc.alloc (.cells #[.int .i64 s.at_, .int .i64 s.wide, .pointer (some ⟨w8.heap.size, s.ix, none⟩)] 63)
      have Hq6 : Au (W6.heap[w8.heap.size]? = some (.cells hd.cells.toArray 36 (0, 0))) := ⟨by rw [← hW]; exact blk_alloc Hq2.out _⟩
      have hgW : w3.grownBy W6 (some w8.heap.size) := by rw [← hW]; exact grown_alloc hgr _
      rw [hW] at hpc6
      have hsW : W6.heap.size = wr.heap.size + 1 := by rw [← hW]; simp
      clear hW
      have hz7 := new_sl W6 [0] 5 (n := 1) rfl (by decide)
      have hp7 := hpc6.alloc (.cells (bcs [0]).toArray 5)
      rw [hsW] at hz7
      have HsW := Au.mk hsW
      clear hsW
      refine (cut0_is Hpl.out hp7 hz7).mono ?_
      rintro e w4 ⟨v4, t4, rfl, ⟨nd, rfl⟩⟩
      have hup : upto pc = pc.take (upto pc).length := upto_take pc
      have hul := upto_le pc
      have hp9 := (hp7.drewN nd).cut 0 (upto pc).length (c - s.at_) (by omega) (by have := Hpl.out; omega) (by omega)
      rw [List.drop_zero, ← hup, Nat.zero_mul, Nat.add_zero] at hp9
      have hst := str_of hp9
      have Hb9 := Au.mk (blk_alloc Hq6.out (.cells (bcs [0]).toArray 5))
      have hc9 := hd_text_cell Hb9.out hix
      have hfz := blk_free Hb9.out s.ix
      have x0 := cell_alloc f2 (.cells (bcs [0]).toArray 5)
      obtain ⟨up, Hup⟩ := au (upto pc)
      rw [Hup.out] at hst hp9 hul ⊢
      clear hup
      go_wp2_with fail
      refine ⟨⟨k + 1, by omega, by go_num, ⟨?_⟩, ?_⟩, by simp [intOf]; omega⟩
      · rw [guessW, Hfold.out, Hpc.out, Hup.out]
        have e1 : List.foldl (fun (h : Hd) (s : Sp) => h.setText s.ix (upto (piece l s))) { hd0 with ty := ty } ((wSp ty).take k) = hd := Hhd.out
        rw [e1, setText_cells hd hix]
        exact blk_set (w := (W6.alloc (.cells (bcs [0]).toArray 5)).drewN nd) Hb9.out s.ix _
      · exact grown_set (grown_drewN (grown_alloc hgW _) nd) (.inl rfl) _
    · obtain rfl : k = n := by omega
      rw [List.take_of_length_le (by rw [wSp_len, ← hn3]; exact Nat.le_refl _)] at Hq2
      have rb := blk_grown R3.out hgr (by simp; omega)
      have hbB : Below w.heap.size w wr := below_of_grown hb3 hgr hb3.size (by omega)
      have hsz := hgr.size
      have Rb := Au.mk rb
      have hgt : (guessW l (wSp ty) { hd0 with ty := ty }).ty = ty := by unfold guessW; rw [fold_ty (fun h s => setText_ty _ _ _)]
      obtain ⟨hw, Hhw⟩ := au (guessW l (wSp ty) { hd0 with ty := ty })
      rw [Hhw.out] at Hq2 hgt
      have hct : wr.cell? ⟨w8.heap.size, 8, none⟩ = some (.int .u8 ty.toNat) := by have := blk_cell Hq2.out 8 (v := .int .u8 hw.ty.toNat) rfl; rwa [hgt] at this
      clear rb hn3 hgt
      go_wp2_with fail
      refine (numbers_calls w8.heap.size ty _ hct).mono ?_
      rintro e w4 ⟨A4, c4, n4, rfl, Hn4, hf4, b4⟩
      have q4 := blk_below Hq2.out b4 (lt_of_block Hq2.out)
      have r4 := blk_below Rb.out b4 (lt_of_block Rb.out)
      have hb4 : Below w.heap.size w w4 := hbB.trans (b4.mono hbB.size)
      have hlt4 : w8.heap.size < w4.heap.size := lt_of_block q4
      have hn54 : n4 < 8 := by rw [Hn4.out, spotsN]; split <;> decide
      have hltr : w8.heap.size < wr.heap.size := lt_of_block Hq2.out
      have Q4 := Au.mk q4
      have R4 := Au.mk r4
      have Hf4 := Au.mk hf4
      clear q4 r4 hf4 b4
      go_wp2_with fail
      go_loopw [67] (fun i wr => ∃ k : Nat, k ≤ n4 ∧ i = .int .i64 k ∧ Au (wr.heap[w8.heap.size]? = some (.cells (guessN l ((nSp ty).take k) hw).cells.toArray 36 (0, 0))) ∧ w4.grownBy wr (some w8.heap.size)) (fun i _ => n4 - (intOf i).toNat)
      case atStart => exact ⟨0, Nat.zero_le _, rfl, ⟨by rw [List.take_zero]; exact Q4.out⟩, grown_of (.refl _ _) _⟩
      case round =>
        obtain ⟨k, hk, rfl, Hq2, hgr⟩ := hrel
        have hn3 := Hn4.out
        by_cases hlt : k < n4
        · obtain ⟨s, Hs2⟩ : ∃ s, Au ((nSp ty)[k]? = some s) := ⟨_, ⟨List.getElem?_eq_getElem (by rw [nSp_len, ← hn3]; exact hlt)⟩⟩
          have hfr := fresh_grown Hf4.out hgr hltr
          have hcs := hfr.now
          rw [nSp_cells] at hcs
          obtain ⟨b', o', rfl, d0, d1, d2⟩ := place_cells hcs Hs2.out
          obtain ⟨hi3, hi11, hi8, hat, hwd⟩ := nSp_mem Hs2.out
          have hbr : Below w.heap.size w wr := below_of_grown hb4 hgr hb4.size (by omega)
          have hfold := take_foldl (fun (h : Hd) (s : Sp) => h.setNumb s.ix ((get (piece l s)).getD 0)) Hs2.out hw
          obtain ⟨hd, Hhd⟩ := au (guessN l ((nSp ty).take k) hw)
          rw [Hhd.out] at Hq2
          have Hfold := Au.mk hfold
          have hpl := piece_len Hl.out hat
          have hpc := byte_cut (ha.below hbr) s.at_ s.wide (c - s.at_) (by have := Hl.out; omega) (by omega) (by omega)
          have hpe : (l.drop s.at_).take s.wide = piece l s := rfl
          rw [hpe] at hpc
          obtain ⟨pc, Hpc⟩ := au (piece l s)
          rw [Hpc.out] at hpc hpl
          have Hpl := Au.mk hpl
          have hbd : (s.at_ : Int) + s.wide ≤ c := by omega
          have hw0 : 0 < s.wide := by
            have := List.mem_of_getElem? Hs2.out
            unfold nSp at this
            split at this <;> simp at this
            · rcases this with rfl | rfl | rfl | rfl | rfl | rfl | rfl <;> decide
            · rcases this with rfl | rfl | rfl | rfl | rfl <;> decide
          have hsc : s.at_ ≠ c := by omega
          have hbd0 : (s.at_ : Int) ≤ (s.at_ : Int) + s.wide := by omega
          have hbd1 : IntKind.i64.wrap ((s.at_ : Int) + s.wide) = (s.at_ : Int) + s.wide := by first | (simp [go_sem, IntKind.wrap]; omega) | (unfold IntKind.wrap; simp; omega) | (unfold IntKind.wrap IntKind.bits IntKind.signed; simp; omega)
          have hq1 : ¬ c = s.at_ := by omega
          have hq2 : ((s.at_ : Int) + (s.wide : Int)).toNat - s.at_ = s.wide := by omega
          obtain ⟨x, Hx⟩ := au ((get pc).getD 0)
          obtain ⟨bx, Hbx⟩ := au ((get pc).isSome)
          have hne : wr.heap.size ≠ w8.heap.size := by have := hgr.size; omega
          have hne' : w8.heap.size ≠ wr.heap.size := hne.symm
          clear hcs hn3 hfr hfold hpl hpe
          go_wp2_with fail
          generalize hW : World.alloc wr _ = W6
          have f0 : W6.cell? ⟨wr.heap.size, 0, none⟩ = some (.int .i64 s.at_) := by rw [← hW]; exact cell_new (cs := [_, _, _]) 0 rfl
          have f1 : W6.cell? ⟨wr.heap.size, 1, none⟩ = some (.int .i64 s.wide) := by rw [← hW]; exact cell_new (cs := [_, _, _]) 1 rfl
          have f2 : W6.cell? ⟨wr.heap.size, 2, none⟩ = some (.pointer (some ⟨w8.heap.size, s.ix, none⟩)) := by rw [← hW]; exact cell_new (cs := [_, _, _]) 2 rfl
          have hpc6 := hpc.alloc (.cells #[.int .i64 s.at_, .int .i64 s.wide, .pointer (some ⟨w8.heap.size, s.ix, none⟩)] 69)
          have Hq6 : Au (W6.heap[w8.heap.size]? = some (.cells hd.cells.toArray 36 (0, 0))) := ⟨by rw [← hW]; exact blk_alloc Hq2.out _⟩
          have hgW : w4.grownBy W6 (some w8.heap.size) := by rw [← hW]; exact grown_alloc hgr _
          rw [hW] at hpc6
          clear hW
          go_region_held3 (fun w' => w'.cell? ⟨wr.heap.size, 0, none⟩ = some (.int .i64 s.at_) ∧ w'.cell? ⟨wr.heap.size, 1, none⟩ = some (.int .i64 s.wide) ∧ w'.cell? ⟨wr.heap.size, 2, none⟩ = some (.pointer (some ⟨w8.heap.size, s.ix, none⟩))) (first | go_keep | exact ⟨(World.cell?_setCell_far _ _ _ _ hne').trans k0, (World.cell?_setCell_far _ _ _ _ hne').trans k1, (World.cell?_setCell_far _ _ _ _ hne').trans k2⟩)
            (first | (go_at_call 22; refine (get_is Hpl.out Hx.out Hbx.out (hpc6.drewN 1)).mono ?_; rintro e w5 ⟨rfl, b5⟩; have k0 := cell_below (w := W6.drewN 1) f0 b5; have k1 := cell_below (w := W6.drewN 1) f1 b5; have k2 := cell_below (w := W6.drewN 1) f2 b5; have Hq5 := Au.mk (blk_below (w := W6.drewN 1) Hq6.out b5 (lt_of_block Hq6.out)); have hc5 := hd_numb_cell Hq5.out hi3 hi11 hi8; have hz5 := blk_free Hq5.out s.ix))
          go_wp2_with fail
          refine ⟨⟨k + 1, by omega, by go_num, ⟨?_⟩, ?_⟩, by simp [intOf]; omega⟩
          · rw [guessN, Hfold.out, Hpc.out, Hx.out]
            have e1 : List.foldl (fun (h : Hd) (s : Sp) => h.setNumb s.ix ((get (piece l s)).getD 0)) hw ((nSp ty).take k) = hd := Hhd.out
            rw [e1, setNumb_cells hd hi3 hi11 hi8]
            exact blk_set Hq5.out s.ix _
          · exact grown_set (grown_below (grown_drewN hgW 1) b5) (.inl rfl) _
        · obtain rfl : k = n4 := by omega
          rw [List.take_of_length_le (by rw [nSp_len, ← hn3]; exact Nat.le_refl _)] at Hq2
          have rb := blk_grown R4.out hgr (by simp; omega)
          have hbB : Below w.heap.size w wr := below_of_grown hb4 hgr hb4.size (by omega)
          have hgs : guessN l (nSp ty) hw = guess l := by rw [guess, Hty.out, Hhw.out]
          rw [hgs] at Hq2
          have hR := guess_R l
          obtain ⟨gs, Hgs⟩ := au (guess l)
          rw [Hgs.out] at Hq2 hR
          have hr2 := Hr.out
          rw [Hgs.out] at hr2
          have Hr2 := Au.mk hr2
          have HR := Au.mk hR
          have Rb := Au.mk rb
          have hlw : w.heap.size < wr.heap.size := lt_of_block rb
          obtain ⟨p, Hp⟩ := au ((hput gs).getD [])
          obtain ⟨bb, Hbb⟩ := au ((hput gs).isSome)
          obtain ⟨r2, Hr3⟩ := au (p == l)
          have hgood : (hput gs = some l) = (bb = true ∧ r2 = true) := by
            rw [← Hbb.out, ← Hr3.out, ← Hp.out]
            cases hput gs <;> simp
          have Hgood := Au.mk hgood
          have k0 := blk_cell Hq2.out 0 rfl
          have k1 := blk_cell Hq2.out 1 rfl
          have k2 := blk_cell Hq2.out 2 rfl
          have k3 := blk_cell Hq2.out 3 rfl
          have k4 := blk_cell Hq2.out 4 rfl
          have k5 := blk_cell Hq2.out 5 rfl
          have k6 := blk_cell Hq2.out 6 rfl
          have k7 := blk_cell Hq2.out 7 rfl
          have k8' := blk_cell Hq2.out 8 rfl
          have k9 := blk_cell Hq2.out 9 rfl
          have k10 := blk_cell Hq2.out 10 rfl
          clear hgs hR rb hr2 hgood hn3
          go_wp2_with fail
          refine (hput_view gs HR.out Hp.out Hbb.out _).mono ?_
          rintro e w6 ⟨A6, c6, rfl, s6, b6⟩
          have hb6 : Below w.heap.size w w6 := hbB.trans (b6.mono hbB.size)
          have R6 := Au.mk (blk_below Rb.out b6 (lt_of_block Rb.out))
          have Q6 := Au.mk (blk_below Hq2.out b6 (lt_of_block Hq2.out))
          cases bb
          · go_wp2_with (first | (with_reducible refine wpList_store_head (o := ⟨none, .store 36 (.tmp 2) (.tmp 101), _, _, _, _⟩) rfl (.tmp 2) (.tmp 101) rfl w.heap.size hd0 hd0 ?a1 ?a2 R6.out ?a3))
            case a1 => rfl
            case a2 => rfl
            intro w' Hw' hg'
            go_wp2_with fail
            ((try simp only [Exit.inBlock, Exit.then]); refine ret_head rfl Hw'.out rfl rfl rfl ?_)
            have h2 := Hr2.out
            have h3 : ¬ hput gs = some l := by rw [Hgood.out]; simp
            rw [if_neg h3] at h2
            injection h2 with h4 h5
            subst h4 h5
            exact ⟨rfl, below_of_grown hb6 hg' hb6.size (Nat.le_refl _)⟩
          · go_wp2_with fail
            refine (bequal_is rfl rfl Hr3.out s6 (ha.below hb6)).mono ?_
            rintro e w7 ⟨rfl, rfl⟩
            cases r2
            · go_wp2_with (first | (with_reducible refine wpList_store_head (o := ⟨none, .store 36 (.tmp 2) (.tmp 101), _, _, _, _⟩) rfl (.tmp 2) (.tmp 101) rfl w.heap.size hd0 hd0 ?b1 ?b2 R6.out ?b3))
              case b1 => rfl
              case b2 => rfl
              intro w' Hw' hg'
              go_wp2_with fail
              ((try simp only [Exit.inBlock, Exit.then]); refine ret_head rfl Hw'.out rfl rfl rfl ?_)
              have h2 := Hr2.out
              have h3 : ¬ hput gs = some l := by rw [Hgood.out]; simp
              rw [if_neg h3] at h2
              injection h2 with h4 h5
              subst h4 h5
              exact ⟨rfl, below_of_grown hb6 hg' hb6.size (Nat.le_refl _)⟩
            · have k0 := blk_cell Q6.out 0 rfl
              have k1 := blk_cell Q6.out 1 rfl
              have k2 := blk_cell Q6.out 2 rfl
              have k3 := blk_cell Q6.out 3 rfl
              have k4 := blk_cell Q6.out 4 rfl
              have k5 := blk_cell Q6.out 5 rfl
              have k6 := blk_cell Q6.out 6 rfl
              have k7 := blk_cell Q6.out 7 rfl
              have k8' := blk_cell Q6.out 8 rfl
              have k9 := blk_cell Q6.out 9 rfl
              have k10 := blk_cell Q6.out 10 rfl
              go_wp2_with (first | (with_reducible refine wpList_store_head (o := ⟨none, .store 36 (.tmp 2) (.tmp 102), _, _, _, _⟩) rfl (.tmp 2) (.tmp 102) rfl w.heap.size gs hd0 ?d1 ?d2 R6.out ?d3))
              case d1 => rfl
              case d2 => rfl
              intro w' Hw' hg'
              go_wp2_with fail
              ((try simp only [Exit.inBlock, Exit.then]); refine ret_head rfl Hw'.out rfl rfl rfl ?_)
              have h2 := Hr2.out
              have h3 : hput gs = some l := by rw [Hgood.out]; simp
              rw [if_pos h3] at h2
              injection h2 with h4 h5
              subst h4 h5
              exact ⟨rfl, below_of_grown hb6 hg' hb6.size (Nat.le_refl _)⟩
end Go.Proofs.Ytejalhoaljlnhaa.Rk
