/- Walks: the document's answers for headers: guess. -/
import Derived.Test.YtejalhoaljlnhaaHeadZ
namespace Go.Proofs.Ytejalhoaljlnhaa.Rk
open Go.RowKit
set_option linter.unusedVariables false
set_option linter.unusedSimpArgs false

set_option maxHeartbeats 4000000 in
theorem rguess_calls (l : List UInt8) {b o : Nat} {c : Nat} {F : Nat → Prop} {r : Hd} (hr : guess l = r) {n : Nat} (hl : l.length = n) (h512 : n = 512) (w : World) (ha : Sl Kd.byte w F (some ⟨b, o, none⟩) c l) :
    Calls Try.prog 51 #[.slice (some ⟨b, o, none⟩) n c] w fun e w' => e = .returned r.agg ∧ Below w.heap.size w w' := by
  subst h512
  have hb0 := Below.refl w.heap.size w
  have hcap := ha.1
  have hcap2 := ha.2.1
  have hc5 : 512 ≤ c := by omega
  have hl156 : 156 < l.length := by omega
  have hty : tyOf l = l[156] := by simp [tyOf, hl156]
  have hby2 : ∀ W, Below w.heap.size w W → W.cell? ⟨b, o + 156, none⟩ = some (.int .u8 (tyOf l).toNat) := fun W hW => by
    obtain ⟨b', o', e, h⟩ := (ha.below hW).byte_at 156 hl156
    injection e with e; injection e with e1 e2; subst e1 e2
    rw [hty]; exact h
  have hcut : ∀ (s : Sp), s.at_ + s.wide ≤ 512 → Sl Kd.byte w F (some ⟨b, o + s.at_, none⟩) (c - s.at_) (piece l s) := fun s h1 => byte_cut ha s.at_ s.wide (c - s.at_) (by omega) (by omega) (by omega)
  have hpl : ∀ (s : Sp), s.at_ + s.wide ≤ 512 → (piece l s).length = s.wide := fun s h1 => piece_len hl h1
  have Hcut := Au.mk hcut
  have Hpl := Au.mk hpl
  have Hby := Au.mk hby2
  have Hr := Au.mk hr
  obtain ⟨ty, Hty⟩ := au (tyOf l)
  have c156 := Hby.out w hb0
  rw [Hty.out] at c156
  clear hl156 hty hby2 hcut hpl hl hr hcap
  obtain ⟨nm, Hnm⟩ := au (upto (piece l ⟨0, 100, 0⟩))
  obtain ⟨lk, Hlk⟩ := au (upto (piece l ⟨157, 100, 2⟩))
  have h100 : (100 : Int) ≤ c := by omega
  have h257 : (257 : Int) ≤ c := by omega
  have h108 : (108 : Int) ≤ c := by omega
  have h116 : (116 : Int) ≤ c := by omega
  have h124 : (124 : Int) ≤ c := by omega
  have h136 : (136 : Int) ≤ c := by omega
  have h148 : (148 : Int) ≤ c := by omega
  have h381 : (381 : Int) ≤ c := by omega
  have h495 : (495 : Int) ≤ c := by omega
  have h500 : (500 : Int) ≤ c := by omega
  have n157 : ¬ c = 157 := by omega
  have n100 : ¬ c = 100 := by omega
  have n108 : ¬ c = 108 := by omega
  have n116 : ¬ c = 116 := by omega
  have n124 : ¬ c = 124 := by omega
  have n136 : ¬ c = 136 := by omega
  have n369 : ¬ c = 369 := by omega
  have n483 : ¬ c = 483 := by omega
  have n345 : ¬ c = 345 := by omega
  have hcutn := Hcut.out ⟨0, 100, 0⟩ (by decide)
  have hcutl := Hcut.out ⟨157, 100, 2⟩ (by decide)
  simp only [Nat.add_zero, Nat.sub_zero] at hcutn hcutl
  go_enter Try.func51, Try.ntmps51
  go_upto_region 1 with fail
  generalize hW : World.alloc w _ = W5
  have g0 : W5.heap[w.heap.size]? = some (.cells hd0.cells.toArray 36 (0, 0)) := by rw [← hW]; exact heap_alloc_new _ _
  have b5 : Below w.heap.size w W5 := by rw [← hW]; exact hb0.alloc (Nat.le_refl _) _
  have x156 : W5.cell? ⟨b, o + 156, none⟩ = some (.int .u8 ty.toNat) := by rw [← hW]; exact cell_alloc c156 _
  have hs5 : W5.heap.size = w.heap.size + 1 := by rw [← hW]; simp
  have z1 : Below w.heap.size w W5.drew := below_drewN b5 1
  have G0 := Au.mk g0
  clear hW g0
  have up1 : ∀ W, Below w.heap.size w W → Calls Try.prog 58 #[.slice (some ⟨b, o, none⟩) 100 c] W fun e w' => e = .returned (.string (ofL nm)) ∧ W = w' :=
    fun W h => rupto_calls _ (Hpl.out ⟨0, 100, 0⟩ (by decide)) Hnm.out _ (hcutn.below h)
  have up2 : ∀ W, Below w.heap.size w W → Calls Try.prog 58 #[.slice (some ⟨b, o + 157, none⟩) 100 (c - 157)] W fun e w' => e = .returned (.string (ofL lk)) ∧ W = w' :=
    fun W h => rupto_calls _ (Hpl.out ⟨157, 100, 2⟩ (by decide)) Hlk.out _ (hcutl.below h)
  have Up1 := Au.mk up1
  have Up2 := Au.mk up2
  clear up1 up2
  go_cut [3] (fun v wx => v = .pointer (some ⟨w.heap.size + 1, 0, none⟩) ∧ Au (wx.heap[w.heap.size]? = some (.cells hd0.cells.toArray 36 (0, 0))) ∧ Au (wx.heap[w.heap.size + 1]? = some (.cells (⟨nm, [], lk, 0, 0, 0, 0, 0, ty, 0, 0⟩ : Hd).cells.toArray 36 (0, 0))) ∧ Below w.heap.size w wx)
  case first =>
    have f1 : ∀ oo, ((W5.alloc oo).drew).heap[w.heap.size + 1]? = some oo := fun oo => by rw [← hs5]; exact heap_alloc_new _ _
    have f0 : ∀ oo, ((W5.alloc oo).drew).heap[w.heap.size]? = some (.cells hd0.cells.toArray 36 (0, 0)) := fun oo => blk_alloc G0.out _
    go_region_held3 (fun w' => w'.cell? ⟨b, o + 156, none⟩ = some (.int .u8 ty.toNat)) (first | go_keep | exact cell_alloc x156 _)
      (first | (go_at_call 58; (with_reducible refine (Up1.out _ ?zz).mono ?_); (case zz => first | with_reducible exact z1 | exact below_drewN (b5.alloc b5.size _) 1); rintro e w1 ⟨rfl, rfl⟩) | (go_at_call 58; (with_reducible refine (Up2.out _ ?zz).mono ?_); (case zz => first | with_reducible exact z1 | exact below_drewN (b5.alloc b5.size _) 1); rintro e w1 ⟨rfl, rfl⟩))
    all_goals (go_wp2_with fail; go_meet)
    all_goals exact ⟨rfl, ⟨f0 _⟩, ⟨f1 _⟩, below_drewN (b5.alloc b5.size _) 1⟩
  case rest =>
    obtain ⟨rfl, R1, G1, e1⟩ := hcut
    clear x156 z1 G0 b5 hcutn hcutl c156 hb0
    obtain ⟨v3, V3⟩ := au ((get (piece l ⟨100, 8, 3⟩)).getD 0)
    obtain ⟨i3, I3⟩ := au ((get (piece l ⟨100, 8, 3⟩)).isSome)
    go_wp2_with fail
    refine (rget_of (Hpl.out ⟨100, 8, 3⟩ (by decide)) V3.out I3.out ((Hcut.out ⟨100, 8, 3⟩ (by decide)).below e1)).mono ?_
    rintro e m1 ⟨rfl, d⟩
    have R1b := Au.mk (blk_below R1.out d (lt_of_block R1.out))
    have G1b := Au.mk (blk_below G1.out d (lt_of_block G1.out))
    have e1b := below_then e1 d e1.size
    have y1 := blk_cell G1b.out 3 rfl
    have y2 := blk_free G1b.out 3
    clear d R1 G1 e1
    go_upto_region 3 with fail
    generalize hW : World.setCell m1 _ _ = w2
    have R2 : Au (w2.heap[w.heap.size]? = some (.cells hd0.cells.toArray 36 (0, 0))) := ⟨by rw [← hW]; exact blk_far R1b.out (by simp) _⟩
    have G2 : Au (w2.heap[w.heap.size + 1]? = some (.cells (⟨nm, [], lk, v3, 0, 0, 0, 0, ty, 0, 0⟩ : Hd).cells.toArray 36 (0, 0))) := ⟨by rw [← hW]; exact blk_set G1b.out _ _⟩
    have e2 : Below w.heap.size w w2 := by rw [← hW]; exact e1b.setCell (by simp) _
    clear hW y1 y2 R1b G1b e1b
    obtain ⟨v4, V4⟩ := au ((get (piece l ⟨108, 8, 4⟩)).getD 0)
    obtain ⟨i4, I4⟩ := au ((get (piece l ⟨108, 8, 4⟩)).isSome)
    go_wp2_with fail
    refine (rget_of (Hpl.out ⟨108, 8, 4⟩ (by decide)) V4.out I4.out ((Hcut.out ⟨108, 8, 4⟩ (by decide)).below e2)).mono ?_
    rintro e m2 ⟨rfl, d⟩
    have R2b := Au.mk (blk_below R2.out d (lt_of_block R2.out))
    have G2b := Au.mk (blk_below G2.out d (lt_of_block G2.out))
    have e2b := below_then e2 d e2.size
    have y1 := blk_cell G2b.out 4 rfl
    have y2 := blk_free G2b.out 4
    clear d R2 G2 e2
    go_upto_region 4 with fail
    generalize hW : World.setCell m2 _ _ = w3
    have R3 : Au (w3.heap[w.heap.size]? = some (.cells hd0.cells.toArray 36 (0, 0))) := ⟨by rw [← hW]; exact blk_far R2b.out (by simp) _⟩
    have G3 : Au (w3.heap[w.heap.size + 1]? = some (.cells (⟨nm, [], lk, v3, v4, 0, 0, 0, ty, 0, 0⟩ : Hd).cells.toArray 36 (0, 0))) := ⟨by rw [← hW]; exact blk_set G2b.out _ _⟩
    have e3 : Below w.heap.size w w3 := by rw [← hW]; exact e2b.setCell (by simp) _
    clear hW y1 y2 R2b G2b e2b
    obtain ⟨v5, V5⟩ := au ((get (piece l ⟨116, 8, 5⟩)).getD 0)
    obtain ⟨i5, I5⟩ := au ((get (piece l ⟨116, 8, 5⟩)).isSome)
    go_wp2_with fail
    refine (rget_of (Hpl.out ⟨116, 8, 5⟩ (by decide)) V5.out I5.out ((Hcut.out ⟨116, 8, 5⟩ (by decide)).below e3)).mono ?_
    rintro e m3 ⟨rfl, d⟩
    have R3b := Au.mk (blk_below R3.out d (lt_of_block R3.out))
    have G3b := Au.mk (blk_below G3.out d (lt_of_block G3.out))
    have e3b := below_then e3 d e3.size
    have y1 := blk_cell G3b.out 5 rfl
    have y2 := blk_free G3b.out 5
    clear d R3 G3 e3
    go_upto_region 5 with fail
    generalize hW : World.setCell m3 _ _ = w4
    have R4 : Au (w4.heap[w.heap.size]? = some (.cells hd0.cells.toArray 36 (0, 0))) := ⟨by rw [← hW]; exact blk_far R3b.out (by simp) _⟩
    have G4 : Au (w4.heap[w.heap.size + 1]? = some (.cells (⟨nm, [], lk, v3, v4, v5, 0, 0, ty, 0, 0⟩ : Hd).cells.toArray 36 (0, 0))) := ⟨by rw [← hW]; exact blk_set G3b.out _ _⟩
    have e4 : Below w.heap.size w w4 := by rw [← hW]; exact e3b.setCell (by simp) _
    clear hW y1 y2 R3b G3b e3b
    obtain ⟨v6, V6⟩ := au ((get (piece l ⟨124, 12, 6⟩)).getD 0)
    obtain ⟨i6, I6⟩ := au ((get (piece l ⟨124, 12, 6⟩)).isSome)
    go_wp2_with fail
    refine (rget_of (Hpl.out ⟨124, 12, 6⟩ (by decide)) V6.out I6.out ((Hcut.out ⟨124, 12, 6⟩ (by decide)).below e4)).mono ?_
    rintro e m4 ⟨rfl, d⟩
    have R4b := Au.mk (blk_below R4.out d (lt_of_block R4.out))
    have G4b := Au.mk (blk_below G4.out d (lt_of_block G4.out))
    have e4b := below_then e4 d e4.size
    have y1 := blk_cell G4b.out 6 rfl
    have y2 := blk_free G4b.out 6
    clear d R4 G4 e4
    go_upto_region 6 with fail
    generalize hW : World.setCell m4 _ _ = w5
    have R5 : Au (w5.heap[w.heap.size]? = some (.cells hd0.cells.toArray 36 (0, 0))) := ⟨by rw [← hW]; exact blk_far R4b.out (by simp) _⟩
    have G5 : Au (w5.heap[w.heap.size + 1]? = some (.cells (⟨nm, [], lk, v3, v4, v5, v6, 0, ty, 0, 0⟩ : Hd).cells.toArray 36 (0, 0))) := ⟨by rw [← hW]; exact blk_set G4b.out _ _⟩
    have e5 : Below w.heap.size w w5 := by rw [← hW]; exact e4b.setCell (by simp) _
    clear hW y1 y2 R4b G4b e4b
    obtain ⟨v7, V7⟩ := au ((get (piece l ⟨136, 12, 7⟩)).getD 0)
    obtain ⟨i7, I7⟩ := au ((get (piece l ⟨136, 12, 7⟩)).isSome)
    go_wp2_with fail
    refine (rget_of (Hpl.out ⟨136, 12, 7⟩ (by decide)) V7.out I7.out ((Hcut.out ⟨136, 12, 7⟩ (by decide)).below e5)).mono ?_
    rintro e m5 ⟨rfl, d⟩
    have R5b := Au.mk (blk_below R5.out d (lt_of_block R5.out))
    have G5b := Au.mk (blk_below G5.out d (lt_of_block G5.out))
    have e5b := below_then e5 d e5.size
    have y1 := blk_cell G5b.out 7 rfl
    have y2 := blk_free G5b.out 7
    clear d R5 G5 e5
    go_upto_region 7 with fail
    generalize hW : World.setCell m5 _ _ = w6
    have R6 : Au (w6.heap[w.heap.size]? = some (.cells hd0.cells.toArray 36 (0, 0))) := ⟨by rw [← hW]; exact blk_far R5b.out (by simp) _⟩
    have G6 : Au (w6.heap[w.heap.size + 1]? = some (.cells (⟨nm, [], lk, v3, v4, v5, v6, v7, ty, 0, 0⟩ : Hd).cells.toArray 36 (0, 0))) := ⟨by rw [← hW]; exact blk_set G5b.out _ _⟩
    have e6 : Below w.heap.size w w6 := by rw [← hW]; exact e5b.setCell (by simp) _
    clear hW y1 y2 R5b G5b e5b
    have x6 := blk_cell G6.out 8 rfl
    obtain ⟨t, Ht⟩ := au ((ty.toNat : Int) == 77)
    have e77 : ((ty.toNat : Int) == 77) = (ty == 77) := byte_beq ty 77
    rw [Ht.out] at e77
    have ht := Ht.out
    cases t
    case true =>
      have h77 : tyOf l = 77 := by rw [Hty.out]; simpa using e77.symm
      have hgm := guess_more h77
      rw [Hnm.out, Hlk.out, V3.out, V4.out, V5.out, V6.out, V7.out, Hty.out] at hgm
      have Hgm := Au.mk hgm
      clear e77 h77 hgm
      obtain ⟨v9, V9⟩ := au ((get (piece l ⟨369, 12, 9⟩)).getD 0)
      obtain ⟨i9, I9⟩ := au ((get (piece l ⟨369, 12, 9⟩)).isSome)
      go_wp2_with fail
      refine (rget_of (Hpl.out ⟨369, 12, 9⟩ (by decide)) V9.out I9.out ((Hcut.out ⟨369, 12, 9⟩ (by decide)).below e6)).mono ?_
      rintro e m6 ⟨rfl, d⟩
      have R6b := Au.mk (blk_below R6.out d (lt_of_block R6.out))
      have G6b := Au.mk (blk_below G6.out d (lt_of_block G6.out))
      have e6b := below_then e6 d e6.size
      have y1 := blk_cell G6b.out 9 rfl
      have y2 := blk_free G6b.out 9
      clear d R6 G6 e6
      go_upto_region 9 with fail
      generalize hW : World.setCell m6 _ _ = w7
      have R7 : Au (w7.heap[w.heap.size]? = some (.cells hd0.cells.toArray 36 (0, 0))) := ⟨by rw [← hW]; exact blk_far R6b.out (by simp) _⟩
      have G7 : Au (w7.heap[w.heap.size + 1]? = some (.cells (⟨nm, [], lk, v3, v4, v5, v6, v7, ty, v9, 0⟩ : Hd).cells.toArray 36 (0, 0))) := ⟨by rw [← hW]; exact blk_set G6b.out _ _⟩
      have e7 : Below w.heap.size w w7 := by rw [← hW]; exact e6b.setCell (by simp) _
      clear hW y1 y2 R6b G6b e6b
      obtain ⟨v10, V10⟩ := au ((get (piece l ⟨483, 12, 10⟩)).getD 0)
      obtain ⟨i10, I10⟩ := au ((get (piece l ⟨483, 12, 10⟩)).isSome)
      go_wp2_with fail
      refine (rget_of (Hpl.out ⟨483, 12, 10⟩ (by decide)) V10.out I10.out ((Hcut.out ⟨483, 12, 10⟩ (by decide)).below e7)).mono ?_
      rintro e m7 ⟨rfl, d⟩
      have R7b := Au.mk (blk_below R7.out d (lt_of_block R7.out))
      have G7b := Au.mk (blk_below G7.out d (lt_of_block G7.out))
      have e7b := below_then e7 d e7.size
      have y1 := blk_cell G7b.out 10 rfl
      have y2 := blk_free G7b.out 10
      clear d R7 G7 e7
      go_upto_region 11 with fail
      generalize hW : World.setCell m7 _ _ = w8
      have R8 : Au (w8.heap[w.heap.size]? = some (.cells hd0.cells.toArray 36 (0, 0))) := ⟨by rw [← hW]; exact blk_far R7b.out (by simp) _⟩
      have G8 : Au (w8.heap[w.heap.size + 1]? = some (.cells (⟨nm, [], lk, v3, v4, v5, v6, v7, ty, v9, v10⟩ : Hd).cells.toArray 36 (0, 0))) := ⟨by rw [← hW]; exact blk_set G7b.out _ _⟩
      have e8 : Below w.heap.size w w8 := by rw [← hW]; exact e7b.setCell (by simp) _
      clear hW y1 y2 R7b G7b e7b
      have hfin : (⟨nm, [], lk, v3, v4, v5, v6, v7, ty, v9, v10⟩ : Hd) = r := by rw [← Hr.out, Hgm.out, V9.out, V10.out]
      rw [hfin] at G8
      clear hfin
      have k0 := blk_cell G8.out 0 rfl
      have k1 := blk_cell G8.out 1 rfl
      have k2 := blk_cell G8.out 2 rfl
      have k3 := blk_cell G8.out 3 rfl
      have k4 := blk_cell G8.out 4 rfl
      have k5 := blk_cell G8.out 5 rfl
      have k6 := blk_cell G8.out 6 rfl
      have k7 := blk_cell G8.out 7 rfl
      have k8 := blk_cell G8.out 8 rfl
      have k9 := blk_cell G8.out 9 rfl
      have k10 := blk_cell G8.out 10 rfl
      go_wp2_with (first | (with_reducible refine wpList_store_head (o := ⟨none, .store 36 (.tmp 2) (.tmp 70), _, _, _, _⟩) rfl (.tmp 2) (.tmp 70) rfl w.heap.size r hd0 ?a1 ?a2 R8.out ?a3))
      case a1 => rfl
      case a2 => rfl
      intro w' Hw' hg'
      go_wp2_with fail
      ((try simp only [Exit.inBlock, Exit.then]); refine ret_head1 2 rfl Hw'.out rfl rfl ?_)
      exact ⟨rfl, below_of_grown e8 hg' e8.size (Nat.le_refl _)⟩
    case false =>
      have h77 : ¬ tyOf l = 77 := by rw [Hty.out]; simpa using e77.symm
      have hgm := guess_less h77
      rw [Hnm.out, Hlk.out, V3.out, V4.out, V5.out, V6.out, V7.out, Hty.out] at hgm
      have Hgm := Au.mk hgm
      obtain ⟨pr, Hprr⟩ := au (upto (piece l ⟨345, 155, 1⟩))
      clear e77 h77 hgm
      have y1 := blk_cell G6.out 1 rfl
      have y2 := blk_free G6.out 1
      go_wp2_with fail
      refine (rupto_calls _ (Hpl.out ⟨345, 155, 1⟩ (by decide)) Hprr.out _ ((Hcut.out ⟨345, 155, 1⟩ (by decide)).below e6)).mono ?_
      rintro e m6 ⟨rfl, rfl⟩
      go_upto_region 11 with fail
      generalize hW : World.setCell w6 _ _ = w7
      have R7 : Au (w7.heap[w.heap.size]? = some (.cells hd0.cells.toArray 36 (0, 0))) := ⟨by rw [← hW]; exact blk_far R6.out (by simp) _⟩
      have G7 : Au (w7.heap[w.heap.size + 1]? = some (.cells (⟨nm, pr, lk, v3, v4, v5, v6, v7, ty, 0, 0⟩ : Hd).cells.toArray 36 (0, 0))) := ⟨by rw [← hW]; exact blk_set G6.out _ _⟩
      have e7 : Below w.heap.size w w7 := by rw [← hW]; exact e6.setCell (by simp) _
      clear hW y1 y2 R6 G6 e6
      have hfin : (⟨nm, pr, lk, v3, v4, v5, v6, v7, ty, 0, 0⟩ : Hd) = r := by rw [← Hr.out, Hgm.out, Hprr.out]
      rw [hfin] at G7
      clear hfin
      have k0 := blk_cell G7.out 0 rfl
      have k1 := blk_cell G7.out 1 rfl
      have k2 := blk_cell G7.out 2 rfl
      have k3 := blk_cell G7.out 3 rfl
      have k4 := blk_cell G7.out 4 rfl
      have k5 := blk_cell G7.out 5 rfl
      have k6 := blk_cell G7.out 6 rfl
      have k7 := blk_cell G7.out 7 rfl
      have k8 := blk_cell G7.out 8 rfl
      have k9 := blk_cell G7.out 9 rfl
      have k10 := blk_cell G7.out 10 rfl
      go_wp2_with (first | (with_reducible refine wpList_store_head (o := ⟨none, .store 36 (.tmp 2) (.tmp 70), _, _, _, _⟩) rfl (.tmp 2) (.tmp 70) rfl w.heap.size r hd0 ?b1 ?b2 R7.out ?b3))
      case b1 => rfl
      case b2 => rfl
      intro w' Hw' hg'
      go_wp2_with fail
      ((try simp only [Exit.inBlock, Exit.then]); refine ret_head1 2 rfl Hw'.out rfl rfl ?_)
      exact ⟨rfl, below_of_grown e7 hg' e7.size (Nat.le_refl _)⟩
end Go.Proofs.Ytejalhoaljlnhaa.Rk
