/- GHeadD: HeadZ HedA HedB HedC HedF HedI HedJ -/
import Derived.Test.YtejalhoaljlnhaaDoorGHeadC
import Derived.Test.YtejalhoaljlnhaaDoorGBase
set_option maxRecDepth 100000
/- Walks: the document's answers for headers: upto, guess. -/
namespace Go.Proofs.YtejalhoaljlnhaaDoor.Rk
open Go.RowKit
set_option linter.unusedVariables false
set_option linter.unusedSimpArgs false

theorem ret_head1 {fn : Func} (p : Nat) (hfn : fn.results = #[.cell p 35]) {R : Ending → World → Prop} {w : World} {h : Hd} {g : Nat} {a : Act} (hg : w.heap[g]? = some (.cells h.cells.toArray 35 (0, 0)))
    (t2 : a.tmps.getD p undef = .pointer (some ⟨g, 0, none⟩)) (hd : a.defers = [])
    (hR : R (.returned h.agg) w) : bodyPost Tryd.prog fn R .ret a w :=
  bodyPost_ret (v := h.agg) (results_cell_row hfn a.tmps w g 35 h.cells.toArray (0, 0) _ t2 hg Tryd.underlying35 rfl (by kernel_rfl)) hd hR

theorem upto_at {l : List UInt8} {k : Nat} (hk : k < l.length) (h : l[k] = 0) (h0 : (0 : UInt8) ∉ l.take k) : upto l = l.take k := by
  have e : l = l.take k ++ l.drop k := (List.take_append_drop k l).symm
  conv => lhs; rw [e]
  unfold upto
  rw [List.takeWhile_append_of_pos (by intro a ha; simp; rintro rfl; exact h0 ha), List.drop_eq_getElem_cons hk, h, List.takeWhile_cons_of_neg (by simp)]
  simp
theorem upto_all {l : List UInt8} (h0 : (0 : UInt8) ∉ l) : upto l = l := by
  have := List.takeWhile_append_of_pos (p := (· != (0 : UInt8))) (l₁ := l) (l₂ := []) (by intro a ha; simp; rintro rfl; exact h0 ha)
  simpa [upto] using this
theorem rupto_calls (l : List UInt8) {n : Nat} (hn : l.length = n) {s : List UInt8} (hs : upto l = s) {A : Option Addr} {c : Nat} {F : Nat → Prop} (w : World) (ha : Sl Kd.byte w F A c l) :
    Calls Tryd.prog 64 #[.slice A n c] w fun e w' => e = .returned (.string (ofL s)) ∧ w = w' := by
  subst hn
  have Hs := Au.mk hs
  clear hs
  have hcap := ha.1
  have hcap2 := ha.2.1
  go_enter Tryd.func64, Tryd.ntmps64
  go_wp2_with fail
  go_loop [3] (fun i => ∃ k : Nat, k ≤ l.length ∧ i = .int .i64 k ∧ Au ((0 : UInt8) ∉ l.take k)) (fun i => l.length - (intOf i).toNat)
  case atStart => exact ⟨0, Nat.zero_le _, rfl, ⟨by simp⟩⟩
  case round =>
    obtain ⟨k, hk, rfl, H0⟩ := hrel
    by_cases hlt : k < l.length
    · obtain ⟨b, o, rfl, ck⟩ := ha.byte_at k hlt
      obtain ⟨x, hx⟩ : ∃ x, l[k] = x := ⟨_, rfl⟩
      rw [hx] at ck
      have Hx := Au.mk hx
      clear hx
      by_cases h0 : x = 0
      · subst h0
        obtain ⟨t, Ht⟩ := au (l.take k)
        have hs2 : t = s := by rw [← Hs.out, ← Ht.out, upto_at hlt Hx.out H0.out]
        subst hs2
        have kc : (convert 22 9 (.slice (some ⟨b, o, none⟩) k c)).run Tryd.prog w = .ok (.string (ofL t)) w := by
          have hcl := ha.bytes.take k
          have e : (bcs l).take k = bcs t := by rw [← Ht.out]; simp [bcs, List.map_take]
          rw [e] at hcl
          exact bytes_str Tryd.underlying22 Tryd.underlying5 Tryd.underlying9 hcl k c (by rw [← Ht.out, List.length_take]; omega)
        go_wp2_with fail
        go_ret
        exact ⟨rfl, rfl⟩
      · have hx0 : ((x.toNat : Int) == 0) = false := by
          rw [beq_eq_false_iff_ne]; intro h
          exact h0 (UInt8.toNat_inj.1 (by simpa using h))
        have H0' := Au.mk h0
        clear h0
        go_wp2_with fail
        go_round
        case rel => exact ⟨k + 1, by omega, by go_num, ⟨mem_take_succ hlt Hx.out H0.out H0'.out⟩⟩
        case measure => simp [intOf]; omega
    · have hk2 : k = l.length := by omega
      have h0 : (0 : UInt8) ∉ l := by have := H0.out; rwa [hk2, List.take_length] at this
      have hs2 : l = s := by rw [← Hs.out, upto_all h0]
      subst hs2
      have kc := str_of ha
      clear h0 hk2 H0 Hs
      go_wp2_with fail
      go_ret
      exact ⟨rfl, rfl⟩
theorem rget_of {l : List UInt8} {k : Nat} (hk : l.length = k) {n : Int} {b : Bool} (hn : (get l).getD 0 = n) (hb : (get l).isSome = b) {A : Option Addr} {c : Nat} {F : Nat → Prop} {w : World} (ha : Sl Kd.byte w F A c l) :
    Calls Tryd.prog 65 #[.slice A k c] w fun e w' => e = .returned (.tuple #[.int .i64 n, .bool b]) ∧ Below w.heap.size w w' := by
  subst hk
  exact rget_view hn hb ha
theorem guess_more {b : List UInt8} (h : tyOf b = 77) : guess b = ⟨upto (piece b ⟨0, 100, 0⟩), [], upto (piece b ⟨157, 100, 2⟩), (get (piece b ⟨100, 8, 3⟩)).getD 0, (get (piece b ⟨108, 8, 4⟩)).getD 0, (get (piece b ⟨116, 8, 5⟩)).getD 0, (get (piece b ⟨124, 12, 6⟩)).getD 0,
    (get (piece b ⟨136, 12, 7⟩)).getD 0, tyOf b, (get (piece b ⟨369, 12, 9⟩)).getD 0, (get (piece b ⟨483, 12, 10⟩)).getD 0⟩ := by
  unfold guess
  simp only [guessN, guessW, wSp, nSp, if_pos h, List.append_nil, List.cons_append, List.nil_append, List.foldl_cons, List.foldl_nil, Hd.setText, Hd.setNumb, hd0]
theorem guess_less {b : List UInt8} (h : ¬ tyOf b = 77) : guess b = ⟨upto (piece b ⟨0, 100, 0⟩), upto (piece b ⟨345, 155, 1⟩), upto (piece b ⟨157, 100, 2⟩), (get (piece b ⟨100, 8, 3⟩)).getD 0, (get (piece b ⟨108, 8, 4⟩)).getD 0, (get (piece b ⟨116, 8, 5⟩)).getD 0, (get (piece b ⟨124, 12, 6⟩)).getD 0,
    (get (piece b ⟨136, 12, 7⟩)).getD 0, tyOf b, 0, 0⟩ := by
  unfold guess
  simp only [guessN, guessW, wSp, nSp, if_neg h, List.append_nil, List.cons_append, List.nil_append, List.foldl_cons, List.foldl_nil, Hd.setText, Hd.setNumb, hd0]
theorem piece_le (b : List UInt8) (s : Sp) : (upto (piece b s)).length ≤ s.wide := Nat.le_trans (upto_le _) (by unfold piece; rw [List.length_take]; omega)
theorem guess_S (b : List UInt8) : (guess b).S := by
  by_cases h : tyOf b = 77
  · rw [guess_more h]
    exact ⟨Nat.le_trans (piece_le b ⟨0, 100, 0⟩) (by decide), by simp, Nat.le_trans (piece_le b ⟨157, 100, 2⟩) (by decide)⟩
  · rw [guess_less h]
    exact ⟨Nat.le_trans (piece_le b ⟨0, 100, 0⟩) (by decide), Nat.le_trans (piece_le b ⟨345, 155, 1⟩) (by decide), Nat.le_trans (piece_le b ⟨157, 100, 2⟩) (by decide)⟩
end Go.Proofs.YtejalhoaljlnhaaDoor.Rk
/- Walks: the document's answers for headers: guess. -/
namespace Go.Proofs.YtejalhoaljlnhaaDoor.Rk
open Go.RowKit
set_option linter.unusedVariables false
set_option linter.unusedSimpArgs false

set_option maxHeartbeats 4000000 in
theorem rguess_calls (l : List UInt8) {b o : Nat} {c : Nat} {F : Nat → Prop} {r : Hd} (hr : guess l = r) {n : Nat} (hl : l.length = n) (h512 : n = 512) (w : World) (ha : Sl Kd.byte w F (some ⟨b, o, none⟩) c l) :
    Calls Tryd.prog 48 #[.slice (some ⟨b, o, none⟩) n c] w fun e w' => e = .returned r.agg ∧ Below w.heap.size w w' := by
  subst h512
  have hb0 := Below.refl w.heap.size w
  have hcap := ha.1
  have hcap2 := ha.2.1
  have hc5 : 512 ≤ c := by omega
  have hl156 : 156 < l.length := by omega
  have hty : tyOf l = l[156] := by simp [tyOf, hl156]
  have hby2 : ∀ W, Below w.heap.size w W → W.cell? ⟨b, o + 156, none⟩ = some (.int .u8 (tyOf l).toNat) := fun W hW => by
    obtain ⟨b', o', e, h⟩ := (ha.below hW).byte_at 156 hl156
    injection e with e; injection e with e1 e2; subst e1 e2
    rw [hty]; exact h
  have hcut : ∀ (s : Sp), s.at_ + s.wide ≤ 512 → Sl Kd.byte w F (some ⟨b, o + s.at_, none⟩) (c - s.at_) (piece l s) := fun s h1 => byte_cut ha s.at_ s.wide (c - s.at_) (by omega) (by omega) (by omega)
  have hpl : ∀ (s : Sp), s.at_ + s.wide ≤ 512 → (piece l s).length = s.wide := fun s h1 => piece_len hl h1
  have Hcut := Au.mk hcut
  have Hpl := Au.mk hpl
  have Hby := Au.mk hby2
  have Hr := Au.mk hr
  obtain ⟨ty, Hty⟩ := au (tyOf l)
  have c156 := Hby.out w hb0
  rw [Hty.out] at c156
  clear hl156 hty hby2 hcut hpl hl hr hcap
  obtain ⟨nm, Hnm⟩ := au (upto (piece l ⟨0, 100, 0⟩))
  obtain ⟨lk, Hlk⟩ := au (upto (piece l ⟨157, 100, 2⟩))
  have h100 : (100 : Int) ≤ c := by omega
  have h257 : (257 : Int) ≤ c := by omega
  have h108 : (108 : Int) ≤ c := by omega
  have h116 : (116 : Int) ≤ c := by omega
  have h124 : (124 : Int) ≤ c := by omega
  have h136 : (136 : Int) ≤ c := by omega
  have h148 : (148 : Int) ≤ c := by omega
  have h381 : (381 : Int) ≤ c := by omega
  have h495 : (495 : Int) ≤ c := by omega
  have h500 : (500 : Int) ≤ c := by omega
  have n157 : ¬ c = 157 := by omega
  have n100 : ¬ c = 100 := by omega
  have n108 : ¬ c = 108 := by omega
  have n116 : ¬ c = 116 := by omega
  have n124 : ¬ c = 124 := by omega
  have n136 : ¬ c = 136 := by omega
  have n369 : ¬ c = 369 := by omega
  have n483 : ¬ c = 483 := by omega
  have n345 : ¬ c = 345 := by omega
  have hcutn := Hcut.out ⟨0, 100, 0⟩ (by decide)
  have hcutl := Hcut.out ⟨157, 100, 2⟩ (by decide)
  simp only [Nat.add_zero, Nat.sub_zero] at hcutn hcutl
  go_enter Tryd.func48, Tryd.ntmps48
  go_upto_region 1 with fail
  generalize hW : World.alloc w _ = W5
  have g0 : W5.heap[w.heap.size]? = some (.cells hd0.cells.toArray 35 (0, 0)) := by rw [← hW]; exact heap_alloc_new _ _
  have b5 : Below w.heap.size w W5 := by rw [← hW]; exact hb0.alloc (Nat.le_refl _) _
  have x156 : W5.cell? ⟨b, o + 156, none⟩ = some (.int .u8 ty.toNat) := by rw [← hW]; exact cell_alloc c156 _
  have hs5 : W5.heap.size = w.heap.size + 1 := by rw [← hW]; simp
  have z1 : Below w.heap.size w W5.drew := below_drewN b5 1
  have G0 := Au.mk g0
  clear hW g0
  have up1 : ∀ W, Below w.heap.size w W → Calls Tryd.prog 64 #[.slice (some ⟨b, o, none⟩) 100 c] W fun e w' => e = .returned (.string (ofL nm)) ∧ W = w' :=
    fun W h => rupto_calls _ (Hpl.out ⟨0, 100, 0⟩ (by decide)) Hnm.out _ (hcutn.below h)
  have up2 : ∀ W, Below w.heap.size w W → Calls Tryd.prog 64 #[.slice (some ⟨b, o + 157, none⟩) 100 (c - 157)] W fun e w' => e = .returned (.string (ofL lk)) ∧ W = w' :=
    fun W h => rupto_calls _ (Hpl.out ⟨157, 100, 2⟩ (by decide)) Hlk.out _ (hcutl.below h)
  have Up1 := Au.mk up1
  have Up2 := Au.mk up2
  clear up1 up2
  go_cut [3] (fun v wx => v = .pointer (some ⟨w.heap.size + 1, 0, none⟩) ∧ Au (wx.heap[w.heap.size]? = some (.cells hd0.cells.toArray 35 (0, 0))) ∧ Au (wx.heap[w.heap.size + 1]? = some (.cells (⟨nm, [], lk, 0, 0, 0, 0, 0, ty, 0, 0⟩ : Hd).cells.toArray 35 (0, 0))) ∧ Below w.heap.size w wx)
  case first =>
    have f1 : ∀ oo, ((W5.alloc oo).drew).heap[w.heap.size + 1]? = some oo := fun oo => by rw [← hs5]; exact heap_alloc_new _ _
    have f0 : ∀ oo, ((W5.alloc oo).drew).heap[w.heap.size]? = some (.cells hd0.cells.toArray 35 (0, 0)) := fun oo => blk_alloc G0.out _
    go_region_held3 (fun w' => w'.cell? ⟨b, o + 156, none⟩ = some (.int .u8 ty.toNat)) (first | go_keep | exact cell_alloc x156 _)
      (first | (go_at_call 64; (with_reducible refine (Up1.out _ ?zz).mono ?_); (case zz => first | with_reducible exact z1 | exact below_drewN (b5.alloc b5.size _) 1); rintro e w1 ⟨rfl, rfl⟩) | (go_at_call 64; (with_reducible refine (Up2.out _ ?zz).mono ?_); (case zz => first | with_reducible exact z1 | exact below_drewN (b5.alloc b5.size _) 1); rintro e w1 ⟨rfl, rfl⟩))
    all_goals (go_wp2_with fail; go_meet)
    all_goals exact ⟨rfl, ⟨f0 _⟩, ⟨f1 _⟩, below_drewN (b5.alloc b5.size _) 1⟩
  case rest =>
    obtain ⟨rfl, R1, G1, e1⟩ := hcut
    clear x156 z1 G0 b5 hcutn hcutl c156 hb0
    obtain ⟨v3, V3⟩ := au ((get (piece l ⟨100, 8, 3⟩)).getD 0)
    obtain ⟨i3, I3⟩ := au ((get (piece l ⟨100, 8, 3⟩)).isSome)
    go_wp2_with fail
    refine (rget_of (Hpl.out ⟨100, 8, 3⟩ (by decide)) V3.out I3.out ((Hcut.out ⟨100, 8, 3⟩ (by decide)).below e1)).mono ?_
    rintro e m1 ⟨rfl, d⟩
    have R1b := Au.mk (blk_below R1.out d (lt_of_block R1.out))
    have G1b := Au.mk (blk_below G1.out d (lt_of_block G1.out))
    have e1b := below_then e1 d e1.size
    have y1 := blk_cell G1b.out 3 rfl
    have y2 := blk_free G1b.out 3
    clear d R1 G1 e1
    go_upto_region 3 with fail
    generalize hW : World.setCell m1 _ _ = w2
    have R2 : Au (w2.heap[w.heap.size]? = some (.cells hd0.cells.toArray 35 (0, 0))) := ⟨by rw [← hW]; exact blk_far R1b.out (by simp) _⟩
    have G2 : Au (w2.heap[w.heap.size + 1]? = some (.cells (⟨nm, [], lk, v3, 0, 0, 0, 0, ty, 0, 0⟩ : Hd).cells.toArray 35 (0, 0))) := ⟨by rw [← hW]; exact blk_set G1b.out _ _⟩
    have e2 : Below w.heap.size w w2 := by rw [← hW]; exact e1b.setCell (by simp) _
    clear hW y1 y2 R1b G1b e1b
    obtain ⟨v4, V4⟩ := au ((get (piece l ⟨108, 8, 4⟩)).getD 0)
    obtain ⟨i4, I4⟩ := au ((get (piece l ⟨108, 8, 4⟩)).isSome)
    go_wp2_with fail
    refine (rget_of (Hpl.out ⟨108, 8, 4⟩ (by decide)) V4.out I4.out ((Hcut.out ⟨108, 8, 4⟩ (by decide)).below e2)).mono ?_
    rintro e m2 ⟨rfl, d⟩
    have R2b := Au.mk (blk_below R2.out d (lt_of_block R2.out))
    have G2b := Au.mk (blk_below G2.out d (lt_of_block G2.out))
    have e2b := below_then e2 d e2.size
    have y1 := blk_cell G2b.out 4 rfl
    have y2 := blk_free G2b.out 4
    clear d R2 G2 e2
    go_upto_region 4 with fail
    generalize hW : World.setCell m2 _ _ = w3
    have R3 : Au (w3.heap[w.heap.size]? = some (.cells hd0.cells.toArray 35 (0, 0))) := ⟨by rw [← hW]; exact blk_far R2b.out (by simp) _⟩
    have G3 : Au (w3.heap[w.heap.size + 1]? = some (.cells (⟨nm, [], lk, v3, v4, 0, 0, 0, ty, 0, 0⟩ : Hd).cells.toArray 35 (0, 0))) := ⟨by rw [← hW]; exact blk_set G2b.out _ _⟩
    have e3 : Below w.heap.size w w3 := by rw [← hW]; exact e2b.setCell (by simp) _
    clear hW y1 y2 R2b G2b e2b
    obtain ⟨v5, V5⟩ := au ((get (piece l ⟨116, 8, 5⟩)).getD 0)
    obtain ⟨i5, I5⟩ := au ((get (piece l ⟨116, 8, 5⟩)).isSome)
    go_wp2_with fail
    refine (rget_of (Hpl.out ⟨116, 8, 5⟩ (by decide)) V5.out I5.out ((Hcut.out ⟨116, 8, 5⟩ (by decide)).below e3)).mono ?_
    rintro e m3 ⟨rfl, d⟩
    have R3b := Au.mk (blk_below R3.out d (lt_of_block R3.out))
    have G3b := Au.mk (blk_below G3.out d (lt_of_block G3.out))
    have e3b := below_then e3 d e3.size
    have y1 := blk_cell G3b.out 5 rfl
    have y2 := blk_free G3b.out 5
    clear d R3 G3 e3
    go_upto_region 5 with fail
    generalize hW : World.setCell m3 _ _ = w4
    have R4 : Au (w4.heap[w.heap.size]? = some (.cells hd0.cells.toArray 35 (0, 0))) := ⟨by rw [← hW]; exact blk_far R3b.out (by simp) _⟩
    have G4 : Au (w4.heap[w.heap.size + 1]? = some (.cells (⟨nm, [], lk, v3, v4, v5, 0, 0, ty, 0, 0⟩ : Hd).cells.toArray 35 (0, 0))) := ⟨by rw [← hW]; exact blk_set G3b.out _ _⟩
    have e4 : Below w.heap.size w w4 := by rw [← hW]; exact e3b.setCell (by simp) _
    clear hW y1 y2 R3b G3b e3b
    obtain ⟨v6, V6⟩ := au ((get (piece l ⟨124, 12, 6⟩)).getD 0)
    obtain ⟨i6, I6⟩ := au ((get (piece l ⟨124, 12, 6⟩)).isSome)
    go_wp2_with fail
    refine (rget_of (Hpl.out ⟨124, 12, 6⟩ (by decide)) V6.out I6.out ((Hcut.out ⟨124, 12, 6⟩ (by decide)).below e4)).mono ?_
    rintro e m4 ⟨rfl, d⟩
    have R4b := Au.mk (blk_below R4.out d (lt_of_block R4.out))
    have G4b := Au.mk (blk_below G4.out d (lt_of_block G4.out))
    have e4b := below_then e4 d e4.size
    have y1 := blk_cell G4b.out 6 rfl
    have y2 := blk_free G4b.out 6
    clear d R4 G4 e4
    go_upto_region 6 with fail
    generalize hW : World.setCell m4 _ _ = w5
    have R5 : Au (w5.heap[w.heap.size]? = some (.cells hd0.cells.toArray 35 (0, 0))) := ⟨by rw [← hW]; exact blk_far R4b.out (by simp) _⟩
    have G5 : Au (w5.heap[w.heap.size + 1]? = some (.cells (⟨nm, [], lk, v3, v4, v5, v6, 0, ty, 0, 0⟩ : Hd).cells.toArray 35 (0, 0))) := ⟨by rw [← hW]; exact blk_set G4b.out _ _⟩
    have e5 : Below w.heap.size w w5 := by rw [← hW]; exact e4b.setCell (by simp) _
    clear hW y1 y2 R4b G4b e4b
    obtain ⟨v7, V7⟩ := au ((get (piece l ⟨136, 12, 7⟩)).getD 0)
    obtain ⟨i7, I7⟩ := au ((get (piece l ⟨136, 12, 7⟩)).isSome)
    go_wp2_with fail
    refine (rget_of (Hpl.out ⟨136, 12, 7⟩ (by decide)) V7.out I7.out ((Hcut.out ⟨136, 12, 7⟩ (by decide)).below e5)).mono ?_
    rintro e m5 ⟨rfl, d⟩
    have R5b := Au.mk (blk_below R5.out d (lt_of_block R5.out))
    have G5b := Au.mk (blk_below G5.out d (lt_of_block G5.out))
    have e5b := below_then e5 d e5.size
    have y1 := blk_cell G5b.out 7 rfl
    have y2 := blk_free G5b.out 7
    clear d R5 G5 e5
    go_upto_region 7 with fail
    generalize hW : World.setCell m5 _ _ = w6
    have R6 : Au (w6.heap[w.heap.size]? = some (.cells hd0.cells.toArray 35 (0, 0))) := ⟨by rw [← hW]; exact blk_far R5b.out (by simp) _⟩
    have G6 : Au (w6.heap[w.heap.size + 1]? = some (.cells (⟨nm, [], lk, v3, v4, v5, v6, v7, ty, 0, 0⟩ : Hd).cells.toArray 35 (0, 0))) := ⟨by rw [← hW]; exact blk_set G5b.out _ _⟩
    have e6 : Below w.heap.size w w6 := by rw [← hW]; exact e5b.setCell (by simp) _
    clear hW y1 y2 R5b G5b e5b
    have x6 := blk_cell G6.out 8 rfl
    obtain ⟨t, Ht⟩ := au ((ty.toNat : Int) == 77)
    have e77 : ((ty.toNat : Int) == 77) = (ty == 77) := byte_beq ty 77
    rw [Ht.out] at e77
    have ht := Ht.out
    cases t
    case true =>
      have h77 : tyOf l = 77 := by rw [Hty.out]; simpa using e77.symm
      have hgm := guess_more h77
      rw [Hnm.out, Hlk.out, V3.out, V4.out, V5.out, V6.out, V7.out, Hty.out] at hgm
      have Hgm := Au.mk hgm
      clear e77 h77 hgm
      obtain ⟨v9, V9⟩ := au ((get (piece l ⟨369, 12, 9⟩)).getD 0)
      obtain ⟨i9, I9⟩ := au ((get (piece l ⟨369, 12, 9⟩)).isSome)
      go_wp2_with fail
      refine (rget_of (Hpl.out ⟨369, 12, 9⟩ (by decide)) V9.out I9.out ((Hcut.out ⟨369, 12, 9⟩ (by decide)).below e6)).mono ?_
      rintro e m6 ⟨rfl, d⟩
      have R6b := Au.mk (blk_below R6.out d (lt_of_block R6.out))
      have G6b := Au.mk (blk_below G6.out d (lt_of_block G6.out))
      have e6b := below_then e6 d e6.size
      have y1 := blk_cell G6b.out 9 rfl
      have y2 := blk_free G6b.out 9
      clear d R6 G6 e6
      go_upto_region 9 with fail
      generalize hW : World.setCell m6 _ _ = w7
      have R7 : Au (w7.heap[w.heap.size]? = some (.cells hd0.cells.toArray 35 (0, 0))) := ⟨by rw [← hW]; exact blk_far R6b.out (by simp) _⟩
      have G7 : Au (w7.heap[w.heap.size + 1]? = some (.cells (⟨nm, [], lk, v3, v4, v5, v6, v7, ty, v9, 0⟩ : Hd).cells.toArray 35 (0, 0))) := ⟨by rw [← hW]; exact blk_set G6b.out _ _⟩
      have e7 : Below w.heap.size w w7 := by rw [← hW]; exact e6b.setCell (by simp) _
      clear hW y1 y2 R6b G6b e6b
      obtain ⟨v10, V10⟩ := au ((get (piece l ⟨483, 12, 10⟩)).getD 0)
      obtain ⟨i10, I10⟩ := au ((get (piece l ⟨483, 12, 10⟩)).isSome)
      go_wp2_with fail
      refine (rget_of (Hpl.out ⟨483, 12, 10⟩ (by decide)) V10.out I10.out ((Hcut.out ⟨483, 12, 10⟩ (by decide)).below e7)).mono ?_
      rintro e m7 ⟨rfl, d⟩
      have R7b := Au.mk (blk_below R7.out d (lt_of_block R7.out))
      have G7b := Au.mk (blk_below G7.out d (lt_of_block G7.out))
      have e7b := below_then e7 d e7.size
      have y1 := blk_cell G7b.out 10 rfl
      have y2 := blk_free G7b.out 10
      clear d R7 G7 e7
      go_upto_region 11 with fail
      generalize hW : World.setCell m7 _ _ = w8
      have R8 : Au (w8.heap[w.heap.size]? = some (.cells hd0.cells.toArray 35 (0, 0))) := ⟨by rw [← hW]; exact blk_far R7b.out (by simp) _⟩
      have G8 : Au (w8.heap[w.heap.size + 1]? = some (.cells (⟨nm, [], lk, v3, v4, v5, v6, v7, ty, v9, v10⟩ : Hd).cells.toArray 35 (0, 0))) := ⟨by rw [← hW]; exact blk_set G7b.out _ _⟩
      have e8 : Below w.heap.size w w8 := by rw [← hW]; exact e7b.setCell (by simp) _
      clear hW y1 y2 R7b G7b e7b
      have hfin : (⟨nm, [], lk, v3, v4, v5, v6, v7, ty, v9, v10⟩ : Hd) = r := by rw [← Hr.out, Hgm.out, V9.out, V10.out]
      rw [hfin] at G8
      clear hfin
      have k0 := blk_cell G8.out 0 rfl
      have k1 := blk_cell G8.out 1 rfl
      have k2 := blk_cell G8.out 2 rfl
      have k3 := blk_cell G8.out 3 rfl
      have k4 := blk_cell G8.out 4 rfl
      have k5 := blk_cell G8.out 5 rfl
      have k6 := blk_cell G8.out 6 rfl
      have k7 := blk_cell G8.out 7 rfl
      have k8 := blk_cell G8.out 8 rfl
      have k9 := blk_cell G8.out 9 rfl
      have k10 := blk_cell G8.out 10 rfl
      go_wp2_with (first | (with_reducible refine wpList_store_head (o := ⟨none, .store 35 (.tmp 2) (.tmp 70), _, _, _, _⟩) rfl (.tmp 2) (.tmp 70) rfl w.heap.size r hd0 ?a1 ?a2 R8.out ?a3))
      case a1 => rfl
      case a2 => rfl
      intro w' Hw' hg'
      go_wp2_with fail
      ((try simp only [Exit.inBlock, Exit.then]); refine ret_head1 2 rfl Hw'.out rfl rfl ?_)
      exact ⟨rfl, below_of_grown e8 hg' e8.size (Nat.le_refl _)⟩
    case false =>
      have h77 : ¬ tyOf l = 77 := by rw [Hty.out]; simpa using e77.symm
      have hgm := guess_less h77
      rw [Hnm.out, Hlk.out, V3.out, V4.out, V5.out, V6.out, V7.out, Hty.out] at hgm
      have Hgm := Au.mk hgm
      obtain ⟨pr, Hprr⟩ := au (upto (piece l ⟨345, 155, 1⟩))
      clear e77 h77 hgm
      have y1 := blk_cell G6.out 1 rfl
      have y2 := blk_free G6.out 1
      go_wp2_with fail
      refine (rupto_calls _ (Hpl.out ⟨345, 155, 1⟩ (by decide)) Hprr.out _ ((Hcut.out ⟨345, 155, 1⟩ (by decide)).below e6)).mono ?_
      rintro e m6 ⟨rfl, rfl⟩
      go_upto_region 11 with fail
      generalize hW : World.setCell w6 _ _ = w7
      have R7 : Au (w7.heap[w.heap.size]? = some (.cells hd0.cells.toArray 35 (0, 0))) := ⟨by rw [← hW]; exact blk_far R6.out (by simp) _⟩
      have G7 : Au (w7.heap[w.heap.size + 1]? = some (.cells (⟨nm, pr, lk, v3, v4, v5, v6, v7, ty, 0, 0⟩ : Hd).cells.toArray 35 (0, 0))) := ⟨by rw [← hW]; exact blk_set G6.out _ _⟩
      have e7 : Below w.heap.size w w7 := by rw [← hW]; exact e6.setCell (by simp) _
      clear hW y1 y2 R6 G6 e6
      have hfin : (⟨nm, pr, lk, v3, v4, v5, v6, v7, ty, 0, 0⟩ : Hd) = r := by rw [← Hr.out, Hgm.out, Hprr.out]
      rw [hfin] at G7
      clear hfin
      have k0 := blk_cell G7.out 0 rfl
      have k1 := blk_cell G7.out 1 rfl
      have k2 := blk_cell G7.out 2 rfl
      have k3 := blk_cell G7.out 3 rfl
      have k4 := blk_cell G7.out 4 rfl
      have k5 := blk_cell G7.out 5 rfl
      have k6 := blk_cell G7.out 6 rfl
      have k7 := blk_cell G7.out 7 rfl
      have k8 := blk_cell G7.out 8 rfl
      have k9 := blk_cell G7.out 9 rfl
      have k10 := blk_cell G7.out 10 rfl
      go_wp2_with (first | (with_reducible refine wpList_store_head (o := ⟨none, .store 35 (.tmp 2) (.tmp 70), _, _, _, _⟩) rfl (.tmp 2) (.tmp 70) rfl w.heap.size r hd0 ?b1 ?b2 R7.out ?b3))
      case b1 => rfl
      case b2 => rfl
      intro w' Hw' hg'
      go_wp2_with fail
      ((try simp only [Exit.inBlock, Exit.then]); refine ret_head1 2 rfl Hw'.out rfl rfl ?_)
      exact ⟨rfl, below_of_grown e7 hg' e7.size (Nat.le_refl _)⟩
end Go.Proofs.YtejalhoaljlnhaaDoor.Rk
/- Walks: the document's answers for headers: Zero, Get. -/
namespace Go.Proofs.YtejalhoaljlnhaaDoor.Rk
open Go.RowKit
set_option linter.unusedVariables false
set_option linter.unusedSimpArgs false

theorem isZero_succ {l : List UInt8} {k : Nat} (hk : k < l.length) (hx : l[k] = 0) (h0 : isZero (l.take k) = true) : isZero (l.take (k + 1)) = true := by
  unfold isZero at h0 ⊢
  rw [List.take_succ_eq_append_getElem hk, hx]
  simp only [List.all_append, h0]
  simp
theorem rzero_calls (l : List UInt8) {n : Nat} (hn : l.length = n) {r : Bool} (hr : isZero l = r) {A : Option Addr} {c : Nat} {F : Nat → Prop} (w : World) (ha : Sl Kd.byte w F A c l) :
    Calls Tryd.prog 47 #[.slice A n c] w fun e w' => e = .returned (.bool r) ∧ w = w' := by
  subst hn
  have Hr := Au.mk hr
  have hle := ha.le
  clear hr
  go_enter Tryd.func47, Tryd.ntmps47
  go_wp2_with fail
  go_loop [3] (fun i => ∃ k : Nat, k ≤ l.length ∧ i = .int .i64 k ∧ Au (isZero (l.take k) = true)) (fun i => l.length - (intOf i).toNat)
  case atStart => exact ⟨0, Nat.zero_le _, rfl, ⟨rfl⟩⟩
  case round =>
    obtain ⟨k, hk, rfl, H0⟩ := hrel
    by_cases hlt : k < l.length
    · obtain ⟨b, o, rfl, ck⟩ := ha.byte_at k hlt
      obtain ⟨x, hx⟩ : ∃ x, l[k] = x := ⟨_, rfl⟩
      rw [hx] at ck
      have Hx := Au.mk hx
      clear hx
      by_cases h0 : x = 0
      · subst h0
        go_wp2_with fail
        go_round
        case rel => exact ⟨k + 1, by omega, by go_num, ⟨isZero_succ hlt Hx.out H0.out⟩⟩
        case measure => simp [intOf]; omega
      · have hx0 : ((x.toNat : Int) != 0) = true := by
          rw [bne_iff_ne]; intro h
          exact h0 (UInt8.toNat_inj.1 (by simpa using h))
        have hr2 : r = false := by
          rw [← Hr.out, isZero, List.all_eq_false]
          exact ⟨x, by rw [← Hx.out]; exact List.getElem_mem hlt, by simpa using h0⟩
        subst hr2
        clear h0
        go_wp2_with fail
        go_ret
        exact ⟨rfl, rfl⟩
    · have hr2 : r = true := by
        have := H0.out
        rw [show k = l.length by omega, List.take_length] at this
        rw [← Hr.out, this]
      subst hr2
      go_wp2_with fail
      go_ret
      exact ⟨rfl, rfl⟩
theorem rget04_no1 (l : List UInt8) {A : Option Addr} {c : Nat} {F : Nat → Prop} (w : World) (ha : Sl Kd.byte w F A c l) (hl : ¬ l.length = 512) :
    Calls Tryd.prog 26 #[.slice A l.length c] w fun e w' => e = .returned (.tuple #[hd0.agg, .int .i64 1]) ∧ Below w.heap.size w w' := by
  have c1 : ((l.length : Int) != 512) = true := by simp; omega
  have hb0 := Below.refl w.heap.size w
  clear hl
  go_enter Tryd.func26, Tryd.ntmps26
  go_wp2_with fail
  ((try simp only [Exit.inBlock, Exit.then]); refine ret_head rfl (heap_alloc_new w (.cells hd0.cells.toArray 35)) rfl rfl rfl ?_)
  exact ⟨rfl, hb0.alloc (Nat.le_refl _) _⟩
theorem rget04_no4 (l : List UInt8) {A : Option Addr} {c : Nat} {F : Nat → Prop} (w : World) (ha : Sl Kd.byte w F A c l) (hl : l.length = 512) (hz : isZero l = true) :
    Calls Tryd.prog 26 #[.slice A l.length c] w fun e w' => e = .returned (.tuple #[hd0.agg, .int .i64 4]) ∧ Below w.heap.size w w' := by
  have c1 : ((l.length : Int) != 512) = false := by simp [hl]
  have hb0 := Below.refl w.heap.size w
  have Hz := Au.mk hz
  clear hl hz
  go_enter Tryd.func26, Tryd.ntmps26
  go_wp2_with fail
  refine (rzero_calls l rfl Hz.out _ (ha.alloc _)).mono ?_
  rintro e w1 ⟨rfl, rfl⟩
  go_wp2_with fail
  ((try simp only [Exit.inBlock, Exit.then]); refine ret_head rfl (heap_alloc_new w (.cells hd0.cells.toArray 35)) rfl rfl rfl ?_)
  exact ⟨rfl, hb0.alloc (Nat.le_refl _) _⟩

set_option maxHeartbeats 4000000 in
theorem rget04_walk (l : List UInt8) {b o : Nat} {c : Nat} {F : Nat → Prop} (w : World) (ha : Sl Kd.byte w F (some ⟨b, o, none⟩) c l) (hl : l.length = 512) (hz : isZero l = false) {r : Hd} {er : Int}
    (hr : (if ((l.drop 148).take 8 == sgn l) = false then (hd0, 3) else if hput (guess l) = some l then (guess l, 0) else (hd0, 2)) = (r, er)) :
    Calls Tryd.prog 26 #[.slice (some ⟨b, o, none⟩) l.length c] w fun e w' => e = .returned (.tuple #[r.agg, .int .i64 er]) ∧ Below w.heap.size w w' := by
  have c1 : ((l.length : Int) != 512) = false := by simp [hl]
  have hb0 := Below.refl w.heap.size w
  have hcap := ha.1
  have hcap2 := ha.2.1
  have hc5 : 512 ≤ c := by omega
  have hcut := byte_cut ha 148 8 (c - 148) (by omega) (by omega) (by omega)
  have hln : ((l.drop 148).take 8).length = 8 := by simp; omega
  obtain ⟨q, Hq⟩ := au ((l.drop 148).take 8)
  rw [Hq.out] at hcut hln hr
  obtain ⟨sg, Hsg⟩ := au (sgn l)
  rw [Hsg.out] at hr
  obtain ⟨t, Ht⟩ := au (q == sg)
  have ht := Ht.out
  have ht2 : (q != sg) = !t := by rw [bne, ht]
  rw [Ht.out] at hr
  have kc : ∀ W, Below w.heap.size w W → (convert 22 9 (.slice (some ⟨b, o + 148, none⟩) 8 (c - 148))).run Tryd.prog W = .ok (.string (ofL q)) W := fun W hW => by
    have := str_of (hcut.below hW)
    rwa [hln] at this
  obtain ⟨m, Hm⟩ := au (hsum l)
  have Kc := Au.mk kc
  have Hz := Au.mk hz
  have Hl := Au.mk hl
  have Hr := Au.mk hr
  have h156 : (156 : Int) ≤ c := by omega
  have n148 : ¬ c = 148 := by omega
  clear hl hz hcap hr hln kc hcut
  go_enter Tryd.func26, Tryd.ntmps26
  go_wp2_with fail
  refine (rzero_calls l rfl Hz.out _ (ha.alloc _)).mono ?_
  rintro e w1 ⟨rfl, rfl⟩
  go_upto_region 6 with fail
  generalize hW : World.alloc w _ = W5
  have g0 : W5.heap[w.heap.size]? = some (.cells hd0.cells.toArray 35 (0, 0)) := by rw [← hW]; exact heap_alloc_new _ _
  have b5 : Below w.heap.size w W5 := by rw [← hW]; exact hb0.alloc (Nat.le_refl _) _
  have G0 := Au.mk g0
  clear hW g0
  have z1 : Below w.heap.size w W5.drew := below_drewN b5 1
  have k1 := Kc.out _ z1
  have a1 := ha.below z1
  go_region_held_law (fun w' => (convert 22 9 (.slice (some ⟨b, o + 148, none⟩) 8 (c - 148))).run Tryd.prog w' = .ok (.string (ofL q)) w') (go_keep)
    (first | (go_at_call 42; refine (rsum_of rfl Hm.out _ a1).mono ?_; rintro e w7 ⟨rfl, rfl⟩) | (go_at_call 41; refine (sign_calls l Hsg.out _ Hl.out Hm.out).mono ?_; rintro e w8 ⟨B8, d8, rfl, s8, b8⟩; have k8 := str_of s8; have k9 := Kc.out _ (below_then z1 b8 z1.size)))
  have H9 := Au.mk (blk_below (w := W5.drew) G0.out b8 (lt_of_block G0.out))
  have hb8 := below_then z1 b8 z1.size
  clear k1 a1 k8 k9 ht ht2 z1
  cases t
  · simp only [Bool.not_false]
    go_wp2_with (first | (with_reducible refine wpList_store_head (o := ⟨none, .store 35 (.tmp 2) (.tmp 24), _, _, _, _⟩) rfl (.tmp 2) (.tmp 24) rfl w.heap.size hd0 hd0 ?a1 ?a2 H9.out ?a3))
    case a2 => rfl
    intro w' Hw' hg'
    go_wp2_with fail
    ((try simp only [Exit.inBlock, Exit.then]); refine ret_head rfl Hw'.out rfl rfl rfl ?_)
    have h2 := Hr.out
    rw [if_pos (by simp)] at h2
    injection h2 with h4 h5
    subst h4 h5
    exact ⟨rfl, below_of_grown hb8 hg' hb8.size (Nat.le_refl _)⟩
  · simp only [Bool.not_true]
    have hr2 := Hr.out
    rw [if_neg (by simp)] at hr2
    have hR := guess_R l
    have hS := guess_S l
    obtain ⟨gs, Hgs⟩ := au (guess l)
    rw [Hgs.out] at hR hS hr2
    have Hr2 := Au.mk hr2
    have HR := Au.mk hR
    have HS := Au.mk hS
    obtain ⟨p, Hp⟩ := au ((hput gs).getD [])
    obtain ⟨bb, Hbb⟩ := au ((hput gs).isSome)
    obtain ⟨r2, Hr3⟩ := au (p == l)
    have hgood : (hput gs = some l) = (bb = true ∧ r2 = true) := by
      rw [← Hbb.out, ← Hr3.out, ← Hp.out]
      cases hput gs <;> simp
    have Hgood := Au.mk hgood
    clear hR hS hr2 hgood
    go_wp2_with fail
    refine (rguess_calls l Hgs.out rfl Hl.out _ (ha.below hb8)).mono ?_
    rintro e w9 ⟨rfl, b9⟩
    have hb9 := below_then hb8 b9 hb8.size
    have R9 := Au.mk (blk_below H9.out b9 (lt_of_block H9.out))
    have hlw : w.heap.size < w9.heap.size := lt_of_block R9.out
    unfold Hd.agg
    go_upto_region 9 with fail
    generalize hW : World.alloc w9 _ = W10
    have R10 : Au (W10.heap[w.heap.size]? = some (.cells hd0.cells.toArray 35 (0, 0))) := ⟨by rw [← hW]; exact blk_alloc R9.out _⟩
    have Hq2 : Au (W10.heap[w9.heap.size]? = some (.cells gs.cells.toArray 35 (0, 0))) := ⟨by rw [← hW]; exact heap_alloc_new _ _⟩
    have hb10 : Below w.heap.size w W10 := by rw [← hW]; exact hb9.alloc hb9.size _
    clear hW R9 H9 hb8 hb9
    have k0 := blk_cell Hq2.out 0 rfl
    have k1 := blk_cell Hq2.out 1 rfl
    have k2 := blk_cell Hq2.out 2 rfl
    have k3 := blk_cell Hq2.out 3 rfl
    have k4 := blk_cell Hq2.out 4 rfl
    have k5 := blk_cell Hq2.out 5 rfl
    have k6 := blk_cell Hq2.out 6 rfl
    have k7 := blk_cell Hq2.out 7 rfl
    have k8 := blk_cell Hq2.out 8 rfl
    have k9 := blk_cell Hq2.out 9 rfl
    have k10 := blk_cell Hq2.out 10 rfl
    go_wp2_with fail
    refine (rput04_view gs HR.out HS.out Hp.out Hbb.out _).mono ?_
    rintro e w6 ⟨A6, c6, rfl, s6, b6⟩
    have hb6 : Below w.heap.size w w6 := below_then hb10 b6 hb10.size
    have R6 := Au.mk (blk_below R10.out b6 (lt_of_block R10.out))
    have Q6 := Au.mk (blk_below Hq2.out b6 (lt_of_block Hq2.out))
    clear k0 k1 k2 k3 k4 k5 k6 k7 k8 k9 k10
    cases bb
    · go_wp2_with (first | (with_reducible refine wpList_store_head (o := ⟨none, .store 35 (.tmp 2) (.tmp 41), _, _, _, _⟩) rfl (.tmp 2) (.tmp 41) rfl w.heap.size hd0 hd0 ?b1 ?b2 R6.out ?b3))
      case b1 => rfl
      case b2 => rfl
      intro w' Hw' hg'
      go_wp2_with fail
      ((try simp only [Exit.inBlock, Exit.then]); refine ret_head rfl Hw'.out rfl rfl rfl ?_)
      have h2 := Hr2.out
      have h3 : ¬ hput gs = some l := by rw [Hgood.out]; simp
      rw [if_neg h3] at h2
      injection h2 with h4 h5
      subst h4 h5
      exact ⟨rfl, below_of_grown hb6 hg' hb6.size (Nat.le_refl _)⟩
    · have e1 := str_of s6
      have e2 := str_of (ha.below hb6)
      have r2h := Hr3.out
      have r2n : (p != l) = !r2 := by rw [bne, r2h]
      cases r2
      · go_wp2_with (first | (with_reducible refine wpList_store_head (o := ⟨none, .store 35 (.tmp 2) (.tmp 41), _, _, _, _⟩) rfl (.tmp 2) (.tmp 41) rfl w.heap.size hd0 hd0 ?d1 ?d2 R6.out ?d3))
        case d1 => rfl
        case d2 => rfl
        intro w' Hw' hg'
        go_wp2_with fail
        ((try simp only [Exit.inBlock, Exit.then]); refine ret_head rfl Hw'.out rfl rfl rfl ?_)
        have h2 := Hr2.out
        have h3 : ¬ hput gs = some l := by rw [Hgood.out]; simp
        rw [if_neg h3] at h2
        injection h2 with h4 h5
        subst h4 h5
        exact ⟨rfl, below_of_grown hb6 hg' hb6.size (Nat.le_refl _)⟩
      · have k0 := blk_cell Q6.out 0 rfl
        have k1 := blk_cell Q6.out 1 rfl
        have k2 := blk_cell Q6.out 2 rfl
        have k3 := blk_cell Q6.out 3 rfl
        have k4 := blk_cell Q6.out 4 rfl
        have k5 := blk_cell Q6.out 5 rfl
        have k6 := blk_cell Q6.out 6 rfl
        have k7 := blk_cell Q6.out 7 rfl
        have k8 := blk_cell Q6.out 8 rfl
        have k9 := blk_cell Q6.out 9 rfl
        have k10 := blk_cell Q6.out 10 rfl
        go_wp2_with (first | (with_reducible refine wpList_store_head (o := ⟨none, .store 35 (.tmp 2) (.tmp 42), _, _, _, _⟩) rfl (.tmp 2) (.tmp 42) rfl w.heap.size gs hd0 ?e1 ?e2 R6.out ?e3))
        case e1 => rfl
        case e2 => rfl
        intro w' Hw' hg'
        go_wp2_with fail
        ((try simp only [Exit.inBlock, Exit.then]); refine ret_head rfl Hw'.out rfl rfl rfl ?_)
        have h2 := Hr2.out
        have h3 : hput gs = some l := by rw [Hgood.out]; simp
        rw [if_pos h3] at h2
        injection h2 with h4 h5
        subst h4 h5
        exact ⟨rfl, below_of_grown hb6 hg' hb6.size (Nat.le_refl _)⟩
theorem rget04_view (l : List UInt8) {A : Option Addr} {c : Nat} {F : Nat → Prop} {g : Hd} {er : Int} (hg : (hget l).1 = g) (he : (hget l).2 = er) (w : World) (ha : Sl Kd.byte w F A c l) :
    Calls Tryd.prog 26 #[.slice A l.length c] w fun e w' => e = .returned (.tuple #[g.agg, .int .i64 er]) ∧ Below w.heap.size w w' := by
  subst hg he
  by_cases hl : l.length = 512
  · obtain ⟨b, o, rfl⟩ := ha.addr (by decide) (by rintro rfl; simp at hl)
    cases hz : isZero l with
    | true =>
      have e : hget l = (hd0, 4) := by simp [hget, hl, hz]
      rw [e]
      exact rget04_no4 l w ha hl hz
    | false =>
      have e : hget l = (if ((l.drop 148).take 8 == sgn l) = false then (hd0, 3) else if hput (guess l) = some l then (guess l, 0) else (hd0, 2)) := by simp only [hget, hl, hz]; rfl
      rw [e]
      exact rget04_walk l w ha hl hz rfl
  · have e : hget l = (hd0, 1) := by simp [hget, hl]
    rw [e]
    exact rget04_no1 l w ha hl
end Go.Proofs.YtejalhoaljlnhaaDoor.Rk
/- Walks: reelkeeperlaw04: One, Few, awake. -/
namespace Go.Proofs.YtejalhoaljlnhaaDoor.Rk
open Go.RowKit
set_option linter.unusedVariables false
set_option linter.unusedSimpArgs false

def hdOne (nm : List UInt8) (n : Int) : Hd := ⟨nm, [], [], 420, 0, 0, n, 1000, 48, 0, 0⟩
def few (h : Hd) : Bool := decide (h.name.length ≤ 200) && (decide (h.pre.length ≤ 200) && decide (h.link.length ≤ 200))
theorem few_iff (h : Hd) : few h = true ↔ h.S := by simp [few, Hd.S]
theorem one_may : hmay (hdOne [97] 0) = true := by decide +kernel
theorem one_fits : Fits (hdOne [97] 0) := (fits_iff _).1 one_may
theorem one_R : (hdOne [97] 0).R := by unfold Hd.R R64 hdOne; decide
theorem one_148 : (blockOf (hdOne [97] 0))[148]? = some 48 := by decide +kernel
theorem hget_of {l : List UInt8} {n : Nat} (hn : l.length = n) {A : Option Addr} {c : Nat} {F : Nat → Prop} {g : Hd} {er : Int} (hg : (hget l).1 = g) (he : (hget l).2 = er) (w : World) (ha : Sl Kd.byte w F A c l) :
    Calls Tryd.prog 18 #[.slice A n c] w fun e w' => e = .returned (.tuple #[g.agg, .int .i64 er]) ∧ Below w.heap.size w w' := by
  subst hn
  exact hget_view l hg he w ha
theorem sum_of {l : List UInt8} {k : Nat} {n : Int} (hk : l.length = k) (hn : hsum l = n) {A : Option Addr} {c : Nat} {F : Nat → Prop} (w : World) (ha : Sl Kd.byte w F A c l) :
    Calls Tryd.prog 53 #[.slice A k c] w fun e w' => e = .returned (.int .i64 n) ∧ w = w' := by
  subst hk
  exact sum_calls l hn w ha
end Go.Proofs.YtejalhoaljlnhaaDoor.Rk
/- The laws HeadTells, HeadSpoilt, walked. -/
namespace Go.Proofs.YtejalhoaljlnhaaDoor.Rk
open Go.RowKit
set_option linter.unusedVariables false
set_option linter.unusedSimpArgs false

theorem hd_cells {W : World} {g : Nat} (h : Hd) (hg : W.heap[g]? = some (.cells h.cells.toArray 35 (0, 0))) : W.cell? ⟨g, 0, none⟩ = some (.string (ofL h.name)) ∧ W.cell? ⟨g, 1, none⟩ = some (.string (ofL h.pre)) ∧ W.cell? ⟨g, 2, none⟩ = some (.string (ofL h.link)) ∧ W.cell? ⟨g, 3, none⟩ = some (.int .i64 h.mode) ∧ W.cell? ⟨g, 4, none⟩ = some (.int .i64 h.uid) ∧ W.cell? ⟨g, 5, none⟩ = some (.int .i64 h.gid) ∧ W.cell? ⟨g, 6, none⟩ = some (.int .i64 h.size) ∧ W.cell? ⟨g, 7, none⟩ = some (.int .i64 h.mtime) ∧ W.cell? ⟨g, 8, none⟩ = some (.int .u8 h.ty.toNat) ∧ W.cell? ⟨g, 9, none⟩ = some (.int .i64 h.off) ∧ W.cell? ⟨g, 10, none⟩ = some (.int .i64 h.real) :=
  ⟨blk_cell hg 0 rfl, blk_cell hg 1 rfl, blk_cell hg 2 rfl, blk_cell hg 3 rfl, blk_cell hg 4 rfl, blk_cell hg 5 rfl, blk_cell hg 6 rfl, blk_cell hg 7 rfl, blk_cell hg 8 rfl, blk_cell hg 9 rfl, blk_cell hg 10 rfl⟩
end Go.Proofs.YtejalhoaljlnhaaDoor.Rk
/- The law HeadBack, walked. -/
namespace Go.Proofs.YtejalhoaljlnhaaDoor.Rk
open Go.RowKit
set_option linter.unusedVariables false
set_option linter.unusedSimpArgs false

def heq (g h : Hd) : Bool := g.name == h.name && (g.pre == h.pre && (g.link == h.link && (g.mode == h.mode && (g.uid == h.uid && (g.gid == h.gid && (g.size == h.size && (g.mtime == h.mtime && (g.ty == h.ty && (g.off == h.off && g.real == h.real)))))))))
theorem heq_iff {g h : Hd} : heq g h = true ↔ g = h := by
  unfold heq
  simp only [Bool.and_eq_true, beq_iff_eq]
  constructor
  · rintro ⟨h1, h2, h3, h4, h5, h6, h7, h8, h9, h10, h11⟩
    cases g
    cases h
    simp_all
  · rintro rfl; simp
theorem eql_head (g h : Hd) (w : World) : (binOp .eql 35 (.agg #[.string (ofL g.name), .string (ofL g.pre), .string (ofL g.link), .int .i64 g.mode, .int .i64 g.uid, .int .i64 g.gid, .int .i64 g.size, .int .i64 g.mtime, .int .u8 g.ty.toNat, .int .i64 g.off, .int .i64 g.real]) (.agg #[.string (ofL h.name), .string (ofL h.pre), .string (ofL h.link), .int .i64 h.mode, .int .i64 h.uid, .int .i64 h.gid, .int .i64 h.size, .int .i64 h.mtime, .int .u8 h.ty.toNat, .int .i64 h.off, .int .i64 h.real])).run Tryd.prog w = .ok (.bool (heq g h)) w := by
  have q1 := Tryd.eqGuardType35
  have q2 := Tryd.stoodInHeld35
  have hty : ((g.ty.toNat : Int) == (h.ty.toNat : Int)) = (g.ty == h.ty) := byte_beq _ _
  unfold heq
  rw [run_eql_struct]
  go_simp
  repeat' split
  all_goals simp [*]

end Go.Proofs.YtejalhoaljlnhaaDoor.Rk
/- The law HeadPlaces, walked. -/
namespace Go.Proofs.YtejalhoaljlnhaaDoor.Rk
open Go.RowKit
set_option linter.unusedVariables false
set_option linter.unusedSimpArgs false

theorem cut_str {W : World} {F : Nat → Prop} {b o c : Nat} {l : List UInt8} (ha : Sl Kd.byte W F (some ⟨b, o, none⟩) c l) (p n m : Nat) {x : List UInt8} (hx : (l.drop p).take n = x) (hn : x.length = n) (hp : p + n ≤ l.length) (hm : n ≤ m) (hm2 : m ≤ 9223372036854775807) :
    (convert 22 9 (.slice (some ⟨b, o + p, none⟩) n m)).run Tryd.prog W = .ok (.string (ofL x)) W := by
  have := str_of (byte_cut ha p n m hp hm hm2)
  rw [hx, hn] at this
  exact this
theorem pad_take {n : Nat} {l x : List UInt8} {p : Nat} (h : (l.drop p).take n = pad n x) (hx : x.length ≤ n) : (l.drop p).take x.length = x := by
  have h1 : ((l.drop p).take n).take x.length = (l.drop p).take x.length := by rw [List.take_take]; congr 1; omega
  rw [← h1, h, pad, List.take_left]

end Go.Proofs.YtejalhoaljlnhaaDoor.Rk
