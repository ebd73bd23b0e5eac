/- head.May: the walk through the loops. -/
import Derived.Test.YtejalhoaljlnhaaHeadI
import Derived.Deep.RegionHeld3
namespace Go.Proofs.Ytejalhoaljlnhaa.Rk
open Go.RowKit
set_option linter.unusedVariables false
set_option linter.unusedSimpArgs false

theorem take_all_succ {α : Type} {l : List α} {f : α → Bool} {k : Nat} {s : α} (hk : l[k]? = some s) (h : (l.take k).all f = true) (hs : f s = true) : (l.take (k + 1)).all f = true := by
  have hlt := (List.getElem?_eq_some_iff.1 hk).1
  rw [List.take_succ_eq_append_getElem hlt]
  rw [List.getElem?_eq_getElem hlt] at hk
  injection hk with hk
  simp [hk, hs, h]
theorem all_at {α : Type} {l : List α} {f : α → Bool} {k : Nat} {s : α} (hk : l[k]? = some s) (hs : f s = false) : l.all f = false := by
  rw [List.all_eq_false]
  exact ⟨s, List.mem_of_getElem? hk, by simp [hs]⟩
theorem hd_text_cell {w : World} {g : Nat} {h : Hd} (hg : w.heap[g]? = some (.cells h.cells.toArray 36 (0, 0))) {i : Nat} (hi : i < 3) : w.cell? ⟨g, i, none⟩ = some (.string (ofL (h.text i))) := by
  apply blk_cell hg
  match i, hi with
  | 0, _ => rfl
  | 1, _ => rfl
  | 2, _ => rfl

theorem nSp_mem {ty : UInt8} {k : Nat} {s : Sp} (h : (nSp ty)[k]? = some s) : 3 ≤ s.ix ∧ s.ix < 11 ∧ s.ix ≠ 8 ∧ s.at_ + s.wide ≤ 512 ∧ s.wide ≤ 12 := by
  have := List.mem_of_getElem? h
  unfold nSp at this
  split at this <;> simp at this
  · rcases this with rfl | rfl | rfl | rfl | rfl | rfl | rfl <;> decide
  · rcases this with rfl | rfl | rfl | rfl | rfl <;> decide
theorem hd_numb_cell {w : World} {g : Nat} {h : Hd} (hg : w.heap[g]? = some (.cells h.cells.toArray 36 (0, 0))) {i : Nat} (h3 : 3 ≤ i) (h11 : i < 11) (h8 : i ≠ 8) : w.cell? ⟨g, i, none⟩ = some (.int .i64 (h.numb i)) := by
  apply blk_cell hg
  match i, h3, h11, h8 with
  | 3, _, _, _ => rfl
  | 4, _, _, _ => rfl
  | 5, _, _, _ => rfl
  | 6, _, _, _ => rfl
  | 7, _, _, _ => rfl
  | 9, _, _, _ => rfl
  | 10, _, _, _ => rfl

set_option maxHeartbeats 2000000 in
theorem may_walk (h : Hd) (hr : h.R) {m : Bool} (w : World) (h1 : (h.name == []) = false) (h2 : tyOk h.ty = true) (h3 : restOk h = true)
    (hm : ((wSp h.ty).all (wordOk h) && (nSp h.ty).all (numbOk h)) = m) :
    Calls Try.prog 33 #[h.agg] w fun e w' => e = .returned (.bool m) ∧ Below w.heap.size w w' := by
  unfold Hd.agg
  have hb0 := Below.refl w.heap.size w
  have hg0 : (w.alloc (.cells h.cells.toArray 36)).heap[w.heap.size]? = some (.cells h.cells.toArray 36 (0, 0)) := heap_alloc_new _ _
  obtain ⟨n, Hn⟩ := au (Lib.indexByte [48, 49, 50, 53, 75, 76, 77, 86] h.ty)
  have hn : 0 ≤ n := by
    have h4 : h.ty ∈ [48, 49, 50, 53, 75, 76, 77, 86] := by simpa [tyOk] using h2
    have := indexByte_mem [48, 49, 50, 53, 75, 76, 77, 86] h.ty
    rw [Hn.out] at this
    exact Int.not_lt.1 fun hlt => this.1 hlt h4
  obtain ⟨t, Ht⟩ := au ((h.ty.toNat : Int) == 77)
  have e77 : ((h.ty.toNat : Int) == 77) = (h.ty == 77) := byte_beq h.ty 77
  rw [Ht.out] at e77
  have ht := Ht.out
  have ht2 : ((h.ty.toNat : Int) != 77) = !t := by rw [bne, ht]
  unfold restOk at h3
  have Hm := Au.mk hm
  have Hr := Au.mk hr
  clear hm hr
  cases t
  case' false =>
    have h77 : ¬ h.ty = 77 := by simpa using e77.symm
    rw [if_neg h77, Bool.and_eq_true] at h3
    obtain ⟨ho1, ho2⟩ := h3
    have ho12 : (h.off != 0) = false := by rw [bne, ho1]; rfl
    have ho22 : (h.real != 0) = false := by rw [bne, ho2]; rfl
    clear h77 e77
  case' true =>
    have h77 : h.ty = 77 := by simpa using e77.symm
    rw [if_pos h77] at h3
    have hp2 : (h.pre != []) = false := by rw [bne, h3]; rfl
    clear h77 e77
  all_goals
    clear Ht
    go_enter Try.func33, Try.ntmps33
    go_wp2_with fail
    refine (index_is Hn.out _).mono ?_
    rintro e w0 ⟨rfl, rfl⟩
    go_wp2_with fail
    refine (words_calls w.heap.size h.ty _ (blk_cell hg0 8 rfl)).mono ?_
    rintro e w1 ⟨A, c, n, rfl, Hn2, hf, b1⟩
    have hg1 := blk_below hg0 b1 (lt_of_block hg0)
    have hbw : Below w.heap.size w w1 := (hb0.alloc (Nat.le_refl _) _).trans (b1.mono (by simp))
    have Hg1 := Au.mk hg1
    have Hf := Au.mk hf
    have hn5 : n < 4 := by rw [Hn2.out, wordsN]; split <;> decide
    clear hg1 hg0 hf
    go_wp2_with fail
    go_loopw [43] (fun i wr => ∃ k : Nat, k ≤ n ∧ i = .int .i64 k ∧ Au (((wSp h.ty).take k).all (wordOk h) = true) ∧ Below w1.heap.size w1 wr) (fun i _ => n - (intOf i).toNat)
    case atStart => exact ⟨0, Nat.zero_le _, rfl, ⟨by simp⟩, .refl _ _⟩
    case round =>
      obtain ⟨k, hk, rfl, Ha, hbr⟩ := hrel
      have hn3 := Hn2.out
      by_cases hlt : k < n
      · obtain ⟨s, Hs⟩ : ∃ s, Au ((wSp h.ty)[k]? = some s) := ⟨_, ⟨List.getElem?_eq_getElem (by rw [wSp_len, ← hn3]; exact hlt)⟩⟩
        have hcs := (Hf.out.below hbr).now
        rw [wSp_cells] at hcs
        obtain ⟨b, o, rfl, d0, d1, d2⟩ := place_cells hcs Hs.out
        obtain ⟨hix, hat⟩ := wSp_mem Hs.out
        have hgr := blk_below Hg1.out hbr (lt_of_block Hg1.out)
        have htx := hd_text_cell hgr hix
        have htx2 : ∀ oo, (wr.alloc oo).cell? ⟨w.heap.size, s.ix, none⟩ = some (.string (ofL (h.text s.ix))) := fun oo => cell_alloc htx oo
        obtain ⟨x, Hx⟩ := au (h.text s.ix)
        rw [Hx.out] at htx htx2
        clear hgr hcs hn3
        have hsz := ofL_size x
        by_cases hw : x.length ≤ s.wide
        · have c1 : decide ((s.wide : Int) < ((ofL x).size : Int)) = false := by rw [hsz]; simp; omega
          have c2 : decide (s.wide < (ofL x).size) = false := by rw [hsz]; simp; omega
          obtain ⟨q2, Hq2⟩ := au (Lib.indexByte x 0)
          by_cases h0 : (0 : UInt8) ∈ x
          · have hq2 : 0 ≤ q2 := by
              have := indexByte_mem x 0
              rw [Hq2.out] at this
              exact Int.not_lt.1 fun hlt => this.1 hlt h0
            have hbad : wordOk h s = false := by simp [wordOk, Hx.out, h0]
            have hmm : m = false := by rw [← Hm.out, all_at Hs.out hbad]; rfl
            subst hmm
            clear hsz hw h0 hbad
            go_wp2_with fail
            go_quiet (exact index0_quiet Hq2.out _ _)
            go_wp2_with fail
            go_ret
            exact ⟨rfl, below_drewN ((hbw.trans (hbr.mono hbw.size)).alloc (by have := hbw.size; have := hbr.size; omega) _) _⟩
          · have hq2 : q2 < 0 := by rw [← Hq2.out, indexByte_mem]; exact h0
            have hgood : wordOk h s = true := by simp [wordOk, Hx.out, h0, hw]
            have Hgood := Au.mk hgood
            clear hsz hw h0 hgood
            go_wp2_with fail
            go_quiet (exact index0_quiet Hq2.out _ _)
            go_wp2_with fail
            go_roundw
            case rel => exact ⟨k + 1, by omega, by go_num, ⟨take_all_succ Hs.out Ha.out Hgood.out⟩, below_drewN (hbr.alloc hbr.size _) _⟩
            case measure => simp [intOf]; omega
        · have c1 : decide ((s.wide : Int) < ((ofL x).size : Int)) = true := by rw [hsz]; simp; omega
          have c2 : decide (s.wide < (ofL x).size) = true := by rw [hsz]; simp; omega
          have hbad : wordOk h s = false := by simp [wordOk, Hx.out, hw]
          have hmm : m = false := by rw [← Hm.out, all_at Hs.out hbad]; rfl
          subst hmm
          clear hsz hw hbad
          go_wp2_with fail
          go_quiet (fail)
          go_wp2_with fail
          go_ret
          exact ⟨rfl, below_drewN ((hbw.trans (hbr.mono hbw.size)).alloc (by have := hbw.size; have := hbr.size; omega) _) _⟩
      · obtain rfl : k = n := by omega
        have hall : (wSp h.ty).all (wordOk h) = true := by
          have := Ha.out
          rwa [List.take_of_length_le (by rw [wSp_len, ← hn3]; exact Nat.le_refl _)] at this
        have hm2 : (nSp h.ty).all (numbOk h) = m := by rw [← Hm.out, hall]; rfl
        have Hm2 := Au.mk hm2
        have hgr := blk_below Hg1.out hbr (lt_of_block Hg1.out)
        have hbw2 := hbw.trans (hbr.mono hbw.size)
        have hrs := hbr.size
        have Hgr := Au.mk hgr
        clear hall hm2 hgr hn3
        go_wp2_with fail
        refine (numbers_calls w.heap.size h.ty _ (blk_cell Hgr.out 8 rfl)).mono ?_
        rintro e w3 ⟨A3, c3, n3, rfl, Hn3, hf3, b3⟩
        have hg3 := blk_below Hgr.out b3 (lt_of_block Hgr.out)
        have hbw3 : Below w.heap.size w w3 := hbw2.trans (b3.mono hbw2.size)
        have Hg3 := Au.mk hg3
        have Hf3 := Au.mk hf3
        have hn53 : n3 < 8 := by rw [Hn3.out, spotsN]; split <;> decide
        clear hg3 hf3
        go_wp2_with fail
        go_loopw [66] (fun i wr => ∃ k : Nat, k ≤ n3 ∧ i = .int .i64 k ∧ Au (((nSp h.ty).take k).all (numbOk h) = true) ∧ Below w3.heap.size w3 wr) (fun i _ => n3 - (intOf i).toNat)
        case atStart => exact ⟨0, Nat.zero_le _, rfl, ⟨by simp⟩, .refl _ _⟩
        case round =>
          obtain ⟨k, hk, rfl, Ha, hbr⟩ := hrel
          have hn3 := Hn3.out
          by_cases hlt : k < n3
          · obtain ⟨s, Hs⟩ : ∃ s, Au ((nSp h.ty)[k]? = some s) := ⟨_, ⟨List.getElem?_eq_getElem (by rw [nSp_len, ← hn3]; exact hlt)⟩⟩
            have hcs := (Hf3.out.below hbr).now
            rw [nSp_cells] at hcs
            obtain ⟨b, o, rfl, d0, d1, d2⟩ := place_cells hcs Hs.out
            obtain ⟨hi3, hi11, hi8, hat, hwd⟩ := nSp_mem Hs.out
            have hgr := blk_below Hg3.out hbr (lt_of_block Hg3.out)
            have htx := hd_numb_cell hgr hi3 hi11 hi8
            have htx2 : ∀ oo, (wr.alloc oo).cell? ⟨w.heap.size, s.ix, none⟩ = some (.int .i64 (h.numb s.ix)) := fun oo => cell_alloc htx oo
            have hRx := Hr.out.numb s.ix
            obtain ⟨x, Hx⟩ := au (h.numb s.ix)
            rw [Hx.out] at htx htx2 hRx
            have HRx := Au.mk hRx
            obtain ⟨bb, Hbb⟩ := au ((put x s.wide).isSome)
            have hok : numbOk h s = bb := by rw [numbOk, Hx.out, Hbb.out]
            have Hok := Au.mk hok
            clear hgr hcs hn3 hok hRx
            have e1 : ∀ a b c, (wr.alloc (.cells #[a, b, c] 69)).cell? ⟨wr.heap.size, 1, none⟩ = some b := fun a b c => (cells_newN wr [a, b, c] _).at_ (j := 1) rfl |>.elim fun _ h => h.elim fun _ h => by obtain ⟨e, h⟩ := h; injection e with e; injection e with e1 e2; subst e1 e2; exact h
            have e2 : ∀ a b c, (wr.alloc (.cells #[a, b, c] 69)).cell? ⟨wr.heap.size, 2, none⟩ = some c := fun a b c => (cells_newN wr [a, b, c] _).at_ (j := 2) rfl |>.elim fun _ h => h.elim fun _ h => by obtain ⟨e, h⟩ := h; injection e with e; injection e with e1 e2; subst e1 e2; exact h
            go_wp2_with fail
            generalize hW : World.alloc wr _ = W5
            have f1 : W5.cell? ⟨wr.heap.size, 1, none⟩ = some (.int .i64 s.wide) := by rw [← hW]; exact e1 _ _ _
            have f2 : W5.cell? ⟨wr.heap.size, 2, none⟩ = some (.pointer (some ⟨w.heap.size, s.ix, none⟩)) := by rw [← hW]; exact e2 _ _ _
            have f3 : W5.cell? ⟨w.heap.size, s.ix, none⟩ = some (.int .i64 x) := by rw [← hW]; exact htx2 _
            have hbW : Below w3.heap.size w3 W5 := by rw [← hW]; exact hbr.alloc hbr.size _
            clear hW e1 e2 htx2
            go_region_held3 (fun w' => w'.cell? ⟨wr.heap.size, 1, none⟩ = some (.int .i64 s.wide) ∧ w'.cell? ⟨wr.heap.size, 2, none⟩ = some (.pointer (some ⟨w.heap.size, s.ix, none⟩)) ∧ w'.cell? ⟨w.heap.size, s.ix, none⟩ = some (.int .i64 x)) (go_keep)
              (first | (go_at_call 20; refine (put_view (b := bb) rfl Hbb.out HRx.out _).mono ?_; rintro e w5 ⟨A5, c5, rfl, s5, b5⟩; have g1 := cell_below (w := W5.drew) f1 b5; have g2 := cell_below (w := W5.drew) f2 b5; have g3 := cell_below (w := W5.drew) f3 b5))
            have hb5 : Below w3.heap.size w3 w5 := (below_drewN hbW 1).trans (b5.mono (below_drewN hbW 1).size)
            cases bb
            · have hmm : m = false := by rw [← Hm2.out, all_at Hs.out Hok.out]
              subst hmm
              go_wp2_with fail
              go_ret
              exact ⟨rfl, hbw3.trans (hb5.mono hbw3.size)⟩
            · go_wp2_with fail
              go_roundw
              case rel => exact ⟨k + 1, by omega, by go_num, ⟨take_all_succ Hs.out Ha.out Hok.out⟩, hb5⟩
              case measure => simp [intOf]; omega
          · obtain rfl : k = n3 := by omega
            have hall : (nSp h.ty).all (numbOk h) = true := by
              have := Ha.out
              rwa [List.take_of_length_le (by rw [nSp_len, ← hn3]; exact Nat.le_refl _)] at this
            have hmm : m = true := by rw [← Hm2.out, hall]
            subst hmm
            clear hall hn3
            go_wp2_with fail
            go_ret
            exact ⟨rfl, hbw3.trans (hbr.mono hbw3.size)⟩
end Go.Proofs.Ytejalhoaljlnhaa.Rk
