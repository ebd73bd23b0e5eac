/- Walks: (page).put. -/
import Derived.Test.YtejalhoaljlnhaaHeadD
import Derived.Test.YtejalhoaljlnhaaBase3
namespace Go.Proofs.Ytejalhoaljlnhaa.Rk
open Go.RowKit
set_option linter.unusedVariables false
set_option linter.unusedSimpArgs false

theorem flatten_take_succ {l : List (List UInt8)} {k : Nat} {x : List UInt8} (h : l[k]? = some x) : (l.take (k + 1)).flatten = (l.take k).flatten ++ x := by
  have hlt := (List.getElem?_eq_some_iff.1 h).1
  rw [List.take_succ_eq_append_getElem hlt]
  rw [List.getElem?_eq_getElem hlt] at h
  injection h with h
  simp [h]
theorem flatten_take_le (l : List (List UInt8)) (k : Nat) : (l.take k).flatten.length ≤ l.flatten.length := by
  have : l.flatten = (l.take k).flatten ++ (l.drop k).flatten := by rw [← List.flatten_append, List.take_append_drop]
  rw [this]; simp

theorem infoU8 : (Try.prog.info? 5).map (·.size) = some 1 := by kernel_rfl
theorem blk_grown {w w' : World} {g : Nat} {o : Obj} {row : Option Nat} (h : w.heap[g]? = some o) (hg : w.grownBy w' row) (hne : some g ≠ row) : w'.heap[g]? = some o := (hg.block g (lt_of_block h) hne).trans h

set_option maxHeartbeats 1000000 in
theorem pput_calls (g : Nat) (pg : List UInt8) (i : Nat) (xs : List (List UInt8)) {A : Option Addr} {c : Nat} {F : Nat → Prop} (w : World) (hg : w.heap[g]? = some (.cells (bcs pg).toArray 5 (0, 0))) (hl : pg.length = 512)
    (hfit : i + xs.flatten.length ≤ 512) (hs : Sl (Kd.slice Kd.byte) w F A c xs) (hF : ¬ F g) :
    Calls Try.prog 41 #[.agg #[.slice (some ⟨g, 0, none⟩) 512 512], .int .i64 i, .slice A xs.length c] w fun e w' =>
      e = .returned (.tuple #[]) ∧ Au (w'.heap[g]? = some (.cells (bcs (splice pg i xs.flatten)).toArray 5 (0, 0))) ∧ w.grownBy w' (some g) := by
  have hcap := hs.1
  have hcap2 := hs.2.1
  have hglt := lt_of_block hg
  go_enter Try.func41, Try.ntmps41
  go_wp2_with fail
  go_loopw [1, 7, 10] (fun a _ j wr => ∃ (k p : Nat), k ≤ xs.length ∧ a = .int .i64 (p : Int) ∧ j = .int .i64 k ∧ Au (p = i + (xs.take k).flatten.length) ∧ Au (wr.heap[g]? = some (.cells (bcs (splice pg i (xs.take k).flatten)).toArray 5 (0, 0))) ∧ wr.heap[w.heap.size]? = some (.cells #[.slice (some ⟨g, 0, none⟩) 512 512] 55 (0, 0)) ∧ w.grownBy wr (some g)) (fun _ _ j _ => xs.length - (intOf j).toNat)
  case atStart =>
    refine ⟨0, i, Nat.zero_le _, rfl, rfl, ⟨by simp⟩, ⟨?_⟩, heap_alloc_new _ _, grown_of ((Below.refl _ _).alloc (Nat.le_refl _) _) _⟩
    rw [List.take_zero, List.flatten_nil, splice_nil]
    exact blk_alloc hg _
  case round =>
    obtain ⟨k, p, hk, rfl, rfl, Hp, Hg, hbx, hgr⟩ := hrel
    by_cases hlt : k < xs.length
    · obtain ⟨x, Hx⟩ : ∃ x, Au (xs[k]? = some x) := ⟨_, ⟨List.getElem?_eq_getElem hlt⟩⟩
      have hs2 := hs.grown hgr (by intro _ h; cases h; exact hF)
      obtain ⟨b, o, A', c', rfl, hcell, hx⟩ := hs2.slice_at Hx.out
      have hfl := flatten_take_le xs (k + 1)
      rw [flatten_take_succ Hx.out, List.length_append] at hfl
      have hp2 : p + x.length ≤ 512 := by have := Hp.out; omega
      have hxc := hx.1
      have hxc2 := hx.2.1
      have Hlen : Au ((splice pg i (xs.take k).flatten).length = 512) := ⟨by rw [splice_length _ _ _ (by omega), hl]⟩
      have hq1 := cell_of_one hbx
      clear hfl
      obtain ⟨dp, hcut, hdp⟩ := cut_from etBytes g 512 p (by omega)
      have Hdp := Au.mk hdp
      clear hdp
      go_wp2_with (first | (with_reducible refine wpList_copy_blk (o := ⟨some 20, _, _, _, _, _⟩) wr ?a1 (.tmp 18) (.tmp 19) 22 22 ?a2 5 Try.underlying22 infoU8 dp A' (512 - p) (512 - p) x.length c' ?a3 ?a4 g p _ 5 Hg.out (bcs x) ?a5 ?a6 hx.bytes ?a7 (bcs_one _) ?a8))
      case a1 => rfl
      case a2 => rfl
      case a3 => rfl
      case a4 => rfl
      case a5 => rw [bcs_length]; show x.length = min x.length (512 - p); omega
      case a6 => intro h; rw [bcs_length] at h; exact Hdp.out (by omega)
      case a7 => rw [bcs_length, bcs_length]; have := Hlen.out; omega
      intro w3 Hg3 hgr3
      go_wp2_with fail
      go_roundw
      case rel =>
        refine ⟨k + 1, p + x.length, by omega, by rw [bcs_length]; congr 1; unfold wrap64; omega, by go_num, ⟨?_⟩, ⟨?_⟩, blk_grown hbx hgr3 (by simp; omega), grown_trans hgr hgr3⟩
        · rw [flatten_take_succ Hx.out, List.length_append, Hp.out]; omega
        · have := Hg3.out
          rw [splice_bcs, Hp.out, splice_append _ _ _ _ (by have := Hp.out; omega), ← flatten_take_succ Hx.out] at this
          exact this
      case measure => simp [intOf]; omega
    · obtain rfl : k = xs.length := by omega
      go_wp2_with fail
      go_end0
      refine ⟨rfl, ⟨?_⟩, hgr⟩
      have := Hg.out
      rwa [List.take_length] at this
end Go.Proofs.Ytejalhoaljlnhaa.Rk
