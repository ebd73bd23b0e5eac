/- What goes on: Put; blocks: Same, May, walked. -/
import Derived.Test.YtmjicapjkmkckaaGreatDoorConA
namespace Go.Proofs.YtmjicapjkmkckaaGreatDoor.Rk
open Go.RowKit Go.Shelf
set_option linter.unusedVariables false
set_option linter.unusedSimpArgs false
set_option maxRecDepth 100000

theorem cput_calls (n : Nd) (hS : n.S) (hR : n.R) (off : Int) (hoff : R64 off) {l : List (List UInt8)} (hl : cput n off = l) {b : Bool} (hb : cmay n off = b) (w : World) :
    Calls Tryz.prog 70 #[n.agg, .int .i64 off] w fun e w' => ∃ A c, e = .returned (.tuple #[.slice A l.length c, .bool b]) ∧ Sl (Kd.slice Kd.byte) w' (fun j => w.heap.size ≤ j) A c l ∧ Below w.heap.size w w' := by
  have hz : (ofL n.data).size = n.data.length := ofL_size _
  have B0 := Au.mk (nd_box w n)
  have hb0 := (Below.refl w.heap.size w).alloc (Nat.le_refl _) (.cells n.cells.toArray 53)
  obtain ⟨f0, f1, f2, f3, f4, f5, f6, f7⟩ := nd_cells n B0.out
  have Hm : Au (∀ w, Calls Tryz.prog 110 #[n.agg, .int .i64 off] w fun e w' => e = .returned (.bool b) ∧ Below w.heap.size w w') := ⟨fun w => cmay_calls n hS off hoff hb w⟩
  have Hp : Au (b = true → ∀ w, Calls Tryz.prog 69 #[n.agg, .int .i64 off, .int .i64 n.data.length] w fun e w' => ∃ A c, e = .returned (.slice A l.length c) ∧ Sl (Kd.slice Kd.byte) w' (fun j => w.heap.size ≤ j) A c l ∧ Below w.heap.size w w') := ⟨fun hbt w => by
    rw [hbt] at hb
    have h2 := hb
    unfold cmay at h2
    simp only [Bool.and_eq_true, decide_eq_true_eq] at h2
    have := hS.2.2
    exact cputB_calls n hS hR off n.data.length ⟨h2.2.1, by omega⟩ ⟨by omega, by omega⟩ (by rw [← hl, cput, if_pos hb]) w⟩
  have Hl0 : Au (b = false → [] = l) := ⟨fun h => by rw [← hl, cput, hb, h]; rfl⟩
  have Hnd := Au.mk (rfl : n.cells = n.cells)
  unfold Nd.agg at Hm Hp ⊢
  unfold Nd.cells at f0 f1 f2 f3 f4 f5 f6 f7 hb0
  clear hl hb hS hR
  go_enter Tryz.func70, Tryz.ntmps70
  go_wp2_with fail
  refine (Hm.out _).mono ?_
  rintro e w1 ⟨rfl, b1⟩
  have B1 := Au.mk (blk_below B0.out b1 (lt_of_block B0.out))
  have e1 := below_then hb0 b1 hb0.size
  clear f0 f1 f2 f3 f4 f5 f6 f7 hb0 b1 B0
  obtain ⟨f0, f1, f2, f3, f4, f5, f6, f7⟩ := nd_cells n B1.out
  cases b
  · have h0 := Hl0.out rfl
    subst h0
    go_wp2_with fail
    go_ret2
    exact ⟨none, 0, rfl, Sl.nil _ _ _, e1⟩
  · go_wp2_with fail
    refine (Hp.out (by first | trivial | rfl) _).mono ?_
    rintro e w2 ⟨A2, c2, rfl, s2, b2⟩
    have e2 := below_then e1 b2 e1.size
    have S2 := Au.mk (s2.up e1.size)
    clear f0 f1 f2 f3 f4 f5 f6 f7 b2 s2
    go_wp2_with fail
    go_ret2
    exact ⟨A2, c2, rfl, S2.out, e2⟩
end Go.Proofs.YtmjicapjkmkckaaGreatDoor.Rk
