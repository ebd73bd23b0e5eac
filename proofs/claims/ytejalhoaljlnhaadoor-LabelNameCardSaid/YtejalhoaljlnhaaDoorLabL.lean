/- The law LabelOther, walked. -/
import Derived.Test.YtejalhoaljlnhaaDoorLabK
namespace Go.Proofs.YtejalhoaljlnhaaDoor.Rk
open Go.RowKit
set_option linter.unusedVariables false
set_option linter.unusedSimpArgs false
set_option maxRecDepth 100000

/-- The header of a label's block. -/
theorem eql_label (x : List UInt8) (W : World) : (binOp .eql 35 (.agg #[.string (ofL x), .string ⟨#[]⟩, .string ⟨#[]⟩, .int .i64 0, .int .i64 0, .int .i64 0, .int .i64 0, .int .i64 0, .int .u8 86, .int .i64 0, .int .i64 0]) (.agg #[.string (ofL x), .string ⟨#[]⟩, .string ⟨#[]⟩, .int .i64 0, .int .i64 0, .int .i64 0, .int .i64 0, .int .i64 0, .int .u8 86, .int .i64 0, .int .i64 0])).run Tryd.prog W = .ok (.bool true) W := by
  have := eql_head ⟨x, [], [], 0, 0, 0, 0, 0, 86, 0, 0⟩ ⟨x, [], [], 0, 0, 0, 0, 0, 86, 0, 0⟩ W
  rw [heq_iff.2 rfl] at this
  exact this
set_option maxHeartbeats 4000000 in
theorem LabelOther_walk (b : List UInt8) {A : Option Addr} {c : Nat} (w : World) (ha : Sl Kd.byte w (fun _ => True) A c b) (ht : Tab w) :
    Calls Tryd.prog 6 #[.slice A b.length c] w fun e w' => e = .returned (.bool true) ∧ Below w.heap.size w w' := by
  have hle := ha.le
  have Ha := Au.mk ha
  have Ht := Au.mk ht
  clear ha ht
  by_cases hok : b.length ≤ 600
  · have c6 : decide ((600 : Int) < (b.length : Int)) = false := by simp; omega
    have cases3 : ∃ (g : Hd) (er : Int) (s : List UInt8) (n fr : Int) (x : List UInt8) (m : Bool), (hget b).1 = g ∧ (hget b).2 = er ∧ lget b = (s, n, fr) ∧ lmay s n = m ∧ (if lmay s n then lname s n else []) = x ∧ R64 n ∧
        (((er != 0) = true ∧ fr = er ∧ s = [] ∧ n = 0) ∨ (er = 0 ∧ fr = 0 ∧ g = ⟨x, [], [], 0, 0, 0, 0, 0, 86, 0, 0⟩) ∨ (er = 0 ∧ fr = 11 ∧ s = [])) := by
      rcases lget_cases b with ⟨h0, e⟩ | ⟨h0, t, o, e, hp'⟩ | ⟨h0, e, _⟩
      · exact ⟨_, _, _, _, _, _, _, rfl, rfl, e, rfl, rfl, ⟨by decide, by decide⟩, .inl ⟨by simpa using h0, rfl, rfl, rfl⟩⟩
      · have hm' : lmay t o = true := by
          cases e : lmay t o with
          | true => rfl
          | false => rw [lput_no e] at hp'; cases hp'
        obtain ⟨_, _, _, a4, a5⟩ := lmay_iff.1 hm'
        have hb := hp'
        rw [lput_yes hm'] at hb
        injection hb with hb
        have hg := hget_block (hdL t o) (hdL_R t o) (hdL_fits hm')
        rw [hb] at hg
        refine ⟨_, _, _, _, _, _, _, rfl, rfl, e, rfl, rfl, ⟨by omega, by omega⟩, .inr (.inl ⟨h0, rfl, ?_⟩)⟩
        rw [hg, if_pos hm']; rfl
      · exact ⟨_, _, _, _, _, _, _, rfl, rfl, e, rfl, rfl, ⟨by decide, by decide⟩, .inr (.inr ⟨h0, rfl, rfl⟩)⟩
    obtain ⟨g, er, s, n, fr, x, m, hg, he, hl, hm, hx, hn, h3⟩ := cases3
    have Hg := Au.mk hg
    have He := Au.mk he
    have Hl := Au.mk hl
    have Hm := Au.mk hm
    have Hx := Au.mk hx
    have H3 := Au.mk h3
    clear hg he hl hm hx h3 hok
    go_enter Tryd.func6, Tryd.ntmps6
    go_wp2_with fail
    refine (awake14_calls _ Ht.out).mono ?_
    rintro e w1 ⟨rfl, b1⟩
    go_wp2_with fail
    refine (hget_view b Hg.out He.out _ (Ha.out.below b1)).mono ?_
    rintro e w2 ⟨rfl, b2⟩
    have e2 := bt b1 b2
    clear b1 b2
    unfold Hd.agg
    go_wp2_with fail
    generalize hW : World.alloc w2 _ = W3
    have L3 : Au (W3.heap[w2.heap.size]? = some (.cells g.cells.toArray 35 (0, 0))) := ⟨by rw [← hW]; exact heap_alloc_new _ _⟩
    have e3 : Below w.heap.size w W3 := by rw [← hW]; exact e2.alloc e2.size _
    clear hW
    refine (lget_calls b Hl.out _ (Ha.out.below e3) (Ht.out.below e3)).mono ?_
    rintro e w4 ⟨rfl, b4⟩
    have e4 := below_then e3 b4 e3.size
    have L4 := blk_below L3.out b4 (lt_of_block L3.out)
    clear b4 L3
    rcases H3.out with ⟨r1, r2, r3, r4⟩ | ⟨rfl, rfl, hgx⟩ | ⟨rfl, rfl, rfl⟩
    · subst r2 r3 r4
      go_wp2_with fail
      go_ret
      exact ⟨ret_true (by simp [*]), e4⟩
    · rw [hgx] at L4
      clear H3 Hg
      go_wp2_with fail
      refine (lname_calls s n hn Hm.out Hx.out _ (Ht.out.below e4)).mono ?_
      rintro e w5 ⟨rfl, b5⟩
      have e5 := below_then e4 b5 e4.size
      obtain ⟨l0, l1, l2, l3, l4, l5, l6, l7, l8, l9, l10⟩ := hd_cells _ (blk_below L4 b5 (lt_of_block L4))
      have q1 := Tryd.eqGuardType35
      have q2 := Tryd.stoodInHeld35
      have hq := eql_label x w5
      clear b5 e4 L4
      dsimp only at l0 l1 l2 l3 l4 l5 l6 l7 l8 l9 l10
      go_wp2_with fail
      go_ret
      exact ⟨ret_true (by simp [*]), e5⟩
    · go_wp2_with fail
      refine (lname_calls [] n hn Hm.out Hx.out _ (Ht.out.below e4)).mono ?_
      rintro e w5 ⟨rfl, b5⟩
      have e5 := below_then e4 b5 e4.size
      go_wp2_with fail
      go_ret
      exact ⟨ret_true (by simp [*]), e5⟩
  · have c6 : decide ((600 : Int) < (b.length : Int)) = true := by simp; omega
    go_enter Tryd.func6, Tryd.ntmps6
    go_wp2_with fail
    refine (awake14_calls _ Ht.out).mono ?_
    rintro e w1 ⟨rfl, b1⟩
    go_wp2_with fail
    go_ret
    exact ⟨rfl, b1⟩
end Go.Proofs.YtejalhoaljlnhaaDoor.Rk
