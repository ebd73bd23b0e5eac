/- Walks: the document's answers for headers: lay, number. -/
import Derived.Test.YtejalhoaljlnhaaHeadV
namespace Go.Proofs.Ytejalhoaljlnhaa.Rk
open Go.RowKit
set_option linter.unusedVariables false
set_option linter.unusedSimpArgs false

theorem splice_step {l x : List UInt8} {i k : Nat} (hf : i + x.length ≤ l.length) (hk : k < x.length) {y : UInt8} (hy : x[k] = y) : (splice l i (x.take k)).set (i + k) y = splice l i (x.take (k + 1)) := by
  apply List.ext_getElem?
  intro j
  have h1 : (x.take k).length = k := by rw [List.length_take]; omega
  have h2 : (x.take (k + 1)).length = k + 1 := by rw [List.length_take]; omega
  rw [splice_at _ _ _ _ (by rw [h2]; omega), h2]
  by_cases e : j = i + k
  · subst e
    rw [List.getElem?_set_self (by rw [splice_length _ _ _ (by rw [h1]; omega)]; omega), if_neg (by omega), if_pos (by omega), List.getElem?_take, if_pos (by omega), show i + k - i = k from by omega, List.getElem?_eq_getElem hk, hy]
  · rw [List.getElem?_set_ne (by omega), splice_at _ _ _ _ (by rw [h1]; omega), h1]
    by_cases h3 : j < i
    · rw [if_pos h3, if_pos h3]
    · rw [if_neg h3, if_neg h3]
      by_cases h4 : j < i + k
      · rw [if_pos h4, if_pos (by omega), List.getElem?_take, List.getElem?_take, if_pos (by omega), if_pos (by omega)]
      · rw [if_neg h4, if_neg (by omega)]

theorem lay_calls (g : Nat) (pg : List UInt8) {n i : Nat} (x : List UInt8) {p : List UInt8} (hp : splice pg i x = p) {A : Option Addr} {c : Nat} {F : Nat → Prop} (w : World) (hg : w.heap[g]? = some (.cells (bcs pg).toArray 5 (0, 0))) (hn : pg.length = n) (hn2 : n ≤ 9223372036854775807)
    (hfit : i + x.length ≤ n) (hs : Sl Kd.byte w F A c x) (hF : ¬ F g) :
    Calls Try.prog 44 #[.slice (some ⟨g, 0, none⟩) n n, .int .i64 i, .slice A x.length c] w fun e w' =>
      e = .returned (.slice (some ⟨g, 0, none⟩) n n) ∧ w'.heap[g]? = some (.cells (bcs p).toArray 5 (0, 0)) ∧ w.grownBy w' (some g) := by
  have Hp := Au.mk hp
  have Hn := Au.mk hn
  clear hp hn
  have Hg := Au.mk hg
  clear hg
  go_enter Try.func44, Try.ntmps44
  go_wp2_with fail
  go_loopw [7] (fun j wr => ∃ k : Nat, ∃ cs : List Value, k ≤ x.length ∧ j = .int .i64 k ∧ Au (cs = bcs (splice pg i (x.take k))) ∧ Au (wr.heap[g]? = some (.cells cs.toArray 5 (0, 0))) ∧ w.grownBy wr (some g)) (fun j _ => x.length - (intOf j).toNat)
  case atStart => exact ⟨0, _, Nat.zero_le _, rfl, ⟨by rw [List.take_zero, splice_nil]⟩, Hg, grown_of (.refl _ _) _⟩
  case round =>
    obtain ⟨k, cs, hk, rfl, Hcs, Hc, hgr⟩ := hrel
    have hsk := hs.grown hgr (fun g' e => by injection e with e; subst e; exact hF)
    by_cases hlt : k < x.length
    · obtain ⟨b, o, rfl, ck⟩ := hsk.byte_at k hlt
      obtain ⟨y, hy⟩ : ∃ y, x[k] = y := ⟨_, rfl⟩
      rw [hy] at ck
      have Hy := Au.mk hy
      clear hy
      have hln : cs.length = n := by
        rw [Hcs.out, bcs_length, splice_length _ _ _ (by rw [List.length_take, Hn.out]; omega), Hn.out]
      obtain ⟨v, hv⟩ : ∃ v, cs[i + k]? = some v := ⟨_, List.getElem?_eq_getElem (by omega)⟩
      have q3 := blk_cell Hc.out (i + k) hv
      have q4 := blk_free Hc.out (i + k)
      have hik : i + k < n := by omega
      clear hln hv
      go_wp2_with fail
      go_roundw
      case rel =>
        refine ⟨k + 1, cs.set (i + k) (.int .u8 y.toNat), by omega, by go_num, ⟨?_⟩, ⟨?_⟩, ?_⟩
        · rw [Hcs.out, bcs_set, splice_step (by rw [Hn.out]; omega) hlt Hy.out]
        · exact blk_set Hc.out _ _
        · exact grown_set hgr (.inl rfl) _
      case measure => simp [intOf]; omega
    · have hk2 : k = x.length := by omega
      have e : Au (cs = bcs p) := ⟨by rw [Hcs.out, hk2, List.take_length, Hp.out]⟩
      clear hk2
      go_wp2_with fail
      go_ret
      exact ⟨rfl, by rw [← e.out]; exact Hc.out, hgr⟩
theorem number_calls04 (g : Nat) (pg : List UInt8) {i : Nat} {m wide : Int} {q p : List UInt8} {n : Nat} (hq : (put m wide).getD [] = q) (hm : R64 m) (hp : splice pg i q = p) (w : World) (hg : w.heap[g]? = some (.cells (bcs pg).toArray 5 (0, 0))) (hn : pg.length = n) (hn2 : n ≤ 9223372036854775807)
    (hfit : i + q.length ≤ n) :
    Calls Try.prog 45 #[.slice (some ⟨g, 0, none⟩) n n, .int .i64 i, .int .i64 wide, .int .i64 m] w fun e w' =>
      e = .returned (.slice (some ⟨g, 0, none⟩) n n) ∧ w'.heap[g]? = some (.cells (bcs p).toArray 5 (0, 0)) ∧ w.grownBy w' (some g) := by
  obtain ⟨b, Hb⟩ := au (put m wide).isSome
  have Hq := Au.mk hq
  have Hp := Au.mk hp
  have Hn := Au.mk hn
  have Hg := Au.mk hg
  have Hf := Au.mk hfit
  clear hq hp hn hg hfit
  go_enter Try.func45, Try.ntmps45
  go_wp2_with fail
  refine (rput_view Hq.out Hb.out hm _).mono ?_
  rintro e w1 ⟨A, c, rfl, s1, b1⟩
  have g1 := blk_below Hg.out b1 (lt_of_block Hg.out)
  have G1 := Au.mk g1
  have hne := lt_of_block Hg.out
  clear g1
  go_wp2_with fail
  refine (lay_calls g pg q Hp.out _ G1.out Hn.out hn2 Hf.out s1 (by omega)).mono ?_
  rintro e w2 ⟨rfl, h2, g2⟩
  go_wp2_with fail
  go_ret
  exact ⟨rfl, h2, grown_trans (grown_of b1 _) g2⟩
end Go.Proofs.Ytejalhoaljlnhaa.Rk
