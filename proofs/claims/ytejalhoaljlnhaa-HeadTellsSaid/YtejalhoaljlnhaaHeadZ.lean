/- Walks: the document's answers for headers: upto, guess. -/
import Derived.Test.YtejalhoaljlnhaaHeadY
namespace Go.Proofs.Ytejalhoaljlnhaa.Rk
open Go.RowKit
set_option linter.unusedVariables false
set_option linter.unusedSimpArgs false

theorem ret_head1 {fn : Func} (p : Nat) (hfn : fn.results = #[.cell p 36]) {R : Ending → World → Prop} {w : World} {h : Hd} {g : Nat} {a : Act} (hg : w.heap[g]? = some (.cells h.cells.toArray 36 (0, 0)))
    (t2 : a.tmps.getD p undef = .pointer (some ⟨g, 0, none⟩)) (hd : a.defers = [])
    (hR : R (.returned h.agg) w) : bodyPost Try.prog fn R .ret a w :=
  bodyPost_ret (v := h.agg) (results_cell_row hfn a.tmps w g 36 h.cells.toArray (0, 0) _ t2 hg Try.underlying36 rfl (by kernel_rfl)) hd hR

theorem upto_at {l : List UInt8} {k : Nat} (hk : k < l.length) (h : l[k] = 0) (h0 : (0 : UInt8) ∉ l.take k) : upto l = l.take k := by
  have e : l = l.take k ++ l.drop k := (List.take_append_drop k l).symm
  conv => lhs; rw [e]
  unfold upto
  rw [List.takeWhile_append_of_pos (by intro a ha; simp; rintro rfl; exact h0 ha), List.drop_eq_getElem_cons hk, h, List.takeWhile_cons_of_neg (by simp)]
  simp
theorem upto_all {l : List UInt8} (h0 : (0 : UInt8) ∉ l) : upto l = l := by
  have := List.takeWhile_append_of_pos (p := (· != (0 : UInt8))) (l₁ := l) (l₂ := []) (by intro a ha; simp; rintro rfl; exact h0 ha)
  simpa [upto] using this
theorem rupto_calls (l : List UInt8) {n : Nat} (hn : l.length = n) {s : List UInt8} (hs : upto l = s) {A : Option Addr} {c : Nat} {F : Nat → Prop} (w : World) (ha : Sl Kd.byte w F A c l) :
    Calls Try.prog 58 #[.slice A n c] w fun e w' => e = .returned (.string (ofL s)) ∧ w = w' := by
  subst hn
  have Hs := Au.mk hs
  clear hs
  have hcap := ha.1
  have hcap2 := ha.2.1
  go_enter Try.func58, Try.ntmps58
  go_wp2_with fail
  go_loop [3] (fun i => ∃ k : Nat, k ≤ l.length ∧ i = .int .i64 k ∧ Au ((0 : UInt8) ∉ l.take k)) (fun i => l.length - (intOf i).toNat)
  case atStart => exact ⟨0, Nat.zero_le _, rfl, ⟨by simp⟩⟩
  case round =>
    obtain ⟨k, hk, rfl, H0⟩ := hrel
    by_cases hlt : k < l.length
    · obtain ⟨b, o, rfl, ck⟩ := ha.byte_at k hlt
      obtain ⟨x, hx⟩ : ∃ x, l[k] = x := ⟨_, rfl⟩
      rw [hx] at ck
      have Hx := Au.mk hx
      clear hx
      by_cases h0 : x = 0
      · subst h0
        obtain ⟨t, Ht⟩ := au (l.take k)
        have hs2 : t = s := by rw [← Hs.out, ← Ht.out, upto_at hlt Hx.out H0.out]
        subst hs2
        have kc : (convert 22 9 (.slice (some ⟨b, o, none⟩) k c)).run Try.prog w = .ok (.string (ofL t)) w := by
          have hcl := ha.bytes.take k
          have e : (bcs l).take k = bcs t := by rw [← Ht.out]; simp [bcs, List.map_take]
          rw [e] at hcl
          exact bytes_str Try.underlying22 Try.underlying5 Try.underlying9 hcl k c (by rw [← Ht.out, List.length_take]; omega)
        go_wp2_with fail
        go_ret
        exact ⟨rfl, rfl⟩
      · have hx0 : ((x.toNat : Int) == 0) = false := by
          rw [beq_eq_false_iff_ne]; intro h
          exact h0 (UInt8.toNat_inj.1 (by simpa using h))
        have H0' := Au.mk h0
        clear h0
        go_wp2_with fail
        go_round
        case rel => exact ⟨k + 1, by omega, by go_num, ⟨mem_take_succ hlt Hx.out H0.out H0'.out⟩⟩
        case measure => simp [intOf]; omega
    · have hk2 : k = l.length := by omega
      have h0 : (0 : UInt8) ∉ l := by have := H0.out; rwa [hk2, List.take_length] at this
      have hs2 : l = s := by rw [← Hs.out, upto_all h0]
      subst hs2
      have kc := str_of ha
      clear h0 hk2 H0 Hs
      go_wp2_with fail
      go_ret
      exact ⟨rfl, rfl⟩
theorem rget_of {l : List UInt8} {k : Nat} (hk : l.length = k) {n : Int} {b : Bool} (hn : (get l).getD 0 = n) (hb : (get l).isSome = b) {A : Option Addr} {c : Nat} {F : Nat → Prop} {w : World} (ha : Sl Kd.byte w F A c l) :
    Calls Try.prog 23 #[.slice A k c] w fun e w' => e = .returned (.tuple #[.int .i64 n, .bool b]) ∧ Below w.heap.size w w' := by
  subst hk
  exact rget_view hn hb ha
theorem guess_more {b : List UInt8} (h : tyOf b = 77) : guess b = ⟨upto (piece b ⟨0, 100, 0⟩), [], upto (piece b ⟨157, 100, 2⟩), (get (piece b ⟨100, 8, 3⟩)).getD 0, (get (piece b ⟨108, 8, 4⟩)).getD 0, (get (piece b ⟨116, 8, 5⟩)).getD 0, (get (piece b ⟨124, 12, 6⟩)).getD 0,
    (get (piece b ⟨136, 12, 7⟩)).getD 0, tyOf b, (get (piece b ⟨369, 12, 9⟩)).getD 0, (get (piece b ⟨483, 12, 10⟩)).getD 0⟩ := by
  unfold guess
  simp only [guessN, guessW, wSp, nSp, if_pos h, List.append_nil, List.cons_append, List.nil_append, List.foldl_cons, List.foldl_nil, Hd.setText, Hd.setNumb, hd0]
theorem guess_less {b : List UInt8} (h : ¬ tyOf b = 77) : guess b = ⟨upto (piece b ⟨0, 100, 0⟩), upto (piece b ⟨345, 155, 1⟩), upto (piece b ⟨157, 100, 2⟩), (get (piece b ⟨100, 8, 3⟩)).getD 0, (get (piece b ⟨108, 8, 4⟩)).getD 0, (get (piece b ⟨116, 8, 5⟩)).getD 0, (get (piece b ⟨124, 12, 6⟩)).getD 0,
    (get (piece b ⟨136, 12, 7⟩)).getD 0, tyOf b, 0, 0⟩ := by
  unfold guess
  simp only [guessN, guessW, wSp, nSp, if_neg h, List.append_nil, List.cons_append, List.nil_append, List.foldl_cons, List.foldl_nil, Hd.setText, Hd.setNumb, hd0]
theorem piece_le (b : List UInt8) (s : Sp) : (upto (piece b s)).length ≤ s.wide := Nat.le_trans (upto_le _) (by unfold piece; rw [List.length_take]; omega)
theorem guess_S (b : List UInt8) : (guess b).S := by
  by_cases h : tyOf b = 77
  · rw [guess_more h]
    exact ⟨Nat.le_trans (piece_le b ⟨0, 100, 0⟩) (by decide), by simp, Nat.le_trans (piece_le b ⟨157, 100, 2⟩) (by decide)⟩
  · rw [guess_less h]
    exact ⟨Nat.le_trans (piece_le b ⟨0, 100, 0⟩) (by decide), Nat.le_trans (piece_le b ⟨345, 155, 1⟩) (by decide), Nat.le_trans (piece_le b ⟨157, 100, 2⟩) (by decide)⟩
end Go.Proofs.Ytejalhoaljlnhaa.Rk
