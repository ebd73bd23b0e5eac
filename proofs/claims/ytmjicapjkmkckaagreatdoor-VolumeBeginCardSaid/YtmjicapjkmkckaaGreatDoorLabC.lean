/- Labels of volumes, walked: May, Name, Put. -/
import Derived.Test.YtmjicapjkmkckaaGreatDoorLabB
import Derived.Test.YtmjicapjkmkckaaGreatDoorShelf
import Derived.Lib.AppendIntMem
namespace Go.Proofs.YtmjicapjkmkckaaGreatDoor.Rk
open Go.RowKit
set_option linter.unusedVariables false
set_option linter.unusedSimpArgs false
set_option maxRecDepth 100000

/-- The library's table of powers of ten is as its text has it. -/
def Tab (w : World) : Prop := Lib.TabIs Tryz.prog w "internal/strconv.uint64pow10" .u64 Lib.pow10Tab
theorem Tab.below {w w' : World} (h : Tab w) (hb : Below w.heap.size w w') : Tab w' := by
  unfold Tab Lib.TabIs World.var? at *
  cases hg : Tryz.prog.globalNamed "internal/strconv.uint64pow10" with
  | none => rw [hg] at h; cases h
  | some g =>
    rw [hg] at h
    simp only [Option.bind_some] at h ⊢
    by_cases hlt : g < w.heap.size
    · rw [hb.block g hlt]; exact h
    · rw [Array.getElem?_eq_none (by omega)] at h; cases h
theorem itoa_calls {n : Int} (hn : R64 n) {d : List UInt8} (hd : Lib.itoa n = d) (w : World) (ht : Tab w) :
    Calls Tryz.prog 142 #[.int .i64 n] w fun e w' => e = .returned (.string (ofL d)) ∧ Below w.heap.size w w' := by
  subst hd
  refine (Tryz.strconv_Itoa n hn.1 (by have := hn.2; omega) w ht).mono ?_
  rintro e w' ⟨h1, k, os, rfl⟩
  exact ⟨h1, Lib.below_grow _ w (Nat.le_refl _) k os⟩
theorem lmay_calls (s : List UInt8) (n : Int) {r : Bool} (hr : lmay s n = r) (w : World) :
    Calls Tryz.prog 44 #[.string (ofL s), .int .i64 n] w fun e w' => e = .returned (.bool r) ∧ w = w' := by
  obtain ⟨a1, A1⟩ := au (s == [])
  obtain ⟨a2, A2⟩ := au (decide (s.length ≤ 88))
  obtain ⟨a3, A3⟩ := au (!s.contains 0)
  obtain ⟨a4, A4⟩ := au (decide (1 ≤ n))
  obtain ⟨a5, A5⟩ := au (decide (n ≤ 999))
  obtain ⟨i, Hi⟩ := au (Lib.indexByte s 0)
  unfold lmay at hr
  rw [A1.out, A2.out, A3.out, A4.out, A5.out] at hr
  have hsz := ofL_size s
  have c1 := A1.out
  have c2 := A2.out
  have c2i : decide ((s.length : Int) ≤ 88) = a2 := by rw [← c2]; simp only [decide_eq_decide]; omega
  have c3 : decide (i < 0) = a3 := by
    have h1 := indexByte_mem s 0
    rw [Hi.out] at h1
    rw [← A3.out, Bool.eq_iff_iff]
    simp [h1]
  have c4 := A4.out
  have c5 := A5.out
  have Hr := Au.mk hr
  clear hr
  cases a1
  case true =>
    go_enter Tryz.func44, Tryz.ntmps44
    go_wp2_with fail
    go_ret
    exact ⟨ret_bool (by rw [← Hr.out]; rfl), rfl⟩
  case false =>
    cases a2
    case false =>
      go_enter Tryz.func44, Tryz.ntmps44
      go_wp2_with fail
      go_ret
      exact ⟨ret_bool (by rw [← Hr.out]; rfl), rfl⟩
    case true =>
      cases a3 <;> cases a4 <;> cases a5
      all_goals
        go_enter Tryz.func44, Tryz.ntmps44
        go_wp2_with fail
        refine (index_is Hi.out _).mono ?_
        rintro e w1 ⟨rfl, rfl⟩
        go_wp2_with fail
        go_ret
        exact ⟨ret_bool (by rw [← Hr.out]; rfl), rfl⟩
theorem lname_calls (s : List UInt8) (n : Int) (hn : R64 n) {x : List UInt8} {r : Bool} (hr : lmay s n = r) (hx : (if lmay s n then lname s n else []) = x) (w : World) (ht : Tab w) :
    Calls Tryz.prog 103 #[.string (ofL s), .int .i64 n] w fun e w' => e = .returned (.tuple #[.string (ofL x), .bool r]) ∧ Below w.heap.size w w' := by
  have Hr := Au.mk hr
  have Ht := Au.mk ht
  rw [hr] at hx
  cases r
  case false =>
    have hx2 : [] = x := by simpa using hx
    subst hx2
    clear hr hx ht
    go_enter Tryz.func103, Tryz.ntmps103
    go_wp2_with fail
    refine (lmay_calls s n Hr.out _).mono ?_
    rintro e w1 ⟨rfl, rfl⟩
    go_wp2_with fail
    go_ret2
    exact ⟨rfl, Below.refl _ _⟩
  case true =>
    have hx2 : lname s n = x := by simpa using hx
    obtain ⟨_, a2, _, a4, a5⟩ := lmay_iff.1 hr
    obtain ⟨_, d2, _⟩ := itoa_digits a4 a5
    obtain ⟨d, Hd⟩ := au (Lib.itoa n)
    rw [Hd.out] at d2
    have h1 : ofL s ++ (⟨#[32, 86, 111, 108, 117, 109, 101, 32]⟩ : ByteArray) = ofL (s ++ vol) := ofL_append s vol
    have h2 : ofL (s ++ vol) ++ ofL d = ofL x := by rw [ofL_append, ← Hd.out, ← hx2]; rfl
    have z1 : (ofL s).size = s.length := ofL_size _
    have z2 : (ofL (s ++ vol)).size = s.length + 8 := by rw [ofL_size, List.length_append]; rfl
    have z3 : (ofL d).size = d.length := ofL_size _
    clear hr hx hx2 ht a4 a5
    go_enter Tryz.func103, Tryz.ntmps103
    go_wp2_with fail
    refine (lmay_calls s n Hr.out _).mono ?_
    rintro e w1 ⟨rfl, rfl⟩
    go_wp2_with fail
    refine (itoa_calls hn Hd.out _ Ht.out).mono ?_
    rintro e w2 ⟨rfl, b2⟩
    go_wp2_with fail
    go_ret2
    exact ⟨rfl, b2⟩
theorem lput_calls (s : List UInt8) (n : Int) (hn : R64 n) {p : List UInt8} {b : Bool} (hp : (lput s n).getD [] = p) (hb : (lput s n).isSome = b) (w : World) (ht : Tab w) :
    Calls Tryz.prog 58 #[.string (ofL s), .int .i64 n] w fun e w' => ∃ A c, e = .returned (.tuple #[.slice A p.length c, .bool b]) ∧ Sl Kd.byte w' (fun k => w.heap.size ≤ k) A c p ∧ Below w.heap.size w w' := by
  obtain ⟨r, Hr⟩ := au (lmay s n)
  obtain ⟨x, Hx⟩ := au (if lmay s n then lname s n else [])
  have Ht := Au.mk ht
  have Hp := Au.mk hp
  have Hb := Au.mk hb
  clear hp hb ht
  cases r
  case false =>
    have h1 : p = [] := by rw [← Hp.out, lput_no Hr.out]; rfl
    have h2 : b = false := by rw [← Hb.out, lput_no Hr.out]; rfl
    subst h1 h2
    go_enter Tryz.func58, Tryz.ntmps58
    go_wp2_with fail
    refine (lname_calls s n hn Hr.out Hx.out _ Ht.out).mono ?_
    rintro e w1 ⟨rfl, b1⟩
    go_wp2_with fail
    go_ret2
    exact ⟨none, 0, rfl, Sl.nil _ _ _, b1⟩
  case true =>
    have hx : x = (hdL s n).name := by rw [← Hx.out, if_pos Hr.out]; rfl
    have h1 : Au ((hput (hdL s n)).getD [] = p) := ⟨by rw [← Hp.out]; unfold lput; rw [if_pos Hr.out]⟩
    have h2 : Au ((hput (hdL s n)).isSome = b) := ⟨by rw [← Hb.out]; unfold lput; rw [if_pos Hr.out]⟩
    subst hx
    go_enter Tryz.func58, Tryz.ntmps58
    go_wp2_with fail
    refine (lname_calls s n hn Hr.out Hx.out _ Ht.out).mono ?_
    rintro e w1 ⟨rfl, b1⟩
    go_wp2_with fail
    refine (hput_view (hdL s n) (hdL_R s n) h1.out h2.out _).mono ?_
    rintro e w2 ⟨A, c, rfl, s2, b2⟩
    go_wp2_with fail
    go_ret2
    exact ⟨A, c, rfl, s2.mono (by intro k hk; have := b1.size; omega), bt b1 b2⟩
end Go.Proofs.YtmjicapjkmkckaaGreatDoor.Rk
