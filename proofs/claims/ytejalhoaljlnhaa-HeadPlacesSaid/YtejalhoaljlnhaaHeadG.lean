/- (signed).sum, sign. -/
import Derived.Test.YtejalhoaljlnhaaHeadF
namespace Go.Proofs.Ytejalhoaljlnhaa.Rk
open Go.RowKit
set_option linter.unusedVariables false
set_option linter.unusedSimpArgs false

/-- How a block's sum stands. -/
def sgn (b : List UInt8) : List UInt8 := octL 6 (sumK b 512) ++ [0, 32]
theorem sgn_length (b : List UInt8) : (sgn b).length = 8 := by simp [sgn, octL_length]
theorem octal_sum (b : List UInt8) : octal (sumK b 512) 6 = some (octL 6 (sumK b 512)) := by
  have h := sumK_le b 512
  have h2 : sumK b 512 < 262144 := by omega
  have h3 := octal_some (n := sumK b 512) (d := 6) (by decide) (by decide) (Nat.div_eq_of_lt (by simpa using h2))
  exact h3
theorem hsum512 {b : List UInt8} (h : b.length = 512) : hsum b = (sumK b 512 : Int) := by simp [hsum, h]

theorem ssum_calls (l : List UInt8) {n : Nat} (hn : l.length = n) {s : List UInt8} (hs : sgn l = s) {A : Option Addr} {c : Nat} {F : Nat → Prop} (w : World) (ha : Sl Kd.byte w F A c l) (hl : n = 512) :
    Calls Try.prog 43 #[.agg #[.slice A n c]] w fun e w' => ∃ B d, e = .returned (.slice B s.length d) ∧ Sl Kd.byte w' (fun k => w.heap.size ≤ k) B d s ∧ Below w.heap.size w w' := by
  subst hn
  have hk := octal_sum l
  have hsm := hsum512 hl
  have hle := sumK_le l 512
  obtain ⟨m, hm⟩ : ∃ m, m = sumK l 512 := ⟨_, rfl⟩
  have hs2 : octL 6 m ++ [0, 32] = s := by rw [hm]; exact hs
  rw [← hm] at hk hsm hle
  obtain ⟨q, hq⟩ : ∃ q, q = octL 6 m := ⟨_, rfl⟩
  have hql : q.length = 6 := by rw [hq, octL_length]
  rw [← hq] at hk hs2
  have hb0 := Below.refl w.heap.size w
  have Hk := Au.mk hk
  have Hs2 := Au.mk hs2
  have Hsm := Au.mk hsm
  have Hql := Au.mk hql
  clear hk hs2 hm hq hsm hql hl hs
  have kb := fun W => str_bytes (P := Try.prog) (dst := 22) Try.underlying9 Try.underlying22 Try.underlying5 q W
  go_enter Try.func43, Try.ntmps43
  go_wp2_with fail
  refine (sum_calls _ Hsm.out _ (ha.alloc _)).mono ?_
  rintro e w1 ⟨rfl, rfl⟩
  go_wp2_with fail
  refine (octal_yes Hk.out _ (by omega) (by omega)).mono ?_
  rintro e w2 ⟨rfl, b2⟩
  have hb2 := ((hb0.alloc (Nat.le_refl _) (.cells #[.slice A l.length c] 57)).trans (b2.mono (by simp)))
  go_wp2_with (first | (at_builtin; go_loud (refine wpList_append_row _ rfl etBytes _ _ rfl rfl ((bytesWorld_row _ _ q (by have := Hql.out; omega) _ hb2.size).alloc _) rfl (cells_newN _ [.int .u8 0, .int .u8 32] _) rfl (by simp [Value.oneCell', bcs]) (by simp only [maxLen]; have := Hql.out; omega) (by have := Hql.out; omega) (by simp [Lib.bytesWorld_size]; have := hb2.size; omega) ?_)))
  intro v' w3 hrow hg _
  have hb3 : Below w.heap.size w w3 := (((below_then hb2 (bytesWorld_below _ 5 q) hb2.size).alloc (by simp [Lib.bytesWorld_size]; have := hb2.size; omega) _).grown hg (by simp [Lib.bytesWorld_size]; have := hb2.size; omega) (by
    intro k hk; simp [Value.ownBlock] at hk; have := hb2.size; omega))
  have hr : Row w3 w.heap.size 1 v' s.length (bcs s) := by rw [← Hs2.out, bcs_append, List.length_append]; exact hrow
  obtain ⟨B, d, rfl, hsl⟩ := hr.sl_bytes
  go_wp2_with fail
  go_ret
  exact ⟨B, d, rfl, hsl, hb3⟩

theorem sign_calls (l : List UInt8) {s : List UInt8} (hs : sgn l = s) (w : World) (hl : l.length = 512) {m : Int} (hm' : hsum l = m) :
    Calls Try.prog 46 #[.int .i64 m] w fun e w' => ∃ B d, e = .returned (.slice B s.length d) ∧ Sl Kd.byte w' (fun k => w.heap.size ≤ k) B d s ∧ Below w.heap.size w w' := by
  subst hm'
  have hk := octal_sum l
  rw [hsum512 hl]
  have hle := sumK_le l 512
  obtain ⟨m, hm⟩ : ∃ m, m = sumK l 512 := ⟨_, rfl⟩
  have hs2 : octL 6 m ++ [0, 32] = s := by rw [hm]; exact hs
  rw [← hm] at hk hle
  rw [← hm]
  obtain ⟨q, hq⟩ : ∃ q, q = octL 6 m := ⟨_, rfl⟩
  have hql : q.length = 6 := by rw [hq, octL_length]
  rw [← hq] at hk hs2
  have hb0 := Below.refl w.heap.size w
  have hk1 : (octal m 6).getD [] = q := by rw [hk]; rfl
  have hk2 : (octal m 6).isSome = true := by rw [hk]; rfl
  have Hk1 := Au.mk hk1
  have Hk2 := Au.mk hk2
  have Hs2 := Au.mk hs2
  have Hql := Au.mk hql
  clear hk hs2 hm hq hql hl hs hk1 hk2
  have kb := fun W => str_bytes (P := Try.prog) (dst := 22) Try.underlying9 Try.underlying22 Try.underlying5 q W
  go_enter Try.func46, Try.ntmps46
  go_wp2_with fail
  refine (rOctal_view Hk1.out Hk2.out ⟨by omega, by omega⟩ _).mono ?_
  rintro e w2 ⟨rfl, rfl⟩
  have hb2 := hb0
  go_wp2_with (first | (at_builtin; go_loud (refine wpList_append_row _ rfl etBytes _ _ rfl rfl ((bytesWorld_row _ _ q (by have := Hql.out; omega) _ hb2.size).alloc _) rfl (cells_newN _ [.int .u8 0, .int .u8 32] _) rfl (by simp [Value.oneCell', bcs]) (by simp only [maxLen]; have := Hql.out; omega) (by have := Hql.out; omega) (by simp [Lib.bytesWorld_size]; have := hb2.size; omega) ?_)))
  intro v' w3 hrow hg _
  have hb3 : Below w.heap.size w w3 := (((below_then hb2 (bytesWorld_below _ 5 q) hb2.size).alloc (by simp [Lib.bytesWorld_size]) _).grown hg (by simp [Lib.bytesWorld_size]; omega) (by
    intro k hk; simp [Value.ownBlock] at hk; have := hb2.size; omega))
  have hr : Row w3 w.heap.size 1 v' s.length (bcs s) := by rw [← Hs2.out, bcs_append, List.length_append]; exact hrow
  obtain ⟨B, d, rfl, hsl⟩ := hr.sl_bytes
  go_wp2_with fail
  go_ret
  exact ⟨B, d, rfl, hsl, hb3⟩
end Go.Proofs.Ytejalhoaljlnhaa.Rk
