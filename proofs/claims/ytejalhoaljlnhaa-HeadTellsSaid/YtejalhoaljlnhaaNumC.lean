/- Walks: num.Put. -/
import Derived.Test.YtejalhoaljlnhaaNumB
namespace Go.Proofs.Ytejalhoaljlnhaa.Rk
open Go.RowKit
set_option linter.unusedVariables false
set_option linter.unusedSimpArgs false

theorem put_octal {n wide : Int} {l : List UInt8} (w : World) (h0 : 0 ≤ n) (h1 : n < 9223372036854775808) (hw0 : 2 ≤ wide) (hw1 : wide ≤ 20) (ho : octal n (wide - 1) = some l) :
    Calls Try.prog 20 #[.int .i64 n, .int .i64 wide] w (bytesOr w (some (l ++ [0]))) := by
  have Ho := Au.mk ho
  have hll : l.length < 20 := by
    obtain ⟨_, _, _, _, rfl⟩ := octal_iff.1 ho
    rw [octL_length]; omega
  clear ho
  have hw : width wide = true := by simp [width]; omega
  have kb := fun W => str_bytes (P := Try.prog) (dst := 22) Try.underlying9 Try.underlying22 Try.underlying5 l W
  go_enter Try.func20, Try.ntmps20
  go_wp2_with (first | (go_at_call 18; refine (octal_yes Ho.out _ (by omega) h1).mono ?_; rintro e w' ⟨rfl, hb⟩) | (go_at_call 37; refine (width_calls _ _).mono ?_; rintro e w' ⟨rfl, rfl⟩) | (at_builtin; refine wpList_append_row _ rfl etBytes _ _ rfl rfl ((bytesWorld_row _ _ l (by omega) _ hb.size).alloc _) rfl (cells_new1 _ _ _) rfl (by simp [Value.oneCell']) (by simp only [maxLen]; omega) (by omega) (by simp [Lib.bytesWorld_size]; have := hb.size; omega) ?_))
  intro v' w1 hrow hg _
  go_wp2_with fail
  go_ret2
  have hb1 : Below w.heap.size w w1 := (((below_then hb (bytesWorld_below _ _ _) hb.size).alloc (by simp [Lib.bytesWorld_size]; have := hb.size; omega) _).grown hg (by simp [Lib.bytesWorld_size]; have := hb.size; omega) (by
    intro k hk; simp [Value.ownBlock] at hk; have := hb.size; omega))
  have hr : Row w1 w.heap.size 1 v' (l ++ [0]).length (bcs (l ++ [0])) := by simpa [bcs] using hrow
  obtain ⟨A, c, rfl, hs⟩ := hr.sl_bytes
  exact ⟨hb1, A, c, rfl, hs⟩

/-- The row of bytes while the number is put, k of them laid. -/
def binRow (d k n : Nat) : List UInt8 := 128 :: (List.replicate (d - k) 0 ++ binL k n)
theorem binRow_step (d k n : Nat) (h : k < d) : (binRow d k n).set (d - k) (UInt8.ofNat (n / 256 ^ k % 256)) = binRow d (k + 1) n := by
  unfold binRow
  obtain ⟨j, hj⟩ : ∃ j, d - k = j + 1 := ⟨d - k - 1, by omega⟩
  have e2 : d - (k + 1) = j := by omega
  rw [hj, e2, List.set_cons_succ, List.replicate_succ', List.append_assoc, List.set_append_right _ _ (by simp)]
  simp [binL]

theorem octal_no_big {n wd : Nat} (w : World) (h1 : n < 9223372036854775808) (hw0 : 2 ≤ wd) (hw1 : wd ≤ 20) (ho : octal n ((wd : Int) - 1) = none) : 8 ^ (wd - 1) ≤ n ∧ True := by
  refine ⟨?_, trivial⟩
  rcases Nat.lt_or_ge n (8 ^ (wd - 1)) with h | h
  · have : octal n ((wd : Int) - 1) = some (octL ((wd : Int) - 1).toNat n) := octal_iff.2 ⟨by omega, by omega, by omega, by rw [show ((wd : Int) - 1).toNat = wd - 1 from by omega]; simpa using h, rfl⟩
    rw [ho] at this; cases this
  · exact h

theorem put_bin {n wd : Nat} (w : World) (h1 : n < 9223372036854775808) (hw0 : 2 ≤ wd) (hw1 : wd ≤ 20) (ho : octal n ((wd : Int) - 1) = none) (o : Option (List UInt8)) (hp : put n wd = o) :
    Calls Try.prog 20 #[.int .i64 n, .int .i64 (wd : Int)] w (bytesOr w o) := by
  have Ho := Au.mk ho
  have Hp := Au.mk hp
  clear ho hp
  have hw : width (wd : Int) = true := by simp [width]; omega
  have km := make_bytes etBytes wd (by omega)
  generalize hz : bcs (List.replicate wd 0) = z at km
  have hz0 : z[0]? = some (.int .u8 0) := by
    obtain ⟨j, rfl⟩ : ∃ j, wd = j + 1 := ⟨wd - 1, by omega⟩
    rw [← hz]; simp [bcs, List.replicate_succ]
  have Hz := Au.mk hz
  clear hz
  have c1 : decide ((n : Int) < 0) = false := by simp
  go_enter Try.func20, Try.ntmps20
  go_wp2_with (first | (go_at_call 18; (with_reducible refine (octal_no Ho.out _ (by omega) (by omega)).mono ?_); rintro e w' ⟨rfl, hb⟩) | (go_at_call 37; (with_reducible refine (width_calls _ _).mono ?_); rintro e w' ⟨rfl, rfl⟩))
  clear km hw c1 hz0
  go_loopw [9, 37] (fun x i wr => ∃ k m : Nat, ∃ cs : List Value, k + 1 ≤ wd ∧ x = .int .i64 (m : Int) ∧ i = .int .i64 k ∧ Au (m = n / 256 ^ k) ∧ Au (cs = bcs (binRow (wd - 1) k n)) ∧ Au (wr.heap[w'.heap.size]? = some (.cells cs.toArray 5 (0, 0))) ∧ Below w.heap.size w wr) (fun _ i _ => wd - (intOf i).toNat)
  case atStart =>
    refine ⟨0, n, z.set 0 (.int .u8 128), by omega, rfl, rfl, ⟨(Nat.div_one n).symm⟩, ⟨?_⟩, ⟨heap_alloc_new _ _⟩, hb.alloc hb.size _⟩
    rw [← Hz.out]
    obtain ⟨j, rfl⟩ : ∃ j, wd = j + 1 := ⟨wd - 1, by omega⟩
    simp [bcs, binRow, binL, List.replicate_succ]
  case round =>
    obtain ⟨k, m, cs, hk, rfl, rfl, Hm, Hcs, Hb0, hb2⟩ := hrel
    have hle : m < 9223372036854775808 := by have := Nat.div_le_self n (256 ^ k); have := Hm.out; omega
    by_cases hlt : k + 1 < wd
    · obtain ⟨v, hv⟩ : ∃ v, cs[wd - 1 - k]? = some v := ⟨_, List.getElem?_eq_getElem (by rw [Hcs.out]; simp [bcs, binRow, binL_length]; omega)⟩
      have q3 := blk_cell Hb0.out (wd - 1 - k) hv
      have q4 := blk_free Hb0.out (wd - 1 - k)
      clear hv
      go_wp2_with fail
      go_roundw
      case rel =>
        refine ⟨k + 1, m / 256, cs.set (wd - 1 - k) (.int .u8 (m % 256)), by omega, by first | rfl | go_num, by go_num, ⟨?_⟩, ⟨?_⟩, ⟨?_⟩, ?_⟩
        · rw [Hm.out, Nat.div_div_eq_div_mul, Nat.pow_succ]
        · rw [Hcs.out, ← binRow_step (wd - 1) k n (by omega), bcs, bcs, List.map_set, ← Hm.out]
          congr 2
          simp
        · exact blk_set Hb0.out _ _
        · exact hb2.setCell hb.size _
      case measure => simp [intOf]; omega
    · have hkd : k = wd - 1 := by omega
      have hlen : cs.length = wd := by rw [Hcs.out]; simp [bcs, binRow, binL_length]; omega
      have hcs2 : cs = bcs (128 :: binL (wd - 1) n) := by rw [Hcs.out, hkd]; simp [binRow]
      have Hcs2 := Au.mk hcs2
      have Hkd := Au.mk hkd
      have Hlen := Au.mk hlen
      clear hlen hcs2 hkd
      have ⟨q1, q2⟩ := octal_no_big w h1 hw0 hw1 Ho.out
      by_cases hz : m < 1
      · go_wp2_with fail
        go_ret2
        refine ⟨hb2, ?_⟩
        have ho : o = some (128 :: binL (wd - 1) n) := by
          rw [← Hp.out, put_iff]
          refine ⟨by omega, by omega, by omega, .inr ⟨?_, ?_, ?_⟩⟩
          · simpa using q1
          · have := Hm.out
            rw [Hkd.out] at this
            have h0 : n / 256 ^ (wd - 1) = 0 := by omega
            have hp : 0 < 256 ^ (wd - 1) := Nat.pow_pos (by decide)
            have := (Nat.div_eq_zero_iff_lt hp).1 h0
            simpa using this
          · simp
        have hll : (128 :: binL (wd - 1) n).length = wd := by simp [binL_length]; omega
        rw [ho]
        simp only [hll]
        refine ⟨_, _, rfl, Sl.of_bytes (by rw [hll]; exact Nat.le_refl _) (by omega) fun W hW => ?_⟩
        rw [← Hcs2.out]
        exact cells_of_blk ((hW _ hb.size (lt_of_block Hb0.out)).trans Hb0.out)
      · have hz' : 0 < m := by omega
        clear hz
        go_wp2_with fail
        go_ret2
        refine ⟨hb2, ?_⟩
        have ho : o = none := by
          rw [← Hp.out]
          cases hq : put n wd with
          | none => rfl
          | some l =>
            obtain ⟨_, _, _, ⟨h, _⟩ | ⟨_, h, _⟩⟩ := put_iff.1 hq
            · exact absurd (by simpa using h) (by simpa using q1)
            · have := Hm.out
              rw [Hkd.out, Nat.div_eq_of_lt (by simpa using h)] at this
              omega
        rw [ho]
        rfl

theorem put_calls (n wide : Int) (w : World) (h0 : -9223372036854775808 ≤ n) (h1 : n < 9223372036854775808) :
    Calls Try.prog 20 #[.int .i64 n, .int .i64 wide] w (bytesOr w (put n wide)) := by
  by_cases hn : n < 0
  · have hr : put n wide = none := by unfold put; rw [if_pos (.inl hn)]
    rw [hr]
    clear hr
    go_enter Try.func20, Try.ntmps20
    go_wp2_with (first | (go_at_call 37; (with_reducible refine (width_calls _ _).mono ?_); rintro e w' ⟨rfl, rfl⟩))
    go_ret2
    exact ⟨Below.refl _ _, rfl⟩
  · by_cases hw : width wide = true
    · have hb : 2 ≤ wide ∧ wide ≤ 20 := by simpa [width] using hw
      obtain ⟨b1, b2⟩ := hb
      cases ho : octal n (wide - 1) with
      | some l =>
        have hr : put n wide = some (l ++ [0]) := by unfold put; rw [if_neg (by simp [hw]; omega), ho]
        rw [hr]
        exact put_octal w (by omega) h1 b1 b2 ho
      | none =>
        obtain ⟨n', rfl⟩ := Int.eq_ofNat_of_zero_le (by omega : 0 ≤ n)
        obtain ⟨wd, rfl⟩ := Int.eq_ofNat_of_zero_le (by omega : 0 ≤ wide)
        exact put_bin w (by omega) (by omega) (by omega) ho _ rfl
    · have hw' : width wide = false := by simpa using hw
      have hr : put n wide = none := by unfold put; rw [if_pos (.inr hw')]
      rw [hr]
      have c1 : decide (n < 0) = false := by simpa using hn
      clear hr hw
      go_enter Try.func20, Try.ntmps20
      go_wp2_with (first | (go_at_call 37; (with_reducible refine (width_calls _ _).mono ?_); rintro e w' ⟨rfl, rfl⟩))
      go_ret2
      exact ⟨Below.refl _ _, rfl⟩
end Go.Proofs.Ytejalhoaljlnhaa.Rk
