/- Walks: num.Octal. -/
import Derived.Test.YtejalhoaljlnhaaProg
import Derived.Test.YtejalhoaljlnhaaBase
import Derived.Test.YtejalhoaljlnhaaNumS
namespace Go.Proofs.Ytejalhoaljlnhaa.Rk
open Go.RowKit
set_option linter.unusedVariables false
set_option linter.unusedSimpArgs false

theorem etBytes : ET Try.prog 22 5 (.int .u8 0) 1 1 := ⟨Try.underlying22, by kernel_rfl, rfl, by decide⟩

theorem i64_and7 (n : Int) (h0 : 0 ≤ n) (h1 : n < 9223372036854775808) : bits .and .i64 n 7 = n % 8 := by
  have h := bits_mask .i64 63 (by decide) (fun m a b => by rw [show (2 : Int) ^ 63 = 9223372036854775808 from by decide] at b; rw [IntKind.wrap_i64]; omega) 3 (by decide) n h0 (by rw [show (2 : Int) ^ 63 = 9223372036854775808 from by decide]; exact h1)
  rw [show (2 : Int) ^ 3 - 1 = 7 from by decide, show (2 : Int) ^ 3 = 8 from by decide] at h
  exact h

theorem next_calls (p : Addr) (n : Int) (w : World) (hc : w.cell? p = some (.int .i64 n)) (hf : w.frozen? p = false) (h0 : 0 ≤ n) (h1 : n < 9223372036854775808) :
    Calls Try.prog 36 #[.pointer (some p)] w fun e w' => e = .returned (.int .u8 (48 + n % 8)) ∧ w' = w.setCell p (.int .i64 (n / 8)) := by
  have H := i64_and7 n h0 h1
  go_enter Try.func36, Try.ntmps36
  go_wp2
  go_ret
  refine ⟨?_, rfl⟩
  have e : (48 + n % 8 % 256) % 256 = 48 + n % 8 := by omega
  first | rw [e] | (simp [e])


def octRow (d i n : Nat) : List UInt8 := List.replicate (d - i) 0 ++ octL i n
theorem octRow_step (d i n : Nat) (h : i < d) : (octRow d i n).set (d - 1 - i) (UInt8.ofNat (48 + n / 8 ^ i % 8)) = octRow d (i + 1) n := by
  unfold octRow
  have e : d - i = (d - (i + 1)) + 1 := by omega
  rw [e, List.replicate_succ', List.append_assoc, List.set_append_right _ _ (by simp; omega)]
  simp [octL, show d - 1 - i - (d - (i + 1)) = 0 from by omega]

theorem octal_walk (n d : Nat) (w : World) (h1 : n < 9223372036854775808) (hd0 : 1 ≤ d) (hd1 : d ≤ 20) :
    Calls Try.prog 18 #[.int .i64 n, .int .i64 (d : Int)] w fun e w' =>
      e = .returned (strOr (octal n d)) ∧ Below w.heap.size w w' := by
  have km := make_bytes etBytes d (by omega)
  have c1 : decide ((n : Int) < 0) = false := by simp
  have c2 : decide ((d : Int) < 1) = false := by simp; omega
  have c3 : decide ((20 : Int) < d) = false := by simp; omega
  go_enter Try.func18, Try.ntmps18
  go_wp2_with fail
  clear c2 c3 km
  go_loopw [25] (fun i wr => ∃ k m : Nat, ∃ cs : List Value, k ≤ d ∧ i = .int .i64 k ∧ Au (m = n / 8 ^ k) ∧ Au (cs = bcs (octRow d k n)) ∧ Au (wr.heap[w.heap.size]? = some (.cells cs.toArray 5 (0, 0))) ∧ wr.heap[w.heap.size + 1]? = some (.cells #[.int .i64 (m : Int)] 3 (0, 0)) ∧ Below w.heap.size w wr) (fun i _ => d - (intOf i).toNat)
  case atStart =>
    refine ⟨0, n, bcs (List.replicate d 0), Nat.zero_le _, rfl, ⟨(Nat.div_one n).symm⟩, ⟨by simp [octRow, octL]⟩, ⟨?_⟩, ?_, ?_⟩
    · rw [Below.heap_alloc _ _ _ (by simp), heap_alloc_new]
    · rw [show w.heap.size + 1 = (w.alloc (.cells (bcs (List.replicate d 0)).toArray 5)).heap.size from by simp, heap_alloc_new]
    · exact ((Below.refl _ _).alloc (Nat.le_refl _) _).alloc (by simp) _
  case round =>
    obtain ⟨k, m, cs, hk, rfl, ⟨hm⟩, ⟨hcs⟩, ⟨hb0⟩, hb1, hb⟩ := hrel
    have hle : m < 9223372036854775808 := by have := Nat.div_le_self n (8 ^ k); omega
    have hln : cs.length = d := by rw [hcs]; simp [bcs, octRow, octL_length]; omega
    have Hm := Au.mk hm
    have Hcs := Au.mk hcs
    have Hb0 := Au.mk hb0
    have q1 := cell_of_one hb1
    have q2 := free_of_one hb1
    clear hm hcs
    by_cases hlt : k < d
    · obtain ⟨v, hv⟩ : ∃ v, cs[d - 1 - k]? = some v := ⟨_, List.getElem?_eq_getElem (by omega)⟩
      have q3 := blk_cell hb0 (d - 1 - k) hv
      have q4 := blk_free hb0 (d - 1 - k)
      clear hln hb0 hv
      go_wp2_with (go_at_call 36; refine (next_calls _ (m : Int) _ q1 q2 (Int.natCast_nonneg _) (by omega)).mono ?_; rintro e w' ⟨rfl, rfl⟩)
      go_roundw
      case rel =>
        refine ⟨k + 1, m / 8, cs.set (d - 1 - k) (.int .u8 (48 + m % 8)), by omega, by go_num, ⟨?_⟩, ⟨?_⟩, ⟨?_⟩, ?_, ?_⟩
        · rw [Hm.out, Nat.div_div_eq_div_mul, Nat.pow_succ]
        · rw [Hcs.out, ← octRow_step d k n (by omega), bcs, bcs, List.map_set, ← Hm.out]
          congr 2
          simp; omega
        · exact blk_set (blk_far Hb0.out (by simp) _) _ _
        · exact blk_far (one_setCell hb1) (by simp) _
        · exact (hb.setCell (by simp) _).setCell (by simp) _
      case measure => simp [intOf]; omega
    · have hkd : k = d := by omega
      subst hkd
      obtain ⟨l, hl, hll⟩ : ∃ l, l = octL k n ∧ cs = bcs l := ⟨_, rfl, by rw [Hcs.out]; simp [octRow]⟩
      subst hll
      have kc := bytes_str (dst := 9) Try.underlying22 Try.underlying5 Try.underlying9 (cells_of_blk hb0) k k (by simpa [bcs] using hln.symm)
      have HL := Au.mk hl
      clear hl hln hb0
      by_cases hz : m < 1
      · go_wp2_with fail
        go_ret2
        refine ⟨?_, hb⟩
        rw [octal_some hd0 hd1 (by rw [← Hm.out]; omega), ← HL.out]
        rfl
      · have hz' : 0 < m := by omega
        clear hz
        go_wp2_with fail
        go_ret2
        refine ⟨?_, hb⟩
        rw [octal_none (by rw [← Hm.out]; omega)]
        rfl

theorem octal_calls (n d : Int) (w : World) (h0 : -9223372036854775808 ≤ n) (h1 : n < 9223372036854775808) :
    Calls Try.prog 18 #[.int .i64 n, .int .i64 d] w fun e w' => e = .returned (strOr (octal n d)) ∧ Below w.heap.size w w' := by
  by_cases hn : n < 0
  · have hr : octal n d = none := by unfold octal; rw [if_pos (.inl hn)]
    rw [hr]
    have c1 : decide (n < 0) = true := by simpa using hn
    clear hr
    go_enter Try.func18, Try.ntmps18
    go_wp2_with fail
    go_ret2
    exact ⟨rfl, Below.refl _ _⟩
  · by_cases hd : d < 1
    · have hr : octal n d = none := by unfold octal; rw [if_pos (.inr (.inl hd))]
      rw [hr]
      have c1 : decide (n < 0) = false := by simpa using hn
      have c2 : decide (d < 1) = true := by simpa using hd
      clear hr
      go_enter Try.func18, Try.ntmps18
      go_wp2_with fail
      go_ret2
      exact ⟨rfl, Below.refl _ _⟩
    · by_cases he : 20 < d
      · have hr : octal n d = none := by unfold octal; rw [if_pos (.inr (.inr (.inl he)))]
        rw [hr]
        have c1 : decide (n < 0) = false := by simpa using hn
        have c2 : decide (d < 1) = false := by simpa using hd
        have c3 : decide (20 < d) = true := by simpa using he
        clear hr
        go_enter Try.func18, Try.ntmps18
        go_wp2_with fail
        go_ret2
        exact ⟨rfl, Below.refl _ _⟩
      · obtain ⟨n', rfl⟩ := Int.eq_ofNat_of_zero_le (by omega : 0 ≤ n)
        obtain ⟨d', rfl⟩ := Int.eq_ofNat_of_zero_le (by omega : 0 ≤ d)
        exact octal_walk n' d' w (by omega) (by omega) (by omega)
end Go.Proofs.Ytejalhoaljlnhaa.Rk
