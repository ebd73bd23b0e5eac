/- Labels of volumes, walked: number. -/
import Derived.Test.YtmjicapjkmkckaaGreatDoorLabC
import Derived.Lib.OthersKept
import Derived.Laws.RangeAny
namespace Go.Proofs.YtmjicapjkmkckaaGreatDoor.Rk
open Go.RowKit
set_option linter.unusedVariables false
set_option linter.unusedSimpArgs false
set_option maxRecDepth 100000

theorem decode_high (s : ByteArray) (pos : Nat) (h : pos < s.size) (ha : 128 ≤ (s[pos]'h).toNat) : 128 ≤ (Utf8.decode s pos).1 := by
  have hg : s.get! (pos + 0) = s[pos] := by
    rw [Nat.add_zero]
    simp [ByteArray.get!, h]
    rfl
  unfold Utf8.decode
  dsimp only
  have ha' : 128 ≤ (s.get! (pos + 0)).toNat := by rw [hg]; exact ha
  rw [if_neg (by omega)]
  repeat' split
  all_goals first | (show 128 ≤ 65533; decide) | (simp only [Bool.and_eq_true, decide_eq_true_eq] at *; omega)
theorem more_calls (r n : Int) (p : Addr) (w : World) (hc : w.cell? p = some (.int .i64 n)) (hf : w.frozen? p = false) (h0 : 0 ≤ n) (h1 : n ≤ 9999) :
    Calls Tryz.prog 102 #[.int .i32 r, .pointer (some p)] w fun e w' => if r < 48 ∨ 57 < r ∨ 999 < n then e = .returned (.bool false) ∧ w' = w else e = .returned (.bool true) ∧ w' = w.setCell p (.int .i64 (10 * n + (r - 48))) := by
  by_cases c1 : r < 48
  · rw [show (fun (e : Ending) (w' : World) => if r < 48 ∨ 57 < r ∨ 999 < n then e = .returned (.bool false) ∧ w' = w else e = .returned (.bool true) ∧ w' = w.setCell p (.int .i64 (10 * n + (r - 48)))) = fun e w' => e = .returned (.bool false) ∧ w' = w from by funext e w'; rw [if_pos (.inl c1)]]
    go_enter Tryz.func102, Tryz.ntmps102
    go_wp2_with fail
    go_ret
    exact ⟨rfl, rfl⟩
  · by_cases c2 : 57 < r
    · rw [show (fun (e : Ending) (w' : World) => if r < 48 ∨ 57 < r ∨ 999 < n then e = .returned (.bool false) ∧ w' = w else e = .returned (.bool true) ∧ w' = w.setCell p (.int .i64 (10 * n + (r - 48)))) = fun e w' => e = .returned (.bool false) ∧ w' = w from by funext e w'; rw [if_pos (.inr (.inl c2))]]
      have d1 : decide (r < 48) = false := by simpa using c1
      go_enter Tryz.func102, Tryz.ntmps102
      go_wp2_with fail
      go_ret
      exact ⟨rfl, rfl⟩
    · have d1 : decide (r < 48) = false := by simpa using c1
      have d2 : decide (57 < r) = false := by simpa using c2
      by_cases c3 : 999 < n
      · rw [show (fun (e : Ending) (w' : World) => if r < 48 ∨ 57 < r ∨ 999 < n then e = .returned (.bool false) ∧ w' = w else e = .returned (.bool true) ∧ w' = w.setCell p (.int .i64 (10 * n + (r - 48)))) = fun e w' => e = .returned (.bool false) ∧ w' = w from by funext e w'; rw [if_pos (.inr (.inr c3))]]
        go_enter Tryz.func102, Tryz.ntmps102
        go_wp2_with fail
        go_ret
        exact ⟨rfl, rfl⟩
      · rw [show (fun (e : Ending) (w' : World) => if r < 48 ∨ 57 < r ∨ 999 < n then e = .returned (.bool false) ∧ w' = w else e = .returned (.bool true) ∧ w' = w.setCell p (.int .i64 (10 * n + (r - 48)))) = fun e w' => e = .returned (.bool true) ∧ w' = w.setCell p (.int .i64 (10 * n + (r - 48))) from by funext e w'; rw [if_neg (by omega)]]
        have d3 : decide (999 < n) = false := by simpa using c3
        have w1 : IntKind.i32.wrap (r - 48) = r - 48 := by rw [IntKind.wrap_i32]; omega
        have w2 : IntKind.i64.wrap (r - 48) = r - 48 := by rw [IntKind.wrap_i64]; omega
        have w3 : IntKind.i64.wrap (10 * n) = 10 * n := by rw [IntKind.wrap_i64]; omega
        have w4 : IntKind.i64.wrap (10 * n + (r - 48)) = 10 * n + (r - 48) := by rw [IntKind.wrap_i64]; omega
        go_enter Tryz.func102, Tryz.ntmps102
        go_wp2_with fail
        go_ret
        exact ⟨rfl, rfl⟩
end Go.Proofs.YtmjicapjkmkckaaGreatDoor.Rk
