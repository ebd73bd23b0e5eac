/- Labels of volumes: plain Lean. -/
import Derived.Test.YtmjicapjkmkckaaGreatDoorGHeadD
import Derived.Lib.LastIndexLaws
import Derived.Lib.ItoaNum
import Derived.Lib.Strings
namespace Go.Proofs.YtmjicapjkmkckaaGreatDoor.Rk
open Go.RowKit
set_option linter.unusedVariables false
set_option linter.unusedSimpArgs false

def vol : List UInt8 := [32, 86, 111, 108, 117, 109, 101, 32]
def lmay (s : List UInt8) (n : Int) : Bool := !(s == []) && (decide (s.length ≤ 88) && (!s.contains 0 && (decide (1 ≤ n) && decide (n ≤ 999))))
theorem lmay_iff {s : List UInt8} {n : Int} : lmay s n = true ↔ s ≠ [] ∧ s.length ≤ 88 ∧ (0 : UInt8) ∉ s ∧ 1 ≤ n ∧ n ≤ 999 := by simp [lmay]
/-- A number's digits, of at most three. -/
theorem dec_lt {u : Nat} (h : u < 1000) : (u < 10 ∧ Lib.decDigits u = [UInt8.ofNat (48 + u)]) ∨ (10 ≤ u ∧ u < 100 ∧ Lib.decDigits u = [UInt8.ofNat (48 + u / 10), UInt8.ofNat (48 + u % 10)]) ∨
    (100 ≤ u ∧ Lib.decDigits u = [UInt8.ofNat (48 + u / 100), UInt8.ofNat (48 + u / 10 % 10), UInt8.ofNat (48 + u % 10)]) := by
  by_cases h1 : u < 10
  · exact .inl ⟨h1, by rw [Lib.decDigits, dif_pos h1]⟩
  · by_cases h2 : u < 100
    · refine .inr (.inl ⟨by omega, h2, ?_⟩)
      rw [Lib.decDigits, dif_neg h1, Lib.decDigits, dif_pos (by omega)]
      rfl
    · refine .inr (.inr ⟨by omega, ?_⟩)
      rw [Lib.decDigits, dif_neg h1, Lib.decDigits, dif_neg (by omega), Lib.decDigits, dif_pos (by omega), Nat.div_div_eq_div_mul]
      rfl
def lname (s : List UInt8) (n : Int) : List UInt8 := s ++ vol ++ Lib.itoa n
def hdL (s : List UInt8) (n : Int) : Hd := ⟨lname s n, [], [], 0, 0, 0, 0, 0, 86, 0, 0⟩
def lput (s : List UInt8) (n : Int) : Option (List UInt8) := if lmay s n then hput (hdL s n) else none
theorem itoa_pos {n : Int} (h : 1 ≤ n) : Lib.itoa n = Lib.decDigits n.toNat := by unfold Lib.itoa; rw [if_neg (by omega)]
theorem digit_byte {k : Nat} (h : k < 10) : (UInt8.ofNat (48 + k)).toNat = 48 + k := by simp; omega
theorem itoa_digits {n : Int} (h1 : 1 ≤ n) (h2 : n ≤ 999) : 1 ≤ (Lib.itoa n).length ∧ (Lib.itoa n).length ≤ 3 ∧ ∀ c ∈ Lib.itoa n, 48 ≤ c.toNat ∧ c.toNat ≤ 57 := by
  rw [itoa_pos h1]
  rcases dec_lt (u := n.toNat) (by omega) with ⟨a, e⟩ | ⟨a, b, e⟩ | ⟨a, e⟩ <;> rw [e]
  · refine ⟨by simp, by simp, ?_⟩
    intro c hc
    simp only [List.mem_singleton] at hc
    subst hc
    rw [digit_byte (by omega)]; omega
  · refine ⟨by simp, by simp, ?_⟩
    intro c hc
    simp only [List.mem_cons, List.not_mem_nil, or_false] at hc
    rcases hc with rfl | rfl <;> rw [digit_byte (by omega)] <;> omega
  · refine ⟨by simp, by simp, ?_⟩
    intro c hc
    simp only [List.mem_cons, List.not_mem_nil, or_false] at hc
    rcases hc with rfl | rfl | rfl <;> rw [digit_byte (by omega)] <;> omega
theorem hdL_R (s : List UInt8) (n : Int) : (hdL s n).R := by
  have z : R64 0 := ⟨by decide, by decide⟩
  exact ⟨z, z, z, z, z, z, z⟩
theorem hdL_fits {s : List UInt8} {n : Int} (h : lmay s n = true) : Fits (hdL s n) := by
  obtain ⟨h1, h2, h3, h4, h5⟩ := lmay_iff.1 h
  obtain ⟨d1, d2, d3⟩ := itoa_digits h4 h5
  have p8 : ∃ l, put 0 8 = some l := ⟨[48, 48, 48, 48, 48, 48, 48, 0], by decide⟩
  have p12 : ∃ l, put 0 12 = some l := ⟨[48, 48, 48, 48, 48, 48, 48, 48, 48, 48, 48, 0], by decide⟩
  refine ⟨?_, (show tyOk 86 = true by decide), ?_, ?_, by simp [hdL], by simp [hdL], p8, p8, p8, p12, p12, fun h => by simp [hdL] at h, fun _ => ⟨rfl, rfl, by simp [hdL], by simp [hdL]⟩⟩
  · simp [hdL, lname, vol]
  · show (s ++ vol ++ Lib.itoa n).length ≤ 100
    simp only [List.length_append]
    have : vol.length = 8 := rfl
    omega
  · show (0 : UInt8) ∉ s ++ vol ++ Lib.itoa n
    intro h0
    simp only [List.mem_append] at h0
    rcases h0 with (h0 | h0) | h0
    · exact h3 h0
    · exact absurd h0 (by decide)
    · have := d3 0 h0; simp at this
theorem lput_yes {s : List UInt8} {n : Int} (h : lmay s n = true) : lput s n = some (blockOf (hdL s n)) := by
  unfold lput hput
  rw [if_pos h, if_pos ((fits_iff _).2 (hdL_fits h))]
theorem lput_no {s : List UInt8} {n : Int} (h : lmay s n = false) : lput s n = none := by unfold lput; rw [h]; rfl
/-! ### a label's name tells it -/
theorem lname_inj {s t : List UInt8} {n m : Int} (hs : lmay s n = true) (ht : lmay t m = true) (h : lname s n = lname t m) : s = t ∧ Lib.itoa n = Lib.itoa m := by
  obtain ⟨_, _, _, a4, a5⟩ := lmay_iff.1 hs
  obtain ⟨_, _, _, b4, b5⟩ := lmay_iff.1 ht
  obtain ⟨d1, d2, d3⟩ := itoa_digits a4 a5
  obtain ⟨f1, f2, f3⟩ := itoa_digits b4 b5
  have key : ∀ (s t x y : List UInt8), s ++ vol ++ x = t ++ vol ++ y → 1 ≤ x.length → x.length < y.length → (∀ c ∈ y, 48 ≤ c.toNat ∧ c.toNat ≤ 57) → False := by
    intro s t x y e hx hlt hd
    have hl := congrArg List.length e
    simp only [List.length_append] at hl
    have hv : vol.length = 8 := rfl
    rw [hv] at hl
    have e2 : (s ++ vol ++ x)[s.length + 7]? = (t ++ vol ++ y)[s.length + 7]? := by rw [e]
    have l1 : (s ++ vol ++ x)[s.length + 7]? = some 32 := by
      rw [List.append_assoc, List.getElem?_append_right (by omega), show s.length + 7 - s.length = 7 by omega]
      rfl
    have l2 : (t ++ vol ++ y)[s.length + 7]? = y[s.length + 7 - (t.length + 8)]? := by
      rw [List.getElem?_append_right (by simp [hv]; omega)]
      simp [hv]
    rw [l1, l2] at e2
    have := hd 32 (List.mem_of_getElem? e2.symm)
    simp at this
  have hlen : (Lib.itoa n).length = (Lib.itoa m).length := by
    rcases Nat.lt_trichotomy (Lib.itoa n).length (Lib.itoa m).length with h1 | h1 | h1
    · exact (key _ _ _ _ h d1 h1 f3).elim
    · exact h1
    · exact (key _ _ _ _ h.symm f1 h1 d3).elim
  unfold lname at h
  have h2 := List.append_inj' h hlen
  exact ⟨List.append_cancel_right h2.1, h2.2⟩
end Go.Proofs.YtmjicapjkmkckaaGreatDoor.Rk
