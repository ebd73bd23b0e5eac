/- LabS: LabA LabB -/
import Derived.Test.YtldhcknjpmbgnaaGreatDoorGHeadD
import Derived.Lib.LastIndexLaws
import Derived.Lib.ItoaNum
import Derived.Lib.Strings
/- Labels of volumes: plain Lean. -/
namespace Go.Proofs.YtldhcknjpmbgnaaGreatDoor.Rk
open Go.RowKit
set_option linter.unusedVariables false
set_option linter.unusedSimpArgs false

def vol : List UInt8 := [32, 86, 111, 108, 117, 109, 101, 32]
def lmay (s : List UInt8) (n : Int) : Bool := !(s == []) && (decide (s.length ≤ 88) && (!s.contains 0 && (decide (1 ≤ n) && decide (n ≤ 999))))
theorem lmay_iff {s : List UInt8} {n : Int} : lmay s n = true ↔ s ≠ [] ∧ s.length ≤ 88 ∧ (0 : UInt8) ∉ s ∧ 1 ≤ n ∧ n ≤ 999 := by simp [lmay]
/-- A number's digits, of at most three. -/
theorem dec_lt {u : Nat} (h : u < 1000) : (u < 10 ∧ Lib.decDigits u = [UInt8.ofNat (48 + u)]) ∨ (10 ≤ u ∧ u < 100 ∧ Lib.decDigits u = [UInt8.ofNat (48 + u / 10), UInt8.ofNat (48 + u % 10)]) ∨
    (100 ≤ u ∧ Lib.decDigits u = [UInt8.ofNat (48 + u / 100), UInt8.ofNat (48 + u / 10 % 10), UInt8.ofNat (48 + u % 10)]) := by
  by_cases h1 : u < 10
  · exact .inl ⟨h1, by rw [Lib.decDigits, dif_pos h1]⟩
  · by_cases h2 : u < 100
    · refine .inr (.inl ⟨by omega, h2, ?_⟩)
      rw [Lib.decDigits, dif_neg h1, Lib.decDigits, dif_pos (by omega)]
      rfl
    · refine .inr (.inr ⟨by omega, ?_⟩)
      rw [Lib.decDigits, dif_neg h1, Lib.decDigits, dif_neg (by omega), Lib.decDigits, dif_pos (by omega), Nat.div_div_eq_div_mul]
      rfl
def lname (s : List UInt8) (n : Int) : List UInt8 := s ++ vol ++ Lib.itoa n
def hdL (s : List UInt8) (n : Int) : Hd := ⟨lname s n, [], [], 0, 0, 0, 0, 0, 86, 0, 0⟩
def lput (s : List UInt8) (n : Int) : Option (List UInt8) := if lmay s n then hput (hdL s n) else none
theorem itoa_pos {n : Int} (h : 1 ≤ n) : Lib.itoa n = Lib.decDigits n.toNat := by unfold Lib.itoa; rw [if_neg (by omega)]
theorem digit_byte {k : Nat} (h : k < 10) : (UInt8.ofNat (48 + k)).toNat = 48 + k := by simp; omega
theorem itoa_digits {n : Int} (h1 : 1 ≤ n) (h2 : n ≤ 999) : 1 ≤ (Lib.itoa n).length ∧ (Lib.itoa n).length ≤ 3 ∧ ∀ c ∈ Lib.itoa n, 48 ≤ c.toNat ∧ c.toNat ≤ 57 := by
  rw [itoa_pos h1]
  rcases dec_lt (u := n.toNat) (by omega) with ⟨a, e⟩ | ⟨a, b, e⟩ | ⟨a, e⟩ <;> rw [e]
  · refine ⟨by simp, by simp, ?_⟩
    intro c hc
    simp only [List.mem_singleton] at hc
    subst hc
    rw [digit_byte (by omega)]; omega
  · refine ⟨by simp, by simp, ?_⟩
    intro c hc
    simp only [List.mem_cons, List.not_mem_nil, or_false] at hc
    rcases hc with rfl | rfl <;> rw [digit_byte (by omega)] <;> omega
  · refine ⟨by simp, by simp, ?_⟩
    intro c hc
    simp only [List.mem_cons, List.not_mem_nil, or_false] at hc
    rcases hc with rfl | rfl | rfl <;> rw [digit_byte (by omega)] <;> omega
theorem hdL_R (s : List UInt8) (n : Int) : (hdL s n).R := by
  have z : R64 0 := ⟨by decide, by decide⟩
  exact ⟨z, z, z, z, z, z, z⟩
theorem hdL_fits {s : List UInt8} {n : Int} (h : lmay s n = true) : Fits (hdL s n) := by
  obtain ⟨h1, h2, h3, h4, h5⟩ := lmay_iff.1 h
  obtain ⟨d1, d2, d3⟩ := itoa_digits h4 h5
  have p8 : ∃ l, put 0 8 = some l := ⟨[48, 48, 48, 48, 48, 48, 48, 0], by decide⟩
  have p12 : ∃ l, put 0 12 = some l := ⟨[48, 48, 48, 48, 48, 48, 48, 48, 48, 48, 48, 0], by decide⟩
  refine ⟨?_, (show tyOk 86 = true by decide), ?_, ?_, by simp [hdL], by simp [hdL], p8, p8, p8, p12, p12, fun h => by simp [hdL] at h, fun _ => ⟨rfl, rfl, by simp [hdL], by simp [hdL]⟩⟩
  · simp [hdL, lname, vol]
  · show (s ++ vol ++ Lib.itoa n).length ≤ 100
    simp only [List.length_append]
    have : vol.length = 8 := rfl
    omega
  · show (0 : UInt8) ∉ s ++ vol ++ Lib.itoa n
    intro h0
    simp only [List.mem_append] at h0
    rcases h0 with (h0 | h0) | h0
    · exact h3 h0
    · exact absurd h0 (by decide)
    · have := d3 0 h0; simp at this
theorem lput_yes {s : List UInt8} {n : Int} (h : lmay s n = true) : lput s n = some (blockOf (hdL s n)) := by
  unfold lput hput
  rw [if_pos h, if_pos ((fits_iff _).2 (hdL_fits h))]
theorem lput_no {s : List UInt8} {n : Int} (h : lmay s n = false) : lput s n = none := by unfold lput; rw [h]; rfl
/-! ### a label's name tells it -/
theorem lname_inj {s t : List UInt8} {n m : Int} (hs : lmay s n = true) (ht : lmay t m = true) (h : lname s n = lname t m) : s = t ∧ Lib.itoa n = Lib.itoa m := by
  obtain ⟨_, _, _, a4, a5⟩ := lmay_iff.1 hs
  obtain ⟨_, _, _, b4, b5⟩ := lmay_iff.1 ht
  obtain ⟨d1, d2, d3⟩ := itoa_digits a4 a5
  obtain ⟨f1, f2, f3⟩ := itoa_digits b4 b5
  have key : ∀ (s t x y : List UInt8), s ++ vol ++ x = t ++ vol ++ y → 1 ≤ x.length → x.length < y.length → (∀ c ∈ y, 48 ≤ c.toNat ∧ c.toNat ≤ 57) → False := by
    intro s t x y e hx hlt hd
    have hl := congrArg List.length e
    simp only [List.length_append] at hl
    have hv : vol.length = 8 := rfl
    rw [hv] at hl
    have e2 : (s ++ vol ++ x)[s.length + 7]? = (t ++ vol ++ y)[s.length + 7]? := by rw [e]
    have l1 : (s ++ vol ++ x)[s.length + 7]? = some 32 := by
      rw [List.append_assoc, List.getElem?_append_right (by omega), show s.length + 7 - s.length = 7 by omega]
      rfl
    have l2 : (t ++ vol ++ y)[s.length + 7]? = y[s.length + 7 - (t.length + 8)]? := by
      rw [List.getElem?_append_right (by simp [hv]; omega)]
      simp [hv]
    rw [l1, l2] at e2
    have := hd 32 (List.mem_of_getElem? e2.symm)
    simp at this
  have hlen : (Lib.itoa n).length = (Lib.itoa m).length := by
    rcases Nat.lt_trichotomy (Lib.itoa n).length (Lib.itoa m).length with h1 | h1 | h1
    · exact (key _ _ _ _ h d1 h1 f3).elim
    · exact h1
    · exact (key _ _ _ _ h.symm f1 h1 d3).elim
  unfold lname at h
  have h2 := List.append_inj' h hlen
  exact ⟨List.append_cancel_right h2.1, h2.2⟩
end Go.Proofs.YtldhcknjpmbgnaaGreatDoor.Rk
/- Labels of volumes: what is got of a block. Plain Lean. -/
namespace Go.Proofs.YtldhcknjpmbgnaaGreatDoor.Rk
open Go.RowKit
set_option linter.unusedVariables false
set_option linter.unusedSimpArgs false

def numAcc : List UInt8 → Int → Int
  | [], n => n
  | c :: l, n => if c.toNat < 48 ∨ 57 < c.toNat ∨ 999 < n then 0 else numAcc l (10 * n + ((c.toNat : Int) - 48))
def numL (l : List UInt8) : Int := numAcc l 0
theorem numAcc_le : ∀ (l : List UInt8) (n : Int), 0 ≤ n → n ≤ 9999 → 0 ≤ numAcc l n ∧ numAcc l n ≤ 9999
  | [], n, h0, h1 => ⟨h0, h1⟩
  | c :: l, n, h0, h1 => by
    unfold numAcc
    split
    · exact ⟨by decide, by decide⟩
    · exact numAcc_le l _ (by omega) (by omega)
theorem numL_R64 (l : List UInt8) : R64 (numL l) := by
  have := numAcc_le l 0 (by decide) (by decide)
  exact ⟨by unfold numL; omega, by unfold numL; omega⟩
theorem numL_itoa {n : Int} (h1 : 1 ≤ n) (h2 : n ≤ 999) : numL (Lib.itoa n) = n := by
  rw [itoa_pos h1]
  obtain ⟨u, rfl⟩ := Int.eq_ofNat_of_zero_le (by omega : 0 ≤ n)
  rw [Int.toNat_natCast]
  have step : ∀ (k : Nat) (l : List UInt8) (m : Int), k < 10 → m ≤ 999 → numAcc (UInt8.ofNat (48 + k) :: l) m = numAcc l (10 * m + (k : Int)) := by
    intro k l m hk hm
    rw [numAcc, digit_byte hk, if_neg (by omega)]
    rw [show ((48 + k : Nat) : Int) - 48 = (k : Int) by omega]
  unfold numL
  rcases dec_lt (u := u) (by omega) with ⟨a, e⟩ | ⟨a, b, e⟩ | ⟨a, e⟩ <;> rw [e]
  · rw [step _ _ _ a (by decide)]; simp [numAcc]
  · rw [step _ _ _ (by omega) (by decide), step _ _ _ (by omega) (by omega)]; simp only [numAcc]; omega
  · rw [step _ _ _ (by omega) (by decide), step _ _ _ (by omega) (by omega), step _ _ _ (by omega) (by omega)]; simp only [numAcc]; omega
theorem itoa_inj {n m : Int} (h1 : 1 ≤ n) (h2 : n ≤ 999) (k1 : 1 ≤ m) (k2 : m ≤ 999) (h : Lib.itoa n = Lib.itoa m) : n = m := by
  rw [← numL_itoa h1 h2, h, numL_itoa k1 k2]
theorem lput_inj {s t : List UInt8} {n m : Int} {b : List UInt8} (h : lput s n = some b) (k : lput t m = some b) : s = t ∧ n = m := by
  have hs : lmay s n = true := by
    cases e : lmay s n with
    | true => rfl
    | false => rw [lput_no e] at h; cases h
  have ht : lmay t m = true := by
    cases e : lmay t m with
    | true => rfl
    | false => rw [lput_no e] at k; cases k
  rw [lput_yes hs] at h
  rw [lput_yes ht] at k
  have e : blockOf (hdL s n) = blockOf (hdL t m) := by
    injection h with h; injection k with k; rw [h, k]
  have e2 := (block_inj (hdL_R s n) (hdL_R t m) (hdL_fits hs) (hdL_fits ht)).1 e
  have e3 : lname s n = lname t m := congrArg Hd.name e2
  obtain ⟨e4, e5⟩ := lname_inj hs ht e3
  obtain ⟨_, _, _, a4, a5⟩ := lmay_iff.1 hs
  obtain ⟨_, _, _, b4, b5⟩ := lmay_iff.1 ht
  exact ⟨e4, itoa_inj a4 a5 b4 b5 e5⟩
def lastV (l : List UInt8) : Nat := (max 0 (Lib.lastIndex l vol)).toNat
def labOf (l : List UInt8) : List UInt8 := l.take (lastV l)
def digOf (l : List UInt8) : List UInt8 := Lib.trimPrefix (l.drop (lastV l)) vol
/-- The label and the number of a block, or why not. -/
def lget (b : List UInt8) : List UInt8 × Int × Int :=
  if (hget b).2 = 0 then
    if lput (labOf (hget b).1.name) (numL (digOf (hget b).1.name)) = some b then (labOf (hget b).1.name, numL (digOf (hget b).1.name), 0) else ([], 0, 11)
  else ([], 0, (hget b).2)
theorem vol_at {s d : List UInt8} (hd : ∀ c ∈ d, 48 ≤ c.toNat ∧ c.toNat ≤ 57) : Lib.lastIndex (s ++ vol ++ d) vol = (s.length : Int) := by
  have hv : vol.length = 8 := rfl
  have hl : (s ++ vol ++ d).length = s.length + 8 + d.length := by simp only [List.length_append, hv]
  unfold Lib.lastIndex
  rw [if_pos (by rw [hl, hv]; omega), hl, hv]
  have hocc : Lib.occAt (s ++ vol ++ d) vol s.length = true := by
    unfold Lib.occAt
    rw [List.append_assoc, List.drop_left]
    simp
  have hno : ∀ j, s.length < j → j < s.length + 8 + d.length - 8 + 1 → Lib.occAt (s ++ vol ++ d) vol j = false := by
    intro j h1 h2
    cases e : Lib.occAt (s ++ vol ++ d) vol j with
    | false => rfl
    | true =>
      exfalso
      unfold Lib.occAt at e
      rw [List.isPrefixOf_iff_prefix] at e
      obtain ⟨t, ht⟩ := e
      have g0 : (s ++ vol ++ d)[j]? = some 32 := by
        have := congrArg (fun l => l[0]?) ht
        simp only [List.getElem?_drop] at this
        rw [Nat.add_zero] at this
        rw [← this]; rfl
      have g1 : (s ++ vol ++ d)[j + 1]? = some 86 := by
        have := congrArg (fun l => l[1]?) ht
        simp only [List.getElem?_drop] at this
        rw [← this]; rfl
      have at2 : ∀ k, s.length + 8 ≤ k → (s ++ vol ++ d)[k]? = d[k - (s.length + 8)]? := fun k hk => by
        rw [List.getElem?_append_right (by simp [hv]; omega)]; simp [hv]
      have at1 : ∀ k, k < 8 → (s ++ vol ++ d)[s.length + k]? = vol[k]? := fun k hk => by
        rw [List.getElem?_append_left (by simp [hv]; omega), List.getElem?_append_right (by omega)]; congr 1; omega
      by_cases h3 : s.length + 8 ≤ j
      · rw [at2 j h3] at g0
        have := hd 32 (List.mem_of_getElem? g0)
        simp at this
      · by_cases h4 : j = s.length + 7
        · rw [h4, show s.length + 7 + 1 = s.length + 8 by omega, at2 _ (by omega)] at g1
          have := hd 86 (List.mem_of_getElem? g1)
          simp at this
        · obtain ⟨k, rfl⟩ : ∃ k, j = s.length + k := ⟨j - s.length, by omega⟩
          rw [at1 k (by omega)] at g0
          have hk : k = 1 ∨ k = 2 ∨ k = 3 ∨ k = 4 ∨ k = 5 ∨ k = 6 := by omega
          rcases hk with rfl | rfl | rfl | rfl | rfl | rfl <;> simp [vol] at g0
  rcases Lib.lastOcc_spec (s ++ vol ++ d) vol (s.length + 8 + d.length - 8 + 1) with ⟨_, hn⟩ | ⟨i, hi, e, hc, hn⟩
  · have := hn s.length (by omega)
    rw [hocc] at this; cases this
  · rw [e]
    rcases Nat.lt_trichotomy i s.length with h1 | h1 | h1
    · have := hn s.length h1 (by omega)
      rw [hocc] at this; cases this
    · rw [h1]
    · rw [hno i h1 hi] at hc; cases hc
theorem name_parts {s : List UInt8} {n : Int} (h : lmay s n = true) : labOf (lname s n) = s ∧ numL (digOf (lname s n)) = n := by
  obtain ⟨_, _, _, a4, a5⟩ := lmay_iff.1 h
  obtain ⟨_, _, d3⟩ := itoa_digits a4 a5
  have hi : lastV (lname s n) = s.length := by
    unfold lastV lname
    rw [vol_at d3]; omega
  constructor
  · unfold labOf
    rw [hi, lname, List.append_assoc, List.take_left]
  · unfold digOf
    rw [hi, lname, List.append_assoc, List.drop_left]
    unfold Lib.trimPrefix Lib.hasPrefix
    rw [if_pos (by simp), List.drop_left]
    exact numL_itoa a4 a5
/-- What is put is got; nothing else is. -/
theorem lget_put {s : List UInt8} {n : Int} {b : List UInt8} (h : lput s n = some b) : lget b = (s, n, 0) := by
  have hs : lmay s n = true := by
    cases e : lmay s n with
    | true => rfl
    | false => rw [lput_no e] at h; cases h
  have hb := h
  rw [lput_yes hs] at hb
  injection hb with hb
  have hg := hget_block (hdL s n) (hdL_R s n) (hdL_fits hs)
  rw [hb] at hg
  obtain ⟨p1, p2⟩ := name_parts hs
  have e1 : (hget b).1.name = lname s n := by rw [hg]; rfl
  have e2 : (hget b).2 = 0 := by rw [hg]
  unfold lget
  rw [if_pos e2, e1, p1, p2, if_pos h]
theorem lget_cases (b : List UInt8) : ((hget b).2 ≠ 0 ∧ lget b = ([], 0, (hget b).2)) ∨ ((hget b).2 = 0 ∧ ∃ s n, lget b = (s, n, 0) ∧ lput s n = some b) ∨ ((hget b).2 = 0 ∧ lget b = ([], 0, 11) ∧ ∀ s n, lput s n ≠ some b) := by
  by_cases h : (hget b).2 = 0
  · by_cases h2 : lput (labOf (hget b).1.name) (numL (digOf (hget b).1.name)) = some b
    · exact .inr (.inl ⟨h, _, _, by unfold lget; rw [if_pos h, if_pos h2], h2⟩)
    · refine .inr (.inr ⟨h, by unfold lget; rw [if_pos h, if_neg h2], fun s n e => ?_⟩)
      have := lget_put e
      unfold lget at this
      rw [if_pos h, if_neg h2] at this
      simp at this
  · exact .inl ⟨h, by unfold lget; rw [if_neg h]⟩
end Go.Proofs.YtldhcknjpmbgnaaGreatDoor.Rk
