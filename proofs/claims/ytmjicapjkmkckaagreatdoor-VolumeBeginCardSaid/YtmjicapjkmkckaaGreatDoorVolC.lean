/- Volumes: plain laws of how a stream is split. -/
import Derived.Test.YtmjicapjkmkckaaGreatDoorVolB
namespace Go.Proofs.YtmjicapjkmkckaaGreatDoor.Rk
set_option linter.unusedVariables false
set_option linter.unusedSimpArgs false
section
variable {β : Type} {all : List β} {bg : Nat → Nat → List β} {z : Nat → List β} {B : Nat}
theorem sgo_done {caps : List Nat} {i pos : Nat} (h : ¬ pos < all.length) : sgo all bg z B caps i pos = ([], 0) := by
  cases caps with
  | nil => unfold sgo; rw [if_neg h]
  | cons c cs => unfold sgo; rw [if_neg h]
theorem sgo_none {i pos : Nat} (h : pos < all.length) : sgo all bg z B [] i pos = ([], 14) := by unfold sgo; rw [if_pos h]
theorem sgo_small {cap : Nat} {caps : List Nat} {i pos : Nat} (h : pos < all.length) (h2 : B * cap ≤ (bg pos (i + 1)).length) : sgo all bg z B (cap :: caps) i pos = ([], 13) := by
  unfold sgo; rw [if_pos h, if_pos h2]
/-- Where a volume ends. -/
def endAt (all : List β) (bg : Nat → Nat → List β) (B cap i pos : Nat) : Nat := min all.length (pos + (B * cap - (bg pos (i + 1)).length))
/-- A volume, without the noughts behind it. -/
def bare (all : List β) (bg : Nat → Nat → List β) (B cap i pos : Nat) : List β := bg pos (i + 1) ++ (all.take (endAt all bg B cap i pos)).drop pos
/-- A volume. -/
def volAt (all : List β) (bg : Nat → Nat → List β) (z : Nat → List β) (B cap i pos : Nat) : List β :=
  if endAt all bg B cap i pos = all.length ∧ 0 < (bare all bg B cap i pos).length % B then bare all bg B cap i pos ++ z (B - (bare all bg B cap i pos).length % B) else bare all bg B cap i pos
theorem sgo_step {cap : Nat} {caps : List Nat} {i pos : Nat} (h : pos < all.length) (h2 : ¬ B * cap ≤ (bg pos (i + 1)).length) :
    sgo all bg z B (cap :: caps) i pos = (volAt all bg z B cap i pos :: (sgo all bg z B caps (i + 1) (endAt all bg B cap i pos)).1, (sgo all bg z B caps (i + 1) (endAt all bg B cap i pos)).2) := by
  rw [sgo, if_pos h, if_neg h2]; rfl
theorem endAt_le (cap i pos : Nat) : endAt all bg B cap i pos ≤ all.length := Nat.min_le_left _ _
theorem endAt_lt {cap i pos : Nat} (h : pos < all.length) (h2 : ¬ B * cap ≤ (bg pos (i + 1)).length) : pos < endAt all bg B cap i pos := by
  unfold endAt; omega
theorem bare_length {cap i pos : Nat} (h : pos < all.length) (h2 : ¬ B * cap ≤ (bg pos (i + 1)).length) : (bare all bg B cap i pos).length = (bg pos (i + 1)).length + (endAt all bg B cap i pos - pos) := by
  have := endAt_le (all := all) (bg := bg) (B := B) cap i pos
  unfold bare
  rw [List.length_append, List.length_drop, List.length_take, Nat.min_eq_left this]
theorem mod_room {n B k : Nat} (hB : 1 ≤ B) (h : n ≤ B * k) : (if 0 < n % B then n + (B - n % B) else n) ≤ B * k ∧ (if 0 < n % B then n + (B - n % B) else n) % B = 0 ∧ n ≤ (if 0 < n % B then n + (B - n % B) else n) := by
  have h1 := Nat.div_add_mod n B
  have h2 := Nat.mod_lt n hB
  split
  · rename_i h3
    have e : n + (B - n % B) = B * (n / B + 1) := by rw [Nat.mul_add, Nat.mul_one]; omega
    have h4 : n / B < k := by
      rw [Nat.div_lt_iff_lt_mul hB]
      rcases Nat.lt_or_ge n (k * B) with h5 | h5
      · exact h5
      · have : n = B * k := Nat.le_antisymm h (by rw [Nat.mul_comm]; exact h5)
        rw [this, Nat.mul_mod_right] at h3; omega
    refine ⟨?_, ?_, by omega⟩
    · rw [e]; exact Nat.mul_le_mul_left _ h4
    · rw [e, Nat.mul_mod_right]
  · exact ⟨h, by omega, Nat.le_refl _⟩
/-- A volume's length. -/
theorem volAt_length (hB : 1 ≤ B) (hz : ∀ k, 1 ≤ k → k ≤ B → (z k).length = k) {cap i pos : Nat} (h : pos < all.length) (h2 : ¬ B * cap ≤ (bg pos (i + 1)).length) :
    (volAt all bg z B cap i pos).length ≤ B * cap ∧ (volAt all bg z B cap i pos).length % B = 0 ∧ (bg pos (i + 1)).length + 1 ≤ (volAt all bg z B cap i pos).length ∧
    (endAt all bg B cap i pos < all.length → (volAt all bg z B cap i pos).length = B * cap ∧ endAt all bg B cap i pos = pos + (B * cap - (bg pos (i + 1)).length)) := by
  have hl := bare_length h h2
  have hlt := endAt_lt h h2
  have hm : (bare all bg B cap i pos).length ≤ B * cap := by rw [hl]; unfold endAt; omega
  have key := mod_room hB hm
  unfold volAt
  by_cases he : endAt all bg B cap i pos = all.length
  · have e : (if endAt all bg B cap i pos = all.length ∧ 0 < (bare all bg B cap i pos).length % B then bare all bg B cap i pos ++ z (B - (bare all bg B cap i pos).length % B) else bare all bg B cap i pos).length =
        if 0 < (bare all bg B cap i pos).length % B then (bare all bg B cap i pos).length + (B - (bare all bg B cap i pos).length % B) else (bare all bg B cap i pos).length := by
      by_cases h3 : 0 < (bare all bg B cap i pos).length % B
      · have := Nat.mod_lt (bare all bg B cap i pos).length hB
        rw [if_pos ⟨he, h3⟩, if_pos h3, List.length_append, hz _ (by omega) (by omega)]
      · rw [if_neg (by simp [h3]), if_neg h3]
    rw [e]
    refine ⟨key.1, key.2.1, ?_, fun h5 => by omega⟩
    have := key.2.2
    omega
  · have h4 : endAt all bg B cap i pos < all.length := Nat.lt_of_le_of_ne (endAt_le _ _ _) he
    rw [if_neg (by simp [he])]
    have h5 : endAt all bg B cap i pos = pos + (B * cap - (bg pos (i + 1)).length) := by unfold endAt at h4 ⊢; omega
    have h6 : (bare all bg B cap i pos).length = B * cap := by rw [hl, h5]; omega
    exact ⟨by omega, by rw [h6, Nat.mul_mod_right], by omega, fun _ => ⟨h6, h5⟩⟩
/-- No volume has more blocks than there is room for. -/
theorem sgo_room (hB : 1 ≤ B) (hz : ∀ k, 1 ≤ k → k ≤ B → (z k).length = k) (hb : ∀ p n, 1 ≤ (bg p n).length) : ∀ (caps : List Nat) (i pos : Nat),
    (sgo all bg z B caps i pos).1.length ≤ caps.length ∧ ((sgo all bg z B caps i pos).2 = 0 ∨ (sgo all bg z B caps i pos).2 = 13 ∨ (sgo all bg z B caps i pos).2 = 14) ∧
    ((sgo all bg z B caps i pos).2 = 14 → (sgo all bg z B caps i pos).1.length = caps.length) ∧ ((sgo all bg z B caps i pos).2 = 0 → pos < all.length → 1 ≤ (sgo all bg z B caps i pos).1.length) ∧
    ∀ j v, (sgo all bg z B caps i pos).1[j]? = some v → ∃ cap, caps[j]? = some cap ∧ 2 ≤ v.length ∧ v.length ≤ B * cap ∧ v.length % B = 0 ∧ (v.length = B * cap ∨ ((sgo all bg z B caps i pos).2 = 0 ∧ j + 1 = (sgo all bg z B caps i pos).1.length))
  | [], i, pos => by
    by_cases h : pos < all.length
    · rw [sgo_none h]; simp
    · rw [sgo_done h]; simp [h]
  | cap :: caps, i, pos => by
    by_cases h : pos < all.length
    · by_cases h2 : B * cap ≤ (bg pos (i + 1)).length
      · rw [sgo_small h h2]; simp
      · rw [sgo_step h h2]
        obtain ⟨a1, a2, a3, a4, a5⟩ := sgo_room hB hz hb caps (i + 1) (endAt all bg B cap i pos)
        obtain ⟨v1, v2, v3, v4⟩ := volAt_length hB hz h h2
        have hb1 := hb pos (i + 1)
        refine ⟨by simpa using a1, a2, fun e => by simpa using a3 e, fun _ _ => by simp, ?_⟩
        intro j v hv
        cases j with
        | zero =>
          have hv : volAt all bg z B cap i pos = v := by simpa using hv
          subst hv
          refine ⟨cap, rfl, by omega, v1, v2, ?_⟩
          by_cases he : endAt all bg B cap i pos < all.length
          · exact .inl (v4 he).1
          · right
            rw [sgo_done he]
            exact ⟨rfl, rfl⟩
        | succ j =>
          obtain ⟨c, hc, h3, h4, h5, h6⟩ := a5 j v (by simpa using hv)
          refine ⟨c, by simpa using hc, h3, h4, h5, ?_⟩
          rcases h6 with h6 | ⟨h6, h7⟩
          · exact .inl h6
          · exact .inr ⟨h6, by simp [h7]⟩
    · rw [sgo_done h]; simp [h]
/-- With more capacities. -/
theorem sgo_more (more : List Nat) : ∀ (caps : List Nat) (i pos : Nat),
    ((sgo all bg z B caps i pos).2 ≠ 14 → sgo all bg z B (caps ++ more) i pos = sgo all bg z B caps i pos) ∧
    ((sgo all bg z B caps i pos).2 = 14 → ∃ p, sgo all bg z B (caps ++ more) i pos = ((sgo all bg z B caps i pos).1 ++ (sgo all bg z B more (i + caps.length) p).1, (sgo all bg z B more (i + caps.length) p).2) ∧ p < all.length)
  | [], i, pos => by
    by_cases h : pos < all.length
    · rw [sgo_none h]; exact ⟨fun h => absurd rfl h, fun _ => ⟨pos, by simp, h⟩⟩
    · rw [sgo_done h, sgo_done h]; simp
  | cap :: caps, i, pos => by
    by_cases h : pos < all.length
    · by_cases h2 : B * cap ≤ (bg pos (i + 1)).length
      · rw [sgo_small h h2, List.cons_append, sgo_small h h2]; simp
      · rw [sgo_step h h2, List.cons_append, sgo_step h h2]
        obtain ⟨a1, a2⟩ := sgo_more more caps (i + 1) (endAt all bg B cap i pos)
        refine ⟨fun e => by rw [a1 e], fun e => ?_⟩
        obtain ⟨p, hp, hlt⟩ := a2 e
        exact ⟨p, by rw [hp]; simp [Nat.add_assoc, Nat.add_comm 1], hlt⟩
    · rw [sgo_done h, sgo_done h]; simp
end
end Go.Proofs.YtmjicapjkmkckaaGreatDoor.Rk
