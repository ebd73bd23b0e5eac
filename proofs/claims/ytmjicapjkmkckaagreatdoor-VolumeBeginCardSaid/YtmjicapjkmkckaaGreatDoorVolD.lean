/- Volumes: plain laws of how a stream is split: how many, what is used, what stands where. -/
import Derived.Test.YtmjicapjkmkckaaGreatDoorVolC
namespace Go.Proofs.YtmjicapjkmkckaaGreatDoor.Rk
set_option linter.unusedVariables false
set_option linter.unusedSimpArgs false
section
variable {β : Type} {all : List β} {bg : Nat → Nat → List β} {z : Nat → List β} {B : Nat}
theorem sgo_bound (hb1 : ∀ p n, 1 ≤ (bg p n).length) (hb4 : ∀ p n, (bg p n).length ≤ 4) (least : Nat) (hl : 1 ≤ least) : ∀ (caps : List Nat) (i pos : Nat), (sgo all bg z B caps i pos).2 = 0 → pos < all.length →
    (sgo all bg z B caps i pos).1.length ≤ all.length - pos ∧
    ((∀ j cap, j < (sgo all bg z B caps i pos).1.length → caps[j]? = some cap → least + 4 ≤ B * cap) → ((sgo all bg z B caps i pos).1.length - 1) * least < all.length - pos)
  | [], i, pos, h0, h => by rw [sgo_none h] at h0; cases h0
  | cap :: caps, i, pos, h0, h => by
    by_cases h2 : B * cap ≤ (bg pos (i + 1)).length
    · rw [sgo_small h h2] at h0; cases h0
    · rw [sgo_step h h2] at h0 ⊢
      have hlt := endAt_lt h h2
      have hle := endAt_le (all := all) (bg := bg) (B := B) cap i pos
      by_cases he : endAt all bg B cap i pos < all.length
      · obtain ⟨a1, a2⟩ := sgo_bound hb1 hb4 least hl caps (i + 1) (endAt all bg B cap i pos) h0 he
        obtain ⟨r, hr⟩ : ∃ r, (sgo all bg z B caps (i + 1) (endAt all bg B cap i pos)).1.length = r := ⟨_, rfl⟩
        simp only [List.length_cons, hr] at a1 a2 ⊢
        refine ⟨by omega, fun hj => ?_⟩
        have hc := hj 0 cap (by omega) rfl
        have h4 := hb4 pos (i + 1)
        have h5 : endAt all bg B cap i pos = pos + (B * cap - (bg pos (i + 1)).length) := by unfold endAt at he ⊢; omega
        have a3 := a2 (fun j c h6 h7 => hj (j + 1) c (by omega) (by simpa using h7))
        cases r with
        | zero => simp; omega
        | succ r =>
          simp only [Nat.add_sub_cancel] at a3 ⊢
          rw [Nat.succ_mul]; omega
      · rw [sgo_done he]
        simp only [List.length_cons, List.length_nil]
        exact ⟨by omega, fun _ => by simp; omega⟩
/-- What all volumes hold together, and what the last block is. -/
theorem sgo_last (hB : 1 ≤ B) (hz : ∀ k, 1 ≤ k → k ≤ B → (z k).length = k) (hb1 : ∀ p n, 1 ≤ (bg p n).length) (hb4 : ∀ p n, (bg p n).length ≤ 4) (zb : β) (hzl : ∀ k, 1 ≤ k → k ≤ B → (z k).getLast? = some zb) (hal : all.getLast? = some zb) :
    ∀ (caps : List Nat) (i pos : Nat), (sgo all bg z B caps i pos).2 = 0 → pos < all.length →
    (∃ v, (sgo all bg z B caps i pos).1.getLast? = some v ∧ 2 ≤ v.length ∧ v.getLast? = some zb) ∧
    all.length - pos + (sgo all bg z B caps i pos).1.length ≤ ((sgo all bg z B caps i pos).1.map List.length).sum ∧
    ((sgo all bg z B caps i pos).1.map List.length).sum + 1 ≤ all.length - pos + 4 * (sgo all bg z B caps i pos).1.length + B
  | [], i, pos, h0, h => by rw [sgo_none h] at h0; cases h0
  | cap :: caps, i, pos, h0, h => by
    by_cases h2 : B * cap ≤ (bg pos (i + 1)).length
    · rw [sgo_small h h2] at h0; cases h0
    · rw [sgo_step h h2] at h0 ⊢
      have hlt := endAt_lt h h2
      have hle := endAt_le (all := all) (bg := bg) (B := B) cap i pos
      have hbl := bare_length h h2
      have k1 := hb1 pos (i + 1)
      have k4 := hb4 pos (i + 1)
      by_cases he : endAt all bg B cap i pos < all.length
      · obtain ⟨⟨v, a1, a2, a3⟩, a4, a5⟩ := sgo_last hB hz hb1 hb4 zb hzl hal caps (i + 1) (endAt all bg B cap i pos) h0 he
        have hva : volAt all bg z B cap i pos = bare all bg B cap i pos := by unfold volAt; rw [if_neg (by omega)]
        obtain ⟨r, hr⟩ : ∃ r, (sgo all bg z B caps (i + 1) (endAt all bg B cap i pos)).1 = r := ⟨_, rfl⟩
        rw [hr] at a1 a4 a5 ⊢
        rw [hva]
        simp only [List.map_cons, List.sum_cons, List.length_cons]
        refine ⟨⟨v, ?_, a2, a3⟩, by omega, by omega⟩
        rw [List.getLast?_cons, a1]; rfl
      · rw [sgo_done he]
        have hea : endAt all bg B cap i pos = all.length := by omega
        simp only [List.map_cons, List.map_nil, List.sum_cons, List.sum_nil, List.length_cons, List.length_nil]
        have hmod := Nat.mod_lt (bare all bg B cap i pos).length hB
        unfold volAt
        by_cases h3 : 0 < (bare all bg B cap i pos).length % B
        · rw [if_pos ⟨hea, h3⟩]
          have hzz := hz (B - (bare all bg B cap i pos).length % B) (by omega) (by omega)
          refine ⟨⟨bare all bg B cap i pos ++ z (B - (bare all bg B cap i pos).length % B), rfl, by rw [List.length_append]; omega, ?_⟩, by rw [List.length_append]; omega, by rw [List.length_append]; omega⟩
          rw [List.getLast?_append, hzl _ (by omega) (by omega)]; rfl
        · rw [if_neg (by simp [h3])]
          refine ⟨⟨bare all bg B cap i pos, rfl, by omega, ?_⟩, by omega, by omega⟩
          unfold bare
          rw [hea, List.take_length, List.getLast?_append, List.getLast?_drop, if_neg (by omega), hal]; rfl
/-- What stands in a volume. -/
theorem volAt_at (hB : 1 ≤ B) (zb : β) (hz : ∀ k, 1 ≤ k → k ≤ B → z k = List.replicate k zb) {cap i pos : Nat} (h : pos < all.length) (h2 : ¬ B * cap ≤ (bg pos (i + 1)).length) :
    (volAt all bg z B cap i pos).take (bg pos (i + 1)).length = bg pos (i + 1) ∧
    ∀ k, (bg pos (i + 1)).length ≤ k → k < (volAt all bg z B cap i pos).length →
      (volAt all bg z B cap i pos)[k]? = if pos + (k - (bg pos (i + 1)).length) < all.length then all[pos + (k - (bg pos (i + 1)).length)]? else some zb := by
  have hbl := bare_length h h2
  have hlt := endAt_lt h h2
  have hle := endAt_le (all := all) (bg := bg) (B := B) cap i pos
  have hb : ∀ k, (bg pos (i + 1)).length ≤ k → k < (bare all bg B cap i pos).length → (bare all bg B cap i pos)[k]? = all[pos + (k - (bg pos (i + 1)).length)]? := fun k h3 h4 => by
    unfold bare
    rw [List.getElem?_append_right h3, List.getElem?_drop, List.getElem?_take_of_lt (by omega)]
  unfold volAt
  by_cases he : endAt all bg B cap i pos = all.length ∧ 0 < (bare all bg B cap i pos).length % B
  · rw [if_pos he]
    have hmod := Nat.mod_lt (bare all bg B cap i pos).length hB
    rw [hz _ (by omega) (by omega)]
    refine ⟨?_, fun k h3 h4 => ?_⟩
    · rw [List.take_append_of_le_length (by omega)]
      unfold bare
      rw [List.take_left]
    · by_cases h5 : k < (bare all bg B cap i pos).length
      · rw [List.getElem?_append_left h5, hb k h3 h5, if_pos (by omega)]
      · rw [List.length_append, List.length_replicate] at h4
        rw [List.getElem?_append_right (by omega), List.getElem?_replicate, if_pos (by omega), if_neg (by omega)]
  · rw [if_neg he]
    refine ⟨?_, fun k h3 h4 => ?_⟩
    · unfold bare
      rw [List.take_left]
    · rw [hb k h3 h4, if_pos (by omega)]
end
end Go.Proofs.YtmjicapjkmkckaaGreatDoor.Rk
