/- Paths, walked: strings.Cut at one byte, path.parts, path.May. -/
import Derived.Test.YtmjicapjkmkckaaGreatDoorVolE
import Derived.Test.YtmjicapjkmkckaaGreatDoorVIter
import Derived.Test.YtmjicapjkmkckaaGreatDoorShelf
namespace Go.Proofs.YtmjicapjkmkckaaGreatDoor.Rk
open Go.RowKit Go.Shelf
set_option linter.unusedVariables false
set_option linter.unusedSimpArgs false
set_option maxRecDepth 100000

theorem indexByte_idx (c : UInt8) : ∀ l : List UInt8, Lib.indexByte l c = idx c l
  | [] => rfl
  | a :: l => by
    unfold Lib.indexByte idx
    by_cases h : a = c
    · subst h; simp
    · have h1 : (a == c) = false := by simpa using h
      have h2 : ¬ c = a := fun e => h e.symm
      rw [if_neg (by simp [h1]), indexByte_idx c l]
      unfold idx
      by_cases hm : c ∈ l
      · rw [if_pos hm, if_pos (List.mem_cons_of_mem _ hm), if_neg (by simp)]
        simp [List.takeWhile_cons, h]
      · rw [if_neg hm, if_pos (by rfl), if_neg (by simp [h2, hm])]
theorem slite_cut (p : List UInt8) (hp : p.length ≤ 10000) (w : World) :
    Calls Tryz.prog 170 #[.string (ofL p), .string ⟨#[47]⟩] w fun e w' => e = .returned (.tuple #[.string (ofL (if (47 : UInt8) ∈ p then headP p else p)), .string (ofL (if (47 : UInt8) ∈ p then tailP p else [])), .bool (decide ((47 : UInt8) ∈ p))]) ∧ Drawn w w' := by
  have hz : (ofL p).size = p.length := ofL_size p
  have hone : (⟨#[47]⟩ : ByteArray).size = 1 := rfl
  have hi := indexByte_idx 47 p
  by_cases hm : (47 : UInt8) ∈ p
  · rw [if_pos hm, if_pos hm, decide_eq_true hm]
    have h0 : 0 ≤ idx 47 p := by unfold idx; rw [if_pos hm]; omega
    obtain ⟨k, hk, hlt, _, _⟩ := idx_lt h0
    have hh : (ofL p).extract 0 k = ofL (headP p) := by
      have e : (headP p).length = k := by unfold idx at hk; rw [if_pos hm] at hk; exact Int.ofNat_inj.1 hk
      have e2 : headP p ++ p.dropWhile (· != 47) = p := List.takeWhile_append_dropWhile
      apply ByteArray.ext
      have : p.take k = headP p := by
        have h := List.take_left (l₁ := headP p) (l₂ := p.dropWhile (· != 47))
        rw [e2, e] at h; exact h
      simp [ofL, ByteArray.data_extract, this]
    have ht : (ofL p).extract (k + 1) (ofL p).size = ofL (tailP p) := by
      have e : (headP p).length = k := by unfold idx at hk; rw [if_pos hm] at hk; exact Int.ofNat_inj.1 hk
      have e2 : headP p ++ p.dropWhile (· != 47) = p := List.takeWhile_append_dropWhile
      have e3 : p.drop k = p.dropWhile (· != 47) := by
        have : (headP p ++ p.dropWhile (· != 47)).drop (headP p).length = p.dropWhile (· != 47) := List.drop_left
        rw [e2, e] at this; exact this
      have : p.drop (k + 1) = tailP p := by unfold tailP; rw [← e3, List.drop_drop]
      apply ByteArray.ext
      simp [ofL, ByteArray.data_extract, ← this, List.drop_take, ByteArray.size]
      exact List.take_of_length_le (by simp)
    rw [hk] at hi
    have Hi := Au.mk hi
    clear hi hk h0 hm
    have ht2 : (ofL p).extract (k + 1) p.length = ofL (tailP p) := by rw [← hz]; exact ht
    go_enter Tryz.func170, Tryz.ntmps170
    go_wp2_with fail
    refine (Tryz.stringslite_Index_one (ofL p) 47 _).mono ?_
    rintro e w1 ⟨rfl, rfl⟩
    rw [show (ofL p).data.toList = p from by simp [ofL], Hi.out]
    go_wp2_with fail
    go_quiet (fail)
    go_wp2_with fail
    go_ret3
    exact ⟨rfl, Drawn.step (Drawn.refl _) _⟩
  · rw [if_neg hm, if_neg hm, decide_eq_false hm]
    unfold idx at hi
    rw [if_neg hm] at hi
    have Hi := Au.mk hi
    clear hi hm
    go_enter Tryz.func170, Tryz.ntmps170
    go_wp2_with fail
    refine (Tryz.stringslite_Index_one (ofL p) 47 _).mono ?_
    rintro e w1 ⟨rfl, rfl⟩
    rw [show (ofL p).data.toList = p from by simp [ofL], Hi.out]
    go_wp2_with fail
    go_ret3
    exact ⟨rfl, Drawn.refl _⟩
theorem scut_calls (p : List UInt8) (hp : p.length ≤ 10000) {a b : List UInt8} {r : Bool} (h : ((if (47 : UInt8) ∈ p then headP p else p), (if (47 : UInt8) ∈ p then tailP p else []), decide ((47 : UInt8) ∈ p)) = (a, b, r)) (w : World) :
    Calls Tryz.prog 145 #[.string (ofL p), .string ⟨#[47]⟩] w fun e w' => e = .returned (.tuple #[.string (ofL a), .string (ofL b), .bool r]) ∧ Drawn w w' := by
  injection h with h1 h2
  injection h2 with h2 h3
  have hc := slite_cut p hp w
  rw [h1, h2, h3] at hc
  have Hc := Au.mk hc
  clear hc h1 h2 h3
  go_enter Tryz.func145, Tryz.ntmps145
  go_wp2_with fail
  refine Hc.out.mono ?_
  rintro e w1 ⟨rfl, b1⟩
  go_wp2_with fail
  go_ret3
  exact ⟨rfl, b1⟩
theorem parts_calls (p : List UInt8) (w : World) : Calls Tryz.prog 107 #[.string (ofL p)] w fun e w' => e = .returned (.func (.func 144) #[] #[.pointer (some ⟨w.heap.size, 0, none⟩)]) ∧ w.alloc (.cells #[.string (ofL p)] 9) = w' := by
  go_enter Tryz.func107, Tryz.ntmps107
  go_wp2_with fail
  go_ret
  exact ⟨rfl, rfl⟩
theorem odd_calls (s : List UInt8) {r : Bool} (hr : oddP s = r) (w : World) : Calls Tryz.prog 106 #[.string (ofL s)] w fun e w' => e = .returned (.bool r) ∧ w = w' := by
  subst hr
  unfold oddP
  obtain ⟨b1, B1⟩ := au (s == [])
  obtain ⟨b2, B2⟩ := au (s == [46])
  obtain ⟨b3, B3⟩ := au (s == [46, 46])
  have e1 : s.isEmpty = b1 := by rw [← B1.out]; cases s <;> rfl
  have e2 := B2.out
  have e3 := B3.out
  rw [B1.out, B2.out, B3.out]
  cases b1 <;> cases b2 <;> cases b3
  all_goals
    go_enter Tryz.func106, Tryz.ntmps106
    go_wp2_with fail
    go_ret
    exact ⟨rfl, rfl⟩
end Go.Proofs.YtmjicapjkmkckaaGreatDoor.Rk
