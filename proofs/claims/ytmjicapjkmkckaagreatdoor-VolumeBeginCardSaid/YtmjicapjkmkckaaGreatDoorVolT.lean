/- Paths: Parent, Split; long texts: Text; block.Many, walked. -/
import Derived.Test.YtmjicapjkmkckaaGreatDoorVolQ
import Derived.Test.YtmjicapjkmkckaaGreatDoorVRow
import Derived.Test.YtmjicapjkmkckaaGreatDoorVKnd
import Derived.Test.YtmjicapjkmkckaaGreatDoorLabF
namespace Go.Proofs.YtmjicapjkmkckaaGreatDoor.Rk
open Go.RowKit Go.Shelf
set_option linter.unusedVariables false
set_option linter.unusedSimpArgs false
set_option maxRecDepth 100000

theorem ltext_calls (s : List UInt8) (hs : s.length ≤ 10000) {r : Bool} (hr : ltext s = r) (w : World) :
    Calls Tryz.prog 146 #[.string (ofL s)] w fun e w' => e = .returned (.bool r) ∧ w = w' := by
  have hz : (ofL s).size = s.length := ofL_size s
  obtain ⟨b1, B1⟩ := au (s == [])
  have e1 : s.isEmpty = b1 := by rw [← B1.out]; cases s <;> rfl
  obtain ⟨a2, A2⟩ := au (decide (s.length ≤ 300))
  have c2n := A2.out
  have c2 : decide ((s.length : Int) ≤ 300) = a2 := by rw [← c2n]; simp only [decide_eq_decide]; omega
  obtain ⟨i, Hi⟩ := au (Lib.indexByte s 0)
  have Hr : Au ((!b1 && (a2 && decide (i < 0))) = r) := ⟨by
    have h0 : (i < 0) ↔ (0 : UInt8) ∉ s := by rw [← Hi.out]; exact indexByte_mem s 0
    rw [← hr, ltext, B1.out, A2.out]; simp [h0]⟩
  clear hr hs
  cases b1 <;> cases a2
  all_goals
    go_enter Tryz.func146, Tryz.ntmps146
    go_wp2_with (go_at_call 84; refine (index0_calls Hi.out _).mono ?_; rintro e w1 ⟨rfl, rfl⟩)
    go_ret
    exact ⟨ret_bool (by rw [← Hr.out]; rfl), rfl⟩
theorem lastIdx_cases (p : List UInt8) : lastIdx 47 p = -1 ∧ (47 : UInt8) ∉ p ∨ ∃ k : Nat, lastIdx 47 p = k ∧ k < p.length ∧ p[k]? = some 47 ∧ (47 : UInt8) ∉ p.drop (k + 1) := by
  have hz : (ofL p).size = p.length := ofL_size p
  have hg : ∀ j (h : j < p.length), (ofL p).data[j]! = p[j] := fun j h => by simp [ofL, h]
  unfold lastIdx
  rcases Lib.lastIndexByte_spec (ofL p) ((47 : UInt8).toNat : Int) with ⟨e, h⟩ | ⟨i, hi, e, h, hn⟩
  · left
    refine ⟨e, fun hm => ?_⟩
    obtain ⟨j, hj, hj2⟩ := List.mem_iff_getElem.1 hm
    have := h j (by rw [hz]; exact hj)
    rw [hg j hj, hj2] at this
    exact this rfl
  · right
    rw [hz] at hi
    rw [hg i hi] at h
    refine ⟨i, e, hi, ?_, fun hm => ?_⟩
    · rw [List.getElem?_eq_getElem hi]
      congr 1
      exact UInt8.toNat_inj.1 (by exact_mod_cast h)
    · obtain ⟨j, hj, hj2⟩ := List.mem_iff_getElem.1 hm
      rw [List.length_drop] at hj
      rw [List.getElem_drop] at hj2
      have := hn (i + 1 + j) (by omega) (by rw [hz]; omega)
      rw [hg _ (by omega), hj2] at this
      exact this rfl
theorem lastByte_calls {p : List UInt8} {i : Int} (hi : lastIdx 47 p = i) (hp : p.length ≤ 10000) (w : World) : Calls Tryz.prog 128 #[.string (ofL p), .int .u8 47] w fun e w' => e = .returned (.int .i64 i) ∧ w = w' := by
  refine (Tryz.strings_LastIndexByte (ofL p) 47 (by rw [ofL_size]; omega) w).mono ?_
  rintro e w' ⟨h1, h2⟩
  exact ⟨by rw [h1, ← hi]; rfl, h2.symm⟩
set_option maxHeartbeats 1000000 in
theorem parent_calls (p : List UInt8) (hp : p.length ≤ 10000) {q : List UInt8} {b : Bool} (h : parent p = (q, b)) (w : World) :
    Calls Tryz.prog 89 #[.string (ofL p)] w fun e w' => e = .returned (.tuple #[.string (ofL q), .bool b]) ∧ Below w.heap.size w w' := by
  have hz : (ofL p).size = p.length := ofL_size p
  obtain ⟨m, Hm⟩ := au (pmay p)
  have hmm := Hm.out
  unfold parent at h
  rw [hmm] at h
  rcases lastIdx_cases p with ⟨e, _⟩ | ⟨k, e, hk, _, _⟩
  · rw [e] at h
    have He := Au.mk e
    have h' : (([] : List UInt8), false) = (q, b) := h
    injection h' with h1 h2
    subst h1 h2
    clear e h
    go_enter Tryz.func89, Tryz.ntmps89
    go_wp2_with fail
    refine (lastByte_calls He.out hp _).mono ?_
    rintro e w1 ⟨rfl, rfl⟩
    go_wp2_with fail
    go_ret2
    exact ⟨rfl, Below.refl _ _⟩
  · rw [e] at h
    have He := Au.mk e
    have hx : (ofL p).extract 0 k = ofL (p.take k) := by rw [ofL_extract]; simp
    have hkl : (k : Int) ≤ p.length := by omega
    clear e
    cases m
    · have h' : (([] : List UInt8), false) = (q, b) := by simpa using h
      injection h' with h1 h2
      subst h1 h2
      clear h hmm
      go_enter Tryz.func89, Tryz.ntmps89
      go_wp2_with fail
      refine (lastByte_calls He.out hp _).mono ?_
      rintro e w1 ⟨rfl, rfl⟩
      go_wp2_with fail
      refine (pmay_calls p hp Hm.out _).mono ?_
      rintro e w1 ⟨rfl, b1⟩
      go_wp2_with fail
      go_ret2
      exact ⟨rfl, b1⟩
    · have h0 : ¬ ((k : Int) < 0) := by omega
      have h' : (p.take k, true) = (q, b) := by simpa [h0] using h
      injection h' with h1 h2
      subst h1 h2
      clear h hmm h0
      go_enter Tryz.func89, Tryz.ntmps89
      go_wp2_with fail
      refine (lastByte_calls He.out hp _).mono ?_
      rintro e w1 ⟨rfl, rfl⟩
      go_wp2_with fail
      refine (pmay_calls p hp Hm.out _).mono ?_
      rintro e w1 ⟨rfl, b1⟩
      go_wp2_with fail
      go_ret2
      exact ⟨rfl, b1⟩
theorem index47_calls {s : List UInt8} {n : Int} (hn : idx 47 s = n) (w : World) : Calls Tryz.prog 84 #[.string (ofL s), .int .u8 47] w fun e w' => e = .returned (.int .i64 n) ∧ w = w' :=
  index_is (c := 47) (by rw [indexByte_idx]; exact hn) w
set_option maxHeartbeats 2000000 in
theorem psplit_calls (p : List UInt8) (hp : p.length ≤ 10000) {a b : List UInt8} {r : Bool} (h : psplit p = (a, b, r)) (w : World) :
    Calls Tryz.prog 174 #[.string (ofL p)] w fun e w' => e = .returned (.tuple #[.string (ofL a), .string (ofL b), .bool r]) ∧ Below w.heap.size w w' := by
  have hz : (ofL p).size = p.length := ofL_size p
  obtain ⟨m, Hm⟩ := au (pmay p)
  unfold psplit at h
  rw [Hm.out] at h
  cases m
  · have h' : (([] : List UInt8), ([] : List UInt8), false) = (a, b, r) := h
    injection h' with h1 h2
    injection h2 with h2 h3
    subst h1 h2 h3
    clear h
    go_enter Tryz.func174, Tryz.ntmps174
    go_wp2_with fail
    refine (pmay_calls p hp Hm.out _).mono ?_
    rintro e w1 ⟨rfl, b1⟩
    go_wp2_with fail
    go_ret3
    exact ⟨rfl, b1⟩
  · rw [if_pos rfl] at h
    by_cases hl : p.length ≤ 100
    · rw [if_pos hl] at h
      injection h with h1 h2
      injection h2 with h2 h3
      subst h1 h2 h3
      have hli : (p.length : Int) ≤ 100 := by omega
      go_enter Tryz.func174, Tryz.ntmps174
      go_wp2_with fail
      refine (pmay_calls p hp Hm.out _).mono ?_
      rintro e w1 ⟨rfl, b1⟩
      go_wp2_with fail
      go_ret3
      exact ⟨rfl, b1⟩
    · rw [if_neg hl] at h
      dsimp only at h
      have d1 : decide ((p.length : Int) ≤ 100) = false := by simp; omega
      have d2 : decide (p.length ≤ 100) = false := by simp; omega
      obtain ⟨f, hf⟩ : ∃ f : Nat, p.length = f + 101 := ⟨p.length - 101, by omega⟩
      have hf2 : p.length - 101 = f := by omega
      rw [hf2] at h
      obtain ⟨i, Hi⟩ := au (idx 47 (p.drop f))
      rw [Hi.out] at h
      have hsub : IntKind.i64.wrap ((p.length : Int) - 100) = f + 1 := by rw [IntKind.wrap_i64]; omega
      have hx : (ofL p).extract f (ofL p).size = ofL (p.drop f) := by rw [ofL_extract, hz, List.take_length]
      have hx2 : (ofL p).extract f p.length = ofL (p.drop f) := by rw [← hz]; exact hx
      have hlen : (p.length : Int) = f + 101 := by omega
      have hfp : (f : Int) ≤ p.length := by omega
      have hfz : (f : Int) ≤ (ofL p).size := by omega
      have Hf := Au.mk hf
      clear hf hf2 hl
      by_cases hi0 : i < 0
      · rw [if_pos (.inl hi0)] at h
        injection h with h1 h2
        injection h2 with h2 h3
        subst h1 h2 h3
        have hc2 : decide (i < 0) = true := by simpa using hi0
        go_enter Tryz.func174, Tryz.ntmps174
        go_wp2_with fail
        refine (pmay_calls p hp Hm.out _).mono ?_
        rintro e w1 ⟨rfl, b1⟩
        go_wp2_with fail
        refine (index47_calls Hi.out _).mono ?_
        rintro e w1 ⟨rfl, rfl⟩
        go_wp2_with fail
        go_ret3
        exact ⟨rfl, b1⟩
      · obtain ⟨k, hk, hlt, _, _⟩ := idx_lt (c := 47) (l := p.drop f) (by rw [Hi.out]; omega)
        rw [Hi.out] at hk
        subst hk
        rw [List.length_drop] at hlt
        have hk1 : f + k < p.length := by omega
        have hk2 : (f : Int) + k < p.length := by omega
        have d3 : decide ((k : Int) < 0) = false := by simp
        by_cases hc : 155 < (f : Int) + k
        · rw [if_pos (.inr hc)] at h
          injection h with h1 h2
          injection h2 with h2 h3
          subst h1 h2 h3
          clear hi0
          go_enter Tryz.func174, Tryz.ntmps174
          go_wp2_with fail
          refine (pmay_calls p hp Hm.out _).mono ?_
          rintro e w1 ⟨rfl, b1⟩
          go_wp2_with fail
          refine (index47_calls Hi.out _).mono ?_
          rintro e w1 ⟨rfl, rfl⟩
          go_wp2_with fail
          go_ret3
          exact ⟨rfl, b1⟩
        · rw [if_neg (by omega)] at h
          have h' : (p.take (f + k), p.drop (f + k + 1), true) = (a, b, r) := by simpa using h
          injection h' with h1 h2
          injection h2 with h2 h3
          subst h1 h2 h3
          have d4 : decide (155 < (f : Int) + k) = false := by simpa using hc
          have y1 : (ofL p).extract 0 (f + k) = ofL (p.take (f + k)) := by rw [ofL_extract]; simp
          have y2 : (ofL p).extract (f + k + 1) (ofL p).size = ofL (p.drop (f + k + 1)) := by rw [ofL_extract, hz, List.take_length]
          have y3 : (ofL p).extract (f + k + 1) p.length = ofL (p.drop (f + k + 1)) := by rw [← hz]; exact y2
          have Y := Au.mk (And.intro y1 (And.intro y2 y3))
          have Hk1 := Au.mk hk1
          have hfb : (f : Int) + k ≤ 10000 := by omega
          have e5 : (f : Int) + 101 - 100 - 1 = f := by omega
          have HE5 := Au.mk e5
          clear hi0 hc h e5 y1 y2 y3 hk1
          go_enter Tryz.func174, Tryz.ntmps174
          go_wp2_with fail
          refine (pmay_calls p hp Hm.out _).mono ?_
          rintro e w1 ⟨rfl, b1⟩
          go_wp2_with fail
          refine (index47_calls Hi.out _).mono ?_
          rintro e w1 ⟨rfl, rfl⟩
          rw [HE5.out]
          go_wp2_with fail
          have y1 := Y.out.1
          have y2 := Y.out.2.1
          have y3 := Y.out.2.2
          have k1 : IntKind.i64.wrap ((f : Int) + k) = (f : Int) + k := by rw [IntKind.wrap_i64]; omega
          have k2 : IntKind.i64.wrap ((f : Int) + k + 1) = (f : Int) + k + 1 := by rw [IntKind.wrap_i64]; omega
          have t1 : ((f : Int) + k).toNat = f + k := by omega
          have t2 : ((f : Int) + k + 1).toNat = f + k + 1 := by omega
          have k3 : (f : Int) + k ≤ p.length := by have := Hk1.out; omega
          have k4 : (f : Int) + k + 1 ≤ p.length := by have := Hk1.out; omega
          have k5 : (0 : Int) ≤ (f : Int) + k := by omega
          have k6 : (0 : Int) ≤ (f : Int) + k + 1 := by omega
          go_quiet (fail)
          go_wp2_with fail
          go_ret3
          exact ⟨rfl, below_drewN b1 _⟩
end Go.Proofs.YtmjicapjkmkckaaGreatDoor.Rk
