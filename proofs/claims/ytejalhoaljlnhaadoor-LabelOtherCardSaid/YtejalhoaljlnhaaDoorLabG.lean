/- Labels of volumes, walked: the document's answers: May, Name, Put. -/
import Derived.Test.YtejalhoaljlnhaaDoorLabF
namespace Go.Proofs.YtejalhoaljlnhaaDoor.Rk
open Go.RowKit
set_option linter.unusedVariables false
set_option linter.unusedSimpArgs false
set_option maxRecDepth 100000

theorem rlmay_calls (s : List UInt8) (n : Int) (hs : s.length ≤ 1000) {r : Bool} (hr : lmay s n = r) (w : World) :
    Calls Tryd.prog 16 #[.string (ofL s), .int .i64 n] w fun e w' => e = .returned (.bool r) ∧ w = w' := by
  have Hr := Au.mk hr
  clear hr
  have hlen : (ofL s).size = s.length := ofL_size s
  obtain ⟨a1, A1⟩ := au (decide ((1 : Int) ≤ s.length))
  obtain ⟨a2, A2⟩ := au (decide ((s.length : Int) ≤ 88))
  obtain ⟨a4, A4⟩ := au (decide (1 ≤ n))
  obtain ⟨a5, A5⟩ := au (decide (n ≤ 999))
  have hlaw : (0 : UInt8) ∉ s → lmay s n = (a1 && (a2 && (a4 && a5))) := fun h0 => by
    rw [← A1.out, ← A2.out, ← A4.out, ← A5.out, Bool.eq_iff_iff, lmay_iff]
    simp only [Bool.and_eq_true, decide_eq_true_eq]
    constructor
    · rintro ⟨h1, h2, _, h4, h5⟩
      have : 0 < s.length := List.length_pos_iff.2 h1
      exact ⟨by omega, by omega, h4, h5⟩
    · rintro ⟨h1, h2, h4, h5⟩
      exact ⟨by rintro rfl; simp at h1, by omega, h0, h4, h5⟩
  have c1 := A1.out
  have c2 := A2.out
  have c4 := A4.out
  have c5 := A5.out
  have c2n : decide (s.length ≤ 88) = a2 := by rw [← c2]; simp only [decide_eq_decide]; omega
  have c1n : decide (1 ≤ s.length) = a1 := by rw [← c1]; simp only [decide_eq_decide]; omega
  have Hlaw := Au.mk hlaw
  clear hlaw
  go_enter Tryd.func16, Tryd.ntmps16
  go_wp2_with fail
  go_loop [5] (fun i => ∃ k : Nat, k ≤ s.length ∧ i = .int .i64 k ∧ Au ((0 : UInt8) ∉ s.take k)) (fun i => s.length - (intOf i).toNat)
  case atStart => exact ⟨0, Nat.zero_le _, rfl, ⟨by simp⟩⟩
  case round =>
    obtain ⟨k, hk, rfl, H0⟩ := hrel
    by_cases hlt : k < s.length
    · have hk2 : k < (ofL s).size := by rw [ofL_size]; exact hlt
      obtain ⟨x, hx⟩ : ∃ x, (ofL s)[k] = x := ⟨_, rfl⟩
      have hxs : s[k] = x := by rw [← hx]; rfl
      have Hx := Au.mk hxs
      clear hxs
      by_cases h0 : x = 0
      · subst h0
        go_wp2_with fail
        go_ret
        refine ⟨ret_bool ?_, rfl⟩
        rw [← Hr.out]
        have : (0 : UInt8) ∈ s := by rw [← Hx.out]; exact List.getElem_mem hlt
        simp [lmay, this]
      · have hx0 : ((x.toNat : Int) == 0) = false := by
          rw [beq_eq_false_iff_ne]; intro h
          exact h0 (UInt8.toNat_inj.1 (by simpa using h))
        have H0' := Au.mk h0
        clear h0
        go_wp2_with fail
        go_round
        case rel => exact ⟨k + 1, by omega, by go_num, ⟨mem_take_succ hlt Hx.out H0.out H0'.out⟩⟩
        case measure => simp [intOf]; omega
    · have hk2 : k = s.length := by omega
      have h0 : (0 : UInt8) ∉ s := by have := H0.out; rwa [hk2, List.take_length] at this
      have Hr2 : Au ((a1 && (a2 && (a4 && a5))) = r) := ⟨by rw [← Hlaw.out h0]; exact Hr.out⟩
      clear h0 hk2
      cases a1 <;> cases a2 <;> cases a4 <;> cases a5
      all_goals
        go_wp2_with fail
        go_ret
        exact ⟨ret_bool (by rw [← Hr2.out]; rfl), rfl⟩
theorem digit10_cut : ∀ q : Nat, q < 10 → (⟨#[48, 49, 50, 51, 52, 53, 54, 55, 56, 57]⟩ : ByteArray).extract q (q + 1) = ofL [UInt8.ofNat (48 + q)] := by
  intro q hq
  have : q = 0 ∨ q = 1 ∨ q = 2 ∨ q = 3 ∨ q = 4 ∨ q = 5 ∨ q = 6 ∨ q = 7 ∨ q = 8 ∨ q = 9 := by omega
  rcases this with rfl | rfl | rfl | rfl | rfl | rfl | rfl | rfl | rfl | rfl <;> rfl
def decD (m : Nat) : List UInt8 := if m = 0 then [] else Lib.decDigits m
theorem decD_step {m : Nat} (h : 0 < m) : decD m = decD (m / 10) ++ [UInt8.ofNat (48 + m % 10)] := by
  unfold decD
  rw [if_neg (by omega), Lib.decDigits]
  by_cases h1 : m < 10
  · rw [dif_pos h1, if_pos (by omega), show m % 10 = m by omega]; rfl
  · rw [dif_neg h1, if_neg (by omega)]
theorem rlname_calls (s : List UInt8) (n : Int) (hs : s.length ≤ 1000) (hn : R64 n) {x : List UInt8} {r : Bool} (hr : lmay s n = r) (hx : (if lmay s n then lname s n else []) = x) (w : World) :
    Calls Tryd.prog 11 #[.string (ofL s), .int .i64 n] w fun e w' => e = .returned (.tuple #[.string (ofL x), .bool r]) ∧ w = w' := by
  have Hr := Au.mk hr
  rw [hr] at hx
  cases r
  case false =>
    have hx2 : [] = x := by simpa using hx
    subst hx2
    clear hr hx
    go_enter Tryd.func11, Tryd.ntmps11
    go_wp2_with fail
    refine (rlmay_calls s n hs Hr.out _).mono ?_
    rintro e w1 ⟨rfl, rfl⟩
    go_wp2_with fail
    go_ret2
    exact ⟨rfl, rfl⟩
  case true =>
    have hx2 : lname s n = x := by simpa using hx
    obtain ⟨_, a2, _, a4, a5⟩ := lmay_iff.1 hr
    obtain ⟨u, rfl⟩ := Int.eq_ofNat_of_zero_le (by omega : 0 ≤ n)
    have hu : Lib.itoa (u : Int) = decD u := by rw [itoa_pos a4, Int.toNat_natCast, decD, if_neg (by omega)]
    have Hu := Au.mk hu
    have Hx := Au.mk hx2
    have hu9 : u ≤ 999 := by omega
    have h1 : ofL s ++ (⟨#[32, 86, 111, 108, 117, 109, 101, 32]⟩ : ByteArray) = ofL (s ++ vol) := ofL_append s vol
    have z1 : (ofL s).size = s.length := ofL_size _
    have z2 : (ofL (s ++ vol)).size = s.length + 8 := by rw [ofL_size, List.length_append]; rfl
    clear hr hx hx2 a4 a5 hu hn
    go_enter Tryd.func11, Tryd.ntmps11
    go_wp2_with fail
    refine (rlmay_calls s u hs Hr.out _).mono ?_
    rintro e w1 ⟨rfl, rfl⟩
    go_wp2_with fail
    go_loop [1, 7] (fun v d => ∃ (m : Nat) (o : List UInt8), m ≤ 999 ∧ v = .int .i64 m ∧ d = .string (ofL o) ∧ Au (decD u = decD m ++ o) ∧ o.length ≤ 10 ∧ Au (o.length + (decD m).length = (decD u).length)) (fun v _ => (intOf v).toNat)
    case atStart => exact ⟨u, [], hu9, rfl, rfl, ⟨by simp⟩, by simp, ⟨by simp⟩⟩
    case round =>
      obtain ⟨m, o, hm, rfl, rfl, Ho, hol, Hol⟩ := hrel
      by_cases hlt : 0 < m
      · obtain ⟨q, Hq⟩ := au (m % 10)
        have hq8 : q < 10 := by rw [← Hq.out]; exact Nat.mod_lt _ (by decide)
        obtain ⟨c, Hc⟩ := au (UInt8.ofNat (48 + q))
        have hcut := digit10_cut q hq8
        rw [Hc.out] at hcut
        have hq9 : (q : Int) + 1 ≤ 10 := by omega
        have hq10 : (q : Int) ≤ q + 1 := by omega
        have hsz : (⟨#[48, 49, 50, 51, 52, 53, 54, 55, 56, 57]⟩ : ByteArray).size = 10 := rfl
        have hcat : ofL [c] ++ ofL o = ofL (c :: o) := ofL_append _ _
        have hmq : (m : Int) % 10 = (q : Int) := by have := Hq.out; omega
        have hs1 : (ofL o).size = o.length := ofL_size o
        have hs2 : (ofL [c]).size = 1 := ofL_size _
        have hstep := decD_step hlt
        rw [Hq.out, Hc.out] at hstep
        have Hstep := Au.mk hstep
        have hub : Au ((decD u).length ≤ 3) := ⟨by
          unfold decD
          split
          · simp
          · rcases dec_lt (u := u) (by omega) with ⟨_, e⟩ | ⟨_, _, e⟩ | ⟨_, e⟩ <;> rw [e] <;> simp⟩
        have hol2 : Au (o.length + 1 + (decD (m / 10)).length = (decD u).length) := ⟨by
          have := Hol.out
          rw [hstep, List.length_append] at this
          simp at this; omega⟩
        clear hstep
        go_wp2_with fail
        go_round
        case rel =>
          refine ⟨m / 10, c :: o, by omega, by first | rfl | go_num, by first | rfl | rw [hcat], ⟨?_⟩, ?_, ⟨?_⟩⟩
          · rw [Ho.out, Hstep.out]; simp
          · have := hub.out; have := hol2.out; simp; omega
          · have := hol2.out; simp; omega
        case measure => simp [intOf]; omega
      · obtain rfl : m = 0 := by omega
        have ho : decD u = o := by rw [Ho.out]; rfl
        have h2 : ofL (s ++ vol) ++ ofL o = ofL x := by rw [ofL_append, ← Hx.out, lname, Hu.out, ho]
        have hs1 : (ofL o).size = o.length := ofL_size o
        clear ho
        go_wp2_with fail
        go_ret2
        exact ⟨rfl, rfl⟩
theorem rlput_calls (s : List UInt8) (n : Int) (hs : s.length ≤ 1000) (hn : R64 n) {p : List UInt8} {b : Bool} (hp : (lput s n).getD [] = p) (hb : (lput s n).isSome = b) (w : World) :
    Calls Tryd.prog 13 #[.string (ofL s), .int .i64 n] w fun e w' => ∃ A c, e = .returned (.tuple #[.slice A p.length c, .bool b]) ∧ Sl Kd.byte w' (fun k => w.heap.size ≤ k) A c p ∧ Below w.heap.size w w' := by
  obtain ⟨r, Hr⟩ := au (lmay s n)
  obtain ⟨x, Hx⟩ := au (if lmay s n then lname s n else [])
  have Hp := Au.mk hp
  have Hb := Au.mk hb
  clear hp hb
  cases r
  case false =>
    have h1 : p = [] := by rw [← Hp.out, lput_no Hr.out]; rfl
    have h2 : b = false := by rw [← Hb.out, lput_no Hr.out]; rfl
    subst h1 h2
    go_enter Tryd.func13, Tryd.ntmps13
    go_wp2_with fail
    refine (rlname_calls s n hs hn Hr.out Hx.out _).mono ?_
    rintro e w1 ⟨rfl, rfl⟩
    go_wp2_with fail
    go_ret2
    exact ⟨none, 0, rfl, Sl.nil _ _ _, Below.refl _ _⟩
  case true =>
    have hx : x = (hdL s n).name := by rw [← Hx.out, if_pos Hr.out]; rfl
    have h1 : Au ((hput (hdL s n)).getD [] = p) := ⟨by rw [← Hp.out]; unfold lput; rw [if_pos Hr.out]⟩
    have h2 : Au ((hput (hdL s n)).isSome = b) := ⟨by rw [← Hb.out]; unfold lput; rw [if_pos Hr.out]⟩
    have hS : (hdL s n).S := ⟨by have := (hdL_fits Hr.out).nameL; omega, by simp [hdL], by simp [hdL]⟩
    subst hx
    go_enter Tryd.func13, Tryd.ntmps13
    go_wp2_with fail
    refine (rlname_calls s n hs hn Hr.out Hx.out _).mono ?_
    rintro e w1 ⟨rfl, rfl⟩
    go_wp2_with fail
    refine (rput04_view (hdL s n) (hdL_R s n) hS h1.out h2.out _).mono ?_
    rintro e w2 ⟨A, c, rfl, s2, b2⟩
    go_wp2_with fail
    go_ret2
    exact ⟨A, c, rfl, s2, b2⟩
end Go.Proofs.YtejalhoaljlnhaaDoor.Rk
