/- VolumeStream -/
import Derived.Test.YtldhcknjpmbgnaaGreatDoorLawDE
namespace Go.Proofs.YtldhcknjpmbgnaaGreatDoor.Rk
open Go.RowKit Go.Shelf
set_option linter.unusedVariables false
set_option linter.unusedSimpArgs false
set_option maxRecDepth 100000

/-! ### noughts -/
def oddZ (c : UInt8) : Bool := c != 0
theorem oddz_calls (c : UInt8) {r : Bool} (hr : oddZ c = r) (w : World) : Calls Tryz.prog 142 #[.int .u8 c.toNat] w fun e w' => e = .returned (.bool r) ∧ w = w' := by
  have h : (((c.toNat : Nat) : Int) != 0) = r := by
    rw [← hr, oddZ]
    by_cases hc : c = 0
    · subst hc; rfl
    · have h1 : c.toNat ≠ 0 := fun h => hc (UInt8.toNat_inj.1 (by simpa using h))
      have h2 : (c != 0) = true := by simpa using hc
      rw [h2, bne_iff_ne]; omega
  go_enter Tryz.func142, Tryz.ntmps142
  go_wp2_with fail
  go_ret
  exact ⟨by first | rfl | exact ret_bool h, rfl⟩
def idxZ (xs : List UInt8) : Int := match xs.findIdx? oddZ with | some j => (j : Int) | none => -1
theorem idxZ_none {xs : List UInt8} (h : ∀ x ∈ xs, oddZ x = false) : idxZ xs = -1 := by
  unfold idxZ
  rw [List.findIdx?_eq_none_iff.2 h]
theorem idxZ_some {xs : List UInt8} {k : Nat} {x : UInt8} (hk : xs[k]? = some x) (hx : oddZ x = true) (h : ∀ y ∈ xs.take k, oddZ y = false) : idxZ xs = (k : Int) := by
  unfold idxZ
  obtain ⟨hlt, he⟩ := List.getElem?_eq_some_iff.1 hk
  have : xs.findIdx? oddZ = some k := by
    rw [List.findIdx?_eq_some_iff_getElem]
    refine ⟨hlt, by rw [he]; exact hx, fun j hj => ?_⟩
    have hm : xs[j] ∈ xs.take k := by
      rw [List.mem_take_iff_getElem]
      exact ⟨j, by omega, rfl⟩
    rw [h _ hm]; simp
  rw [this]
theorem idxZ_any (xs : List UInt8) : decide (0 ≤ idxZ xs) = xs.any oddZ := by
  unfold idxZ
  cases h : xs.findIdx? oddZ with
  | none =>
    rw [List.findIdx?_eq_none_iff] at h
    symm
    rw [show (decide ((0 : Int) ≤ -1)) = false by decide, List.any_eq_false]
    exact fun x hx => by simp [h x hx]
  | some j =>
    obtain ⟨hlt, h1, _⟩ := List.findIdx?_eq_some_iff_getElem.1 h
    symm
    have h2 : decide ((0 : Int) ≤ (j : Int)) = true := by simp
    show xs.any oddZ = decide ((0 : Int) ≤ (j : Int))
    rw [h2, List.any_eq_true]
    exact ⟨_, List.getElem_mem hlt, h1⟩
theorem indexZ_calls (xs : List UInt8) {n : Nat} (hn : xs.length = n) {r : Int} (hr : idxZ xs = r) {A : Option Addr} {c : Nat} {F : Nat → Prop} (w : World) (ha : Sl Kd.byte w F A c xs) :
    Calls Tryz.prog 166 #[.slice A n c, .func (.func 142) #[] #[]] w fun e w' => e = .returned (.int .i64 r) ∧ w = w' := by
  subst hn
  have Hr := Au.mk hr
  have hle := ha.le
  clear hr
  go_enter Tryz.func166, Tryz.ntmps166
  go_wp2_with fail
  go_loop [8] (fun j => ∃ k : Nat, k ≤ xs.length ∧ j = .int .i64 k ∧ Au (∀ y ∈ xs.take k, oddZ y = false)) (fun j => xs.length - (intOf j).toNat)
  case atStart => exact ⟨0, Nat.zero_le _, rfl, ⟨fun y hy => by simp at hy⟩⟩
  case round =>
    obtain ⟨k, hk, rfl, H0⟩ := hrel
    by_cases hlt : k < xs.length
    · obtain ⟨x, hx⟩ : ∃ x, xs[k]? = some x := ⟨_, List.getElem?_eq_getElem hlt⟩
      obtain ⟨b, o, rfl, ck⟩ := ha.byte_at k hlt
      rw [(List.getElem?_eq_some_iff.1 hx).2] at ck
      have Hx := Au.mk hx
      clear hx
      obtain ⟨d, Hd⟩ := au (oddZ x)
      cases d
      · go_wp2_with (go_at_call 142; refine (oddz_calls x Hd.out _).mono ?_; rintro e w' ⟨rfl, rfl⟩)
        go_round
        case rel =>
          refine ⟨k + 1, by omega, by go_num, ⟨fun y hy => ?_⟩⟩
          rw [take_snocX Hx.out] at hy
          rcases List.mem_append.1 hy with hy | hy
          · exact H0.out y hy
          · rw [List.mem_singleton.1 hy]; exact Hd.out
        case measure => simp [intOf]; omega
      · have hr2 : r = (k : Int) := by rw [← Hr.out]; exact idxZ_some Hx.out Hd.out H0.out
        subst hr2
        go_wp2_with (go_at_call 142; refine (oddz_calls x Hd.out _).mono ?_; rintro e w' ⟨rfl, rfl⟩)
        go_ret
        exact ⟨rfl, rfl⟩
    · have hr2 : r = -1 := by
        have := H0.out
        rw [show k = xs.length by omega, List.take_length] at this
        rw [← Hr.out, idxZ_none this]
      subst hr2
      go_wp2_with fail
      go_ret
      exact ⟨rfl, rfl⟩
theorem containsZ_calls (xs : List UInt8) {n : Nat} (hn : xs.length = n) {r : Bool} (hr : xs.any oddZ = r) {A : Option Addr} {c : Nat} {F : Nat → Prop} (w : World) (ha : Sl Kd.byte w F A c xs) :
    Calls Tryz.prog 141 #[.slice A n c, .func (.func 142) #[] #[]] w fun e w' => e = .returned (.bool r) ∧ w = w' := by
  obtain ⟨i, Hi⟩ := au (idxZ xs)
  have hri : decide (0 ≤ i) = r := by rw [← Hi.out, idxZ_any, hr]
  have Hc := Au.mk (indexZ_calls xs hn Hi.out w ha)
  go_enter Tryz.func141, Tryz.ntmps141
  go_wp2_with fail
  refine Hc.out.mono ?_
  rintro e w1 ⟨rfl, rfl⟩
  go_wp2_with fail
  go_ret
  exact ⟨by first | rfl | exact ret_bool (by first | exact hri | rfl), rfl⟩
theorem zeroB_calls (xs : List UInt8) {n : Nat} (hn : xs.length = n) {r : Bool} (hr : xs.any oddZ = r) {A : Option Addr} {c : Nat} {F : Nat → Prop} (w : World) (ha : Sl Kd.byte w F A c xs) :
    Calls Tryz.prog 95 #[.slice A n c] w fun e w' => e = .returned (.bool (!r)) ∧ w = w' := by
  have Hc := Au.mk (containsZ_calls xs hn hr w ha)
  go_enter Tryz.func95, Tryz.ntmps95
  go_wp2_with fail
  refine Hc.out.mono ?_
  rintro e w1 ⟨rfl, rfl⟩
  go_wp2_with fail
  go_ret
  first | done | exact ⟨rfl, rfl⟩ | (cases r <;> exact ⟨rfl, rfl⟩)
theorem zeros_any : (zeros 512).any oddZ = false := by
  rw [List.any_eq_false]
  intro x hx
  rw [(List.mem_replicate.1 hx).2]; decide
/-! ### the same -/
set_option maxHeartbeats 1000000 in
theorem same3_calls (l : List (List UInt8)) {n : Nat} (hn : l.length = n) {A B : Option Addr} {c d : Nat} {F G : Nat → Prop} (w : World) (ha : Sl (Kd.slice Kd.byte) w F A c l) (hb : Sl (Kd.slice Kd.byte) w G B d l) :
    Calls Tryz.prog 32 #[.slice A n c, .slice B n d] w fun e w' => e = .returned (.bool true) ∧ Drawn w w' := by
  have hle := ha.le
  rw [hn] at hle
  have Hn := Au.mk hn
  have Ha := Au.mk ha
  have Hb := Au.mk hb
  clear ha hb hn
  go_enter Tryz.func32, Tryz.ntmps32
  go_wp2_with fail
  go_loopw [5] (fun i wr => ∃ k : Nat, k ≤ n ∧ i = .int .i64 k ∧ Drawn w wr) (fun i _ => n - (intOf i).toNat)
  case atStart => exact ⟨0, Nat.zero_le _, rfl, Drawn.refl _⟩
  case round =>
    obtain ⟨k, hk, rfl, ⟨nd, rfl⟩⟩ := hrel
    by_cases hlt : k < n
    · obtain ⟨x, hx⟩ : ∃ x, l[k]? = some x := ⟨_, List.getElem?_eq_getElem (by rw [Hn.out]; exact hlt)⟩
      obtain ⟨a1, a2, A', c', rfl, ca, sa⟩ := Ha.out.slice_at hx
      obtain ⟨b1, b2, B', d', rfl, cb, sb⟩ := Hb.out.slice_at hx
      obtain ⟨xl, Hxl⟩ := au x.length
      have ka : ∀ n, (convert 46 9 (.slice A' x.length c')).run Tryz.prog (w.drewN n) = .ok (.string (ofL x)) (w.drewN n) := fun n => str_of (sa.drewN n)
      have kb : ∀ n, (convert 46 9 (.slice B' x.length d')).run Tryz.prog (w.drewN n) = .ok (.string (ofL x)) (w.drewN n) := fun n => str_of (sb.drewN n)
      rw [Hxl.out] at ca cb ka kb
      have hlti : (k : Int) < n := by omega
      clear hx sa sb
      go_wp2_with fail
      go_quiet (fail)
      go_wp2_with fail
      go_roundw
      case rel => exact ⟨k + 1, by omega, by go_num, _, rfl⟩
      case measure => simp [intOf]; omega
    · have hkn : ¬ (k : Int) < n := by omega
      go_wp2_with fail
      go_ret
      exact ⟨rfl, _, rfl⟩
end Go.Proofs.YtldhcknjpmbgnaaGreatDoor.Rk
