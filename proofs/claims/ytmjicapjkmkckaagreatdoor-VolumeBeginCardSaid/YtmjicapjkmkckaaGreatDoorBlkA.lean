/- Blocks and volumes: Same, May, walked. -/
import Derived.Test.YtmjicapjkmkckaaGreatDoorConB
namespace Go.Proofs.YtmjicapjkmkckaaGreatDoor.Rk
open Go.RowKit Go.Shelf
set_option linter.unusedVariables false
set_option linter.unusedSimpArgs false
set_option maxRecDepth 100000

theorem getElem_of {α : Type} {l : List α} {k : Nat} {x : α} (hx : l[k]? = some x) (hk : k < l.length) : l[k] = x := (List.getElem?_eq_some_iff.1 hx).2
theorem take_snocX {α : Type} {l : List α} {k : Nat} {x : α} (h : l[k]? = some x) : l.take (k + 1) = l.take k ++ [x] := by
  have hlt := (List.getElem?_eq_some_iff.1 h).1
  rw [List.take_succ_eq_append_getElem hlt, (List.getElem?_eq_some_iff.1 h).2]
set_option maxHeartbeats 1000000 in
theorem bsameF_calls (l m : List (List UInt8)) {n k' : Nat} (hn : l.length = n) (hm : m.length = k') {r : Bool} (hr : (l == m) = r) {A B : Option Addr} {c d : Nat} {F G : Nat → Prop} (w : World) (ha : Sl (Kd.slice Kd.byte) w F A c l) (hb : Sl (Kd.slice Kd.byte) w G B d m) :
    Calls Tryz.prog 85 #[.slice A n c, .slice B k' d, .func (.func 86) #[] #[]] w fun e w' => e = .returned (.bool r) ∧ Drawn w w' := by
  subst hn hm
  have Hr := Au.mk hr
  clear hr
  by_cases hlen : l.length = m.length
  · have c1 : ((l.length : Int) != (m.length : Int)) = false := by simp [hlen]
    have c1' : (l.length == m.length) = true := by simp [hlen]
    have hle := ha.le
    have Hlen := Au.mk hlen
    clear hlen
    go_enter Tryz.func85, Tryz.ntmps85
    go_wp2_with fail
    go_loopw [17] (fun i wr => ∃ k : Nat, k ≤ l.length ∧ i = .int .i64 k ∧ Au (l.take k = m.take k) ∧ Drawn w wr) (fun i _ => l.length - (intOf i).toNat)
    case atStart => exact ⟨0, Nat.zero_le _, rfl, ⟨rfl⟩, Drawn.refl _⟩
    case round =>
      obtain ⟨k, hk, rfl, ht, ⟨nd, rfl⟩⟩ := hrel
      by_cases hlt : k < l.length
      · have hlt2 : k < m.length := Hlen.out ▸ hlt
        obtain ⟨x, hx⟩ : ∃ x, l[k]? = some x := ⟨_, List.getElem?_eq_getElem hlt⟩
        obtain ⟨y, hy⟩ : ∃ y, m[k]? = some y := ⟨_, List.getElem?_eq_getElem hlt2⟩
        obtain ⟨a1, a2, A', c', rfl, ca, sa⟩ := ha.slice_at hx
        obtain ⟨b1, b2, B', d', rfl, cb, sb⟩ := hb.slice_at hy
        have Hx := Au.mk hx
        have Hy := Au.mk hy
        have Sa := Au.mk (sa.drewN nd)
        have Sb := Au.mk (sb.drewN nd)
        obtain ⟨q, Hq⟩ := au (x == y)
        clear hx hy sa sb
        cases q
        · have hr2 : r = false := by rw [← Hr.out, beq_eq_false_iff_ne]; rintro rfl; exact absurd (Option.some.inj (Hx.out.symm.trans Hy.out)) (by simpa using Hq.out)
          subst hr2
          go_wp2_with (go_at_call 86; refine (equal_calls x y _ _ _ _ _ _ _ Sa.out Sb.out).mono ?_; rintro e w2 ⟨rfl, ⟨n2, rfl⟩⟩; rw [Hq.out])
          go_ret
          exact ⟨rfl, _, rfl⟩
        · go_wp2_with (go_at_call 86; refine (equal_calls x y _ _ _ _ _ _ _ Sa.out Sb.out).mono ?_; rintro e w2 ⟨rfl, ⟨n2, rfl⟩⟩; rw [Hq.out])
          go_roundw
          case rel =>
            refine ⟨k + 1, by omega, by go_num, ⟨?_⟩, _, rfl⟩
            rw [take_snocX Hx.out, take_snocX Hy.out, ht.out, show x = y from by simpa using Hq.out]
          case measure => simp [intOf]; omega
      · have hkl : k = l.length := by omega
        have he : (l == m) = true := by
          have := ht.out
          rw [List.take_of_length_le (by omega), List.take_of_length_le (by rw [← Hlen.out]; omega)] at this
          simp [this]
        rw [Hr.out] at he
        subst he
        clear hkl
        go_wp2_with fail
        go_ret
        exact ⟨rfl, ⟨nd, rfl⟩⟩
  · have he : (l == m) = false := by
      rw [beq_eq_false_iff_ne]; rintro rfl; exact hlen rfl
    rw [Hr.out] at he
    subst he
    have c1 : ((l.length : Int) != (m.length : Int)) = true := by simp; omega
    have c1' : (l.length == m.length) = false := by simp [hlen]
    go_enter Tryz.func85, Tryz.ntmps85
    go_wp2_with fail
    go_ret
    exact ⟨rfl, Drawn.refl _⟩
theorem bsame_calls (l m : List (List UInt8)) {n k' : Nat} (hn : l.length = n) (hm : m.length = k') {r : Bool} (hr : (l == m) = r) {A B : Option Addr} {c d : Nat} {F G : Nat → Prop} (w : World) (ha : Sl (Kd.slice Kd.byte) w F A c l) (hb : Sl (Kd.slice Kd.byte) w G B d m) :
    Calls Tryz.prog 47 #[.slice A n c, .slice B k' d] w fun e w' => e = .returned (.bool r) ∧ Drawn w w' := by
  have Hc := Au.mk (bsameF_calls l m hn hm hr w ha hb)
  go_enter Tryz.func47, Tryz.ntmps47
  go_wp2_with fail
  refine Hc.out.mono ?_
  rintro e w1 ⟨rfl, b1⟩
  go_wp2_with fail
  go_ret
  exact ⟨rfl, b1⟩
abbrev KBk3 : Kd (List (List UInt8)) := Kd.slice (Kd.slice Kd.byte)
set_option maxHeartbeats 1000000 in
theorem vsameF_calls (l m : List (List (List UInt8))) {n k' : Nat} (hn : l.length = n) (hm : m.length = k') {r : Bool} (hr : (l == m) = r) {A B : Option Addr} {c d : Nat} {F G : Nat → Prop} (w : World) (ha : Sl KBk3 w F A c l) (hb : Sl KBk3 w G B d m) :
    Calls Tryz.prog 46 #[.slice A n c, .slice B k' d, .func (.func 47) #[] #[]] w fun e w' => e = .returned (.bool r) ∧ Drawn w w' := by
  subst hn hm
  have Hr := Au.mk hr
  clear hr
  by_cases hlen : l.length = m.length
  · have c1 : ((l.length : Int) != (m.length : Int)) = false := by simp [hlen]
    have c1' : (l.length == m.length) = true := by simp [hlen]
    have hle := ha.le
    have Hlen := Au.mk hlen
    clear hlen
    go_enter Tryz.func46, Tryz.ntmps46
    go_wp2_with fail
    go_loopw [17] (fun i wr => ∃ k : Nat, k ≤ l.length ∧ i = .int .i64 k ∧ Au (l.take k = m.take k) ∧ Drawn w wr) (fun i _ => l.length - (intOf i).toNat)
    case atStart => exact ⟨0, Nat.zero_le _, rfl, ⟨rfl⟩, Drawn.refl _⟩
    case round =>
      obtain ⟨k, hk, rfl, ht, ⟨nd, rfl⟩⟩ := hrel
      by_cases hlt : k < l.length
      · have hlt2 : k < m.length := Hlen.out ▸ hlt
        obtain ⟨x, hx⟩ : ∃ x, l[k]? = some x := ⟨_, List.getElem?_eq_getElem hlt⟩
        obtain ⟨y, hy⟩ : ∃ y, m[k]? = some y := ⟨_, List.getElem?_eq_getElem hlt2⟩
        obtain ⟨a1, a2, A', c', rfl, ca, sa⟩ := ha.slice_at hx
        obtain ⟨b1, b2, B', d', rfl, cb, sb⟩ := hb.slice_at hy
        have Hx := Au.mk hx
        have Hy := Au.mk hy
        have Sa := Au.mk (sa.drewN nd)
        have Sb := Au.mk (sb.drewN nd)
        obtain ⟨q, Hq⟩ := au (x == y)
        clear hx hy sa sb
        cases q
        · have hr2 : r = false := by rw [← Hr.out, beq_eq_false_iff_ne]; rintro rfl; exact absurd (Option.some.inj (Hx.out.symm.trans Hy.out)) (by simpa using Hq.out)
          subst hr2
          go_wp2_with (go_at_call 47; refine (bsame_calls x y rfl rfl Hq.out _ Sa.out Sb.out).mono ?_; rintro e w2 ⟨rfl, ⟨n2, rfl⟩⟩)
          go_ret
          exact ⟨rfl, _, rfl⟩
        · go_wp2_with (go_at_call 47; refine (bsame_calls x y rfl rfl Hq.out _ Sa.out Sb.out).mono ?_; rintro e w2 ⟨rfl, ⟨n2, rfl⟩⟩)
          go_roundw
          case rel =>
            refine ⟨k + 1, by omega, by go_num, ⟨?_⟩, _, rfl⟩
            rw [take_snocX Hx.out, take_snocX Hy.out, ht.out, show x = y from by simpa using Hq.out]
          case measure => simp [intOf]; omega
      · have hkl : k = l.length := by omega
        have he : (l == m) = true := by
          have := ht.out
          rw [List.take_of_length_le (by omega), List.take_of_length_le (by rw [← Hlen.out]; omega)] at this
          simp [this]
        rw [Hr.out] at he
        subst he
        clear hkl
        go_wp2_with fail
        go_ret
        exact ⟨rfl, ⟨nd, rfl⟩⟩
  · have he : (l == m) = false := by
      rw [beq_eq_false_iff_ne]; rintro rfl; exact hlen rfl
    rw [Hr.out] at he
    subst he
    have c1 : ((l.length : Int) != (m.length : Int)) = true := by simp; omega
    have c1' : (l.length == m.length) = false := by simp [hlen]
    go_enter Tryz.func46, Tryz.ntmps46
    go_wp2_with fail
    go_ret
    exact ⟨rfl, Drawn.refl _⟩
theorem vsame_calls (l m : List (List (List UInt8))) {n k' : Nat} (hn : l.length = n) (hm : m.length = k') {r : Bool} (hr : (l == m) = r) {A B : Option Addr} {c d : Nat} {F G : Nat → Prop} (w : World) (ha : Sl KBk3 w F A c l) (hb : Sl KBk3 w G B d m) :
    Calls Tryz.prog 24 #[.slice A n c, .slice B k' d] w fun e w' => e = .returned (.bool r) ∧ Drawn w w' := by
  have Hc := Au.mk (vsameF_calls l m hn hm hr w ha hb)
  go_enter Tryz.func24, Tryz.ntmps24
  go_wp2_with fail
  refine Hc.out.mono ?_
  rintro e w1 ⟨rfl, b1⟩
  go_wp2_with fail
  go_ret
  exact ⟨rfl, b1⟩
/-- An odd block. -/
def oddB (b : List UInt8) : Bool := b.length != 512
theorem oddb_calls (b : List UInt8) {n : Nat} (hn : b.length = n) (hle : n ≤ 9223372036854775807) {r : Bool} (hr : oddB b = r) {A : Option Addr} {c : Nat} (w : World) : Calls Tryz.prog 49 #[.slice A n c] w fun e w' => e = .returned (.bool r) ∧ w = w' := by
  subst hn
  have h1 : ((b.length : Int) != 512) = r := by
    rw [← hr, oddB, Bool.eq_iff_iff, bne_iff_ne, bne_iff_ne]; omega
  go_enter Tryz.func49, Tryz.ntmps49
  go_wp2_with fail
  go_ret
  exact ⟨rfl, rfl⟩
def idxB (xs : List (List UInt8)) : Int := match xs.findIdx? oddB with | some j => (j : Int) | none => -1
theorem idxB_none {xs : List (List UInt8)} (h : ∀ x ∈ xs, oddB x = false) : idxB xs = -1 := by
  unfold idxB
  rw [List.findIdx?_eq_none_iff.2 h]
theorem idxB_some {xs : List (List UInt8)} {k : Nat} {x : List UInt8} (hk : xs[k]? = some x) (hx : oddB x = true) (h : ∀ y ∈ xs.take k, oddB y = false) : idxB xs = (k : Int) := by
  unfold idxB
  obtain ⟨hlt, he⟩ := List.getElem?_eq_some_iff.1 hk
  have : xs.findIdx? oddB = some k := by
    rw [List.findIdx?_eq_some_iff_getElem]
    refine ⟨hlt, by rw [he]; exact hx, fun j hj => ?_⟩
    have hm : xs[j] ∈ xs.take k := by
      rw [List.mem_take_iff_getElem]
      exact ⟨j, by omega, rfl⟩
    rw [h _ hm]; simp
  rw [this]
theorem indexB_calls (xs : List (List UInt8)) {n : Nat} (hn : xs.length = n) {r : Int} (hr : idxB xs = r) {A : Option Addr} {c : Nat} {F : Nat → Prop} (w : World) (ha : Sl (Kd.slice Kd.byte) w F A c xs) :
    Calls Tryz.prog 87 #[.slice A n c, .func (.func 49) #[] #[]] w fun e w' => e = .returned (.int .i64 r) ∧ w = w' := by
  subst hn
  have Hr := Au.mk hr
  have hle := ha.le
  clear hr
  go_enter Tryz.func87, Tryz.ntmps87
  go_wp2_with fail
  go_loop [8] (fun j => ∃ k : Nat, k ≤ xs.length ∧ j = .int .i64 k ∧ Au (∀ y ∈ xs.take k, oddB y = false)) (fun j => xs.length - (intOf j).toNat)
  case atStart => exact ⟨0, Nat.zero_le _, rfl, ⟨fun y hy => by simp at hy⟩⟩
  case round =>
    obtain ⟨k, hk, rfl, H0⟩ := hrel
    by_cases hlt : k < xs.length
    · obtain ⟨x, hx⟩ : ∃ x, xs[k]? = some x := ⟨_, List.getElem?_eq_getElem hlt⟩
      obtain ⟨b, o, A', c', rfl, ck, sx⟩ := ha.slice_at hx
      have Hx := Au.mk hx
      have hxl := sx.le
      clear hx sx
      obtain ⟨d, Hd⟩ := au (oddB x)
      cases d
      · go_wp2_with (go_at_call 49; refine (oddb_calls x rfl hxl Hd.out _).mono ?_; rintro e w' ⟨rfl, rfl⟩)
        go_round
        case rel =>
          refine ⟨k + 1, by omega, by go_num, ⟨fun y hy => ?_⟩⟩
          rw [take_snocX Hx.out] at hy
          rcases List.mem_append.1 hy with hy | hy
          · exact H0.out y hy
          · rw [List.mem_singleton.1 hy]; exact Hd.out
        case measure => simp [intOf]; omega
      · have hr2 : r = (k : Int) := by rw [← Hr.out]; exact idxB_some Hx.out Hd.out H0.out
        subst hr2
        go_wp2_with (go_at_call 49; refine (oddb_calls x rfl hxl Hd.out _).mono ?_; rintro e w' ⟨rfl, rfl⟩)
        go_ret
        exact ⟨rfl, rfl⟩
    · have hr2 : r = -1 := by
        have := H0.out
        rw [show k = xs.length by omega, List.take_length] at this
        rw [← Hr.out, idxB_none this]
      subst hr2
      go_wp2_with fail
      go_ret
      exact ⟨rfl, rfl⟩
theorem containsB_calls (xs : List (List UInt8)) {n : Nat} (hn : xs.length = n) (h : ∀ x ∈ xs, x.length = 512) {A : Option Addr} {c : Nat} {F : Nat → Prop} (w : World) (ha : Sl (Kd.slice Kd.byte) w F A c xs) :
    Calls Tryz.prog 48 #[.slice A n c, .func (.func 49) #[] #[]] w fun e w' => e = .returned (.bool false) ∧ w = w' := by
  have Hc := Au.mk (indexB_calls xs hn (idxB_none (fun x hx => by unfold oddB; rw [h x hx]; rfl)) w ha)
  go_enter Tryz.func48, Tryz.ntmps48
  go_wp2_with fail
  refine Hc.out.mono ?_
  rintro e w1 ⟨rfl, rfl⟩
  go_wp2_with fail
  go_ret
  exact ⟨rfl, rfl⟩
theorem bmay_calls (xs : List (List UInt8)) {n : Nat} (hn : xs.length = n) (h : ∀ x ∈ xs, x.length = 512) {A : Option Addr} {c : Nat} {F : Nat → Prop} (w : World) (ha : Sl (Kd.slice Kd.byte) w F A c xs) :
    Calls Tryz.prog 26 #[.slice A n c] w fun e w' => e = .returned (.bool true) ∧ w = w' := by
  have Hc := Au.mk (containsB_calls xs hn h w ha)
  go_enter Tryz.func26, Tryz.ntmps26
  go_wp2_with fail
  refine Hc.out.mono ?_
  rintro e w1 ⟨rfl, rfl⟩
  go_wp2_with fail
  go_ret
  exact ⟨rfl, rfl⟩
end Go.Proofs.YtmjicapjkmkckaaGreatDoor.Rk
