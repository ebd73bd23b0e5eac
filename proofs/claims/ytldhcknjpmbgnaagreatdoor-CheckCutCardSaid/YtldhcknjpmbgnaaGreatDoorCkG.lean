/- Check: what the laws look at first: whether a state, tapes are small; walked. -/
import Derived.Test.YtldhcknjpmbgnaaGreatDoorCkF
import Derived.Test.YtldhcknjpmbgnaaGreatDoorAwkP
namespace Go.Proofs.YtldhcknjpmbgnaaGreatDoor.Rk
open Go.RowKit Go.Shelf
set_option linter.unusedVariables false
set_option linter.unusedSimpArgs false
set_option maxRecDepth 100000

/-- A truth value is handed back, of which something holds. -/
structure RetB (Q : Bool → Prop) (e : Ending) : Prop where
  ex : ∃ r : Bool, e = .returned (.bool r) ∧ Q r
def fewPs (s : Ps) : Bool := fewN s.node && (decide (s.text.length ≤ 400) && (decide (s.name.length ≤ 400) && decide (s.link.length ≤ 400)))
theorem fewPs_S {s : Ps} (h : fewPs s = true) : s.S := by
  unfold fewPs at h
  simp only [Bool.and_eq_true, decide_eq_true_eq] at h
  exact ⟨few_S h.1, by omega, by omega, by omega⟩
theorem few09_calls (s : Ps) (hR : s.R) {r : Bool} (hr : fewPs s = r) (w : World) : Calls Tryz.prog 12 #[s.agg] w fun e w' => e = .returned (.bool r) ∧ Below w.heap.size w w' := by
  have B0 := Au.mk (st_box w s)
  have hb0 := (Below.refl w.heap.size w).alloc (Nat.le_refl _) (.cells s.cells.toArray 25)
  obtain ⟨f0, f1, f2, f3, f4, f5, f6, f7, f8, f9, f10, f11, f12, f13⟩ := st_cells s B0.out
  have z0 : (ofL s.text).size = s.text.length := ofL_size _
  have z1 : (ofL s.name).size = s.name.length := ofL_size _
  have z2 : (ofL s.link).size = s.link.length := ofL_size _
  obtain ⟨a, Ha⟩ := au (fewN s.node)
  obtain ⟨b, Hb⟩ := au (decide (s.text.length ≤ 400))
  obtain ⟨c, Hc⟩ := au (decide (s.name.length ≤ 400))
  obtain ⟨d, Hd⟩ := au (decide (s.link.length ≤ 400))
  have Hr : Au ((a && (b && (c && d))) = r) := ⟨by rw [← hr, fewPs, Ha.out, Hb.out, Hc.out, Hd.out]⟩
  have hb : decide ((s.text.length : Int) ≤ 400) = b := by rw [← Hb.out, decide_eq_decide]; omega
  have hc : decide ((s.name.length : Int) ≤ 400) = c := by rw [← Hc.out, decide_eq_decide]; omega
  have hd : decide ((s.link.length : Int) ≤ 400) = d := by rw [← Hd.out, decide_eq_decide]; omega
  have CF := Au.mk (fun W : World => few05_calls s.node hR.2.2.2.1 Ha.out W)
  have t1 := hR.2.2.2.2.1
  have t2 := hR.2.2.2.2.2.1
  have t3 := hR.2.2.2.2.2.2
  unfold Ps.agg
  unfold Nd.agg at CF
  unfold Ps.cells at f0 f1 f2 f3 f4 f5 f6 f7 f8 f9 f10 f11 f12 f13 hb0
  clear hr hR
  go_enter Tryz.func12, Tryz.ntmps12
  go_wp2_with fail
  refine (CF.out _).mono ?_
  rintro e w1 ⟨rfl, b1⟩
  have e1 := Au.mk (below_then hb0 b1 hb0.size)
  have g11 := cell_below f11 b1
  have g12 := cell_below f12 b1
  have g13 := cell_below f13 b1
  clear f0 f1 f2 f3 f4 f5 f6 f7 f8 f9 f10 f11 f12 f13 b1
  cases a
  · go_wp2_with fail
    go_ret
    exact ⟨ret_bool (by rw [← Hr.out]; rfl), e1.out⟩
  cases b
  · go_wp2_with fail
    go_ret
    exact ⟨ret_bool (by rw [← Hr.out]; rfl), e1.out⟩
  cases c
  · go_wp2_with fail
    go_ret
    exact ⟨ret_bool (by rw [← Hr.out]; rfl), e1.out⟩
  go_wp2_with fail
  go_ret
  exact ⟨ret_bool (by rw [← Hr.out]; rfl), e1.out⟩
theorem few11_calls (l : List (List UInt8)) {n : Nat} (hn : l.length = n) {A : Option Addr} {c : Nat} {F : Nat → Prop} (w : World) (ha : Sl (Kd.slice Kd.byte) w F A c l) : Calls Tryz.prog 18 #[.slice A n c] w fun e w' => RetB (fun _ => True) e ∧ w = w' := by
  subst hn
  have hle := ha.le
  have HA := Au.mk ha
  clear ha
  go_enter Tryz.func18, Tryz.ntmps18
  go_wp2_with fail
  go_loop [3, 4] (fun a i => ∃ (k : Nat) (m : Int), k ≤ l.length ∧ k ≤ 61 ∧ a = .int .i64 m ∧ i = .int .i64 k) (fun _ i => 61 - (intOf i).toNat)
  case atStart => exact ⟨0, 0, Nat.zero_le _, by omega, rfl, rfl⟩
  case round =>
    obtain ⟨k, m, hk, hk61, rfl, rfl⟩ := hrel
    obtain ⟨d, Hd⟩ := au (decide (m ≤ 100000))
    have hd := Hd.out
    by_cases hlt : k < l.length
    · have hlti : (k : Int) < l.length := by omega
      by_cases h61 : k < 61
      · have h60 : (k : Int) ≤ 60 := by omega
        obtain ⟨x, hx⟩ : ∃ x, l[k]? = some x := ⟨_, List.getElem?_eq_getElem hlt⟩
        obtain ⟨b, o, A', c', rfl, ck, sx⟩ := HA.out.slice_at hx
        obtain ⟨xl, Xl⟩ := au x.length
        rw [Xl.out] at ck
        have hxl := sx.le
        rw [Xl.out] at hxl
        clear hx sx
        by_cases hbig : 12000 < xl
        · have hbi : (12000 : Int) < xl := by omega
          go_wp2_with fail
          go_ret
          exact ⟨⟨⟨_, rfl, trivial⟩⟩, rfl⟩
        · have hbi : ¬ (12000 : Int) < xl := by omega
          go_wp2_with fail
          go_round
          case rel => exact ⟨k + 1, _, by omega, by omega, rfl, by go_num⟩
          case measure => simp [intOf]; omega
      · have h60 : ¬ ((k : Int) ≤ 60) := by omega
        obtain ⟨q, Hq⟩ := au (decide ((l.length : Int) ≤ 60))
        have hq := Hq.out
        cases q
        · go_wp2_with fail
          go_ret
          exact ⟨⟨⟨_, rfl, trivial⟩⟩, rfl⟩
        · go_wp2_with fail
          go_ret
          exact ⟨⟨⟨_, rfl, trivial⟩⟩, rfl⟩
    · have hge : ¬ ((k : Int) < l.length) := by omega
      obtain ⟨q, Hq⟩ := au (decide ((l.length : Int) ≤ 60))
      have hq := Hq.out
      cases q
      · go_wp2_with fail
        go_ret
        exact ⟨⟨⟨_, rfl, trivial⟩⟩, rfl⟩
      · go_wp2_with fail
        go_ret
        exact ⟨⟨⟨_, rfl, trivial⟩⟩, rfl⟩
theorem few18_calls (l : List Tp) {n : Nat} (hn : l.length = n) {A : Option Addr} {c : Nat} {F : Nat → Prop} (w : World) (ha : Sl Kd.tp w F A c l) : Calls Tryz.prog 13 #[.slice A n c] w fun e w' => RetB (fun r => r = true → n ≤ 15) e ∧ w = w' := by
  have hn' := Au.mk hn
  subst hn
  have hle := ha.le
  have HA := Au.mk ha
  clear ha
  go_enter Tryz.func13, Tryz.ntmps13
  go_wp2_with fail
  go_loop [3] (fun i => ∃ k : Nat, k ≤ l.length ∧ k ≤ 16 ∧ i = .int .i64 k) (fun i => 16 - (intOf i).toNat)
  case atStart => exact ⟨0, Nat.zero_le _, by omega, rfl⟩
  case round =>
    obtain ⟨k, hk, hk16, rfl⟩ := hrel
    obtain ⟨d, Hd⟩ := au (decide ((l.length : Int) ≤ 15))
    have hd := Hd.out
    by_cases hlt : k < l.length
    · have hlti : (k : Int) < l.length := by omega
      by_cases h16 : k < 16
      · have h15 : (k : Int) ≤ 15 := by omega
        obtain ⟨t, hx⟩ : ∃ t, l[k]? = some t := ⟨_, List.getElem?_eq_getElem hlt⟩
        obtain ⟨b, o, A', c', rfl, hR, f0, f1, f2, sx⟩ := HA.out.tp_at hx
        obtain ⟨m, Hm⟩ := au t.recs.length
        have CF := Au.mk (few11_calls t.recs Hm.out w sx)
        rw [Hm.out] at f1
        clear hx sx
        go_wp2_with fail
        refine CF.out.mono ?_
        rintro e w' ⟨⟨⟨r, rfl, -⟩⟩, rfl⟩
        cases r
        · go_wp2_with fail
          go_ret
          exact ⟨⟨⟨_, rfl, fun h => by cases h⟩⟩, rfl⟩
        · go_wp2_with fail
          go_round
          case rel => exact ⟨k + 1, by omega, by omega, by go_num⟩
          case measure => simp [intOf]; omega
      · have h15 : ¬ ((k : Int) ≤ 15) := by omega
        go_wp2_with fail
        go_ret
        exact ⟨⟨⟨d, rfl, fun h => by rw [h] at Hd; have := of_decide_eq_true Hd.out; omega⟩⟩, rfl⟩
    · have hge : ¬ ((k : Int) < l.length) := by omega
      go_wp2_with fail
      go_ret
      exact ⟨⟨⟨d, rfl, fun h => by rw [h] at Hd; have := of_decide_eq_true Hd.out; omega⟩⟩, rfl⟩
end Go.Proofs.YtldhcknjpmbgnaaGreatDoor.Rk
