/- Parse: a long text's blocks, walked. -/
import Derived.Test.YtldhcknjpmbgnaaGreatDoorPpD
namespace Go.Proofs.YtldhcknjpmbgnaaGreatDoor.Rk
open Go.RowKit Go.Shelf
set_option linter.unusedVariables false
set_option linter.unusedSimpArgs false
set_option maxRecDepth 100000

theorem hasSuf0 (l : List UInt8) : Lib.hasSuffix l [0] = decide (l.getLast? = some 0) := by
  unfold Lib.hasSuffix
  rcases List.eq_nil_or_concat l with rfl | ⟨l', x, rfl⟩
  · decide
  · rw [List.concat_eq_append]
    by_cases hx : x = 0
    · subst hx; simp
    · rw [show decide ((l' ++ [x]).getLast? = some 0) = false by simp [hx]]
      show ([0] : List UInt8).reverse.isPrefixOf (l' ++ [x]).reverse = false
      rw [List.reverse_append]
      show ((0 : UInt8) == x && _) = false
      have h0 : ((0 : UInt8) == x) = false := by rw [beq_eq_false_iff_ne]; exact fun e => hx e.symm
      rw [h0]; rfl
theorem cutsuf_calls {l d : List UInt8} {r : Bool} (hd : cutZ l = (d, r)) (hl : l.length ≤ 100000) (w : World) :
    Calls Tryz.prog 165 #[.string (ofL l), .string ⟨#[0]⟩] w fun e w' => e = .returned (.tuple #[.string (ofL d), .bool r]) ∧ w = w' := by
  have hz : (ofL l).size = l.length := ofL_size l
  have h1 : (⟨#[0]⟩ : ByteArray).size = 1 := rfl
  have CS : Calls Tryz.prog 157 #[.string (ofL l), .string ⟨#[0]⟩] w fun e w' => e = .returned (.bool (decide (l.getLast? = some 0))) ∧ w' = w := by
    refine (Tryz.stringslite_HasSuffix (ofL l) ⟨#[0]⟩ w (by rw [ofL_size]; omega)).mono ?_
    rintro e w' ⟨h1, h2⟩
    exact ⟨by rw [h1, ← hasSuf0]; simp [ofL], h2⟩
  unfold cutZ at hd
  by_cases h0 : l.getLast? = some 0
  · rw [if_pos h0] at hd
    simp only [Prod.mk.injEq] at hd
    obtain ⟨rfl, rfl⟩ := hd
    have hne : l ≠ [] := by rintro rfl; simp at h0
    have hpos := List.length_pos_iff.2 hne
    obtain ⟨m, Hm⟩ := au (l.length - 1)
    have hm : IntKind.i64.wrap ((l.length : Int) - 1) = (m : Int) := by rw [IntKind.wrap_i64]; have := Hm.out; omega
    have hm2 : (l.length : Int) - 1 = (m : Int) := by have := Hm.out; omega
    have hml : m ≤ l.length := by have := Hm.out; omega
    have hx : (ofL l).extract 0 m = ofL l.dropLast := by rw [ofL_extract, List.dropLast_eq_take, Hm.out]; simp
    rw [decide_eq_true h0] at CS
    have HC := Au.mk CS
    clear CS h0 hne hpos
    go_enter Tryz.func165, Tryz.ntmps165
    go_wp2_with fail
    refine HC.out.mono ?_
    rintro e w1 ⟨rfl, rfl⟩
    go_wp2_with fail
    go_ret2
    exact ⟨rfl, rfl⟩
  · rw [if_neg h0] at hd
    simp only [Prod.mk.injEq] at hd
    obtain ⟨rfl, rfl⟩ := hd
    rw [decide_eq_false h0] at CS
    have HC := Au.mk CS
    clear CS h0
    go_enter Tryz.func165, Tryz.ntmps165
    go_wp2_with fail
    refine HC.out.mono ?_
    rintro e w1 ⟨rfl, rfl⟩
    go_wp2_with fail
    go_ret2
    exact ⟨rfl, rfl⟩
theorem ssuf_calls {l d : List UInt8} {r : Bool} (hd : cutZ l = (d, r)) (hl : l.length ≤ 100000) (w : World) :
    Calls Tryz.prog 138 #[.string (ofL l), .string ⟨#[0]⟩] w fun e w' => e = .returned (.tuple #[.string (ofL d), .bool r]) ∧ w = w' := by
  go_enter Tryz.func138, Tryz.ntmps138
  go_wp2_with fail
  refine (cutsuf_calls hd hl _).mono ?_
  rintro e w1 ⟨rfl, rfl⟩
  go_wp2_with fail
  go_ret2
  exact ⟨rfl, rfl⟩
set_option maxHeartbeats 2000000 in
theorem pname_calls (s : Ps) (hs : 0 ≤ s.size ∧ s.size ≤ 301) (h12 : s.phase = 1 ∨ s.phase = 2) (told : List Ev) (b : List UInt8) (hb5 : b.length = 512) {bb o c : Nat} {F : Nat → Prop} {P : Nat} (W : World) (h : PsAt W P s told) (hb : Sl Kd.byte W F (some ⟨bb, o, none⟩) c b) :
    Calls Tryz.prog 90 #[.pointer (some ⟨P, 0, none⟩), .slice (some ⟨bb, o, none⟩) 512 c] W (PRes P told W (pname s b)) := by
  obtain ⟨m, Hm⟩ := au s.size.toNat
  have hm : s.size = (m : Int) := by rw [← Hm.out]; omega
  have hm2 : m ≤ 301 := by omega
  have hbc := hb.1
  have hbm := hb.2.1
  obtain ⟨⟨x, is⟩, Hx⟩ := au (cutZ (b.take m))
  have htl : (b.take m).length = m := by rw [List.length_take]; omega
  have hxl : x.length ≤ 1000 := by
    have := Hx.out
    unfold cutZ at this
    split at this
    · simp only [Prod.mk.injEq] at this
      rw [← this.1, List.length_dropLast]; omega
    · simp only [Prod.mk.injEq] at this
      rw [← this.1]; omega
  obtain ⟨lt, Hlt⟩ := au (ltext x)
  obtain ⟨z, Hz⟩ := au ((b.drop m).any oddZ)
  have hcv : (convert 46 9 (.slice (some ⟨bb, o, none⟩) m c)).run Tryz.prog W = .ok (.string (ofL (b.take m))) W := by
    have hsl := Sl.take (d := Kd.byte) rfl hb m
    have := str_of hsl
    rw [htl] at this; exact this
  have CS := Au.mk (ssuf_calls Hx.out (by omega) W)
  have CL := Au.mk (ltext_calls x (by omega) Hlt.out W)
  have CZ := Au.mk (zeroB_calls (b.drop m) (n := 512 - m) (by rw [List.length_drop]; omega) Hz.out W (hb.drop rfl (by omega)))
  have hE : pname s b = if (is && (lt && !z)) = true then .ok (if s.phase = 1 then ({ s with phase := 0, size := 0, left := 0, name := x }, []) else ({ s with phase := 0, size := 0, left := 0, link := x }, [])) else .error 2 := by
    unfold pname
    rw [Hm.out, Hx.out]
    dsimp only
    rw [Hlt.out, show (b.drop m).any (· != 0) = z from Hz.out]
    unfold must
    cases (is && (lt && !z)) <;> rfl
  have HE := Au.mk hE
  have H := Au.mk h
  obtain ⟨v, k1, -⟩ := h
  have f0 := blk_cell k1 0 rfl
  have f9 := blk_cell k1 9 rfl
  rw [hm] at f9
  have f10 := blk_cell k1 10 rfl
  have f12 := blk_cell k1 12 rfl
  have f13 := blk_cell k1 13 rfl
  obtain ⟨g0, g1, g2, g3, g4, g5, g6, g7, g8, g9, g10, g11, g12, g13⟩ := ps_free k1
  have hmc : m ≤ c := by omega
  have hm5 : m ≤ 512 := by omega
  have hm6 : ¬ c = m := by omega
  have hm7 : ¬ m = c := by omega
  have H12 := Au.mk h12
  clear k1 hb hE hm h12 htl
  have B0 := Below.refl P W
  cases is
  · have hr : pname s b = .error 2 := HE.out
    have Hr := Au.mk hr
    clear hr
    go_enter Tryz.func90, Tryz.ntmps90
    go_wp2_with fail
    refine CS.out.mono ?_
    rintro e w1 ⟨rfl, rfl⟩
    go_wp2_with fail
    refine (must_no 2 _).mono ?_
    rintro e w1 ⟨rfl, rfl⟩
    go_wp2_with fail
    exact ⟨rfl, PRes.err Hr.out B0⟩
  cases lt
  · have hr : pname s b = .error 2 := HE.out
    have Hr := Au.mk hr
    clear hr
    go_enter Tryz.func90, Tryz.ntmps90
    go_wp2_with fail
    refine CS.out.mono ?_
    rintro e w1 ⟨rfl, rfl⟩
    go_wp2_with fail
    refine CL.out.mono ?_
    rintro e w1 ⟨rfl, rfl⟩
    go_wp2_with fail
    refine (must_no 2 _).mono ?_
    rintro e w1 ⟨rfl, rfl⟩
    go_wp2_with fail
    exact ⟨rfl, PRes.err Hr.out B0⟩
  cases z
  · have hr : pname s b = .ok (if s.phase = 1 then ({ s with phase := 0, size := 0, left := 0, name := x }, []) else ({ s with phase := 0, size := 0, left := 0, link := x }, [])) := HE.out
    have Hr := Au.mk hr
    clear hr
    by_cases h1 : s.phase = 1
    · have t1 : (s.phase == 1) = true := by simp [h1]
      have hr2 := Hr.out
      rw [if_pos h1] at hr2
      have Hr2 := Au.mk hr2
      have HA := Au.mk ((((H.out.set 12 (.string (ofL x)) { s with name := x } (fun v => rfl)).set 0 (.int .i64 0) { s with name := x, phase := 0 } (fun v => rfl)).set 9 (.int .i64 0) { s with name := x, phase := 0, size := 0 } (fun v => rfl)).set 10 (.int .i64 0) { s with name := x, phase := 0, size := 0, left := 0 } (fun v => rfl))
      have HB := Au.mk ((((B0.setCell (p := ⟨P, 12, none⟩) (Nat.le_refl _) (.string (ofL x))).setCell (p := ⟨P, 0, none⟩) (Nat.le_refl _) (.int .i64 0)).setCell (p := ⟨P, 9, none⟩) (Nat.le_refl _) (.int .i64 0)).setCell (p := ⟨P, 10, none⟩) (Nat.le_refl _) (.int .i64 0))
      clear h1 hr2
      go_enter Tryz.func90, Tryz.ntmps90
      go_wp2_with fail
      refine CS.out.mono ?_
      rintro e w1 ⟨rfl, rfl⟩
      go_wp2_with fail
      refine CL.out.mono ?_
      rintro e w1 ⟨rfl, rfl⟩
      go_wp2_with fail
      refine CZ.out.mono ?_
      rintro e w1 ⟨rfl, rfl⟩
      go_wp2_with fail
      refine (must_yes 2 _).mono ?_
      rintro e w1 ⟨rfl, rfl⟩
      go_wp2_with fail
      go_end0
      exact PRes.ok Hr2.out (by rw [List.append_nil]; exact HA.out) HB.out
    · have t1 : (s.phase == 1) = false := by simp [h1]
      have hr2 := Hr.out
      rw [if_neg h1] at hr2
      have Hr2 := Au.mk hr2
      have HA := Au.mk ((((H.out.set 13 (.string (ofL x)) { s with link := x } (fun v => rfl)).set 0 (.int .i64 0) { s with link := x, phase := 0 } (fun v => rfl)).set 9 (.int .i64 0) { s with link := x, phase := 0, size := 0 } (fun v => rfl)).set 10 (.int .i64 0) { s with link := x, phase := 0, size := 0, left := 0 } (fun v => rfl))
      have HB := Au.mk ((((B0.setCell (p := ⟨P, 13, none⟩) (Nat.le_refl _) (.string (ofL x))).setCell (p := ⟨P, 0, none⟩) (Nat.le_refl _) (.int .i64 0)).setCell (p := ⟨P, 9, none⟩) (Nat.le_refl _) (.int .i64 0)).setCell (p := ⟨P, 10, none⟩) (Nat.le_refl _) (.int .i64 0))
      clear h1 hr2
      go_enter Tryz.func90, Tryz.ntmps90
      go_wp2_with fail
      refine CS.out.mono ?_
      rintro e w1 ⟨rfl, rfl⟩
      go_wp2_with fail
      refine CL.out.mono ?_
      rintro e w1 ⟨rfl, rfl⟩
      go_wp2_with fail
      refine CZ.out.mono ?_
      rintro e w1 ⟨rfl, rfl⟩
      go_wp2_with fail
      refine (must_yes 2 _).mono ?_
      rintro e w1 ⟨rfl, rfl⟩
      go_wp2_with fail
      go_end0
      exact PRes.ok Hr2.out (by rw [List.append_nil]; exact HA.out) HB.out
  · have hr : pname s b = .error 2 := HE.out
    have Hr := Au.mk hr
    clear hr
    go_enter Tryz.func90, Tryz.ntmps90
    go_wp2_with fail
    refine CS.out.mono ?_
    rintro e w1 ⟨rfl, rfl⟩
    go_wp2_with fail
    refine CL.out.mono ?_
    rintro e w1 ⟨rfl, rfl⟩
    go_wp2_with fail
    refine CZ.out.mono ?_
    rintro e w1 ⟨rfl, rfl⟩
    go_wp2_with fail
    refine (must_no 2 _).mono ?_
    rintro e w1 ⟨rfl, rfl⟩
    go_wp2_with fail
    exact ⟨rfl, PRes.err Hr.out B0⟩
end Go.Proofs.YtldhcknjpmbgnaaGreatDoor.Rk
