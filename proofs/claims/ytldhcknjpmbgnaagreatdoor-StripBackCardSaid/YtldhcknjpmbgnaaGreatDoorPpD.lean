/- Parse: zero, end, data, walked. -/
import Derived.Test.YtldhcknjpmbgnaaGreatDoorPpC
namespace Go.Proofs.YtldhcknjpmbgnaaGreatDoor.Rk
open Go.RowKit Go.Shelf
set_option linter.unusedVariables false
set_option linter.unusedSimpArgs false
set_option maxRecDepth 100000

theorem PRes.ok {P : Nat} {told : List Ev} {W W' : World} {r : Except Int (Ps × List Ev)} {t : Ps} {l : List Ev} (hr : r = .ok (t, l)) (h1 : PsAt W' P t (told ++ l)) (h2 : Below P W W') : PRes P told W r (.returned (.tuple #[])) W' := by
  subst hr; exact ⟨rfl, h1, h2⟩
theorem PRes.err {P : Nat} {told : List Ev} {W W' : World} {r : Except Int (Ps × List Ev)} {c : Int} (hr : r = .error c) (h2 : Below P W W') : PRes P told W r (.panicked (whyP c)) W' := by
  subst hr; exact ⟨rfl, h2⟩
theorem pzero_calls (s : Ps) (told : List Ev) (b : List UInt8) {n : Nat} (hn : b.length = n) {A : Option Addr} {c : Nat} {F : Nat → Prop} {P : Nat} (W : World) (h : PsAt W P s told) (hb : Sl Kd.byte W F A c b) :
    Calls Tryz.prog 92 #[.pointer (some ⟨P, 0, none⟩), .slice A n c] W (PRes P told W (pzero s b)) := by
  obtain ⟨z, Hz⟩ := au (b.any oddZ)
  have CZ := Au.mk (zeroB_calls b hn Hz.out W hb)
  have H := Au.mk h
  obtain ⟨v, k1, -⟩ := h
  have g0 := blk_free k1 0
  have f0 := blk_cell k1 0 rfl
  clear k1 hb
  cases z
  · have hr : pzero s b = .ok ({ s with phase := 5 }, []) := by
      unfold pzero must
      have : b.any (· != 0) = false := Hz.out
      rw [this]; rfl
    have Hr := Au.mk hr
    clear hr
    go_enter Tryz.func92, Tryz.ntmps92
    go_wp2_with fail
    refine CZ.out.mono ?_
    rintro e w1 ⟨rfl, rfl⟩
    go_wp2_with fail
    refine (must_yes 2 _).mono ?_
    rintro e w1 ⟨rfl, rfl⟩
    go_wp2_with fail
    go_end0
    exact PRes.ok Hr.out (by rw [List.append_nil]; exact H.out.set 0 _ { s with phase := 5 } (fun v => rfl)) ((Below.refl P W).setCell (p := ⟨P, 0, none⟩) (Nat.le_refl _) _)
  · have hr : pzero s b = .error 2 := by
      unfold pzero must
      have : b.any (· != 0) = true := Hz.out
      rw [this]; rfl
    have Hr := Au.mk hr
    clear hr
    go_enter Tryz.func92, Tryz.ntmps92
    go_wp2_with fail
    refine CZ.out.mono ?_
    rintro e w1 ⟨rfl, rfl⟩
    go_wp2_with fail
    refine (must_no 2 _).mono ?_
    rintro e w1 ⟨rfl, rfl⟩
    go_wp2_with fail
    exact ⟨rfl, PRes.err Hr.out (Below.refl _ _)⟩
theorem pend_calls (told : List Ev) (A : Option Addr) (n c : Nat) {P : Nat} (W : World) :
    Calls Tryz.prog 93 #[.pointer (some ⟨P, 0, none⟩), .slice A n c] W (PRes P told W (.error 17)) := by
  go_enter Tryz.func93, Tryz.ntmps93
  go_wp2_with fail
  refine (must_no 17 _).mono ?_
  rintro e w1 ⟨rfl, rfl⟩
  go_wp2_with fail
  exact ⟨rfl, PRes.err rfl (Below.refl _ _)⟩
theorem nz_R : nz.R := evOver_R.2.1
theorem evData_R {l : List UInt8} (h : l.length ≤ 512) : (evData l).R :=
  ⟨(show R64 1 from ⟨by decide, by decide⟩), nz_R, (show l.length ≤ maxLen by simp only [maxLen]; omega)⟩
set_option maxHeartbeats 1000000 in
theorem pdata_calls (s : Ps) (hs : 1 ≤ s.left ∧ s.left ≤ 4000) (told : List Ev) (hlen : told.length ≤ 10000) (b : List UInt8) (hb5 : b.length = 512) {bb o c : Nat} {F : Nat → Prop} {P : Nat} (W : World) (h : PsAt W P s told) (hb : Sl Kd.byte W F (some ⟨bb, o, none⟩) c b) :
    Calls Tryz.prog 91 #[.pointer (some ⟨P, 0, none⟩), .slice (some ⟨bb, o, none⟩) 512 c] W (PRes P told W (pdata s b)) := by
  obtain ⟨m, Hm⟩ := au (min s.left 512).toNat
  have hm : min s.left 512 = (m : Int) := by rw [← Hm.out]; omega
  have hm2 : m ≤ 512 := by omega
  have hmc : m ≤ c := by have := hb.1; omega
  obtain ⟨d, Hd⟩ := au (b.take m)
  have hdl : d.length = m := by rw [← Hd.out, List.length_take]; omega
  have hcv : (convert 46 9 (.slice (some ⟨bb, o, none⟩) m c)).run Tryz.prog W = .ok (.string (ofL d)) W := by
    have hsl := Sl.take (d := Kd.byte) rfl hb m
    rw [Hd.out] at hsl
    have := str_of hsl
    rw [hdl] at this; exact this
  have CT : Au (Calls Tryz.prog 139 #[.pointer (some ⟨P, 0, none⟩), .agg #[.int .i64 1, .string ⟨#[]⟩, .string ⟨#[]⟩, .int .u8 0, .int .i64 0, .int .i64 0, .int .i64 0, .int .i64 0, .string ⟨#[]⟩, .string (ofL d)]] W fun r W' => r = .returned (.tuple #[]) ∧ PsAt W' P s (told ++ [evData d]) ∧ Below P W W') :=
    ⟨tell_calls s told (evData d) (evData_R (by omega)) (by omega) W h⟩
  have hw : IntKind.i64.wrap (s.left - m) = s.left - m := by rw [IntKind.wrap_i64]; omega
  have Hm3 := Au.mk hm
  obtain ⟨v, k1, -⟩ := h
  have f10 := blk_cell k1 10 rfl
  have Hdl := Au.mk hdl
  clear k1 hb hdl
  go_enter Tryz.func91, Tryz.ntmps91
  go_wp2_with fail
  refine CT.out.mono ?_
  rintro e w1 ⟨rfl, h1, b1⟩
  have H1 := Au.mk h1
  have B1 := Au.mk b1
  obtain ⟨v1, k1, -⟩ := h1
  have f10' := blk_cell k1 10 rfl
  have g10 := blk_free k1 10
  clear f10 k1 b1 CT
  have h2 := H1.out.set 10 (.int .i64 (s.left - (m : Int))) { s with left := s.left - (m : Int) } (fun v => rfl)
  have b2 := B1.out.setCell (p := ⟨P, 10, none⟩) (Nat.le_refl _) (.int .i64 (s.left - (m : Int)))
  have H2 := Au.mk h2
  have B2 := Au.mk b2
  obtain ⟨v2, k2, -⟩ := h2
  have f2 := blk_cell k2 10 rfl
  clear k2 b2
  go_upto_region 3 with fail
  generalize w1.setCell ⟨P, 10, none⟩ (.int .i64 (s.left - (m : Int))) = w2 at H2 B2 f2 ⊢
  obtain ⟨lf, Hlf⟩ := au (s.left - (m : Int))
  rw [Hlf.out] at H2 f2
  by_cases h0 : lf = 0
  · have CO := Au.mk (over_calls { s with left := lf } (told ++ [evData d]) (by rw [List.length_append, List.length_singleton]; omega) w2 H2.out)
    have hr : pdata s b = .ok (ps0, [evData d, evOver]) := by
      unfold pdata
      rw [if_pos (by rw [Hm3.out, Hlf.out, h0]), Hm.out, Hd.out]
    have Hr := Au.mk hr
    have t0 : (lf == 0) = true := by simp [h0]
    clear hr h0
    go_wp2_with fail
    refine CO.out.mono ?_
    rintro e w3 ⟨rfl, h3, b3⟩
    have H3 := Au.mk h3
    have B3 := Au.mk (B2.out.trans b3)
    clear h3 b3
    go_wp2_with fail
    go_end0
    exact PRes.ok Hr.out (by have := H3.out; rw [List.append_assoc] at this; exact this) B3.out
  · have hr : pdata s b = .ok ({ s with left := lf }, [evData d]) := by
      unfold pdata
      rw [if_neg (by rw [Hm3.out, Hlf.out]; exact h0), Hm.out, Hd.out, Hm3.out, Hlf.out]
    have Hr := Au.mk hr
    have t0 : (lf == 0) = false := by simp [h0]
    clear hr h0
    go_wp2_with fail
    go_end0
    exact PRes.ok Hr.out H2.out B2.out
end Go.Proofs.YtldhcknjpmbgnaaGreatDoor.Rk
