/- ConS: ConA ConB BlkA -/
import Derived.Test.YtldhcknjpmbgnaaGreatDoorStrS
/- What goes on: file, May, put, Put, walked. -/
namespace Go.Proofs.YtldhcknjpmbgnaaGreatDoor.Rk
open Go.RowKit Go.Shelf
set_option linter.unusedVariables false
set_option linter.unusedSimpArgs false
set_option maxRecDepth 100000

theorem cfile_calls (n : Nd) (hS : n.S) {r : Bool} (hr : cfile n = r) (w : World) : Calls Tryz.prog 81 #[n.agg] w fun e w' => e = .returned (.bool r) ∧ Below w.heap.size w w' := by
  have HS := Au.mk hS
  obtain ⟨x, Hx⟩ := au (one n)
  obtain ⟨k, Hk⟩ := au (n.kind == 48)
  have Hr : Au ((k && x) = r) := ⟨by rw [← hr, cfile, Hx.out, Hk.out]⟩
  have hk : ((n.kind.toNat : Int) == 48) = k := by
    rw [← Hk.out, Bool.eq_iff_iff, beq_iff_eq, beq_iff_eq]
    constructor
    · intro h; exact UInt8.toNat_inj.1 (by show n.kind.toNat = 48; omega)
    · rintro h; rw [h]; rfl
  have B0 := Au.mk (nd_box w n)
  have hb0 := (Below.refl w.heap.size w).alloc (Nat.le_refl _) (.cells n.cells.toArray 23)
  obtain ⟨f0, f1, f2, f3, f4, f5, f6, f7⟩ := nd_cells n B0.out
  have Hc := fun w => one_calls n HS.out Hx.out w
  unfold Nd.agg at Hc ⊢
  unfold Nd.cells at f0 f1 f2 f3 f4 f5 f6 f7 hb0 B0
  have Hc := Au.mk Hc
  clear hS hr
  cases k
  · go_enter Tryz.func81, Tryz.ntmps81
    go_wp2_with fail
    go_ret
    exact ⟨ret_bool (by rw [← Hr.out]; rfl), hb0⟩
  · go_enter Tryz.func81, Tryz.ntmps81
    go_wp2_with (go_at_call 49; refine (Hc.out _).mono ?_; rintro e w1 ⟨rfl, b1⟩; have e1 := below_then hb0 b1 hb0.size)
    go_ret
    exact ⟨ret_bool (by rw [← Hr.out]; rfl), e1⟩
set_option maxHeartbeats 2000000 in
theorem cmay_calls (n : Nd) (hS : n.S) (off : Int) (hoff : R64 off) {r : Bool} (hr : cmay n off = r) (w : World) : Calls Tryz.prog 118 #[n.agg, .int .i64 off] w fun e w' => e = .returned (.bool r) ∧ Below w.heap.size w w' := by
  have HS := Au.mk hS
  have hz : (ofL n.data).size = n.data.length := ofL_size _
  obtain ⟨a, Ha⟩ := au (cfile n)
  obtain ⟨b, Hb⟩ := au (decide (0 ≤ off))
  obtain ⟨c, Hc⟩ := au (decide (off < (n.data.length : Int)))
  obtain ⟨d, Hd⟩ := au (off % 512 == 0)
  have Hr : Au ((a && (b && (c && d))) = r) := ⟨by rw [← hr, cmay, Ha.out, Hb.out, Hc.out, Hd.out]⟩
  have B0 := Au.mk (nd_box w n)
  have hb0 := (Below.refl w.heap.size w).alloc (Nat.le_refl _) (.cells n.cells.toArray 23)
  obtain ⟨f0, f1, f2, f3, f4, f5, f6, f7⟩ := nd_cells n B0.out
  have hb := Hb.out
  have hc := Hc.out
  have hd : b = true → ((off.tmod 512) == 0) = d := fun hb1 => by
    have : 0 ≤ off := of_decide_eq_true (by rw [Hb.out, hb1])
    rw [← Hd.out, Int.tmod_eq_emod_of_nonneg this]
  have Hq := fun w => cfile_calls n HS.out Ha.out w
  unfold Nd.agg at Hq ⊢
  unfold Nd.cells at f0 f1 f2 f3 f4 f5 f6 f7 hb0
  have Hq := Au.mk Hq
  clear hS hr
  cases a
  · go_enter Tryz.func118, Tryz.ntmps118
    go_wp2_with (go_at_call 81; refine (Hq.out _).mono ?_; rintro e w1 ⟨rfl, b1⟩; have e1 := below_then hb0 b1 hb0.size; have g7 := cell_below f7 b1; clear f0 f1 f2 f3 f4 f5 f6 f7)
    go_ret
    exact ⟨ret_bool (by rw [← Hr.out]; rfl), e1⟩
  · cases b
    · go_enter Tryz.func118, Tryz.ntmps118
      go_wp2_with (go_at_call 81; refine (Hq.out _).mono ?_; rintro e w1 ⟨rfl, b1⟩; have e1 := below_then hb0 b1 hb0.size; have g7 := cell_below f7 b1; clear f0 f1 f2 f3 f4 f5 f6 f7)
      go_ret
      exact ⟨ret_bool (by rw [← Hr.out]; rfl), e1⟩
    · have hd1 := hd rfl
      have h0 : 0 ≤ off := of_decide_eq_true hb
      have hw : IntKind.i64.wrap (off.tmod 512) = off.tmod 512 := by rw [Int.tmod_eq_emod_of_nonneg h0, IntKind.wrap_i64]; omega
      clear hd h0
      cases c
      · go_enter Tryz.func118, Tryz.ntmps118
        go_wp2_with (go_at_call 81; refine (Hq.out _).mono ?_; rintro e w1 ⟨rfl, b1⟩; have e1 := below_then hb0 b1 hb0.size; have g7 := cell_below f7 b1; clear f0 f1 f2 f3 f4 f5 f6 f7)
        go_ret
        exact ⟨ret_bool (by rw [← Hr.out]; rfl), e1⟩
      · go_enter Tryz.func118, Tryz.ntmps118
        go_wp2_with (go_at_call 81; refine (Hq.out _).mono ?_; rintro e w1 ⟨rfl, b1⟩; have e1 := below_then hb0 b1 hb0.size; have g7 := cell_below f7 b1; clear f0 f1 f2 f3 f4 f5 f6 f7)
        go_ret
        exact ⟨ret_bool (by rw [← Hr.out]; rfl), e1⟩
theorem cjoined_calls (parts : List (List (List UInt8))) {n : Nat} (hn : parts.length = n) {A : Option Addr} {c : Nat} {F : Nat → Prop} (hfl : parts.flatten.length ≤ 1000000) {r : List (List UInt8)} (hr : parts.flatten = r) (w : World) (ha : Sl KBk w F A c parts) :
    Calls Tryz.prog 130 #[.slice A n c] w fun e w' => ∃ A' c', e = .returned (.slice A' r.length c') ∧ Sl (Kd.slice Kd.byte) w' (fun k => F k ∨ w.heap.size ≤ k) A' c' r ∧ Below w.heap.size w w' := by
  have Hc := Au.mk (concat_calls parts hn hfl hr w ha)
  clear hn hfl hr ha
  go_enter Tryz.func130, Tryz.ntmps130
  go_wp2_with fail
  refine Hc.out.mono ?_
  rintro e w1 ⟨A', c', rfl, s1, b1⟩
  go_wp2_with fail
  go_ret
  exact ⟨A', c', rfl, s1, b1⟩
set_option maxHeartbeats 4000000 in
theorem cputB_calls (n : Nd) (hS : n.S) (hR : n.R) (off whole : Int) (ho : 0 ≤ off ∧ off ≤ 1000000) (hw : 0 ≤ whole ∧ whole ≤ 1000000) {l : List (List UInt8)} (hl : cputB n off whole = l) (w : World) :
    Calls Tryz.prog 83 #[n.agg, .int .i64 off, .int .i64 whole] w fun e w' => ∃ A c, e = .returned (.slice A l.length c) ∧ Sl (Kd.slice Kd.byte) w' (fun j => w.heap.size ≤ j) A c l ∧ Below w.heap.size w w' := by
  have HS := Au.mk hS
  have hz : (ofL n.path).size = n.path.length := ofL_size _
  have hp1 := hS.1
  have B0 := Au.mk (nd_box w n)
  have hb0 := (Below.refl w.heap.size w).alloc (Nat.le_refl _) (.cells n.cells.toArray 23)
  obtain ⟨f0, f1, f2, f3, f4, f5, f6, f7⟩ := nd_cells n B0.out
  obtain ⟨x, Hx⟩ := au (decide ((100 : Int) < n.path.length))
  obtain ⟨na, Hna⟩ := au (if x then (lputB 76 n.path).getD [] else [])
  obtain ⟨p, Hp⟩ := au ((hput (contHd n off whole)).getD [])
  obtain ⟨pb, Hpb⟩ := au ((hput (contHd n off whole)).isSome)
  have HR : Au (contHd n off whole).R := ⟨⟨hR.1, hR.2.1, hR.2.2.1, ⟨by show (-9223372036854775808 : Int) ≤ whole - off; omega, by show whole - off < (9223372036854775808 : Int); omega⟩, hR.2.2.2.1, ⟨by show (-9223372036854775808 : Int) ≤ off; omega, by show off < (9223372036854775808 : Int); omega⟩, ⟨by show (-9223372036854775808 : Int) ≤ whole; omega, by show whole < (9223372036854775808 : Int); omega⟩⟩⟩
  have Hl : Au ([na, [p]].flatten = l) := ⟨by
    rw [← hl, ← Hna.out, ← Hp.out, ← Hx.out]; unfold cputB
    have e : decide ((100 : Int) < n.path.length) = decide (100 < n.path.length) := by simp only [decide_eq_decide]; omega
    rw [e]
    by_cases h : 100 < n.path.length <;> simp [h]⟩
  have Hl2 : Au ([na, [p]].flatten.length ≤ 1000000) := ⟨by
    have : na.length ≤ 1000 := by
      rw [← Hna.out]; split
      · have := @lputB_len 76 n.path; omega
      · simp
    simp; omega⟩
  have hmx : Tryz.prog.follows .mixedOrders = true := by kernel_rfl
  have hwx : IntKind.i64.wrap (whole - off) = whole - off := by rw [IntKind.wrap_i64]; omega
  obtain ⟨sh, Hsh⟩ := au (short n.path)
  have hx1 : (ofL n.path).extract 0 100 = ofL sh := by rw [ofL_extract, ← Hsh.out]; simp [short]
  have hx2 : n.path.length ≤ 100 → (ofL n.path).extract 0 n.path.length = ofL sh := fun h => by rw [ofL_extract, ← Hsh.out, short, List.take_of_length_le h, List.take_length]; simp
  have Hcd : Au (contHd n off whole = ⟨sh, [], [], n.mode, n.uid, n.gid, whole - off, n.mtime, 77, off, whole⟩) := ⟨by rw [← Hsh.out]; rfl⟩
  have Hput : Au (∀ W : World, Calls Tryz.prog 101 #[.agg #[.string (ofL sh), .string ⟨#[]⟩, .string ⟨#[]⟩, .int .i64 n.mode, .int .i64 n.uid, .int .i64 n.gid, .int .i64 (whole - off), .int .i64 n.mtime, .int .u8 77, .int .i64 off, .int .i64 whole]] W fun e w' => ∃ A c, e = .returned (.tuple #[.slice A p.length c, .bool pb]) ∧ Sl Kd.byte w' (fun k => W.heap.size ≤ k) A c p ∧ Below W.heap.size W w') := ⟨fun W => by
    have h := hput_view (contHd n off whole) HR.out Hp.out Hpb.out W
    rw [Hcd.out] at h
    exact h⟩
  have hxx := Hx.out
  unfold Nd.agg
  unfold Nd.cells at f0 f1 f2 f3 f4 f5 f6 f7 hb0 B0
  clear hl hS
  cases x
  · have hlt : n.path.length ≤ 100 := by have := of_decide_eq_false hxx; omega
    have hlti : (n.path.length : Int) ≤ 100 := by omega
    have hmn : min (n.path.length : Int) 100 = n.path.length := by omega
    have hx3 := hx2 hlt
    have hna : [] = na := by simpa using Hna.out
    subst hna
    clear hx1 hx2
    have e1 := hb0
    have s1 : Sl (Kd.slice Kd.byte) (w.alloc (.cells #[.string (ofL n.path), .string (ofL n.link), .int .u8 n.kind.toNat, .int .i64 n.mode, .int .i64 n.uid, .int .i64 n.gid, .int .i64 n.mtime, .string (ofL n.data)] 23)) (fun j => w.heap.size ≤ j) none 0 [] := Sl.nil _ _ _
    go_enter Tryz.func83, Tryz.ntmps83
    have hz1 := e1.size
    have s1d : Sl (Kd.slice Kd.byte) (w.alloc (.cells #[.string (ofL n.path), .string (ofL n.link), .int .u8 n.kind.toNat, .int .i64 n.mode, .int .i64 n.uid, .int .i64 n.gid, .int .i64 n.mtime, .string (ofL n.data)] 23)).drew (fun j => w.heap.size ≤ j) none 0 [] := s1.drewN 1
    go_upto_region 4 with fail
    refine region_ops (fun w' => w'.cell? ⟨w.heap.size, 0, none⟩ = some (.string (ofL n.path)) ∧ w'.cell? ⟨w.heap.size, 3, none⟩ = some (.int .i64 n.mode) ∧ w'.cell? ⟨w.heap.size, 4, none⟩ = some (.int .i64 n.uid) ∧ w'.cell? ⟨w.heap.size, 5, none⟩ = some (.int .i64 n.gid) ∧ w'.cell? ⟨w.heap.size, 6, none⟩ = some (.int .i64 n.mtime)) [true, true, true, true, true, true, true, true, true, true, true, true, true, true, true, true, true, true, true, true, true, false, true, true, true, true, true] hmx (by decide) (by kernel_rfl) ⟨f0, f3, f4, f5, f6⟩ ?_
    simp only [opsL]
    iterate 21
      refine ⟨?_, Or.inl ⟨by rfl, fun w' hw' => ?_⟩, ?_⟩
      rotate_left 1
      · obtain ⟨g0, g3, g4, g5, g6⟩ := hw'
        go_simp
        all_goals (with_reducible rfl)
      try simp only [Act.put, List.setIfInBounds_toArray, List.set_cons_zero, List.set_cons_succ]
    refine ⟨by rfl, ?_⟩
    go_simp
    refine (Hput.out _).mono ?_
    rintro e w3 ⟨A3, c3, rfl, s3, b3⟩
    have hz3 := b3.size
    refine ⟨⟨cell_below (w := (w.alloc (.cells #[.string (ofL n.path), .string (ofL n.link), .int .u8 n.kind.toNat, .int .i64 n.mode, .int .i64 n.uid, .int .i64 n.gid, .int .i64 n.mtime, .string (ofL n.data)] 23)).drew) f0 b3, cell_below (w := (w.alloc (.cells #[.string (ofL n.path), .string (ofL n.link), .int .u8 n.kind.toNat, .int .i64 n.mode, .int .i64 n.uid, .int .i64 n.gid, .int .i64 n.mtime, .string (ofL n.data)] 23)).drew) f3 b3, cell_below (w := (w.alloc (.cells #[.string (ofL n.path), .string (ofL n.link), .int .u8 n.kind.toNat, .int .i64 n.mode, .int .i64 n.uid, .int .i64 n.gid, .int .i64 n.mtime, .string (ofL n.data)] 23)).drew) f4 b3, cell_below (w := (w.alloc (.cells #[.string (ofL n.path), .string (ofL n.link), .int .u8 n.kind.toNat, .int .i64 n.mode, .int .i64 n.uid, .int .i64 n.gid, .int .i64 n.mtime, .string (ofL n.data)] 23)).drew) f5 b3, cell_below (w := (w.alloc (.cells #[.string (ofL n.path), .string (ofL n.link), .int .u8 n.kind.toNat, .int .i64 n.mode, .int .i64 n.uid, .int .i64 n.gid, .int .i64 n.mtime, .string (ofL n.data)] 23)).drew) f6 b3⟩, ?_⟩
    have e3 := below_then (below_drewN e1 1) b3 e1.size
    have z3 : w.heap.size ≤ w3.heap.size := e3.size
    have s4 := sl_one_up (B := w.heap.size) (e := 46) z3 rfl (s3.up (Nat.le_trans hz1 (Nat.le_refl _)))
    have s5 := sl_two_up (B := w.heap.size) (e := 36) (by simp; omega) (n := 0) (m := 1) rfl rfl ((s1d.below b3).alloc _) s4
    simp only [World.size_alloc] at s5
    have S5 := Au.mk s5
    have E3 := Au.mk e3
    clear f0 f1 f2 f3 f4 f5 f6 f7 b3 s1d s3 s4 s5 e3 hz3
    try simp only [Act.put, List.setIfInBounds_toArray, List.set_cons_zero, List.set_cons_succ]
    iterate 5
      refine ⟨?_, Or.inl ⟨by rfl, fun w' hw' => ?_⟩, ?_⟩
      rotate_left 1
      · clear hw'
        go_simp
        all_goals (with_reducible rfl)
      try simp only [Act.put, List.setIfInBounds_toArray, List.set_cons_zero, List.set_cons_succ]
    go_wp2_with fail
    simp only [Calm]
    go_wp2_with (go_at_call 130; refine (cjoined_calls [[], [p]] rfl Hl2.out Hl.out _ S5.out).mono ?_; rintro e w6 ⟨A6, c6, rfl, s6, b6⟩; have e6 := below_then ((E3.out.alloc z3 _).alloc (by simp; omega) _) b6 (by simp; omega))
    go_ret
    exact ⟨A6, c6, rfl, s6.mono (fun k hk => by rcases hk with hk | hk; exact hk; simp at hk; omega), e6⟩
  · have hgt : (100 : Int) ≤ n.path.length := by have := of_decide_eq_true hxx; omega
    have hmn : min (n.path.length : Int) 100 = 100 := by omega
    clear hx2
    have hnl : (lputB 76 n.path).getD [] = na := by simpa using Hna.out
    obtain ⟨nb, Hnb⟩ := au ((lputB 76 n.path).isSome)
    go_enter Tryz.func83, Tryz.ntmps83
    go_wp2_with (go_at_call 129; refine (lput76_calls n.path hp1 hnl Hnb.out _).mono ?_; rintro e w1 ⟨A1, c1, rfl, s1', b1⟩; have e1 := below_then hb0 b1 hb0.size; have s1 := s1'.up hb0.size; have g0 := cell_below f0 b1; have g3 := cell_below f3 b1; have g4 := cell_below f4 b1; have g5 := cell_below f5 b1; have g6 := cell_below f6 b1; clear f0 f1 f2 f3 f4 f5 f6 f7 b1 s1'; have f0 := g0; have f3 := g3; have f4 := g4; have f5 := g5; have f6 := g6; clear g0 g3 g4 g5 g6)
    have hz1 := e1.size
    have s1d : Sl (Kd.slice Kd.byte) w1.drew (fun j => w.heap.size ≤ j) A1 c1 na := s1.drewN 1
    refine region_ops (fun w' => w'.cell? ⟨w.heap.size, 0, none⟩ = some (.string (ofL n.path)) ∧ w'.cell? ⟨w.heap.size, 3, none⟩ = some (.int .i64 n.mode) ∧ w'.cell? ⟨w.heap.size, 4, none⟩ = some (.int .i64 n.uid) ∧ w'.cell? ⟨w.heap.size, 5, none⟩ = some (.int .i64 n.gid) ∧ w'.cell? ⟨w.heap.size, 6, none⟩ = some (.int .i64 n.mtime)) [true, true, true, true, true, true, true, true, true, true, true, true, true, true, true, true, true, true, true, true, true, false, true, true, true, true, true] hmx (by decide) (by kernel_rfl) ⟨f0, f3, f4, f5, f6⟩ ?_
    simp only [opsL]
    iterate 21
      refine ⟨?_, Or.inl ⟨by rfl, fun w' hw' => ?_⟩, ?_⟩
      rotate_left 1
      · obtain ⟨g0, g3, g4, g5, g6⟩ := hw'
        go_simp
        all_goals (with_reducible rfl)
      try simp only [Act.put, List.setIfInBounds_toArray, List.set_cons_zero, List.set_cons_succ]
    refine ⟨by rfl, ?_⟩
    go_simp
    refine (Hput.out _).mono ?_
    rintro e w3 ⟨A3, c3, rfl, s3, b3⟩
    have hz3 := b3.size
    refine ⟨⟨cell_below (w := w1.drew) f0 b3, cell_below (w := w1.drew) f3 b3, cell_below (w := w1.drew) f4 b3, cell_below (w := w1.drew) f5 b3, cell_below (w := w1.drew) f6 b3⟩, ?_⟩
    have e3 := below_then (below_drewN e1 1) b3 e1.size
    have z3 : w.heap.size ≤ w3.heap.size := e3.size
    have s4 := sl_one_up (B := w.heap.size) (e := 46) z3 rfl (s3.up (Nat.le_trans hz1 (Nat.le_refl _)))
    have s5 := sl_two_up (B := w.heap.size) (e := 36) (by simp; omega) (n := na.length) (m := 1) rfl rfl ((s1d.below b3).alloc _) s4
    simp only [World.size_alloc] at s5
    have S5 := Au.mk s5
    have E3 := Au.mk e3
    clear f0 f3 f4 f5 f6 b3 s1d s3 s4 s5 e3 hz3
    try simp only [Act.put, List.setIfInBounds_toArray, List.set_cons_zero, List.set_cons_succ]
    iterate 5
      refine ⟨?_, Or.inl ⟨by rfl, fun w' hw' => ?_⟩, ?_⟩
      rotate_left 1
      · clear hw'
        go_simp
        all_goals (with_reducible rfl)
      try simp only [Act.put, List.setIfInBounds_toArray, List.set_cons_zero, List.set_cons_succ]
    go_wp2_with fail
    simp only [Calm]
    go_wp2_with (go_at_call 130; refine (cjoined_calls [na, [p]] rfl Hl2.out Hl.out _ S5.out).mono ?_; rintro e w6 ⟨A6, c6, rfl, s6, b6⟩; have e6 := below_then ((E3.out.alloc z3 _).alloc (by simp; omega) _) b6 (by simp; omega))
    go_ret
    exact ⟨A6, c6, rfl, s6.mono (fun k hk => by rcases hk with hk | hk; exact hk; simp at hk; omega), e6⟩
end Go.Proofs.YtldhcknjpmbgnaaGreatDoor.Rk
/- What goes on: Put; blocks: Same, May, walked. -/
namespace Go.Proofs.YtldhcknjpmbgnaaGreatDoor.Rk
open Go.RowKit Go.Shelf
set_option linter.unusedVariables false
set_option linter.unusedSimpArgs false
set_option maxRecDepth 100000

theorem cput_calls (n : Nd) (hS : n.S) (hR : n.R) (off : Int) (hoff : R64 off) {l : List (List UInt8)} (hl : cput n off = l) {b : Bool} (hb : cmay n off = b) (w : World) :
    Calls Tryz.prog 70 #[n.agg, .int .i64 off] w fun e w' => ∃ A c, e = .returned (.tuple #[.slice A l.length c, .bool b]) ∧ Sl (Kd.slice Kd.byte) w' (fun j => w.heap.size ≤ j) A c l ∧ Below w.heap.size w w' := by
  have hz : (ofL n.data).size = n.data.length := ofL_size _
  have B0 := Au.mk (nd_box w n)
  have hb0 := (Below.refl w.heap.size w).alloc (Nat.le_refl _) (.cells n.cells.toArray 23)
  obtain ⟨f0, f1, f2, f3, f4, f5, f6, f7⟩ := nd_cells n B0.out
  have Hm : Au (∀ w, Calls Tryz.prog 118 #[n.agg, .int .i64 off] w fun e w' => e = .returned (.bool b) ∧ Below w.heap.size w w') := ⟨fun w => cmay_calls n hS off hoff hb w⟩
  have Hp : Au (b = true → ∀ w, Calls Tryz.prog 83 #[n.agg, .int .i64 off, .int .i64 n.data.length] w fun e w' => ∃ A c, e = .returned (.slice A l.length c) ∧ Sl (Kd.slice Kd.byte) w' (fun j => w.heap.size ≤ j) A c l ∧ Below w.heap.size w w') := ⟨fun hbt w => by
    rw [hbt] at hb
    have h2 := hb
    unfold cmay at h2
    simp only [Bool.and_eq_true, decide_eq_true_eq] at h2
    have := hS.2.2
    exact cputB_calls n hS hR off n.data.length ⟨h2.2.1, by omega⟩ ⟨by omega, by omega⟩ (by rw [← hl, cput, if_pos hb]) w⟩
  have Hl0 : Au (b = false → [] = l) := ⟨fun h => by rw [← hl, cput, hb, h]; rfl⟩
  have Hnd := Au.mk (rfl : n.cells = n.cells)
  unfold Nd.agg at Hm Hp ⊢
  unfold Nd.cells at f0 f1 f2 f3 f4 f5 f6 f7 hb0
  clear hl hb hS hR
  go_enter Tryz.func70, Tryz.ntmps70
  go_wp2_with fail
  refine (Hm.out _).mono ?_
  rintro e w1 ⟨rfl, b1⟩
  have B1 := Au.mk (blk_below B0.out b1 (lt_of_block B0.out))
  have e1 := below_then hb0 b1 hb0.size
  clear f0 f1 f2 f3 f4 f5 f6 f7 hb0 b1 B0
  obtain ⟨f0, f1, f2, f3, f4, f5, f6, f7⟩ := nd_cells n B1.out
  cases b
  · have h0 := Hl0.out rfl
    subst h0
    go_wp2_with fail
    go_ret2
    exact ⟨none, 0, rfl, Sl.nil _ _ _, e1⟩
  · go_wp2_with fail
    refine (Hp.out (by first | trivial | rfl) _).mono ?_
    rintro e w2 ⟨A2, c2, rfl, s2, b2⟩
    have e2 := below_then e1 b2 e1.size
    have S2 := Au.mk (s2.up e1.size)
    clear f0 f1 f2 f3 f4 f5 f6 f7 b2 s2
    go_wp2_with fail
    go_ret2
    exact ⟨A2, c2, rfl, S2.out, e2⟩
end Go.Proofs.YtldhcknjpmbgnaaGreatDoor.Rk
/- Blocks and volumes: Same, May, walked. -/
namespace Go.Proofs.YtldhcknjpmbgnaaGreatDoor.Rk
open Go.RowKit Go.Shelf
set_option linter.unusedVariables false
set_option linter.unusedSimpArgs false
set_option maxRecDepth 100000

theorem getElem_of {α : Type} {l : List α} {k : Nat} {x : α} (hx : l[k]? = some x) (hk : k < l.length) : l[k] = x := (List.getElem?_eq_some_iff.1 hx).2
theorem take_snocX {α : Type} {l : List α} {k : Nat} {x : α} (h : l[k]? = some x) : l.take (k + 1) = l.take k ++ [x] := by
  have hlt := (List.getElem?_eq_some_iff.1 h).1
  rw [List.take_succ_eq_append_getElem hlt, (List.getElem?_eq_some_iff.1 h).2]
set_option maxHeartbeats 1000000 in
theorem bsameF_calls (l m : List (List UInt8)) {n k' : Nat} (hn : l.length = n) (hm : m.length = k') {r : Bool} (hr : (l == m) = r) {A B : Option Addr} {c d : Nat} {F G : Nat → Prop} (w : World) (ha : Sl (Kd.slice Kd.byte) w F A c l) (hb : Sl (Kd.slice Kd.byte) w G B d m) :
    Calls Tryz.prog 127 #[.slice A n c, .slice B k' d, .func (.func 128) #[] #[]] w fun e w' => e = .returned (.bool r) ∧ Drawn w w' := by
  subst hn hm
  have Hr := Au.mk hr
  clear hr
  by_cases hlen : l.length = m.length
  · have c1 : ((l.length : Int) != (m.length : Int)) = false := by simp [hlen]
    have c1' : (l.length == m.length) = true := by simp [hlen]
    have hle := ha.le
    have Hlen := Au.mk hlen
    clear hlen
    go_enter Tryz.func127, Tryz.ntmps127
    go_wp2_with fail
    go_loopw [17] (fun i wr => ∃ k : Nat, k ≤ l.length ∧ i = .int .i64 k ∧ Au (l.take k = m.take k) ∧ Drawn w wr) (fun i _ => l.length - (intOf i).toNat)
    case atStart => exact ⟨0, Nat.zero_le _, rfl, ⟨rfl⟩, Drawn.refl _⟩
    case round =>
      obtain ⟨k, hk, rfl, ht, ⟨nd, rfl⟩⟩ := hrel
      by_cases hlt : k < l.length
      · have hlt2 : k < m.length := Hlen.out ▸ hlt
        obtain ⟨x, hx⟩ : ∃ x, l[k]? = some x := ⟨_, List.getElem?_eq_getElem hlt⟩
        obtain ⟨y, hy⟩ : ∃ y, m[k]? = some y := ⟨_, List.getElem?_eq_getElem hlt2⟩
        obtain ⟨a1, a2, A', c', rfl, ca, sa⟩ := ha.slice_at hx
        obtain ⟨b1, b2, B', d', rfl, cb, sb⟩ := hb.slice_at hy
        have Hx := Au.mk hx
        have Hy := Au.mk hy
        have Sa := Au.mk (sa.drewN nd)
        have Sb := Au.mk (sb.drewN nd)
        obtain ⟨q, Hq⟩ := au (x == y)
        clear hx hy sa sb
        cases q
        · have hr2 : r = false := by rw [← Hr.out, beq_eq_false_iff_ne]; rintro rfl; exact absurd (Option.some.inj (Hx.out.symm.trans Hy.out)) (by simpa using Hq.out)
          subst hr2
          go_wp2_with (go_at_call 128; refine (equal_calls x y _ _ _ _ _ _ _ Sa.out Sb.out).mono ?_; rintro e w2 ⟨rfl, ⟨n2, rfl⟩⟩; rw [Hq.out])
          go_ret
          exact ⟨rfl, _, rfl⟩
        · go_wp2_with (go_at_call 128; refine (equal_calls x y _ _ _ _ _ _ _ Sa.out Sb.out).mono ?_; rintro e w2 ⟨rfl, ⟨n2, rfl⟩⟩; rw [Hq.out])
          go_roundw
          case rel =>
            refine ⟨k + 1, by omega, by go_num, ⟨?_⟩, _, rfl⟩
            rw [take_snocX Hx.out, take_snocX Hy.out, ht.out, show x = y from by simpa using Hq.out]
          case measure => simp [intOf]; omega
      · have hkl : k = l.length := by omega
        have he : (l == m) = true := by
          have := ht.out
          rw [List.take_of_length_le (by omega), List.take_of_length_le (by rw [← Hlen.out]; omega)] at this
          simp [this]
        rw [Hr.out] at he
        subst he
        clear hkl
        go_wp2_with fail
        go_ret
        exact ⟨rfl, ⟨nd, rfl⟩⟩
  · have he : (l == m) = false := by
      rw [beq_eq_false_iff_ne]; rintro rfl; exact hlen rfl
    rw [Hr.out] at he
    subst he
    have c1 : ((l.length : Int) != (m.length : Int)) = true := by simp; omega
    have c1' : (l.length == m.length) = false := by simp [hlen]
    go_enter Tryz.func127, Tryz.ntmps127
    go_wp2_with fail
    go_ret
    exact ⟨rfl, Drawn.refl _⟩
theorem bsame_calls (l m : List (List UInt8)) {n k' : Nat} (hn : l.length = n) (hm : m.length = k') {r : Bool} (hr : (l == m) = r) {A B : Option Addr} {c d : Nat} {F G : Nat → Prop} (w : World) (ha : Sl (Kd.slice Kd.byte) w F A c l) (hb : Sl (Kd.slice Kd.byte) w G B d m) :
    Calls Tryz.prog 82 #[.slice A n c, .slice B k' d] w fun e w' => e = .returned (.bool r) ∧ Drawn w w' := by
  have Hc := Au.mk (bsameF_calls l m hn hm hr w ha hb)
  go_enter Tryz.func82, Tryz.ntmps82
  go_wp2_with fail
  refine Hc.out.mono ?_
  rintro e w1 ⟨rfl, b1⟩
  go_wp2_with fail
  go_ret
  exact ⟨rfl, b1⟩
abbrev KBk3 : Kd (List (List UInt8)) := Kd.slice (Kd.slice Kd.byte)
/-- An odd block. -/
def oddB (b : List UInt8) : Bool := b.length != 512
def idxB (xs : List (List UInt8)) : Int := match xs.findIdx? oddB with | some j => (j : Int) | none => -1
theorem idxB_none {xs : List (List UInt8)} (h : ∀ x ∈ xs, oddB x = false) : idxB xs = -1 := by
  unfold idxB
  rw [List.findIdx?_eq_none_iff.2 h]
theorem idxB_some {xs : List (List UInt8)} {k : Nat} {x : List UInt8} (hk : xs[k]? = some x) (hx : oddB x = true) (h : ∀ y ∈ xs.take k, oddB y = false) : idxB xs = (k : Int) := by
  unfold idxB
  obtain ⟨hlt, he⟩ := List.getElem?_eq_some_iff.1 hk
  have : xs.findIdx? oddB = some k := by
    rw [List.findIdx?_eq_some_iff_getElem]
    refine ⟨hlt, by rw [he]; exact hx, fun j hj => ?_⟩
    have hm : xs[j] ∈ xs.take k := by
      rw [List.mem_take_iff_getElem]
      exact ⟨j, by omega, rfl⟩
    rw [h _ hm]; simp
  rw [this]
end Go.Proofs.YtldhcknjpmbgnaaGreatDoor.Rk
