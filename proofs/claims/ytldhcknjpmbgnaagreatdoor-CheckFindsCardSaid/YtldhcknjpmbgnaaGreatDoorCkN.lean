/- CheckNext, walked. -/
import Derived.Test.YtldhcknjpmbgnaaGreatDoorCkH
import Derived.Test.YtldhcknjpmbgnaaGreatDoorVOrd
namespace Go.Proofs.YtldhcknjpmbgnaaGreatDoor.Rk
open Go.RowKit Go.Shelf
set_option linter.unusedVariables false
set_option linter.unusedSimpArgs false
set_option maxRecDepth 100000

theorem next_bound (s : Ps) (name : List UInt8) (num : Int) (l : List Tp) : -1 ≤ cnextT s name num l ∧ cnextT s name num l < l.length := by
  rcases next_spec s name num l with ⟨h, _⟩ | ⟨i, t, h, h2, _⟩
  · rw [h]; omega
  · have := (List.getElem?_eq_some_iff.1 h2).1
    rw [h]; omega
theorem next_in (s : Ps) (name : List UInt8) (num : Int) (l : List Tp) : (cnextT s name num l == -1 || ((cfind l name num).map fun i : Nat => (i : Int)).any (· == cnextT s name num l)) = true := by
  rcases next_spec s name num l with ⟨h, _⟩ | ⟨i, t, h, _, _, h3, _⟩
  · rw [h]; rfl
  · rw [h]
    have : ((cfind l name num).map fun i : Nat => (i : Int)).any (· == (i : Int)) = true := List.any_eq_true.2 ⟨(i : Int), List.mem_map.2 ⟨i, h3, rfl⟩, by simp⟩
    rw [this, Bool.or_true]
theorem next_at {s : Ps} {name : List UInt8} {num : Int} {l : List Tp} {k : Nat} {t : Tp} (hk : l[k]? = some t) :
    ((cfitsT s name num t).2 ≠ 0 → (k : Int) ≠ cnextT s name num l) ∧ ((cfitsT s name num t).2 = 0 → 0 ≤ cnextT s name num l ∧ cnextT s name num l ≤ k) := by
  rcases next_spec s name num l with ⟨h, h2⟩ | ⟨i, u, h, h2, h3, _, h4⟩
  · rw [h]
    exact ⟨fun _ => by omega, fun h0 => absurd h0 (h2 k t hk)⟩
  · rw [h]
    refine ⟨fun h0 e => ?_, fun h0 => ?_⟩
    · have : k = i := by omega
      subst this
      rw [hk] at h2
      injection h2 with h2
      subst h2
      exact h0 h3
    · have := h4 k t hk h0
      omega
theorem any_snoc {l : List Int} {j : Nat} {x : Int} (h : l[j]? = some x) (q : Int) (b : Bool) : (b || (l.take (j + 1)).any (· == q)) = ((b || (l.take j).any (· == q)) || x == q) := by
  obtain ⟨h1, h2⟩ := List.getElem?_eq_some_iff.1 h
  rw [List.take_succ_eq_append_getElem h1, h2, List.any_append]
  cases b <;> simp
set_option maxHeartbeats 4000000 in
theorem CheckNext_walk (s : Ps) (hR : s.R) (name : List UInt8) (num : Int) (l : List Tp) (k : Int) (hname : name.length ≤ maxLen) (hnum : R64 num) (hk : R64 k) {A : Option Addr} {c : Nat} {F : Nat → Prop} (w : World) (ha : Sl Kd.tp w F A c l) (hT : Tab w) :
    Calls Tryz.prog 3 #[s.agg, .string (ofL name), .int .i64 num, .slice A l.length c, .int .i64 k] w fun e w' => e = .returned (.bool true) ∧ Below w.heap.size w w' := by
  have HR := Au.mk hR
  have J0 : Au ((w.alloc (.cells s.cells.toArray 25)).heap[w.heap.size]? = some (.cells s.cells.toArray 25 (0, 0))) := ⟨heap_alloc_new _ _⟩
  have e0 := (Below.refl w.heap.size w).alloc (Nat.le_refl _) (.cells s.cells.toArray 25)
  have a0 := Au.mk (ha.old.alloc (.cells s.cells.toArray 25))
  have T0 := Au.mk (hT.below e0)
  have hll := ha.le
  have hz : (ofL name).size = name.length := ofL_size _
  obtain ⟨one, Hone⟩ := au (fewPs s)
  have C9 := Au.mk (fun W : World => few09_calls s HR.out Hone.out W)
  have CN := Au.mk (fun (hS : s.S) (r : Int) (h : cnextT s name num l = r) (W : World) (hT : Tab W) (h2 : Sl Kd.tp W (fun k => F k ∧ k < w.heap.size) A c l) => cnextT_calls s hS HR.out name num l rfl h W hT h2)
  have CF := Au.mk (fun (hS : s.S) (t : Tp) (hR : R64 t.cap) (m : Nat) (hm : t.recs.length = m) (q er : Int) (h : cfitsT s name num t = (q, er)) (A : Option Addr) (c : Nat) (F : Nat → Prop) (W : World) (hT : Tab W) (h2 : Sl (Kd.slice Kd.byte) W F A c t.recs) => cfits_calls s hS HR.out name num t hR hm h W hT h2)
  unfold Ps.agg at C9 CN CF ⊢
  unfold Ps.cells at e0 a0 J0 T0
  clear ha hT hR hnum
  go_enter Tryz.func3, Tryz.ntmps3
  go_wp2_with fail
  refine (awake18_calls _ T0.out).mono ?_
  rintro e w1 ⟨rfl, b1⟩
  have e1 := Au.mk (below_then e0 b1 e0.size)
  have J1 := Au.mk (blk_below J0.out b1 (lt_of_block J0.out))
  have T1 := Au.mk (T0.out.below b1)
  have a1 := Au.mk (a0.out.below b1)
  clear b1 e0
  obtain ⟨f0, f1, f2, f3, f4, f5, f6, f7, f8, f9, f10, f11, f12, f13⟩ := st_cells s J1.out
  go_wp2_with fail
  refine (C9.out _).mono ?_
  rintro e w2 ⟨rfl, b2⟩
  have e2 := Au.mk (below_then e1.out b2 e1.out.size)
  have J2 := Au.mk (blk_below J1.out b2 (lt_of_block J1.out))
  have T2 := Au.mk (T1.out.below b2)
  have a2 := Au.mk (a1.out.below b2)
  clear f0 f1 f2 f3 f4 f5 f6 f7 f8 f9 f10 f11 f12 f13 b2
  have C18 := Au.mk (few18_calls l rfl w2 a2.out)
  go_wp2_with fail
  refine C18.out.mono ?_
  rintro e w3 ⟨⟨two, rfl, htwo⟩, rfl⟩
  have Htwo := Au.mk htwo
  clear htwo C18
  cases one
  · go_wp2_with fail
    go_ret
    exact ⟨rfl, e2.out⟩
  cases two
  · go_wp2_with fail
    go_ret
    exact ⟨rfl, e2.out⟩
  by_cases h200 : (200 : Int) < name.length
  · go_wp2_with fail
    go_ret
    exact ⟨rfl, e2.out⟩
  have hS := Au.mk (fewPs_S Hone.out)
  have h15 : l.length ≤ 15 := Htwo.out rfl
  obtain ⟨ni, Hni⟩ := au (cnextT s name num l)
  obtain ⟨f0, f1, f2, f3, f4, f5, f6, f7, f8, f9, f10, f11, f12, f13⟩ := st_cells s J2.out
  go_wp2_with fail
  refine (CN.out hS.out ni Hni.out _ T2.out a2.out).mono ?_
  rintro e w3 ⟨rfl, b3⟩
  have e3 := Au.mk (below_then e2.out b3 e2.out.size)
  have J3 := Au.mk (blk_below J2.out b3 (lt_of_block J2.out))
  have T3 := Au.mk (T2.out.below b3)
  have a3 := Au.mk (a2.out.below b3)
  clear f0 f1 f2 f3 f4 f5 f6 f7 f8 f9 f10 f11 f12 f13 b3
  have hb := next_bound s name num l
  rw [Hni.out] at hb
  have hb1 : ¬ ni < -1 := by omega
  have hb2 : ¬ (l.length : Int) ≤ ni := by omega
  have Hb := Au.mk hb
  obtain ⟨b0, B0⟩ := au (ni == -1)
  have hb0 := B0.out
  obtain ⟨xs, Xs⟩ := au ((cfind l name num).map fun i : Nat => (i : Int))
  obtain ⟨m, Xm⟩ := au xs.length
  have hin := next_in s name num l
  rw [Hni.out, B0.out, Xs.out] at hin
  have Hin := Au.mk hin
  have CD := Au.mk (find_calls name num l (by omega) rfl Xs.out Xm.out w3 T3.out a3.out)
  clear hb hin
  go_wp2_with fail
  refine CD.out.mono ?_
  rintro e w4 ⟨A4, c4, rfl, s4, b4⟩
  have e4 := Au.mk (below_then e3.out b4 e3.out.size)
  have J4 := Au.mk (blk_below J3.out b4 (lt_of_block J3.out))
  have T4 := Au.mk (T3.out.below b4)
  have a4 := Au.mk (a3.out.below b4)
  have S4 := Au.mk s4
  have hm4 := s4.le
  rw [Xm.out] at hm4
  clear s4 b4 CD CN
  go_wp2_with fail
  go_loop [15, 17] (fun v i => ∃ (j : Nat) (q : Bool), j ≤ m ∧ v = .bool q ∧ i = .int .i64 j ∧ Au ((b0 || (xs.take j).any (· == ni)) = q)) (fun _ i => m - (intOf i).toNat)
  case atStart => exact ⟨0, b0, Nat.zero_le _, rfl, rfl, ⟨by simp⟩⟩
  case round =>
    obtain ⟨j, q, hj, rfl, rfl, Hq⟩ := hrel
    by_cases hlt : j < m
    · have hlti : (j : Int) < m := by omega
      obtain ⟨x, hx⟩ : ∃ x, xs[j]? = some x := ⟨_, List.getElem?_eq_getElem (by have := Xm.out; omega)⟩
      obtain ⟨-, b, o, rfl, ck⟩ := S4.out.intI_at hx
      obtain ⟨d, Hd⟩ := au (x == ni)
      have hd := Hd.out
      have Hx := Au.mk hx
      clear hx
      cases q
      · go_wp2_with fail
        go_round
        case rel =>
          refine ⟨j + 1, d, by omega, rfl, by go_num, ⟨?_⟩⟩
          rw [any_snoc Hx.out, Hq.out, Hd.out]; rfl
        case measure => simp [intOf]; omega
      · go_wp2_with fail
        go_round
        case rel =>
          refine ⟨j + 1, true, by omega, rfl, by go_num, ⟨?_⟩⟩
          rw [any_snoc Hx.out, Hq.out]; rfl
        case measure => simp [intOf]; omega
    · have hge : ¬ ((j : Int) < m) := by omega
      have hq : q = true := by
        have := Hq.out
        rw [List.take_of_length_le (by have := Xm.out; omega), Hin.out] at this
        exact this.symm
      subst hq
      by_cases hk0 : k < 0
      · go_wp2_with fail
        go_ret
        exact ⟨rfl, e4.out⟩
      by_cases hkl : (l.length : Int) ≤ k
      · go_wp2_with fail
        go_ret
        exact ⟨rfl, e4.out⟩
      obtain ⟨kn, rfl⟩ : ∃ kn : Nat, k = (kn : Int) := ⟨k.toNat, by omega⟩
      obtain ⟨t, ht⟩ : ∃ t, l[kn]? = some t := ⟨_, List.getElem?_eq_getElem (by omega)⟩
      obtain ⟨b, o, A5, c5, rfl, hRt, g0, g1, g2, s5⟩ := a4.out.tp_at ht
      obtain ⟨mt, Hmt⟩ := au t.recs.length
      rw [Hmt.out] at g1
      obtain ⟨⟨fk, er⟩, Hf⟩ := au (cfitsT s name num t)
      have hat := next_at (s := s) (name := name) (num := num) ht
      rw [Hf.out, Hni.out] at hat
      have Hat := Au.mk hat
      have CF2 := Au.mk (CF.out hS.out t hRt mt Hmt.out fk er Hf.out A5 c5 _ w4.drew (T4.out.below (below_drewN (Below.refl _ _) 1)) (s5.drewN 1))
      have hmx : Tryz.prog.follows .mixedOrders = true := by kernel_rfl
      obtain ⟨f0, f1, f2, f3, f4, f5, f6, f7, f8, f9, f10, f11, f12, f13⟩ := st_cells s J4.out
      have hkn : kn < l.length := by omega
      clear ht hat s5 CF
      go_wp2_with fail
      refine region_ord (fun w' => w'.heap[w.heap.size]? = some (.cells #[.int .i64 s.phase, .string (ofL s.node.path), .string (ofL s.node.link), .int .u8 s.node.kind.toNat, .int .i64 s.node.mode, .int .i64 s.node.uid, .int .i64 s.node.gid, .int .i64 s.node.mtime, .string (ofL s.node.data), .int .i64 s.size, .int .i64 s.left, .string (ofL s.text), .string (ofL s.name), .string (ofL s.link)] 25 (0, 0)) ∧ w'.cell? ⟨b, o + kn * 3, none⟩ = some (.int .i64 t.cap) ∧ w'.cell? ⟨b, o + kn * 3 + 1, none⟩ = some (.slice A5 mt c5) ∧ w'.cell? ⟨b, o + kn * 3 + 2, none⟩ = some (.bool t.mark)) [(true, 0), (true, 1), (true, 2), (true, 3), (true, 4), (true, 5), (true, 6), (false, 7), (true, 8), (true, 9), (true, 10), (true, 11), (true, 12)] hmx (by kernel_rfl) ⟨J4.out, g0, g1, g2⟩ ?_
      simp only [ordL, List.getElem?_toArray, List.getElem?_cons_succ, List.getElem?_cons_zero]
      clear f0 f1 f2 f3 f4 f5 f6 f7 f8 f9 f10 f11 f12 f13
      iterate 7
        refine ⟨?_, Or.inl ⟨by rfl, fun w' hw' => ?_⟩, ?_⟩
        rotate_left 1
        · have h0 := blk_cell hw'.1 0 rfl
          have h1 := blk_cell hw'.1 1 rfl
          have h2 := blk_cell hw'.1 2 rfl
          have h3 := blk_cell hw'.1 3 rfl
          have h4 := blk_cell hw'.1 4 rfl
          have h5 := blk_cell hw'.1 5 rfl
          have h6 := blk_cell hw'.1 6 rfl
          have h7 := blk_cell hw'.1 7 rfl
          have h8 := blk_cell hw'.1 8 rfl
          have h9 := blk_cell hw'.1 9 rfl
          have h10 := blk_cell hw'.1 10 rfl
          have h11 := blk_cell hw'.1 11 rfl
          have h12 := blk_cell hw'.1 12 rfl
          have h13 := blk_cell hw'.1 13 rfl
          have k0 := hw'.2.1
          have k1 := hw'.2.2.1
          have k2 := hw'.2.2.2
          clear hw'
          go_simp
          all_goals (with_reducible rfl)
        try simp only [Act.put, List.setIfInBounds_toArray, List.set_cons_zero, List.set_cons_succ]
      refine ⟨by first | rfl | trivial, ?_⟩
      go_simp
      refine CF2.out.mono ?_
      rintro e w5 ⟨rfl, b5⟩
      have e5 := Au.mk (below_then (below_drewN e4.out 1) b5 e4.out.size)
      refine ⟨⟨blk_below (w := w4.drew) J4.out b5 (lt_of_block J4.out), cell_below (w := w4.drew) g0 b5, cell_below (w := w4.drew) g1 b5, cell_below (w := w4.drew) g2 b5⟩, ?_⟩
      try simp only [Act.put, List.setIfInBounds_toArray, List.set_cons_zero, List.set_cons_succ]
      iterate 5
        refine ⟨?_, Or.inl ⟨by rfl, fun w' hw' => ?_⟩, ?_⟩
        rotate_left 1
        · clear hw'
          go_simp
          all_goals (with_reducible rfl)
        try simp only [Act.put, List.setIfInBounds_toArray, List.set_cons_zero, List.set_cons_succ]
      clear g0 g1 g2 b5 CF2
      go_wp2_with fail
      simp only [Calm]
      by_cases her : er = 0
      · obtain ⟨p1, p2⟩ := Hat.out.2 her
        subst her
        obtain ⟨d, Hd⟩ := au ((kn : Int) != ni)
        have hd := Hd.out
        cases d
        · go_wp2_with fail
          go_ret
          exact ⟨rfl, e5.out⟩
        · go_wp2_with fail
          go_ret
          exact ⟨rfl, e5.out⟩
      · have p1 := Hat.out.1 her
        have q1 : (er != 0) = true := by simp [her]
        have q2 : ((kn : Int) != ni) = true := by simp [p1]
        clear her p1
        go_wp2_with fail
        go_ret
        exact ⟨rfl, e5.out⟩
end Go.Proofs.YtldhcknjpmbgnaaGreatDoor.Rk
