/- StripSpoilt, walked. -/
import Derived.Test.YtldhcknjpmbgnaaGreatDoorStpW
import Derived.Deep.DeepCutAuto
namespace Go.Proofs.YtldhcknjpmbgnaaGreatDoor.Rk
open Go.RowKit Go.Shelf
set_option linter.unusedVariables false
set_option linter.unusedSimpArgs false
set_option maxRecDepth 100000

theorem reps_set {α : Type} {d : Kd α} (h1 : d.sz = 1) {W : World} {u : Value} {y : α} (hy : d.K W y [u]) : ∀ (xs : List α) (vs : List Value) (i : Nat), Reps d W xs vs → Reps d W (xs.set i y) (vs.set i u)
  | [], vs, i, h => by
    have h : vs = [] := h
    subst h
    cases i <;> exact rfl
  | x :: xs, vs, 0, h => by
    obtain ⟨c, r, e, hc, hr⟩ := h
    have hl := d.len hc
    rw [h1] at hl
    obtain ⟨c0, rfl⟩ := List.length_eq_one_iff.1 hl
    subst e
    exact ⟨[u], r, rfl, hy, hr⟩
  | x :: xs, vs, i + 1, h => by
    obtain ⟨c, r, e, hc, hr⟩ := h
    have hl := d.len hc
    rw [h1] at hl
    obtain ⟨c0, rfl⟩ := List.length_eq_one_iff.1 hl
    subst e
    exact ⟨[c0], r.set i u, rfl, hc, reps_set h1 hy xs r i hr⟩
theorem RowD.put {α : Type} {d : Kd α} (h1 : d.sz = 1) {w : World} {G : Nat → Prop} {base g cap : Nat} {xs : List α} (h : RowD d w G base (.slice (some ⟨g, 0, none⟩) xs.length cap) xs) (i : Nat) {u : Value} {y : α} {F2 : Nat → Prop}
    (hy : ∀ W, Keeps F2 w W → d.K W y [u]) (hF : ∀ k, F2 k → (G k ∨ base ≤ k) ∧ k < w.heap.size) (hg : ¬ F2 g) :
    RowD d (w.setCell ⟨g, i, none⟩ u) G base (.slice (some ⟨g, 0, none⟩) xs.length cap) (xs.set i y) := by
  obtain ⟨F, vs, a1, a2, a3, a4⟩ := h
  have hs : (w.setCell ⟨g, i, none⟩ u).heap.size = w.heap.size := by simp [World.setCell]
  have a2' : ¬ F g := a2 g rfl
  refine ⟨fun k => F k ∨ F2 k, vs.set i u, fun k hk => ?_, fun g' hg' hk => ?_, ?_, fun W hW => ?_⟩
  · rw [hs]
    rcases hk with hk | hk
    · exact a1 k hk
    · exact hF k hk
  · have hgg : some g = some g' := hg'
    injection hgg with hgg
    subst hgg
    rcases hk with hk | hk
    · exact a2' hk
    · exact hg hk
  · rw [List.length_set]
    exact a3.store i u
  · have k1 : Keeps F w W := (Keeps.set w (p := ⟨g, i, none⟩) u a2').trans (by rw [hs]; exact Nat.le_refl _) (hW.mono fun k hk => .inl hk)
    have k2 : Keeps F2 w W := (Keeps.set w (p := ⟨g, i, none⟩) u hg).trans (by rw [hs]; exact Nat.le_refl _) (hW.mono fun k hk => .inr hk)
    exact reps_set h1 (hy W k2) xs vs i (a4 W k1)
theorem setCell_swap {w : World} {g h i j : Nat} {u v : Value} (hgh : g ≠ h) : (w.setCell ⟨g, i, none⟩ u).setCell ⟨h, j, none⟩ v = (w.setCell ⟨h, j, none⟩ v).setCell ⟨g, i, none⟩ u := by
  have hhg : h ≠ g := fun e => hgh e.symm
  simp only [World.setCell]
  congr 1
  apply Array.ext_getElem?
  intro k
  simp only [Array.getElem?_modify]
  by_cases hk : g = k
  · subst hk
    simp [hhg]
  · by_cases hk2 : h = k
    · subst hk2
      simp [hgh]
    · simp [hk, hk2]
theorem spoil_cells {w7 w8 : World} {g7 qa g8 qm : Nat} {u7 u8 : Value} (hu7 : w7.cell? ⟨g7, qa, none⟩ = some u7) (hz7 : w7.frozen? ⟨g7, qa, none⟩ = false) (b8 : Below w7.heap.size w7 w8) (hg7 : g7 < w7.heap.size) (hg8 : w7.heap.size ≤ g8)
    (hu8 : w8.cell? ⟨g8, qm, none⟩ = some u8) (hz8 : w8.frozen? ⟨g8, qm, none⟩ = false) (S : Value) : w8.cell? ⟨g7, qa, none⟩ = some u7 ∧ w8.frozen? ⟨g7, qa, none⟩ = false ∧ (w8.setCell ⟨g7, qa, none⟩ S).cell? ⟨g7, qa, none⟩ = some S ∧
      (w8.setCell ⟨g7, qa, none⟩ S).cell? ⟨g8, qm, none⟩ = some u8 ∧ (w8.setCell ⟨g7, qa, none⟩ S).frozen? ⟨g8, qm, none⟩ = false := by
  have h7 : w8.heap[(⟨g7, qa, none⟩ : Addr).block]? = w7.heap[(⟨g7, qa, none⟩ : Addr).block]? := b8.block g7 hg7
  have h8 : (w8.setCell ⟨g7, qa, none⟩ S).heap[(⟨g8, qm, none⟩ : Addr).block]? = w8.heap[(⟨g8, qm, none⟩ : Addr).block]? := Below.heap_setCell w8 ⟨g7, qa, none⟩ S g8 (by show g8 ≠ g7; omega)
  have c7 := (World.cell?_of_block (w := w7) h7).trans hu7
  exact ⟨c7, (World.frozen?_of_block (w := w7) h7).trans hz7, World.cell?_setCell_same' _ _ _ (by rw [c7]; rfl), (World.cell?_of_block (w := w8) h8).trans hu8, (World.frozen?_of_block (w := w8) h8).trans hz8⟩
theorem RowD.formG {α : Type} {d : Kd α} {w : World} {G : Nat → Prop} {base : Nat} {v : Value} {xs : List α} (h1 : d.sz = 1) (h : RowD d w G base v xs) (hx : 0 < xs.length) : ∃ g cap, v = .slice (some ⟨g, 0, none⟩) xs.length cap ∧ base ≤ g ∧ g < w.heap.size ∧ ∀ i, i < xs.length → (∃ u, w.cell? ⟨g, i, none⟩ = some u) ∧ w.frozen? ⟨g, i, none⟩ = false := by
  obtain ⟨F, vs, a1, a2, ⟨a3, a4⟩, a5⟩ := h
  rcases a4 with ⟨-, a4⟩ | ⟨g, cap, rfl, c1, c2, c3, c4, c5, c6⟩
  · omega
  · refine ⟨g, cap, rfl, c1, c2, fun i hi => ?_⟩
    have : i < cap * d.sz := by rw [h1]; omega
    exact ⟨Option.isSome_iff_exists.1 (c6 i this).1, (c6 i this).2⟩
/-- A block of a volume of its own, one byte of which is another. -/
theorem spoil_mem {w6 w7 w8 : World} {G6 : Nat → Prop} {v : List (List UInt8)} {x : List UInt8} {g7 c7 g8 c8 n m qa qm : Nat} (hn : v.length = n) (hm : x.length = m) (R7 : RowD (Kd.slice Kd.byte) w7 G6 w6.heap.size (.slice (some ⟨g7, 0, none⟩) n c7) v) (b7 : Below w6.heap.size w6 w7)
    (R8 : RowD Kd.byte w8 (fun _ => False) w7.heap.size (.slice (some ⟨g8, 0, none⟩) m c8) x) (b8 : Below w7.heap.size w7 w8) (ch : UInt8) :
    Sl (Kd.slice Kd.byte) ((w8.setCell ⟨g7, qa, none⟩ (.slice (some ⟨g8, 0, none⟩) m c8)).setCell ⟨g8, qm, none⟩ (.int .u8 ch.toNat)) (fun k => G6 k ∨ w6.heap.size ≤ k) (some ⟨g7, 0, none⟩) c7 (v.set qa (x.set qm ch)) ∧
      Below w6.heap.size w6 ((w8.setCell ⟨g7, qa, none⟩ (.slice (some ⟨g8, 0, none⟩) m c8)).setCell ⟨g8, qm, none⟩ (.int .u8 ch.toNat)) := by
  subst hn hm
  have hg8 : w7.heap.size ≤ g8 := R8.low _ g8 (by simp [Value.ownBlock])
  have hg7 : g7 < w7.heap.size := R7.high _ g7 (by simp [Value.ownBlock])
  have hg7b : w6.heap.size ≤ g7 := R7.low _ g7 (by simp [Value.ownBlock])
  have hne : g7 ≠ g8 := by omega
  rw [setCell_swap hne]
  have R9 := R8.put rfl qm (u := .int .u8 ch.toNat) (y := ch) (F2 := fun _ => False) (fun W _ => rfl) (fun k h => h.elim) (fun h => h)
  have bc : Below w7.heap.size w7 (w8.setCell ⟨g8, qm, none⟩ (.int .u8 ch.toNat)) := b8.setCell (p := ⟨g8, qm, none⟩) hg8 _
  generalize w8.setCell ⟨g8, qm, none⟩ (.int .u8 ch.toNat) = Wc at R9 bc ⊢
  obtain ⟨A9, c9, e9, s9⟩ := R9.sl
  have hl9 : (x.set qm ch).length = x.length := List.length_set
  injection e9 with e1 e2 e3
  subst e1 e3
  have R7' := R7.below bc
  have hs7 := bc.size
  have R10 := R7'.put rfl qa (u := .slice (some ⟨g8, 0, none⟩) x.length c8) (y := x.set qm ch) (F2 := fun k => w7.heap.size ≤ k ∧ k < Wc.heap.size) (fun W hW => by
    obtain ⟨h1, h2, vs, hv⟩ := s9.old
    obtain ⟨k1, k2⟩ := hv W (hW.mono fun k hk => ⟨by rcases hk.1 with h | h; exact h.elim; exact h, hk.2⟩)
    exact ⟨some ⟨g8, 0, none⟩, c8, by rw [hl9], h1, h2, vs, k1, k2⟩) (fun k hk => ⟨.inr (by have := b7.size; omega), hk.2⟩) (fun h => by have := h.1; omega)
  refine ⟨?_, ?_⟩
  · obtain ⟨A10, c10, e10, s10⟩ := R10.sl
    injection e10 with e1 e2 e3
    subst e1 e3
    exact s10
  · exact (below_then b7 bc b7.size).setCell (p := ⟨g7, qa, none⟩) hg7b _
set_option maxHeartbeats 4000000 in
theorem StripSpoilt_walk (t : List Nd) (s : St) (hsb : R64 s.b) (k : Int) (i : Int) (ch : UInt8) (hkR : R64 k) (hiR : R64 i) {A Ac : Option Addr} {c cc : Nat} {F G : Nat → Prop} (w : World) (ha : Sl Kd.nd w F A c t) (hs : Sl Kd.int w G Ac cc s.caps) (hT : Tab w) :
    Calls Tryz.prog 8 #[.slice A t.length c, s.agg Ac cc, .int .i64 k, .int .i64 i, .int .u8 ch.toNat] w fun e w' => e = .returned (.bool true) ∧ Below w.heap.size w w' := by
  have J0 : Au ((w.alloc (.cells (s.cells Ac cc).toArray 50)).heap[w.heap.size]? = some (.cells (s.cells Ac cc).toArray 50 (0, 0))) := ⟨heap_alloc_new _ _⟩
  have e0 := (Below.refl w.heap.size w).alloc (Nat.le_refl _) (.cells (s.cells Ac cc).toArray 50)
  have s0 := Au.mk (hs.old.alloc (.cells (s.cells Ac cc).toArray 50))
  have a0 := Au.mk (ha.old.alloc (.cells (s.cells Ac cc).toArray 50))
  have T0 := Au.mk (hT.below e0)
  have hcc := hs.le
  have htt := ha.le
  have f0 := blk_cell J0.out 0 rfl
  have f1 := blk_cell J0.out 1 rfl
  have f2 := blk_cell J0.out 2 rfl
  obtain ⟨one, Hone⟩ := au (fewT t)
  obtain ⟨two, Htwo⟩ := au (fewS s)
  have F16 := Au.mk (fun W : World => few16_calls s Htwo.out (A := Ac) (c := cc) W)
  have CS := Au.mk (fun (hS : AllS t) (l : List (List (List UInt8))) (en : Int) (h : vsplit t s = (l, en)) (W : World) (hT : Tab W) (h1 : Sl Kd.nd W (fun k => F k ∧ k < w.heap.size) A c t) (h2 : Sl Kd.int W (fun k => G k ∧ k < w.heap.size) Ac cc s.caps) => split_calls t hS s h W hT h1 h2)
  unfold St.agg at F16 CS ⊢
  unfold St.cells at f0 f1 f2 e0 s0 J0 a0 T0
  clear ha hs hT
  go_enter Tryz.func8, Tryz.ntmps8
  go_wp2_with fail
  refine (awake17_calls _ T0.out).mono ?_
  rintro e w1 ⟨rfl, b1⟩
  have e1 := below_then e0 b1 e0.size
  have J1 := Au.mk (blk_below J0.out b1 (lt_of_block J0.out))
  have T1 := Au.mk (T0.out.below b1)
  have a1 := Au.mk (a0.out.below b1)
  have s1 := Au.mk (s0.out.below b1)
  clear f0 f1 f2 b1
  have f0 := blk_cell J1.out 0 rfl
  have f1 := blk_cell J1.out 1 rfl
  have f2 := blk_cell J1.out 2 rfl
  go_wp2_with fail
  refine (few06_calls t Hone.out _ a1.out).mono ?_
  rintro e w2 ⟨rfl, b2⟩
  have e2 := below_then e1 b2 e1.size
  have J2 := Au.mk (blk_below J1.out b2 (lt_of_block J1.out))
  have T2 := Au.mk (T1.out.below b2)
  have a2 := Au.mk (a1.out.below b2)
  have s2 := Au.mk (s1.out.below b2)
  clear f0 f1 f2 b2
  have f0 := blk_cell J2.out 0 rfl
  have f1 := blk_cell J2.out 1 rfl
  have f2 := blk_cell J2.out 2 rfl
  go_wp2_with fail
  refine (F16.out _).mono ?_
  rintro e w3 ⟨rfl, b3⟩
  have e3 := below_then e2 b3 e2.size
  have J3 := Au.mk (blk_below J2.out b3 (lt_of_block J2.out))
  have T3 := Au.mk (T2.out.below b3)
  have a3 := Au.mk (a2.out.below b3)
  have s3 := Au.mk (s2.out.below b3)
  clear f0 f1 f2 b3
  have f0 := blk_cell J3.out 0 rfl
  have f1 := blk_cell J3.out 1 rfl
  have f2 := blk_cell J3.out 2 rfl
  cases one
  · go_wp2_with fail
    go_ret
    exact ⟨rfl, e3⟩
  cases two
  · go_wp2_with fail
    go_ret
    exact ⟨rfl, e3⟩
  have hS := (few_all Hone.out).1
  have ht30 := (few_all Hone.out).2
  obtain ⟨⟨l, en⟩, Hl⟩ := au (vsplit t s)
  obtain ⟨ll, Hll⟩ := au l.length
  have VL := Au.mk (vols_len Hl.out)
  have hl20 : ll ≤ 20 := by
    have h1 := (room_ok Hl.out).1
    have h2 : s.caps.length ≤ 20 := by
      have := Htwo.out
      unfold fewS at this
      simp only [Bool.and_eq_true, decide_eq_true_eq] at this
      exact this.2
    rw [← Hll.out]; omega
  go_wp2_with fail
  refine (CS.out hS l en Hl.out _ T3.out a3.out s3.out).mono ?_
  rintro e w4 ⟨A4, c4, rfl, v4, b4⟩
  rw [Hll.out]
  have V4 := Au.mk v4
  have e4 := below_then e3 b4 e3.size
  have J4 := Au.mk (blk_below J3.out b4 (lt_of_block J3.out))
  have T4 := Au.mk (T3.out.below b4)
  have a4 := Au.mk (a3.out.below b4)
  have s4 := Au.mk (s3.out.below b4)
  clear f0 f1 f2 b4
  have f0 := blk_cell J4.out 0 rfl
  have f1 := blk_cell J4.out 1 rfl
  have f2 := blk_cell J4.out 2 rfl
  clear v4
  by_cases h1 : en = 1
  · have t1 : (en == 1) = true := by simp [h1]
    clear h1
    go_wp2_with fail
    go_ret
    exact ⟨rfl, e4⟩
  have t1 : (en == 1) = false := by simp [h1]
  by_cases hk0 : k < 0
  · go_wp2_with fail
    go_ret
    exact ⟨rfl, e4⟩
  by_cases hkl : (ll : Int) ≤ k
  · go_wp2_with fail
    go_ret
    exact ⟨rfl, e4⟩
  by_cases hi0 : i < 0
  · go_wp2_with fail
    go_ret
    exact ⟨rfl, e4⟩
  obtain ⟨kn, rfl⟩ : ∃ j : Nat, k = (j : Int) := ⟨k.toNat, by omega⟩
  obtain ⟨m, rfl⟩ : ∃ j : Nat, i = (j : Int) := ⟨i.toNat, by omega⟩
  have hkn : kn < ll := by omega
  have hknI : (kn : Int) < ll := by omega
  obtain ⟨v, hv⟩ : ∃ v, l[kn]? = some v := ⟨_, List.getElem?_eq_getElem (by rw [Hll.out]; exact hkn)⟩
  obtain ⟨⟨st, so, se⟩, FW⟩ := au (sstrip s.label (l.take kn))
  obtain ⟨b, ⟨p1, p2⟩, -, -⟩ := strip_other Hl.out h1 hv hv s.label
  have P3 := Au.mk (fun (i : Nat) (x y : List UInt8) (hi : i < b) (hx : v[i]? = some x) (hne : y ≠ x) => strip_spoilt Hl.out h1 hv p2 hi hx hne)
  rw [FW.out] at p2 P3
  obtain ⟨vl, Vl⟩ := au v.length
  have hv2 : 2 ≤ vl ∧ vl ≤ 4000 := by
    obtain ⟨-, -, -, h4⟩ := room_ok Hl.out
    obtain ⟨-, cap, -, k2, -, -, -, kA⟩ := h4 kn v hv
    rw [← Vl.out]; exact ⟨k2, VL.out v (List.mem_of_getElem? hv)⟩
  have HA : Au (AllB v) := ⟨by
    obtain ⟨-, -, -, h4⟩ := room_ok Hl.out
    obtain ⟨-, cap, -, k2, -, -, -, kA⟩ := h4 kn v hv
    exact kA⟩
  have S1 := Au.mk p2
  have STS : Au (st.S ∧ st.R) := ⟨by have := sstrip_ok s.label (l.take kn); rw [FW.out] at this; exact this⟩
  have hlt : (l.take kn).length = kn := by rw [List.length_take, Hll.out]; omega
  have htt : (l.take kn).take kn = l.take kn := List.take_of_length_le (by omega)
  have hB : ∀ v ∈ (l.take kn).take kn, v.length ≤ 4000 := fun v hv => VL.out v (List.mem_of_mem_take (List.mem_of_mem_take hv))
  have VT := Au.mk (V4.out.take rfl kn)
  have hjc : kn ≤ c4 := by have := V4.out.1; rw [Hll.out] at this; omega
  have C10 := Au.mk (fun (W : World) (hT : Tab W) (F' : Nat → Prop) (h : Sl KBk3 W F' A4 c4 (l.take kn)) => Left_calls s.label (l.take kn) hlt (Nat.le_refl _) (by omega) hB (.inl rfl) (show sstrip s.label ((l.take kn).take kn) = (st, so, se) by rw [htt]; exact FW.out) W hT h)
  unfold Ps.agg at C10
  have hmx : Tryz.prog.follows .mixedOrders = true := by kernel_rfl
  have Hv := Au.mk hv
  clear hlt htt hB p2 hv h1
  have hw1 : IntKind.i64.wrap ((kn : Int) + 1) = (kn : Int) + 1 := by rw [IntKind.wrap_i64]; omega
  obtain ⟨ba, oa, Ai, ci, rfl, fi4, si4⟩ := V4.out.slice_at Hv.out
  rw [Vl.out] at fi4
  have SI4 := Au.mk si4
  have hv0 : ((vl : Int) == 0) = false := by simp; omega
  clear si4
  go_upto_region 9 with fail
  go_cut [16] (fun v wx => ∃ q : Nat, v = .pointer (some ⟨q, 0, none⟩) ∧ wx.heap[q]? = some (.cells st.cells.toArray 25 (0, 0)) ∧ Below w4.heap.size w4 wx)
  case first =>
    refine Code.wp_mono Calm.imp ?_
    refine region_tre (fun w' => BlkIs w' w.heap.size #[.string (ofL s.label), .int .i64 s.b, .slice Ac s.caps.length cc] 50) (Ord.rds [0, 1, 2, 3, 4] (.two 5 6 (.now 6 (.now 7 .stop)) (.now 5 (.now 7 .stop)))) hmx (by kernel_rfl) ⟨J4.out⟩ ?_
    clear f0 f1 f2
    iterate 5
      refine ordX_rd rfl ⟨?_, Or.inl ⟨by rfl, fun w' hw' => ?_⟩, ?_⟩
      rotate_left 1
      · skip
        have q0 := blk_cell hw'.out 0 rfl
        have q1 := blk_cell hw'.out 1 rfl
        have q2 := blk_cell hw'.out 2 rfl
        clear hw'
        go_simp
        all_goals (with_reducible rfl)
      try simp only [Act.put, List.getElem_toArray, List.getElem_cons_succ, List.getElem_cons_zero, List.setIfInBounds_toArray, List.set_cons_zero, List.set_cons_succ]
    refine ordX_two rfl (by rfl) rfl (by rfl) ?_ ?_
    · go_simp
      refine (C10.out _ (T4.out.below (below_drewN (Below.refl _ _) 1)) _ (VT.out.drewN 1)).mono ?_
      rintro e w6 ⟨rfl, b6'⟩
      have b6 : Below w4.heap.size w4 w6 := (below_drewN (Below.refl _ _) 1).trans b6'
      have B6 := Au.mk b6
      have J6 := Au.mk (blk_below J4.out b6 (lt_of_block J4.out))
      clear b6 b6'
      refine ⟨⟨J6.out⟩, ?_⟩
      try simp only [Act.put, List.getElem_toArray, List.getElem_cons_succ, List.getElem_cons_zero, List.setIfInBounds_toArray, List.set_cons_zero, List.set_cons_succ]
      refine ordX_now rfl (by rfl) ?_
      go_simp
      have B7 := Au.mk ((Below.refl w6.heap.size w6).alloc (Nat.le_refl _) (.cells ps0.cells.toArray 25))
      have J7 := Au.mk (blk_alloc J6.out (.cells ps0.cells.toArray 25))
      have N7 := Au.mk (heap_alloc_new w6 (.cells ps0.cells.toArray 25))
      generalize hW7 : w6.alloc (.cells ps0.cells.toArray 25) = W7 at B7 J7 N7
      have hW7' : w6.alloc (.cells #[.int .i64 0, .string ⟨#[]⟩, .string ⟨#[]⟩, .int .u8 0, .int .i64 0, .int .i64 0, .int .i64 0, .int .i64 0, .string ⟨#[]⟩, .int .i64 0, .int .i64 0, .string ⟨#[]⟩, .string ⟨#[]⟩, .string ⟨#[]⟩] 25) = W7 := hW7
      rw [hW7']
      clear hW7 hW7'
      refine ⟨⟨J7.out⟩, ?_⟩
      obtain ⟨x0, x1, x2, x3, x4, x5, x6, x7, x8, x9, x10, x11, x12, x13⟩ := st_cells ps0 N7.out
      obtain ⟨y0, y1, y2, y3, y4, y5, y6, y7, y8, y9, y10, y11, y12, y13⟩ := ps_free N7.out
      try simp only [Act.put, List.getElem_toArray, List.getElem_cons_succ, List.getElem_cons_zero, List.setIfInBounds_toArray, List.set_cons_zero, List.set_cons_succ]
      refine ordX_now rfl (by rfl) ?_
      go_simp
      rw [store_ps]
      clear x0 x1 x2 x3 x4 x5 x6 x7 x8 x9 x10 x11 x12 x13 y0 y1 y2 y3 y4 y5 y6 y7 y8 y9 y10 y11 y12 y13
      have hb8 : Below w6.heap.size w6 (setPs W7 w6.heap.size st) := setPs_below B7.out
      have J8 := Au.mk (blk_below J6.out hb8 (lt_of_block J6.out))
      have N8 := Au.mk (setPs_block (s := st) N7.out)
      have B8 := Au.mk (below_then B6.out hb8 B6.out.size)
      generalize setPs W7 w6.heap.size st = W8 at J8 N8 B8 ⊢
      clear hb8 J7 N7 B7
      refine ⟨⟨J8.out⟩, ?_⟩
      refine ordX_stop ?_
      simp only [wpList, Calm]
      go_wp2_with fail
      go_meet
      exact ⟨_, rfl, N8.out, B8.out⟩
    · go_simp
      have B6 := Au.mk (below_drewN ((Below.refl w4.heap.size w4).alloc (Nat.le_refl _) (.cells ps0.cells.toArray 25)) 1)
      have J6 := Au.mk (blk_below J4.out B6.out (lt_of_block J4.out))
      have V6 := Au.mk ((VT.out.alloc (.cells ps0.cells.toArray 25)).drewN 1)
      have N6 : Au ((w4.alloc (.cells ps0.cells.toArray 25)).drew.heap[w4.heap.size]? = some (.cells ps0.cells.toArray 25 (0, 0))) := ⟨heap_alloc_new w4 (.cells ps0.cells.toArray 25)⟩
      have T6 := Au.mk (T4.out.below B6.out)
      have hdr : (w4.alloc (.cells ps0.cells.toArray 25)).drewN 1 = (w4.alloc (.cells ps0.cells.toArray 25)).drew := rfl
      rw [hdr] at B6 J6 V6 T6
      generalize hW6 : (w4.alloc (.cells ps0.cells.toArray 25)).drew = W6 at B6 J6 V6 N6 T6
      have hW6' : (w4.alloc (.cells #[.int .i64 0, .string ⟨#[]⟩, .string ⟨#[]⟩, .int .u8 0, .int .i64 0, .int .i64 0, .int .i64 0, .int .i64 0, .string ⟨#[]⟩, .int .i64 0, .int .i64 0, .string ⟨#[]⟩, .string ⟨#[]⟩, .string ⟨#[]⟩] 25)).drew = W6 := hW6
      rw [hW6']
      clear hW6 hW6' hdr
      refine ⟨⟨J6.out⟩, ?_⟩
      try simp only [Act.put, List.getElem_toArray, List.getElem_cons_succ, List.getElem_cons_zero, List.setIfInBounds_toArray, List.set_cons_zero, List.set_cons_succ]
      refine ordX_now rfl (by rfl) ?_
      go_simp
      refine (C10.out _ T6.out _ V6.out).mono ?_
      rintro e w7 ⟨rfl, b7⟩
      have J7 := Au.mk (blk_below J6.out b7 (lt_of_block J6.out))
      have N7 := Au.mk (blk_below N6.out b7 (lt_of_block N6.out))
      have B7 := Au.mk (below_then B6.out b7 (Nat.le_of_lt (lt_of_block N6.out)))
      clear b7
      refine ⟨⟨J7.out⟩, ?_⟩
      obtain ⟨x0, x1, x2, x3, x4, x5, x6, x7, x8, x9, x10, x11, x12, x13⟩ := st_cells ps0 N7.out
      obtain ⟨y0, y1, y2, y3, y4, y5, y6, y7, y8, y9, y10, y11, y12, y13⟩ := ps_free N7.out
      try simp only [Act.put, List.getElem_toArray, List.getElem_cons_succ, List.getElem_cons_zero, List.setIfInBounds_toArray, List.set_cons_zero, List.set_cons_succ]
      refine ordX_now rfl (by rfl) ?_
      go_simp
      rw [store_ps]
      clear x0 x1 x2 x3 x4 x5 x6 x7 x8 x9 x10 x11 x12 x13 y0 y1 y2 y3 y4 y5 y6 y7 y8 y9 y10 y11 y12 y13
      have hb8 : Below w4.heap.size w4 (setPs w7 w4.heap.size st) := setPs_below B7.out
      have J8 := Au.mk (blk_below J4.out hb8 (lt_of_block J4.out))
      have N8 := Au.mk (setPs_block (s := st) N7.out)
      have B8 := Au.mk hb8
      generalize setPs w7 w4.heap.size st = W8 at J8 N8 B8 ⊢
      clear hb8 J7 N7 B7
      refine ⟨⟨J8.out⟩, ?_⟩
      refine ordX_stop ?_
      simp only [wpList, Calm]
      go_wp2_with fail
      go_meet
      exact ⟨_, rfl, N8.out, B8.out⟩
  obtain ⟨q, rfl, nq, bq⟩ := hcut
  have fi := cell_below fi4 bq
  have SI := Au.mk (SI4.out.below bq)
  have NQ := Au.mk nq
  have e5 := below_then e4 bq e4.size
  have J5 := Au.mk (blk_below J4.out bq (lt_of_block J4.out))
  have T5 := Au.mk (T4.out.below bq)
  have V5 := Au.mk (V4.out.below bq)
  clear nq bq f0 f1 f2
  have CI := Au.mk (fun (W : World) (hT : Tab W) (F' : Nat → Prop) (h : Sl (Kd.slice Kd.byte) W F' Ai ci v) => sone_calls st STS.out.1 STS.out.2 s.label ((kn : Int) + 1) v Vl.out (show sone st s.label ((kn : Int) + 1) v = ((b : Int), 0) from S1.out) W hT h)
  unfold Ps.agg at CI
  clear V4 VT C10 fi4 SI4
  have f0 := blk_cell J5.out 0 rfl
  go_upto_region 10 with fail
  refine Code.wp_mono Calm.imp ?_
  refine region_tre (fun w' => BlkIs w' q st.cells.toArray 25 ∧ BlkIs w' w.heap.size #[.string (ofL s.label), .int .i64 s.b, .slice Ac s.caps.length cc] 50 ∧ w'.cell? ⟨ba, oa + kn, none⟩ = some (.slice Ai vl ci)) (Ord.rds [0, 1, 2, 3, 4, 5, 6, 7, 8] (.now 9 (Ord.rds [10, 11, 12, 13, 14] .stop))) hmx (by kernel_rfl) ⟨⟨NQ.out⟩, ⟨J5.out⟩, fi⟩ ?_
  clear f0
  iterate 9
    refine ordX_rd rfl ⟨?_, Or.inl ⟨by rfl, fun w' hw' => ?_⟩, ?_⟩
    rotate_left 1
    · skip
      obtain ⟨x0, x1, x2, x3, x4, x5, x6, x7, x8, x9, x10, x11, x12, x13⟩ := st_cells st hw'.1.out
      have q0 := blk_cell hw'.2.1.out 0 rfl
      have q1 := blk_cell hw'.2.1.out 1 rfl
      have q2 := blk_cell hw'.2.1.out 2 rfl
      have q3 := hw'.2.2
      clear hw'
      go_simp
      all_goals (with_reducible rfl)
    try simp only [Act.put, List.getElem_toArray, List.getElem_cons_succ, List.getElem_cons_zero, List.setIfInBounds_toArray, List.set_cons_zero, List.set_cons_succ]
  refine ordX_now rfl (by rfl) ?_
  go_simp
  refine (CI.out _ (T5.out.below (below_drewN (Below.refl _ _) 1)) _ (SI.out.drewN 1)).mono ?_
  rintro e w6 ⟨rfl, b6'⟩
  have b6 : Below wc.heap.size wc w6 := (below_drewN (Below.refl _ _) 1).trans b6'
  have NQ6 := Au.mk (blk_below NQ.out b6 (lt_of_block NQ.out))
  have J6 := Au.mk (blk_below J5.out b6 (lt_of_block J5.out))
  have T6 := Au.mk (T5.out.below b6)
  have SI6 := Au.mk (SI.out.below b6)
  have e6 := below_then e5 b6 e5.size
  have fi6 := cell_below fi b6
  clear b6 b6' fi SI NQ J5 T5 CI
  refine ⟨⟨⟨NQ6.out⟩, ⟨J6.out⟩, fi6⟩, ?_⟩
  iterate 5
    refine ordX_rd rfl ⟨?_, Or.inl ⟨by rfl, fun w' hw' => ?_⟩, ?_⟩
    rotate_left 1
    · skip
      clear hw'
      go_simp
      all_goals (with_reducible rfl)
    try simp only [Act.put, List.getElem_toArray, List.getElem_cons_succ, List.getElem_cons_zero, List.setIfInBounds_toArray, List.set_cons_zero, List.set_cons_succ]
  refine ordX_stop ?_
  simp only [wpList, Calm]
  have f0 := blk_cell J6.out 0 rfl
  go_upto_region 12 with fail
  have hm63 : m < 9223372036854775808 := by have := hiR.2; omega
  obtain ⟨qa, Hqa⟩ := au (m / 512)
  have hqm : m % 512 < 512 := Nat.mod_lt _ (by decide)
  have hq1 : wrap64 ((m : Int) / 512) = (qa : Int) := by rw [← Hqa.out]; unfold wrap64; omega
  rw [hq1]
  have hb1 : ¬ (b : Int) < 1 := by omega
  have hb2 : ¬ b = 0 := by omega
  have hb3 : 0 < b := by omega
  clear hq1
  by_cases hqb : b ≤ qa
  · have hqbi : (b : Int) ≤ (qa : Int) := by omega
    go_wp2_with fail
    go_ret
    exact ⟨rfl, e6⟩
  have hqbi : ¬ (b : Int) ≤ (qa : Int) := by omega
  by_cases hqv : vl ≤ qa
  · have hqvi : (vl : Int) ≤ (qa : Int) := by omega
    go_wp2_with fail
    go_ret
    exact ⟨rfl, e6⟩
  have hqvi : ¬ (vl : Int) ≤ (qa : Int) := by omega
  have hqvl : qa < vl := by omega
  have hqvli : (qa : Int) < (vl : Int) := by omega
  obtain ⟨x, hx⟩ : ∃ x, v[qa]? = some x := ⟨_, List.getElem?_eq_getElem (by rw [Vl.out]; exact hqvl)⟩
  have hxl : x.length = 512 := HA.out x (List.mem_of_getElem? hx)
  obtain ⟨xb, xo, Ax, cx, rfl, fx, sx⟩ := SI6.out.slice_at hx
  have hqx : (m % 512) < x.length := by rw [hxl]; exact hqm
  obtain ⟨yb, yo, rfl, fy⟩ := sx.byte_at (m % 512) hqx
  obtain ⟨yv, Hyv⟩ := au (x[(m % 512)]'hqx)
  rw [Hyv.out] at fy
  rw [hxl] at fx
  have SX6 := Au.mk sx
  have Hx := Au.mk hx
  have Hxl := Au.mk hxl
  clear sx hx hxl
  by_cases hyc : yv = ch
  · subst hyc
    go_wp2_with fail
    go_ret
    exact ⟨rfl, e6⟩
  have hyq : ((yv.toNat : Int) == (ch.toNat : Int)) = false := by
    rw [byte_beq]; exact beq_eq_false_iff_ne.2 hyc
  have hyq2 : ¬ yv.toNat = ch.toNat := fun h => hyc (UInt8.toNat_inj.1 h)
  have hne : x.set (m % 512) ch ≠ x := fun h => by
    have h1 : (x.set (m % 512) ch)[(m % 512)]? = some ch := by rw [List.getElem?_set_self (by rw [Hxl.out]; exact hqm)]
    rw [h, List.getElem?_eq_getElem (by rw [Hxl.out]; exact hqm), Hyv.out] at h1
    injection h1 with h1
    exact hyc h1
  have P4 := Au.mk (P3.out qa x (x.set (m % 512) ch) (by omega) Hx.out hne)
  clear hne hyc
  have L1 : Au (([] : List (List UInt8)).length + v.length ≤ maxLen) := ⟨by simp only [maxLen, List.length_nil]; rw [Vl.out]; omega⟩
  have L2 : Au ((([] : List (List UInt8)).length + v.length) * 24 ≤ 140737488355328) := ⟨by simp only [List.length_nil]; rw [Vl.out]; omega⟩
  have M1 : Au (([] : List UInt8).length + x.length ≤ maxLen) := ⟨by simp only [maxLen, List.length_nil]; rw [Hxl.out]; omega⟩
  have M2 : Au ((([] : List UInt8).length + x.length) * 1 ≤ 140737488355328) := ⟨by simp only [List.length_nil]; rw [Hxl.out]; omega⟩
  have fy' := fy
  clear fy
  go_upto_region 14 with fail
  go_wp2_with (first | (at_builtin; refine wpList_append_rowD (d := Kd.slice Kd.byte) (G := fun j => w3.heap.size ≤ j) (F2 := fun j => w3.heap.size ≤ j) (base := w6.heap.size) (xs := []) (ys := v) _ rfl etBlks _ _ rfl rfl (RowD.nil _ _ _ _) rfl Vl.out.symm SI6.out.els (fun k hk => .inl hk) (fun g hg => by cases hg) L1.out L2.out (Nat.le_refl _) ?_; intro v7 w7 hr7 hg7 ho7; have hg7' : w6.grownBy w7 none := hg7; have b7 : Below w6.heap.size w6 w7 := (Below.refl _ _).grown hg7' (Nat.le_refl _) (fun g hg => by cases hg); rw [List.nil_append] at hr7; obtain ⟨g7, c7, rfl, hl7, hh7, hi7⟩ := hr7.formG rfl (by rw [Vl.out]; omega); rw [Vl.out] at hr7 hi7 ⊢; have R7 := Au.mk hr7; have B7 := Au.mk b7; have SX7 := Au.mk (SX6.out.below b7); have fi7 := cell_below fi6 b7; have fx7 := cell_below fx b7; obtain ⟨⟨u7, hu7⟩, hz7⟩ := hi7 qa hqvl; clear hr7 hg7 hg7' ho7 b7 hi7 fi6 fx fy'; have EX : Au (Els Kd.byte w7 (fun _ => False) (some ⟨yb, yo, none⟩) x) := (Au.mk ⟨bcs x, SX7.out.bytes, fun W _ => reps_bytes.2 rfl⟩)) | (at_builtin; go_loud (refine wpList_append_rowD (d := Kd.byte) (G := fun _ => False) (F2 := fun _ => False) (base := w7.heap.size) (xs := []) (ys := x) _ rfl etBytes _ _ rfl rfl (RowD.nil _ _ _ _) rfl Hxl.out.symm EX.out (fun _ h => h.elim) (fun _ _ h => h) M1.out M2.out (Nat.le_refl _) ?_; intro v8 w8 hr8 hg8 ho8; have hg8' : w7.grownBy w8 none := hg8; have b8 : Below w7.heap.size w7 w8 := ((Below.refl _ _).grown hg8' (Nat.le_refl _) (fun g hg => by cases hg)); rw [List.nil_append] at hr8; obtain ⟨g8, c8, rfl, hl8, hh8, hi8⟩ := hr8.formG rfl (by rw [Hxl.out]; decide); rw [Hxl.out] at hr8 hi8 ⊢; have SM := Au.mk (spoil_mem (qa := qa) (qm := m % 512) Vl.out Hxl.out R7.out B7.out hr8 b8 ch); obtain ⟨⟨u8', hu8'⟩, hz8'⟩ := hi8 (m % 512) hqm; obtain ⟨hu8, hz8, d1, d2, d3⟩ := spoil_cells hu7 hz7 b8 hh7 hl8 hu8' hz8' (.slice (some ⟨g8, 0, none⟩) 512 c8); have NQ10 := Au.mk (blk_below NQ6.out SM.out.2 (lt_of_block NQ6.out)); have J10 := Au.mk (blk_below J6.out SM.out.2 (lt_of_block J6.out)); obtain ⟨x0, x1, x2, x3, x4, x5, x6, x7, x8, x9, x10, x11, x12, x13⟩ := st_cells st NQ10.out; have f0 := blk_cell J10.out 0 rfl; clear hr8 hg8 hg8' ho8 b8 hi8 hl8 hh8 hu8' hz8')))
  have hll : (v.set qa (x.set (m % 512) ch)).length = vl := by rw [List.length_set]; exact Vl.out
  have CE := sone_calls st STS.out.1 STS.out.2 s.label ((kn : Int) + 1) (v.set qa (x.set (m % 512) ch)) hll (show sone st s.label ((kn : Int) + 1) (v.set qa (x.set (m % 512) ch)) = (0, if qa = 0 then 11 else 12) from P4.out) _ (T6.out.below SM.out.2) SM.out.1
  unfold Ps.agg at CE
  refine CE.mono ?_
  rintro e w11 ⟨rfl, b11⟩
  have e11 := below_then (below_then e6 SM.out.2 e6.size) b11 (below_then e6 SM.out.2 e6.size).size
  clear CE b11 d1 d2 d3 x0 x1 x2 x3 x4 x5 x6 x7 x8 x9 x10 x11 x12 x13 f0 hu8 hz8 hll
  by_cases hq0 : qa = 0
  · rw [if_pos hq0]
    have t0 : ((qa : Int) == 0) = true := by rw [hq0]; rfl
    clear hq0
    go_wp2_with fail
    go_ret
    exact ⟨rfl, e11⟩
  · rw [if_neg hq0]
    have t0 : ((qa : Int) == 0) = false := beq_eq_false_iff_ne.2 (by omega)
    have t3 : (0 : Int) < (qa : Int) := by omega
    have t4 : 0 < qa := by omega
    go_wp2_with fail
    go_ret
    exact ⟨rfl, e11⟩
end Go.Proofs.YtldhcknjpmbgnaaGreatDoor.Rk
