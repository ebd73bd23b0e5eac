/- Parse: a run, walked. -/
import Derived.Test.YtldhcknjpmbgnaaGreatDoorPpK
namespace Go.Proofs.YtldhcknjpmbgnaaGreatDoor.Rk
open Go.RowKit Go.Shelf
set_option linter.unusedVariables false
set_option linter.unusedSimpArgs false
set_option maxRecDepth 100000

theorem reps_ev {w W : World} : ∀ {xs : List Ev} {vs : List Value}, Reps Kd.ev w xs vs → Reps Kd.ev W xs vs
  | [], _, h => h
  | _ :: _, _, ⟨c, r, e, hc, hr⟩ => ⟨c, r, e, hc, reps_ev hr⟩
theorem Sl.els_ev {w : World} {F : Nat → Prop} {A : Option Addr} {c : Nat} {l : List Ev} (h : Sl Kd.ev w F A c l) : Els Kd.ev w (fun _ => False) A l := by
  obtain ⟨vs, h1, h2⟩ := h.now
  exact ⟨vs, h1, fun W _ => reps_ev h2⟩
theorem sl_old2 {α : Type} {d : Kd α} {w W : World} {F : Nat → Prop} {A : Option Addr} {c m : Nat} {xs : List α} (h : Sl d w F A c xs) (hm : w.heap.size = m) (hb : Below w.heap.size w W) : Sl d W (fun k => F k ∧ k < m) A c xs := by
  subst hm
  exact h.old.below hb
theorem must_err {α : Type} {b : Bool} {e c : Int} {r : Except Int α} (h : (must b e >>= fun _ => r) = .error c) : (b = false ∧ c = e) ∨ r = .error c := by
  cases b
  · injection h with h
    exact .inl ⟨rfl, h.symm⟩
  · exact .inr h
theorem pnode_err {s : Ps} {h : Hd} {c : Int} (hx : pnode s h = .error c) : c ≠ 0 := by
  unfold pnode at hx
  rcases must_err hx with h1 | hx
  · rw [h1.2]; decide
  rcases must_err hx with h1 | hx
  · rw [h1.2]; decide
  rcases must_err hx with h1 | hx
  · rw [h1.2]; decide
  rcases must_err hx with h1 | hx
  · rw [h1.2]; decide
  cases hx
theorem ptext_err {s : Ps} {h : Hd} {own : List UInt8} {ph c : Int} (hx : ptext s h own ph = .error c) : c ≠ 0 := by
  unfold ptext at hx
  rcases must_err hx with h1 | hx
  · rw [h1.2]; decide
  rcases must_err hx with h1 | hx
  · rw [h1.2]; decide
  cases hx
theorem pstepE_err {s : Ps} {b : List UInt8} {c : Int} (hx : pstepE s b = .error c) : c ≠ 0 := by
  unfold pstepE at hx
  split at hx
  · split at hx
    · unfold phead at hx
      split at hx
      · rcases must_err hx with h1 | hx
        · rw [h1.2]; decide
        · cases hx
      · rcases must_err hx with h1 | hx
        · rw [h1.2]
          exact beq_eq_false_iff_ne.1 h1.1
        · split at hx
          · exact ptext_err hx
          · split at hx
            · exact ptext_err hx
            · split at hx
              · injection hx with hx
                rw [← hx]; decide
              · exact pnode_err hx
    · split at hx
      · unfold pname at hx
        rcases must_err hx with h1 | hx
        · rw [h1.2]; decide
        · cases hx
      · split at hx
        · unfold pdata at hx
          cases hx
        · split at hx
          · unfold pzero at hx
            rcases must_err hx with h1 | hx
            · rw [h1.2]; decide
            · cases hx
          · injection hx with hx
            rw [← hx]; decide
  · injection hx with hx
    rw [← hx]; decide
/-- How a run ends. -/
def RunRes (W : World) (r : Ps × List Ev × Nat × Int) (e : Ending) (W' : World) : Prop :=
  ∃ A c, e = .returned (.tuple #[r.1.agg, .slice A r.2.1.length c, .int .i64 r.2.2.1, .int .i64 r.2.2.2]) ∧ Sl Kd.ev W' (fun k => W.heap.size ≤ k) A c r.2.1 ∧ Below W.heap.size W W'
/-- Where a run stands: its boxes. -/
structure RunAt (W : World) (n : Nat) (s t : Ps) (w : World) : Prop where
  s : w.heap[n]? = some (.cells s.cells.toArray 25 (0, 0))
  t : w.heap[n + 1]? = some (.cells t.cells.toArray 25 (0, 0))
  below : Below n W w
theorem RunAt.step {W w w' : World} {n : Nat} {s t : Ps} (h : RunAt W n s t w) (hb : Below w.heap.size w w') : RunAt W n s t w' :=
  ⟨blk_below h.s hb (lt_of_block h.s), blk_below h.t hb (lt_of_block h.t), h.below.trans (hb.mono (Nat.le_of_lt (lt_of_block h.s)))⟩
theorem setPs_block {W : World} {g : Nat} {c s : Ps} {t : TypeId} (h : W.heap[g]? = some (.cells c.cells.toArray t (0, 0))) : (setPs W g s).heap[g]? = some (.cells s.cells.toArray t (0, 0)) := by
  unfold setPs
  exact blk_set (blk_set (blk_set (blk_set (blk_set (blk_set (blk_set (blk_set (blk_set (blk_set (blk_set (blk_set (blk_set (blk_set h 0 _) 1 _) 2 _) 3 _) 4 _) 5 _) 6 _) 7 _) 8 _) 9 _) 10 _) 11 _) 12 _) 13 _
theorem RunAt.setT {W w : World} {n : Nat} {s t : Ps} (h : RunAt W n s t w) (u : Ps) : RunAt W n s u (setPs w (n + 1) u) :=
  ⟨by rw [setPs_other (by omega)]; exact h.s, setPs_block h.t, h.below.trans ((setPs_below (Below.refl _ _)).mono (by omega : n ≤ n + 1))⟩
theorem RunAt.setS {W w : World} {n : Nat} {s t : Ps} (h : RunAt W n s t w) (u : Ps) : RunAt W n u t (setPs w n u) :=
  ⟨setPs_block h.s, by rw [setPs_other (by omega)]; exact h.t, setPs_below h.below⟩
theorem RowD.setPs {α : Type} {d : Kd α} {w : World} {base g : Nat} {v : Value} {xs : List α} (h : RowD d w (fun _ => False) base v xs) (hg : g < base) (u : Ps) : RowD d (Rk.setPs w g u) (fun _ => False) base v xs :=
  h.keep (fun k hk _ => setPs_other (by rcases hk with hk | hk; exact hk.elim; omega)) (by rw [setPs_size]; exact Nat.le_refl _)
theorem Sl.setPs {α : Type} {d : Kd α} {w : World} {F : Nat → Prop} {A : Option Addr} {c g m : Nat} {xs : List α} (h : Sl d w (fun k => F k ∧ k < m) A c xs) (hg : m ≤ g) (u : Ps) : Sl d (Rk.setPs w g u) (fun k => F k ∧ k < m) A c xs :=
  h.keep (fun k hk _ => setPs_other (by have := hk.2; omega)) (by rw [setPs_size]; exact Nat.le_refl _)
/-- What is left to do. -/
def runGo (l : List (List UInt8)) (k : Nat) (s : Ps) (told : List Ev) : Ps × List Ev × Nat × Int :=
  ((prun s (l.drop k)).1, told ++ (prun s (l.drop k)).2.1, k + (prun s (l.drop k)).2.2.1, (prun s (l.drop k)).2.2.2)
theorem runGo_end {l : List (List UInt8)} {s : Ps} {told : List Ev} : runGo l l.length s told = (s, told, l.length, 0) := by
  unfold runGo
  rw [List.drop_length]
  simp [prun]
theorem runGo_err {l : List (List UInt8)} {k : Nat} {b : List UInt8} {s : Ps} {told : List Ev} {e : Int} (hk : l[k]? = some b) (h : pstepE s b = .error e) : runGo l k s told = (s, told, k, e) := by
  obtain ⟨hlt, rfl⟩ := List.getElem?_eq_some_iff.1 hk
  unfold runGo
  rw [List.drop_eq_getElem_cons hlt]
  simp [prun, h]
theorem runGo_over {l : List (List UInt8)} {k : Nat} {b : List UInt8} {s t : Ps} {told m : List Ev} (hk : l[k]? = some b) (h : pstepE s b = .ok (t, m)) (h5 : t.phase = 5) : runGo l k s told = (t, told ++ m, k + 1, 0) := by
  obtain ⟨hlt, rfl⟩ := List.getElem?_eq_some_iff.1 hk
  unfold runGo
  rw [List.drop_eq_getElem_cons hlt]
  simp [prun, h, h5]
theorem runGo_next {l : List (List UInt8)} {k : Nat} {b : List UInt8} {s t : Ps} {told m : List Ev} (hk : l[k]? = some b) (h : pstepE s b = .ok (t, m)) (h5 : ¬ t.phase = 5) : runGo l k s told = runGo l (k + 1) t (told ++ m) := by
  obtain ⟨hlt, rfl⟩ := List.getElem?_eq_some_iff.1 hk
  unfold runGo
  rw [List.drop_eq_getElem_cons hlt]
  simp [prun, h, h5, Nat.add_assoc, Nat.add_comm 1]
theorem results_run {W w : World} {n : Nat} {s t : Ps} (X : RunAt W n s t w) {u v x : Value} {tmps : Array Value} (t4 : tmps.getD 4 undef = .pointer (some ⟨n + 1, 0, none⟩)) (t5 : tmps.getD 5 undef = u) (t6 : tmps.getD 6 undef = v) (t7 : tmps.getD 7 undef = x) :
    (results Tryz.f30 tmps).run Tryz.prog w = .ok (.tuple #[t.agg, u, v, x]) w := by
  have hr : Tryz.f30.results = #[.cell 4 25, .tmp 5, .tmp 6, .tmp 7] := rfl
  have hp := run_loadVar_row (P := Tryz.prog) w (n + 1) 25 25 t.cells.toArray (0, 0) _ X.t Tryz.underlying25 rfl (by kernel_rfl)
  have u4 : tmps[4]?.getD undef = .pointer (some ⟨n + 1, 0, none⟩) := by simpa using t4
  have u5 : tmps[5]?.getD undef = u := by simpa using t5
  have u6 : tmps[6]?.getD undef = v := by simpa using t6
  have u7 : tmps[7]?.getD undef = x := by simpa using t7
  simp only [results, hr]
  simp [Sem.run_bind, Result.andThen, u4, u5, u6, u7, asAddr, hp]
  rfl
theorem run_end {W w : World} {n : Nat} {s t : Ps} (X : RunAt W n s t w) (hn : W.heap.size = n) {r : Ps × List Ev × Nat × Int} {told : List Ev} {k : Nat} {e : Int} (hr : r = (t, told, k, e)) {v : Value} (R : RowD Kd.ev w (fun _ => False) (n + 2) v told) {a : Act} (hd : a.defers = [])
    (t4 : a.tmps.getD 4 undef = .pointer (some ⟨n + 1, 0, none⟩)) (t5 : a.tmps.getD 5 undef = v) (t6 : a.tmps.getD 6 undef = .int .i64 k) (t7 : a.tmps.getD 7 undef = .int .i64 e) : bodyPost Tryz.prog Tryz.f30 (RunRes W r) .ret a w := by
  refine bodyPost_ret (results_run X t4 t5 t6 t7) hd ?_
  obtain ⟨A, c, rfl, S⟩ := R.sl
  subst hr
  exact ⟨A, c, rfl, S.mono (fun k hk => by rcases hk with hk | hk; exact hk.elim; omega), by rw [hn]; exact X.below⟩
set_option maxHeartbeats 4000000 in
theorem prun_calls (s : Ps) (hS : s.S) (hR : s.R) (l : List (List UInt8)) (hl : l.length ≤ 10000) {A : Option Addr} {c : Nat} {F : Nat → Prop} (W : World) (hb : Sl (Kd.slice Kd.byte) W F A c l) :
    Calls Tryz.prog 30 #[s.agg, .slice A l.length c] W (RunRes W (prun s l)) := by
  have HS := Au.mk hS
  have HR := Au.mk hR
  have HB := Au.mk hb
  obtain ⟨n, Hn⟩ := au l.length
  rw [Hn.out] at hl ⊢
  obtain ⟨m, Hm⟩ := au W.heap.size
  have hlc := hb.le
  rw [Hn.out] at hlc
  have hb0 : RunAt W W.heap.size s ps0 ((W.alloc (.cells s.cells.toArray 25)).alloc (.cells ps0.cells.toArray 25)) := by
    have hx : ∀ (w : World) (o : Obj) (k : Nat), k = w.heap.size → (w.alloc o).heap[k]? = some o := fun w o k hk => by rw [hk]; exact heap_alloc_new w o
    exact ⟨blk_alloc (hx _ _ _ rfl) _, hx _ _ _ (by simp), ((Below.refl _ _).alloc (Nat.le_refl _) _).alloc (by simp) _⟩
  have X0 := Au.mk hb0
  clear hS hR hb hb0
  unfold Ps.agg
  go_enter Tryz.func30, Tryz.ntmps30
  go_upto_region 1 with fail
  generalize hW1 : World.alloc _ _ = W1
  have X1 : Au (RunAt W W.heap.size s ps0 W1) := ⟨by rw [← hW1]; exact X0.out⟩
  rw [Hm.out] at X1 ⊢
  have B1 : Au (Sl (Kd.slice Kd.byte) W1 (fun k => F k ∧ k < m) A c l) := ⟨by exact sl_old2 HB.out (by rw [Hm.out]) (by have := X1.out.below; rw [Hm.out]; exact this)⟩
  clear hW1 X0
  go_wp2_with fail
  go_loopw [8, 16] (fun v i wr => ∃ (k : Nat) (s' t' : Ps) (told : List Ev), k ≤ n ∧ i = .int .i64 (k : Int) ∧ told.length ≤ 2 * k ∧ Au (s'.S ∧ s'.R) ∧ Au (prun s l = runGo l k s' told) ∧ Au (RunAt W m s' t' wr) ∧ Au (RowD Kd.ev wr (fun _ => False) (m + 2) v told) ∧ Au (Sl (Kd.slice Kd.byte) wr (fun k => F k ∧ k < m) A c l)) (fun _ i _ => n - (intOf i).toNat)
  case atStart =>
    exact ⟨0, s, ps0, [], Nat.zero_le _, rfl, Nat.zero_le _, ⟨HS.out, HR.out⟩, ⟨by unfold runGo; simp⟩, X1, ⟨RowD.nil _ _ _ _⟩, B1⟩
  case round =>
    obtain ⟨k, s', t', told, hk, rfl, htl, Hs, HG, X, R, B⟩ := hrel
    obtain ⟨f0, f1, f2, f3, f4, f5, f6, f7, f8, f9, f10, f11, f12, f13⟩ := st_cells s' X.out.s
    obtain ⟨a0, a1, a2, a3, a4, a5, a6, a7, a8, a9, a10, a11, a12, a13⟩ := st_cells t' X.out.t
    obtain ⟨g0, g1, g2, g3, g4, g5, g6, g7, g8, g9, g10, g11, g12, g13⟩ := ps_free X.out.t
    obtain ⟨h0, h1', h2', h3, h4, h5, h6, h7, h8, h9, h10, h11, h12, h13⟩ := ps_free X.out.s
    by_cases hkn : k = n
    · subst hkn
      have Hr := Au.mk (show prun s l = (s', told, k, 0) by rw [HG.out, ← Hn.out, runGo_end])
      go_wp2_with fail
      rw [store_ps]
      exact run_end (X.out.setT s') Hm.out Hr.out (R.out.setPs (by omega) _) rfl rfl rfl rfl rfl
    · have hlt : k < n := by omega
      have hlti : (k : Int) < n := by omega
      obtain ⟨b, hbk⟩ : ∃ b, l[k]? = some b := ⟨_, List.getElem?_eq_getElem (by rw [Hn.out]; exact hlt)⟩
      have Hbk := Au.mk hbk
      have hsl := B.out.slice_at hbk
      obtain ⟨bb, oo, A', c', rfl, fc, sb⟩ := hsl
      obtain ⟨bl, Hbl⟩ := au b.length
      rw [Hbl.out] at fc
      have ct := pstep_calls s' Hs.out.1 Hs.out.2 b Hbl.out wr sb
      obtain ⟨⟨t, told2, er⟩, Hp⟩ := au (pstep s' b)
      rw [Hp.out] at ct
      have CT := Au.mk ct
      have hw1 : IntKind.i64.wrap ((k : Int) + 1) = (k : Int) + 1 := by rw [IntKind.wrap_i64]; omega
      unfold Ps.agg at CT
      clear ct hbk sb hkn a0 a1 a2 a3 a4 a5 a6 a7 a8 a9 a10 a11 a12 a13 g0 g1 g2 g3 g4 g5 g6 g7 g8 g9 g10 g11 g12 g13 h0 h1' h2' h3 h4 h5 h6 h7 h8 h9 h10 h11 h12 h13
      go_wp2_with fail
      refine CT.out.mono ?_
      rintro e w2 ⟨A2, c2, he, s2, b2⟩
      dsimp only at he s2
      unfold Ps.agg at he
      subst he
      have X2 := Au.mk (X.out.step b2)
      have R2 := Au.mk (R.out.below b2)
      have B2 := Au.mk (B.out.below b2)
      have S2 := Au.mk s2
      have HU := Au.mk (fun g (hg : u8.ownBlock = some g) => (⟨R2.out.low w2 g hg, R2.out.high w2 g hg⟩ : m + 2 ≤ g ∧ g < w2.heap.size))
      have hb3 : Below w2.heap.size w2 (w2.alloc (.cells t.cells.toArray 25)) := (Below.refl _ _).alloc (Nat.le_refl _) _
      have X3 := Au.mk (X2.out.step hb3)
      have R3 := Au.mk (R2.out.below hb3)
      have B3 := Au.mk (B2.out.below hb3)
      have S3 := Au.mk (S2.out.below hb3)
      have T3 := Au.mk (heap_alloc_new w2 (.cells t.cells.toArray 25))
      clear s2 b2 hb3 R2 B2 S2 f0 f1 f2 f3 f4 f5 f6 f7 f8 f9 f10 f11 f12 f13 CT fc X R B
      unfold Ps.cells at T3
      go_upto_region 6 with fail
      have zq : w2.heap.size < (w2.alloc (.cells #[.int .i64 t.phase, .string (ofL t.node.path), .string (ofL t.node.link), .int .u8 t.node.kind.toNat, .int .i64 t.node.mode, .int .i64 t.node.uid, .int .i64 t.node.gid, .int .i64 t.node.mtime, .string (ofL t.node.data), .int .i64 t.size, .int .i64 t.left, .string (ofL t.text), .string (ofL t.name), .string (ofL t.link)] 25)).heap.size := by simp
      have zm : m + 2 ≤ w2.heap.size := by have := lt_of_block X2.out.t; omega
      generalize hq : w2.alloc (.cells #[.int .i64 t.phase, .string (ofL t.node.path), .string (ofL t.node.link), .int .u8 t.node.kind.toNat, .int .i64 t.node.mode, .int .i64 t.node.uid, .int .i64 t.node.gid, .int .i64 t.node.mtime, .string (ofL t.node.data), .int .i64 t.size, .int .i64 t.left, .string (ofL t.text), .string (ofL t.name), .string (ofL t.link)] 25) = W3 at zq ⊢
      have X4 : Au (RunAt W m s' t' W3) := ⟨by rw [← hq]; exact X3.out⟩
      have R4 : Au (RowD Kd.ev W3 (fun _ => False) (m + 2) u8 told) := ⟨by rw [← hq]; exact R3.out⟩
      have B4 : Au (Sl (Kd.slice Kd.byte) W3 (fun k => F k ∧ k < m) (some ⟨bb, oo, none⟩) c l) := ⟨by rw [← hq]; exact B3.out⟩
      have S4 : Au (Sl Kd.ev W3 (fun k => wr.heap.size ≤ k) A2 c2 told2) := ⟨by rw [← hq]; exact S3.out⟩
      have T4 : Au (W3.heap[w2.heap.size]? = some (.cells t.cells.toArray 25 (0, 0))) := ⟨by rw [← hq]; exact T3.out⟩
      obtain ⟨q, Hq⟩ := au w2.heap.size
      rw [Hq.out] at T4 zq zm HU ⊢
      clear hq X2 X3 R3 B3 S3 T3
      obtain ⟨f0, f1, f2, f3, f4, f5, f6, f7, f8, f9, f10, f11, f12, f13⟩ := st_cells s' X4.out.s
      obtain ⟨a0, a1, a2, a3, a4, a5, a6, a7, a8, a9, a10, a11, a12, a13⟩ := st_cells t' X4.out.t
      obtain ⟨g0, g1, g2, g3, g4, g5, g6, g7, g8, g9, g10, g11, g12, g13⟩ := ps_free X4.out.t
      cases hE : pstepE s' b with
      | error ec =>
        have hp := Hp.out
        unfold pstep at hp
        rw [hE] at hp
        simp only [Prod.mk.injEq] at hp
        obtain ⟨rfl, rfl, rfl⟩ := hp
        have t0 : (ec != 0) = true := bne_iff_ne.2 (pstepE_err hE)
        have Hr := Au.mk (show prun s l = (s', told, k, ec) by rw [HG.out]; exact runGo_err Hbk.out hE)
        clear hE
        go_wp2_with fail
        rw [store_ps]
        have hX := X4.out.setT s'
        have hR := RowD.setPs (g := m + 1) R4.out (by omega) s'
        generalize setPs W3 (m + 1) s' = W4 at hX hR ⊢
        exact run_end hX Hm.out Hr.out hR rfl rfl rfl rfl rfl
      | ok x =>
        have hp := Hp.out
        unfold pstep at hp
        rw [hE] at hp
        obtain ⟨t1, m1⟩ := x
        simp only [Prod.mk.injEq] at hp
        obtain ⟨rfl, rfl, rfl⟩ := hp
        have HOk := Au.mk (pstep_ok Hs.out.1 Hs.out.2 hE)
        have HE := Au.mk hE
        clear hE a0 a1 a2 a3 a4 a5 a6 a7 a8 a9 a10 a11 a12 a13 g0 g1 g2 g3 g4 g5 g6 g7 g8 g9 g10 g11 g12 g13
        go_upto_region 8 with fail
        have hmx : Tryz.prog.follows .mixedOrders = true := by kernel_rfl
        obtain ⟨ok1, ok2, ok3, ok4⟩ := HOk.out
        dsimp only at ok1 ok2 ok3 ok4
        have HOk2 : Au (t1.S ∧ t1.R) := ⟨ok1, ok2⟩
        have zq2 : q < W3.drew.heap.size := zq
        clear f0 f1 f2 f3 f4 f5 f6 f7 f8 f9 f10 f11 f12 f13 ok1 ok2 ok3
        refine region_ord (fun w' => BlkIs w' q t1.cells.toArray 25) [(true, 0), (true, 1), (true, 2), (false, 3), (false, 4), (true, 5)] hmx (by kernel_rfl) ⟨T4.out⟩ ?_
        simp only [ordL, List.getElem?_toArray, List.getElem?_cons_succ, List.getElem?_cons_zero]
        iterate 3
          refine ⟨?_, Or.inl ⟨by rfl, fun w' hw' => ?_⟩, ?_⟩
          rotate_left 1
          · obtain ⟨q0, q1, q2, q3, q4, q5, q6, q7, q8, q9, q10, q11, q12, q13⟩ := st_cells t1 hw'.out
            clear hw'
            go_simp
            all_goals (with_reducible rfl)
          try simp only [Act.put, List.setIfInBounds_toArray, List.set_cons_zero, List.set_cons_succ]
        refine ⟨by first | rfl | trivial, ?_⟩
        refine wp_append_rowD (d := Kd.ev) W3.drew (G := fun _ => False) (F2 := fun _ => False) (base := m + 2) (xs := told) (ys := m1) etEvs _ _ rfl rfl (R4.out.drewN 1) rfl rfl (S4.out.drewN 1).els_ev (fun _ h => h.elim) (fun _ _ h => h.elim) (by simp only [maxLen]; omega) (by omega) (by omega) ?_
        intro v' W5 hr5 hg5 ho5
        have hk5 : ∀ j, j < m + 2 ∨ j = q → W5.heap[j]? = W3.heap[j]? := fun j hj => hg5.block j (by omega) (fun h => by have := HU.out j h.symm; omega)
        have X5 : Au (RunAt W m s' t' W5) := ⟨⟨(hk5 m (by omega)).trans X4.out.s, (hk5 (m + 1) (by omega)).trans X4.out.t, (below_drewN X4.out.below 1).grown hg5 (show m ≤ W3.drew.heap.size by omega) (fun g hg => by have := HU.out g hg; omega)⟩⟩
        have B5 := Au.mk ((B4.out.drewN 1).grown hg5 (fun g hg hk => by have := HU.out g hg; have := hk.2; omega))
        have R5 := Au.mk hr5
        have T5 := Au.mk ((hk5 q (.inr rfl)).trans T4.out)
        clear hr5 hg5 ho5 hk5
        refine ⟨⟨T5.out⟩, ?_⟩
        obtain ⟨f0, f1, f2, f3, f4, f5, f6, f7, f8, f9, f10, f11, f12, f13⟩ := st_cells s' X5.out.s
        obtain ⟨h0, h1', h2', h3, h4, h5, h6, h7, h8, h9, h10, h11, h12, h13⟩ := ps_free X5.out.s
        try simp only [Act.put, List.setIfInBounds_toArray, List.set_cons_zero, List.set_cons_succ]
        refine ⟨by first | rfl | trivial, ?_⟩
        go_simp
        rw [store_ps]
        have X6 := Au.mk (X5.out.setS t1)
        have R6 := Au.mk (RowD.setPs (g := m) R5.out (by omega) t1)
        have B6 := Au.mk (Sl.setPs (g := m) B5.out (Nat.le_refl _) t1)
        have T6 : Au ((setPs W5 m t1).heap[q]? = some (.cells t1.cells.toArray 25 (0, 0))) := ⟨by rw [setPs_other (by omega)]; exact T5.out⟩
        generalize setPs W5 m t1 = W6 at X6 R6 B6 T6 ⊢
        clear X5 R5 B5 T5 X4 R4 B4 S4 T4 f0 f1 f2 f3 f4 f5 f6 f7 f8 f9 f10 f11 f12 f13 h0 h1' h2' h3 h4 h5 h6 h7 h8 h9 h10 h11 h12 h13
        refine ⟨⟨T6.out⟩, ?_⟩
        try simp only [Act.put, List.setIfInBounds_toArray, List.set_cons_zero, List.set_cons_succ]
        refine ⟨?_, Or.inl ⟨by rfl, fun w' hw' => ?_⟩, ?_⟩
        rotate_left 1
        · clear hw'
          go_simp
          all_goals (with_reducible rfl)
        try simp only [Act.put, List.setIfInBounds_toArray, List.set_cons_zero, List.set_cons_succ]
        obtain ⟨f0, f1, f2, f3, f4, f5, f6, f7, f8, f9, f10, f11, f12, f13⟩ := st_cells t1 X6.out.s
        obtain ⟨a0, a1, a2, a3, a4, a5, a6, a7, a8, a9, a10, a11, a12, a13⟩ := st_cells t' X6.out.t
        obtain ⟨g0, g1, g2, g3, g4, g5, g6, g7, g8, g9, g10, g11, g12, g13⟩ := ps_free X6.out.t
        by_cases h5 : t1.phase = 5
        · have t5 : (t1.phase == 5) = true := by simp [h5]
          have Hr := Au.mk (show prun s l = (t1, told ++ m1, k + 1, 0) by rw [HG.out]; exact runGo_over Hbk.out HE.out h5)
          clear h5
          go_wp2_with fail
          simp only [Calm]
          go_wp2_with fail
          rw [store_ps]
          exact run_end (X6.out.setT t1) Hm.out Hr.out (RowD.setPs (g := m + 1) R6.out (by omega) t1) rfl rfl rfl rfl rfl
        · have t5 : (t1.phase == 5) = false := by simp [h5]
          have Hn5 := Au.mk (show prun s l = runGo l (k + 1) t1 (told ++ m1) by rw [HG.out]; exact runGo_next Hbk.out HE.out h5)
          clear h5
          go_wp2_with fail
          simp only [Calm]
          go_wp2_with fail
          clear f0 f1 f2 f3 f4 f5 f6 f7 f8 f9 f10 f11 f12 f13 a0 a1 a2 a3 a4 a5 a6 a7 a8 a9 a10 a11 a12 a13 g0 g1 g2 g3 g4 g5 g6 g7 g8 g9 g10 g11 g12 g13
          exact ⟨⟨k + 1, t1, t', told ++ m1, hlt, rfl, by rw [List.length_append]; omega, HOk2, Hn5, X6, R6, B6⟩, by show n - ((k : Int) + 1).toNat < n - (k : Int).toNat; omega⟩
end Go.Proofs.YtldhcknjpmbgnaaGreatDoor.Rk
