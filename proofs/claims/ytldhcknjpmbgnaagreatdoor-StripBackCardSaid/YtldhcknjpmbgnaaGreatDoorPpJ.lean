/- Parse: a step, walked. -/
import Derived.Test.YtldhcknjpmbgnaaGreatDoorPpI
namespace Go.Proofs.YtldhcknjpmbgnaaGreatDoor.Rk
open Go.RowKit Go.Shelf
set_option linter.unusedVariables false
set_option linter.unusedSimpArgs false
set_option maxRecDepth 100000

/-- Which function takes a block in which phase. -/
def wayF (k : Nat) : FuncId := if k = 0 then 89 else if k = 1 then 90 else if k = 2 then 90 else if k = 3 then 91 else if k = 4 then 92 else 93
theorem inR_spec {n a b : Int} (h : inR n a b = true) : a ≤ n ∧ n ≤ b := by
  unfold inR at h
  simp only [Bool.and_eq_true, decide_eq_true_eq] at h
  exact h
theorem psMay_text {s : Ps} (h : psMay s = true) (hp : s.phase = 1 ∨ s.phase = 2) : 0 ≤ s.size ∧ s.size ≤ 301 := by
  unfold psMay at h
  rw [if_neg (by omega), if_pos hp] at h
  simp only [Bool.and_eq_true] at h
  have := inR_spec h.2.2.1
  omega
theorem psMay_data {s : Ps} (h : psMay s = true) (hp : s.phase = 3) : 1 ≤ s.left ∧ s.left ≤ 4000 := by
  unfold psMay at h
  rw [if_neg (by omega), if_neg (by omega), if_pos hp] at h
  simp only [Bool.and_eq_true] at h
  have h1 := inR_spec h.2.2.2.2.1
  have h2 := inR_spec h.2.2.2.2.2.1
  omega
theorem psMay_phase {s : Ps} (h : psMay s = true) : s.phase = 0 ∨ s.phase = 1 ∨ s.phase = 2 ∨ s.phase = 3 ∨ s.phase = 4 ∨ s.phase = 5 := by
  unfold psMay at h
  by_cases h0 : s.phase = 0
  · exact .inl h0
  · rw [if_neg h0] at h
    by_cases h1 : s.phase = 1 ∨ s.phase = 2
    · omega
    · rw [if_neg h1] at h
      by_cases h3 : s.phase = 3
      · omega
      · rw [if_neg h3] at h
        by_cases h4 : s.phase = 4 ∨ s.phase = 5
        · omega
        · rw [if_neg h4] at h; cases h
theorem way_calls (s : Ps) (hS : s.S) (hm : psMay s = true) (b : List UInt8) (hb5 : b.length = 512) : ∃ k : Nat, k < 6 ∧ s.phase = (k : Int) ∧
    ∀ (W : World) (P : Nat) (A : Option Addr) (c : Nat) (F : Nat → Prop), PsAt W P s [] → Sl Kd.byte W F A c b →
      Calls Tryz.prog (wayF k) #[.pointer (some ⟨P, 0, none⟩), .slice A 512 c] W (PRes P [] W (pstepE s b)) := by
  have he : pstepE s b = if s.phase = 0 then phead s b else if s.phase = 1 ∨ s.phase = 2 then pname s b else if s.phase = 3 then pdata s b else if s.phase = 4 then pzero s b else .error 17 := by
    unfold pstepE
    rw [if_pos ⟨hm, hb5⟩]
  rcases psMay_phase hm with hp | hp | hp | hp | hp | hp
  · refine ⟨0, by decide, hp, fun W P A c F h1 h2 => ?_⟩
    rw [he, if_pos hp]
    exact phead_calls s hS.2.2.1 hS.2.2.2 [] (Nat.zero_le _) b hb5 W h1 h2
  · refine ⟨1, by decide, hp, fun W P A c F h1 h2 => ?_⟩
    rw [he, if_neg (by omega), if_pos (.inl hp)]
    obtain ⟨bb, o, rfl⟩ := h2.addr (by decide) (by rintro rfl; simp at hb5)
    exact pname_calls s (psMay_text hm (.inl hp)) (.inl hp) [] b hb5 W h1 h2
  · refine ⟨2, by decide, hp, fun W P A c F h1 h2 => ?_⟩
    rw [he, if_neg (by omega), if_pos (.inr hp)]
    obtain ⟨bb, o, rfl⟩ := h2.addr (by decide) (by rintro rfl; simp at hb5)
    exact pname_calls s (psMay_text hm (.inr hp)) (.inr hp) [] b hb5 W h1 h2
  · refine ⟨3, by decide, hp, fun W P A c F h1 h2 => ?_⟩
    rw [he, if_neg (by omega), if_neg (by omega), if_pos hp]
    obtain ⟨bb, o, rfl⟩ := h2.addr (by decide) (by rintro rfl; simp at hb5)
    exact pdata_calls s (psMay_data hm hp) [] (Nat.zero_le _) b hb5 W h1 h2
  · refine ⟨4, by decide, hp, fun W P A c F h1 h2 => ?_⟩
    rw [he, if_neg (by omega), if_neg (by omega), if_neg (by omega), if_pos hp]
    exact pzero_calls s [] b hb5 W h1 h2
  · refine ⟨5, by decide, hp, fun W P A c F h1 h2 => ?_⟩
    rw [he, if_neg (by omega), if_neg (by omega), if_neg (by omega), if_neg (by omega)]
    exact pend_calls [] A 512 c W
theorem way_cell {W : World} {P k : Nat} {t : TypeId} (h : W.heap[P + 1]? = some (.cells #[.func (Fn.func 89) #[.pointer (some ⟨P, 0, none⟩)] #[], .func (Fn.func 90) #[.pointer (some ⟨P, 0, none⟩)] #[], .func (Fn.func 90) #[.pointer (some ⟨P, 0, none⟩)] #[], .func (Fn.func 91) #[.pointer (some ⟨P, 0, none⟩)] #[], .func (Fn.func 92) #[.pointer (some ⟨P, 0, none⟩)] #[], .func (Fn.func 93) #[.pointer (some ⟨P, 0, none⟩)] #[]] t (0, 0))) (hk : k < 6) : W.cell? ⟨P + 1, k, none⟩ = some (.func (Fn.func (wayF k)) #[.pointer (some ⟨P, 0, none⟩)] #[]) := by
  match k, hk with
  | 0, _ => exact blk_cell h 0 rfl
  | 1, _ => exact blk_cell h 1 rfl
  | 2, _ => exact blk_cell h 2 rfl
  | 3, _ => exact blk_cell h 3 rfl
  | 4, _ => exact blk_cell h 4 rfl
  | 5, _ => exact blk_cell h 5 rfl
theorem enter_run {f : FuncId} {fn : Func} (hf : Tryz.prog.funcs[f]? = some fn) (hn : (fn.name == "runtime.NumGoroutine") = false) (hb : fn.body.isNone = false) (args : Array Value) (w : World) : (callFunc f args).run Tryz.prog w = .ok (.enter f args) w := by
  have h1 : ¬ fn.name = "runtime.NumGoroutine" := beq_eq_false_iff_ne.1 hn
  have h2 : ¬ fn.body = none := by intro e; rw [e] at hb; cases hb
  simp [callFunc, go_sem, hf, h1, h2]
theorem way_enter {k : Nat} (hk : k < 6) (args : Array Value) (w : World) : (callFunc (wayF k) args).run Tryz.prog w = .ok (.enter (wayF k) args) w := by
  match k, hk with
  | 0, _ => exact enter_run Tryz.func89 (by kernel_rfl) (by kernel_rfl) args w
  | 1, _ => exact enter_run Tryz.func90 (by kernel_rfl) (by kernel_rfl) args w
  | 2, _ => exact enter_run Tryz.func90 (by kernel_rfl) (by kernel_rfl) args w
  | 3, _ => exact enter_run Tryz.func91 (by kernel_rfl) (by kernel_rfl) args w
  | 4, _ => exact enter_run Tryz.func92 (by kernel_rfl) (by kernel_rfl) args w
  | 5, _ => exact enter_run Tryz.func93 (by kernel_rfl) (by kernel_rfl) args w
/-- How Step ends. -/
def StepRes (W : World) (r : Ps × List Ev × Int) (e : Ending) (W' : World) : Prop :=
  ∃ A c, e = .returned (.tuple #[r.1.agg, .slice A r.2.1.length c, .int .i64 r.2.2]) ∧ Sl Kd.ev W' (fun k => W.heap.size ≤ k) A c r.2.1 ∧ Below W.heap.size W W'
/-- The boxes of a step. -/
structure Bxs (W : World) (n : Nat) (s t : Ps) (v : Value) (e : Int) (w : World) : Prop where
  s : w.heap[n]? = some (.cells s.cells.toArray 25 (0, 0))
  t : w.heap[n + 1]? = some (.cells t.cells.toArray 25 (0, 0))
  told : w.heap[n + 2]? = some (.cells #[v] 65 (0, 0))
  e : w.heap[n + 3]? = some (.cells #[.int .i64 e] 33 (0, 0))
  below : Below n W w
theorem Bxs.step {W w w' : World} {n : Nat} {s t : Ps} {v : Value} {e : Int} (h : Bxs W n s t v e w) (hb : Below w.heap.size w w') : Bxs W n s t v e w' :=
  ⟨blk_below h.s hb (lt_of_block h.s), blk_below h.t hb (lt_of_block h.t), blk_below h.told hb (lt_of_block h.told), blk_below h.e hb (lt_of_block h.e), h.below.trans (hb.mono (Nat.le_of_lt (lt_of_block h.s)))⟩
theorem Bxs.under {W w w' : World} {n P : Nat} {s t : Ps} {v : Value} {e : Int} (h : Bxs W n s t v e w) (hb : Below P w w') (hP : n + 1 + 1 + 1 < P) : Bxs W n s t v e w' :=
  ⟨(hb.block n (by omega)).trans h.s, (hb.block (n + 1) (by omega)).trans h.t, (hb.block (n + 2) (by omega)).trans h.told, (hb.block (n + 3) (by omega)).trans h.e, h.below.trans (hb.mono (by omega))⟩
theorem bxs_new (W : World) (s : Ps) : Bxs W W.heap.size s ps0 (.slice none 0 0) 0 ((((W.alloc (.cells s.cells.toArray 25)).alloc (.cells ps0.cells.toArray 25)).alloc (.cells #[.slice none 0 0] 65)).alloc (.cells #[.int .i64 0] 33)) := by
  have z1 : ∀ (w : World) (o : Obj), (w.alloc o).heap.size = w.heap.size + 1 := fun w o => by simp
  have hx : ∀ (w : World) (o : Obj) (k : Nat), k = w.heap.size → (w.alloc o).heap[k]? = some o := fun w o k hk => by rw [hk]; exact heap_alloc_new w o
  refine ⟨blk_alloc (blk_alloc (blk_alloc (hx _ _ _ rfl) _) _) _, blk_alloc (blk_alloc (hx _ _ _ (by rw [z1])) _) _, blk_alloc (hx _ _ _ (by rw [z1, z1])) _, hx _ _ _ (by rw [z1, z1, z1]), ?_⟩
  exact ((((Below.refl _ _).alloc (Nat.le_refl _) _).alloc (by rw [z1]; omega) _).alloc (by rw [z1, z1]; omega) _).alloc (by rw [z1, z1, z1]; omega) _
theorem results_step {W w : World} {m : Nat} {s t : Ps} {v : Value} {e : Int} (X : Bxs W m s t v e w) {tmps : Array Value} (t4 : tmps.getD 4 undef = .pointer (some ⟨m + 1, 0, none⟩)) (t5 : tmps.getD 5 undef = .pointer (some ⟨m + 1 + 1, 0, none⟩)) (t6 : tmps.getD 6 undef = .pointer (some ⟨m + 1 + 1 + 1, 0, none⟩)) :
    (results Tryz.f53 tmps).run Tryz.prog w = .ok (.tuple #[t.agg, v, .int .i64 e]) w := by
  have hr : Tryz.f53.results = #[.cell 4 25, .cell 5 65, .cell 6 33] := rfl
  have hp := run_loadVar_row (P := Tryz.prog) w (m + 1) 25 25 t.cells.toArray (0, 0) _ X.t Tryz.underlying25 rfl (by kernel_rfl)
  have c5 : w.cell? ⟨m + 1 + 1, 0, none⟩ = some v := blk_cell X.told 0 rfl
  have c6 : w.cell? ⟨m + 1 + 1 + 1, 0, none⟩ = some (.int .i64 e) := blk_cell X.e 0 rfl
  have hp5 : (loadVar 65 ⟨m + 1 + 1, 0, none⟩).run Tryz.prog w = .ok v w := by simp [go_sem, c5]
  have hp6 : (loadVar 33 ⟨m + 1 + 1 + 1, 0, none⟩).run Tryz.prog w = .ok (.int .i64 e) w := by simp [go_sem, c6]
  have u4 : tmps[4]?.getD undef = .pointer (some ⟨m + 1, 0, none⟩) := by simpa using t4
  have u5 : tmps[5]?.getD undef = .pointer (some ⟨m + 1 + 1, 0, none⟩) := by simpa using t5
  have u6 : tmps[6]?.getD undef = .pointer (some ⟨m + 1 + 1 + 1, 0, none⟩) := by simpa using t6
  simp only [results, hr]
  simp [Sem.run_bind, Result.andThen, u4, u5, u6, asAddr, hp, hp5, hp6]
  rfl
theorem step_panic {W w : World} {m : Nat} {s t0 : Ps} {c : Int} (X : Bxs W m s t0 (.slice none 0 0) 0 w) (hm : W.heap.size = m) {r : Ps × List Ev × Int} (hr : r = (s, [], c)) {tmps : Array Value} (t4 : tmps.getD 4 undef = .pointer (some ⟨m + 1, 0, none⟩)) (t5 : tmps.getD 5 undef = .pointer (some ⟨m + 1 + 1, 0, none⟩)) (t6 : tmps.getD 6 undef = .pointer (some ⟨m + 1 + 1 + 1, 0, none⟩)) :
    Leaves Tryz.prog Tryz.f53 tmps (StepRes W r) [{ target := .fn (Fn.func 87) #[.pointer (some ⟨m, 0, none⟩), .pointer (some ⟨m + 1, 0, none⟩), .pointer (some ⟨m + 1 + 1, 0, none⟩), .pointer (some ⟨m + 1 + 1 + 1, 0, none⟩)], args := #[] }] (.panicking (whyP c)) w := by
  refine leaves_cons (f := 87) (args := #[.pointer (some ⟨m, 0, none⟩), .pointer (some ⟨m + 1, 0, none⟩), .pointer (some ⟨m + 1 + 1, 0, none⟩), .pointer (some ⟨m + 1 + 1 + 1, 0, none⟩)]) (by simp) (by simp [go_sem]) ?_
  refine (defer_panicking s t0 c (by omega) (by omega) (by omega) (by omega) (by omega) (by omega) w X.s X.t X.told X.e).mono ?_
  rintro e u w' ⟨rfl, hu, h4, h5, h6, hB⟩
  show Leaves _ _ _ _ [] (settle u) w'
  rw [hu]
  have b' := hB m (by omega) (by omega) (by omega)
  have b'' := hB (m + 1) (by omega) (by omega) (by omega)
  have X' : Bxs W m s s (.slice none 0 0) c w' := ⟨(b''.block m (by omega)).trans X.s, h4, h5, h6, X.below.trans b'⟩
  refine ⟨_, results_step X' t4 t5 t6, ?_⟩
  subst hr
  refine ⟨none, 0, rfl, ?_, by rw [hm]; exact X'.below⟩
  have := (RowD.nil Kd.ev w' (fun _ => False) W.heap.size).sl
  obtain ⟨A, c2, e1, e2⟩ := this
  injection e1 with e3 _ e4
  subst e3 e4
  exact e2.mono (fun k hk => by rcases hk with hk | hk; exact hk.elim; exact hk)
theorem step_done {W w : World} {m : Nat} {s t : Ps} {l : List Ev} {A : Option Addr} {c : Nat} (X : Bxs W m s t (.slice A l.length c) 0 w) (hs : Sl Kd.ev w (fun k => W.heap.size ≤ k) A c l) (hm : W.heap.size = m) {r : Ps × List Ev × Int} (hr : r = (t, l, 0)) {tmps : Array Value} (t4 : tmps.getD 4 undef = .pointer (some ⟨m + 1, 0, none⟩)) (t5 : tmps.getD 5 undef = .pointer (some ⟨m + 1 + 1, 0, none⟩)) (t6 : tmps.getD 6 undef = .pointer (some ⟨m + 1 + 1 + 1, 0, none⟩)) :
    Leaves Tryz.prog Tryz.f53 tmps (StepRes W r) [{ target := .fn (Fn.func 87) #[.pointer (some ⟨m, 0, none⟩), .pointer (some ⟨m + 1, 0, none⟩), .pointer (some ⟨m + 1 + 1, 0, none⟩), .pointer (some ⟨m + 1 + 1 + 1, 0, none⟩)], args := #[] }] .returning w := by
  refine leaves_cons (f := 87) (args := #[.pointer (some ⟨m, 0, none⟩), .pointer (some ⟨m + 1, 0, none⟩), .pointer (some ⟨m + 1 + 1, 0, none⟩), .pointer (some ⟨m + 1 + 1 + 1, 0, none⟩)]) (by simp) (by simp [go_sem]) ?_
  refine (defer_idle m (m + 1) (m + 1 + 1) (m + 1 + 1 + 1) w).mono ?_
  rintro e u w' ⟨rfl, rfl, rfl⟩
  show Leaves _ _ _ _ [] .returning w'
  refine ⟨_, results_step X t4 t5 t6, ?_⟩
  subst hr
  exact ⟨A, c, rfl, hs, by rw [hm]; exact X.below⟩
set_option maxHeartbeats 4000000 in
theorem pstep_calls (s : Ps) (hS : s.S) (hR : s.R) (b : List UInt8) {n : Nat} (hn : b.length = n) {A : Option Addr} {c : Nat} {F : Nat → Prop} (W : World) (hb : Sl Kd.byte W F A c b) :
    Calls Tryz.prog 53 #[s.agg, .slice A n c] W (StepRes W (pstep s b)) := by
  have hmf : ∀ (fn : Fn) (first cap : Array Value) (w : World), (Instr.makeFunc fn first cap).run Tryz.prog w = .ok (.func fn first cap) w := fun _ _ _ _ => rfl
  obtain ⟨my, Hmy⟩ := au (psMay s)
  have CM := Au.mk fun w => psmay_calls s hS hR Hmy.out w
  have HS := Au.mk hS
  have HB := Au.mk hb
  have HN := Au.mk hn
  obtain ⟨q, Hq⟩ := au (decide (n = 512))
  have q1 : ((n : Int) == 512) = q := by
    rw [← Hq.out, Bool.eq_iff_iff, beq_iff_eq, decide_eq_true_eq]; omega
  clear hS hR hb hn
  unfold Ps.agg
  unfold Ps.agg at CM
  go_enter_defers Tryz.func53, Tryz.ntmps53
  go_upto_region 2 with fail
  have X := Au.mk (bxs_new W s)
  have hsz := Au.mk (Nat.le_refl W.heap.size)
  generalize hW1 : World.alloc _ _ = W1
  have X1 : Au (Bxs W W.heap.size s ps0 (.slice none 0 0) 0 W1) := ⟨by rw [← hW1]; exact X.out⟩
  clear hW1 X
  obtain ⟨m, Hm⟩ := au W.heap.size
  rw [Hm.out] at X1 ⊢
  obtain ⟨f0, f1, f2, f3, f4, f5, f6, f7, f8, f9, f10, f11, f12, f13⟩ := st_cells s X1.out.s
  cases my
  · have Hr := Au.mk (show pstep s b = (s, [], 1) by
      unfold pstep pstepE
      rw [if_neg (fun h => by have := Hmy.out; rw [h.1] at this; cases this)])
    go_wp2_with fail
    refine (CM.out _).mono ?_
    rintro e w2 ⟨rfl, b2⟩
    have X2 := Au.mk (X1.out.step b2)
    clear b2 X1 f0 f1 f2 f3 f4 f5 f6 f7 f8 f9 f10 f11 f12 f13
    go_wp2_with fail
    refine (must_no 1 _).mono ?_
    rintro e w3 ⟨rfl, rfl⟩
    go_wp2_with fail
    exact step_panic X2.out Hm.out Hr.out rfl rfl rfl
  cases q
  · have Hr := Au.mk (show pstep s b = (s, [], 1) by
      unfold pstep pstepE
      rw [if_neg (fun h => by have := of_decide_eq_false Hq.out; rw [HN.out] at h; exact this h.2)])
    go_wp2_with fail
    refine (CM.out _).mono ?_
    rintro e w2 ⟨rfl, b2⟩
    have X2 := Au.mk (X1.out.step b2)
    clear b2 X1 f0 f1 f2 f3 f4 f5 f6 f7 f8 f9 f10 f11 f12 f13
    go_wp2_with fail
    refine (must_no 1 _).mono ?_
    rintro e w3 ⟨rfl, rfl⟩
    go_wp2_with fail
    exact step_panic X2.out Hm.out Hr.out rfl rfl rfl
  go_wp2_with fail
  refine (CM.out _).mono ?_
  rintro e w2 ⟨rfl, b2⟩
  have X2 := Au.mk (X1.out.step b2)
  have SB := Au.mk ((HB.out.below (X1.out.below.mono (Nat.le_of_eq Hm.out))).below b2)
  clear b2 X1 f0 f1 f2 f3 f4 f5 f6 f7 f8 f9 f10 f11 f12 f13
  go_wp2_with fail
  refine (must_yes 1 _).mono ?_
  rintro e w3 ⟨rfl, rfl⟩
  obtain ⟨f0, f1, f2, f3, f4, f5, f6, f7, f8, f9, f10, f11, f12, f13⟩ := st_cells s X2.out.s
  obtain ⟨k, hk6, hkp, CW⟩ := way_calls s HS.out Hmy.out b (by rw [HN.out]; exact of_decide_eq_true Hq.out)
  have hn5 : n = 512 := of_decide_eq_true Hq.out
  subst hn5
  obtain ⟨P, HP⟩ := au w2.heap.size
  have hmP : m + 1 + 1 + 1 < P := by rw [← HP.out]; exact lt_of_block X2.out.e
  have hb3 : Below w2.heap.size w2 (w2.alloc (.cells #[.int .i64 s.phase, .string (ofL s.node.path), .string (ofL s.node.link), .int .u8 s.node.kind.toNat, .int .i64 s.node.mode, .int .i64 s.node.uid, .int .i64 s.node.gid, .int .i64 s.node.mtime, .string (ofL s.node.data), .int .i64 s.size, .int .i64 s.left, .string (ofL s.text), .string (ofL s.name), .string (ofL s.link), .slice none 0 0] 143)) := (Below.refl _ _).alloc (Nat.le_refl _) _
  have X3 := Au.mk (X2.out.step hb3)
  have S3 := Au.mk (SB.out.below hb3)
  have P3 : Au (PsAt (w2.alloc (.cells #[.int .i64 s.phase, .string (ofL s.node.path), .string (ofL s.node.link), .int .u8 s.node.kind.toNat, .int .i64 s.node.mode, .int .i64 s.node.uid, .int .i64 s.node.gid, .int .i64 s.node.mtime, .string (ofL s.node.data), .int .i64 s.size, .int .i64 s.left, .string (ofL s.text), .string (ofL s.name), .string (ofL s.link), .slice none 0 0] 143)) P s []) := ⟨.slice none 0 0, by rw [← HP.out]; exact heap_alloc_new _ _, RowD.nil _ _ _ _⟩
  have z3 : (w2.alloc (.cells #[.int .i64 s.phase, .string (ofL s.node.path), .string (ofL s.node.link), .int .u8 s.node.kind.toNat, .int .i64 s.node.mode, .int .i64 s.node.uid, .int .i64 s.node.gid, .int .i64 s.node.mtime, .string (ofL s.node.data), .int .i64 s.size, .int .i64 s.left, .string (ofL s.text), .string (ofL s.name), .string (ofL s.link), .slice none 0 0] 143)).heap.size = P + 1 := by rw [World.size_alloc, HP.out]
  clear hb3 X2 SB CM
  have HKP := Au.mk hkp
  clear hkp
  have CWH := Au.mk CW
  clear CW
  go_upto_region 4 with fail
  rw [HP.out]
  generalize w2.alloc (.cells #[.int .i64 s.phase, .string (ofL s.node.path), .string (ofL s.node.link), .int .u8 s.node.kind.toNat, .int .i64 s.node.mode, .int .i64 s.node.uid, .int .i64 s.node.gid, .int .i64 s.node.mtime, .string (ofL s.node.data), .int .i64 s.size, .int .i64 s.left, .string (ofL s.text), .string (ofL s.name), .string (ofL s.link), .slice none 0 0] 143) = W3 at X3 S3 P3 z3 ⊢
  go_upto_region 5 with fail
  have hb4 : Below W3.heap.size W3 (W3.alloc (.cells #[.func (Fn.func 89) #[.pointer (some ⟨P, 0, none⟩)] #[], .func (Fn.func 90) #[.pointer (some ⟨P, 0, none⟩)] #[], .func (Fn.func 90) #[.pointer (some ⟨P, 0, none⟩)] #[], .func (Fn.func 91) #[.pointer (some ⟨P, 0, none⟩)] #[], .func (Fn.func 92) #[.pointer (some ⟨P, 0, none⟩)] #[], .func (Fn.func 93) #[.pointer (some ⟨P, 0, none⟩)] #[]] 145)) := (Below.refl _ _).alloc (Nat.le_refl _) _
  have X4 := Au.mk (X3.out.step hb4)
  have S4 := Au.mk (S3.out.below hb4)
  have P4 := Au.mk (P3.out.view.below hb4)
  have FA : Au ((W3.alloc (.cells #[.func (Fn.func 89) #[.pointer (some ⟨P, 0, none⟩)] #[], .func (Fn.func 90) #[.pointer (some ⟨P, 0, none⟩)] #[], .func (Fn.func 90) #[.pointer (some ⟨P, 0, none⟩)] #[], .func (Fn.func 91) #[.pointer (some ⟨P, 0, none⟩)] #[], .func (Fn.func 92) #[.pointer (some ⟨P, 0, none⟩)] #[], .func (Fn.func 93) #[.pointer (some ⟨P, 0, none⟩)] #[]] 145)).heap[P + 1]? = some (.cells #[.func (Fn.func 89) #[.pointer (some ⟨P, 0, none⟩)] #[], .func (Fn.func 90) #[.pointer (some ⟨P, 0, none⟩)] #[], .func (Fn.func 90) #[.pointer (some ⟨P, 0, none⟩)] #[], .func (Fn.func 91) #[.pointer (some ⟨P, 0, none⟩)] #[], .func (Fn.func 92) #[.pointer (some ⟨P, 0, none⟩)] #[], .func (Fn.func 93) #[.pointer (some ⟨P, 0, none⟩)] #[]] 145 (0, 0))) := ⟨by rw [← z3]; exact heap_alloc_new _ _⟩
  generalize W3.alloc (.cells #[.func (Fn.func 89) #[.pointer (some ⟨P, 0, none⟩)] #[], .func (Fn.func 90) #[.pointer (some ⟨P, 0, none⟩)] #[], .func (Fn.func 90) #[.pointer (some ⟨P, 0, none⟩)] #[], .func (Fn.func 91) #[.pointer (some ⟨P, 0, none⟩)] #[], .func (Fn.func 92) #[.pointer (some ⟨P, 0, none⟩)] #[], .func (Fn.func 93) #[.pointer (some ⟨P, 0, none⟩)] #[]] 145) = W4 at X4 S4 P4 FA ⊢
  clear hb4 X3 S3 P3 f0 f1 f2 f3 f4 f5 f6 f7 f8 f9 f10 f11 f12 f13 z3
  obtain ⟨V, HV⟩ := au (wayF k)
  have CT := Au.mk (CWH.out W4 P A c F P4.out.at S4.out)
  rw [HV.out] at CT
  have a1 := way_cell FA.out hk6
  rw [HV.out] at a1
  have hcf := fun args w => way_enter hk6 args w
  rw [HV.out] at hcf
  have f0 : W4.cell? ⟨m, 0, none⟩ = some (.int .i64 s.phase) := blk_cell X4.out.s 0 rfl
  rw [HKP.out] at f0
  go_wp2_with fail
  refine CT.out.mono ?_
  rintro e w5 hr
  generalize hq : pstepE s b = r at hr
  clear CT CWH HKP f0 a1 hcf HV FA P4 S4
  cases r with
  | error ec =>
    obtain ⟨rfl, b5⟩ := hr
    have X5 := Au.mk (X4.out.under b5 hmP)
    have Hr := Au.mk (show pstep s b = (s, [], ec) by unfold pstep; rw [hq])
    clear b5 X4 hq
    go_wp2_with fail
    exact step_panic X5.out Hm.out Hr.out rfl rfl rfl
  | ok x =>
    obtain ⟨t, l⟩ := x
    obtain ⟨rfl, h5, b5⟩ := hr
    rw [List.nil_append] at h5
    have X5 := Au.mk (X4.out.under b5 hmP)
    have H5 := Au.mk h5
    have Hr := Au.mk (show pstep s b = (t, l, 0) by unfold pstep; rw [hq])
    clear b5 h5 X4 hq
    go_wp2_with fail
    have hmx : Tryz.prog.follows .mixedOrders = true := by kernel_rfl
    obtain ⟨v, K, R⟩ := H5.out
    obtain ⟨A5, c5, rfl, S5⟩ := R.sl
    obtain ⟨Wa, HWa⟩ := au (setPs w5 (m + 1) t)
    have k2 : Wa.heap[P]? = some (.cells #[.int .i64 t.phase, .string (ofL t.node.path), .string (ofL t.node.link), .int .u8 t.node.kind.toNat, .int .i64 t.node.mode, .int .i64 t.node.uid, .int .i64 t.node.gid, .int .i64 t.node.mtime, .string (ofL t.node.data), .int .i64 t.size, .int .i64 t.left, .string (ofL t.text), .string (ofL t.name), .string (ofL t.link), .slice A5 l.length c5] 143 (0, 0)) := by rw [← HWa.out, setPs_other (by omega)]; exact K
    have xa : Bxs W m s t (.slice none 0 0) 0 Wa := by
      have q := X5.out
      rw [← HWa.out]
      refine ⟨by rw [setPs_other (by omega)]; exact q.s, ?_, by rw [setPs_other (by omega)]; exact q.told, by rw [setPs_other (by omega)]; exact q.e, q.below.trans ((setPs_below (Below.refl _ _)).mono (by omega : m ≤ m + 1))⟩
      unfold setPs
      exact blk_set (blk_set (blk_set (blk_set (blk_set (blk_set (blk_set (blk_set (blk_set (blk_set (blk_set (blk_set (blk_set (blk_set q.t 0 _) 1 _) 2 _) 3 _) 4 _) 5 _) 6 _) 7 _) 8 _) 9 _) 10 _) 11 _) 12 _) 13 _
    obtain ⟨Wb, HWb⟩ := au (Wa.setCell ⟨m + 1 + 1, 0, none⟩ (.slice A5 l.length c5))
    have k3 : Wb.heap[P]? = some (.cells #[.int .i64 t.phase, .string (ofL t.node.path), .string (ofL t.node.link), .int .u8 t.node.kind.toNat, .int .i64 t.node.mode, .int .i64 t.node.uid, .int .i64 t.node.gid, .int .i64 t.node.mtime, .string (ofL t.node.data), .int .i64 t.size, .int .i64 t.left, .string (ofL t.text), .string (ofL t.name), .string (ofL t.link), .slice A5 l.length c5] 143 (0, 0)) := by rw [← HWb.out, Below.heap_setCell _ _ _ P (by show P ≠ m + 1 + 1; omega)]; exact k2
    have xb : Bxs W m s t (.slice A5 l.length c5) 0 Wb := by
      rw [← HWb.out]
      exact ⟨blk_far xa.s (by show m ≠ m + 1 + 1; omega) _, blk_far xa.t (by show m + 1 ≠ m + 1 + 1; omega) _, set_block xa.told 0 _, blk_far xa.e (by show m + 3 ≠ m + 1 + 1; omega) _, xa.below.setCell (p := ⟨m + 1 + 1, 0, none⟩) (by show m ≤ m + 1 + 1; omega) _⟩
    have xc : Bxs W m s t (.slice A5 l.length c5) 0 (Wb.setCell ⟨m + 1 + 1 + 1, 0, none⟩ (.int .i64 0)) :=
      ⟨blk_far xb.s (by show m ≠ m + 1 + 1 + 1; omega) _, blk_far xb.t (by show m + 1 ≠ m + 1 + 1 + 1; omega) _, blk_far xb.told (by show m + 2 ≠ m + 1 + 1 + 1; omega) _, set_block xb.e 0 _, xb.below.setCell (p := ⟨m + 1 + 1 + 1, 0, none⟩) (by show m ≤ m + 1 + 1 + 1; omega) _⟩
    have k4 : (Wb.setCell ⟨m + 1 + 1 + 1, 0, none⟩ (.int .i64 0)).heap[P]? = some (.cells #[.int .i64 t.phase, .string (ofL t.node.path), .string (ofL t.node.link), .int .u8 t.node.kind.toNat, .int .i64 t.node.mode, .int .i64 t.node.uid, .int .i64 t.node.gid, .int .i64 t.node.mtime, .string (ofL t.node.data), .int .i64 t.size, .int .i64 t.left, .string (ofL t.text), .string (ofL t.name), .string (ofL t.link), .slice A5 l.length c5] 143 (0, 0)) := by rw [Below.heap_setCell _ _ _ P (by show P ≠ m + 1 + 1 + 1; omega)]; exact k3
    have hag : ∀ k, P + 1 ≤ k → (Wb.setCell ⟨m + 1 + 1 + 1, 0, none⟩ (.int .i64 0)).heap[k]? = w5.heap[k]? := fun k hk => by
      rw [Below.heap_setCell _ _ _ k (by show k ≠ m + 1 + 1 + 1; omega), ← HWb.out, Below.heap_setCell _ _ _ k (by show k ≠ m + 1 + 1; omega), ← HWa.out, setPs_other (by omega)]
    have hsz5 : w5.heap.size ≤ (Wb.setCell ⟨m + 1 + 1 + 1, 0, none⟩ (.int .i64 0)).heap.size := by
      rw [← HWb.out, ← HWa.out]
      simp [World.setCell, setPs_size]
    have sc : Sl Kd.ev (Wb.setCell ⟨m + 1 + 1 + 1, 0, none⟩ (.int .i64 0)) (fun k => W.heap.size ≤ k) A5 c5 l := by
      obtain ⟨A6, c6, hv6, S6⟩ := (R.keep (fun k hk _ => hag k (by rcases hk with hk | hk; exact hk.elim; exact hk)) hsz5).sl
      injection hv6 with e1 _ e2
      subst e1 e2
      exact S6.mono (fun k hk => by rcases hk with hk | hk; exact hk.elim; have := Hm.out; omega)
    have K0 := Au.mk K
    have K2 := Au.mk k2
    have K3 := Au.mk k3
    have K4 := Au.mk k4
    have XC := Au.mk xc
    have SC := Au.mk sc
    obtain ⟨a0, a1, a2, a3, a4, a5, a6, a7, a8, a9, a10, a11, a12, a13⟩ := st_cells ps0 X5.out.t
    obtain ⟨g0, g1, g2, g3, g4, g5, g6, g7, g8, g9, g10, g11, g12, g13⟩ := ps_free X5.out.t
    have b14 : w5.cell? ⟨m + 1 + 1, 0, none⟩ = some (.slice none 0 0) := blk_cell X5.out.told 0 rfl
    have g14 : w5.frozen? ⟨m + 1 + 1, 0, none⟩ = false := blk_free X5.out.told 0
    have b15 : w5.cell? ⟨m + 1 + 1 + 1, 0, none⟩ = some (.int .i64 0) := blk_cell X5.out.e 0 rfl
    have g15 : w5.frozen? ⟨m + 1 + 1 + 1, 0, none⟩ = false := blk_free X5.out.e 0
    clear K k2 k3 k4 xa xb xc sc hag hsz5 R S5
    refine region_ord (fun w' => BlkIs w' P #[.int .i64 t.phase, .string (ofL t.node.path), .string (ofL t.node.link), .int .u8 t.node.kind.toNat, .int .i64 t.node.mode, .int .i64 t.node.uid, .int .i64 t.node.gid, .int .i64 t.node.mtime, .string (ofL t.node.data), .int .i64 t.size, .int .i64 t.left, .string (ofL t.text), .string (ofL t.name), .string (ofL t.link), .slice A5 l.length c5] 143) [(true, 0), (true, 1), (true, 2), (true, 3), (true, 4), (true, 5), (true, 6), (true, 7), (false, 8), (false, 9), (false, 10)] hmx (by kernel_rfl) ⟨K0.out⟩ ?_
    simp only [ordL, List.getElem?_toArray, List.getElem?_cons_succ, List.getElem?_cons_zero]
    iterate 8
      refine ⟨?_, Or.inl ⟨by rfl, fun w' hw' => ?_⟩, ?_⟩
      rotate_left 1
      · obtain ⟨q0, q1, q2, q3, q4, q5, q6, q7, q8, q9, q10, q11, q12, q13, q14⟩ := ps_all hw'.out
        clear hw'
        go_simp
        all_goals (with_reducible rfl)
      try simp only [Act.put, List.setIfInBounds_toArray, List.set_cons_zero, List.set_cons_succ]
    try refine ⟨by first | rfl | trivial, ?_⟩
    go_simp
    rw [store_ps, HWa.out]
    refine ⟨⟨K2.out⟩, ?_⟩
    try simp only [Act.put, List.setIfInBounds_toArray, List.set_cons_zero, List.set_cons_succ]
    try refine ⟨by first | rfl | trivial, ?_⟩
    go_simp
    rw [HWb.out]
    refine ⟨⟨K3.out⟩, ?_⟩
    try simp only [Act.put, List.setIfInBounds_toArray, List.set_cons_zero, List.set_cons_succ]
    try refine ⟨by first | rfl | trivial, ?_⟩
    go_simp
    refine ⟨⟨K4.out⟩, ?_⟩
    simp only [Calm]
    go_wp2_with fail
    have XD := XC.out.step (below_drewN (Below.refl _ _) 1)
    exact step_done XD (SC.out.drewN 1) Hm.out Hr.out rfl rfl rfl
end Go.Proofs.YtldhcknjpmbgnaaGreatDoor.Rk
