/- VolN: VolY VolZ EntA EntB VolG -/
import Derived.Test.YtldhcknjpmbgnaaGreatDoorVolM
import Derived.Test.YtldhcknjpmbgnaaGreatDoorVMis
import Derived.Test.YtldhcknjpmbgnaaGreatDoorGHeadD
import Derived.Test.YtldhcknjpmbgnaaGreatDoorVolS
import Derived.StringKeys
/- Trees: one node, walked. -/
namespace Go.Proofs.YtldhcknjpmbgnaaGreatDoor.Rk
open Go.RowKit Go.Shelf Go.Maps
set_option linter.unusedVariables false
set_option linter.unusedSimpArgs false
set_option maxRecDepth 100000

theorem tin_calls (n m : Int) {r : Bool} (hr : inN n m = r) (w : World) : Calls Tryz.prog 77 #[.int .i64 n, .int .i64 m] w fun e w' => e = .returned (.bool r) ∧ w = w' := by
  unfold inN at hr
  obtain ⟨a, A1⟩ := au (decide (0 ≤ n))
  obtain ⟨b, B1⟩ := au (decide (n ≤ m))
  rw [A1.out, B1.out] at hr
  have a1 := A1.out
  have b1 := B1.out
  have Hr := Au.mk hr
  clear hr
  cases a <;> cases b
  all_goals
    go_enter Tryz.func77, Tryz.ntmps77
    go_wp2_with fail
    go_ret
    exact ⟨ret_bool (by rw [← Hr.out]; rfl), rfl⟩
theorem kind48_calls (n : Nd) (hS : n.S) {r : Bool} (hr : (n.link == [] && decide (n.data.length ≤ 4000)) = r) (w : World) : Calls Tryz.prog 120 #[n.agg] w fun e w' => e = .returned (.bool r) ∧ Below w.heap.size w w' := by
  obtain ⟨h1, h2, h3⟩ := hS
  obtain ⟨a, A1⟩ := au (n.link == [])
  obtain ⟨b, B1⟩ := au (decide (n.data.length ≤ 4000))
  rw [A1.out, B1.out] at hr
  have a1 : n.link.isEmpty = a := by rw [← A1.out]; cases n.link <;> rfl
  have b1 := B1.out
  have b2 : decide ((n.data.length : Int) ≤ 4000) = b := by rw [← b1]; simp only [decide_eq_decide]; omega
  have hz : (ofL n.data).size = n.data.length := ofL_size _
  have Hr := Au.mk hr
  have B0 := Au.mk (nd_box w n)
  have hb0 := (Below.refl w.heap.size w).alloc (Nat.le_refl _) (.cells n.cells.toArray 23)
  obtain ⟨f0, f1, f2, f3, f4, f5, f6, f7⟩ := nd_cells n B0.out
  unfold Nd.agg
  unfold Nd.cells at f0 f1 f2 f3 f4 f5 f6 f7 hb0
  clear hr
  cases a <;> cases b
  all_goals
    go_enter Tryz.func120, Tryz.ntmps120
    go_wp2_with fail
    go_ret
    exact ⟨ret_bool (by rw [← Hr.out]; rfl), hb0⟩
theorem kind53_calls (n : Nd) (hS : n.S) {r : Bool} (hr : (n.link == [] && n.data == []) = r) (w : World) : Calls Tryz.prog 123 #[n.agg] w fun e w' => e = .returned (.bool r) ∧ Below w.heap.size w w' := by
  obtain ⟨a, A1⟩ := au (n.link == [])
  obtain ⟨b, B1⟩ := au (n.data == [])
  rw [A1.out, B1.out] at hr
  have a1 : n.link.isEmpty = a := by rw [← A1.out]; cases n.link <;> rfl
  have b1 : n.data.isEmpty = b := by rw [← B1.out]; cases n.data <;> rfl
  have Hr := Au.mk hr
  have B0 := Au.mk (nd_box w n)
  have hb0 := (Below.refl w.heap.size w).alloc (Nat.le_refl _) (.cells n.cells.toArray 23)
  obtain ⟨f0, f1, f2, f3, f4, f5, f6, f7⟩ := nd_cells n B0.out
  unfold Nd.agg
  unfold Nd.cells at f0 f1 f2 f3 f4 f5 f6 f7 hb0
  clear hr
  cases a <;> cases b
  all_goals
    go_enter Tryz.func123, Tryz.ntmps123
    go_wp2_with fail
    go_ret
    exact ⟨ret_bool (by rw [← Hr.out]; rfl), hb0⟩
theorem kind50_calls (n : Nd) (hS : n.S) {r : Bool} (hr : (ltext n.link && n.data == []) = r) (w : World) : Calls Tryz.prog 122 #[n.agg] w fun e w' => e = .returned (.bool r) ∧ Below w.heap.size w w' := by
  obtain ⟨h1, h2, h3⟩ := hS
  have hl : n.link.length ≤ 10000 := by omega
  obtain ⟨a, A1⟩ := au (ltext n.link)
  obtain ⟨b, B1⟩ := au (n.data == [])
  rw [A1.out, B1.out] at hr
  have b1 : n.data.isEmpty = b := by rw [← B1.out]; cases n.data <;> rfl
  have Hr := Au.mk hr
  have B0 := Au.mk (nd_box w n)
  have hb0 := (Below.refl w.heap.size w).alloc (Nat.le_refl _) (.cells n.cells.toArray 23)
  obtain ⟨f0, f1, f2, f3, f4, f5, f6, f7⟩ := nd_cells n B0.out
  unfold Nd.agg
  unfold Nd.cells at f0 f1 f2 f3 f4 f5 f6 f7 hb0
  clear hr
  cases a <;> cases b
  all_goals
    go_enter Tryz.func122, Tryz.ntmps122
    go_wp2_with fail
    refine (ltext_calls n.link hl A1.out _).mono ?_
    rintro e w1 ⟨rfl, rfl⟩
    go_wp2_with fail
    go_ret
    exact ⟨ret_bool (by rw [← Hr.out]; rfl), hb0⟩
def kfuncs : List (Value × Value) := [(.int .u8 48, .func (.func 120) #[] #[]), (.int .u8 49, .func (.func 121) #[] #[]), (.int .u8 50, .func (.func 122) #[] #[]), (.int .u8 53, .func (.func 123) #[] #[])]
theorem keyed8 : Keyed Tryz.prog 5 := int_keyed Tryz.underlying5
theorem key8 {a : Int} (h0 : 0 ≤ a) (h1 : a < 256) : keyOf Tryz.prog 5 (.int .u8 a) = some (.int .u8 a) := by
  refine keyOf_int_mk Tryz.underlying5 ?_
  have e1 : IntKind.u8.min = 0 := by decide
  have e2 : IntKind.u8.max = 255 := by decide
  simp only [Lit.wf, e1, e2, Bool.and_eq_true, decide_eq_true_eq]
  omega
set_option maxHeartbeats 1000000 in
theorem kinds_calls (w : World) : Calls Tryz.prog 75 #[] w fun e w' => ∃ b, e = .returned (.map (some b)) ∧ MapL Tryz.prog 5 w' b kfuncs ∧ Below w.heap.size w w' := by
  have hmm := @run_makeMap Tryz.prog
  have hm0 := MapL.made Tryz.prog 5 w
  have hb0 := (Below.refl w.heap.size w).alloc (Nat.le_refl _) (.map #[] 0)
  have hs0 : w.heap.size < (w.alloc (.map #[] 0)).heap.size := by simp
  go_enter Tryz.func75, Tryz.ntmps75
  go_wp2_with fail
  generalize w.alloc (.map #[] 0) = W0 at hm0 hb0 hs0 ⊢
  clear hmm
  obtain ⟨o1, h1, m1⟩ := run_update_new keyed8 Tryz.underlying126 (v := .func (.func 120) #[] #[]) hm0 (key8 (a := 48) (by decide) (by decide)) (by simp)
  rw [h1]
  have b1 := below_putObj hb0 (L := w.heap.size) (Nat.le_refl _) (by omega) o1
  have s1 : w.heap.size < (W0.putObj w.heap.size o1).heap.size := by simpa using hs0
  generalize W0.putObj w.heap.size o1 = W1 at m1 b1 s1 ⊢
  clear h1 hm0 hb0 hs0
  go_wp2_with fail
  obtain ⟨o2, h2, m2⟩ := run_update_new keyed8 Tryz.underlying126 (v := .func (.func 121) #[] #[]) m1 (key8 (a := 49) (by decide) (by decide)) (by simp)
  rw [h2]
  have b2 := below_putObj b1 (L := w.heap.size) (Nat.le_refl _) (by omega) o2
  have s2 : w.heap.size < (W1.putObj w.heap.size o2).heap.size := by simpa using s1
  generalize W1.putObj w.heap.size o2 = W2 at m2 b2 s2 ⊢
  clear h2 m1 b1 s1
  go_wp2_with fail
  obtain ⟨o3, h3, m3⟩ := run_update_new keyed8 Tryz.underlying126 (v := .func (.func 122) #[] #[]) m2 (key8 (a := 50) (by decide) (by decide)) (by simp)
  rw [h3]
  have b3 := below_putObj b2 (L := w.heap.size) (Nat.le_refl _) (by omega) o3
  have s3 : w.heap.size < (W2.putObj w.heap.size o3).heap.size := by simpa using s2
  generalize W2.putObj w.heap.size o3 = W3 at m3 b3 s3 ⊢
  clear h3 m2 b2 s2
  go_wp2_with fail
  obtain ⟨o4, h4, m4⟩ := run_update_new keyed8 Tryz.underlying126 (v := .func (.func 123) #[] #[]) m3 (key8 (a := 53) (by decide) (by decide)) (by simp)
  rw [h4]
  have b4 := below_putObj b3 (L := w.heap.size) (Nat.le_refl _) (by omega) o4
  generalize W3.putObj w.heap.size o4 = W4 at m4 b4 ⊢
  clear h4 m3 b3 s3
  go_wp2_with fail
  go_ret
  exact ⟨_, rfl, m4, b4⟩
/-- Are two nodes the same? -/
def neq (n m : Nd) : Bool := n.path == m.path && (n.link == m.link && (n.kind == m.kind && (n.mode == m.mode && (n.uid == m.uid && (n.gid == m.gid && (n.mtime == m.mtime && n.data == m.data))))))
theorem neq_iff {n m : Nd} : neq n m = true ↔ n = m := by
  unfold neq
  simp only [Bool.and_eq_true, beq_iff_eq]
  constructor
  · rintro ⟨h1, h2, h3, h4, h5, h6, h7, h8⟩
    cases n
    cases m
    simp_all
  · rintro rfl; simp
theorem eql_nd (n m : Nd) (w : World) : (binOp .eql 23 (.agg #[.string (ofL n.path), .string (ofL n.link), .int .u8 n.kind.toNat, .int .i64 n.mode, .int .i64 n.uid, .int .i64 n.gid, .int .i64 n.mtime, .string (ofL n.data)]) (.agg #[.string (ofL m.path), .string (ofL m.link), .int .u8 m.kind.toNat, .int .i64 m.mode, .int .i64 m.uid, .int .i64 m.gid, .int .i64 m.mtime, .string (ofL m.data)])).run Tryz.prog w = .ok (.bool (neq n m)) w := by
  have q1 := Tryz.eqGuardType23
  have q2 := Tryz.stoodInHeld23
  have hty : ((n.kind.toNat : Int) == (m.kind.toNat : Int)) = (n.kind == m.kind) := byte_beq _ _
  unfold neq
  rw [run_eql_struct]
  go_simp
  repeat' split
  all_goals simp [*]
set_option maxHeartbeats 1000000 in
theorem kind49_calls (n : Nd) (hS : n.S) {r : Bool} (hr : ((n.mode == 0 && n.uid == 0 && n.gid == 0 && n.mtime == 0 && n.data == []) && pmay n.link) = r) (w : World) : Calls Tryz.prog 121 #[n.agg] w fun e w' => e = .returned (.bool r) ∧ Below w.heap.size w w' := by
  obtain ⟨h1, h2, h3⟩ := hS
  have hl : n.link.length ≤ 10000 := by omega
  obtain ⟨a, A1⟩ := au (n.mode == 0 && n.uid == 0 && n.gid == 0 && n.mtime == 0 && n.data == [])
  obtain ⟨b, B1⟩ := au (pmay n.link)
  rw [A1.out, B1.out] at hr
  have Hr := Au.mk hr
  have hq : ∀ W, (binOp .eql 23 (.agg #[.string (ofL n.path), .string (ofL n.link), .int .u8 n.kind.toNat, .int .i64 n.mode, .int .i64 n.uid, .int .i64 n.gid, .int .i64 n.mtime, .string (ofL n.data)]) (.agg #[.string (ofL n.path), .string (ofL n.link), .int .u8 n.kind.toNat, .int .i64 0, .int .i64 0, .int .i64 0, .int .i64 0, .string ⟨#[]⟩])).run Tryz.prog W = .ok (.bool a) W := fun W => by
    have h := eql_nd n ⟨n.path, n.link, n.kind, 0, 0, 0, 0, []⟩ W
    have e : neq n ⟨n.path, n.link, n.kind, 0, 0, 0, 0, []⟩ = a := by
      rw [← A1.out]; unfold neq
      simp [Bool.and_assoc]
    rw [e] at h
    exact h
  have B0 := Au.mk (nd_box w n)
  have hb0 := (Below.refl w.heap.size w).alloc (Nat.le_refl _) (.cells n.cells.toArray 23)
  obtain ⟨f0, f1, f2, f3, f4, f5, f6, f7⟩ := nd_cells n B0.out
  unfold Nd.agg
  unfold Nd.cells at f0 f1 f2 f3 f4 f5 f6 f7 hb0
  clear hr
  cases a
  · go_enter Tryz.func121, Tryz.ntmps121
    go_wp2_with fail
    go_ret
    exact ⟨ret_bool (by rw [← Hr.out]; rfl), hb0⟩
  · go_enter Tryz.func121, Tryz.ntmps121
    go_wp2_with fail
    refine (pmay_calls n.link hl B1.out _).mono ?_
    rintro e w1 ⟨rfl, b1⟩
    go_wp2_with fail
    go_ret
    exact ⟨ret_bool (by rw [← Hr.out]; rfl), below_then hb0 b1 hb0.size⟩
/-- What a kind's function says; none, if there is no such kind. -/
theorem kind_none {k : UInt8} (h : k ≠ 48 ∧ k ≠ 49 ∧ k ≠ 50 ∧ k ≠ 53) : ∀ p ∈ kfuncs, p.1 ≠ .int .u8 (k.toNat : Int) := by
  intro p hp
  have hk : ∀ m : Nat, m < 256 → k.toNat = m → k = UInt8.ofNat m := fun m hm e => by rw [← e]; simp
  simp only [kfuncs, List.mem_cons, List.mem_nil_iff, or_false] at hp
  rcases hp with rfl | rfl | rfl | rfl
  all_goals
    intro e
    injection e with _ e
    have e := e.symm
    first
      | exact h.1 (hk 48 (by decide) (by omega))
      | exact h.2.1 (hk 49 (by decide) (by omega))
      | exact h.2.2.1 (hk 50 (by decide) (by omega))
      | exact h.2.2.2 (hk 53 (by decide) (by omega))
def FnOk (n : Nd) (F : FuncId) : Prop := ∀ W, Calls Tryz.prog F #[n.agg] W fun e w' => e = .returned (.bool (kindOk n)) ∧ Below W.heap.size W w'
theorem kind_look (n : Nd) (hS : n.S) : (kindOk n = false ∧ ∀ W b, MapL Tryz.prog 5 W b kfuncs → (Instr.lookup 126 (.map (some b)) (.int .u8 n.kind.toNat) true).run Tryz.prog W = .ok (.tuple #[.nilFunc, .bool false]) W) ∨
    (FnOk n 120 ∧ ∀ W b, MapL Tryz.prog 5 W b kfuncs → (Instr.lookup 126 (.map (some b)) (.int .u8 n.kind.toNat) true).run Tryz.prog W = .ok (.tuple #[.func (.func 120) #[] #[], .bool true]) W) ∨
    (FnOk n 121 ∧ ∀ W b, MapL Tryz.prog 5 W b kfuncs → (Instr.lookup 126 (.map (some b)) (.int .u8 n.kind.toNat) true).run Tryz.prog W = .ok (.tuple #[.func (.func 121) #[] #[], .bool true]) W) ∨
    (FnOk n 122 ∧ ∀ W b, MapL Tryz.prog 5 W b kfuncs → (Instr.lookup 126 (.map (some b)) (.int .u8 n.kind.toNat) true).run Tryz.prog W = .ok (.tuple #[.func (.func 122) #[] #[], .bool true]) W) ∨
    (FnOk n 123 ∧ ∀ W b, MapL Tryz.prog 5 W b kfuncs → (Instr.lookup 126 (.map (some b)) (.int .u8 n.kind.toNat) true).run Tryz.prog W = .ok (.tuple #[.func (.func 123) #[] #[], .bool true]) W) := by
  have hk : ∀ (W : World) (b : Nat) (m : Int) (v : Value), 0 ≤ m → m < 256 → (.int .u8 m, v) ∈ kfuncs → (∀ p ∈ kfuncs, p.1 = .int .u8 m → p.2 = v) → MapL Tryz.prog 5 W b kfuncs → (Instr.lookup 126 (.map (some b)) (.int .u8 m) true).run Tryz.prog W = .ok (.tuple #[v, .bool true]) W :=
    fun W b m v h0 h1 hm hu h => by
      have := run_lookup_hit keyed8 Tryz.underlying126 h (key8 h0 h1) hm hu true
      simpa using this
  by_cases h48 : n.kind = 48
  · right; left
    refine ⟨fun W => kind48_calls n hS (by unfold kindOk; rw [if_pos h48]) W, fun W b h => ?_⟩
    rw [h48]
    exact hk W b 48 _ (by decide) (by decide) (by simp [kfuncs]) (by simp [kfuncs]) h
  · by_cases h49 : n.kind = 49
    · right; right; left
      refine ⟨fun W => kind49_calls n hS (by unfold kindOk; rw [if_neg h48, if_pos h49]) W, fun W b h => ?_⟩
      rw [h49]
      exact hk W b 49 _ (by decide) (by decide) (by simp [kfuncs]) (by simp [kfuncs]) h
    · by_cases h50 : n.kind = 50
      · right; right; right; left
        refine ⟨fun W => kind50_calls n hS (by unfold kindOk; rw [if_neg h48, if_neg h49, if_pos h50]) W, fun W b h => ?_⟩
        rw [h50]
        exact hk W b 50 _ (by decide) (by decide) (by simp [kfuncs]) (by simp [kfuncs]) h
      · by_cases h53 : n.kind = 53
        · right; right; right; right
          refine ⟨fun W => kind53_calls n hS (by unfold kindOk; rw [if_neg h48, if_neg h49, if_neg h50, if_pos h53]) W, fun W b h => ?_⟩
          rw [h53]
          exact hk W b 53 _ (by decide) (by decide) (by simp [kfuncs]) (by simp [kfuncs]) h
        · left
          refine ⟨by unfold kindOk; rw [if_neg h48, if_neg h49, if_neg h50, if_neg h53], fun W b h => ?_⟩
          have hlt := n.kind.toNat_lt
          have := run_lookup_miss keyed8 Tryz.underlying126 (z := .nilFunc) (by kernel_rfl) h (key8 (a := (n.kind.toNat : Int)) (by omega) (by omega)) (kind_none ⟨h48, h49, h50, h53⟩) true
          simpa using this
set_option maxHeartbeats 4000000 in
theorem one_calls (n : Nd) (hS : n.S) {r : Bool} (hr : one n = r) (w : World) : Calls Tryz.prog 49 #[n.agg] w fun e w' => e = .returned (.bool r) ∧ Below w.heap.size w w' := by
  have hp : n.path.length ≤ 10000 := by have := hS.1; omega
  have hlook := kind_look n hS
  obtain ⟨a0, A0⟩ := au (kindOk n)
  obtain ⟨a1, A1⟩ := au (pmay n.path)
  obtain ⟨a2, A2⟩ := au (inN n.mode 4095)
  obtain ⟨a3, A3⟩ := au (inN n.uid 1099511627776)
  obtain ⟨a4, A4⟩ := au (inN n.gid 1099511627776)
  obtain ⟨a5, A5⟩ := au (inN n.mtime 1099511627776)
  have Hr : Au ((a0 && (a1 && (a2 && (a3 && (a4 && a5))))) = r) := ⟨by rw [← hr, one, A0.out, A1.out, A2.out, A3.out, A4.out, A5.out]⟩
  have B0 := Au.mk (nd_box w n)
  have hb0 := (Below.refl w.heap.size w).alloc (Nat.le_refl _) (.cells n.cells.toArray 23)
  obtain ⟨f0, f1, f2, f3, f4, f5, f6, f7⟩ := nd_cells n B0.out
  have HS := Au.mk hS
  unfold FnOk at hlook
  rw [A0.out] at hlook
  clear hr hS
  rcases hlook with ⟨hk0, hlk⟩ | ⟨hfn, hlk⟩ | ⟨hfn, hlk⟩ | ⟨hfn, hlk⟩ | ⟨hfn, hlk⟩
  · have Hlk := Au.mk hlk
    have h0 : a0 = false := by rw [← A0.out]; exact A0.out.trans hk0
    clear hlk
    unfold Nd.agg
    unfold Nd.cells at f0 f1 f2 f3 f4 f5 f6 f7 hb0 B0
    go_enter Tryz.func49, Tryz.ntmps49
    go_upto_region 1 with fail
    generalize hW : w.alloc _ = W0 at B0 hb0 f0 f1 f2 f3 f4 f5 f6 f7 ⊢
    clear hW
    go_region_held3 (fun w' => w'.cell? ⟨w.heap.size, 2, none⟩ = some (.int .u8 n.kind.toNat)) (go_keep)
      (first | (go_at_call 75; refine (kinds_calls _).mono ?_; rintro e w1 ⟨b, rfl, hm1, b1⟩; have g2 := cell_below (w := W0.drew) f2 b1; have hlk1 := Hlk.out w1 b hm1))
    have e1 := below_then (below_drewN hb0 1) b1 (below_drewN hb0 1).size
    go_wp2_with fail
    go_ret
    exact ⟨ret_bool (by rw [← Hr.out, h0]; rfl), e1⟩
  all_goals
    have Hfn := Au.mk hfn
    have Hlk := Au.mk hlk
    clear hfn hlk
    unfold Nd.agg
    unfold Nd.cells at f0 f1 f2 f3 f4 f5 f6 f7 hb0 B0
    go_enter Tryz.func49, Tryz.ntmps49
    go_upto_region 1 with fail
    generalize hW : w.alloc _ = W0 at B0 hb0 f0 f1 f2 f3 f4 f5 f6 f7 ⊢
    clear hW
    go_region_held3 (fun w' => w'.cell? ⟨w.heap.size, 2, none⟩ = some (.int .u8 n.kind.toNat)) (go_keep)
      (first | (go_at_call 75; refine (kinds_calls _).mono ?_; rintro e w1 ⟨b, rfl, hm1, b1⟩; have g2 := cell_below (w := W0.drew) f2 b1; have hlk1 := Hlk.out w1 b hm1))
    have B1 := Au.mk (blk_below (w := W0.drew) B0.out b1 (lt_of_block B0.out))
    have e1 := below_then (below_drewN hb0 1) b1 (below_drewN hb0 1).size
    clear f0 f1 f2 f3 f4 f5 f6 f7 hb0 b1 B0 g2 hlk1 hm1 Hlk
    obtain ⟨f0, f1, f2, f3, f4, f5, f6, f7⟩ := nd_cells n B1.out
    go_wp2_with fail
    refine (Hfn.out _).mono ?_
    rintro e w2 ⟨rfl, b2⟩
    have B2 := Au.mk (blk_below B1.out b2 (lt_of_block B1.out))
    have e2 := below_then e1 b2 e1.size
    clear f0 f1 f2 f3 f4 f5 f6 f7 e1 b2 B1 Hfn
    obtain ⟨f0, f1, f2, f3, f4, f5, f6, f7⟩ := nd_cells n B2.out
    cases a0
    · go_wp2_with fail
      go_ret
      exact ⟨ret_bool (by rw [← Hr.out]; rfl), e2⟩
    · go_wp2_with fail
      refine (pmay_calls n.path hp A1.out _).mono ?_
      rintro e w3 ⟨rfl, b3⟩
      have B3 := Au.mk (blk_below B2.out b3 (lt_of_block B2.out))
      have e3 := below_then e2 b3 e2.size
      clear f0 f1 f2 f3 f4 f5 f6 f7 e2 b3 B2
      obtain ⟨f0, f1, f2, f3, f4, f5, f6, f7⟩ := nd_cells n B3.out
      cases a1
      · go_wp2_with fail
        go_ret
        exact ⟨ret_bool (by rw [← Hr.out]; rfl), e3⟩
      · go_wp2_with fail
        refine (tin_calls _ _ A2.out _).mono ?_
        rintro e w' ⟨rfl, rfl⟩
        cases a2
        · go_wp2_with fail
          go_ret
          exact ⟨ret_bool (by rw [← Hr.out]; rfl), e3⟩
        · go_wp2_with fail
          refine (tin_calls _ _ A3.out _).mono ?_
          rintro e w' ⟨rfl, rfl⟩
          cases a3
          · go_wp2_with fail
            go_ret
            exact ⟨ret_bool (by rw [← Hr.out]; rfl), e3⟩
          · go_wp2_with fail
            refine (tin_calls _ _ A4.out _).mono ?_
            rintro e w' ⟨rfl, rfl⟩
            cases a4
            · go_wp2_with fail
              go_ret
              exact ⟨ret_bool (by rw [← Hr.out]; rfl), e3⟩
            · go_wp2_with fail
              refine (tin_calls _ _ A5.out _).mono ?_
              rintro e w' ⟨rfl, rfl⟩
              go_wp2_with fail
              go_ret
              exact ⟨ret_bool (by rw [← Hr.out]; rfl), e3⟩
end Go.Proofs.YtldhcknjpmbgnaaGreatDoor.Rk
/- Long names as blocks: Put, Ahead, walked. -/
namespace Go.Proofs.YtldhcknjpmbgnaaGreatDoor.Rk
open Go.RowKit Go.Shelf
set_option linter.unusedVariables false
set_option linter.unusedSimpArgs false
set_option maxRecDepth 100000

set_option maxHeartbeats 4000000 in
theorem lputB_calls (k : UInt8) (hk : k = 75 ∨ k = 76) (s : List UInt8) (hs : s.length ≤ 1000) {l : List (List UInt8)} {b : Bool} (hl : (lputB k s).getD [] = l) (hb : (lputB k s).isSome = b) (w : World) :
    Calls Tryz.prog 129 #[.int .u8 k.toNat, .string (ofL s)] w fun e w' => ∃ A c, e = .returned (.tuple #[.slice A l.length c, .bool b]) ∧ Sl (Kd.slice Kd.byte) w' (fun j => w.heap.size ≤ j) A c l ∧ Below w.heap.size w w' := by
  have hs' : s.length ≤ 10000 := by omega
  have hsi : (s.length : Int) ≤ 1000 := by omega
  have hz : (ofL s).size = s.length := ofL_size s
  obtain ⟨t, Ht⟩ := au (ltext s)
  have hput : lputB k s = if t then some ((hput (longHd k s)).getD [] :: cutB (s ++ [0])) else none := by
    unfold lputB; rw [Ht.out]
    rcases hk with rfl | rfl <;> simp
  rw [hput] at hl hb
  clear hput
  have kt : (k.toNat : Int) = 75 ∨ (k.toNat : Int) = 76 := by rcases hk with rfl | rfl <;> simp
  cases t
  · have h1 : [] = l := hl
    have h2 : false = b := hb
    subst h1 h2
    clear hl hb
    rcases hk with rfl | rfl
    all_goals
      go_enter Tryz.func129, Tryz.ntmps129
      go_wp2_with fail
      refine (ltext_calls s hs' Ht.out _).mono ?_
      rintro e w1 ⟨rfl, rfl⟩
      go_wp2_with fail
      go_ret2
      exact ⟨none, 0, rfl, Sl.nil _ _ _, Below.refl _ _⟩
  · obtain ⟨p, Hp⟩ := au ((hput (longHd k s)).getD [])
    obtain ⟨pb, Hpb⟩ := au ((hput (longHd k s)).isSome)
    obtain ⟨c2, Hc2⟩ := au (cutB (s ++ [0]))
    have h300 := (ltext_iff.1 Ht.out).2.1
    have HR := Au.mk (longHd_R (k := k) h300)
    have Hl : Au (p :: c2 = l) := ⟨by rw [← hl, ← Hp.out, ← Hc2.out]; rfl⟩
    have h2 : true = b := hb
    subst h2
    clear hl hb
    have hcl : c2.length ≤ 2 := by rw [← Hc2.out, cutB_len, List.length_append]; simp only [List.length_singleton]; unfold manyB; split <;> omega
    have Hcl := Au.mk hcl
    have hcat : ofL s ++ (⟨#[0]⟩ : ByteArray) = ofL (s ++ [0]) := ofL_append s [0]
    have hsl : (s ++ [0]).length ≤ 10000 := by simp; omega
    have Hsl := Au.mk hsl
    clear hcl hsl
    rcases hk with rfl | rfl
    all_goals
      go_enter Tryz.func129, Tryz.ntmps129
      go_wp2_with fail
      refine (ltext_calls s hs' Ht.out _).mono ?_
      rintro e w1 ⟨rfl, rfl⟩
      go_wp2_with fail
      refine (hput_view _ HR.out Hp.out Hpb.out _).mono ?_
      rintro e w1 ⟨A, c, rfl, s1, b1⟩
      have s2 := sl_one (d := Kd.byte) (e := 46) rfl s1
      have e2 := b1.alloc b1.size (.cells #[.slice A p.length c] 46)
      have S2 := Au.mk s2
      clear s2 s1
      go_wp2_with fail
      refine (cutB_calls _ Hsl.out Hc2.out _).mono ?_
      rintro e w3 ⟨A3, c3, rfl, s3, b3⟩
      have hs1 := b1.size
      have e3 := below_then e2 b3 e2.size
      have S3 : Sl (Kd.slice Kd.byte) w3 (fun k => w.heap.size ≤ k) (some ⟨w1.heap.size, 0, none⟩) 1 [p] := (S2.out.below b3).mono (fun k hk => by rcases hk with ⟨hk, _⟩ | hk <;> omega)
      have s3' : Sl (Kd.slice Kd.byte) w3 (fun k => w.heap.size ≤ k) A3 c3 c2 := s3.mono (fun k hk => by simp at hk; omega)
      have s4 := sl_two (d := Kd.slice Kd.byte) (e := 36) (n := 1) (m := c2.length) rfl rfl S3 s3'
      have e4 := e3.alloc e3.size (.cells #[.slice (some ⟨w1.heap.size, 0, none⟩) 1 1, .slice A3 c2.length c3] 36)
      have S4 := Au.mk s4
      have hfl : Au ([[p], c2].flatten = l) := ⟨by rw [← Hl.out]; simp⟩
      have hfl2 : Au ([[p], c2].flatten.length ≤ 1000000) := ⟨by have := Hcl.out; simp; omega⟩
      have Hs3 := Au.mk e3.size
      clear s4 s3 s3' S3 S2 b3 e2 e3 b1 hs1
      go_wp2_with fail
      refine (concat_calls [[p], c2] rfl hfl2.out hfl.out _ S4.out).mono ?_
      rintro e w5 ⟨A5, c5, rfl, s5, b5⟩
      have e5 := below_then e4 b5 e4.size
      have hs3 := Hs3.out
      have S5 : Au (Sl (Kd.slice Kd.byte) w5 (fun k => w.heap.size ≤ k) A5 c5 l) := ⟨s5.mono (fun k hk => by simp at hk; omega)⟩
      clear s5 S4 b5 e4 hs3
      go_wp2_with fail
      go_ret2
      exact ⟨A5, c5, rfl, S5.out, e5⟩
theorem lput75_calls (s : List UInt8) (hs : s.length ≤ 1000) {l : List (List UInt8)} {b : Bool} (hl : (lputB 75 s).getD [] = l) (hb : (lputB 75 s).isSome = b) (w : World) :
    Calls Tryz.prog 129 #[.int .u8 75, .string (ofL s)] w fun e w' => ∃ A c, e = .returned (.tuple #[.slice A l.length c, .bool b]) ∧ Sl (Kd.slice Kd.byte) w' (fun j => w.heap.size ≤ j) A c l ∧ Below w.heap.size w w' := lputB_calls 75 (.inl rfl) s hs hl hb w
theorem lput76_calls (s : List UInt8) (hs : s.length ≤ 1000) {l : List (List UInt8)} {b : Bool} (hl : (lputB 76 s).getD [] = l) (hb : (lputB 76 s).isSome = b) (w : World) :
    Calls Tryz.prog 129 #[.int .u8 76, .string (ofL s)] w fun e w' => ∃ A c, e = .returned (.tuple #[.slice A l.length c, .bool b]) ∧ Sl (Kd.slice Kd.byte) w' (fun j => w.heap.size ≤ j) A c l ∧ Below w.heap.size w w' := lputB_calls 76 (.inr rfl) s hs hl hb w
/-- Are these blocks wanted? -/
theorem ahead1_calls (is : Bool) (k : UInt8) (hk : k = 75 ∨ k = 76) (s : List UInt8) (hs : s.length ≤ 1000) {l : List (List UInt8)} (hl : (if is then (lputB k s).getD [] else []) = l) (w : World) :
    Calls Tryz.prog 160 #[.bool is, .int .u8 k.toNat, .string (ofL s)] w fun e w' => ∃ A c, e = .returned (.slice A l.length c) ∧ Sl (Kd.slice Kd.byte) w' (fun j => w.heap.size ≤ j) A c l ∧ Below w.heap.size w w' := by
  cases is
  · have h1 : [] = l := by simpa using hl
    subst h1
    go_enter Tryz.func160, Tryz.ntmps160
    go_wp2_with fail
    go_ret
    exact ⟨none, 0, rfl, Sl.nil _ _ _, Below.refl _ _⟩
  · obtain ⟨b, Hb⟩ := au (lputB k s).isSome
    have Hl : Au ((lputB k s).getD [] = l) := ⟨by simpa using hl⟩
    clear hl
    rcases hk with rfl | rfl
    · go_enter Tryz.func160, Tryz.ntmps160
      go_wp2_with fail
      refine (lput75_calls s hs Hl.out Hb.out _).mono ?_
      rintro e w1 ⟨A, c, rfl, s1, b1⟩
      go_wp2_with fail
      go_ret
      exact ⟨A, c, rfl, s1, b1⟩
    · go_enter Tryz.func160, Tryz.ntmps160
      go_wp2_with fail
      refine (lput76_calls s hs Hl.out Hb.out _).mono ?_
      rintro e w1 ⟨A, c, rfl, s1, b1⟩
      go_wp2_with fail
      go_ret
      exact ⟨A, c, rfl, s1, b1⟩
theorem ahead75_calls (is : Bool) (s : List UInt8) (hs : s.length ≤ 1000) {l : List (List UInt8)} (hl : (if is then (lputB 75 s).getD [] else []) = l) (w : World) :
    Calls Tryz.prog 160 #[.bool is, .int .u8 75, .string (ofL s)] w fun e w' => ∃ A c, e = .returned (.slice A l.length c) ∧ Sl (Kd.slice Kd.byte) w' (fun j => w.heap.size ≤ j) A c l ∧ Below w.heap.size w w' := ahead1_calls is 75 (.inl rfl) s hs hl w
theorem ahead76_calls (is : Bool) (s : List UInt8) (hs : s.length ≤ 1000) {l : List (List UInt8)} (hl : (if is then (lputB 76 s).getD [] else []) = l) (w : World) :
    Calls Tryz.prog 160 #[.bool is, .int .u8 76, .string (ofL s)] w fun e w' => ∃ A c, e = .returned (.slice A l.length c) ∧ Sl (Kd.slice Kd.byte) w' (fun j => w.heap.size ≤ j) A c l ∧ Below w.heap.size w w' := ahead1_calls is 76 (.inr rfl) s hs hl w
theorem ljoined_calls (parts : List (List (List UInt8))) {n : Nat} (hn : parts.length = n) {A : Option Addr} {c : Nat} {F : Nat → Prop} (hfl : parts.flatten.length ≤ 1000000) {r : List (List UInt8)} (hr : parts.flatten = r) (w : World) (ha : Sl KBk w F A c parts) :
    Calls Tryz.prog 161 #[.slice A n c] w fun e w' => ∃ A' c', e = .returned (.slice A' r.length c') ∧ Sl (Kd.slice Kd.byte) w' (fun k => F k ∨ w.heap.size ≤ k) A' c' r ∧ Below w.heap.size w w' := by
  have Hc := Au.mk (concat_calls parts hn hfl hr w ha)
  clear hn hfl hr ha
  go_enter Tryz.func161, Tryz.ntmps161
  go_wp2_with fail
  refine Hc.out.mono ?_
  rintro e w1 ⟨A', c', rfl, s1, b1⟩
  go_wp2_with fail
  go_ret
  exact ⟨A', c', rfl, s1, b1⟩
set_option maxHeartbeats 4000000 in
theorem aheadB_calls (n : Nd) (hS : n.S) {l : List (List UInt8)} (hl : aheadB n = l) (w : World) :
    Calls Tryz.prog 134 #[n.agg] w fun e w' => ∃ A c, e = .returned (.slice A l.length c) ∧ Sl (Kd.slice Kd.byte) w' (fun j => w.heap.size ≤ j) A c l ∧ Below w.heap.size w w' := by
  obtain ⟨h1, h2, h3⟩ := hS
  have HS : Au n.S := ⟨⟨h1, h2, h3⟩⟩
  obtain ⟨x, Hx⟩ := au (lneeds n).1
  obtain ⟨y, Hy⟩ := au (lneeds n).2
  have Hn : Au (lneeds n = (x, y)) := ⟨by rw [← Hx.out, ← Hy.out]⟩
  obtain ⟨la, Hla⟩ := au (if y then (lputB 75 n.link).getD [] else [])
  obtain ⟨lb, Hlb⟩ := au (if x then (lputB 76 n.path).getD [] else [])
  have Hl : Au ([la, lb].flatten = l) := ⟨by rw [← hl, ← Hla.out, ← Hlb.out, ← Hx.out, ← Hy.out]; simp [aheadB]⟩
  have Hl2 : Au ([la, lb].flatten.length ≤ 1000000) := ⟨by
    have a1 := lputB_len (k := 75) (s := n.link)
    have a2 := lputB_len (k := 76) (s := n.path)
    have e1 : la.length ≤ 2 := by rw [← Hla.out]; split; exact a1; simp
    have e2 : lb.length ≤ 2 := by rw [← Hlb.out]; split; exact a2; simp
    simp; omega⟩
  have B0 := Au.mk (nd_box w n)
  have hb0 := (Below.refl w.heap.size w).alloc (Nat.le_refl _) (.cells n.cells.toArray 23)
  obtain ⟨f0, f1, f2, f3, f4, f5, f6, f7⟩ := nd_cells n B0.out
  unfold Nd.agg
  unfold Nd.cells at f0 f1 f2 f3 f4 f5 f6 f7 hb0 B0
  clear hl
  go_enter Tryz.func134, Tryz.ntmps134
  go_wp2_with fail
  refine (lneeds_calls n HS.out Hn.out _).mono ?_
  rintro e w1 ⟨rfl, b1⟩
  have g0 := cell_below f0 b1
  have g1 := cell_below f1 b1
  have e1 := below_then hb0 b1 hb0.size
  clear f0 f1 f2 f3 f4 f5 f6 f7 hb0 B0
  go_upto_region 3 with fail
  go_region_held3 (fun w' => w'.cell? ⟨w.heap.size, 0, none⟩ = some (.string (ofL n.path)) ∧ w'.cell? ⟨w.heap.size, 1, none⟩ = some (.string (ofL n.link))) (go_keep)
    (first | (go_at_call 160; (with_reducible refine (ahead75_calls y n.link h2 Hla.out _).mono ?_); rintro e w2 ⟨A2, c2, rfl, s2, b2⟩; have k0 := cell_below (w := w1.drew) g0 b2; have k1 := cell_below (w := w1.drew) g1 b2) | (go_at_call 160; (with_reducible refine (ahead76_calls x n.path h1 Hlb.out _).mono ?_); rintro e w3 ⟨A3, c3, rfl, s3, b3⟩; have j0 := cell_below k0 b3; have j1 := cell_below k1 b3; have t2 := s2.below b3; have s4 := sl_two (d := Kd.slice Kd.byte) (e := 36) (n := la.length) (m := lb.length) rfl rfl (t2.mono (fun k hk => Or.inl hk)) (s3.mono (fun k hk => Or.inr hk))) | (go_at_call 161; refine (ljoined_calls [la, lb] rfl Hl2.out Hl.out _ s4).mono ?_; rintro e w5 ⟨A5, c5, rfl, s5, b5⟩; have q0 := cell_below (cell_alloc j0 _) b5; have q1 := cell_below (cell_alloc j1 _) b5))
  go_wp2_with fail
  go_ret
  have e1' := below_drewN e1 1
  have e2 := below_then e1' b2 e1'.size
  have e3 := below_then e2 b3 e2.size
  have e4 := e3.alloc e3.size (.cells #[.slice A2 la.length c2, .slice A3 lb.length c3] 36)
  have e5 := below_then e4 b5 e4.size
  have z1 := e1.size
  have z1' : w1.drew.heap.size = w1.heap.size := rfl
  have z2 := b2.size
  have z3 := b3.size
  exact ⟨A5, c5, rfl, s5.mono (fun k hk => by simp at hk; omega), e5⟩
end Go.Proofs.YtldhcknjpmbgnaaGreatDoor.Rk
/- Nodes as blocks, walked: entry.Head, Put, Data. -/
namespace Go.Proofs.YtldhcknjpmbgnaaGreatDoor.Rk
open Go.RowKit Go.Shelf
set_option linter.unusedVariables false
set_option linter.unusedSimpArgs false
set_option maxRecDepth 100000

theorem hd_zero : Hd.agg hd0 = .agg #[.string ⟨#[]⟩, .string ⟨#[]⟩, .string ⟨#[]⟩, .int .i64 0, .int .i64 0, .int .i64 0, .int .i64 0, .int .i64 0, .int .u8 0, .int .i64 0, .int .i64 0] := rfl
/-- A header is stored, field by field. -/
def setHd (W : World) (g : Nat) (x : Hd) : World :=
  ((((((((((W.setCell ⟨g, 0, none⟩ (.string (ofL x.name))).setCell ⟨g, 1, none⟩ (.string (ofL x.pre))).setCell ⟨g, 2, none⟩ (.string (ofL x.link))).setCell ⟨g, 3, none⟩ (.int .i64 x.mode)).setCell ⟨g, 4, none⟩ (.int .i64 x.uid)).setCell ⟨g, 5, none⟩ (.int .i64 x.gid)).setCell ⟨g, 6, none⟩ (.int .i64 x.size)).setCell ⟨g, 7, none⟩ (.int .i64 x.mtime)).setCell ⟨g, 8, none⟩ (.int .u8 x.ty.toNat)).setCell ⟨g, 9, none⟩ (.int .i64 x.off)).setCell ⟨g, 10, none⟩ (.int .i64 x.real)
theorem setHd_block {W : World} {g : Nat} {t : TypeId} {c : Hd} (h : W.heap[g]? = some (.cells c.cells.toArray t (0, 0))) (x : Hd) : (setHd W g x).heap[g]? = some (.cells x.cells.toArray t (0, 0)) :=
  blk_set (blk_set (blk_set (blk_set (blk_set (blk_set (blk_set (blk_set (blk_set (blk_set (blk_set h 0 _) 1 _) 2 _) 3 _) 4 _) 5 _) 6 _) 7 _) 8 _) 9 _) 10 _
theorem setHd_below {W w : World} {B g : Nat} (h : Below B w W) (hg : B ≤ g) (x : Hd) : Below B w (setHd W g x) :=
  ((((((((((h.setCell (p := ⟨g, 0, none⟩) hg _).setCell (p := ⟨g, 1, none⟩) hg _).setCell (p := ⟨g, 2, none⟩) hg _).setCell (p := ⟨g, 3, none⟩) hg _).setCell (p := ⟨g, 4, none⟩) hg _).setCell (p := ⟨g, 5, none⟩) hg _).setCell (p := ⟨g, 6, none⟩) hg _).setCell (p := ⟨g, 7, none⟩) hg _).setCell (p := ⟨g, 8, none⟩) hg _).setCell (p := ⟨g, 9, none⟩) hg _).setCell (p := ⟨g, 10, none⟩) hg _
theorem hd_free {W : World} {g : Nat} {t : TypeId} {cs : Array Value} (h : W.heap[g]? = some (.cells cs t (0, 0))) : W.frozen? ⟨g, 0, none⟩ = false ∧ W.frozen? ⟨g, 1, none⟩ = false ∧ W.frozen? ⟨g, 2, none⟩ = false ∧ W.frozen? ⟨g, 3, none⟩ = false ∧ W.frozen? ⟨g, 4, none⟩ = false ∧ W.frozen? ⟨g, 5, none⟩ = false ∧ W.frozen? ⟨g, 6, none⟩ = false ∧ W.frozen? ⟨g, 7, none⟩ = false ∧ W.frozen? ⟨g, 8, none⟩ = false ∧ W.frozen? ⟨g, 9, none⟩ = false ∧ W.frozen? ⟨g, 10, none⟩ = false :=
  ⟨blk_free h 0, blk_free h 1, blk_free h 2, blk_free h 3, blk_free h 4, blk_free h 5, blk_free h 6, blk_free h 7, blk_free h 8, blk_free h 9, blk_free h 10⟩
theorem nd_cells' {W : World} {g : Nat} {t : TypeId} (n : Nd) (hg : W.heap[g]? = some (.cells n.cells.toArray t (0, 0))) : W.cell? ⟨g, 0, none⟩ = some (.string (ofL n.path)) ∧ W.cell? ⟨g, 1, none⟩ = some (.string (ofL n.link)) ∧ W.cell? ⟨g, 2, none⟩ = some (.int .u8 n.kind.toNat) ∧ W.cell? ⟨g, 3, none⟩ = some (.int .i64 n.mode) ∧ W.cell? ⟨g, 4, none⟩ = some (.int .i64 n.uid) ∧ W.cell? ⟨g, 5, none⟩ = some (.int .i64 n.gid) ∧ W.cell? ⟨g, 6, none⟩ = some (.int .i64 n.mtime) ∧ W.cell? ⟨g, 7, none⟩ = some (.string (ofL n.data)) :=
  ⟨blk_cell hg 0 rfl, blk_cell hg 1 rfl, blk_cell hg 2 rfl, blk_cell hg 3 rfl, blk_cell hg 4 rfl, blk_cell hg 5 rfl, blk_cell hg 6 rfl, blk_cell hg 7 rfl⟩
theorem ret_headV {fn : Func} (hfn : fn.results = #[.cell 2 104, .tmp 3]) {R : Ending → World → Prop} {w : World} {h : Hd} {g : Nat} {v : Value} {a : Act} (hg : w.heap[g]? = some (.cells h.cells.toArray 104 (0, 0)))
    (t2 : a.tmps.getD 2 undef = .pointer (some ⟨g, 0, none⟩)) (t3 : a.tmps.getD 3 undef = v) (hd : a.defers = [])
    (hR : R (.returned (.tuple #[h.agg, v])) w) : bodyPost Tryz.prog fn R .ret a w := by
  refine bodyPost_ret (v := .tuple #[h.agg, v]) ?_ hd hR
  rw [results_cell_tmp hfn, t2, t3]
  have hp := run_loadVar_row (P := Tryz.prog) w g 104 104 h.cells.toArray (0, 0) _ hg Tryz.underlying104 rfl (by kernel_rfl)
  simp [asAddr, hp, Result.andThen]
  rfl
set_option maxHeartbeats 2000000 in
theorem ehead_calls (n : Nd) (hS : n.S) {h : Hd} (hh : ehead n = h) (w : World) :
    Calls Tryz.prog 158 #[n.agg] w fun e w' => e = .returned h.agg ∧ Below w.heap.size w w' := by
  have HS := Au.mk hS
  obtain ⟨x, Hx⟩ := au (ehead n).name
  obtain ⟨y, Hy⟩ := au (ehead n).pre
  obtain ⟨z, Hz⟩ := au (ehead n).link
  have Hh : Au ((⟨x, y, z, n.mode, n.uid, n.gid, n.data.length, n.mtime, n.kind, 0, 0⟩ : Hd) = h) := ⟨by rw [← hh, ← Hx.out, ← Hy.out, ← Hz.out]; rfl⟩
  have hzd : (ofL n.data).size = n.data.length := ofL_size _
  have hb0 := ((Below.refl w.heap.size w).alloc (Nat.le_refl _) (.cells n.cells.toArray 210)).alloc (by simp) (.cells hd0.cells.toArray 104)
  have B0 : Au (((w.alloc (.cells n.cells.toArray 210)).alloc (.cells hd0.cells.toArray 104)).heap[w.heap.size]? = some (.cells n.cells.toArray 210 (0, 0))) := ⟨blk_alloc (heap_alloc_new _ _) _⟩
  have C0 : Au (((w.alloc (.cells n.cells.toArray 210)).alloc (.cells hd0.cells.toArray 104)).heap[w.heap.size + 1]? = some (.cells hd0.cells.toArray 104 (0, 0))) := ⟨by
    have := heap_alloc_new (w.alloc (.cells n.cells.toArray 210)) (.cells hd0.cells.toArray 104)
    simpa using this⟩
  unfold Nd.agg
  clear hS hh
  go_enter Tryz.func158, Tryz.ntmps158
  go_upto_region 1 with fail
  have hW : ((w.alloc (.cells n.cells.toArray 210)).alloc (.cells hd0.cells.toArray 104)) = ((w.alloc (.cells #[.string (ofL n.path), .string (ofL n.link), .int .u8 n.kind.toNat, .int .i64 n.mode, .int .i64 n.uid, .int .i64 n.gid, .int .i64 n.mtime, .string (ofL n.data)] 210)).alloc (.cells #[.string ⟨#[]⟩, .string ⟨#[]⟩, .string ⟨#[]⟩, .int .i64 0, .int .i64 0, .int .i64 0, .int .i64 0, .int .i64 0, .int .u8 0, .int .i64 0, .int .i64 0] 104)) := rfl
  rw [← hW]
  generalize (w.alloc (.cells n.cells.toArray 210)).alloc (.cells hd0.cells.toArray 104) = W0 at B0 C0 hb0 ⊢
  clear hW
  obtain ⟨f0, f1, f2, f3, f4, f5, f6, f7⟩ := nd_cells' n B0.out
  go_wp2_with fail
  refine (lnames_calls n HS.out Hx.out Hy.out Hz.out _).mono ?_
  rintro e w1 ⟨rfl, b1⟩
  have B1 := Au.mk (blk_below B0.out b1 (lt_of_block B0.out))
  have C1 := Au.mk (blk_below C0.out b1 (lt_of_block C0.out))
  have e1 := below_then hb0 b1 hb0.size
  clear f0 f1 f2 f3 f4 f5 f6 f7 hb0 b1 B0 C0
  obtain ⟨f0, f1, f2, f3, f4, f5, f6, f7⟩ := nd_cells' n B1.out
  obtain ⟨c0, c1, c2, c3, c4, c5, c6, c7, c8, c9, c10⟩ := hd_cells hd0 C1.out
  obtain ⟨r0, r1, r2, r3, r4, r5, r6, r7, r8, r9, r10⟩ := hd_free C1.out
  go_wp2_with fail
  have C2 := setHd_block C1.out ⟨x, y, z, n.mode, n.uid, n.gid, n.data.length, n.mtime, n.kind, 0, 0⟩
  have e2 := setHd_below e1 (g := w.heap.size + 1) (by omega) ⟨x, y, z, n.mode, n.uid, n.gid, n.data.length, n.mtime, n.kind, 0, 0⟩
  rw [← Hh.out]
  exact ret_head1 2 rfl C2 rfl rfl ⟨rfl, e2⟩
set_option maxHeartbeats 2000000 in
theorem entryHead_calls (n : Nd) (hS : n.S) {x : Bool} (hx : one n = x) (w : World) :
    Calls Tryz.prog 132 #[n.agg] w fun e w' => e = .returned (.tuple #[(if x then ehead n else hd0).agg, .bool x]) ∧ Below w.heap.size w w' := by
  have HS := Au.mk hS
  have Hx := Au.mk hx
  have hb0 := ((Below.refl w.heap.size w).alloc (Nat.le_refl _) (.cells n.cells.toArray 23)).alloc (by simp) (.cells hd0.cells.toArray 104)
  have B0 : Au (((w.alloc (.cells n.cells.toArray 23)).alloc (.cells hd0.cells.toArray 104)).heap[w.heap.size]? = some (.cells n.cells.toArray 23 (0, 0))) := ⟨blk_alloc (nd_box w n) _⟩
  have C0 : Au (((w.alloc (.cells n.cells.toArray 23)).alloc (.cells hd0.cells.toArray 104)).heap[w.heap.size + 1]? = some (.cells hd0.cells.toArray 104 (0, 0))) := ⟨by
    have := heap_alloc_new (w.alloc (.cells n.cells.toArray 23)) (.cells hd0.cells.toArray 104)
    simpa using this⟩
  unfold Nd.agg
  clear hS hx
  go_enter Tryz.func132, Tryz.ntmps132
  go_upto_region 1 with fail
  have hW : ((w.alloc (.cells n.cells.toArray 23)).alloc (.cells hd0.cells.toArray 104)) = ((w.alloc (.cells #[.string (ofL n.path), .string (ofL n.link), .int .u8 n.kind.toNat, .int .i64 n.mode, .int .i64 n.uid, .int .i64 n.gid, .int .i64 n.mtime, .string (ofL n.data)] 23)).alloc (.cells #[.string ⟨#[]⟩, .string ⟨#[]⟩, .string ⟨#[]⟩, .int .i64 0, .int .i64 0, .int .i64 0, .int .i64 0, .int .i64 0, .int .u8 0, .int .i64 0, .int .i64 0] 104)) := rfl
  rw [← hW]
  generalize (w.alloc (.cells n.cells.toArray 23)).alloc (.cells hd0.cells.toArray 104) = W0 at B0 C0 hb0 ⊢
  clear hW
  obtain ⟨f0, f1, f2, f3, f4, f5, f6, f7⟩ := nd_cells n B0.out
  go_wp2_with fail
  refine (one_calls n HS.out Hx.out _).mono ?_
  rintro e w1 ⟨rfl, b1⟩
  have B1 := Au.mk (blk_below B0.out b1 (lt_of_block B0.out))
  have C1 := Au.mk (blk_below C0.out b1 (lt_of_block C0.out))
  have e1 := below_then hb0 b1 hb0.size
  clear f0 f1 f2 f3 f4 f5 f6 f7 hb0 b1 B0 C0
  cases x
  · obtain ⟨c0, c1, c2, c3, c4, c5, c6, c7, c8, c9, c10⟩ := hd_cells hd0 C1.out
    obtain ⟨r0, r1, r2, r3, r4, r5, r6, r7, r8, r9, r10⟩ := hd_free C1.out
    go_wp2_with fail
    have C2 := setHd_block C1.out hd0
    have e2 := setHd_below e1 (g := w.heap.size + 1) (by omega) hd0
    exact ret_headV rfl C2 rfl rfl rfl ⟨rfl, e2⟩
  · obtain ⟨f0, f1, f2, f3, f4, f5, f6, f7⟩ := nd_cells n B1.out
    go_wp2_with fail
    refine (ehead_calls n HS.out rfl _).mono ?_
    rintro e w2 ⟨rfl, b2⟩
    have C2 := Au.mk (blk_below C1.out b2 (lt_of_block C1.out))
    have e2 := below_then e1 b2 e1.size
    clear f0 f1 f2 f3 f4 f5 f6 f7 e1 b2 B1 C1
    obtain ⟨h, Hh⟩ := au (ehead n)
    rw [Hh.out]
    obtain ⟨c0, c1, c2, c3, c4, c5, c6, c7, c8, c9, c10⟩ := hd_cells hd0 C2.out
    obtain ⟨r0, r1, r2, r3, r4, r5, r6, r7, r8, r9, r10⟩ := hd_free C2.out
    unfold Hd.agg
    go_wp2_with fail
    have C3 := setHd_block C2.out h
    have e3 := setHd_below e2 (g := w.heap.size + 1) (by omega) h
    refine ret_headV (v := .bool true) rfl C3 rfl rfl rfl ⟨?_, e3⟩
    simp [Hd.agg, Hh.out]
end Go.Proofs.YtldhcknjpmbgnaaGreatDoor.Rk
/- Nodes as blocks, walked: entry.Put. -/
namespace Go.Proofs.YtldhcknjpmbgnaaGreatDoor.Rk
open Go.RowKit Go.Shelf
set_option linter.unusedVariables false
set_option linter.unusedSimpArgs false
set_option maxRecDepth 100000

theorem size_alloc1 (w : World) (o : Obj) : (w.alloc o).heap.size = w.heap.size + 1 := by simp
theorem sl_addr {α : Type} {d : Kd α} {w : World} {F : Nat → Prop} {g k c : Nat} {x : List α} (h : g = k) (hs : Sl d w F (some ⟨g, 0, none⟩) c x) : Sl d w F (some ⟨k, 0, none⟩) c x := h ▸ hs
theorem ejoined_calls (parts : List (List (List UInt8))) {n : Nat} (hn : parts.length = n) {A : Option Addr} {c : Nat} {F : Nat → Prop} (hfl : parts.flatten.length ≤ 1000000) {r : List (List UInt8)} (hr : parts.flatten = r) (w : World) (ha : Sl KBk w F A c parts) :
    Calls Tryz.prog 133 #[.slice A n c] w fun e w' => ∃ A' c', e = .returned (.slice A' r.length c') ∧ Sl (Kd.slice Kd.byte) w' (fun k => F k ∨ w.heap.size ≤ k) A' c' r ∧ Below w.heap.size w w' := by
  have Hc := Au.mk (concat_calls parts hn hfl hr w ha)
  clear hn hfl hr ha
  go_enter Tryz.func133, Tryz.ntmps133
  go_wp2_with fail
  refine Hc.out.mono ?_
  rintro e w1 ⟨A', c', rfl, s1, b1⟩
  go_wp2_with fail
  go_ret
  exact ⟨A', c', rfl, s1, b1⟩
theorem edata_calls (n : Nd) (hS : n.S) (w : World) :
    Calls Tryz.prog 117 #[n.agg] w fun e w' => e = .returned (.int .i64 (edata n)) ∧ Below w.heap.size w w' := by
  have h3 := hS.2.2
  have HS := Au.mk hS
  obtain ⟨x, Hx⟩ := au (one n)
  have hz : (ofL n.data).size = n.data.length := ofL_size _
  have B0 := Au.mk (nd_box w n)
  have hb0 := (Below.refl w.heap.size w).alloc (Nat.le_refl _) (.cells n.cells.toArray 23)
  obtain ⟨f0, f1, f2, f3, f4, f5, f6, f7⟩ := nd_cells n B0.out
  unfold edata
  rw [Hx.out]
  unfold Nd.agg
  unfold Nd.cells at f0 f1 f2 f3 f4 f5 f6 f7 hb0 B0
  clear hS
  go_enter Tryz.func117, Tryz.ntmps117
  go_wp2_with fail
  refine (one_calls n HS.out Hx.out _).mono ?_
  rintro e w1 ⟨rfl, b1⟩
  have g7 := cell_below f7 b1
  have e1 := below_then hb0 b1 hb0.size
  clear f0 f1 f2 f3 f4 f5 f6 f7
  cases x
  · go_wp2_with fail
    go_ret
    exact ⟨rfl, e1⟩
  · go_wp2_with fail
    refine (manyB_calls n.data.length (by omega) _).mono ?_
    rintro e w2 ⟨rfl, rfl⟩
    go_wp2_with fail
    go_ret
    exact ⟨rfl, e1⟩
set_option maxHeartbeats 4000000 in
theorem eput_calls (n : Nd) (hS : n.S) {l : List (List UInt8)} {x : Bool} (hl : eput n = l) (hx : one n = x) (w : World) :
    Calls Tryz.prog 86 #[n.agg] w fun e w' => ∃ A c, e = .returned (.tuple #[.slice A l.length c, .bool x]) ∧ Sl (Kd.slice Kd.byte) w' (fun j => w.heap.size ≤ j) A c l ∧ Below w.heap.size w w' := by
  have h3 := hS.2.2
  have HS := Au.mk hS
  have Hx := Au.mk hx
  have B0 := Au.mk (nd_box w n)
  have hb0 := (Below.refl w.heap.size w).alloc (Nat.le_refl _) (.cells n.cells.toArray 23)
  obtain ⟨f0, f1, f2, f3, f4, f5, f6, f7⟩ := nd_cells n B0.out
  unfold Nd.agg
  unfold Nd.cells at f0 f1 f2 f3 f4 f5 f6 f7 hb0 B0
  have hel : eput n = if x then aheadB n ++ [(hput (ehead n)).getD []] ++ cutB n.data else [] := by unfold eput; rw [hx]
  rw [hel] at hl
  clear hS hx hel
  obtain ⟨h, Hh⟩ := au (if x then ehead n else hd0)
  go_enter Tryz.func86, Tryz.ntmps86
  go_wp2_with fail
  refine (entryHead_calls n HS.out Hx.out _).mono ?_
  rintro e w1 ⟨rfl, b1⟩
  have B1 := Au.mk (blk_below B0.out b1 (lt_of_block B0.out))
  have e1 := below_then hb0 b1 hb0.size
  clear f0 f1 f2 f3 f4 f5 f6 f7 hb0 b1 B0
  rw [Hh.out]
  unfold Hd.agg
  cases x
  · have h1 : [] = l := hl
    subst h1
    have e2 := e1.alloc e1.size (.cells h.cells.toArray 104)
    go_wp2_with fail
    go_ret2
    exact ⟨none, 0, rfl, Sl.nil _ _ _, e2⟩
  · obtain ⟨la, Hla⟩ := au (aheadB n)
    obtain ⟨p, Hp⟩ := au ((hput (ehead n)).getD [])
    obtain ⟨pb, Hpb⟩ := au ((hput (ehead n)).isSome)
    obtain ⟨lc, Hlc⟩ := au (cutB n.data)
    have HR : Au h.R := ⟨by rw [← Hh.out]; exact ehead_R (one_iff.1 Hx.out)⟩
    have he : ehead n = h := by rw [← Hh.out]; rfl
    rw [he] at Hp Hpb
    have Hl : Au ([la, [p], lc].flatten = l) := ⟨by rw [← hl, if_pos rfl, he, Hla.out, Hp.out, Hlc.out]; simp⟩
    have Hl2 : Au ([la, [p], lc].flatten.length ≤ 1000000) := ⟨by
      have h1 := eput_le n
      have h2 : eput n = l := by rw [← hl, if_pos rfl]; unfold eput; rw [if_pos Hx.out]
      rw [Hl.out, ← h2]; omega⟩
    have e2 := e1.alloc e1.size (.cells h.cells.toArray 104)
    have B2 := Au.mk (blk_alloc B1.out (.cells h.cells.toArray 104))
    have hd5 : n.data.length ≤ 10000 := h3
    clear hl he e1 B1
    go_wp2_with fail
    refine (hput_view h HR.out Hp.out Hpb.out _).mono ?_
    rintro e w2 ⟨A2, c2, rfl, s2, b2⟩
    have S2 : Au (Sl Kd.byte w2 (fun k => w.heap.size ≤ k) A2 c2 p) := ⟨s2.mono (fun k hk => Nat.le_trans e2.size hk)⟩
    have B3 := Au.mk (blk_below B2.out b2 (lt_of_block B2.out))
    have e3 := below_then e2 b2 e2.size
    obtain ⟨f0, f1, f2, f3, f4, f5, f6, f7⟩ := nd_cells n B3.out
    clear B2 s2 b2 e2 h3
    have hz2 := e3.size
    have S2d : Sl Kd.byte w2.drew (fun k => w.heap.size ≤ k) A2 c2 p := S2.out.drewN 1
    go_upto_region 5 with fail
    go_region_held3 (fun w' => w'.cell? ⟨w.heap.size, 0, none⟩ = some (.string (ofL n.path)) ∧ w'.cell? ⟨w.heap.size, 1, none⟩ = some (.string (ofL n.link)) ∧ w'.cell? ⟨w.heap.size, 2, none⟩ = some (.int .u8 n.kind.toNat) ∧ w'.cell? ⟨w.heap.size, 3, none⟩ = some (.int .i64 n.mode) ∧ w'.cell? ⟨w.heap.size, 4, none⟩ = some (.int .i64 n.uid) ∧ w'.cell? ⟨w.heap.size, 5, none⟩ = some (.int .i64 n.gid) ∧ w'.cell? ⟨w.heap.size, 6, none⟩ = some (.int .i64 n.mtime) ∧ w'.cell? ⟨w.heap.size, 7, none⟩ = some (.string (ofL n.data))) (first | go_keep)
      (first | (go_at_call 134; (refine (aheadB_calls n HS.out Hla.out _).mono ?_); rintro e w4 ⟨A4, c4, rfl, s4, b4⟩; have B4 := (show w4.heap[w.heap.size]? = some (.cells n.cells.toArray 23 (0, 0)) from by (first | exact blk_below (w := w2.drew) B3.out b4 (lt_of_block B3.out) | exact blk_below (blk_alloc (w := w2.drew) B3.out _) b4 (lt_of_block (blk_alloc (w := w2.drew) B3.out _)))); have z4 := (show w.heap.size ≤ w4.heap.size from Nat.le_trans (by first | exact hz2 | exact Nat.le_trans hz2 (by simp)) b4.size); have T4 := (show Sl (Kd.slice Kd.byte) w4 (fun k => w.heap.size ≤ k) A4 c4 la from s4.up (by first | exact hz2 | exact Nat.le_trans hz2 (by simp))); have e4 := (show Below w.heap.size w w4 from by (first | exact below_then (below_drewN e3 1) b4 hz2 | exact below_then (below_drewN (e3.alloc hz2 _) 1) b4 (Nat.le_trans hz2 (by simp)))); obtain ⟨k0, k1, k2, k3, k4, k5, k6, k7⟩ := nd_cells n B4) | (go_at_call 135; (refine (cutB_calls n.data hd5 Hlc.out _).mono ?_); rintro e w5 ⟨A5, c5, rfl, s5, b5⟩; have B5 := (show w5.heap[w.heap.size]? = some (.cells n.cells.toArray 23 (0, 0)) from by (first | exact blk_below B4 b5 (lt_of_block B4) | exact blk_below (blk_alloc B4 _) b5 (lt_of_block (blk_alloc B4 _)))); have z5 := (show w.heap.size ≤ w5.heap.size from Nat.le_trans (by first | exact z4 | exact Nat.le_trans z4 (by simp)) b5.size); have T5 := (show Sl (Kd.slice Kd.byte) w5 (fun k => w.heap.size ≤ k) A5 c5 lc from s5.up (by first | exact z4 | exact Nat.le_trans z4 (by simp))); have e5 := (show Below w.heap.size w w5 from by (first | exact below_then e4 b5 z4 | exact below_then (e4.alloc z4 _) b5 (Nat.le_trans z4 (by simp)))); obtain ⟨j0, j1, j2, j3, j4, j5, j6, j7⟩ := nd_cells n B5) | (go_at_call 133; refine (ejoined_calls [la, [p], lc] rfl (F := fun k => w.heap.size ≤ k) Hl2.out Hl.out _ ?sl).mono ?_; (case sl => first | exact sl_three_up z5 rfl rfl rfl ((T4.alloc _).below b5) ((sl_one_up z4 rfl (S2d.below b4)).below b5) T5 | exact sl_addr (size_alloc1 w5 (.cells #[.slice A2 p.length c2] 46)) <| sl_three_up (w := w5.alloc (.cells #[.slice A2 p.length c2] 46)) (Nat.le_trans z5 (by simp)) rfl rfl rfl ((T4.below b5).alloc _) (sl_one_up z5 rfl ((S2d.below b4).below b5)) (T5.alloc _) | exact sl_three_up z5 rfl rfl rfl (T4.below b5) ((((sl_one_up hz2 rfl S2.out).drewN 1).below b4).below b5) T5); rintro e w6 ⟨A6, c6, rfl, s6, b6⟩; have B6 := (show w6.heap[w.heap.size]? = some (.cells n.cells.toArray 23 (0, 0)) from by (first | exact blk_below (blk_alloc B5 _) b6 (lt_of_block (blk_alloc B5 _)) | exact blk_below (blk_alloc (blk_alloc B5 _) _) b6 (lt_of_block (blk_alloc (blk_alloc B5 _) _)))); have e6 := (show Below w.heap.size w w6 from by (first | exact below_then (e5.alloc z5 _) b6 (Nat.le_trans z5 (by simp)) | exact below_then ((e5.alloc z5 _).alloc (Nat.le_trans z5 (by simp)) _) b6 (Nat.le_trans z5 (by simp <;> omega)))); have T6 := s6.mono (G := fun k => w.heap.size ≤ k) (fun k hk => hk.elim id (fun h => Nat.le_trans (Nat.le_trans z5 (by simp <;> omega)) h)); obtain ⟨i0, i1, i2, i3, i4, i5, i6, i7⟩ := nd_cells n B6))
    all_goals
      clear f0 f1 f2 f3 f4 f5 f6 f7 k0 k1 k2 k3 k4 k5 k6 k7 j0 j1 j2 j3 j4 j5 j6 j7 i0 i1 i2 i3 i4 i5 i6 i7
      go_wp2_with fail
      go_ret2
      exact ⟨A6, c6, rfl, T6, e6⟩
end Go.Proofs.YtldhcknjpmbgnaaGreatDoor.Rk
/- Trees: May, walked. -/
namespace Go.Proofs.YtldhcknjpmbgnaaGreatDoor.Rk
open Go.RowKit Go.Shelf Go.Maps
set_option linter.unusedVariables false
set_option linter.unusedSimpArgs false
set_option maxRecDepth 100000

/-! ### nodes in a slice -/
theorem Sl.nd_at {w : World} {F : Nat → Prop} {A : Option Addr} {c : Nat} {t : List Nd} (h : Sl Kd.nd w F A c t) {k : Nat} {n : Nd} (hn : t[k]? = some n) :
    n.R ∧ ∃ b o, A = some ⟨b, o, none⟩ ∧ w.cell? ⟨b, o + k * 8, none⟩ = some (.string (ofL n.path)) ∧ w.cell? ⟨b, o + k * 8 + 1, none⟩ = some (.string (ofL n.link)) ∧ w.cell? ⟨b, o + k * 8 + 2, none⟩ = some (.int .u8 n.kind.toNat) ∧
      w.cell? ⟨b, o + k * 8 + 3, none⟩ = some (.int .i64 n.mode) ∧ w.cell? ⟨b, o + k * 8 + 4, none⟩ = some (.int .i64 n.uid) ∧ w.cell? ⟨b, o + k * 8 + 5, none⟩ = some (.int .i64 n.gid) ∧ w.cell? ⟨b, o + k * 8 + 6, none⟩ = some (.int .i64 n.mtime) ∧ w.cell? ⟨b, o + k * 8 + 7, none⟩ = some (.string (ofL n.data)) := by
  obtain ⟨vs, hc, hr⟩ := h.now
  obtain ⟨he, hR⟩ := hr.at_ k hn
  have hl := hr.len
  have hlt := (List.getElem?_eq_some_iff.1 hn).1
  have hsz : Kd.nd.sz = 8 := rfl
  rw [hsz] at he hl
  have hat : ∀ j u, n.cells[j]? = some u → vs[k * 8 + j]? = some u := fun j u hj => by
    rw [← he, List.getElem?_take] at hj
    split at hj
    · rw [List.getElem?_drop] at hj; exact hj
    · cases hj
  refine ⟨hR, ?_⟩
  obtain ⟨b, o, rfl, h0⟩ := hc.at_ (hat 0 _ rfl)
  have hx : ∀ j u, n.cells[j]? = some u → w.cell? ⟨b, o + k * 8 + j, none⟩ = some u := fun j u hj => by
    obtain ⟨b', o', e, h1⟩ := hc.at_ (hat j u hj)
    injection e with e; injection e with e1 e2; subst e1 e2
    rw [Nat.add_assoc]; exact h1
  exact ⟨b, o, rfl, hx 0 _ rfl, hx 1 _ rfl, hx 2 _ rfl, hx 3 _ rfl, hx 4 _ rfl, hx 5 _ rfl, hx 6 _ rfl, hx 7 _ rfl⟩
/-- A node is stored, field by field. -/
def setNd (W : World) (g : Nat) (x : Nd) : World :=
  (((((((W.setCell ⟨g, 0, none⟩ (.string (ofL x.path))).setCell ⟨g, 1, none⟩ (.string (ofL x.link))).setCell ⟨g, 2, none⟩ (.int .u8 x.kind.toNat)).setCell ⟨g, 3, none⟩ (.int .i64 x.mode)).setCell ⟨g, 4, none⟩ (.int .i64 x.uid)).setCell ⟨g, 5, none⟩ (.int .i64 x.gid)).setCell ⟨g, 6, none⟩ (.int .i64 x.mtime)).setCell ⟨g, 7, none⟩ (.string (ofL x.data))
theorem setNd_block {W : World} {g : Nat} {t : TypeId} {c : Nd} (h : W.heap[g]? = some (.cells c.cells.toArray t (0, 0))) (x : Nd) : (setNd W g x).heap[g]? = some (.cells x.cells.toArray t (0, 0)) :=
  blk_set (blk_set (blk_set (blk_set (blk_set (blk_set (blk_set (blk_set h 0 _) 1 _) 2 _) 3 _) 4 _) 5 _) 6 _) 7 _
theorem setNd_below {W w : World} {B g : Nat} (h : Below B w W) (hg : B ≤ g) (x : Nd) : Below B w (setNd W g x) :=
  (((((((h.setCell (p := ⟨g, 0, none⟩) hg _).setCell (p := ⟨g, 1, none⟩) hg _).setCell (p := ⟨g, 2, none⟩) hg _).setCell (p := ⟨g, 3, none⟩) hg _).setCell (p := ⟨g, 4, none⟩) hg _).setCell (p := ⟨g, 5, none⟩) hg _).setCell (p := ⟨g, 6, none⟩) hg _).setCell (p := ⟨g, 7, none⟩) hg _
def nd0 : Nd := ⟨[], [], 0, 0, 0, 0, 0, []⟩
/-- What stands in a tree's map. -/
def kmap (t : List Nd) : List (Value × Value) := t.map fun n => (.string (ofL n.path), .int .u8 (n.kind.toNat : Int))
theorem keyedS : Keyed Tryz.prog 9 := string_keyed Tryz.underlying9
theorem keyS {l : List UInt8} (h : l.length ≤ 1000) : ∃ k, keyOf Tryz.prog 9 (.string (ofL l)) = some k :=
  ⟨_, Go.WideMaps.keyOf_string_mk Tryz.underlying9 (by rw [ofL_size]; simp only [maxLen]; omega)⟩
theorem str_inj {a b : List UInt8} (h : Value.string (ofL a) = .string (ofL b)) : a = b := by injection h with h; exact ofL_inj h
theorem lookup_kind {pre : List Nd} (h : TInv pre) {W : World} {b : Nat} (hm : MapL Tryz.prog 9 W b (kmap pre)) {p : List UInt8} (hp1 : p.length ≤ 1000) :
    (Instr.lookup 133 (.map (some b)) (.string (ofL p)) false).run Tryz.prog W = .ok (.int .u8 ((kindAt pre p).toNat : Int)) W := by
  obtain ⟨kk, hk⟩ := keyS hp1
  rcases kindAt_cases h p with ⟨m, hm1, hp, e, hu⟩ | ⟨hn, e⟩
  · rw [e]
    have := run_lookup_hit keyedS Tryz.underlying133 hm hk (v := .int .u8 (m.kind.toNat : Int)) (List.mem_map.2 ⟨m, hm1, by rw [hp]⟩) (fun q hq e => by
      obtain ⟨m', hm', rfl⟩ := List.mem_map.1 hq
      rw [hu m' hm' (str_inj e)]) false
    simpa using this
  · rw [e]
    have := run_lookup_miss keyedS Tryz.underlying133 (z := .int .u8 0) (by kernel_rfl) hm hk (fun q hq e => by
      obtain ⟨m', hm', rfl⟩ := List.mem_map.1 hq
      exact hn m' hm' (str_inj e)) false
    simpa using this
theorem update_kind {pre : List Nd} (h : TInv pre) {n : Nd} (hn : leB n.path (lastPath pre) = false) (hp1 : n.path.length ≤ 1000) {W : World} {b : Nat} (hm : MapL Tryz.prog 9 W b (kmap pre)) :
    ∃ o, (Instr.mapUpdate 133 (.map (some b)) (.string (ofL n.path)) (.int .u8 (n.kind.toNat : Int))).run Tryz.prog W = .ok () (W.putObj b o) ∧ MapL Tryz.prog 9 (W.putObj b o) b (kmap (pre ++ [n])) := by
  obtain ⟨kk, hk⟩ := keyS hp1
  obtain ⟨o, h1, h2⟩ := run_update_new keyedS Tryz.underlying133 (v := .int .u8 (n.kind.toNat : Int)) hm hk (fun q hq e => by
    obtain ⟨m', hm', rfl⟩ := List.mem_map.1 hq
    exact h.fresh hn m' hm' (str_inj e))
  exact ⟨o, h1, by simpa [kmap] using h2⟩
theorem put_grown (W : World) (b : Nat) (o : Obj) : W.grownBy (W.putObj b o) (some b) := grown_putObj W b o
def AllS (t : List Nd) : Prop := ∀ n ∈ t, n.S
set_option maxHeartbeats 4000000 in
theorem tmay_calls (t : List Nd) (hS : AllS t) {A : Option Addr} {c : Nat} {F : Nat → Prop} {r : Bool} (hr : tmay t = r) (w : World) (ha : Sl Kd.nd w F A c t) :
    Calls Tryz.prog 51 #[.slice A t.length c] w fun e w' => e = .returned (.bool r) ∧ Below w.heap.size w w' := by
  have hle := ha.le
  have Ha := Au.mk ha
  have HS := Au.mk hS
  have Hr := Au.mk hr
  have hb0 := Below.refl w.heap.size w
  have hmm := @run_makeMap Tryz.prog
  clear ha hS hr
  by_cases h20 : t.length ≤ 20
  · have c20 : decide ((20 : Int) < t.length) = false := by simp; omega
    have c20n : decide (20 < t.length) = false := by simp; omega
    have Hr2 : Au (tmayGo [] t = r) := ⟨by rw [← Hr.out, tmay]; simp [h20]⟩
    go_enter Tryz.func51, Tryz.ntmps51
    go_wp2_with fail
    go_loopw [4, 15] (fun v i wr => ∃ k : Nat, k ≤ t.length ∧ i = .int .i64 k ∧ v = .string (ofL (lastPath (t.take k))) ∧ Au (TInv (t.take k)) ∧ Au (MapL Tryz.prog 9 wr w.heap.size (kmap (t.take k))) ∧ Below w.heap.size w wr ∧ Au (tmayGo (t.take k) (t.drop k) = r)) (fun _ i _ => t.length - (intOf i).toNat)
    case atStart =>
      refine ⟨0, Nat.zero_le _, rfl, rfl, ⟨TInv.nil⟩, ⟨?_⟩, hb0.alloc (Nat.le_refl _) _, ⟨by simpa using Hr2.out⟩⟩
      exact MapL.made _ _ _
    case round =>
      obtain ⟨k, hk, rfl, rfl, HI, HM, hb, Hg⟩ := hrel
      have hs := hb.size
      have hmlt := HM.out.lt
      by_cases hlt : k < t.length
      · obtain ⟨n, hn⟩ : ∃ n, t[k]? = some n := ⟨_, List.getElem?_eq_getElem hlt⟩
        obtain ⟨hR, b, o, rfl, f0, f1, f2, f3, f4, f5, f6, f7⟩ := (Ha.out.below hb).nd_at hn
        have HnS : Au n.S := ⟨HS.out n (List.mem_of_getElem? hn)⟩
        have Hn := Au.mk hn
        obtain ⟨lp, Hlp⟩ := au (lastPath (t.take k))
        obtain ⟨x, Hx⟩ := au (one n)
        obtain ⟨y1, Hy1⟩ := au (Op.bytesLess n.path lp)
        obtain ⟨y2, Hy2⟩ := au (n.path == lp)
        obtain ⟨up, Hup⟩ := au (parent n.path).1
        obtain ⟨is, His⟩ := au (parent n.path).2
        obtain ⟨ku, Hku⟩ := au (kindAt (t.take k) up)
        obtain ⟨kl, Hkl⟩ := au (kindAt (t.take k) n.link)
        obtain ⟨d1, Hd1⟩ := au (ku == 53)
        obtain ⟨d2, Hd2⟩ := au (n.kind == 49)
        obtain ⟨d3, Hd3⟩ := au (kl == 48)
        have Hpar : Au (parent n.path = (up, is)) := ⟨by rw [← Hup.out, ← His.out]⟩
        have Hle : Au (leB n.path lp = (y1 || y2)) := ⟨by rw [leB_eq, Hy1.out, Hy2.out]⟩
        have Hnx : Au ((x && (!(y1 || y2) && (!(is && !d1) && !(d2 && !d3)))) = true ∨ r = false) := ⟨by
          have h := Hg.out
          rw [tmayGo_step hn] at h
          have e : nextOk (t.take k) n = (x && (!(y1 || y2) && (!(is && !d1) && !(d2 && !d3)))) := by
            unfold nextOk; rw [Hlp.out, Hx.out, Hle.out, His.out, Hup.out, Hku.out, Hkl.out, Hd1.out, Hd2.out, Hd3.out]
          rw [e] at h
          cases q : (x && (!(y1 || y2) && (!(is && !d1) && !(d2 && !d3)))) with
          | true => exact .inl rfl
          | false => right; rw [q] at h; simpa using h.symm⟩
        have Hg2 : Au ((x && (!(y1 || y2) && (!(is && !d1) && !(d2 && !d3)))) = true → tmayGo (t.take (k + 1)) (t.drop (k + 1)) = r) := ⟨fun q => by
          have h := Hg.out
          rw [tmayGo_step hn] at h
          have e : nextOk (t.take k) n = (x && (!(y1 || y2) && (!(is && !d1) && !(d2 && !d3)))) := by
            unfold nextOk; rw [Hlp.out, Hx.out, Hle.out, His.out, Hup.out, Hku.out, Hkl.out, Hd1.out, Hd2.out, Hd3.out]
          rw [e, q] at h
          simpa using h⟩
        have Hpl : Au (n.path.length ≤ 10000 ∧ n.path.length ≤ 1000 ∧ n.link.length ≤ 1000 ∧ up.length ≤ 1000) := ⟨by
          have h1 := HnS.out.1
          have h2 := HnS.out.2.1
          refine ⟨by omega, h1, h2, ?_⟩
          rw [← Hup.out]; unfold parent
          split
          · simp
          · simp only [List.length_take]; omega⟩
        have hy1 := Hy1.out
        have hy2 := Hy2.out
        have hb1 := hb.alloc hs (.cells n.cells.toArray 23)
        have B1 := Au.mk (nd_box wr n)
        have M1 := Au.mk (HM.out.keep (W := wr.alloc (.cells n.cells.toArray 23)) (Below.heap_alloc wr _ _ hmlt))
        have HI2 : Au (TInv (t.take k)) := HI
        rw [Hlp.out]
        clear hR hn
        go_wp2_with fail
        refine (one_calls n HnS.out Hx.out _).mono ?_
        rintro e w1 ⟨rfl, b1⟩
        have B2 := Au.mk (blk_below B1.out b1 (lt_of_block B1.out))
        have M2 := Au.mk (M1.out.below b1)
        have e2 := below_then hb1 b1 hb1.size
        clear f0 f1 f2 f3 f4 f5 f6 f7 b1 B1 M1 hb1
        obtain ⟨f0, f1, f2, f3, f4, f5, f6, f7⟩ := nd_cells n B2.out
        cases x
        · go_wp2_with fail
          go_ret
          exact ⟨by rcases Hnx.out with h | h; cases h; rw [h]; rfl, e2⟩
        · have hyy : y1 = false ∧ y2 = false ∨ (y1 || y2) = true := by cases y1 <;> cases y2 <;> simp
          rcases hyy with ⟨rfl, rfl⟩ | hyy
          · go_wp2_with fail
            refine (parent_calls n.path Hpl.out.1 Hpar.out _).mono ?_
            rintro e w3 ⟨rfl, b3⟩
            have B3 := Au.mk (blk_below B2.out b3 (lt_of_block B2.out))
            have M3 := Au.mk (M2.out.below b3)
            have e3 := below_then e2 b3 e2.size
            clear f0 f1 f2 f3 f4 f5 f6 f7 b3 B2 M2 e2
            obtain ⟨f0, f1, f2, f3, f4, f5, f6, f7⟩ := nd_cells n B3.out
            have lk1 := lookup_kind HI.out M3.out Hpl.out.2.2.2
            have lk2 := lookup_kind HI.out M3.out Hpl.out.2.2.1
            rw [Hku.out] at lk1
            rw [Hkl.out] at lk2
            have q1 : ((ku.toNat : Int) == 53) = d1 := by rw [← Hd1.out]; exact byte_beq ku 53
            have q2 : ((n.kind.toNat : Int) == 49) = d2 := by rw [← Hd2.out]; exact byte_beq n.kind 49
            have q3 : ((kl.toNat : Int) == 48) = d3 := by rw [← Hd3.out]; exact byte_beq kl 48
            have q1' : ((ku.toNat : Int) != 53) = !d1 := by rw [← q1]; rfl
            have q3' : ((kl.toNat : Int) != 48) = !d3 := by rw [← q3]; rfl
            cases is <;> cases d1 <;> cases d2 <;> cases d3
            all_goals first
              | (have hr3 : r = false := by
                   rcases Hnx.out with h | h
                   · cases h
                   · exact h
                 have Hr3 := Au.mk hr3
                 clear hr3
                 go_wp2_with fail
                 go_ret
                 exact ⟨by rw [Hr3.out]; rfl, e3⟩)
              | (go_upto_region 15 with fail
                 have hle2 : leB n.path (lastPath (t.take k)) = false := by rw [Hlp.out]; exact Hle.out
                 have hne : wr.heap.size ≠ w.heap.size := by omega
                 have M4 : MapL Tryz.prog 9 w3.drew w.heap.size (kmap (t.take k)) := M3.out
                 obtain ⟨o4, hu4, m4⟩ := update_kind HI.out hle2 Hpl.out.2.1 M4
                 have g0 : (w3.drew.putObj w.heap.size o4).cell? ⟨wr.heap.size, 0, none⟩ = some (.string (ofL n.path)) := (cell_putObj hne).trans f0
                 have M5 := Au.mk m4
                 have HU := Au.mk hle2
                 clear m4 M4 hle2
                 go_region
                 all_goals
                   go_wp2_with fail
                   go_roundw
                   case rel =>
                     have hk1 : t.take (k + 1) = t.take k ++ [n] := by
                       have hlt2 := (List.getElem?_eq_some_iff.1 Hn.out).1
                       rw [List.take_succ_eq_append_getElem hlt2, (List.getElem?_eq_some_iff.1 Hn.out).2]
                     refine ⟨k + 1, by omega, by go_num, by rw [hk1, lastPath_snoc], ⟨by rw [hk1]; exact HI.out.step HU.out⟩, ⟨by rw [hk1]; exact M5.out⟩, below_putObj (below_drewN e3 1) (Nat.le_refl _) (below_drewN e3 1).size _, ⟨Hg2.out rfl⟩⟩
                   case measure => simp [intOf]; omega)
          · have hr2 : r = false := by
              rcases Hnx.out with h | h
              · rw [hyy] at h; cases h
              · exact h
            have Hr3 := Au.mk hr2
            clear hr2
            cases y1 <;> cases y2
            · cases hyy
            all_goals
              go_wp2_with fail
              go_ret
              exact ⟨by rw [Hr3.out]; rfl, e2⟩
      · obtain rfl : k = t.length := by omega
        have hg := Hg.out
        rw [List.drop_of_length_le (Nat.le_refl _), tmayGo] at hg
        subst hg
        go_wp2_with fail
        go_ret
        exact ⟨rfl, hb⟩
  · have c20 : decide ((20 : Int) < t.length) = true := by simp; omega
    have c20n : decide (20 < t.length) = true := by simp; omega
    have Hr2 : Au (false = r) := ⟨by rw [← Hr.out, tmay]; simp [h20]⟩
    clear h20
    go_enter Tryz.func51, Tryz.ntmps51
    go_wp2_with fail
    go_ret
    exact ⟨by rw [← Hr2.out]; rfl, hb0⟩
end Go.Proofs.YtldhcknjpmbgnaaGreatDoor.Rk
