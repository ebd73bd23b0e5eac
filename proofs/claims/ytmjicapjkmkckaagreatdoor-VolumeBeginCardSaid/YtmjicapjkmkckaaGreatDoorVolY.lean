/- Trees: one node, walked. -/
import Derived.Test.YtmjicapjkmkckaaGreatDoorVolX
import Derived.Test.YtmjicapjkmkckaaGreatDoorVMap
import Derived.Test.YtmjicapjkmkckaaGreatDoorGHeadD
namespace Go.Proofs.YtmjicapjkmkckaaGreatDoor.Rk
open Go.RowKit Go.Shelf Go.Maps
set_option linter.unusedVariables false
set_option linter.unusedSimpArgs false
set_option maxRecDepth 100000

theorem tin_calls (n m : Int) {r : Bool} (hr : inN n m = r) (w : World) : Calls Tryz.prog 127 #[.int .i64 n, .int .i64 m] w fun e w' => e = .returned (.bool r) ∧ w = w' := by
  unfold inN at hr
  obtain ⟨a, A1⟩ := au (decide (0 ≤ n))
  obtain ⟨b, B1⟩ := au (decide (n ≤ m))
  rw [A1.out, B1.out] at hr
  have a1 := A1.out
  have b1 := B1.out
  have Hr := Au.mk hr
  clear hr
  cases a <;> cases b
  all_goals
    go_enter Tryz.func127, Tryz.ntmps127
    go_wp2_with fail
    go_ret
    exact ⟨ret_bool (by rw [← Hr.out]; rfl), rfl⟩
theorem kind48_calls (n : Nd) (hS : n.S) {r : Bool} (hr : (n.link == [] && decide (n.data.length ≤ 4000)) = r) (w : World) : Calls Tryz.prog 155 #[n.agg] w fun e w' => e = .returned (.bool r) ∧ Below w.heap.size w w' := by
  obtain ⟨h1, h2, h3⟩ := hS
  obtain ⟨a, A1⟩ := au (n.link == [])
  obtain ⟨b, B1⟩ := au (decide (n.data.length ≤ 4000))
  rw [A1.out, B1.out] at hr
  have a1 : n.link.isEmpty = a := by rw [← A1.out]; cases n.link <;> rfl
  have b1 := B1.out
  have b2 : decide ((n.data.length : Int) ≤ 4000) = b := by rw [← b1]; simp only [decide_eq_decide]; omega
  have hz : (ofL n.data).size = n.data.length := ofL_size _
  have Hr := Au.mk hr
  have B0 := Au.mk (nd_box w n)
  have hb0 := (Below.refl w.heap.size w).alloc (Nat.le_refl _) (.cells n.cells.toArray 53)
  obtain ⟨f0, f1, f2, f3, f4, f5, f6, f7⟩ := nd_cells n B0.out
  unfold Nd.agg
  unfold Nd.cells at f0 f1 f2 f3 f4 f5 f6 f7 hb0
  clear hr
  cases a <;> cases b
  all_goals
    go_enter Tryz.func155, Tryz.ntmps155
    go_wp2_with fail
    go_ret
    exact ⟨ret_bool (by rw [← Hr.out]; rfl), hb0⟩
theorem kind53_calls (n : Nd) (hS : n.S) {r : Bool} (hr : (n.link == [] && n.data == []) = r) (w : World) : Calls Tryz.prog 158 #[n.agg] w fun e w' => e = .returned (.bool r) ∧ Below w.heap.size w w' := by
  obtain ⟨a, A1⟩ := au (n.link == [])
  obtain ⟨b, B1⟩ := au (n.data == [])
  rw [A1.out, B1.out] at hr
  have a1 : n.link.isEmpty = a := by rw [← A1.out]; cases n.link <;> rfl
  have b1 : n.data.isEmpty = b := by rw [← B1.out]; cases n.data <;> rfl
  have Hr := Au.mk hr
  have B0 := Au.mk (nd_box w n)
  have hb0 := (Below.refl w.heap.size w).alloc (Nat.le_refl _) (.cells n.cells.toArray 53)
  obtain ⟨f0, f1, f2, f3, f4, f5, f6, f7⟩ := nd_cells n B0.out
  unfold Nd.agg
  unfold Nd.cells at f0 f1 f2 f3 f4 f5 f6 f7 hb0
  clear hr
  cases a <;> cases b
  all_goals
    go_enter Tryz.func158, Tryz.ntmps158
    go_wp2_with fail
    go_ret
    exact ⟨ret_bool (by rw [← Hr.out]; rfl), hb0⟩
theorem kind50_calls (n : Nd) (hS : n.S) {r : Bool} (hr : (ltext n.link && n.data == []) = r) (w : World) : Calls Tryz.prog 157 #[n.agg] w fun e w' => e = .returned (.bool r) ∧ Below w.heap.size w w' := by
  obtain ⟨h1, h2, h3⟩ := hS
  have hl : n.link.length ≤ 10000 := by omega
  obtain ⟨a, A1⟩ := au (ltext n.link)
  obtain ⟨b, B1⟩ := au (n.data == [])
  rw [A1.out, B1.out] at hr
  have b1 : n.data.isEmpty = b := by rw [← B1.out]; cases n.data <;> rfl
  have Hr := Au.mk hr
  have B0 := Au.mk (nd_box w n)
  have hb0 := (Below.refl w.heap.size w).alloc (Nat.le_refl _) (.cells n.cells.toArray 53)
  obtain ⟨f0, f1, f2, f3, f4, f5, f6, f7⟩ := nd_cells n B0.out
  unfold Nd.agg
  unfold Nd.cells at f0 f1 f2 f3 f4 f5 f6 f7 hb0
  clear hr
  cases a <;> cases b
  all_goals
    go_enter Tryz.func157, Tryz.ntmps157
    go_wp2_with fail
    refine (ltext_calls n.link hl A1.out _).mono ?_
    rintro e w1 ⟨rfl, rfl⟩
    go_wp2_with fail
    go_ret
    exact ⟨ret_bool (by rw [← Hr.out]; rfl), hb0⟩
def kfuncs : List (Value × Value) := [(.int .u8 48, .func (.func 155) #[] #[]), (.int .u8 49, .func (.func 156) #[] #[]), (.int .u8 50, .func (.func 157) #[] #[]), (.int .u8 53, .func (.func 158) #[] #[])]
theorem keyed8 : Keyed Tryz.prog 5 := int_keyed Tryz.underlying5
theorem key8 {a : Int} (h0 : 0 ≤ a) (h1 : a < 256) : keyOf Tryz.prog 5 (.int .u8 a) = some (.int .u8 a) := by
  refine keyOf_int_mk Tryz.underlying5 ?_
  have e1 : IntKind.u8.min = 0 := by decide
  have e2 : IntKind.u8.max = 255 := by decide
  simp only [Lit.wf, e1, e2, Bool.and_eq_true, decide_eq_true_eq]
  omega
set_option maxHeartbeats 1000000 in
theorem kinds_calls (w : World) : Calls Tryz.prog 126 #[] w fun e w' => ∃ b, e = .returned (.map (some b)) ∧ MapL Tryz.prog 5 w' b kfuncs ∧ Below w.heap.size w w' := by
  have hmm := @run_makeMap Tryz.prog
  have hm0 := MapL.made Tryz.prog 5 w
  have hb0 := (Below.refl w.heap.size w).alloc (Nat.le_refl _) (.map #[] 0)
  have hs0 : w.heap.size < (w.alloc (.map #[] 0)).heap.size := by simp
  go_enter Tryz.func126, Tryz.ntmps126
  go_wp2_with fail
  generalize w.alloc (.map #[] 0) = W0 at hm0 hb0 hs0 ⊢
  clear hmm
  obtain ⟨o1, h1, m1⟩ := run_update_new keyed8 Tryz.underlying146 (v := .func (.func 155) #[] #[]) hm0 (key8 (a := 48) (by decide) (by decide)) (by simp)
  rw [h1]
  have b1 := below_putObj hb0 (L := w.heap.size) (Nat.le_refl _) (by omega) o1
  have s1 : w.heap.size < (W0.putObj w.heap.size o1).heap.size := by simpa using hs0
  generalize W0.putObj w.heap.size o1 = W1 at m1 b1 s1 ⊢
  clear h1 hm0 hb0 hs0
  go_wp2_with fail
  obtain ⟨o2, h2, m2⟩ := run_update_new keyed8 Tryz.underlying146 (v := .func (.func 156) #[] #[]) m1 (key8 (a := 49) (by decide) (by decide)) (by simp)
  rw [h2]
  have b2 := below_putObj b1 (L := w.heap.size) (Nat.le_refl _) (by omega) o2
  have s2 : w.heap.size < (W1.putObj w.heap.size o2).heap.size := by simpa using s1
  generalize W1.putObj w.heap.size o2 = W2 at m2 b2 s2 ⊢
  clear h2 m1 b1 s1
  go_wp2_with fail
  obtain ⟨o3, h3, m3⟩ := run_update_new keyed8 Tryz.underlying146 (v := .func (.func 157) #[] #[]) m2 (key8 (a := 50) (by decide) (by decide)) (by simp)
  rw [h3]
  have b3 := below_putObj b2 (L := w.heap.size) (Nat.le_refl _) (by omega) o3
  have s3 : w.heap.size < (W2.putObj w.heap.size o3).heap.size := by simpa using s2
  generalize W2.putObj w.heap.size o3 = W3 at m3 b3 s3 ⊢
  clear h3 m2 b2 s2
  go_wp2_with fail
  obtain ⟨o4, h4, m4⟩ := run_update_new keyed8 Tryz.underlying146 (v := .func (.func 158) #[] #[]) m3 (key8 (a := 53) (by decide) (by decide)) (by simp)
  rw [h4]
  have b4 := below_putObj b3 (L := w.heap.size) (Nat.le_refl _) (by omega) o4
  generalize W3.putObj w.heap.size o4 = W4 at m4 b4 ⊢
  clear h4 m3 b3 s3
  go_wp2_with fail
  go_ret
  exact ⟨_, rfl, m4, b4⟩
/-- Are two nodes the same? -/
def neq (n m : Nd) : Bool := n.path == m.path && (n.link == m.link && (n.kind == m.kind && (n.mode == m.mode && (n.uid == m.uid && (n.gid == m.gid && (n.mtime == m.mtime && n.data == m.data))))))
theorem neq_iff {n m : Nd} : neq n m = true ↔ n = m := by
  unfold neq
  simp only [Bool.and_eq_true, beq_iff_eq]
  constructor
  · rintro ⟨h1, h2, h3, h4, h5, h6, h7, h8⟩
    cases n
    cases m
    simp_all
  · rintro rfl; simp
theorem eql_nd (n m : Nd) (w : World) : (binOp .eql 53 (.agg #[.string (ofL n.path), .string (ofL n.link), .int .u8 n.kind.toNat, .int .i64 n.mode, .int .i64 n.uid, .int .i64 n.gid, .int .i64 n.mtime, .string (ofL n.data)]) (.agg #[.string (ofL m.path), .string (ofL m.link), .int .u8 m.kind.toNat, .int .i64 m.mode, .int .i64 m.uid, .int .i64 m.gid, .int .i64 m.mtime, .string (ofL m.data)])).run Tryz.prog w = .ok (.bool (neq n m)) w := by
  have q1 := Tryz.eqGuardType53
  have q2 := Tryz.stoodInHeld53
  have hty : ((n.kind.toNat : Int) == (m.kind.toNat : Int)) = (n.kind == m.kind) := byte_beq _ _
  unfold neq
  rw [run_eql_struct]
  go_simp
  repeat' split
  all_goals simp [*]
set_option maxHeartbeats 1000000 in
theorem kind49_calls (n : Nd) (hS : n.S) {r : Bool} (hr : ((n.mode == 0 && n.uid == 0 && n.gid == 0 && n.mtime == 0 && n.data == []) && pmay n.link) = r) (w : World) : Calls Tryz.prog 156 #[n.agg] w fun e w' => e = .returned (.bool r) ∧ Below w.heap.size w w' := by
  obtain ⟨h1, h2, h3⟩ := hS
  have hl : n.link.length ≤ 10000 := by omega
  obtain ⟨a, A1⟩ := au (n.mode == 0 && n.uid == 0 && n.gid == 0 && n.mtime == 0 && n.data == [])
  obtain ⟨b, B1⟩ := au (pmay n.link)
  rw [A1.out, B1.out] at hr
  have Hr := Au.mk hr
  have hq : ∀ W, (binOp .eql 53 (.agg #[.string (ofL n.path), .string (ofL n.link), .int .u8 n.kind.toNat, .int .i64 n.mode, .int .i64 n.uid, .int .i64 n.gid, .int .i64 n.mtime, .string (ofL n.data)]) (.agg #[.string (ofL n.path), .string (ofL n.link), .int .u8 n.kind.toNat, .int .i64 0, .int .i64 0, .int .i64 0, .int .i64 0, .string ⟨#[]⟩])).run Tryz.prog W = .ok (.bool a) W := fun W => by
    have h := eql_nd n ⟨n.path, n.link, n.kind, 0, 0, 0, 0, []⟩ W
    have e : neq n ⟨n.path, n.link, n.kind, 0, 0, 0, 0, []⟩ = a := by
      rw [← A1.out]; unfold neq
      simp [Bool.and_assoc]
    rw [e] at h
    exact h
  have B0 := Au.mk (nd_box w n)
  have hb0 := (Below.refl w.heap.size w).alloc (Nat.le_refl _) (.cells n.cells.toArray 53)
  obtain ⟨f0, f1, f2, f3, f4, f5, f6, f7⟩ := nd_cells n B0.out
  unfold Nd.agg
  unfold Nd.cells at f0 f1 f2 f3 f4 f5 f6 f7 hb0
  clear hr
  cases a
  · go_enter Tryz.func156, Tryz.ntmps156
    go_wp2_with fail
    go_ret
    exact ⟨ret_bool (by rw [← Hr.out]; rfl), hb0⟩
  · go_enter Tryz.func156, Tryz.ntmps156
    go_wp2_with fail
    refine (pmay_calls n.link hl B1.out _).mono ?_
    rintro e w1 ⟨rfl, b1⟩
    go_wp2_with fail
    go_ret
    exact ⟨ret_bool (by rw [← Hr.out]; rfl), below_then hb0 b1 hb0.size⟩
/-- What a kind's function says; none, if there is no such kind. -/
theorem kind_none {k : UInt8} (h : k ≠ 48 ∧ k ≠ 49 ∧ k ≠ 50 ∧ k ≠ 53) : ∀ p ∈ kfuncs, p.1 ≠ .int .u8 (k.toNat : Int) := by
  intro p hp
  have hk : ∀ m : Nat, m < 256 → k.toNat = m → k = UInt8.ofNat m := fun m hm e => by rw [← e]; simp
  simp only [kfuncs, List.mem_cons, List.mem_nil_iff, or_false] at hp
  rcases hp with rfl | rfl | rfl | rfl
  all_goals
    intro e
    injection e with _ e
    have e := e.symm
    first
      | exact h.1 (hk 48 (by decide) (by omega))
      | exact h.2.1 (hk 49 (by decide) (by omega))
      | exact h.2.2.1 (hk 50 (by decide) (by omega))
      | exact h.2.2.2 (hk 53 (by decide) (by omega))
def FnOk (n : Nd) (F : FuncId) : Prop := ∀ W, Calls Tryz.prog F #[n.agg] W fun e w' => e = .returned (.bool (kindOk n)) ∧ Below W.heap.size W w'
theorem kind_look (n : Nd) (hS : n.S) : (kindOk n = false ∧ ∀ W b, MapL Tryz.prog 5 W b kfuncs → (Instr.lookup 146 (.map (some b)) (.int .u8 n.kind.toNat) true).run Tryz.prog W = .ok (.tuple #[.nilFunc, .bool false]) W) ∨
    (FnOk n 155 ∧ ∀ W b, MapL Tryz.prog 5 W b kfuncs → (Instr.lookup 146 (.map (some b)) (.int .u8 n.kind.toNat) true).run Tryz.prog W = .ok (.tuple #[.func (.func 155) #[] #[], .bool true]) W) ∨
    (FnOk n 156 ∧ ∀ W b, MapL Tryz.prog 5 W b kfuncs → (Instr.lookup 146 (.map (some b)) (.int .u8 n.kind.toNat) true).run Tryz.prog W = .ok (.tuple #[.func (.func 156) #[] #[], .bool true]) W) ∨
    (FnOk n 157 ∧ ∀ W b, MapL Tryz.prog 5 W b kfuncs → (Instr.lookup 146 (.map (some b)) (.int .u8 n.kind.toNat) true).run Tryz.prog W = .ok (.tuple #[.func (.func 157) #[] #[], .bool true]) W) ∨
    (FnOk n 158 ∧ ∀ W b, MapL Tryz.prog 5 W b kfuncs → (Instr.lookup 146 (.map (some b)) (.int .u8 n.kind.toNat) true).run Tryz.prog W = .ok (.tuple #[.func (.func 158) #[] #[], .bool true]) W) := by
  have hk : ∀ (W : World) (b : Nat) (m : Int) (v : Value), 0 ≤ m → m < 256 → (.int .u8 m, v) ∈ kfuncs → (∀ p ∈ kfuncs, p.1 = .int .u8 m → p.2 = v) → MapL Tryz.prog 5 W b kfuncs → (Instr.lookup 146 (.map (some b)) (.int .u8 m) true).run Tryz.prog W = .ok (.tuple #[v, .bool true]) W :=
    fun W b m v h0 h1 hm hu h => by
      have := run_lookup_hit keyed8 Tryz.underlying146 h (key8 h0 h1) hm hu true
      simpa using this
  by_cases h48 : n.kind = 48
  · right; left
    refine ⟨fun W => kind48_calls n hS (by unfold kindOk; rw [if_pos h48]) W, fun W b h => ?_⟩
    rw [h48]
    exact hk W b 48 _ (by decide) (by decide) (by simp [kfuncs]) (by simp [kfuncs]) h
  · by_cases h49 : n.kind = 49
    · right; right; left
      refine ⟨fun W => kind49_calls n hS (by unfold kindOk; rw [if_neg h48, if_pos h49]) W, fun W b h => ?_⟩
      rw [h49]
      exact hk W b 49 _ (by decide) (by decide) (by simp [kfuncs]) (by simp [kfuncs]) h
    · by_cases h50 : n.kind = 50
      · right; right; right; left
        refine ⟨fun W => kind50_calls n hS (by unfold kindOk; rw [if_neg h48, if_neg h49, if_pos h50]) W, fun W b h => ?_⟩
        rw [h50]
        exact hk W b 50 _ (by decide) (by decide) (by simp [kfuncs]) (by simp [kfuncs]) h
      · by_cases h53 : n.kind = 53
        · right; right; right; right
          refine ⟨fun W => kind53_calls n hS (by unfold kindOk; rw [if_neg h48, if_neg h49, if_neg h50, if_pos h53]) W, fun W b h => ?_⟩
          rw [h53]
          exact hk W b 53 _ (by decide) (by decide) (by simp [kfuncs]) (by simp [kfuncs]) h
        · left
          refine ⟨by unfold kindOk; rw [if_neg h48, if_neg h49, if_neg h50, if_neg h53], fun W b h => ?_⟩
          have hlt := n.kind.toNat_lt
          have := run_lookup_miss keyed8 Tryz.underlying146 (z := .nilFunc) (by kernel_rfl) h (key8 (a := (n.kind.toNat : Int)) (by omega) (by omega)) (kind_none ⟨h48, h49, h50, h53⟩) true
          simpa using this
set_option maxHeartbeats 4000000 in
theorem one_calls (n : Nd) (hS : n.S) {r : Bool} (hr : one n = r) (w : World) : Calls Tryz.prog 88 #[n.agg] w fun e w' => e = .returned (.bool r) ∧ Below w.heap.size w w' := by
  have hp : n.path.length ≤ 10000 := by have := hS.1; omega
  have hlook := kind_look n hS
  obtain ⟨a0, A0⟩ := au (kindOk n)
  obtain ⟨a1, A1⟩ := au (pmay n.path)
  obtain ⟨a2, A2⟩ := au (inN n.mode 4095)
  obtain ⟨a3, A3⟩ := au (inN n.uid 1099511627776)
  obtain ⟨a4, A4⟩ := au (inN n.gid 1099511627776)
  obtain ⟨a5, A5⟩ := au (inN n.mtime 1099511627776)
  have Hr : Au ((a0 && (a1 && (a2 && (a3 && (a4 && a5))))) = r) := ⟨by rw [← hr, one, A0.out, A1.out, A2.out, A3.out, A4.out, A5.out]⟩
  have B0 := Au.mk (nd_box w n)
  have hb0 := (Below.refl w.heap.size w).alloc (Nat.le_refl _) (.cells n.cells.toArray 53)
  obtain ⟨f0, f1, f2, f3, f4, f5, f6, f7⟩ := nd_cells n B0.out
  have HS := Au.mk hS
  unfold FnOk at hlook
  rw [A0.out] at hlook
  clear hr hS
  rcases hlook with ⟨hk0, hlk⟩ | ⟨hfn, hlk⟩ | ⟨hfn, hlk⟩ | ⟨hfn, hlk⟩ | ⟨hfn, hlk⟩
  · have Hlk := Au.mk hlk
    have h0 : a0 = false := by rw [← A0.out]; exact A0.out.trans hk0
    clear hlk
    unfold Nd.agg
    unfold Nd.cells at f0 f1 f2 f3 f4 f5 f6 f7 hb0 B0
    go_enter Tryz.func88, Tryz.ntmps88
    go_upto_region 1 with fail
    generalize hW : w.alloc _ = W0 at B0 hb0 f0 f1 f2 f3 f4 f5 f6 f7 ⊢
    clear hW
    go_region_held3 (fun w' => w'.cell? ⟨w.heap.size, 2, none⟩ = some (.int .u8 n.kind.toNat)) (go_keep)
      (first | (go_at_call 126; refine (kinds_calls _).mono ?_; rintro e w1 ⟨b, rfl, hm1, b1⟩; have g2 := cell_below (w := W0.drew) f2 b1; have hlk1 := Hlk.out w1 b hm1))
    have e1 := below_then (below_drewN hb0 1) b1 (below_drewN hb0 1).size
    go_wp2_with fail
    go_ret
    exact ⟨ret_bool (by rw [← Hr.out, h0]; rfl), e1⟩
  all_goals
    have Hfn := Au.mk hfn
    have Hlk := Au.mk hlk
    clear hfn hlk
    unfold Nd.agg
    unfold Nd.cells at f0 f1 f2 f3 f4 f5 f6 f7 hb0 B0
    go_enter Tryz.func88, Tryz.ntmps88
    go_upto_region 1 with fail
    generalize hW : w.alloc _ = W0 at B0 hb0 f0 f1 f2 f3 f4 f5 f6 f7 ⊢
    clear hW
    go_region_held3 (fun w' => w'.cell? ⟨w.heap.size, 2, none⟩ = some (.int .u8 n.kind.toNat)) (go_keep)
      (first | (go_at_call 126; refine (kinds_calls _).mono ?_; rintro e w1 ⟨b, rfl, hm1, b1⟩; have g2 := cell_below (w := W0.drew) f2 b1; have hlk1 := Hlk.out w1 b hm1))
    have B1 := Au.mk (blk_below (w := W0.drew) B0.out b1 (lt_of_block B0.out))
    have e1 := below_then (below_drewN hb0 1) b1 (below_drewN hb0 1).size
    clear f0 f1 f2 f3 f4 f5 f6 f7 hb0 b1 B0 g2 hlk1 hm1 Hlk
    obtain ⟨f0, f1, f2, f3, f4, f5, f6, f7⟩ := nd_cells n B1.out
    go_wp2_with fail
    refine (Hfn.out _).mono ?_
    rintro e w2 ⟨rfl, b2⟩
    have B2 := Au.mk (blk_below B1.out b2 (lt_of_block B1.out))
    have e2 := below_then e1 b2 e1.size
    clear f0 f1 f2 f3 f4 f5 f6 f7 e1 b2 B1 Hfn
    obtain ⟨f0, f1, f2, f3, f4, f5, f6, f7⟩ := nd_cells n B2.out
    cases a0
    · go_wp2_with fail
      go_ret
      exact ⟨ret_bool (by rw [← Hr.out]; rfl), e2⟩
    · go_wp2_with fail
      refine (pmay_calls n.path hp A1.out _).mono ?_
      rintro e w3 ⟨rfl, b3⟩
      have B3 := Au.mk (blk_below B2.out b3 (lt_of_block B2.out))
      have e3 := below_then e2 b3 e2.size
      clear f0 f1 f2 f3 f4 f5 f6 f7 e2 b3 B2
      obtain ⟨f0, f1, f2, f3, f4, f5, f6, f7⟩ := nd_cells n B3.out
      cases a1
      · go_wp2_with fail
        go_ret
        exact ⟨ret_bool (by rw [← Hr.out]; rfl), e3⟩
      · go_wp2_with fail
        refine (tin_calls _ _ A2.out _).mono ?_
        rintro e w' ⟨rfl, rfl⟩
        cases a2
        · go_wp2_with fail
          go_ret
          exact ⟨ret_bool (by rw [← Hr.out]; rfl), e3⟩
        · go_wp2_with fail
          refine (tin_calls _ _ A3.out _).mono ?_
          rintro e w' ⟨rfl, rfl⟩
          cases a3
          · go_wp2_with fail
            go_ret
            exact ⟨ret_bool (by rw [← Hr.out]; rfl), e3⟩
          · go_wp2_with fail
            refine (tin_calls _ _ A4.out _).mono ?_
            rintro e w' ⟨rfl, rfl⟩
            cases a4
            · go_wp2_with fail
              go_ret
              exact ⟨ret_bool (by rw [← Hr.out]; rfl), e3⟩
            · go_wp2_with fail
              refine (tin_calls _ _ A5.out _).mono ?_
              rintro e w' ⟨rfl, rfl⟩
              go_wp2_with fail
              go_ret
              exact ⟨ret_bool (by rw [← Hr.out]; rfl), e3⟩
end Go.Proofs.YtmjicapjkmkckaaGreatDoor.Rk
