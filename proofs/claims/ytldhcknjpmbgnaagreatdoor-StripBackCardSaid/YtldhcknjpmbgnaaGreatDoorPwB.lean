/- Parse: may a state be, walked. -/
import Derived.Test.YtldhcknjpmbgnaaGreatDoorPwA
namespace Go.Proofs.YtldhcknjpmbgnaaGreatDoor.Rk
open Go.RowKit Go.Shelf
set_option linter.unusedVariables false
set_option linter.unusedSimpArgs false
set_option maxRecDepth 100000

theorem peq_head {s : Ps} (h : s.phase = 0) : peq s ⟨0, nz, 0, 0, [], s.name, s.link⟩ = (nzB s.node && (s.size == 0 && (s.left == 0 && s.text == []))) := by
  unfold peq neq nzB nz; simp [h]
theorem peq_long (s : Ps) : peq s ⟨s.phase, nz, s.size, s.size, [], s.name, s.link⟩ = (nzB s.node && (s.left == s.size && s.text == [])) := by
  unfold peq neq nzB nz; simp
theorem peq_data (s : Ps) : peq s ⟨s.phase, s.node, s.size, s.left, [], [], []⟩ = (s.text == [] && (s.name == [] && s.link == [])) := by
  unfold peq neq; simp
theorem peq_end (s : Ps) : peq s ⟨s.phase, nz, 0, 0, [], [], []⟩ = (nzB s.node && (s.size == 0 && (s.left == 0 && (s.text == [] && (s.name == [] && s.link == []))))) := by
  unfold peq neq nzB nz; simp
set_option maxHeartbeats 4000000 in
theorem psmay_calls (s : Ps) (hS : s.S) (hR : s.R) {r : Bool} (hr : psMay s = r) (w : World) : Calls Tryz.prog 26 #[s.agg] w fun e w' => e = .returned (.bool r) ∧ Below w.heap.size w w' := by
  have HS := Au.mk hS
  have HR := Au.mk hR
  have B0 := Au.mk (st_box w s)
  have hb0 := (Below.refl w.heap.size w).alloc (Nat.le_refl _) (.cells s.cells.toArray 25)
  obtain ⟨f0, f1, f2, f3, f4, f5, f6, f7, f8, f9, f10, f11, f12, f13⟩ := st_cells s B0.out
  obtain ⟨b, B1⟩ := au (words s)
  have CW := Au.mk (fun W : World => pwords_calls s HS.out B1.out W)
  have Q := Au.mk (fun (t : Ps) (W : World) => eql_st s t W)
  unfold Ps.agg at CW ⊢
  unfold Ps.cells at f0 f1 f2 f3 f4 f5 f6 f7 f8 f9 f10 f11 f12 f13 hb0
  unfold psMay at hr
  clear hS hR
  by_cases h0 : s.phase = 0
  · rw [if_pos h0, ← peq_head h0, B1.out] at hr
    obtain ⟨a, A1⟩ := au (peq s ⟨0, nz, 0, 0, [], s.name, s.link⟩)
    rw [A1.out] at hr
    have Hr := Au.mk hr
    have hq : ∀ W : World, (binOp .eql 25 (.agg #[.int .i64 s.phase, .string (ofL s.node.path), .string (ofL s.node.link), .int .u8 s.node.kind.toNat, .int .i64 s.node.mode, .int .i64 s.node.uid, .int .i64 s.node.gid, .int .i64 s.node.mtime, .string (ofL s.node.data), .int .i64 s.size, .int .i64 s.left, .string (ofL s.text), .string (ofL s.name), .string (ofL s.link)])
        (.agg #[.int .i64 0, .string ⟨#[]⟩, .string ⟨#[]⟩, .int .u8 0, .int .i64 0, .int .i64 0, .int .i64 0, .int .i64 0, .string ⟨#[]⟩, .int .i64 0, .int .i64 0, .string ⟨#[]⟩, .string (ofL s.name), .string (ofL s.link)])).run Tryz.prog W = .ok (.bool a) W := fun W => by
      rw [← A1.out]; exact Q.out ⟨0, nz, 0, 0, [], s.name, s.link⟩ W
    have t0 : (s.phase == 0) = true := by simp [h0]
    clear hr h0
    cases a
    · go_enter Tryz.func26, Tryz.ntmps26
      go_wp2_with fail
      go_ret
      exact ⟨ret_bool (by rw [← Hr.out]; rfl), hb0⟩
    · go_enter Tryz.func26, Tryz.ntmps26
      go_wp2_with fail
      refine (CW.out _).mono ?_
      rintro e w1 ⟨rfl, b1⟩
      have e1 := below_then hb0 b1 hb0.size
      go_wp2_with fail
      go_ret
      exact ⟨ret_bool (by rw [← Hr.out]; rfl), e1⟩
  rw [if_neg h0] at hr
  have t0 : (s.phase == 0) = false := by simp [h0]
  by_cases h12 : s.phase = 1 ∨ s.phase = 2
  · rw [if_pos h12, ← peq_long, B1.out] at hr
    obtain ⟨a, A1⟩ := au (peq s ⟨s.phase, nz, s.size, s.size, [], s.name, s.link⟩)
    obtain ⟨c, C1⟩ := au (inR s.size 2 301)
    have hq : ∀ W : World, (binOp .eql 25 (.agg #[.int .i64 s.phase, .string (ofL s.node.path), .string (ofL s.node.link), .int .u8 s.node.kind.toNat, .int .i64 s.node.mode, .int .i64 s.node.uid, .int .i64 s.node.gid, .int .i64 s.node.mtime, .string (ofL s.node.data), .int .i64 s.size, .int .i64 s.left, .string (ofL s.text), .string (ofL s.name), .string (ofL s.link)])
        (.agg #[.int .i64 s.phase, .string ⟨#[]⟩, .string ⟨#[]⟩, .int .u8 0, .int .i64 0, .int .i64 0, .int .i64 0, .int .i64 0, .string ⟨#[]⟩, .int .i64 s.size, .int .i64 s.size, .string ⟨#[]⟩, .string (ofL s.name), .string (ofL s.link)])).run Tryz.prog W = .ok (.bool a) W := fun W => by
      rw [← A1.out]; exact Q.out ⟨s.phase, nz, s.size, s.size, [], s.name, s.link⟩ W
    rw [A1.out, C1.out] at hr
    rcases h12 with h1 | h2
    · rw [if_neg (by omega)] at hr
      obtain ⟨o, O1⟩ := au (s.name == [])
      rw [O1.out] at hr
      have o1 : s.name.isEmpty = o := by rw [← O1.out]; cases s.name <;> rfl
      have t1 : (s.phase == 1) = true := by simp [h1]
      have t2 : (s.phase == 2) = false := by simp [h1]
      have Hr := Au.mk hr
      clear hr h1 h0
      cases a
      · go_enter Tryz.func26, Tryz.ntmps26
        go_wp2_with fail
        go_ret
        exact ⟨ret_bool (by rw [← Hr.out]; rfl), hb0⟩
      cases o
      · go_enter Tryz.func26, Tryz.ntmps26
        go_wp2_with fail
        go_ret
        exact ⟨ret_bool (by rw [← Hr.out]; rfl), hb0⟩
      go_enter Tryz.func26, Tryz.ntmps26
      go_wp2_with fail
      refine (pin_calls s.size 2 301 C1.out _).mono ?_
      rintro e w1 ⟨rfl, rfl⟩
      cases c
      · go_wp2_with fail
        go_ret
        exact ⟨ret_bool (by rw [← Hr.out]; rfl), hb0⟩
      go_wp2_with fail
      refine (CW.out _).mono ?_
      rintro e w1 ⟨rfl, b1⟩
      have e1 := below_then hb0 b1 hb0.size
      go_wp2_with fail
      go_ret
      exact ⟨ret_bool (by rw [← Hr.out]; rfl), e1⟩
    · rw [if_pos h2] at hr
      obtain ⟨o, O1⟩ := au (s.link == [])
      rw [O1.out] at hr
      have o1 : s.link.isEmpty = o := by rw [← O1.out]; cases s.link <;> rfl
      have t1 : (s.phase == 1) = false := by simp [h2]
      have t2 : (s.phase == 2) = true := by simp [h2]
      have Hr := Au.mk hr
      clear hr h2 h0
      cases a
      · go_enter Tryz.func26, Tryz.ntmps26
        go_wp2_with fail
        go_ret
        exact ⟨ret_bool (by rw [← Hr.out]; rfl), hb0⟩
      cases o
      · go_enter Tryz.func26, Tryz.ntmps26
        go_wp2_with fail
        go_ret
        exact ⟨ret_bool (by rw [← Hr.out]; rfl), hb0⟩
      go_enter Tryz.func26, Tryz.ntmps26
      go_wp2_with fail
      refine (pin_calls s.size 2 301 C1.out _).mono ?_
      rintro e w1 ⟨rfl, rfl⟩
      cases c
      · go_wp2_with fail
        go_ret
        exact ⟨ret_bool (by rw [← Hr.out]; rfl), hb0⟩
      go_wp2_with fail
      refine (CW.out _).mono ?_
      rintro e w1 ⟨rfl, b1⟩
      have e1 := below_then hb0 b1 hb0.size
      go_wp2_with fail
      go_ret
      exact ⟨ret_bool (by rw [← Hr.out]; rfl), e1⟩
  rw [if_neg h12] at hr
  have t1 : (s.phase == 1) = false := by simp; omega
  have t2 : (s.phase == 2) = false := by simp; omega
  clear h0 h12
  by_cases h3 : s.phase = 3
  · rw [if_pos h3, ← peq_data] at hr
    obtain ⟨a, A1⟩ := au (peq s ⟨s.phase, s.node, s.size, s.left, [], [], []⟩)
    have hq : ∀ W : World, (binOp .eql 25 (.agg #[.int .i64 s.phase, .string (ofL s.node.path), .string (ofL s.node.link), .int .u8 s.node.kind.toNat, .int .i64 s.node.mode, .int .i64 s.node.uid, .int .i64 s.node.gid, .int .i64 s.node.mtime, .string (ofL s.node.data), .int .i64 s.size, .int .i64 s.left, .string (ofL s.text), .string (ofL s.name), .string (ofL s.link)])
        (.agg #[.int .i64 s.phase, .string (ofL s.node.path), .string (ofL s.node.link), .int .u8 s.node.kind.toNat, .int .i64 s.node.mode, .int .i64 s.node.uid, .int .i64 s.node.gid, .int .i64 s.node.mtime, .string (ofL s.node.data), .int .i64 s.size, .int .i64 s.left, .string ⟨#[]⟩, .string ⟨#[]⟩, .string ⟨#[]⟩])).run Tryz.prog W = .ok (.bool a) W := fun W => by
      rw [← A1.out]; exact Q.out ⟨s.phase, s.node, s.size, s.left, [], [], []⟩ W
    obtain ⟨k, K1⟩ := au (s.node.kind == 48)
    obtain ⟨d, D1⟩ := au (s.node.data == [])
    obtain ⟨o, O1⟩ := au (one s.node)
    obtain ⟨c1, C1⟩ := au (inR s.size 1 4000)
    obtain ⟨c2, C2⟩ := au (inR s.left 1 s.size)
    obtain ⟨m, M1⟩ := au ((s.size - s.left) % 512 == 0)
    rw [A1.out, K1.out, D1.out, O1.out, C1.out, C2.out, M1.out] at hr
    have k1 : ((s.node.kind.toNat : Int) == 48) = k := by rw [← K1.out]; exact byte_beq _ 48
    have d1 : s.node.data.isEmpty = d := by rw [← D1.out]; cases s.node.data <;> rfl
    have hm : c1 = true → c2 = true → IntKind.i64.wrap (s.size - s.left) = s.size - s.left ∧ IntKind.i64.wrap ((s.size - s.left).tmod 512) = (s.size - s.left).tmod 512 ∧ ((s.size - s.left).tmod 512 == 0) = m := by
      rintro rfl rfl
      have := C1.out
      have h2 := C2.out
      unfold inR at this h2
      simp only [Bool.and_eq_true, decide_eq_true_eq] at this h2
      have h4 : 0 ≤ s.size - s.left := by omega
      rw [Int.tmod_eq_emod_of_nonneg h4]
      refine ⟨by rw [IntKind.wrap_i64]; omega, by rw [IntKind.wrap_i64]; omega, M1.out⟩
    have Hm := Au.mk hm
    have CO := Au.mk (fun W : World => one_calls s.node HS.out.1 O1.out W)
    unfold Nd.agg at CO
    have t3 : (s.phase == 3) = true := by simp [h3]
    have Hr := Au.mk hr
    clear hr h3 hm
    cases a
    · go_enter Tryz.func26, Tryz.ntmps26
      go_wp2_with fail
      go_ret
      exact ⟨ret_bool (by rw [← Hr.out]; rfl), hb0⟩
    cases k
    · go_enter Tryz.func26, Tryz.ntmps26
      go_wp2_with fail
      go_ret
      exact ⟨ret_bool (by rw [← Hr.out]; rfl), hb0⟩
    cases d
    · go_enter Tryz.func26, Tryz.ntmps26
      go_wp2_with fail
      go_ret
      exact ⟨ret_bool (by rw [← Hr.out]; rfl), hb0⟩
    go_enter Tryz.func26, Tryz.ntmps26
    go_wp2_with fail
    refine (CO.out _).mono ?_
    rintro e w1 ⟨rfl, b1⟩
    have e1 := below_then hb0 b1 hb0.size
    have g9 := cell_below f9 b1
    have g10 := cell_below f10 b1
    clear f0 f1 f2 f3 f4 f5 f6 f7 f8 f9 f10 f11 f12 f13
    cases o
    · go_wp2_with fail
      go_ret
      exact ⟨ret_bool (by rw [← Hr.out]; rfl), e1⟩
    go_wp2_with fail
    refine (pin_calls s.size 1 4000 C1.out _).mono ?_
    rintro e w2 ⟨rfl, rfl⟩
    cases c1
    · go_wp2_with fail
      go_ret
      exact ⟨ret_bool (by rw [← Hr.out]; rfl), e1⟩
    go_wp2_with fail
    refine (pin_calls s.left 1 s.size C2.out _).mono ?_
    rintro e w2 ⟨rfl, rfl⟩
    cases c2
    · go_wp2_with fail
      go_ret
      exact ⟨ret_bool (by rw [← Hr.out]; rfl), e1⟩
    obtain ⟨m1, m2, m3⟩ := Hm.out (by simp) (by simp)
    go_wp2_with fail
    go_ret
    exact ⟨ret_bool (by rw [← Hr.out]; rfl), e1⟩
  rw [if_neg h3] at hr
  have t3 : (s.phase == 3) = false := by simp [h3]
  clear h3
  by_cases h45 : s.phase = 4 ∨ s.phase = 5
  · rw [if_pos h45, ← peq_end] at hr
    obtain ⟨a, A1⟩ := au (peq s ⟨s.phase, nz, 0, 0, [], [], []⟩)
    rw [A1.out] at hr
    have hq : ∀ W : World, (binOp .eql 25 (.agg #[.int .i64 s.phase, .string (ofL s.node.path), .string (ofL s.node.link), .int .u8 s.node.kind.toNat, .int .i64 s.node.mode, .int .i64 s.node.uid, .int .i64 s.node.gid, .int .i64 s.node.mtime, .string (ofL s.node.data), .int .i64 s.size, .int .i64 s.left, .string (ofL s.text), .string (ofL s.name), .string (ofL s.link)])
        (.agg #[.int .i64 s.phase, .string ⟨#[]⟩, .string ⟨#[]⟩, .int .u8 0, .int .i64 0, .int .i64 0, .int .i64 0, .int .i64 0, .string ⟨#[]⟩, .int .i64 0, .int .i64 0, .string ⟨#[]⟩, .string ⟨#[]⟩, .string ⟨#[]⟩])).run Tryz.prog W = .ok (.bool a) W := fun W => by
      rw [← A1.out]; exact Q.out ⟨s.phase, nz, 0, 0, [], [], []⟩ W
    have Hr := Au.mk hr
    clear hr
    rcases h45 with h4 | h5
    · have t4 : (s.phase == 4) = true := by simp [h4]
      clear h4
      go_enter Tryz.func26, Tryz.ntmps26
      go_wp2_with fail
      go_ret
      exact ⟨ret_bool (by rw [← Hr.out]), hb0⟩
    · have t4 : (s.phase == 4) = false := by simp [h5]
      have t5 : (s.phase == 5) = true := by simp [h5]
      clear h5
      go_enter Tryz.func26, Tryz.ntmps26
      go_wp2_with fail
      go_ret
      exact ⟨ret_bool (by rw [← Hr.out]), hb0⟩
  · rw [if_neg h45] at hr
    have t4 : (s.phase == 4) = false := by simp; omega
    have t5 : (s.phase == 5) = false := by simp; omega
    have Hr := Au.mk hr
    clear hr h45
    go_enter Tryz.func26, Tryz.ntmps26
    go_wp2_with fail
    go_ret
    exact ⟨ret_bool Hr.out, hb0⟩
end Go.Proofs.YtldhcknjpmbgnaaGreatDoor.Rk
