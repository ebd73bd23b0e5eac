/- Strip: how many blocks of a volume are not the stream's, walked. -/
import Derived.Test.YtldhcknjpmbgnaaGreatDoorPwB
namespace Go.Proofs.YtldhcknjpmbgnaaGreatDoor.Rk
open Go.RowKit Go.Shelf
set_option linter.unusedVariables false
set_option linter.unusedSimpArgs false
set_option maxRecDepth 100000

theorem Sl.drop {α : Type} {d : Kd α} (h1 : d.sz = 1) {w : World} {F : Nat → Prop} {b o c : Nat} {xs : List α} (h : Sl d w F (some ⟨b, o, none⟩) c xs) {p : Nat} (hp : p ≤ xs.length) : Sl d w F (some ⟨b, o + p, none⟩) (c - p) (xs.drop p) := by
  obtain ⟨hl, hc, vs, hv⟩ := h
  refine ⟨by rw [List.length_drop]; omega, by omega, vs.drop p, fun W hW => ⟨?_, ?_⟩⟩
  · intro hne
    have hvs : vs ≠ [] := by rintro rfl; simp at hne
    obtain ⟨b', o', e1, hcell⟩ := (hv W hW).1 hvs
    injection e1 with e1
    injection e1 with e2 e3
    subst e2 e3
    refine ⟨b, o + p, rfl, fun j u hu => ?_⟩
    rw [List.getElem?_drop] at hu
    rw [show o + p + j = o + (p + j) by omega]; exact hcell _ _ hu
  · have := ((hv W hW).2).drop p
    rwa [h1, Nat.mul_one] at this
theorem neq_nd (n m : Nd) (w : World) : (binOp .neq 23 (.agg #[.string (ofL n.path), .string (ofL n.link), .int .u8 n.kind.toNat, .int .i64 n.mode, .int .i64 n.uid, .int .i64 n.gid, .int .i64 n.mtime, .string (ofL n.data)]) (.agg #[.string (ofL m.path), .string (ofL m.link), .int .u8 m.kind.toNat, .int .i64 m.mode, .int .i64 m.uid, .int .i64 m.gid, .int .i64 m.mtime, .string (ofL m.data)])).run Tryz.prog w = .ok (.bool (!neq n m)) w := by
  have q1 := Tryz.eqGuardType23
  have q2 := Tryz.stoodInHeld23
  have hty : ((n.kind.toNat : Int) == (m.kind.toNat : Int)) = (n.kind == m.kind) := byte_beq _ _
  unfold neq
  rw [run_neq_struct]
  go_simp
  repeat' split
  all_goals simp [*]
theorem cget_used {l : List (List UInt8)} {who : Nd} {off whole : Int} {used : Nat} (h : cget l = some (who, off, whole, used)) : used ≤ 3 := by
  have hf : ∀ (nm : List UInt8) (hd : Hd) (is : Bool) (i : Nat), cfin l nm hd is i = some (who, off, whole, used) → used = i := by
    intro nm hd is i h
    unfold cfin at h
    by_cases h1 : (!is || hd.ty != 77) = true
    · rw [if_pos h1] at h; cases h
    · rw [if_neg h1] at h
      by_cases h2 : (cfits hd (if nm = [] then hd.name else nm) && (cputB (cnode hd (if nm = [] then hd.name else nm)) hd.off hd.real == l.take i)) = true
      · rw [if_pos h2] at h
        simp only [Option.some.injEq, Prod.mk.injEq] at h; exact h.2.2.2.symm
      · rw [if_neg h2] at h; cases h
  unfold cget at h
  split at h
  · split at h
    · cases h
    · split at h
      · cases h
      · have := hf _ _ _ _ h; omega
  · have := hf _ _ _ _ h; omega
/-- What the walk needs of a parser's state, and what the state is not. -/
theorem sone_phase {s : Ps} (hm : psMay s = true) (h3 : s.phase = 3) : 1 ≤ s.size ∧ s.size ≤ 4000 ∧ 1 ≤ s.left ∧ s.left ≤ s.size := by
  unfold psMay at hm
  rw [if_neg (by omega), if_neg (by omega), if_pos h3] at hm
  unfold inR at hm
  simp only [Bool.and_eq_true, decide_eq_true_eq] at hm
  omega
set_option maxHeartbeats 4000000 in
theorem sone_calls (s : Ps) (hS : s.S) (hR : s.R) (name : List UInt8) (n : Int) (v : List (List UInt8)) {m : Nat} (hm : v.length = m) {k er : Int} (hr : sone s name n v = (k, er)) {A : Option Addr} {c : Nat} {F : Nat → Prop} (w : World) (hT : Tab w) (hv : Sl (Kd.slice Kd.byte) w F A c v) :
    Calls Tryz.prog 27 #[s.agg, .string (ofL name), .int .i64 n, .slice A m c] w fun e w' => e = .returned (.tuple #[.int .i64 k, .int .i64 er]) ∧ Below w.heap.size w w' := by
  have HS := Au.mk hS
  have HR := Au.mk hR
  have hle := hv.le
  have hmc := hv.1
  have hcm := hv.2.1
  rw [hm] at hle hmc
  have B0 := Au.mk (st_box w s)
  have hb0 := (Below.refl w.heap.size w).alloc (Nat.le_refl _) (.cells s.cells.toArray 25)
  have T0 := Au.mk (hT.below hb0)
  have V0 := Au.mk (hv.old.below hb0)
  obtain ⟨mm, M1⟩ := au (psMay s)
  have CM := Au.mk (fun W : World => psmay_calls s HS.out HR.out M1.out W)
  unfold sone at hr
  rw [M1.out] at hr
  obtain ⟨f0, f1, f2, f3, f4, f5, f6, f7, f8, f9, f10, f11, f12, f13⟩ := st_cells s B0.out
  unfold Ps.agg at CM ⊢
  unfold Ps.cells at f0 f1 f2 f3 f4 f5 f6 f7 f8 f9 f10 f11 f12 f13 hb0 B0 T0 V0
  have Hm := Au.mk hm
  clear hT hv hS hR hm
  cases mm
  · have Hr := Au.mk hr
    rw [if_pos rfl] at hr
    simp only [Prod.mk.injEq] at hr
    obtain ⟨rfl, rfl⟩ := hr
    go_enter Tryz.func27, Tryz.ntmps27
    go_wp2_with fail
    refine (CM.out _).mono ?_
    rintro e w1 ⟨rfl, b1⟩
    have e1 := below_then hb0 b1 hb0.size
    go_wp2_with fail
    go_ret2
    exact ⟨rfl, e1⟩
  rw [if_neg (by decide)] at hr
  go_enter Tryz.func27, Tryz.ntmps27
  go_wp2_with fail
  refine (CM.out _).mono ?_
  rintro e w1 ⟨rfl, b1⟩
  have e1 := Au.mk (below_then hb0 b1 hb0.size)
  have J1 := Au.mk (blk_below B0.out b1 (lt_of_block B0.out))
  have T1 := Au.mk (T0.out.below b1)
  have V1 := Au.mk (V0.out.below b1)
  clear f0 f1 f2 f3 f4 f5 f6 f7 f8 f9 f10 f11 f12 f13 b1 hb0 T0 V0
  have f0 := blk_cell J1.out 0 rfl
  by_cases h5 : s.phase = 5
  · rw [if_pos h5] at hr
    simp only [Prod.mk.injEq] at hr
    obtain ⟨rfl, rfl⟩ := hr
    have t5 : (s.phase == 5) = true := by simp [h5]
    clear h5
    go_wp2_with fail
    go_ret2
    exact ⟨rfl, e1.out⟩
  rw [if_neg h5] at hr
  have t5 : (s.phase == 5) = false := by simp [h5]
  clear h5
  cases v with
  | nil =>
    have hm0 : m = 0 := by rw [← Hm.out]; rfl
    subst hm0
    simp only [Prod.mk.injEq] at hr
    obtain ⟨rfl, rfl⟩ := hr
    go_wp2_with fail
    go_ret2
    exact ⟨rfl, e1.out⟩
  | cons b rest =>
    dsimp only at hr
    have hm1 : 1 ≤ m := by rw [← Hm.out]; simp
    have m0 : ((m : Int) == 0) = false := by simp; omega
    have hmr : rest.length = m - 1 := by rw [← Hm.out]; simp
    obtain ⟨bb, o, A0, c0, rfl, ck, sk⟩ := V1.out.slice_at (i := 0) (x := b) rfl
    rw [Nat.add_zero] at ck
    have SK := Au.mk sk
    have SR := Au.mk (V1.out.drop rfl (p := 1) (by simp))
    obtain ⟨⟨own, no, g⟩, G1⟩ := au (lget b)
    rw [G1.out] at hr
    obtain ⟨bl, BL⟩ := au b.length
    have CG := Au.mk (fun (W : World) (hT : Tab W) (h : Sl Kd.byte W (fun k => F k ∧ k < w.heap.size) A0 c0 b) => lget_calls b G1.out W h hT)
    rw [BL.out] at ck CG
    clear sk
    go_wp2_with fail
    refine (CG.out _ T1.out SK.out).mono ?_
    rintro e w2 ⟨rfl, b2⟩
    have e2 := Au.mk (below_then e1.out b2 e1.out.size)
    have J2 := Au.mk (blk_below J1.out b2 (lt_of_block J1.out))
    have S2 := Au.mk (SR.out.below b2)
    clear f0 ck b2 e1 J1 T1 V1 SK SR CG B0
    have f0 := blk_cell J2.out 0 rfl
    obtain ⟨x, X1⟩ := au (g != 0)
    obtain ⟨y, Y1⟩ := au (own == name)
    obtain ⟨z, Z1⟩ := au (no != n)
    have x1 := X1.out
    have z1 := Z1.out
    have y3 : (own == name) = y := Y1.out
    have y4 : (own != name) = !y := by rw [← Y1.out]; rfl
    by_cases hb : g ≠ 0 ∨ own ≠ name ∨ no ≠ n
    · rw [if_pos hb] at hr
      simp only [Prod.mk.injEq] at hr
      obtain ⟨rfl, rfl⟩ := hr
      have hxyz : (x || (!y || z)) = true := by
        rw [← X1.out, ← Y1.out, ← Z1.out]; simp; rcases hb with h | h | h <;> simp [h]
      clear hb
      cases x
      · cases y
        · go_wp2_with fail
          go_ret2
          exact ⟨rfl, e2.out⟩
        · cases z
          · cases hxyz
          · go_wp2_with fail
            go_ret2
            exact ⟨rfl, e2.out⟩
      · go_wp2_with fail
        go_ret2
        exact ⟨rfl, e2.out⟩
    rw [if_neg hb] at hr
    obtain ⟨rfl, rfl, rfl⟩ : x = false ∧ y = true ∧ z = false := by
      rw [← X1.out, ← Y1.out, ← Z1.out]
      have h1 : g = 0 := by apply Classical.byContradiction; intro q; exact hb (.inl q)
      have h2 : own = name := by apply Classical.byContradiction; intro q; exact hb (.inr (.inl q))
      have h3 : no = n := by apply Classical.byContradiction; intro q; exact hb (.inr (.inr q))
      rw [h1, h2, h3]; simp
    clear hb
    by_cases h3 : s.phase = 3
    · rw [if_neg (by omega)] at hr
      have t3 : (s.phase != 3) = false := by simp [h3]
      obtain ⟨p1, p2, p3, p4⟩ := sone_phase M1.out h3
      have hw1 : IntKind.i64.wrap (s.size - s.left) = s.size - s.left := by rw [IntKind.wrap_i64]; omega
      obtain ⟨cg, Cg⟩ := au (cget rest)
      rw [Cg.out] at hr
      clear h3
      by_cases hc1 : c = 1
      · have hm2 : m = 1 := by omega
        have hr0 : rest = [] := List.length_eq_zero_iff.1 (by omega)
        have CB := Au.mk (cgetB_calls rest hmr Cg.out w2 (show Sl (Kd.slice Kd.byte) w2 (fun _ => False) (some ⟨bb, o, none⟩) 0 rest by rw [hr0]; exact ⟨Nat.le_refl _, by decide, [], fun W _ => ⟨Cells.nil _ _, rfl⟩⟩))
        clear hm2 hr0
        cases cg with
        | none =>
          simp only [Prod.mk.injEq] at hr
          obtain ⟨rfl, rfl⟩ := hr
          have CB2 : Calls Tryz.prog 50 #[.slice (some ⟨bb, o, none⟩) (m - 1) 0] w2 fun e w' => e = .returned (.tuple #[.agg #[.string ⟨#[]⟩, .string ⟨#[]⟩, .int .u8 0, .int .i64 0, .int .i64 0, .int .i64 0, .int .i64 0, .string ⟨#[]⟩], .int .i64 0, .int .i64 0, .int .i64 0, .bool false]) ∧ Below w2.heap.size w2 w' := CB.out
          go_wp2_with fail
          refine CB2.mono ?_
          rintro e w3 ⟨rfl, b3⟩
          have e3 := Au.mk (below_then e2.out b3 e2.out.size)
          clear f0 b3 CB CB2
          go_wp2_with fail
          go_ret2
          exact ⟨rfl, e3.out.alloc e3.out.size _⟩
        | some q =>
          obtain ⟨who, off, whole, used⟩ := q
          have hu := cget_used Cg.out
          dsimp only at hr
          have CB2 : Calls Tryz.prog 50 #[.slice (some ⟨bb, o, none⟩) (m - 1) 0] w2 fun e w' => e = .returned (.tuple #[.agg #[.string (ofL who.path), .string (ofL who.link), .int .u8 who.kind.toNat, .int .i64 who.mode, .int .i64 who.uid, .int .i64 who.gid, .int .i64 who.mtime, .string (ofL who.data)], .int .i64 off, .int .i64 whole, .int .i64 (used : Int), .bool true]) ∧ Below w2.heap.size w2 w' := CB.out
          go_wp2_with fail
          refine CB2.mono ?_
          rintro e w3 ⟨rfl, b3⟩
          have e3 := Au.mk ((below_then e2.out b3 e2.out.size).alloc (Nat.le_trans e2.out.size b3.size) (.cells who.cells.toArray 23))
          have J3 := Au.mk (blk_alloc (blk_below J2.out b3 (lt_of_block J2.out)) (.cells who.cells.toArray 23))
          have N3 := Au.mk (nd_box w3 who)
          obtain ⟨x0, x1', x2, x3, x4, x5, x6, x7⟩ := nd_cells who N3.out
          unfold Nd.cells at e3 J3 N3 x0 x1' x2 x3 x4 x5 x6 x7
          obtain ⟨f0, f1, f2, f3, f4, f5, f6, f7, f8, f9, f10, f11, f12, f13⟩ := st_cells s J3.out
          obtain ⟨q1, Q1⟩ := au (neq who s.node)
          obtain ⟨q2, Q2⟩ := au (off != s.size - s.left)
          obtain ⟨q3, Q3⟩ := au (whole != s.size)
          have hq : ∀ W : World, (binOp .neq 23 (.agg #[.string (ofL who.path), .string (ofL who.link), .int .u8 who.kind.toNat, .int .i64 who.mode, .int .i64 who.uid, .int .i64 who.gid, .int .i64 who.mtime, .string (ofL who.data)]) (.agg #[.string (ofL s.node.path), .string (ofL s.node.link), .int .u8 s.node.kind.toNat, .int .i64 s.node.mode, .int .i64 s.node.uid, .int .i64 s.node.gid, .int .i64 s.node.mtime, .string (ofL s.node.data)])).run Tryz.prog W = .ok (.bool (!q1)) W := fun W => by rw [← Q1.out]; exact neq_nd who s.node W
          have k2 := Q2.out
          have k3 := Q3.out
          have hw2 : IntKind.i64.wrap (1 + (used : Int)) = 1 + (used : Int) := by rw [IntKind.wrap_i64]; omega
          clear b3 CB CB2 e2 J2
          by_cases hbad : neq who s.node = false ∨ off ≠ s.size - s.left ∨ whole ≠ s.size
          · rw [if_pos hbad] at hr
            simp only [Prod.mk.injEq] at hr
            obtain ⟨rfl, rfl⟩ := hr
            have hb3 : (!q1 || (q2 || q3)) = true := by
              rw [← Q1.out, ← Q2.out, ← Q3.out]; rcases hbad with h | h | h <;> simp [h]
            clear hbad
            cases q1
            · go_wp2_with fail
              go_ret2
              exact ⟨rfl, e3.out⟩
            · cases q2
              · cases q3
                · cases hb3
                · go_wp2_with fail
                  go_ret2
                  exact ⟨rfl, e3.out⟩
              · go_wp2_with fail
                go_ret2
                exact ⟨rfl, e3.out⟩
          · rw [if_neg hbad] at hr
            simp only [Prod.mk.injEq] at hr
            obtain ⟨rfl, rfl⟩ := hr
            obtain ⟨rfl, rfl, rfl⟩ : q1 = true ∧ q2 = false ∧ q3 = false := by
              rw [← Q1.out, ← Q2.out, ← Q3.out]
              refine ⟨?_, ?_, ?_⟩
              · cases h : neq who s.node with
                | true => rfl
                | false => exact absurd (.inl h) hbad
              · apply Classical.byContradiction; intro h; exact hbad (.inr (.inl (by simpa using h)))
              · apply Classical.byContradiction; intro h; exact hbad (.inr (.inr (by simpa using h)))
            clear hbad
            go_wp2_with fail
            go_ret2
            exact ⟨rfl, e3.out⟩
      · have CB := Au.mk (cgetB_calls rest hmr Cg.out w2 S2.out)
        cases cg with
        | none =>
          simp only [Prod.mk.injEq] at hr
          obtain ⟨rfl, rfl⟩ := hr
          have CB2 : Calls Tryz.prog 50 #[.slice (some ⟨bb, o + 1, none⟩) (m - 1) (c - 1)] w2 fun e w' => e = .returned (.tuple #[.agg #[.string ⟨#[]⟩, .string ⟨#[]⟩, .int .u8 0, .int .i64 0, .int .i64 0, .int .i64 0, .int .i64 0, .string ⟨#[]⟩], .int .i64 0, .int .i64 0, .int .i64 0, .bool false]) ∧ Below w2.heap.size w2 w' := CB.out
          go_wp2_with fail
          refine CB2.mono ?_
          rintro e w3 ⟨rfl, b3⟩
          have e3 := Au.mk (below_then e2.out b3 e2.out.size)
          clear f0 b3 CB CB2
          go_wp2_with fail
          go_ret2
          exact ⟨rfl, e3.out.alloc e3.out.size _⟩
        | some q =>
          obtain ⟨who, off, whole, used⟩ := q
          have hu := cget_used Cg.out
          dsimp only at hr
          have CB2 : Calls Tryz.prog 50 #[.slice (some ⟨bb, o + 1, none⟩) (m - 1) (c - 1)] w2 fun e w' => e = .returned (.tuple #[.agg #[.string (ofL who.path), .string (ofL who.link), .int .u8 who.kind.toNat, .int .i64 who.mode, .int .i64 who.uid, .int .i64 who.gid, .int .i64 who.mtime, .string (ofL who.data)], .int .i64 off, .int .i64 whole, .int .i64 (used : Int), .bool true]) ∧ Below w2.heap.size w2 w' := CB.out
          go_wp2_with fail
          refine CB2.mono ?_
          rintro e w3 ⟨rfl, b3⟩
          have e3 := Au.mk ((below_then e2.out b3 e2.out.size).alloc (Nat.le_trans e2.out.size b3.size) (.cells who.cells.toArray 23))
          have J3 := Au.mk (blk_alloc (blk_below J2.out b3 (lt_of_block J2.out)) (.cells who.cells.toArray 23))
          have N3 := Au.mk (nd_box w3 who)
          obtain ⟨x0, x1', x2, x3, x4, x5, x6, x7⟩ := nd_cells who N3.out
          unfold Nd.cells at e3 J3 N3 x0 x1' x2 x3 x4 x5 x6 x7
          obtain ⟨f0, f1, f2, f3, f4, f5, f6, f7, f8, f9, f10, f11, f12, f13⟩ := st_cells s J3.out
          obtain ⟨q1, Q1⟩ := au (neq who s.node)
          obtain ⟨q2, Q2⟩ := au (off != s.size - s.left)
          obtain ⟨q3, Q3⟩ := au (whole != s.size)
          have hq : ∀ W : World, (binOp .neq 23 (.agg #[.string (ofL who.path), .string (ofL who.link), .int .u8 who.kind.toNat, .int .i64 who.mode, .int .i64 who.uid, .int .i64 who.gid, .int .i64 who.mtime, .string (ofL who.data)]) (.agg #[.string (ofL s.node.path), .string (ofL s.node.link), .int .u8 s.node.kind.toNat, .int .i64 s.node.mode, .int .i64 s.node.uid, .int .i64 s.node.gid, .int .i64 s.node.mtime, .string (ofL s.node.data)])).run Tryz.prog W = .ok (.bool (!q1)) W := fun W => by rw [← Q1.out]; exact neq_nd who s.node W
          have k2 := Q2.out
          have k3 := Q3.out
          have hw2 : IntKind.i64.wrap (1 + (used : Int)) = 1 + (used : Int) := by rw [IntKind.wrap_i64]; omega
          clear b3 CB CB2 e2 J2
          by_cases hbad : neq who s.node = false ∨ off ≠ s.size - s.left ∨ whole ≠ s.size
          · rw [if_pos hbad] at hr
            simp only [Prod.mk.injEq] at hr
            obtain ⟨rfl, rfl⟩ := hr
            have hb3 : (!q1 || (q2 || q3)) = true := by
              rw [← Q1.out, ← Q2.out, ← Q3.out]; rcases hbad with h | h | h <;> simp [h]
            clear hbad
            cases q1
            · go_wp2_with fail
              go_ret2
              exact ⟨rfl, e3.out⟩
            · cases q2
              · cases q3
                · cases hb3
                · go_wp2_with fail
                  go_ret2
                  exact ⟨rfl, e3.out⟩
              · go_wp2_with fail
                go_ret2
                exact ⟨rfl, e3.out⟩
          · rw [if_neg hbad] at hr
            simp only [Prod.mk.injEq] at hr
            obtain ⟨rfl, rfl⟩ := hr
            obtain ⟨rfl, rfl, rfl⟩ : q1 = true ∧ q2 = false ∧ q3 = false := by
              rw [← Q1.out, ← Q2.out, ← Q3.out]
              refine ⟨?_, ?_, ?_⟩
              · cases h : neq who s.node with
                | true => rfl
                | false => exact absurd (.inl h) hbad
              · apply Classical.byContradiction; intro h; exact hbad (.inr (.inl (by simpa using h)))
              · apply Classical.byContradiction; intro h; exact hbad (.inr (.inr (by simpa using h)))
            clear hbad
            go_wp2_with fail
            go_ret2
            exact ⟨rfl, e3.out⟩
    · rw [if_pos h3] at hr
      simp only [Prod.mk.injEq] at hr
      obtain ⟨rfl, rfl⟩ := hr
      have t3 : (s.phase != 3) = true := by simp [h3]
      clear h3
      go_wp2_with fail
      go_ret2
      exact ⟨rfl, e2.out⟩
end Go.Proofs.YtldhcknjpmbgnaaGreatDoor.Rk
