/- Parse: a header, walked. -/
import Derived.Test.YtldhcknjpmbgnaaGreatDoorPpG
namespace Go.Proofs.YtldhcknjpmbgnaaGreatDoor.Rk
open Go.RowKit Go.Shelf
set_option linter.unusedVariables false
set_option linter.unusedSimpArgs false
set_option maxRecDepth 100000

theorem PRes.before {P : Nat} {told : List Ev} {W W1 : World} {r : Except Int (Ps × List Ev)} {e : Ending} {W' : World} (hb : Below P W W1) (h : PRes P told W1 r e W') : PRes P told W r e W' := by
  unfold PRes at *
  split at h
  · exact ⟨h.1, h.2.1, hb.trans h.2.2⟩
  · exact ⟨h.1, hb.trans h.2⟩
attribute [local irreducible] wpStill in
set_option maxHeartbeats 4000000 in
theorem phead_calls (s : Ps) (h1 : s.name.length ≤ 1000) (h2 : s.link.length ≤ 1000) (told : List Ev) (hlen : told.length ≤ 10000) (b : List UInt8) {n : Nat} (hb5 : b.length = n) {A : Option Addr} {c : Nat} {F : Nat → Prop} {P : Nat} (W : World) (hp : PsAt W P s told) (hb : Sl Kd.byte W F A c b) :
    Calls Tryz.prog 89 #[.pointer (some ⟨P, 0, none⟩), .slice A n c] W (PRes P told W (phead s b)) := by
  obtain ⟨h, Hh⟩ := au (hget b).1
  obtain ⟨er, Her⟩ := au (hget b).2
  have CG := Au.mk (hget_of hb5 Hh.out Her.out W hb)
  have HS : Au h.S := ⟨by rw [← Hh.out]; exact hget_S b⟩
  have HR : Au h.R := ⟨by rw [← Hh.out]; exact hget_R b⟩
  have hE : phead s b = if er = 4 then (do must (s.name == [] && s.link == []) 2; return ({ s with phase := 4 }, [])) else (do must (er == 0) er; if h.ty = 76 then ptext s h s.name 1 else if h.ty = 75 then ptext s h s.link 2 else if h.ty = 77 ∨ h.ty = 86 then .error 5 else pnode s h) := by
    unfold phead
    rw [Hh.out, Her.out]
  have HE := Au.mk hE
  have H := Au.mk hp
  have hmx : Tryz.prog.follows .mixedOrders = true := by kernel_rfl
  clear hp hb hE Hh Her hb5
  unfold Hd.agg at CG
  go_enter Tryz.func89, Tryz.ntmps89
  go_wp2_with fail
  refine CG.out.mono ?_
  rintro e w1 ⟨rfl, b1⟩
  have z1 := b1.size
  have X0 := Au.mk (heap_alloc_new w1 (.cells h.cells.toArray 104))
  have hb0 : Below w1.heap.size w1 (w1.alloc (.cells h.cells.toArray 104)) := (Below.refl _ _).alloc (Nat.le_refl _) _
  have H0 := Au.mk ((H.out.below b1).below hb0)
  have hP := H.out.lt
  have B0 := Au.mk ((b1.mono (by omega : P ≤ W.heap.size)).trans (hb0.mono (by omega : P ≤ w1.heap.size)))
  unfold Hd.cells at X0 H0 B0
  clear b1 hb0 CG
  go_upto_region 1 with fail
  generalize w1.alloc (.cells #[.string (ofL h.name), .string (ofL h.pre), .string (ofL h.link), .int .i64 h.mode, .int .i64 h.uid, .int .i64 h.gid, .int .i64 h.size, .int .i64 h.mtime, .int .u8 h.ty.toNat, .int .i64 h.off, .int .i64 h.real] 104) = W1 at X0 H0 B0 ⊢
  obtain ⟨n1, Hn⟩ := au w1.heap.size
  rw [Hn.out] at X0 ⊢
  obtain ⟨v, k1, -⟩ := H0.out
  obtain ⟨f0, f1, f2, f3, f4, f5, f6, f7, f8, f9, f10, f11, f12, f13, f14⟩ := ps_all k1
  have g0 := blk_free k1 0
  obtain ⟨x0, x1, x2, x3, x4, x5, x6, x7, x8, x9, x10⟩ := hd_cells h (W := W1) (g := n1) X0.out
  clear k1 X0 Hn z1
  obtain ⟨nb, Hnb⟩ := au (s.name == [])
  obtain ⟨lb, Hlb⟩ := au (s.link == [])
  have n1' := nd_empty Hnb.out
  have n2' := nd_empty Hlb.out
  by_cases e4 : er = 4
  · subst e4
    rw [if_pos rfl, Hnb.out, Hlb.out] at HE
    cases nb
    · have Hr := Au.mk (show phead s b = .error 2 from HE.out)
      go_wp2_with fail
      refine (must_no 2 _).mono ?_
      rintro e w2 ⟨rfl, rfl⟩
      go_wp2_with fail
      exact ⟨rfl, PRes.err Hr.out B0.out⟩
    cases lb
    · have Hr := Au.mk (show phead s b = .error 2 from HE.out)
      go_wp2_with fail
      refine (must_no 2 _).mono ?_
      rintro e w2 ⟨rfl, rfl⟩
      go_wp2_with fail
      exact ⟨rfl, PRes.err Hr.out B0.out⟩
    have Hr := Au.mk (show phead s b = .ok ({ s with phase := 4 }, []) from HE.out)
    go_wp2_with fail
    refine (must_yes 2 _).mono ?_
    rintro e w2 ⟨rfl, rfl⟩
    go_wp2_with fail
    go_end0
    exact PRes.ok Hr.out (by rw [List.append_nil]; exact H0.out.set 0 _ { s with phase := 4 } (fun v => rfl)) (B0.out.setCell (p := ⟨P, 0, none⟩) (Nat.le_refl _) _)
  rw [if_neg e4] at HE
  have t4 : (er == 4) = false := beq_eq_false_iff_ne.2 e4
  clear Hnb Hlb n1' n2'
  clear e4
  by_cases e0 : er = 0
  · subst e0
    have hE2 : phead s b = if h.ty = 76 then ptext s h s.name 1 else if h.ty = 75 then ptext s h s.link 2 else if h.ty = 77 ∨ h.ty = 86 then .error 5 else pnode s h := by rw [HE.out]; rfl
    have HE2 := Au.mk hE2
    clear hE2 HE
    have q76 := u8_eq h.ty 76 (by decide)
    have q75 := u8_eq h.ty 75 (by decide)
    have q77 := u8_eq h.ty 77 (by decide)
    have q86 := u8_eq h.ty 86 (by decide)
    by_cases e76 : h.ty = 76
    · have k76 : ((h.ty.toNat : Int) == 76) = true := by rw [show ((76 : Int) = ((76 : Nat) : Int)) from rfl, q76]; rw [e76]; rfl
      have Hr := Au.mk (show phead s b = ptext s h s.name 1 by rw [HE2.out, if_pos e76])
      have CT := Au.mk (ptext_calls s h s.name 1 told W1.drew (H0.out.below (below_drewN (Below.refl _ _) 1)))
      have B1 := Au.mk (below_drewN B0.out 1)
      unfold Hd.agg at CT
      clear e76 q76 q75 q77 q86 HE2
      go_upto_region 5 with fail
      refine (must_yes 0 _).mono ?_
      rintro e w2 ⟨rfl, rfl⟩
      go_upto_region 8 with fail
      refine wp_region_still_tail 7 hmx (by kernel_rfl) ?_
      simp only [List.take_succ_cons, List.take_zero, List.drop_succ_cons, List.drop_zero]
      change wpStill _ _ W1.drew _ _ _
      iterate 7 still_step
      refine wpStill_nil ?_
      change wpList _ _ _ _ _ _
      go_wp2_with fail
      refine CT.out.mono ?_
      rintro e w3 hr
      generalize hq : ptext s h s.name 1 = r at Hr hr
      clear hq
      cases r with
      | ok x =>
        obtain ⟨t, l⟩ := x
        obtain ⟨rfl, h3, b3⟩ := hr
        have h3 := Au.mk h3
        have b3 := Au.mk b3
        go_wp2_with fail
        go_end0
        exact PRes.ok Hr.out h3.out (B1.out.trans b3.out)
      | error c =>
        obtain ⟨rfl, b3⟩ := hr
        have b3 := Au.mk b3
        go_wp2_with fail
        exact ⟨rfl, PRes.err Hr.out (B1.out.trans b3.out)⟩
    have k76 : ((h.ty.toNat : Int) == 76) = false := by rw [show ((76 : Int) = ((76 : Nat) : Int)) from rfl, q76]; exact beq_eq_false_iff_ne.2 e76
    by_cases e75 : h.ty = 75
    · have k75 : ((h.ty.toNat : Int) == 75) = true := by rw [show ((75 : Int) = ((75 : Nat) : Int)) from rfl, q75]; rw [e75]; rfl
      have Hr := Au.mk (show phead s b = ptext s h s.link 2 by rw [HE2.out, if_neg e76, if_pos e75])
      have CT := Au.mk (ptext_calls s h s.link 2 told W1.drew (H0.out.below (below_drewN (Below.refl _ _) 1)))
      have B1 := Au.mk (below_drewN B0.out 1)
      unfold Hd.agg at CT
      clear e75 e76 q76 q75 q77 q86 HE2
      go_upto_region 5 with fail
      refine (must_yes 0 _).mono ?_
      rintro e w2 ⟨rfl, rfl⟩
      go_upto_region 10 with fail
      refine wp_region_still_tail 7 hmx (by kernel_rfl) ?_
      simp only [List.take_succ_cons, List.take_zero, List.drop_succ_cons, List.drop_zero]
      change wpStill _ _ W1.drew _ _ _
      iterate 7 still_step
      refine wpStill_nil ?_
      change wpList _ _ _ _ _ _
      go_wp2_with fail
      refine CT.out.mono ?_
      rintro e w3 hr
      generalize hq : ptext s h s.link 2 = r at Hr hr
      clear hq
      cases r with
      | ok x =>
        obtain ⟨t, l⟩ := x
        obtain ⟨rfl, h3, b3⟩ := hr
        have h3 := Au.mk h3
        have b3 := Au.mk b3
        go_wp2_with fail
        go_end0
        exact PRes.ok Hr.out h3.out (B1.out.trans b3.out)
      | error c =>
        obtain ⟨rfl, b3⟩ := hr
        have b3 := Au.mk b3
        go_wp2_with fail
        exact ⟨rfl, PRes.err Hr.out (B1.out.trans b3.out)⟩
    have k75 : ((h.ty.toNat : Int) == 75) = false := by rw [show ((75 : Int) = ((75 : Nat) : Int)) from rfl, q75]; exact beq_eq_false_iff_ne.2 e75
    by_cases e77 : h.ty = 77
    · have k77 : ((h.ty.toNat : Int) == 77) = true := by rw [show ((77 : Int) = ((77 : Nat) : Int)) from rfl, q77]; rw [e77]; rfl
      have Hr := Au.mk (show phead s b = .error 5 by rw [HE2.out, if_neg e76, if_neg e75, if_pos (Or.inl e77)])
      clear e75 e76 e77 q76 q75 q77 q86 HE2
      go_wp2_with fail
      refine (must_yes 0 _).mono ?_
      rintro e w2 ⟨rfl, rfl⟩
      go_wp2_with fail
      refine (must_no 5 _).mono ?_
      rintro e w2 ⟨rfl, rfl⟩
      go_wp2_with fail
      exact ⟨rfl, PRes.err Hr.out B0.out⟩
    have k77 : ((h.ty.toNat : Int) == 77) = false := by rw [show ((77 : Int) = ((77 : Nat) : Int)) from rfl, q77]; exact beq_eq_false_iff_ne.2 e77
    by_cases e86 : h.ty = 86
    · have k86 : ((h.ty.toNat : Int) == 86) = true := by rw [show ((86 : Int) = ((86 : Nat) : Int)) from rfl, q86]; rw [e86]; rfl
      have Hr := Au.mk (show phead s b = .error 5 by rw [HE2.out, if_neg e76, if_neg e75, if_pos (Or.inr e86)])
      clear e75 e76 e77 e86 q76 q75 q77 q86 HE2
      go_wp2_with fail
      refine (must_yes 0 _).mono ?_
      rintro e w2 ⟨rfl, rfl⟩
      go_wp2_with fail
      refine (must_no 5 _).mono ?_
      rintro e w2 ⟨rfl, rfl⟩
      go_wp2_with fail
      exact ⟨rfl, PRes.err Hr.out B0.out⟩
    have k86 : ((h.ty.toNat : Int) == 86) = false := by rw [show ((86 : Int) = ((86 : Nat) : Int)) from rfl, q86]; exact beq_eq_false_iff_ne.2 e86
    have Hr := Au.mk (show phead s b = pnode s h by rw [HE2.out, if_neg e76, if_neg e75, if_neg (fun e => e.elim e77 e86)])
    have CT := Au.mk (pnode_calls s h HS.out HR.out h1 h2 told hlen W1 H0.out)
    have B1 := B0
    unfold Hd.agg at CT
    clear e75 e76 e77 e86 q76 q75 q77 q86 HE2
    go_wp2_with fail
    refine (must_yes 0 _).mono ?_
    rintro e w2 ⟨rfl, rfl⟩
    go_wp2_with fail
    refine CT.out.mono ?_
    rintro e w3 hr
    generalize hq : pnode s h = r at Hr hr
    clear hq
    cases r with
    | ok x =>
      obtain ⟨t, l⟩ := x
      obtain ⟨rfl, h3, b3⟩ := hr
      have h3 := Au.mk h3
      have b3 := Au.mk b3
      go_wp2_with fail
      go_end0
      exact PRes.ok Hr.out h3.out (B1.out.trans b3.out)
    | error c =>
      obtain ⟨rfl, b3⟩ := hr
      have b3 := Au.mk b3
      go_wp2_with fail
      exact ⟨rfl, PRes.err Hr.out (B1.out.trans b3.out)⟩
  · have t0 : (er == 0) = false := beq_eq_false_iff_ne.2 e0
    have Hr := Au.mk (show phead s b = .error er by rw [HE.out, t0]; rfl)
    clear e0 HE
    go_wp2_with fail
    refine (must_no er _).mono ?_
    rintro e w2 ⟨rfl, rfl⟩
    go_wp2_with fail
    exact ⟨rfl, PRes.err Hr.out B0.out⟩
end Go.Proofs.YtldhcknjpmbgnaaGreatDoor.Rk
