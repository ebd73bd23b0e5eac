/- VolumeMore -/
import Derived.Test.YtmjicapjkmkckaaGreatDoorLawD
namespace Go.Proofs.YtmjicapjkmkckaaGreatDoor.Rk
open Go.RowKit Go.Shelf
set_option linter.unusedVariables false
set_option linter.unusedSimpArgs false
set_option maxRecDepth 100000

/-- May, of a Set with other capacities. -/
theorem smay_caps_calls (s : St) (cs : List Int) {n : Nat} (hn : cs.length = n) {r : Bool} (h : smay { s with caps := cs } = r) {Ac : Option Addr} {cc : Nat} {G : Nat → Prop} (W : World) (hs : Sl Kd.int W G Ac cc cs) :
    Calls Tryz.prog 21 #[.agg #[.string (ofL s.label), .int .i64 s.b, .slice Ac n cc]] W fun e w' => e = .returned (.bool r) ∧ Below W.heap.size W w' := by
  subst hn
  exact smay_calls { s with caps := cs } h W hs
theorem Sl.take {α : Type} {d : Kd α} (h1 : d.sz = 1) {w : World} {F : Nat → Prop} {A : Option Addr} {c : Nat} {xs : List α} (h : Sl d w F A c xs) (e : Nat) : Sl d w F A c (xs.take e) := by
  obtain ⟨hl, hc, vs, hv⟩ := h
  refine ⟨by rw [List.length_take]; omega, hc, vs.take e, fun W hW => ⟨?_, ?_⟩⟩
  · intro hne
    have hvs : vs ≠ [] := by rintro rfl; simp at hne
    obtain ⟨b', o', e1, hcell⟩ := (hv W hW).1 hvs
    refine ⟨b', o', e1, fun j u hu => ?_⟩
    rw [List.getElem?_take] at hu
    split at hu
    · exact hcell _ _ hu
    · cases hu
  · have := ((hv W hW).2.take e)
    rwa [h1, Nat.mul_one] at this
set_option maxHeartbeats 2000000 in
theorem VolumeMore_walk (t : List Nd) (s : St) (hsb : R64 s.b) (more : List Int) {A Ac : Option Addr} {c cc : Nat} {F G M : Nat → Prop} {Am : Option Addr} {cm : Nat} (w : World) (ha : Sl Kd.nd w F A c t) (hs : Sl Kd.int w G Ac cc s.caps) (hm : Sl Kd.int w M Am cm more) (hT : Tab w) :
    Calls Tryz.prog 4 #[.slice A t.length c, s.agg Ac cc, .slice Am more.length cm] w fun e w' => e = .returned (.bool true) ∧ Below w.heap.size w w' := by
  have J0 : Au ((w.alloc (.cells (s.cells Ac cc).toArray 25)).heap[w.heap.size]? = some (.cells (s.cells Ac cc).toArray 25 (0, 0))) := ⟨heap_alloc_new _ _⟩
  have e0 := (Below.refl w.heap.size w).alloc (Nat.le_refl _) (.cells (s.cells Ac cc).toArray 25)
  have s0 := Au.mk (hs.old.alloc (.cells (s.cells Ac cc).toArray 25))
  have a0 := Au.mk (ha.old.alloc (.cells (s.cells Ac cc).toArray 25))
  have T0 := Au.mk (hT.below e0)
  have hcc := hs.le
  have htt := ha.le
  have f0 := blk_cell J0.out 0 rfl
  have f1 := blk_cell J0.out 1 rfl
  have f2 := blk_cell J0.out 2 rfl
  obtain ⟨one, Hone⟩ := au (fewT t)
  obtain ⟨two, Htwo⟩ := au (fewS s)
  have F16 := Au.mk (fun W : World => few16_calls s Htwo.out (A := Ac) (c := cc) W)
  have CS := Au.mk (fun (hS : AllS t) (l : List (List (List UInt8))) (en : Int) (h : vsplit t s = (l, en)) (W : World) (hT : Tab W) (h1 : Sl Kd.nd W (fun k => F k ∧ k < w.heap.size) A c t) (h2 : Sl Kd.int W (fun k => G k ∧ k < w.heap.size) Ac cc s.caps) => split_calls t hS s h W hT h1 h2)
  have CN := Au.mk (fun (hS : AllS t) (r : Int) (h : vneeds t s = r) (W : World) (hT : Tab W) (h1 : Sl Kd.nd W (fun k => F k ∧ k < w.heap.size) A c t) (h2 : Sl Kd.int W (fun k => G k ∧ k < w.heap.size) Ac cc s.caps) => needs_calls t hS s h W hT h1 h2)
  have CM := Au.mk (fun (r : Bool) (h : smay s = r) (W : World) (h2 : Sl Kd.int W (fun k => G k ∧ k < w.heap.size) Ac cc s.caps) => smay_calls s h W h2)
  unfold St.agg at F16 CS CN CM ⊢
  unfold St.cells at f0 f1 f2 e0 s0 J0 a0 T0
  have hmm := hm.le
  have Hm0 := Au.mk hm.old
  clear ha hs hT hm
  go_enter Tryz.func4, Tryz.ntmps4
  go_wp2_with fail
  refine (awake16_calls _ T0.out).mono ?_
  rintro e w1 ⟨rfl, b1⟩
  have e1 := below_then e0 b1 e0.size
  have J1 := Au.mk (blk_below J0.out b1 (lt_of_block J0.out))
  have T1 := Au.mk (T0.out.below b1)
  have a1 := Au.mk (a0.out.below b1)
  have s1 := Au.mk (s0.out.below b1)
  clear f0 f1 f2 b1
  have f0 := blk_cell J1.out 0 rfl
  have f1 := blk_cell J1.out 1 rfl
  have f2 := blk_cell J1.out 2 rfl
  go_wp2_with fail
  refine (few06_calls t Hone.out _ a1.out).mono ?_
  rintro e w2 ⟨rfl, b2⟩
  have e2 := below_then e1 b2 e1.size
  have J2 := Au.mk (blk_below J1.out b2 (lt_of_block J1.out))
  have T2 := Au.mk (T1.out.below b2)
  have a2 := Au.mk (a1.out.below b2)
  have s2 := Au.mk (s1.out.below b2)
  clear f0 f1 f2 b2
  have f0 := blk_cell J2.out 0 rfl
  have f1 := blk_cell J2.out 1 rfl
  have f2 := blk_cell J2.out 2 rfl
  go_wp2_with fail
  refine (F16.out _).mono ?_
  rintro e w3 ⟨rfl, b3⟩
  have e3 := below_then e2 b3 e2.size
  have J3 := Au.mk (blk_below J2.out b3 (lt_of_block J2.out))
  have T3 := Au.mk (T2.out.below b3)
  have a3 := Au.mk (a2.out.below b3)
  have s3 := Au.mk (s2.out.below b3)
  clear f0 f1 f2 b3
  have f0 := blk_cell J3.out 0 rfl
  have f1 := blk_cell J3.out 1 rfl
  have f2 := blk_cell J3.out 2 rfl
  cases one
  · go_wp2_with fail
    go_ret
    exact ⟨rfl, e3⟩
  cases two
  · go_wp2_with fail
    go_ret
    exact ⟨rfl, e3⟩
  have hS := (few_all Hone.out).1
  have ht30 := (few_all Hone.out).2
  have hm3 := Hm0.out.below (below_drewN (Below.refl _ _) 0)
  by_cases h20 : (20 : Int) < more.length
  · go_wp2_with fail
    go_ret
    exact ⟨rfl, e3⟩
  have hcl : s.caps.length ≤ 20 := by
    have := Htwo.out
    unfold fewS at this
    simp only [Bool.and_eq_true, decide_eq_true_eq] at this
    exact this.2
  have m3 := Au.mk (Hm0.out.keep (fun k hk hlt => e3.block k hk.2) e3.size)
  go_upto_region 7 with fail
  have hb6 : Below w3.heap.size w3 (w3.alloc (.cells #[.string (ofL s.label), .int .i64 s.b, .slice Ac s.caps.length cc] 25)) := (Below.refl _ _).alloc (Nat.le_refl _) _
  have X6 : Au ((w3.alloc (.cells #[.string (ofL s.label), .int .i64 s.b, .slice Ac s.caps.length cc] 25)).heap[w3.heap.size]? = some (.cells #[.string (ofL s.label), .int .i64 s.b, .slice Ac s.caps.length cc] 25 (0, 0))) := ⟨heap_alloc_new _ _⟩
  have z6 : (w3.alloc (.cells #[.string (ofL s.label), .int .i64 s.b, .slice Ac s.caps.length cc] 25)).heap.size = w3.heap.size + 1 := by simp
  generalize w3.alloc (.cells #[.string (ofL s.label), .int .i64 s.b, .slice Ac s.caps.length cc] 25) = W6 at hb6 X6 z6 ⊢
  have J6 := Au.mk (blk_below J3.out hb6 (lt_of_block J3.out))
  have s6 := Au.mk (s3.out.below hb6)
  have hzw := e3.size
  clear f0 f1 f2
  have f2 := blk_cell J6.out 2 rfl
  have H1 : Au (([] : List Int).length + s.caps.length ≤ maxLen ∧ (([] : List Int).length + s.caps.length) * 8 ≤ 140737488355328) := ⟨by simp only [maxLen, List.length_nil]; omega⟩
  have H2 : Au (s.caps.length + more.length ≤ maxLen ∧ (s.caps.length + more.length) * 8 ≤ 140737488355328) := ⟨by simp only [maxLen]; omega⟩
  have Hb6 := Au.mk hb6
  clear hm3
  go_upto_region 8 with (first | (at_builtin; refine wpList_append_rowD (d := Kd.int) (G := fun k => k < w.heap.size) (F2 := fun k => G k ∧ k < w.heap.size) (base := W6.heap.size) (xs := []) (ys := s.caps) _ rfl etInts _ _ rfl rfl (RowD.nil _ _ _ _) rfl rfl s6.out.els (fun k hk => .inl hk.2) (fun g hg => by have hg : (none : Option Nat) = some g := hg; cases hg) H1.out.1 H1.out.2 (Nat.le_refl _) ?_; intro v7 w7 hr7 hg7 ho7; have X7 := Au.mk ((RowD.nil Kd.int W6 (fun k => k < w.heap.size) W6.heap.size).kept W6 hg7 X6.out (by omega)); have b7 := Au.mk (Hb6.out.grown hg7 Hb6.out.size (fun g hg => by have hg : (none : Option Nat) = some g := hg; cases hg)); rw [List.nil_append] at hr7; obtain ⟨A7, c7, rfl⟩ := hr7.form; have R7 := Au.mk hr7; have z7 := hg7.size; clear hr7 hg7 ho7; have m7 := Au.mk (m3.out.below b7.out)) | (at_builtin; refine wpList_append_rowD (d := Kd.int) (G := fun k => k < w.heap.size) (F2 := fun k => M k ∧ k < w.heap.size) (base := W6.heap.size) (xs := s.caps) (ys := more) _ rfl etInts _ _ rfl rfl R7.out rfl rfl m7.out.els (fun k hk => .inl hk.2) (fun g hg hk => by have := R7.out.low _ g hg; omega) H2.out.1 H2.out.2 z7 ?_; intro v9 w9 hr9 hg9 ho9; have X9 := Au.mk (R7.out.kept _ hg9 X7.out (by omega)); have b9 := Au.mk (b7.out.grown hg9 (by omega) (fun g hg => by have := R7.out.low _ g hg; omega)); obtain ⟨A9, cc9, rfl, hs9⟩ := hr9.sl; obtain ⟨cn, Hcn⟩ := au (s.caps ++ more).length; rw [Hcn.out]; have S9 := Au.mk hs9; have z9 := hg9.size; have c9 := blk_cell X9.out 2 rfl; have u9 := blk_free X9.out 2; clear hr9 hg9 ho9 hs9))
  have b10 := b9.out.setCell (p := ⟨w3.heap.size, 2, none⟩) (Nat.le_refl _) (.slice A9 cn cc9)
  have X10 := Au.mk (blk_set X9.out 2 (.slice A9 cn cc9))
  have S10 := Au.mk (S9.out.set (p := ⟨w3.heap.size, 2, none⟩) (.slice A9 cn cc9) (fun h => by rcases h with h | h <;> simp at h <;> omega))
  generalize w9.setCell ⟨w3.heap.size, 2, none⟩ (.slice A9 cn cc9) = W10 at b10 X10 S10 ⊢
  have J10 := Au.mk (blk_below J3.out b10 (lt_of_block J3.out))
  have T10 := Au.mk (T3.out.below b10)
  have a10 := Au.mk (a3.out.below b10)
  have e10 := below_then e3 b10 e3.size
  have s10 := Au.mk (s3.out.below b10)
  obtain ⟨mx, Hmx⟩ := au (smay { s with caps := s.caps ++ more })
  obtain ⟨⟨l, en⟩, Hl⟩ := au (vsplit t s)
  obtain ⟨⟨m, fn⟩, Hm⟩ := au (vsplit t { s with caps := s.caps ++ more })
  obtain ⟨ll, Hll⟩ := au l.length
  obtain ⟨ml, Hml⟩ := au m.length
  have HC := Au.mk (fun W (hT : Tab W) (h1 : Sl Kd.nd W (fun k => F k ∧ k < w.heap.size) A c t) (h2 : Sl Kd.int W (fun k => k < w.heap.size ∨ W6.heap.size ≤ k) A9 cc9 (s.caps ++ more)) => split_caps t hS s (s.caps ++ more) Hcn.out Hm.out W hT h1 h2)
  have HM := Au.mk (smay_caps_calls s (s.caps ++ more) Hcn.out Hmx.out W10 S10.out)
  rw [Hml.out] at HC
  simp only [List.set_cons_succ, List.set_cons_zero] at X10
  clear f2 c9 u9 b7 b9 X6 X7 X9 S9 R7 H1 H2 hb6 Hb6
  have f3 := blk_cell X10.out 0 rfl
  have f4 := blk_cell X10.out 1 rfl
  have f5 := blk_cell X10.out 2 rfl
  have hx10 := lt_of_block X10.out
  go_wp2_with fail
  refine HM.out.mono ?_
  rintro e w11 ⟨rfl, b11⟩
  have J11 := Au.mk (blk_below J10.out b11 (lt_of_block J10.out))
  have X11 := Au.mk (blk_below X10.out b11 (lt_of_block X10.out))
  have T11 := Au.mk (T10.out.below b11)
  have a11 := Au.mk (a10.out.below b11)
  have s11 := Au.mk (s10.out.below b11)
  have S11 := Au.mk (S10.out.below b11)
  have e11 := below_then e10 b11 e10.size
  clear f3 f4 f5 b10 b11
  cases mx
  · go_wp2_with fail
    go_ret
    exact ⟨rfl, e11⟩
  have f0 := blk_cell J11.out 0 rfl
  have f1 := blk_cell J11.out 1 rfl
  have f2 := blk_cell J11.out 2 rfl
  go_wp2_with fail
  refine (CS.out hS l en Hl.out _ T11.out a11.out s11.out).mono ?_
  rintro e w12 ⟨A12, c12, rfl, v12, b12⟩
  rw [Hll.out]
  have V12 := Au.mk v12
  have X12 := Au.mk (blk_below X11.out b12 (lt_of_block X11.out))
  have T12 := Au.mk (T11.out.below b12)
  have a12 := Au.mk (a11.out.below b12)
  have S12 := Au.mk (S11.out.below b12)
  have e12 := below_then e11 b12 e11.size
  clear f0 f1 f2 b12 v12
  have f3 := blk_cell X12.out 0 rfl
  have f4 := blk_cell X12.out 1 rfl
  have f5 := blk_cell X12.out 2 rfl
  go_wp2_with fail
  refine (HC.out _ T12.out a12.out S12.out).mono ?_
  rintro e w13 ⟨A13, c13, rfl, v13, b13⟩
  have hle13 := v13.1
  rw [Hml.out] at hle13
  have V13 := Au.mk (V12.out.below b13)
  have M13 := Au.mk v13
  have e13 := below_then e12 b13 e12.size
  clear f3 f4 f5 v13 b13
  obtain ⟨k1, k2, k3, k4⟩ := more_ok Hmx.out Hl.out Hm.out
  rw [Hll.out, Hml.out] at k1 k2
  rw [Hll.out] at k4
  have hcl13 := M13.out.2.1
  have q1 : ¬ ((ml : Int) < ll) := by omega
  have q2 : (ll : Int) ≤ c13 := by omega
  have HV := Au.mk (vsame_calls l (m.take ll) Hll.out (k' := ll) (by rw [k4]; exact Hll.out) (r := true) (by rw [k4]; simp) w13 V13.out (Sl.take rfl M13.out ll))
  have cs : en = 0 ∨ en = 14 ∨ (en ≠ 0 ∧ en ≠ 14) := by omega
  clear k4
  rcases cs with rfl | rfl | ⟨n0, n14⟩
  · obtain rfl : fn = 0 := k3 (by decide)
    obtain rfl : ml = ll := k2 rfl
    clear k1 k2 k3
    go_wp2_with fail
    refine HV.out.mono ?_
    rintro e w14 ⟨rfl, ⟨nd, rfl⟩⟩
    go_wp2_with fail
    go_ret
    exact ⟨rfl, below_drewN e13 nd⟩
  · clear k1 k2 k3
    go_wp2_with fail
    refine HV.out.mono ?_
    rintro e w14 ⟨rfl, ⟨nd, rfl⟩⟩
    go_wp2_with fail
    go_ret
    exact ⟨rfl, below_drewN e13 nd⟩
  · obtain rfl : fn = en := k3 n14
    have n0' : (fn == 0) = false := by simpa using n0
    have n14' : (fn != 14) = true := by simpa using n14
    clear k1 k2 k3
    go_wp2_with fail
    refine HV.out.mono ?_
    rintro e w14 ⟨rfl, ⟨nd, rfl⟩⟩
    go_wp2_with fail
    go_ret
    exact ⟨rfl, below_drewN e13 nd⟩
end Go.Proofs.YtmjicapjkmkckaaGreatDoor.Rk
