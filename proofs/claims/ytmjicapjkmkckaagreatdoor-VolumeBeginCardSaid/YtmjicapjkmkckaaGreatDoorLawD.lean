/- VolumeSmall -/
import Derived.Test.YtmjicapjkmkckaaGreatDoorLawP
namespace Go.Proofs.YtmjicapjkmkckaaGreatDoor.Rk
open Go.RowKit Go.Shelf
set_option linter.unusedVariables false
set_option linter.unusedSimpArgs false
set_option maxRecDepth 100000

/-- Split, of a Set with other capacities. -/
theorem split_caps (t : List Nd) (hS : AllS t) (s : St) (cs : List Int) {n : Nat} (hn : cs.length = n) {l : List (List (List UInt8))} {en : Int} (h : vsplit t { s with caps := cs } = (l, en)) {A Ac : Option Addr} {c cc : Nat} {F G : Nat → Prop} (W : World) (hT : Tab W) (ha : Sl Kd.nd W F A c t) (hs : Sl Kd.int W G Ac cc cs) :
    Calls Tryz.prog 14 #[.slice A t.length c, .agg #[.string (ofL s.label), .int .i64 s.b, .slice Ac n cc]] W fun e w' => ∃ A' c', e = .returned (.tuple #[.slice A' l.length c', .int .i64 en]) ∧ Sl KBk3 w' (fun j => W.heap.size ≤ j) A' c' l ∧ Below W.heap.size W w' := by
  subst hn
  exact split_calls t hS { s with caps := cs } h W hT ha hs
theorem els_int {w : World} {A : Option Addr} {x : Int} (h : Cells w A [.int .i64 x]) (hx : R64 x) : Els Kd.int w (fun _ => False) A [x] := ⟨_, h, fun W _ => Reps.single ⟨rfl, hx⟩⟩
theorem r64_0 : R64 0 := ⟨by decide, by decide⟩
set_option maxHeartbeats 2000000 in
theorem VolumeSmall_walk (t : List Nd) (s : St) (hsb : R64 s.b) {A Ac : Option Addr} {c cc : Nat} {F G : Nat → Prop} (w : World) (ha : Sl Kd.nd w F A c t) (hs : Sl Kd.int w G Ac cc s.caps) (hT : Tab w) :
    Calls Tryz.prog 6 #[.slice A t.length c, s.agg Ac cc] w fun e w' => e = .returned (.bool true) ∧ Below w.heap.size w w' := by
  have J0 : Au ((w.alloc (.cells (s.cells Ac cc).toArray 25)).heap[w.heap.size]? = some (.cells (s.cells Ac cc).toArray 25 (0, 0))) := ⟨heap_alloc_new _ _⟩
  have e0 := (Below.refl w.heap.size w).alloc (Nat.le_refl _) (.cells (s.cells Ac cc).toArray 25)
  have s0 := Au.mk (hs.old.alloc (.cells (s.cells Ac cc).toArray 25))
  have a0 := Au.mk (ha.old.alloc (.cells (s.cells Ac cc).toArray 25))
  have T0 := Au.mk (hT.below e0)
  have hcc := hs.le
  have htt := ha.le
  have f0 := blk_cell J0.out 0 rfl
  have f1 := blk_cell J0.out 1 rfl
  have f2 := blk_cell J0.out 2 rfl
  obtain ⟨one, Hone⟩ := au (fewT t)
  obtain ⟨two, Htwo⟩ := au (fewS s)
  have F16 := Au.mk (fun W : World => few16_calls s Htwo.out (A := Ac) (c := cc) W)
  have CS := Au.mk (fun (hS : AllS t) (l : List (List (List UInt8))) (en : Int) (h : vsplit t s = (l, en)) (W : World) (hT : Tab W) (h1 : Sl Kd.nd W (fun k => F k ∧ k < w.heap.size) A c t) (h2 : Sl Kd.int W (fun k => G k ∧ k < w.heap.size) Ac cc s.caps) => split_calls t hS s h W hT h1 h2)
  have CN := Au.mk (fun (hS : AllS t) (r : Int) (h : vneeds t s = r) (W : World) (hT : Tab W) (h1 : Sl Kd.nd W (fun k => F k ∧ k < w.heap.size) A c t) (h2 : Sl Kd.int W (fun k => G k ∧ k < w.heap.size) Ac cc s.caps) => needs_calls t hS s h W hT h1 h2)
  have CM := Au.mk (fun (r : Bool) (h : smay s = r) (W : World) (h2 : Sl Kd.int W (fun k => G k ∧ k < w.heap.size) Ac cc s.caps) => smay_calls s h W h2)
  unfold St.agg at F16 CS CN CM ⊢
  unfold St.cells at f0 f1 f2 e0 s0 J0 a0 T0
  clear ha hs hT
  go_enter Tryz.func6, Tryz.ntmps6
  go_wp2_with fail
  refine (awake16_calls _ T0.out).mono ?_
  rintro e w1 ⟨rfl, b1⟩
  have e1 := below_then e0 b1 e0.size
  have J1 := Au.mk (blk_below J0.out b1 (lt_of_block J0.out))
  have T1 := Au.mk (T0.out.below b1)
  have a1 := Au.mk (a0.out.below b1)
  have s1 := Au.mk (s0.out.below b1)
  clear f0 f1 f2 b1
  have f0 := blk_cell J1.out 0 rfl
  have f1 := blk_cell J1.out 1 rfl
  have f2 := blk_cell J1.out 2 rfl
  go_wp2_with fail
  refine (few06_calls t Hone.out _ a1.out).mono ?_
  rintro e w2 ⟨rfl, b2⟩
  have e2 := below_then e1 b2 e1.size
  have J2 := Au.mk (blk_below J1.out b2 (lt_of_block J1.out))
  have T2 := Au.mk (T1.out.below b2)
  have a2 := Au.mk (a1.out.below b2)
  have s2 := Au.mk (s1.out.below b2)
  clear f0 f1 f2 b2
  have f0 := blk_cell J2.out 0 rfl
  have f1 := blk_cell J2.out 1 rfl
  have f2 := blk_cell J2.out 2 rfl
  go_wp2_with fail
  refine (F16.out _).mono ?_
  rintro e w3 ⟨rfl, b3⟩
  have e3 := below_then e2 b3 e2.size
  have J3 := Au.mk (blk_below J2.out b3 (lt_of_block J2.out))
  have T3 := Au.mk (T2.out.below b3)
  have a3 := Au.mk (a2.out.below b3)
  have s3 := Au.mk (s2.out.below b3)
  clear f0 f1 f2 b3
  have f0 := blk_cell J3.out 0 rfl
  have f1 := blk_cell J3.out 1 rfl
  have f2 := blk_cell J3.out 2 rfl
  cases one
  · go_wp2_with fail
    go_ret
    exact ⟨rfl, e3⟩
  cases two
  · go_wp2_with fail
    go_ret
    exact ⟨rfl, e3⟩
  have hS := (few_all Hone.out).1
  have ht30 := (few_all Hone.out).2
  obtain ⟨ms, Hms⟩ := au (smay s)
  go_wp2_with fail
  refine (CM.out ms Hms.out _ s3.out).mono ?_
  rintro e w4 ⟨rfl, b4⟩
  have e4 := below_then e3 b4 e3.size
  have J4 := Au.mk (blk_below J3.out b4 (lt_of_block J3.out))
  have T4 := Au.mk (T3.out.below b4)
  have a4 := Au.mk (a3.out.below b4)
  have s4 := Au.mk (s3.out.below b4)
  clear f0 f1 f2 b4
  have f0 := blk_cell J4.out 0 rfl
  have f1 := blk_cell J4.out 1 rfl
  have f2 := blk_cell J4.out 2 rfl
  cases ms
  · go_wp2_with fail
    go_ret
    exact ⟨rfl, e4⟩
  by_cases h11 : (11 : Int) < s.caps.length
  · go_wp2_with fail
    go_ret
    exact ⟨rfl, e4⟩
  obtain ⟨⟨l, en⟩, Hl⟩ := au (vsplit t s)
  obtain ⟨ll, Hll⟩ := au l.length
  obtain ⟨q1, q2⟩ := small_ok Hms.out (by omega) Hl.out
  rw [Hll.out] at q1
  have Q2 := Au.mk q2
  clear q2
  go_wp2_with fail
  refine (CS.out hS l en Hl.out _ T4.out a4.out s4.out).mono ?_
  rintro e w5 ⟨A5, c5, rfl, v5, b5⟩
  rw [Hll.out]
  have V5 := Au.mk v5
  have e5 := below_then e4 b5 e4.size
  have J5 := Au.mk (blk_below J4.out b5 (lt_of_block J4.out))
  have T5 := Au.mk (T4.out.below b5)
  have a5 := Au.mk (a4.out.below b5)
  have s5 := Au.mk (s4.out.below b5)
  clear f0 f1 f2 b5
  have f0 := blk_cell J5.out 0 rfl
  have f1 := blk_cell J5.out 1 rfl
  have f2 := blk_cell J5.out 2 rfl
  clear v5
  obtain ⟨d, Hd⟩ := au (en != 14)
  have hd := Hd.out
  cases d
  · have hen : en = 14 := by simpa using hd
    subst hen
    obtain ⟨Q3, Q4⟩ := Q2.out rfl
    go_upto_region 10 with fail
    have hb6 : Below w5.heap.size w5 (w5.alloc (.cells #[.string (ofL s.label), .int .i64 s.b, .slice Ac s.caps.length cc] 25)) := (Below.refl _ _).alloc (Nat.le_refl _) _
    have X6 : Au ((w5.alloc (.cells #[.string (ofL s.label), .int .i64 s.b, .slice Ac s.caps.length cc] 25)).heap[w5.heap.size]? = some (.cells #[.string (ofL s.label), .int .i64 s.b, .slice Ac s.caps.length cc] 25 (0, 0))) := ⟨heap_alloc_new _ _⟩
    have z6 : (w5.alloc (.cells #[.string (ofL s.label), .int .i64 s.b, .slice Ac s.caps.length cc] 25)).heap.size = w5.heap.size + 1 := by simp
    generalize w5.alloc (.cells #[.string (ofL s.label), .int .i64 s.b, .slice Ac s.caps.length cc] 25) = W6 at hb6 X6 z6 ⊢
    have J6 := Au.mk (blk_below J5.out hb6 (lt_of_block J5.out))
    have s6 := Au.mk (s5.out.below hb6)
    have hzw := e5.size
    clear f0 f1 f2
    have f2 := blk_cell J6.out 2 rfl
    have H1 : Au (([] : List Int).length + s.caps.length ≤ maxLen ∧ (([] : List Int).length + s.caps.length) * 8 ≤ 140737488355328) := ⟨by simp only [maxLen, List.length_nil]; omega⟩
    have Hb6 := Au.mk hb6
    have H2 : Au (s.caps.length + ([0] : List Int).length ≤ maxLen ∧ (s.caps.length + ([0] : List Int).length) * 8 ≤ 140737488355328) := ⟨by simp only [maxLen, List.length_cons, List.length_nil]; omega⟩
    go_upto_region 11 with (first | (at_builtin; refine wpList_append_rowD (d := Kd.int) (G := fun k => G k ∧ k < w.heap.size) (F2 := fun k => G k ∧ k < w.heap.size) (base := W6.heap.size) (xs := []) (ys := s.caps) _ rfl etInts _ _ rfl rfl (RowD.nil _ _ _ _) rfl rfl s6.out.els (fun k hk => .inl hk) (fun g hg => by have hg : (none : Option Nat) = some g := hg; cases hg) H1.out.1 H1.out.2 (Nat.le_refl _) ?_; intro v7 w7 hr7 hg7 ho7; have X7 := Au.mk ((RowD.nil Kd.int W6 (fun k => G k ∧ k < w.heap.size) W6.heap.size).kept W6 hg7 X6.out (by omega)); have b7 := Au.mk (Hb6.out.grown hg7 Hb6.out.size (fun g hg => by have hg : (none : Option Nat) = some g := hg; cases hg)); rw [List.nil_append] at hr7; obtain ⟨A7, c7, rfl⟩ := hr7.form; have R7 := Au.mk hr7; have z7 := hg7.size; clear hr7 hg7 ho7; have E8 := Au.mk (els_int (cells_new1 w7 (.int .i64 0) 3) r64_0); have R8 := Au.mk (R7.out.alloc (.cells #[.int .i64 0] 3)); have X8 := Au.mk (blk_alloc X7.out (.cells #[.int .i64 0] 3)); have b8 := Au.mk (b7.out.alloc b7.out.size (.cells #[.int .i64 0] 3)); have z8 : (w7.alloc (.cells #[.int .i64 0] 3)).heap.size = w7.heap.size + 1 := (by simp); have H3 : Au (W6.heap.size ≤ (w7.alloc (.cells #[.int .i64 0] 3)).heap.size) := (Au.mk (by omega))) | (at_builtin; refine wpList_append_rowD (d := Kd.int) (G := fun k => G k ∧ k < w.heap.size) (F2 := fun _ => False) (base := W6.heap.size) (xs := s.caps) (ys := [0]) _ rfl etInts _ _ rfl rfl R8.out rfl rfl E8.out (fun k hk => hk.elim) (fun g hg => id) H2.out.1 H2.out.2 H3.out ?_; intro v9 w9 hr9 hg9 ho9; have X9 := Au.mk (R8.out.kept _ hg9 X8.out (by omega)); have b9 := Au.mk (b8.out.grown hg9 (by omega) (fun g hg => by have := R8.out.low _ g hg; omega)); obtain ⟨A9, cc9, rfl, hs9⟩ := hr9.sl; obtain ⟨cn, Hcn⟩ := au (s.caps ++ [0]).length; rw [Hcn.out]; have S9 := Au.mk hs9; have z9 := hg9.size; have c9 := blk_cell X9.out 2 rfl; have u9 := blk_free X9.out 2; clear hr9 hg9 ho9 hs9))
    have b10 := b9.out.setCell (p := ⟨w5.heap.size, 2, none⟩) (Nat.le_refl _) (.slice A9 cn cc9)
    have X10 := Au.mk (blk_set X9.out 2 (.slice A9 cn cc9))
    have S10 := Au.mk (S9.out.set (p := ⟨w5.heap.size, 2, none⟩) (.slice A9 cn cc9) (fun h => by rcases h with h | h <;> simp at h <;> omega))
    generalize w9.setCell ⟨w5.heap.size, 2, none⟩ (.slice A9 cn cc9) = W10 at b10 X10 S10 ⊢
    have J10 := Au.mk (blk_below J5.out b10 (lt_of_block J5.out))
    have T10 := Au.mk (T5.out.below b10)
    have a10 := Au.mk (a5.out.below b10)
    have V10 := Au.mk (V5.out.below b10)
    have e10 := below_then e5 b10 e5.size
    have s10 := Au.mk (s5.out.below b10)
    have HC := Au.mk (split_caps t hS s (s.caps ++ [0]) Hcn.out Q3 W10 T10.out a10.out S10.out)
    rw [Hll.out] at HC
    simp only [List.set_cons_succ, List.set_cons_zero] at X10
    clear f2 c9 u9 b7 b8 b9 X6 X7 X8 X9 S9 E8 R7 R8 H1 H2 H3 hb6 Hb6 z8
    have f3 := blk_cell X10.out 0 rfl
    have f4 := blk_cell X10.out 1 rfl
    have f5 := blk_cell X10.out 2 rfl
    go_wp2_with fail
    refine HC.out.mono ?_
    rintro e w11 ⟨A11, c11, rfl, v11, b11⟩
    have J11 := Au.mk (blk_below J10.out b11 (lt_of_block J10.out))
    have T11 := Au.mk (T10.out.below b11)
    have a11 := Au.mk (a10.out.below b11)
    have V11 := Au.mk (V10.out.below b11)
    have M11 := Au.mk v11
    have e11 := below_then e10 b11 e10.size
    clear f3 f4 f5 v11 b10
    have f0 := blk_cell J11.out 0 rfl
    have f1 := blk_cell J11.out 1 rfl
    have f2 := blk_cell J11.out 2 rfl
    go_upto_region 14 with fail
    have b12 : Below w11.heap.size w11 (w11.alloc (.cells #[.string (ofL s.label), .int .i64 s.b, .slice none 0 0] 25)) := (Below.refl _ _).alloc (Nat.le_refl _) _
    have X12 : Au ((w11.alloc (.cells #[.string (ofL s.label), .int .i64 s.b, .slice none 0 0] 25)).heap[w11.heap.size]? = some (.cells #[.string (ofL s.label), .int .i64 s.b, .slice none 0 0] 25 (0, 0))) := ⟨heap_alloc_new _ _⟩
    generalize w11.alloc (.cells #[.string (ofL s.label), .int .i64 s.b, .slice none 0 0] 25) = W12 at b12 X12 ⊢
    have T12 := Au.mk (T11.out.below b12)
    have a12 := Au.mk (a11.out.below b12)
    have V12 := Au.mk (V11.out.below b12)
    have M12 := Au.mk (M11.out.below b12)
    have e12 := below_then e11 b12 e11.size
    have HC2 := Au.mk (split_caps t hS s [] (n := 0) rfl Q4 W12 T12.out a12.out (Sl.nil Kd.int W12 (fun _ => True)))
    clear f0 f1 f2
    have f3 := blk_cell X12.out 0 rfl
    have f4 := blk_cell X12.out 1 rfl
    have f5 := blk_cell X12.out 2 rfl
    go_wp2_with fail
    refine HC2.out.mono ?_
    rintro e w13 ⟨A13, c13, rfl, v13, b13⟩
    have V13 := Au.mk (V12.out.below b13)
    have M13 := Au.mk (M12.out.below b13)
    have e13 := below_then e12 b13 e12.size
    clear f3 f4 f5 v13 b12
    go_wp2_with fail
    refine (vsame_calls l l Hll.out Hll.out (r := true) (by simp) _ M13.out V13.out).mono ?_
    rintro e w14 ⟨rfl, ⟨nd, rfl⟩⟩
    go_wp2_with fail
    go_ret
    exact ⟨rfl, below_drewN e13 nd⟩
  · obtain ⟨d0, Hd0⟩ := au (en != 0)
    have hd0 := Hd0.out
    cases d0
    · have hl1 : (1 : Int) ≤ ll := by have := q1 (by simpa using hd0); omega
      go_wp2_with fail
      go_ret
      exact ⟨rfl, e5⟩
    · go_wp2_with fail
      go_ret
      exact ⟨rfl, e5⟩
end Go.Proofs.YtmjicapjkmkckaaGreatDoor.Rk
