/- Check: the blocks of records, walked. -/
import Derived.Test.YtldhcknjpmbgnaaGreatDoorCkA
import Derived.Lib.BufferMore
namespace Go.Proofs.YtldhcknjpmbgnaaGreatDoor.Rk
open Go.RowKit Go.Shelf
attribute [local go_sem] Oper.semAt_some
set_option linter.unusedVariables false
set_option linter.unusedSimpArgs false
set_option maxRecDepth 100000

theorem chunk_calls (A : Option Addr) (n c : Nat) (w : World) : Calls Tryz.prog 66 #[.slice A n c, .int .i64 512] w fun e w' => e = .returned (.func (.func 109) #[] #[.pointer (some ⟨w.heap.size, 0, none⟩), .pointer (some ⟨w.heap.size + 1, 0, none⟩)]) ∧
    (w.alloc (.cells #[.slice A n c] 46)).alloc (.cells #[.int .i64 512] 3) = w' := by
  have c1 : ((w.alloc (.cells #[.slice A n c] 46)).alloc (.cells #[.int .i64 512] 3)).cell? ⟨w.heap.size + 1, 0, none⟩ = some (.int .i64 512) := by
    have := heap_alloc_new (w.alloc (.cells #[.slice A n c] 46)) (.cells #[.int .i64 512] 3)
    rw [World.size_alloc] at this
    exact cell_of_one this
  go_enter Tryz.func66, Tryz.ntmps66
  go_wp2_with fail
  go_ret
  exact ⟨rfl, rfl⟩
theorem clone_calls (x : List UInt8) {n : Nat} (hn : x.length = n) (hm : n ≤ 1000000) {b o c : Nat} {F : Nat → Prop} (w : World) (ha : Sl Kd.byte w F (some ⟨b, o, none⟩) c x) :
    Calls Tryz.prog 67 #[.slice (some ⟨b, o, none⟩) n c] w fun e w' => ∃ A' c', e = .returned (.slice A' n c') ∧ Sl Kd.byte w' (fun k => w.heap.size ≤ k) A' c' x ∧ Below w.heap.size w w' := by
  have Ha := Au.mk ha
  have qn : ∀ W : World, (binOp .eql 46 (.slice (some ⟨b, o, none⟩) n c) (.slice none 0 0)).run Tryz.prog W = .ok (.bool false) W := fun W => by
    exact Lib.run_eql_slice_some_nil W _ n c Tryz.underlying46
  clear ha
  go_enter Tryz.func67, Tryz.ntmps67
  have hb0 : Below w.heap.size w (w.alloc (.cells #[] 5)) := (Below.refl _ _).alloc (Nat.le_refl _) _
  have R0 : Row (w.alloc (.cells #[] 5)) w.heap.size 1 (.slice (some ⟨w.heap.size, 0, none⟩) 0 0) 0 [] :=
    ⟨by simp, .inr ⟨w.heap.size, 0, rfl, Nat.le_refl _, by simp, Nat.le_refl _, by decide, fun j u hu => by simp at hu, fun j hj => by omega⟩⟩
  have Hx := Au.mk (Ha.out.alloc (.cells #[] 5)).bytes
  have hbl : (bcs x).length = n * 1 := by rw [bcs_length, hn]; omega
  have h1 : ∀ u ∈ bcs x, u.oneCell' = true := bcs_one x
  go_upto_region 3 with fail
  go_wp2_with (at_builtin; refine wpList_append_row _ rfl etBytes _ _ rfl rfl R0 rfl Hx.out hbl h1 (by simp only [maxLen]; omega) (by omega) (by simp) ?_; intro v' W5 hr5 hg5 ho5; obtain ⟨A5, c5, rfl, hr6⟩ := hr5.form; have Hr5 := Au.mk hr5; have Hr6 := Au.mk hr6; have Hg5 := Au.mk hg5; clear hr5 hg5 ho5 hr6)
  go_ret
  obtain ⟨q1, q2, q3, q4⟩ := Hr6.out
  refine ⟨A5, c5, rfl, Sl.of_bytes (by omega) q2 (fun W hW => by have := q4 W hW; simpa using this), ?_⟩
  exact hb0.grown Hg5.out (by simp) (fun k hk => by simp [Value.ownBlock, Act.eval] at hk; omega)
/-- The pieces of a record, walked. -/
theorem chunk_walk {L n : Nat} (r : List UInt8) (m : Nat) (hl : r.length = m * 512) {b o c : Nat} (hc : r.length ≤ c) (hc2 : c ≤ 9223372036854775807) (J : Nat → World → Prop)
    (hC : ∀ k W, J k W → W.heap[n]? = some (.cells #[.slice (some ⟨b, o, none⟩) r.length c] 46 (0, 0)) ∧ W.heap[n + 1]? = some (.cells #[.int .i64 512] 3 (0, 0)))
    (hB : ∀ k W V, J k W → Below W.heap.size W V → J k V)
    (hY : ∀ k p W, k < m → p = k * 512 → J k W → YieldAt Fence.wide 0 Tryz.prog L #[.slice (some ⟨b, o + p, none⟩) 512 512] W fun e W' => e = .returned (.bool true) ∧ J (k + 1) W')
    (W1 : World) (h0 : J 0 W1) :
    CallsIn Fence.wide 0 Tryz.prog 109 #[.func (.yield L) #[] #[], .pointer (some ⟨n, 0, none⟩), .pointer (some ⟨n + 1, 0, none⟩)] W1 fun e W' => (∃ v, e = .returned v) ∧ J m W' := by
  have HC := Au.mk hC
  have HB := Au.mk hB
  have HY := Au.mk hY
  have H0 := Au.mk h0
  obtain ⟨rl, Rl⟩ := au r.length
  rw [Rl.out] at hl hc
  have Hl := Au.mk hl
  have hmx : Tryz.prog.follows .mixedOrders = true := by kernel_rfl
  clear hC hB hY h0 hl
  refine callsIn_of_wp Tryz.func109 rfl trivial ?_ rfl
  simp only [Tryz.ntmps109, List.size_toArray, List.length_cons, List.length_nil, Nat.reduceAdd, Nat.reduceSub, Array.replicate_succ, Array.replicate_zero, List.push_toArray, List.append_toArray, List.nil_append, List.cons_append]
  gi_wp2_with fail
  gi_loopw [4] (fun i wr => ∃ k p : Nat, k ≤ m ∧ Au (p = k * 512) ∧ i = .int .i64 p ∧ Au (J k wr)) (fun i _ => rl - (intOf i).toNat)
  case atStart => exact ⟨0, 0, Nat.zero_le _, ⟨by omega⟩, rfl, H0⟩
  case round =>
    obtain ⟨k, p, hk, Hp, rfl, HJ⟩ := hrel
    obtain ⟨hb1, hb2⟩ := HC.out k wr HJ.out
    rw [Rl.out] at hb1
    have B1 := Au.mk hb1
    have B2 := Au.mk hb2
    have c1 := cell_of_one hb1
    have c2 := cell_of_one hb2
    clear hb1 hb2
    by_cases hlt : p < rl
    · have hpk := Hp.out
      have hl := Hl.out
      have hkm : k < m := by
        apply Classical.byContradiction; intro hn
        have : m * 512 ≤ k * 512 := Nat.mul_le_mul_right _ (by omega)
        omega
      have hp5 : p + 512 ≤ rl := by
        have : (k + 1) * 512 ≤ m * 512 := Nat.mul_le_mul_right _ (by omega)
        omega
      clear hpk hl
      gi_wp2_with fail
      refine wpIn_wide.2 ?_
      go_quiet (fail)
      have hmin : min (512 : Int) ((rl - p : Nat) : Int) = 512 := by omega
      rw [hmin]
      have hj := HB.out k wr (wr.drewN nq) HJ.out (below_drewN (Below.refl _ _) nq)
      have d1 : (wr.drewN nq).cell? ⟨n, 0, none⟩ = some (.slice (some ⟨b, o, none⟩) rl c) := c1
      have d2 : (wr.drewN nq).cell? ⟨n + 1, 0, none⟩ = some (.int .i64 512) := c2
      have HYd := Au.mk (HY.out k p (wr.drewN nq) hkm Hp.out hj)
      have HJ := Au.mk hj
      clear hj c1 c2
      generalize wr.drewN nq = wq at d1 d2 HYd HJ ⊢
      gi_wp2_with fail
      refine upon_yield HYd.out ?_
      rintro e W4 ⟨rfl, hj4⟩
      refine ⟨_, rfl, ?_⟩
      have HJ4 := Au.mk hj4
      obtain ⟨hb4, hb5⟩ := HC.out (k + 1) W4 hj4
      rw [Rl.out] at hb4
      have d4 := cell_of_one hb4
      have d5 := cell_of_one hb5
      have hpk := Hp.out
      have Hp2 : Au (p + 512 = (k + 1) * 512) := ⟨by omega⟩
      clear hj4 hb4 hb5 hpk d1 d2 HYd
      gi_wp2_with fail
      go_roundw
      case rel => exact ⟨k + 1, p + 512, by omega, Hp2, by go_num, HJ4⟩
      case measure => simp [intOf]; omega
    · have hkm : k = m := by
        have hpk := Hp.out
        have hl := Hl.out
        apply Classical.byContradiction; intro hn
        have : (k + 1) * 512 ≤ m * 512 := Nat.mul_le_mul_right _ (by omega)
        omega
      subst hkm
      gi_wp2_with fail
      go_end0
      exact ⟨⟨_, rfl⟩, HJ.out⟩
end Go.Proofs.YtldhcknjpmbgnaaGreatDoor.Rk
