/- VolumeBegin -/
import Derived.Test.YtmjicapjkmkckaaGreatDoorCgC
import Derived.Test.YtmjicapjkmkckaaGreatDoorLawE
namespace Go.Proofs.YtmjicapjkmkckaaGreatDoor.Rk
open Go.RowKit Go.Shelf
set_option linter.unusedVariables false
set_option linter.unusedSimpArgs false
set_option maxRecDepth 100000

theorem whereB_nonneg {t : List Nd} {i : Int} (h0 : 0 ≤ i) (h1 : i < (sall t).length) : 0 ≤ (whereB t i).1 := by
  have key : whereB t i = (if idxOf i (starts t) - 1 < 0 then ((t.length : Int), (-1 : Int)) else match t[(idxOf i (starts t) - 1).toNat]? with
        | some n => (idxOf i (starts t) - 1, max (-1) (i - ((starts t).getD ((idxOf i (starts t) - 1).toNat + 1) 0 : Nat) + (edata n : Nat)))
        | none => (idxOf i (starts t) - 1, -1)) := by unfold whereB; rw [if_neg (by omega)]; rfl
  rw [key]
  by_cases h2 : idxOf i (starts t) - 1 < 0
  · rw [if_pos h2]
    show (0 : Int) ≤ t.length
    omega
  · rw [if_neg h2]
    cases t[(idxOf i (starts t) - 1).toNat]? with
    | none => show (0 : Int) ≤ idxOf i (starts t) - 1; omega
    | some n => show (0 : Int) ≤ idxOf i (starts t) - 1; omega
theorem begin_ok {t : List Nd} {s : St} {pos n : Int} {b : List (List UInt8)} (h : vbeginO t s pos n = some b) :
    ∃ blk rest, b = blk :: rest ∧ lget blk = (s.label, n, 0) ∧ 0 ≤ (whereB t pos).1 ∧ (((whereB t pos).2 = -1 ∧ rest = []) ∨
      ∃ (k j : Nat) (nd : Nd), whereB t pos = ((k : Int), (j : Int)) ∧ t[k]? = some nd ∧ cmay nd (512 * (j : Int)) = true ∧ rest = cput nd (512 * (j : Int))) := by
  unfold vbeginO at h
  split at h
  · unfold vbegin at h
    split at h
    · rename_i h1
      injection h with h
      obtain ⟨h2, h3, h4⟩ := h1
      obtain ⟨blk, hblk⟩ := Option.isSome_iff_exists.1 h2
      refine ⟨blk, _, (by rw [← h]; unfold vbeg; rw [hblk, Option.getD_some]), lget_put hblk, whereB_nonneg h3 h4, ?_⟩
      by_cases hw : (whereB t pos).2 = -1
      · exact .inl ⟨hw, by rw [if_pos hw]⟩
      · obtain ⟨k, j, nd, e1, e2, e3⟩ := whereB_may hw
        refine .inr ⟨k, j, nd, e1, e2, e3, ?_⟩
        rw [if_neg hw, e1]
        simp only [Int.toNat_natCast]
        rw [e2]
    · cases h
  · cases h
theorem Sl.drop {α : Type} {d : Kd α} (h1 : d.sz = 1) {w : World} {F : Nat → Prop} {b o c : Nat} {xs : List α} (h : Sl d w F (some ⟨b, o, none⟩) c xs) {p : Nat} (hp : p ≤ xs.length) : Sl d w F (some ⟨b, o + p, none⟩) (c - p) (xs.drop p) := by
  obtain ⟨hl, hc, vs, hv⟩ := h
  refine ⟨by rw [List.length_drop]; omega, by omega, vs.drop p, fun W hW => ⟨?_, ?_⟩⟩
  · intro hne
    have hvs : vs ≠ [] := by rintro rfl; simp at hne
    obtain ⟨b', o', e1, hcell⟩ := (hv W hW).1 hvs
    injection e1 with e1
    injection e1 with e2 e3
    subst e2 e3
    refine ⟨b, o + p, rfl, fun j u hu => ?_⟩
    rw [List.getElem?_drop] at hu
    rw [show o + p + j = o + (p + j) by omega]; exact hcell _ _ hu
  · have := ((hv W hW).2).drop p
    rwa [h1, Nat.mul_one] at this
set_option maxHeartbeats 4000000 in
theorem VolumeBegin_walk (t : List Nd) (s : St) (hsb : R64 s.b) (pos n : Int) (hp : R64 pos) (hn : R64 n) {A Ac : Option Addr} {c cc : Nat} {F G : Nat → Prop} (w : World) (ha : Sl Kd.nd w F A c t) (hs : Sl Kd.int w G Ac cc s.caps) (hT : Tab w) :
    Calls Tryz.prog 10 #[.slice A t.length c, s.agg Ac cc, .int .i64 pos, .int .i64 n] w fun e w' => e = .returned (.bool true) ∧ Below w.heap.size w w' := by
  have J0 : Au ((w.alloc (.cells (s.cells Ac cc).toArray 25)).heap[w.heap.size]? = some (.cells (s.cells Ac cc).toArray 25 (0, 0))) := ⟨heap_alloc_new _ _⟩
  have e0 := (Below.refl w.heap.size w).alloc (Nat.le_refl _) (.cells (s.cells Ac cc).toArray 25)
  have s0 := Au.mk (hs.old.alloc (.cells (s.cells Ac cc).toArray 25))
  have a0 := Au.mk (ha.old.alloc (.cells (s.cells Ac cc).toArray 25))
  have T0 := Au.mk (hT.below e0)
  have hcc := hs.le
  have htt := ha.le
  have f0 := blk_cell J0.out 0 rfl
  have f1 := blk_cell J0.out 1 rfl
  have f2 := blk_cell J0.out 2 rfl
  obtain ⟨one, Hone⟩ := au (fewT t)
  obtain ⟨two, Htwo⟩ := au (fewS s)
  have F16 := Au.mk (fun W : World => few16_calls s Htwo.out (A := Ac) (c := cc) W)
  have CS := Au.mk (fun (hS : AllS t) (l : List (List (List UInt8))) (en : Int) (h : vsplit t s = (l, en)) (W : World) (hT : Tab W) (h1 : Sl Kd.nd W (fun k => F k ∧ k < w.heap.size) A c t) (h2 : Sl Kd.int W (fun k => G k ∧ k < w.heap.size) Ac cc s.caps) => split_calls t hS s h W hT h1 h2)
  have CN := Au.mk (fun (hS : AllS t) (r : Int) (h : vneeds t s = r) (W : World) (hT : Tab W) (h1 : Sl Kd.nd W (fun k => F k ∧ k < w.heap.size) A c t) (h2 : Sl Kd.int W (fun k => G k ∧ k < w.heap.size) Ac cc s.caps) => needs_calls t hS s h W hT h1 h2)
  have CM := Au.mk (fun (r : Bool) (h : smay s = r) (W : World) (h2 : Sl Kd.int W (fun k => G k ∧ k < w.heap.size) Ac cc s.caps) => smay_calls s h W h2)
  unfold St.agg at F16 CS CN CM ⊢
  unfold St.cells at f0 f1 f2 e0 s0 J0 a0 T0
  clear ha hs hT
  go_enter Tryz.func10, Tryz.ntmps10
  go_wp2_with fail
  refine (awake16_calls _ T0.out).mono ?_
  rintro e w1 ⟨rfl, b1⟩
  have e1 := below_then e0 b1 e0.size
  have J1 := Au.mk (blk_below J0.out b1 (lt_of_block J0.out))
  have T1 := Au.mk (T0.out.below b1)
  have a1 := Au.mk (a0.out.below b1)
  have s1 := Au.mk (s0.out.below b1)
  clear f0 f1 f2 b1
  have f0 := blk_cell J1.out 0 rfl
  have f1 := blk_cell J1.out 1 rfl
  have f2 := blk_cell J1.out 2 rfl
  go_wp2_with fail
  refine (few06_calls t Hone.out _ a1.out).mono ?_
  rintro e w2 ⟨rfl, b2⟩
  have e2 := below_then e1 b2 e1.size
  have J2 := Au.mk (blk_below J1.out b2 (lt_of_block J1.out))
  have T2 := Au.mk (T1.out.below b2)
  have a2 := Au.mk (a1.out.below b2)
  have s2 := Au.mk (s1.out.below b2)
  clear f0 f1 f2 b2
  have f0 := blk_cell J2.out 0 rfl
  have f1 := blk_cell J2.out 1 rfl
  have f2 := blk_cell J2.out 2 rfl
  go_wp2_with fail
  refine (F16.out _).mono ?_
  rintro e w3 ⟨rfl, b3⟩
  have e3 := below_then e2 b3 e2.size
  have J3 := Au.mk (blk_below J2.out b3 (lt_of_block J2.out))
  have T3 := Au.mk (T2.out.below b3)
  have a3 := Au.mk (a2.out.below b3)
  have s3 := Au.mk (s2.out.below b3)
  clear f0 f1 f2 b3
  have f0 := blk_cell J3.out 0 rfl
  have f1 := blk_cell J3.out 1 rfl
  have f2 := blk_cell J3.out 2 rfl
  cases one
  · go_wp2_with fail
    go_ret
    exact ⟨rfl, e3⟩
  cases two
  · go_wp2_with fail
    go_ret
    exact ⟨rfl, e3⟩
  have hS := (few_all Hone.out).1
  have ht30 := (few_all Hone.out).2
  obtain ⟨o, Ho⟩ := au (vbeginO t s pos n)
  have HB := Au.mk (fun (b : Bool) (hb : o.isSome = b) (l : List (List UInt8)) (h : o.getD [] = l) (W : World) (hT : Tab W) (h1 : Sl Kd.nd W (fun k => F k ∧ k < w.heap.size) A c t) (h2 : Sl Kd.int W (fun k => G k ∧ k < w.heap.size) Ac cc s.caps) => vbegin_calls t hS s pos n hp hn (b := b) (by rw [Ho.out]; exact hb) (l := l) (by rw [Ho.out]; exact h) W hT h1 h2)
  unfold St.agg at HB
  cases o with
  | none =>
    go_wp2_with fail
    refine (HB.out false rfl [] rfl _ T3.out a3.out s3.out).mono ?_
    rintro e w4 ⟨A4, c4, rfl, v4, b4⟩
    have e4 := below_then e3 b4 e3.size
    clear f0 f1 f2 b4 v4
    go_wp2_with fail
    go_ret
    exact ⟨rfl, e4⟩
  | some b =>
    obtain ⟨blk, rest, hbl, hlg, hw0, hcase⟩ := begin_ok Ho.out
    subst hbl
    obtain ⟨rl, Hrl⟩ := au rest.length
    have hlen : (blk :: rest).length = rl + 1 := by rw [List.length_cons, Hrl.out]
    have Hlg := Au.mk hlg
    have Hcase := Au.mk hcase
    have HB' := Au.mk (HB.out true rfl (blk :: rest) rfl)
    rw [hlen] at HB'
    clear hlg hcase
    go_wp2_with fail
    refine (HB'.out _ T3.out a3.out s3.out).mono ?_
    rintro e w4 ⟨A4, c4, rfl, v4, b4⟩
    have e4 := below_then e3 b4 e3.size
    have J4 := Au.mk (blk_below J3.out b4 (lt_of_block J3.out))
    have T4 := Au.mk (T3.out.below b4)
    have a4 := Au.mk (a3.out.below b4)
    have s4 := Au.mk (s3.out.below b4)
    clear f0 f1 f2 b4
    have f0 := blk_cell J4.out 0 rfl
    have f1 := blk_cell J4.out 1 rfl
    have f2 := blk_cell J4.out 2 rfl
    obtain ⟨bb, oo, A5, c5, rfl, f5, v5⟩ := v4.slice_at (i := 0) (x := blk) rfl
    have f5 : w4.cell? ⟨bb, oo, none⟩ = some (.slice A5 blk.length c5) := by simpa using f5
    have V4 := Au.mk v4
    have hr1 : (((rl : Int) + 1) == 0) = false := by rw [beq_eq_false_iff_ne]; omega
    clear v4
    go_wp2_with fail
    refine (lget_calls blk Hlg.out _ v5 T4.out).mono ?_
    rintro e w5 ⟨rfl, b5⟩
    have V5 := Au.mk (V4.out.below b5)
    clear v5 f5
    have e5 := below_then e4 b5 e4.size
    have J5 := Au.mk (blk_below J4.out b5 (lt_of_block J4.out))
    have T5 := Au.mk (T4.out.below b5)
    have a5 := Au.mk (a4.out.below b5)
    have s5 := Au.mk (s4.out.below b5)
    clear f0 f1 f2 b5
    have f0 := blk_cell J5.out 0 rfl
    have f1 := blk_cell J5.out 1 rfl
    have f2 := blk_cell J5.out 2 rfl
    obtain ⟨r, Hr⟩ := au (whereB t pos)
    rw [Hr.out] at hw0
    rw [Hr.out] at Hcase
    go_wp2_with fail
    refine (where_calls t hS pos hp Hr.out _ a5.out).mono ?_
    rintro e w6 ⟨rfl, b6⟩
    have V6 := Au.mk (V5.out.below b6)
    have e6 := below_then e5 b6 e5.size
    have J6 := Au.mk (blk_below J5.out b6 (lt_of_block J5.out))
    have T6 := Au.mk (T5.out.below b6)
    have a6 := Au.mk (a5.out.below b6)
    have s6 := Au.mk (s5.out.below b6)
    clear f0 f1 f2 b6
    have f0 := blk_cell J6.out 0 rfl
    have f1 := blk_cell J6.out 1 rfl
    have f2 := blk_cell J6.out 2 rfl
    rcases Hcase.out with ⟨h1, h2⟩ | ⟨k, j, nd, h1, h2, h3, h4⟩
    · obtain ⟨r1, r2⟩ := r
      dsimp only at h1 hw0 ⊢
      subst h1
      obtain rfl : rl = 0 := by rw [← Hrl.out, h2]; rfl
      have hr0 : ¬ r1 < 0 := by omega
      go_wp2_with fail
      go_ret
      exact ⟨rfl, e6⟩
    · subst h1
      dsimp only
      have hkt : (k : Int) < t.length := by have := (List.getElem?_eq_some_iff.1 h2).1; omega
      have hkt' : ¬ (t.length : Int) ≤ k := by omega
      obtain ⟨m1, m2, m3, m4⟩ := cmay_iff.1 h3
      have hd4 : (nd.data.length : Int) ≤ 4000 := by
        have := (cfile_iff.1 m1).2
        unfold one at this
        simp only [Bool.and_eq_true] at this
        have := kind_data this.1
        omega
      have hg := cget_cput h3
      have hg' : cget rest = some (bareN nd, 512 * (j : Int), (nd.data.length : Int), rl) := by rw [← Hrl.out, h4]; exact hg
      have HG : Au (Calls Tryz.prog 31 #[.slice (some ⟨bb, oo + 1, none⟩) rl (c4 - 1)] w6 fun e w' => e = .returned (.tuple #[.agg #[.string (ofL nd.path), .string ⟨#[]⟩, .int .u8 48, .int .i64 nd.mode, .int .i64 nd.uid, .int .i64 nd.gid, .int .i64 nd.mtime, .string ⟨#[]⟩], .int .i64 (512 * (j : Int)), .int .i64 nd.data.length, .int .i64 rl, .bool true]) ∧ Below w6.heap.size w6 w') :=
        ⟨cgetB_calls rest Hrl.out hg' w6 (by have := Sl.drop rfl V6.out (p := 1) (by simp); simpa using this)⟩
      have hz : (ofL nd.data).size = nd.data.length := ofL_size _
      have hw5 : IntKind.i64.wrap (512 * (j : Int)) = 512 * (j : Int) := by rw [IntKind.wrap_i64]; omega
      have hrl4 : rl ≤ 3 := by rw [← Hrl.out, h4]; exact cput_len _ _
      have hrl1 : 1 ≤ rl := by
        rw [← Hrl.out, h4]; unfold cput; rw [if_pos h3]; unfold cputB; rw [List.length_append]; simp
      have hc4 : 2 ≤ c4 := by have := V6.out.1; simp only [List.length_cons, Hrl.out] at this; omega
      have hc4' : c4 ≠ 1 := by omega
      have hc4'' : ¬ (c4 : Int) = 1 := by omega
      have hc4i : (1 : Int) < c4 := by omega
      have hw6 : IntKind.i64.wrap ((rl : Int) + 1 - 1) = (rl : Int) := by rw [IntKind.wrap_i64]; omega
      have hj0 : ¬ (j : Int) < 0 := by omega
      clear h3 hg h4 hg'
      go_wp2_with fail
      refine HG.out.mono ?_
      rintro e w7 ⟨rfl, b7⟩
      have e7 := below_then e6 b7 e6.size
      have a7 := Au.mk (a6.out.below b7)
      clear f0 f1 f2 b7
      go_upto_region 16 with fail
      have X8 : Au ((w7.alloc (.cells (bareN nd).cells.toArray 53)).heap[w7.heap.size]? = some (.cells (bareN nd).cells.toArray 53 (0, 0))) := ⟨heap_alloc_new _ _⟩
      have e8 := e7.alloc e7.size (.cells (bareN nd).cells.toArray 53)
      have a8 := Au.mk (a7.out.alloc (.cells (bareN nd).cells.toArray 53))
      have hW : w7.alloc (.cells (bareN nd).cells.toArray 53) = w7.alloc (.cells #[.string (ofL nd.path), .string ⟨#[]⟩, .int .u8 48, .int .i64 nd.mode, .int .i64 nd.uid, .int .i64 nd.gid, .int .i64 nd.mtime, .string ⟨#[]⟩] 53) := rfl
      rw [← hW]
      generalize w7.alloc (.cells (bareN nd).cells.toArray 53) = w8 at X8 e8 a8 ⊢
      clear hW
      have g0 : w8.cell? ⟨w7.heap.size, 0, none⟩ = some (.string (ofL nd.path)) := blk_cell X8.out 0 rfl
      obtain ⟨hnR, bn, o9, rfl, n0, n1, n2, n3, n4, n5, n6, n7⟩ := a8.out.nd_at h2
      go_quiet (fail)
      go_wp2_with fail
      go_ret
      exact ⟨rfl, below_drewN e8 _⟩
end Go.Proofs.YtmjicapjkmkckaaGreatDoor.Rk
