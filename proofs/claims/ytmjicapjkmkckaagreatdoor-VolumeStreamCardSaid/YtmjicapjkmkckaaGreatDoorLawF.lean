/- VolumeStream -/
import Derived.Test.YtmjicapjkmkckaaGreatDoorLawE
namespace Go.Proofs.YtmjicapjkmkckaaGreatDoor.Rk
open Go.RowKit Go.Shelf
set_option linter.unusedVariables false
set_option linter.unusedSimpArgs false
set_option maxRecDepth 100000

/-! ### noughts -/
def oddZ (c : UInt8) : Bool := c != 0
theorem oddz_calls (c : UInt8) {r : Bool} (hr : oddZ c = r) (w : World) : Calls Tryz.prog 53 #[.int .u8 c.toNat] w fun e w' => e = .returned (.bool r) ∧ w = w' := by
  have h : (((c.toNat : Nat) : Int) != 0) = r := by
    rw [← hr, oddZ]
    by_cases hc : c = 0
    · subst hc; rfl
    · have h1 : c.toNat ≠ 0 := fun h => hc (UInt8.toNat_inj.1 (by simpa using h))
      have h2 : (c != 0) = true := by simpa using hc
      rw [h2, bne_iff_ne]; omega
  go_enter Tryz.func53, Tryz.ntmps53
  go_wp2_with fail
  go_ret
  exact ⟨by first | rfl | exact ret_bool h, rfl⟩
def idxZ (xs : List UInt8) : Int := match xs.findIdx? oddZ with | some j => (j : Int) | none => -1
theorem idxZ_none {xs : List UInt8} (h : ∀ x ∈ xs, oddZ x = false) : idxZ xs = -1 := by
  unfold idxZ
  rw [List.findIdx?_eq_none_iff.2 h]
theorem idxZ_some {xs : List UInt8} {k : Nat} {x : UInt8} (hk : xs[k]? = some x) (hx : oddZ x = true) (h : ∀ y ∈ xs.take k, oddZ y = false) : idxZ xs = (k : Int) := by
  unfold idxZ
  obtain ⟨hlt, he⟩ := List.getElem?_eq_some_iff.1 hk
  have : xs.findIdx? oddZ = some k := by
    rw [List.findIdx?_eq_some_iff_getElem]
    refine ⟨hlt, by rw [he]; exact hx, fun j hj => ?_⟩
    have hm : xs[j] ∈ xs.take k := by
      rw [List.mem_take_iff_getElem]
      exact ⟨j, by omega, rfl⟩
    rw [h _ hm]; simp
  rw [this]
theorem idxZ_any (xs : List UInt8) : decide (0 ≤ idxZ xs) = xs.any oddZ := by
  unfold idxZ
  cases h : xs.findIdx? oddZ with
  | none =>
    rw [List.findIdx?_eq_none_iff] at h
    symm
    rw [show (decide ((0 : Int) ≤ -1)) = false by decide, List.any_eq_false]
    exact fun x hx => by simp [h x hx]
  | some j =>
    obtain ⟨hlt, h1, _⟩ := List.findIdx?_eq_some_iff_getElem.1 h
    symm
    have h2 : decide ((0 : Int) ≤ (j : Int)) = true := by simp
    show xs.any oddZ = decide ((0 : Int) ≤ (j : Int))
    rw [h2, List.any_eq_true]
    exact ⟨_, List.getElem_mem hlt, h1⟩
theorem indexZ_calls (xs : List UInt8) {n : Nat} (hn : xs.length = n) {r : Int} (hr : idxZ xs = r) {A : Option Addr} {c : Nat} {F : Nat → Prop} (w : World) (ha : Sl Kd.byte w F A c xs) :
    Calls Tryz.prog 92 #[.slice A n c, .func (.func 53) #[] #[]] w fun e w' => e = .returned (.int .i64 r) ∧ w = w' := by
  subst hn
  have Hr := Au.mk hr
  have hle := ha.le
  clear hr
  go_enter Tryz.func92, Tryz.ntmps92
  go_wp2_with fail
  go_loop [8] (fun j => ∃ k : Nat, k ≤ xs.length ∧ j = .int .i64 k ∧ Au (∀ y ∈ xs.take k, oddZ y = false)) (fun j => xs.length - (intOf j).toNat)
  case atStart => exact ⟨0, Nat.zero_le _, rfl, ⟨fun y hy => by simp at hy⟩⟩
  case round =>
    obtain ⟨k, hk, rfl, H0⟩ := hrel
    by_cases hlt : k < xs.length
    · obtain ⟨x, hx⟩ : ∃ x, xs[k]? = some x := ⟨_, List.getElem?_eq_getElem hlt⟩
      obtain ⟨b, o, rfl, ck⟩ := ha.byte_at k hlt
      rw [(List.getElem?_eq_some_iff.1 hx).2] at ck
      have Hx := Au.mk hx
      clear hx
      obtain ⟨d, Hd⟩ := au (oddZ x)
      cases d
      · go_wp2_with (go_at_call 53; refine (oddz_calls x Hd.out _).mono ?_; rintro e w' ⟨rfl, rfl⟩)
        go_round
        case rel =>
          refine ⟨k + 1, by omega, by go_num, ⟨fun y hy => ?_⟩⟩
          rw [take_snocX Hx.out] at hy
          rcases List.mem_append.1 hy with hy | hy
          · exact H0.out y hy
          · rw [List.mem_singleton.1 hy]; exact Hd.out
        case measure => simp [intOf]; omega
      · have hr2 : r = (k : Int) := by rw [← Hr.out]; exact idxZ_some Hx.out Hd.out H0.out
        subst hr2
        go_wp2_with (go_at_call 53; refine (oddz_calls x Hd.out _).mono ?_; rintro e w' ⟨rfl, rfl⟩)
        go_ret
        exact ⟨rfl, rfl⟩
    · have hr2 : r = -1 := by
        have := H0.out
        rw [show k = xs.length by omega, List.take_length] at this
        rw [← Hr.out, idxZ_none this]
      subst hr2
      go_wp2_with fail
      go_ret
      exact ⟨rfl, rfl⟩
theorem containsZ_calls (xs : List UInt8) {n : Nat} (hn : xs.length = n) {r : Bool} (hr : xs.any oddZ = r) {A : Option Addr} {c : Nat} {F : Nat → Prop} (w : World) (ha : Sl Kd.byte w F A c xs) :
    Calls Tryz.prog 52 #[.slice A n c, .func (.func 53) #[] #[]] w fun e w' => e = .returned (.bool r) ∧ w = w' := by
  obtain ⟨i, Hi⟩ := au (idxZ xs)
  have hri : decide (0 ≤ i) = r := by rw [← Hi.out, idxZ_any, hr]
  have Hc := Au.mk (indexZ_calls xs hn Hi.out w ha)
  go_enter Tryz.func52, Tryz.ntmps52
  go_wp2_with fail
  refine Hc.out.mono ?_
  rintro e w1 ⟨rfl, rfl⟩
  go_wp2_with fail
  go_ret
  exact ⟨by first | rfl | exact ret_bool (by first | exact hri | rfl), rfl⟩
theorem zeroB_calls (xs : List UInt8) {n : Nat} (hn : xs.length = n) {r : Bool} (hr : xs.any oddZ = r) {A : Option Addr} {c : Nat} {F : Nat → Prop} (w : World) (ha : Sl Kd.byte w F A c xs) :
    Calls Tryz.prog 28 #[.slice A n c] w fun e w' => e = .returned (.bool (!r)) ∧ w = w' := by
  have Hc := Au.mk (containsZ_calls xs hn hr w ha)
  go_enter Tryz.func28, Tryz.ntmps28
  go_wp2_with fail
  refine Hc.out.mono ?_
  rintro e w1 ⟨rfl, rfl⟩
  go_wp2_with fail
  go_ret
  first | done | exact ⟨rfl, rfl⟩ | (cases r <;> exact ⟨rfl, rfl⟩)
theorem zeros_any : (zeros 512).any oddZ = false := by
  rw [List.any_eq_false]
  intro x hx
  rw [(List.mem_replicate.1 hx).2]; decide
/-! ### the same -/
set_option maxHeartbeats 1000000 in
theorem same3_calls (l : List (List UInt8)) {n : Nat} (hn : l.length = n) {A B : Option Addr} {c d : Nat} {F G : Nat → Prop} (w : World) (ha : Sl (Kd.slice Kd.byte) w F A c l) (hb : Sl (Kd.slice Kd.byte) w G B d l) :
    Calls Tryz.prog 19 #[.slice A n c, .slice B n d] w fun e w' => e = .returned (.bool true) ∧ Drawn w w' := by
  have hle := ha.le
  rw [hn] at hle
  have Hn := Au.mk hn
  have Ha := Au.mk ha
  have Hb := Au.mk hb
  clear ha hb hn
  go_enter Tryz.func19, Tryz.ntmps19
  go_wp2_with fail
  go_loopw [5] (fun i wr => ∃ k : Nat, k ≤ n ∧ i = .int .i64 k ∧ Drawn w wr) (fun i _ => n - (intOf i).toNat)
  case atStart => exact ⟨0, Nat.zero_le _, rfl, Drawn.refl _⟩
  case round =>
    obtain ⟨k, hk, rfl, ⟨nd, rfl⟩⟩ := hrel
    by_cases hlt : k < n
    · obtain ⟨x, hx⟩ : ∃ x, l[k]? = some x := ⟨_, List.getElem?_eq_getElem (by rw [Hn.out]; exact hlt)⟩
      obtain ⟨a1, a2, A', c', rfl, ca, sa⟩ := Ha.out.slice_at hx
      obtain ⟨b1, b2, B', d', rfl, cb, sb⟩ := Hb.out.slice_at hx
      obtain ⟨xl, Hxl⟩ := au x.length
      have ka : ∀ n, (convert 43 9 (.slice A' x.length c')).run Tryz.prog (w.drewN n) = .ok (.string (ofL x)) (w.drewN n) := fun n => str_of (sa.drewN n)
      have kb : ∀ n, (convert 43 9 (.slice B' x.length d')).run Tryz.prog (w.drewN n) = .ok (.string (ofL x)) (w.drewN n) := fun n => str_of (sb.drewN n)
      rw [Hxl.out] at ca cb ka kb
      have hlti : (k : Int) < n := by omega
      clear hx sa sb
      go_wp2_with fail
      go_quiet (fail)
      go_wp2_with fail
      go_roundw
      case rel => exact ⟨k + 1, by omega, by go_num, _, rfl⟩
      case measure => simp [intOf]; omega
    · have hkn : ¬ (k : Int) < n := by omega
      go_wp2_with fail
      go_ret
      exact ⟨rfl, _, rfl⟩
set_option maxHeartbeats 4000000 in
theorem VolumeStream_walk (t : List Nd) (s : St) (hsb : R64 s.b) {A Ac : Option Addr} {c cc : Nat} {F G : Nat → Prop} (w : World) (ha : Sl Kd.nd w F A c t) (hs : Sl Kd.int w G Ac cc s.caps) (hT : Tab w) :
    Calls Tryz.prog 9 #[.slice A t.length c, s.agg Ac cc] w fun e w' => e = .returned (.bool true) ∧ Below w.heap.size w w' := by
  have J0 : Au ((w.alloc (.cells (s.cells Ac cc).toArray 25)).heap[w.heap.size]? = some (.cells (s.cells Ac cc).toArray 25 (0, 0))) := ⟨heap_alloc_new _ _⟩
  have e0 := (Below.refl w.heap.size w).alloc (Nat.le_refl _) (.cells (s.cells Ac cc).toArray 25)
  have s0 := Au.mk (hs.old.alloc (.cells (s.cells Ac cc).toArray 25))
  have a0 := Au.mk (ha.old.alloc (.cells (s.cells Ac cc).toArray 25))
  have T0 := Au.mk (hT.below e0)
  have hcc := hs.le
  have htt := ha.le
  have f0 := blk_cell J0.out 0 rfl
  have f1 := blk_cell J0.out 1 rfl
  have f2 := blk_cell J0.out 2 rfl
  obtain ⟨one, Hone⟩ := au (fewT t)
  obtain ⟨two, Htwo⟩ := au (fewS s)
  have F16 := Au.mk (fun W : World => few16_calls s Htwo.out (A := Ac) (c := cc) W)
  have CS := Au.mk (fun (hS : AllS t) (l : List (List (List UInt8))) (en : Int) (h : vsplit t s = (l, en)) (W : World) (hT : Tab W) (h1 : Sl Kd.nd W (fun k => F k ∧ k < w.heap.size) A c t) (h2 : Sl Kd.int W (fun k => G k ∧ k < w.heap.size) Ac cc s.caps) => split_calls t hS s h W hT h1 h2)
  have CN := Au.mk (fun (hS : AllS t) (r : Int) (h : vneeds t s = r) (W : World) (hT : Tab W) (h1 : Sl Kd.nd W (fun k => F k ∧ k < w.heap.size) A c t) (h2 : Sl Kd.int W (fun k => G k ∧ k < w.heap.size) Ac cc s.caps) => needs_calls t hS s h W hT h1 h2)
  have CM := Au.mk (fun (r : Bool) (h : smay s = r) (W : World) (h2 : Sl Kd.int W (fun k => G k ∧ k < w.heap.size) Ac cc s.caps) => smay_calls s h W h2)
  unfold St.agg at F16 CS CN CM ⊢
  unfold St.cells at f0 f1 f2 e0 s0 J0 a0 T0
  clear ha hs hT
  go_enter Tryz.func9, Tryz.ntmps9
  go_wp2_with fail
  refine (awake16_calls _ T0.out).mono ?_
  rintro e w1 ⟨rfl, b1⟩
  have e1 := below_then e0 b1 e0.size
  have J1 := Au.mk (blk_below J0.out b1 (lt_of_block J0.out))
  have T1 := Au.mk (T0.out.below b1)
  have a1 := Au.mk (a0.out.below b1)
  have s1 := Au.mk (s0.out.below b1)
  clear f0 f1 f2 b1
  have f0 := blk_cell J1.out 0 rfl
  have f1 := blk_cell J1.out 1 rfl
  have f2 := blk_cell J1.out 2 rfl
  go_wp2_with fail
  refine (few06_calls t Hone.out _ a1.out).mono ?_
  rintro e w2 ⟨rfl, b2⟩
  have e2 := below_then e1 b2 e1.size
  have J2 := Au.mk (blk_below J1.out b2 (lt_of_block J1.out))
  have T2 := Au.mk (T1.out.below b2)
  have a2 := Au.mk (a1.out.below b2)
  have s2 := Au.mk (s1.out.below b2)
  clear f0 f1 f2 b2
  have f0 := blk_cell J2.out 0 rfl
  have f1 := blk_cell J2.out 1 rfl
  have f2 := blk_cell J2.out 2 rfl
  go_wp2_with fail
  refine (F16.out _).mono ?_
  rintro e w3 ⟨rfl, b3⟩
  have e3 := below_then e2 b3 e2.size
  have J3 := Au.mk (blk_below J2.out b3 (lt_of_block J2.out))
  have T3 := Au.mk (T2.out.below b3)
  have a3 := Au.mk (a2.out.below b3)
  have s3 := Au.mk (s2.out.below b3)
  clear f0 f1 f2 b3
  have f0 := blk_cell J3.out 0 rfl
  have f1 := blk_cell J3.out 1 rfl
  have f2 := blk_cell J3.out 2 rfl
  cases one
  · go_wp2_with fail
    go_ret
    exact ⟨rfl, e3⟩
  cases two
  · go_wp2_with fail
    go_ret
    exact ⟨rfl, e3⟩
  have hS := (few_all Hone.out).1
  have ht30 := (few_all Hone.out).2
  obtain ⟨⟨l, en⟩, Hl⟩ := au (vsplit t s)
  obtain ⟨al, Hal⟩ := au (sall t)
  obtain ⟨tm, Htm⟩ := au (tmay t)
  obtain ⟨ll, Hll⟩ := au l.length
  obtain ⟨m, Hm⟩ := au al.length
  obtain ⟨q1, q2⟩ := stream_ok Hl.out
  rw [Hll.out] at q1 q2
  rw [Hal.out, Hm.out] at q2
  have Q2 := Au.mk q2
  have HB := Au.mk (fun (pos n : Int) (hp : R64 pos) (hn : R64 n) (l : List (List UInt8)) (h : vbeginO t s pos n = some l) (W : World) (hT : Tab W) (h1 : Sl Kd.nd W (fun k => F k ∧ k < w.heap.size) A c t) (h2 : Sl Kd.int W (fun k => G k ∧ k < w.heap.size) Ac cc s.caps) => vbegin_calls t hS s pos n hp hn (b := true) (by rw [h]; rfl) (l := l) (by rw [h]; rfl) W hT h1 h2)
  unfold St.agg at HB
  clear q2
  go_wp2_with fail
  refine (CS.out hS l en Hl.out _ T3.out a3.out s3.out).mono ?_
  rintro e w4 ⟨A4, c4, rfl, v4, b4⟩
  rw [Hll.out]
  have V4 := Au.mk v4
  have e4 := below_then e3 b4 e3.size
  have J4 := Au.mk (blk_below J3.out b4 (lt_of_block J3.out))
  have T4 := Au.mk (T3.out.below b4)
  have a4 := Au.mk (a3.out.below b4)
  have s4 := Au.mk (s3.out.below b4)
  clear f0 f1 f2 b4
  have f0 := blk_cell J4.out 0 rfl
  have f1 := blk_cell J4.out 1 rfl
  have f2 := blk_cell J4.out 2 rfl
  clear v4
  go_wp2_with fail
  refine (sall_calls t hS Hal.out Htm.out _ a4.out).mono ?_
  rintro e w5 ⟨A5, c5, rfl, u5, b5⟩
  rw [Hm.out]
  have U5 := Au.mk u5
  have V5 := Au.mk (V4.out.below b5)
  have e5 := below_then e4 b5 e4.size
  have J5 := Au.mk (blk_below J4.out b5 (lt_of_block J4.out))
  have T5 := Au.mk (T4.out.below b5)
  have a5 := Au.mk (a4.out.below b5)
  have s5 := Au.mk (s4.out.below b5)
  clear f0 f1 f2 b5
  have f0 := blk_cell J5.out 0 rfl
  have f1 := blk_cell J5.out 1 rfl
  have f2 := blk_cell J5.out 2 rfl
  clear u5
  by_cases h1 : en = 1
  · subst h1
    obtain rfl : ll = 0 := q1 rfl
    go_wp2_with fail
    go_ret
    exact ⟨rfl, e5⟩
  obtain ⟨htm, hsm, h12, P, P0, PB, PE, PV⟩ := Q2.out h1
  obtain rfl : tm = true := by rw [← Htm.out, htm]
  have n1 : (en == 1) = false := by simpa using h1
  have PV' := Au.mk PV
  have PB' := Au.mk PB
  have PE' := Au.mk PE
  have hm1000 : m ≤ 1000 := by have := (sall_len htm).2; rw [Hal.out, Hm.out] at this; omega
  clear PV PB PE q1 f0 f1 f2
  go_wp2_with fail
  go_loopw [12, 13] (fun ps i wr => ∃ (k p : Nat), k ≤ ll ∧ i = .int .i64 (k : Int) ∧ ps = .int .i64 (p : Int) ∧ Au (p = P k) ∧ Au (Below w5.heap.size w5 wr)) (fun _ i _ => ll - (intOf i).toNat)
  case atStart => exact ⟨0, 0, Nat.zero_le _, rfl, rfl, ⟨P0.symm⟩, ⟨Below.refl _ _⟩⟩
  case round =>
    obtain ⟨k, p, hk, rfl, rfl, Hp, Hb⟩ := hrel
    have hp4 : p ≤ 4000 * k := by rw [Hp.out]; exact PB'.out k hk
    by_cases hlt : k < ll
    · have hlti : (k : Int) < ll := by omega
      obtain ⟨v, hv⟩ : ∃ v, l[k]? = some v := ⟨_, List.getElem?_eq_getElem (by rw [Hll.out]; exact hlt)⟩
      obtain ⟨b, B1, B2, B3, B4, B5, B6, B7, B8⟩ := PV'.out k v hv
      rw [← Hp.out] at B1 B7 B8
      obtain ⟨bb, oo, A6, c6, rfl, f3, v6⟩ := (V5.out.below Hb.out).slice_at hv
      have J6 := Au.mk (blk_below J5.out Hb.out (lt_of_block J5.out))
      have T6 := Au.mk (T5.out.below Hb.out)
      have a6 := Au.mk (a5.out.below Hb.out)
      have s6 := Au.mk (s5.out.below Hb.out)
      have U6 := Au.mk (U5.out.below Hb.out)
      have V6 := Au.mk v6
      have f0 := blk_cell J6.out 0 rfl
      have f1 := blk_cell J6.out 1 rfl
      have f2 := blk_cell J6.out 2 rfl
      obtain ⟨vl, Hvl⟩ := au v.length
      obtain ⟨bl, Hbl⟩ := au b.length
      rw [Hvl.out] at f3 B3 B4 B7 B8
      rw [Hbl.out] at B2 B3 B5 B7 B8
      have hc6 : vl ≤ c6 := by rw [← Hvl.out]; exact v6.1
      have hc6' := v6.2.1
      have HBk := Au.mk (HB.out (p : Int) ((k : Int) + 1) ⟨by omega, by omega⟩ ⟨by omega, by omega⟩ b (by simpa using B1) wr T6.out a6.out s6.out)
      rw [Hbl.out] at HBk
      have B7' := Au.mk B7
      have B6' := Au.mk B6
      have B5' := Au.mk B5
      have Hv := Au.mk hv
      have hwk : IntKind.i64.wrap ((k : Int) + 1) = (k : Int) + 1 := by rw [IntKind.wrap_i64]; omega
      have hbv : ¬ ((vl : Int) ≤ bl) := by omega
      have hbc : (bl : Int) ≤ c6 := by omega
      clear B1 B6 B7 B5 v6 hv hlt
      go_wp2_with fail
      refine HBk.out.mono ?_
      rintro e w6 ⟨A7, c7, rfl, s7, b6⟩
      have f4 := cell_below f3 b6
      have V7 := Au.mk (V6.out.below b6)
      have U7 := Au.mk (U6.out.below b6)
      have S7 := Au.mk s7
      have hb7 := Au.mk (below_then Hb.out b6 Hb.out.size)
      have HS3 := Au.mk (same3_calls b Hbl.out w6 (by have := Sl.take rfl V7.out bl; rw [B5'.out] at this; exact this) S7.out)
      clear f0 f1 f2 f3 b6 s7
      go_wp2_with fail
      refine HS3.out.mono ?_
      rintro e w7 ⟨rfl, ⟨nd, rfl⟩⟩
      go_wp2_with fail
      go_loopw [12, 17] (fun ps i wr2 => ∃ (j q : Nat), bl ≤ j ∧ j ≤ vl ∧ i = .int .i64 (j : Int) ∧ ps = .int .i64 (q : Int) ∧ Au (q = p + (j - bl)) ∧ Drawn w6 wr2) (fun _ i _ => vl - (intOf i).toNat)
      case atStart => exact ⟨bl, p, Nat.le_refl _, by omega, rfl, rfl, ⟨by omega⟩, ⟨_, rfl⟩⟩
      case round =>
        obtain ⟨j, q, hj1, hj2, rfl, rfl, Hq, ⟨nd2, rfl⟩⟩ := hrel
        by_cases hlt : j < vl
        · have hjv : (j : Int) < vl := by omega
          obtain ⟨x, hx, hcase⟩ := B7'.out j hj1 hlt
          obtain ⟨b8, o8, A8, c8, rfl, f5, s8⟩ := V7.out.slice_at hx
          have h512 : x.length = 512 := B6'.out x (List.mem_of_getElem? hx)
          have hq9 : q ≤ p + 4000 := by have := Hq.out; omega
          have hqw : IntKind.i64.wrap ((q : Int) + 1) = ((q + 1 : Nat) : Int) := by rw [IntKind.wrap_i64]; omega
          by_cases hin : q < m
          · have hini : (q : Int) < m := by omega
            have hd1 : decide ((q : Int) < m) = true := by simp; omega
            have hd2 : decide ((m : Int) ≤ q) = false := by simp; omega
            have hd3 : decide (q < m) = true := by simp; omega
            have hd4 : decide (m ≤ q) = false := by simp; omega
            rw [← Hq.out, if_pos hin] at hcase
            obtain ⟨b9, o9, A9, c9, rfl, f6, s9⟩ := U7.out.slice_at hcase
            have ka : ∀ n, (convert 43 9 (.slice A8 x.length c8)).run Tryz.prog (w6.drewN n) = .ok (.string (ofL x)) (w6.drewN n) := fun n => str_of (s8.drewN n)
            have kb : ∀ n, (convert 43 9 (.slice A9 x.length c9)).run Tryz.prog (w6.drewN n) = .ok (.string (ofL x)) (w6.drewN n) := fun n => str_of (s9.drewN n)
            rw [h512] at f5 f6 ka kb
            clear hx hcase s8 s9 hlt hin
            go_wp2_with fail
            go_quiet (fail)
            go_wp2_with fail
            go_roundw
            case rel => exact ⟨j + 1, q + 1, by omega, by omega, by go_num, rfl, ⟨by have := Hq.out; omega⟩, ⟨_, rfl⟩⟩
            case measure => simp [intOf]; omega
          · have hini : ¬ (q : Int) < m := by omega
            have hd1 : decide ((q : Int) < m) = false := by simp; omega
            have hd2 : decide ((m : Int) ≤ q) = true := by simp; omega
            have hd3 : decide (q < m) = false := by simp; omega
            have hd4 : decide (m ≤ q) = true := by simp; omega
            rw [← Hq.out, if_neg hin] at hcase
            subst hcase
            have HZ := Au.mk (fun n => zeroB_calls (zeros 512) h512 zeros_any (w6.drewN n) (s8.drewN n))
            rw [h512] at f5
            clear hx s8 hlt hin
            go_wp2_with fail
            go_quiet (exact (HZ.out _).mono fun e w8 h8 => ⟨h8.1, _, h8.2.symm⟩)
            go_wp2_with fail
            go_roundw
            case rel => exact ⟨j + 1, q + 1, by omega, by omega, by go_num, rfl, ⟨by have := Hq.out; omega⟩, ⟨_, rfl⟩⟩
            case measure => simp [intOf]; omega
        · obtain rfl : j = vl := by omega
          clear hlt
          go_wp2_with fail
          go_roundw
          case rel => exact ⟨k + 1, q, by omega, by go_num, rfl, ⟨by rw [B8]; exact Hq.out⟩, ⟨below_drewN hb7.out _⟩⟩
          case measure => simp [intOf]; omega
    · obtain rfl : k = ll := by omega
      obtain ⟨d, Hd⟩ := au (en == 0)
      have hd := Hd.out
      have hd2 : decide ((m : Int) ≤ p) = d := by
        have h2 := PE'.out
        rw [← Hp.out] at h2
        have h3 : decide ((m : Int) ≤ p) = decide (m ≤ p) := by rw [decide_eq_decide]; omega
        rw [h3, ← h2, ← hd]; rfl
      have hd5 : decide (m ≤ p) = d := by rw [← hd2, decide_eq_decide]; omega
      have ef := below_then e5 Hb.out e5.size
      clear hlt
      cases d
      · go_wp2_with fail
        go_ret
        exact ⟨rfl, ef⟩
      · go_wp2_with fail
        go_ret
        exact ⟨rfl, ef⟩
end Go.Proofs.YtmjicapjkmkckaaGreatDoor.Rk
