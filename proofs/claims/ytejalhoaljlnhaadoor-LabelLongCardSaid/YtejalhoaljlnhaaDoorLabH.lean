/- Labels of volumes, walked: the document's answer: Get. -/
import Derived.Test.YtejalhoaljlnhaaDoorLabG
namespace Go.Proofs.YtejalhoaljlnhaaDoor.Rk
open Go.RowKit
set_option linter.unusedVariables false
set_option linter.unusedSimpArgs false
set_option maxRecDepth 100000

def decN (l : List UInt8) : Int := l.foldl (fun n c => 10 * n + ((c.toNat : Int) - 48)) 0
theorem decN_snoc (l : List UInt8) (c : UInt8) : decN (l ++ [c]) = 10 * decN l + ((c.toNat : Int) - 48) := by simp [decN]
theorem decN_le : ∀ l : List UInt8, l.length ≤ 3 → -23000 ≤ decN l ∧ decN l ≤ 23000
  | [], _ => ⟨by decide, by decide⟩
  | [a], _ => by have := a.toNat_lt; simp only [decN, List.foldl_cons, List.foldl_nil]; omega
  | [a, b], _ => by have := a.toNat_lt; have := b.toNat_lt; simp only [decN, List.foldl_cons, List.foldl_nil]; omega
  | [a, b, c], _ => by have := a.toNat_lt; have := b.toNat_lt; have := c.toNat_lt; simp only [decN, List.foldl_cons, List.foldl_nil]; omega
  | _ :: _ :: _ :: _ :: _, h => by simp at h
theorem decN_itoa {n : Int} (h1 : 1 ≤ n) (h2 : n ≤ 999) : decN (Lib.itoa n) = n := by
  rw [itoa_pos h1]
  obtain ⟨u, rfl⟩ := Int.eq_ofNat_of_zero_le (by omega : 0 ≤ n)
  rw [Int.toNat_natCast]
  rcases dec_lt (u := u) (by omega) with ⟨a, e⟩ | ⟨a, b, e⟩ | ⟨a, e⟩ <;> rw [e] <;> simp only [decN, List.foldl_cons, List.foldl_nil]
  · rw [digit_byte a]; omega
  · rw [digit_byte (by omega), digit_byte (by omega)]; omega
  · rw [digit_byte (by omega), digit_byte (by omega), digit_byte (by omega)]; omega
/-- What the document tries with so many bytes cut off. -/
def tryL (x : List UInt8) (d : Nat) : Option (List UInt8) := lput (x.take (x.length - d)) (decN (x.drop (x.length - d + 8)))
theorem try_found {s : List UInt8} {n : Int} {b : List UInt8} (h : lput s n = some b) : ∃ d, 9 ≤ d ∧ d ≤ 11 ∧ d < (hget b).1.name.length ∧ tryL (hget b).1.name d = some b := by
  have hs : lmay s n = true := by
    cases e : lmay s n with
    | true => rfl
    | false => rw [lput_no e] at h; cases h
  have hb := h
  rw [lput_yes hs] at hb
  injection hb with hb
  have hg := hget_block (hdL s n) (hdL_R s n) (hdL_fits hs)
  rw [hb] at hg
  have e1 : (hget b).1.name = s ++ vol ++ Lib.itoa n := by rw [hg]; rfl
  obtain ⟨a1, _, _, a4, a5⟩ := lmay_iff.1 hs
  obtain ⟨d1, d2, _⟩ := itoa_digits a4 a5
  have hv : vol.length = 8 := rfl
  have h0 : 0 < s.length := List.length_pos_iff.2 a1
  have hl : (s ++ vol ++ Lib.itoa n).length = s.length + 8 + (Lib.itoa n).length := by simp only [List.length_append, hv]
  refine ⟨8 + (Lib.itoa n).length, by omega, by omega, by rw [e1, hl]; omega, ?_⟩
  rw [e1, tryL, hl]
  rw [show s.length + 8 + (Lib.itoa n).length - (8 + (Lib.itoa n).length) = s.length by omega]
  rw [show (s ++ vol ++ Lib.itoa n).take s.length = s by rw [List.append_assoc, List.take_left]]
  rw [show (s ++ vol ++ Lib.itoa n).drop (s.length + 8) = Lib.itoa n by rw [show s.length + 8 = (s ++ vol).length by simp [hv], List.drop_left]]
  rw [decN_itoa a4 a5]
  exact h

set_option maxHeartbeats 4000000 in
theorem rlget_calls (b : List UInt8) {s : List UInt8} {n er : Int} (hg : lget b = (s, n, er)) {A : Option Addr} {c : Nat} {F : Nat → Prop} (w : World) (ha : Sl Kd.byte w F A c b) :
    Calls Tryd.prog 15 #[.slice A b.length c] w fun e w' => e = .returned (.tuple #[.string (ofL s), .int .i64 n, .int .i64 er]) ∧ Below w.heap.size w w' := by
  have hS := hget_S b
  obtain ⟨g, Hg⟩ := au (hget b).1
  obtain ⟨ee, He⟩ := au (hget b).2
  rw [Hg.out] at hS
  have hl2 := hS.1
  have Ha := Au.mk ha
  have Hres := Au.mk hg
  by_cases h0 : ee = 0
  · subst h0
    obtain ⟨x, Hx⟩ := au g.name
    rw [Hx.out] at hl2
    have hz : (ofL x).size = x.length := ofL_size _
    have Hxb : Au ((hget b).1.name = x) := ⟨by rw [Hg.out, Hx.out]⟩
    clear hg hS ha
    go_enter Tryd.func15, Tryd.ntmps15
    go_wp2_with fail
    refine (rget04_view b Hg.out He.out _ Ha.out).mono ?_
    rintro e w1 ⟨rfl, b1⟩
    unfold Hd.agg
    go_upto_region 4 with fail
    generalize hW : World.alloc w1 _ = W2
    have G2 : Au (W2.heap[w1.heap.size]? = some (.cells g.cells.toArray 35 (0, 0))) := ⟨by rw [← hW]; exact heap_alloc_new _ _⟩
    have e2 : Below w.heap.size w W2 := by rw [← hW]; exact b1.alloc b1.size _
    clear hW b1
    go_wp2_with fail
    go_loopw [7] (fun dv wr => ∃ k : Nat, 9 ≤ k ∧ k ≤ 12 ∧ dv = .int .i64 k ∧ Au (wr.heap[w1.heap.size]? = some (.cells g.cells.toArray 35 (0, 0))) ∧ Below w.heap.size w wr ∧ Au (∀ d, 9 ≤ d → d < k → d < x.length → tryL x d ≠ some b)) (fun dv _ => 12 - (intOf dv).toNat)
    case atStart => exact ⟨9, by omega, by omega, rfl, G2, e2, ⟨fun d h1 h2 => by omega⟩⟩
    case round =>
      obtain ⟨k, hk9, hk12, rfl, G3, e3, Hno⟩ := hrel
      have k0 := blk_cell G3.out 0 rfl
      rw [Hx.out] at k0
      have out : (k = 12 ∨ x.length ≤ k) → lget b = ([], 0, 11) := fun hor => by
        rcases lget_cases b with ⟨h1, _⟩ | ⟨_, s', n', h2, h3⟩ | ⟨_, h2, _⟩
        · exact absurd He.out h1
        · obtain ⟨d, d1, d2, d3, d4⟩ := try_found h3
          rw [Hxb.out] at d3 d4
          exact absurd d4 (Hno.out d d1 (by omega) d3)
        · exact h2
      have Out := Au.mk out
      clear out
      by_cases hk : k ≤ 11
      · by_cases hlt : k < x.length
        · obtain ⟨q, hq⟩ : ∃ q, x.length - k = q := ⟨_, rfl⟩
          have hqi : (x.length : Int) - (k : Int) = (q : Int) := by omega
          have hql : q + k = x.length := by omega
          obtain ⟨lb, Hlb⟩ := au (x.take q)
          have hx1 : (ofL x).extract 0 q = ofL lb := by rw [ofL_extract, ← Hlb.out]; simp
          have hlb : lb.length ≤ 1000 := by rw [← Hlb.out, List.length_take]; omega
          have hqz : (q : Int) ≤ x.length := by omega
          have hq8 : q + 8 ≤ x.length := by omega
          have hkc : (k : Int) < (x.length : Int) := by omega
          have hkd : decide ((k : Int) < (x.length : Int)) = true := by simpa using hkc
          clear hq
          go_wp2_with fail
          go_loop [9, 10] (fun nv iv => ∃ (i : Nat) (m : Int), q + 8 ≤ i ∧ i ≤ x.length ∧ iv = .int .i64 i ∧ nv = .int .i64 m ∧ -23000 ≤ m ∧ m ≤ 23000 ∧ Au (m = decN ((x.take i).drop (q + 8)))) (fun _ iv => x.length - (intOf iv).toNat)
          case atStart =>
            refine ⟨q + 8, 0, Nat.le_refl _, hq8, ?_, rfl, by decide, by decide, ⟨?_⟩⟩
            · first | rfl | (congr 1; omega) | simp
            · rw [List.drop_take]; simp [decN]
          case round =>
            obtain ⟨i, m, hi8, hil, rfl, rfl, hm1, hm2, Hm⟩ := hrel
            by_cases hi : i < x.length
            · have hi2 : i < (ofL x).size := by rw [ofL_size]; exact hi
              obtain ⟨y, hy⟩ : ∃ y, (ofL x)[i] = y := ⟨_, rfl⟩
              have hyx : x[i]'hi = y := by rw [← hy]; rfl
              have hyl := y.toNat_lt
              have hnext : (x.take (i + 1)).drop (q + 8) = (x.take i).drop (q + 8) ++ [y] := by
                rw [List.take_succ_eq_append_getElem hi, hyx, List.drop_append_of_le_length (by rw [List.length_take]; omega)]
              have hm' : decN ((x.take (i + 1)).drop (q + 8)) = 10 * m + ((y.toNat : Int) - 48) := by rw [hnext, decN_snoc, Hm.out]
              have hb3 := decN_le ((x.take (i + 1)).drop (q + 8)) (by rw [List.length_drop, List.length_take]; omega)
              rw [hm'] at hb3
              have Hm' := Au.mk hm'
              obtain ⟨hb31, hb32⟩ := hb3
              clear hnext hm' hyx
              go_wp2_with fail
              go_round
              case rel =>
                refine ⟨i + 1, 10 * m + ((y.toNat : Int) - 48), by omega, by omega, by go_num, ?_, hb31, hb32, ⟨Hm'.out.symm⟩⟩
                first | rfl | go_num | (congr 1; omega)
              case measure => simp [intOf]; omega
            · have hii : i = x.length := by omega
              have Hm2 : Au (tryL x k = lput lb m) := ⟨by
                rw [tryL, show x.length - k = q by omega, Hlb.out, Hm.out, hii, List.take_length]⟩
              obtain ⟨p, Hp⟩ := au ((lput lb m).getD [])
              obtain ⟨bb, Hbb⟩ := au ((lput lb m).isSome)
              obtain ⟨r2, Hr2⟩ := au (p == b)
              have hgood : (lput lb m = some b) = (bb = true ∧ r2 = true) := by
                rw [← Hbb.out, ← Hr2.out, ← Hp.out]
                cases lput lb m <;> simp
              have Hgood := Au.mk hgood
              have hmR : R64 m := ⟨by omega, by omega⟩
              clear hgood hii
              go_wp2_with fail
              refine (rlput_calls lb m hlb hmR Hp.out Hbb.out _).mono ?_
              rintro e w5 ⟨A5, c5, rfl, s5, b5⟩
              have e5 := below_then e3 b5 e3.size
              have G5 := Au.mk (blk_below G3.out b5 (lt_of_block G3.out))
              have t1 := str_of s5
              have t2 := str_of (Ha.out.below e5)
              have hr2 := Hr2.out
              clear b5 k0
              have fail_rel : ¬ (bb = true ∧ r2 = true) → ∀ d, 9 ≤ d → d < k + 1 → d < x.length → tryL x d ≠ some b := fun hne d h1 h2 h3 => by
                by_cases hdk : d = k
                · subst hdk
                  rw [Hm2.out]
                  intro h4
                  rw [Hgood.out] at h4
                  exact hne h4
                · exact Hno.out d h1 (by omega) h3
              have Frel := Au.mk fail_rel
              clear fail_rel
              cases bb
              · go_wp2_with fail
                go_roundw
                case rel => exact ⟨k + 1, by omega, by omega, by go_num, G5, e5, ⟨Frel.out (by simp)⟩⟩
                case measure => simp [intOf]; omega
              · cases r2
                · go_wp2_with fail
                  go_roundw
                  case rel => exact ⟨k + 1, by omega, by omega, by go_num, G5, e5, ⟨Frel.out (by simp)⟩⟩
                  case measure => simp [intOf]; omega
                · have hwin : lput lb m = some b := by rw [Hgood.out]; simp
                  have hfin := lget_put hwin
                  rw [Hres.out] at hfin
                  injection hfin with h5 h6
                  injection h6 with h6 h7
                  have H5 := Au.mk h5
                  have H6 := Au.mk h6
                  have H7 := Au.mk h7
                  clear hwin h5 h6 h7
                  go_wp2_with fail
                  go_ret3
                  exact ⟨by rw [H5.out, H6.out, H7.out]; rfl, e5⟩
        · have hkd : decide ((k : Int) < (x.length : Int)) = false := by simp; omega
          have hfin := Out.out (.inr (by omega))
          rw [Hres.out] at hfin
          injection hfin with h5 h6
          injection h6 with h6 h7
          have H5 := Au.mk h5
          have H6 := Au.mk h6
          have H7 := Au.mk h7
          have hkn : decide (k < x.length) = false := by simpa using hlt
          have hkj : (x.length : Int) ≤ (k : Int) := by omega
          clear h5 h6 h7
          go_wp2_with fail
          go_ret3
          exact ⟨by rw [H5.out, H6.out, H7.out]; rfl, e3⟩
      · have hfin := Out.out (.inl (by omega))
        rw [Hres.out] at hfin
        injection hfin with h5 h6
        injection h6 with h6 h7
        have H5 := Au.mk h5
        have H6 := Au.mk h6
        have H7 := Au.mk h7
        clear h5 h6 h7
        go_wp2_with fail
        go_ret3
        exact ⟨by rw [H5.out, H6.out, H7.out]; rfl, e3⟩
  · unfold lget at hg
    rw [He.out, if_neg h0] at hg
    injection hg with h5 h6
    injection h6 with h6 h7
    have h0b : (ee != 0) = true := by simpa using h0
    have H5 := Au.mk h5
    have H6 := Au.mk h6
    have H7 := Au.mk h7
    clear h5 h6 h7 h0 hS ha Hres
    go_enter Tryd.func15, Tryd.ntmps15
    go_wp2_with fail
    refine (rget04_view b Hg.out He.out _ Ha.out).mono ?_
    rintro e w1 ⟨rfl, b1⟩
    unfold Hd.agg
    go_wp2_with fail
    go_ret3
    exact ⟨by rw [← H5.out, ← H6.out, ← H7.out]; rfl, b1.alloc b1.size _⟩
end Go.Proofs.YtejalhoaljlnhaaDoor.Rk
