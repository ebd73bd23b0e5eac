/- Check: which tapes are so: the iterator, walked, at the two functions that are handed to it. -/
import Derived.Test.YtldhcknjpmbgnaaGreatDoorCkC
import Derived.Test.YtldhcknjpmbgnaaGreatDoorLawDE
namespace Go.Proofs.YtldhcknjpmbgnaaGreatDoor.Rk
open Go.RowKit Go.Shelf
attribute [local go_sem] Oper.semAt_some
set_option linter.unusedVariables false
set_option linter.unusedSimpArgs false
set_option maxRecDepth 100000

theorem such_calls (A : Option Addr) (n c : Nat) (gf : FuncId) (caps : Array Value) (w : World) : Calls Tryz.prog 35 #[.slice A n c, .func (.func gf) #[] caps] w fun e w' => e = .returned (.func (.func 55) #[] #[.pointer (some ⟨w.heap.size, 0, none⟩), .pointer (some ⟨w.heap.size + 1, 0, none⟩)]) ∧
    (w.alloc (.cells #[.slice A n c] 26)).alloc (.cells #[.func (.func gf) #[] caps] 77) = w' := by
  have hmf : ∀ (fn : Fn) (first cap : Array Value) (w : World), (Instr.makeFunc fn first cap).run Tryz.prog w = .ok (.func fn first cap) w := fun _ _ _ _ => rfl
  go_enter Tryz.func35, Tryz.ntmps35
  go_wp2_with fail
  go_ret
  exact ⟨rfl, rfl⟩
theorem places_snoc {p : Tp → Bool} : ∀ (l : List Tp) (j k : Nat) (t : Tp), l[k]? = some t → placesT p j (l.take (k + 1)) = placesT p j (l.take k) ++ (if p t = true then [j + k] else [])
  | [], j, k, t, h => by simp at h
  | a :: l, j, 0, t, h => by
    have : a = t := by simpa using h
    subst this
    simp [placesT]
  | a :: l, j, k + 1, t, h => by
    have ih := places_snoc (p := p) l (j + 1) k t (by simpa using h)
    rw [List.take_succ_cons, List.take_succ_cons]
    unfold placesT
    rw [ih]
    split
    · rw [List.cons_append]
      congr 2
      split
      · rw [show j + 1 + k = j + (k + 1) by omega]
      · rfl
    · congr 1
      split
      · rw [show j + 1 + k = j + (k + 1) by omega]
      · rfl
set_option maxHeartbeats 2000000 in
theorem such_walkF {L n q1 q2 : Nat} (l : List Tp) (p : Tp → Bool) {A : Option Addr} {c : Nat} {F : Nat → Prop} (J : Nat → World → Prop) (Jx : World → Prop)
    (hC : ∀ k W, J k W → W.heap[n]? = some (.cells #[.slice A l.length c] 26 (0, 0)) ∧ W.heap[n + 1]? = some (.cells #[.func (.func 38) #[] #[.pointer (some ⟨q1, 0, none⟩), .pointer (some ⟨q2, 0, none⟩)]] 77 (0, 0)) ∧ Sl Kd.tp W F A c l)
    (hB : ∀ k W V, J k W → Below W.heap.size W V → J k V) (hN : ∀ k t W, l[k]? = some t → p t = false → J k W → J (k + 1) W)
    (hI : ∀ k t W A' c' m r, l[k]? = some t → t.recs.length = m → J k W → Sl (Kd.slice Kd.byte) W F A' c' t.recs → R64 t.cap → p t = r → Calls Tryz.prog 38 #[.agg #[.int .i64 t.cap, .slice A' m c', .bool t.mark], .pointer (some ⟨q1, 0, none⟩), .pointer (some ⟨q2, 0, none⟩)] W fun e W' => e = .returned (.bool r) ∧ Below W.heap.size W W')
    (hY : ∀ k t W, l[k]? = some t → p t = true → J k W → YieldAt Fence.wide 0 Tryz.prog L #[.int .i64 (k : Int)] W fun e W' => (e = .returned (.bool true) ∧ J (k + 1) W') ∨ (e = .returned (.bool false) ∧ Jx W'))
    (W1 : World) (h0 : J 0 W1) :
    CallsIn Fence.wide 0 Tryz.prog 55 #[.func (.yield L) #[] #[], .pointer (some ⟨n, 0, none⟩), .pointer (some ⟨n + 1, 0, none⟩)] W1 fun e W' => (∃ v, e = .returned v) ∧ (J l.length W' ∨ Jx W') := by
  have HC := Au.mk hC
  have HB := Au.mk hB
  have HY := Au.mk hY
  have HN := Au.mk hN
  have HI := Au.mk hI
  have H0 := Au.mk h0
  obtain ⟨hbox, hbox2, hsl⟩ := hC 0 W1 h0
  have hle := hsl.le
  have c1 := cell_of_one hbox
  have c2 := cell_of_one hbox2
  clear hC hB hY hN hI h0 hbox hbox2 hsl
  refine callsIn_of_wp Tryz.func55 rfl trivial ?_ rfl
  simp only [Tryz.ntmps55, List.size_toArray, List.length_cons, List.length_nil, Nat.reduceAdd, Nat.reduceSub, Array.replicate_succ, Array.replicate_zero, List.push_toArray, List.append_toArray, List.nil_append, List.cons_append]
  gi_wp2_with fail
  gi_loopw [8] (fun i wr => ∃ k : Nat, k ≤ l.length ∧ i = .int .i64 k ∧ Au (J k wr)) (fun i _ => l.length - (intOf i).toNat)
  case atStart => exact ⟨0, Nat.zero_le _, rfl, H0⟩
  case round =>
    obtain ⟨k, hk, rfl, HJ⟩ := hrel
    clear c1 c2
    by_cases hlt : k < l.length
    · obtain ⟨t, hn⟩ : ∃ t, l[k]? = some t := ⟨_, List.getElem?_eq_getElem hlt⟩
      obtain ⟨hbox, hbox2, hsl⟩ := HC.out k wr HJ.out
      obtain ⟨b, o, A', c', rfl, hR, f0, f1, f2, sr⟩ := hsl.tp_at hn
      obtain ⟨m, Hm⟩ := au t.recs.length
      rw [Hm.out] at f1
      have hb1 : Below wr.heap.size wr (wr.alloc (.cells #[.int .i64 t.cap, .slice A' m c', .bool t.mark] 38)) := (Below.refl _ _).alloc (Nat.le_refl _) _
      have J1 := Au.mk (HB.out k wr _ HJ.out hb1)
      have X1 : Au ((wr.alloc (.cells #[.int .i64 t.cap, .slice A' m c', .bool t.mark] 38)).heap[wr.heap.size]? = some (.cells #[.int .i64 t.cap, .slice A' m c', .bool t.mark] 38 (0, 0))) := ⟨heap_alloc_new _ _⟩
      have g0 := blk_cell X1.out 0 rfl
      have g1 := blk_cell X1.out 1 rfl
      have g2 := blk_cell X1.out 2 rfl
      have c2 := cell_of_one (blk_below hbox2 hb1 (lt_of_block hbox2))
      have c1 := cell_of_one hbox
      obtain ⟨r, Hr⟩ := au (p t)
      have CI := Au.mk (HI.out k t _ A' c' m r hn Hm.out J1.out (sr.below hb1) hR Hr.out)
      have Hn := Au.mk hn
      have e0 : Au (Below wr.heap.size wr (wr.alloc (.cells #[.int .i64 t.cap, .slice A' m c', .bool t.mark] 38))) := ⟨hb1⟩
      clear hbox hbox2 hsl hR sr hn hb1
      gi_wp2_with fail
      refine ⟨trivial, rfl, (callsIn_wide.2 CI.out).mono ?_⟩
      rintro e W3 ⟨rfl, b3⟩
      have J3 := Au.mk (HB.out k _ W3 J1.out b3)
      clear f0 f1 f2 g0 g1 g2 c1 c2 X1 b3 CI
      cases r
      · gi_wp2_with fail
        refine ⟨fun _ h => (by cases h), ?_⟩
        gi_wp2_with fail
        go_roundw
        case rel => exact ⟨k + 1, by omega, by go_num, ⟨HN.out k t W3 Hn.out Hr.out J3.out⟩⟩
        case measure => simp [intOf]; omega
      · have YK := Au.mk (HY.out k t W3 Hn.out Hr.out J3.out)
        gi_wp2_with fail
        refine upon_yield YK.out ?_
        rintro e W4 (⟨rfl, hj4⟩ | ⟨rfl, hj4⟩)
        · refine ⟨_, rfl, ?_⟩
          have HJ4 := Au.mk hj4
          clear hj4 YK
          gi_wp2_with fail
          go_roundw
          case rel => exact ⟨k + 1, by omega, by go_num, HJ4⟩
          case measure => simp [intOf]; omega
        · refine ⟨_, rfl, ?_⟩
          have HJ4 := Au.mk hj4
          clear hj4 YK
          gi_wp2_with fail
          refine bodyPost_ret (results_none rfl _ _ _) rfl ?_
          exact ⟨⟨_, rfl⟩, .inr HJ4.out⟩
    · obtain rfl : k = l.length := by omega
      gi_wp2_with fail
      go_end0
      exact ⟨⟨_, rfl⟩, .inl HJ.out⟩
set_option maxHeartbeats 2000000 in
theorem such_walkN {L n q1 q2 q3 : Nat} (l : List Tp) (p : Tp → Bool) {A : Option Addr} {c : Nat} {F : Nat → Prop} (J : Nat → World → Prop) (Jx : World → Prop)
    (hC : ∀ k W, J k W → W.heap[n]? = some (.cells #[.slice A l.length c] 26 (0, 0)) ∧ W.heap[n + 1]? = some (.cells #[.func (.func 36) #[] #[.pointer (some ⟨q1, 0, none⟩), .pointer (some ⟨q2, 0, none⟩), .pointer (some ⟨q3, 0, none⟩)]] 77 (0, 0)) ∧ Sl Kd.tp W F A c l)
    (hB : ∀ k W V, J k W → Below W.heap.size W V → J k V) (hN : ∀ k t W, l[k]? = some t → p t = false → J k W → J (k + 1) W)
    (hI : ∀ k t W A' c' m r, l[k]? = some t → t.recs.length = m → J k W → Sl (Kd.slice Kd.byte) W F A' c' t.recs → R64 t.cap → p t = r → Calls Tryz.prog 36 #[.agg #[.int .i64 t.cap, .slice A' m c', .bool t.mark], .pointer (some ⟨q1, 0, none⟩), .pointer (some ⟨q2, 0, none⟩), .pointer (some ⟨q3, 0, none⟩)] W fun e W' => e = .returned (.bool r) ∧ Below W.heap.size W W')
    (hY : ∀ k t W, l[k]? = some t → p t = true → J k W → YieldAt Fence.wide 0 Tryz.prog L #[.int .i64 (k : Int)] W fun e W' => (e = .returned (.bool true) ∧ J (k + 1) W') ∨ (e = .returned (.bool false) ∧ Jx W'))
    (W1 : World) (h0 : J 0 W1) :
    CallsIn Fence.wide 0 Tryz.prog 55 #[.func (.yield L) #[] #[], .pointer (some ⟨n, 0, none⟩), .pointer (some ⟨n + 1, 0, none⟩)] W1 fun e W' => (∃ v, e = .returned v) ∧ (J l.length W' ∨ Jx W') := by
  have HC := Au.mk hC
  have HB := Au.mk hB
  have HY := Au.mk hY
  have HN := Au.mk hN
  have HI := Au.mk hI
  have H0 := Au.mk h0
  obtain ⟨hbox, hbox2, hsl⟩ := hC 0 W1 h0
  have hle := hsl.le
  have c1 := cell_of_one hbox
  have c2 := cell_of_one hbox2
  clear hC hB hY hN hI h0 hbox hbox2 hsl
  refine callsIn_of_wp Tryz.func55 rfl trivial ?_ rfl
  simp only [Tryz.ntmps55, List.size_toArray, List.length_cons, List.length_nil, Nat.reduceAdd, Nat.reduceSub, Array.replicate_succ, Array.replicate_zero, List.push_toArray, List.append_toArray, List.nil_append, List.cons_append]
  gi_wp2_with fail
  gi_loopw [8] (fun i wr => ∃ k : Nat, k ≤ l.length ∧ i = .int .i64 k ∧ Au (J k wr)) (fun i _ => l.length - (intOf i).toNat)
  case atStart => exact ⟨0, Nat.zero_le _, rfl, H0⟩
  case round =>
    obtain ⟨k, hk, rfl, HJ⟩ := hrel
    clear c1 c2
    by_cases hlt : k < l.length
    · obtain ⟨t, hn⟩ : ∃ t, l[k]? = some t := ⟨_, List.getElem?_eq_getElem hlt⟩
      obtain ⟨hbox, hbox2, hsl⟩ := HC.out k wr HJ.out
      obtain ⟨b, o, A', c', rfl, hR, f0, f1, f2, sr⟩ := hsl.tp_at hn
      obtain ⟨m, Hm⟩ := au t.recs.length
      rw [Hm.out] at f1
      have hb1 : Below wr.heap.size wr (wr.alloc (.cells #[.int .i64 t.cap, .slice A' m c', .bool t.mark] 38)) := (Below.refl _ _).alloc (Nat.le_refl _) _
      have J1 := Au.mk (HB.out k wr _ HJ.out hb1)
      have X1 : Au ((wr.alloc (.cells #[.int .i64 t.cap, .slice A' m c', .bool t.mark] 38)).heap[wr.heap.size]? = some (.cells #[.int .i64 t.cap, .slice A' m c', .bool t.mark] 38 (0, 0))) := ⟨heap_alloc_new _ _⟩
      have g0 := blk_cell X1.out 0 rfl
      have g1 := blk_cell X1.out 1 rfl
      have g2 := blk_cell X1.out 2 rfl
      have c2 := cell_of_one (blk_below hbox2 hb1 (lt_of_block hbox2))
      have c1 := cell_of_one hbox
      obtain ⟨r, Hr⟩ := au (p t)
      have CI := Au.mk (HI.out k t _ A' c' m r hn Hm.out J1.out (sr.below hb1) hR Hr.out)
      have Hn := Au.mk hn
      have e0 : Au (Below wr.heap.size wr (wr.alloc (.cells #[.int .i64 t.cap, .slice A' m c', .bool t.mark] 38))) := ⟨hb1⟩
      clear hbox hbox2 hsl hR sr hn hb1
      gi_wp2_with fail
      refine ⟨trivial, rfl, (callsIn_wide.2 CI.out).mono ?_⟩
      rintro e W3 ⟨rfl, b3⟩
      have J3 := Au.mk (HB.out k _ W3 J1.out b3)
      clear f0 f1 f2 g0 g1 g2 c1 c2 X1 b3 CI
      cases r
      · gi_wp2_with fail
        refine ⟨fun _ h => (by cases h), ?_⟩
        gi_wp2_with fail
        go_roundw
        case rel => exact ⟨k + 1, by omega, by go_num, ⟨HN.out k t W3 Hn.out Hr.out J3.out⟩⟩
        case measure => simp [intOf]; omega
      · have YK := Au.mk (HY.out k t W3 Hn.out Hr.out J3.out)
        gi_wp2_with fail
        refine upon_yield YK.out ?_
        rintro e W4 (⟨rfl, hj4⟩ | ⟨rfl, hj4⟩)
        · refine ⟨_, rfl, ?_⟩
          have HJ4 := Au.mk hj4
          clear hj4 YK
          gi_wp2_with fail
          go_roundw
          case rel => exact ⟨k + 1, by omega, by go_num, HJ4⟩
          case measure => simp [intOf]; omega
        · refine ⟨_, rfl, ?_⟩
          have HJ4 := Au.mk hj4
          clear hj4 YK
          gi_wp2_with fail
          refine bodyPost_ret (results_none rfl _ _ _) rfl ?_
          exact ⟨⟨_, rfl⟩, .inr HJ4.out⟩
    · obtain rfl : k = l.length := by omega
      gi_wp2_with fail
      go_end0
      exact ⟨⟨_, rfl⟩, .inl HJ.out⟩
end Go.Proofs.YtldhcknjpmbgnaaGreatDoor.Rk
