/- LabT: LabC LabD LabE LabF -/
import Derived.Test.YtldhcknjpmbgnaaGreatDoorLabS
import Derived.Test.YtldhcknjpmbgnaaGreatDoorShelf
import Derived.Lib.AppendIntMem
import Derived.Lib.OthersKept
import Derived.Laws.RangeAny
/- Labels of volumes, walked: May, Name, Put. -/
namespace Go.Proofs.YtldhcknjpmbgnaaGreatDoor.Rk
open Go.RowKit
set_option linter.unusedVariables false
set_option linter.unusedSimpArgs false
set_option maxRecDepth 100000

/-- The library's table of powers of ten is as its text has it. -/
def Tab (w : World) : Prop := Lib.TabIs Tryz.prog w "internal/strconv.uint64pow10" .u64 Lib.pow10Tab
theorem Tab.below {w w' : World} (h : Tab w) (hb : Below w.heap.size w w') : Tab w' := by
  unfold Tab Lib.TabIs World.var? at *
  cases hg : Tryz.prog.globalNamed "internal/strconv.uint64pow10" with
  | none => rw [hg] at h; cases h
  | some g =>
    rw [hg] at h
    simp only [Option.bind_some] at h ⊢
    by_cases hlt : g < w.heap.size
    · rw [hb.block g hlt]; exact h
    · rw [Array.getElem?_eq_none (by omega)] at h; cases h
theorem itoa_calls {n : Int} (hn : R64 n) {d : List UInt8} (hd : Lib.itoa n = d) (w : World) (ht : Tab w) :
    Calls Tryz.prog 152 #[.int .i64 n] w fun e w' => e = .returned (.string (ofL d)) ∧ Below w.heap.size w w' := by
  subst hd
  refine (Tryz.strconv_Itoa n hn.1 (by have := hn.2; omega) w ht).mono ?_
  rintro e w' ⟨h1, k, os, rfl⟩
  exact ⟨h1, Lib.below_grow _ w (Nat.le_refl _) k os⟩
theorem lmay_calls (s : List UInt8) (n : Int) {r : Bool} (hr : lmay s n = r) (w : World) :
    Calls Tryz.prog 111 #[.string (ofL s), .int .i64 n] w fun e w' => e = .returned (.bool r) ∧ w = w' := by
  obtain ⟨a1, A1⟩ := au (s == [])
  obtain ⟨a2, A2⟩ := au (decide (s.length ≤ 88))
  obtain ⟨a3, A3⟩ := au (!s.contains 0)
  obtain ⟨a4, A4⟩ := au (decide (1 ≤ n))
  obtain ⟨a5, A5⟩ := au (decide (n ≤ 999))
  obtain ⟨i, Hi⟩ := au (Lib.indexByte s 0)
  unfold lmay at hr
  rw [A1.out, A2.out, A3.out, A4.out, A5.out] at hr
  have hsz := ofL_size s
  have c1 := A1.out
  have c2 := A2.out
  have c2i : decide ((s.length : Int) ≤ 88) = a2 := by rw [← c2]; simp only [decide_eq_decide]; omega
  have c3 : decide (i < 0) = a3 := by
    have h1 := indexByte_mem s 0
    rw [Hi.out] at h1
    rw [← A3.out, Bool.eq_iff_iff]
    simp [h1]
  have c4 := A4.out
  have c5 := A5.out
  have Hr := Au.mk hr
  clear hr
  cases a1
  case true =>
    go_enter Tryz.func111, Tryz.ntmps111
    go_wp2_with fail
    go_ret
    exact ⟨ret_bool (by rw [← Hr.out]; rfl), rfl⟩
  case false =>
    cases a2
    case false =>
      go_enter Tryz.func111, Tryz.ntmps111
      go_wp2_with fail
      go_ret
      exact ⟨ret_bool (by rw [← Hr.out]; rfl), rfl⟩
    case true =>
      cases a3 <;> cases a4 <;> cases a5
      all_goals
        go_enter Tryz.func111, Tryz.ntmps111
        go_wp2_with fail
        refine (index_is Hi.out _).mono ?_
        rintro e w1 ⟨rfl, rfl⟩
        go_wp2_with fail
        go_ret
        exact ⟨ret_bool (by rw [← Hr.out]; rfl), rfl⟩
theorem lname_calls (s : List UInt8) (n : Int) (hn : R64 n) {x : List UInt8} {r : Bool} (hr : lmay s n = r) (hx : (if lmay s n then lname s n else []) = x) (w : World) (ht : Tab w) :
    Calls Tryz.prog 106 #[.string (ofL s), .int .i64 n] w fun e w' => e = .returned (.tuple #[.string (ofL x), .bool r]) ∧ Below w.heap.size w w' := by
  have Hr := Au.mk hr
  have Ht := Au.mk ht
  rw [hr] at hx
  cases r
  case false =>
    have hx2 : [] = x := by simpa using hx
    subst hx2
    clear hr hx ht
    go_enter Tryz.func106, Tryz.ntmps106
    go_wp2_with fail
    refine (lmay_calls s n Hr.out _).mono ?_
    rintro e w1 ⟨rfl, rfl⟩
    go_wp2_with fail
    go_ret2
    exact ⟨rfl, Below.refl _ _⟩
  case true =>
    have hx2 : lname s n = x := by simpa using hx
    obtain ⟨_, a2, _, a4, a5⟩ := lmay_iff.1 hr
    obtain ⟨_, d2, _⟩ := itoa_digits a4 a5
    obtain ⟨d, Hd⟩ := au (Lib.itoa n)
    rw [Hd.out] at d2
    have h1 : ofL s ++ (⟨#[32, 86, 111, 108, 117, 109, 101, 32]⟩ : ByteArray) = ofL (s ++ vol) := ofL_append s vol
    have h2 : ofL (s ++ vol) ++ ofL d = ofL x := by rw [ofL_append, ← Hd.out, ← hx2]; rfl
    have z1 : (ofL s).size = s.length := ofL_size _
    have z2 : (ofL (s ++ vol)).size = s.length + 8 := by rw [ofL_size, List.length_append]; rfl
    have z3 : (ofL d).size = d.length := ofL_size _
    clear hr hx hx2 ht a4 a5
    go_enter Tryz.func106, Tryz.ntmps106
    go_wp2_with fail
    refine (lmay_calls s n Hr.out _).mono ?_
    rintro e w1 ⟨rfl, rfl⟩
    go_wp2_with fail
    refine (itoa_calls hn Hd.out _ Ht.out).mono ?_
    rintro e w2 ⟨rfl, b2⟩
    go_wp2_with fail
    go_ret2
    exact ⟨rfl, b2⟩
theorem lput_calls (s : List UInt8) (n : Int) (hn : R64 n) {p : List UInt8} {b : Bool} (hp : (lput s n).getD [] = p) (hb : (lput s n).isSome = b) (w : World) (ht : Tab w) :
    Calls Tryz.prog 61 #[.string (ofL s), .int .i64 n] w fun e w' => ∃ A c, e = .returned (.tuple #[.slice A p.length c, .bool b]) ∧ Sl Kd.byte w' (fun k => w.heap.size ≤ k) A c p ∧ Below w.heap.size w w' := by
  obtain ⟨r, Hr⟩ := au (lmay s n)
  obtain ⟨x, Hx⟩ := au (if lmay s n then lname s n else [])
  have Ht := Au.mk ht
  have Hp := Au.mk hp
  have Hb := Au.mk hb
  clear hp hb ht
  cases r
  case false =>
    have h1 : p = [] := by rw [← Hp.out, lput_no Hr.out]; rfl
    have h2 : b = false := by rw [← Hb.out, lput_no Hr.out]; rfl
    subst h1 h2
    go_enter Tryz.func61, Tryz.ntmps61
    go_wp2_with fail
    refine (lname_calls s n hn Hr.out Hx.out _ Ht.out).mono ?_
    rintro e w1 ⟨rfl, b1⟩
    go_wp2_with fail
    go_ret2
    exact ⟨none, 0, rfl, Sl.nil _ _ _, b1⟩
  case true =>
    have hx : x = (hdL s n).name := by rw [← Hx.out, if_pos Hr.out]; rfl
    have h1 : Au ((hput (hdL s n)).getD [] = p) := ⟨by rw [← Hp.out]; unfold lput; rw [if_pos Hr.out]⟩
    have h2 : Au ((hput (hdL s n)).isSome = b) := ⟨by rw [← Hb.out]; unfold lput; rw [if_pos Hr.out]⟩
    subst hx
    go_enter Tryz.func61, Tryz.ntmps61
    go_wp2_with fail
    refine (lname_calls s n hn Hr.out Hx.out _ Ht.out).mono ?_
    rintro e w1 ⟨rfl, b1⟩
    go_wp2_with fail
    refine (hput_view (hdL s n) (hdL_R s n) h1.out h2.out _).mono ?_
    rintro e w2 ⟨A, c, rfl, s2, b2⟩
    go_wp2_with fail
    go_ret2
    exact ⟨A, c, rfl, s2.mono (by intro k hk; have := b1.size; omega), bt b1 b2⟩
end Go.Proofs.YtldhcknjpmbgnaaGreatDoor.Rk
/- Labels of volumes, walked: number. -/
namespace Go.Proofs.YtldhcknjpmbgnaaGreatDoor.Rk
open Go.RowKit
set_option linter.unusedVariables false
set_option linter.unusedSimpArgs false
set_option maxRecDepth 100000

theorem decode_high (s : ByteArray) (pos : Nat) (h : pos < s.size) (ha : 128 ≤ (s[pos]'h).toNat) : 128 ≤ (Utf8.decode s pos).1 := by
  have hg : s.get! (pos + 0) = s[pos] := by
    rw [Nat.add_zero]
    simp [ByteArray.get!, h]
    rfl
  unfold Utf8.decode
  dsimp only
  have ha' : 128 ≤ (s.get! (pos + 0)).toNat := by rw [hg]; exact ha
  rw [if_neg (by omega)]
  repeat' split
  all_goals first | (show 128 ≤ 65533; decide) | (simp only [Bool.and_eq_true, decide_eq_true_eq] at *; omega)
theorem more_calls (r n : Int) (p : Addr) (w : World) (hc : w.cell? p = some (.int .i64 n)) (hf : w.frozen? p = false) (h0 : 0 ≤ n) (h1 : n ≤ 9999) :
    Calls Tryz.prog 105 #[.int .i32 r, .pointer (some p)] w fun e w' => if r < 48 ∨ 57 < r ∨ 999 < n then e = .returned (.bool false) ∧ w' = w else e = .returned (.bool true) ∧ w' = w.setCell p (.int .i64 (10 * n + (r - 48))) := by
  by_cases c1 : r < 48
  · rw [show (fun (e : Ending) (w' : World) => if r < 48 ∨ 57 < r ∨ 999 < n then e = .returned (.bool false) ∧ w' = w else e = .returned (.bool true) ∧ w' = w.setCell p (.int .i64 (10 * n + (r - 48)))) = fun e w' => e = .returned (.bool false) ∧ w' = w from by funext e w'; rw [if_pos (.inl c1)]]
    go_enter Tryz.func105, Tryz.ntmps105
    go_wp2_with fail
    go_ret
    exact ⟨rfl, rfl⟩
  · by_cases c2 : 57 < r
    · rw [show (fun (e : Ending) (w' : World) => if r < 48 ∨ 57 < r ∨ 999 < n then e = .returned (.bool false) ∧ w' = w else e = .returned (.bool true) ∧ w' = w.setCell p (.int .i64 (10 * n + (r - 48)))) = fun e w' => e = .returned (.bool false) ∧ w' = w from by funext e w'; rw [if_pos (.inr (.inl c2))]]
      have d1 : decide (r < 48) = false := by simpa using c1
      go_enter Tryz.func105, Tryz.ntmps105
      go_wp2_with fail
      go_ret
      exact ⟨rfl, rfl⟩
    · have d1 : decide (r < 48) = false := by simpa using c1
      have d2 : decide (57 < r) = false := by simpa using c2
      by_cases c3 : 999 < n
      · rw [show (fun (e : Ending) (w' : World) => if r < 48 ∨ 57 < r ∨ 999 < n then e = .returned (.bool false) ∧ w' = w else e = .returned (.bool true) ∧ w' = w.setCell p (.int .i64 (10 * n + (r - 48)))) = fun e w' => e = .returned (.bool false) ∧ w' = w from by funext e w'; rw [if_pos (.inr (.inr c3))]]
        go_enter Tryz.func105, Tryz.ntmps105
        go_wp2_with fail
        go_ret
        exact ⟨rfl, rfl⟩
      · rw [show (fun (e : Ending) (w' : World) => if r < 48 ∨ 57 < r ∨ 999 < n then e = .returned (.bool false) ∧ w' = w else e = .returned (.bool true) ∧ w' = w.setCell p (.int .i64 (10 * n + (r - 48)))) = fun e w' => e = .returned (.bool true) ∧ w' = w.setCell p (.int .i64 (10 * n + (r - 48))) from by funext e w'; rw [if_neg (by omega)]]
        have d3 : decide (999 < n) = false := by simpa using c3
        have w1 : IntKind.i32.wrap (r - 48) = r - 48 := by rw [IntKind.wrap_i32]; omega
        have w2 : IntKind.i64.wrap (r - 48) = r - 48 := by rw [IntKind.wrap_i64]; omega
        have w3 : IntKind.i64.wrap (10 * n) = 10 * n := by rw [IntKind.wrap_i64]; omega
        have w4 : IntKind.i64.wrap (10 * n + (r - 48)) = 10 * n + (r - 48) := by rw [IntKind.wrap_i64]; omega
        go_enter Tryz.func105, Tryz.ntmps105
        go_wp2_with fail
        go_ret
        exact ⟨rfl, rfl⟩
end Go.Proofs.YtldhcknjpmbgnaaGreatDoor.Rk
/- Labels of volumes, walked: number. -/
namespace Go.Proofs.YtldhcknjpmbgnaaGreatDoor.Rk
open Go.RowKit
set_option linter.unusedVariables false
set_option linter.unusedSimpArgs false
set_option maxRecDepth 100000

theorem numAcc_step {c : UInt8} {l : List UInt8} {n : Int} (h : ¬ (c.toNat < 48 ∨ 57 < c.toNat ∨ 999 < n)) : numAcc (c :: l) n = numAcc l (10 * n + ((c.toNat : Int) - 48)) := by rw [numAcc, if_neg h]
theorem numAcc_stop {c : UInt8} {l : List UInt8} {n : Int} (h : c.toNat < 48 ∨ 57 < c.toNat ∨ 999 < n) : numAcc (c :: l) n = 0 := by rw [numAcc, if_pos h]
set_option maxHeartbeats 2000000 in
theorem numberL_calls (s : List UInt8) {r : Int} (hr : numL s = r) (hs : s.length ≤ 1000) (w : World) :
    Calls Tryz.prog 60 #[.string (ofL s)] w fun e w' => e = .returned (.int .i64 r) ∧ Below w.heap.size w w' := by
  have Hr := Au.mk hr
  clear hr
  have hsz : (ofL s).size = s.length := ofL_size s
  have hb0 := Below.refl w.heap.size w
  go_enter Tryz.func60, Tryz.ntmps60
  go_wp2_with fail
  go_loopw [6] (fun v wr => ∃ (k : Nat) (m : Int), k ≤ s.length ∧ Au (wr.heap[w.heap.size + 1]? = some (.stringIter (ofL s) k)) ∧ Au (wr.heap[w.heap.size]? = some (.cells #[.int .i64 m] 3 (0, 0))) ∧ 0 ≤ m ∧ m ≤ 9999 ∧ Au (numAcc (s.drop k) m = numAcc s 0) ∧ Below w.heap.size w wr) (fun v wr => s.length - wr.iterPos (w.heap.size + 1))
  case atStart =>
    refine ⟨0, 0, Nat.zero_le _, ⟨?_⟩, ⟨?_⟩, by decide, by decide, ⟨rfl⟩, ?_⟩
    · rw [show w.heap.size + 1 = (w.alloc (.cells #[.int .i64 0] 3)).heap.size from by simp]; exact heap_alloc_new _ _
    · exact blk_alloc (heap_alloc_new w (.cells #[.int .i64 0] 3)) _
    · exact (hb0.alloc (Nat.le_refl _) _).alloc (by simp) _
  case round =>
    obtain ⟨k, m, hk, Hit, Hn, h0, h1, Hacc, hb⟩ := hrel
    have hlt1 : w.heap.size + 1 < wr.heap.size := (Array.getElem?_eq_some_iff.1 Hit.out).1
    have hpos : wr.iterPos (w.heap.size + 1) = k := by simp [World.iterPos, Hit.out]
    by_cases hlt : k < s.length
    · have hk2 : k < (ofL s).size := by rw [ofL_size]; exact hlt
      obtain ⟨x, hx⟩ : ∃ x, (ofL s)[k] = x := ⟨_, rfl⟩
      have hxs : s[k] = x := by rw [← hx]; rfl
      have hdrop : s.drop k = x :: s.drop (k + 1) := by rw [← hxs]; exact List.drop_eq_getElem_cons hlt
      have Hd := Au.mk hdrop
      clear hdrop hxs
      by_cases ha : x.toNat < 128
      · have hnext : ∀ ty, (Instr.next (.pointer (some ⟨w.heap.size + 1, 0, none⟩)) true ty).run Tryz.prog wr = .ok (.tuple #[.bool true, .int .i64 k, .int .i32 x.toNat]) (wr.iterAt (w.heap.size + 1) (ofL s) (k + 1)) := fun ty => by
          have := Lib.run_next_ascii_at (P := Tryz.prog) wr (w.heap.size + 1) (ofL s) k ty Hit.out hk2 (by rw [hx]; exact ha)
          rw [hx] at this
          exact this
        have I2 := Au.mk (Lib.iterAt_heap wr (w.heap.size + 1) (ofL s) k (k + 1) Hit.out)
        have N2 : Au ((wr.iterAt (w.heap.size + 1) (ofL s) (k + 1)).heap[w.heap.size]? = some (.cells #[.int .i64 m] 3 (0, 0))) := ⟨by rw [Lib.iterAt_other _ _ _ _ _ (by omega)]; exact Hn.out⟩
        have b2 := Lib.below_iterAt hb (k := w.heap.size + 1) (by omega) (ofL s) (k + 1)
        generalize wr.iterAt (w.heap.size + 1) (ofL s) (k + 1) = W2 at hnext I2 N2 b2
        have q1 := cell_of_one N2.out
        have q2 := free_of_one N2.out
        have hcall := more_calls (x.toNat : Int) m ⟨w.heap.size, 0, none⟩ W2 q1 q2 h0 h1
        by_cases hst : x.toNat < 48 ∨ 57 < x.toNat ∨ 999 < m
        · have hst2 : (x.toNat : Int) < 48 ∨ 57 < (x.toNat : Int) ∨ 999 < m := by omega
          simp only [if_pos hst2] at hcall
          have Hr0 : Au (0 = r) := ⟨by rw [← Hr.out, numL, ← Hacc.out, Hd.out, numAcc_stop hst]⟩
          have Hc := Au.mk hcall
          have Hst := Au.mk hst
          clear hcall hst hst2 q1 q2
          go_wp2_with fail
          refine Hc.out.mono ?_
          rintro e w3 ⟨rfl, rfl⟩
          go_wp2_with fail
          go_ret
          exact ⟨by rw [← Hr0.out]; rfl, b2⟩
        · have hst2 : ¬ ((x.toNat : Int) < 48 ∨ 57 < (x.toNat : Int) ∨ 999 < m) := by omega
          simp only [if_neg hst2] at hcall
          have hm1 : 0 ≤ 10 * m + ((x.toNat : Int) - 48) := by omega
          have hm2 : 10 * m + ((x.toNat : Int) - 48) ≤ 9999 := by omega
          have Hacc2 : Au (numAcc (s.drop (k + 1)) (10 * m + ((x.toNat : Int) - 48)) = numAcc s 0) := ⟨by rw [← Hacc.out, Hd.out, numAcc_step hst]⟩
          have Hc := Au.mk hcall
          have Hm1 := Au.mk hm1
          have Hm2 := Au.mk hm2
          clear hcall hst hst2 q1 q2 hm1 hm2
          go_wp2_with fail
          refine Hc.out.mono ?_
          rintro e w3 ⟨rfl, rfl⟩
          go_wp2_with fail
          go_roundw
          case rel =>
            refine ⟨k + 1, _, by omega, ⟨?_⟩, ⟨one_setCell N2.out⟩, Hm1.out, Hm2.out, Hacc2, ?_⟩
            · exact blk_far I2.out (by simp) _
            · exact b2.setCell (by simp) _
          case measure =>
            have h5 : (W2.setCell ⟨w.heap.size, 0, none⟩ (.int .i64 (10 * m + ((x.toNat : Int) - 48)))).iterPos (w.heap.size + 1) = k + 1 := by
              simp [World.iterPos, blk_far I2.out (p := ⟨w.heap.size, 0, none⟩) (by simp)]
            rw [h5, hpos]; omega
      · have hge := decode_high (ofL s) k hk2 (by rw [hx]; omega)
        obtain ⟨d, hd⟩ : ∃ d, (Utf8.decode (ofL s) k).1 = d := ⟨_, rfl⟩
        obtain ⟨v, hv⟩ : ∃ v, (Utf8.decode (ofL s) k).2 = v := ⟨_, rfl⟩
        rw [hd] at hge
        have hnext : ∀ ty, (Instr.next (.pointer (some ⟨w.heap.size + 1, 0, none⟩)) true ty).run Tryz.prog wr = .ok (.tuple #[.bool true, .int .i64 k, .int .i32 d]) (wr.iterAt (w.heap.size + 1) (ofL s) (k + v)) := fun ty => by
          have := Lib.run_next_any_at (P := Tryz.prog) wr (w.heap.size + 1) (ofL s) k ty Hit.out hk2
          rw [hd, hv] at this
          exact this
        have N2 : Au ((wr.iterAt (w.heap.size + 1) (ofL s) (k + v)).heap[w.heap.size]? = some (.cells #[.int .i64 m] 3 (0, 0))) := ⟨by rw [Lib.iterAt_other _ _ _ _ _ (by omega)]; exact Hn.out⟩
        have b2 := Lib.below_iterAt hb (k := w.heap.size + 1) (by omega) (ofL s) (k + v)
        generalize wr.iterAt (w.heap.size + 1) (ofL s) (k + v) = W2 at hnext N2 b2
        have q1 := cell_of_one N2.out
        have q2 := free_of_one N2.out
        have hcall := more_calls (d : Int) m ⟨w.heap.size, 0, none⟩ W2 q1 q2 h0 h1
        have hst2 : (d : Int) < 48 ∨ 57 < (d : Int) ∨ 999 < m := by omega
        simp only [if_pos hst2] at hcall
        have Hr0 : Au (0 = r) := ⟨by rw [← Hr.out, numL, ← Hacc.out, Hd.out, numAcc_stop (by omega)]⟩
        have Hc := Au.mk hcall
        clear hcall hst2 q1 q2 hge hd hv
        go_wp2_with fail
        refine Hc.out.mono ?_
        rintro e w3 ⟨rfl, rfl⟩
        go_wp2_with fail
        go_ret
        exact ⟨by rw [← Hr0.out]; rfl, b2⟩
    · have hnext : ∀ ty, (Instr.next (.pointer (some ⟨w.heap.size + 1, 0, none⟩)) true ty).run Tryz.prog wr = .ok (.tuple #[.bool false]) wr := fun ty =>
        Lib.run_next_end_at (P := Tryz.prog) wr (w.heap.size + 1) (ofL s) k ty Hit.out (by rw [ofL_size]; exact hlt)
      have Hr0 : Au (m = r) := ⟨by
        rw [← Hr.out, numL, ← Hacc.out, List.drop_of_length_le (by omega)]; rfl⟩
      have q1 := cell_of_one Hn.out
      go_wp2_with fail
      go_ret
      exact ⟨by rw [← Hr0.out]; rfl, hb⟩
end Go.Proofs.YtldhcknjpmbgnaaGreatDoor.Rk
/- Labels of volumes, walked: Get. -/
namespace Go.Proofs.YtldhcknjpmbgnaaGreatDoor.Rk
open Go.RowKit
set_option linter.unusedVariables false
set_option linter.unusedSimpArgs false
set_option maxRecDepth 100000

theorem lastIndex_calls {l : List UInt8} {i : Int} (hi : Lib.lastIndex l vol = i) (hl : l.length ≤ 1000) (w : World) :
    Calls Tryz.prog 58 #[.string (ofL l), .string ⟨#[32, 86, 111, 108, 117, 109, 101, 32]⟩] w fun e w' => e = .returned (.int .i64 i) ∧ w = w' := by
  subst hi
  refine (Tryz.strings_LastIndex (ofL l) ⟨#[32, 86, 111, 108, 117, 109, 101, 32]⟩ (by rw [ofL_size]; omega) w).mono ?_
  rintro e w' ⟨h1, h2⟩
  exact ⟨by rw [h1]; simp [ofL, vol], h2.symm⟩
theorem trim_calls {l d : List UInt8} (hd : Lib.trimPrefix l vol = d) (w : World) :
    Calls Tryz.prog 59 #[.string (ofL l), .string ⟨#[32, 86, 111, 108, 117, 109, 101, 32]⟩] w fun e w' => e = .returned (.string (ofL d)) ∧ w = w' := by
  subst hd
  refine (Tryz.strings_TrimPrefix (ofL l) ⟨#[32, 86, 111, 108, 117, 109, 101, 32]⟩ w).mono ?_
  rintro e w' ⟨h1, h2⟩
  exact ⟨by rw [h1]; simp [ofL, vol], h2.symm⟩
theorem trim_quiet {l d : List UInt8} (hd : Lib.trimPrefix l vol = d) (W : World) (a : Nat) : Calls Tryz.prog 59 #[.string (ofL l), .string ⟨#[32, 86, 111, 108, 117, 109, 101, 32]⟩] (W.drewN a) fun e w' => e = .returned (.string (ofL d)) ∧ ∃ m, w' = W.drewN m :=
  (trim_calls hd (W.drewN a)).mono fun e w' ⟨h1, h2⟩ => ⟨h1, a, h2.symm⟩
theorem hget_S (b : List UInt8) : (hget b).1.S := by
  have z : hd0.S := ⟨by decide, by decide, by decide⟩
  rcases hget_cases b with ⟨e, _⟩ | ⟨e, _⟩ | ⟨e, _⟩ | ⟨e, _, _, h4⟩ | ⟨e, _⟩ <;> rw [e] <;> dsimp only
  · exact z
  · exact z
  · exact z
  · exact guess_S b
  · exact z
theorem ofL_extract (l : List UInt8) (a b : Nat) : (ofL l).extract a b = ofL ((l.take b).drop a) := by
  apply ByteArray.ext
  simp [ofL, ByteArray.data_extract, List.drop_take]
theorem lastV_le (l : List UInt8) : lastV l ≤ l.length := by
  unfold lastV Lib.lastIndex
  split
  · rcases Lib.lastOcc_spec l vol (l.length - vol.length + 1) with ⟨e, _⟩ | ⟨i, hi, e, _⟩ <;> rw [e]
    · omega
    · have : vol.length = 8 := rfl
      omega
  · omega
theorem digOf_len (l : List UInt8) : (digOf l).length ≤ l.length := by
  unfold digOf Lib.trimPrefix
  split <;> simp <;> omega
set_option maxHeartbeats 4000000 in
theorem lget_calls (b : List UInt8) {s : List UInt8} {n er : Int} (hg : lget b = (s, n, er)) {A : Option Addr} {c : Nat} {F : Nat → Prop} (w : World) (ha : Sl Kd.byte w F A c b) (ht : Tab w) :
    Calls Tryz.prog 39 #[.slice A b.length c] w fun e w' => e = .returned (.tuple #[.string (ofL s), .int .i64 n, .int .i64 er]) ∧ Below w.heap.size w w' := by
  have hS := hget_S b
  obtain ⟨g, Hg⟩ := au (hget b).1
  obtain ⟨ee, He⟩ := au (hget b).2
  unfold lget at hg
  rw [Hg.out, He.out] at hg
  rw [Hg.out] at hS
  have hl2 := hS.1
  have Ha := Au.mk ha
  have Ht := Au.mk ht
  by_cases h0 : ee = 0
  · subst h0
    rw [if_pos rfl] at hg
    obtain ⟨i, Hi⟩ := au (Lib.lastIndex g.name vol)
    obtain ⟨j, Hj⟩ := au (lastV g.name)
    have hj : max 0 i = (j : Int) := by
      have := Hj.out
      unfold lastV at this
      rw [Hi.out] at this; omega
    have hjl := lastV_le g.name
    rw [Hj.out] at hjl
    obtain ⟨lb, Hlb⟩ := au (labOf g.name)
    obtain ⟨dg, Hdg⟩ := au (digOf g.name)
    have hdl := digOf_len g.name
    rw [Hdg.out] at hdl
    obtain ⟨m, Hm⟩ := au (numL dg)
    have hmR := numL_R64 dg
    rw [Hm.out] at hmR
    obtain ⟨p, Hp⟩ := au ((lput lb m).getD [])
    obtain ⟨bb, Hbb⟩ := au ((lput lb m).isSome)
    obtain ⟨r2, Hr2⟩ := au (p == b)
    have hgood : (lput lb m = some b) = (bb = true ∧ r2 = true) := by
      rw [← Hbb.out, ← Hr2.out, ← Hp.out]
      cases lput lb m <;> simp
    rw [Hlb.out, Hdg.out, Hm.out] at hg
    have Hres := Au.mk hg
    have Hgood := Au.mk hgood
    have hx1 : (ofL g.name).extract 0 j = ofL lb := by rw [ofL_extract, ← Hlb.out, labOf, Hj.out]; simp
    have hx2 : (ofL g.name).extract j (ofL g.name).size = ofL (g.name.drop j) := by rw [ofL_extract, ofL_size, List.take_length]
    have hz : (ofL g.name).size = g.name.length := ofL_size _
    have Htr : Au (Lib.trimPrefix (g.name.drop j) vol = dg) := ⟨by rw [← Hdg.out, digOf, Hj.out]⟩
    have HmR := Au.mk hmR
    clear hg hgood hS ha ht hmR
    go_enter Tryz.func39, Tryz.ntmps39
    go_wp2_with fail
    refine (hget_view b Hg.out He.out _ Ha.out).mono ?_
    rintro e w1 ⟨rfl, b1⟩
    unfold Hd.agg
    go_upto_region 4 with fail
    generalize hW : World.alloc w1 _ = W2
    have G2 : Au (W2.heap[w1.heap.size]? = some (.cells g.cells.toArray 104 (0, 0))) := ⟨by rw [← hW]; exact heap_alloc_new _ _⟩
    have e2 : Below w.heap.size w W2 := by rw [← hW]; exact b1.alloc b1.size _
    have k0 := blk_cell G2.out 0 rfl
    clear hW b1
    go_wp2_with fail
    refine (lastIndex_calls Hi.out (by omega) _).mono ?_
    rintro e w3 ⟨rfl, rfl⟩
    go_upto_region 5 with fail
    have hx3 : (ofL g.name).extract j g.name.length = ofL (g.name.drop j) := by rw [← hx2, hz]
    have hjz : (j : Int) ≤ g.name.length := by omega
    go_quiet (exact trim_quiet Htr.out _ _)
    generalize hW : W2.drewN nq = W3
    have e3 : Below w.heap.size w W3 := by rw [← hW]; exact below_drewN e2 _
    clear hW e2 k0 hx1 hx2 hx3
    go_wp2_with fail
    refine (numberL_calls dg Hm.out (by omega) _).mono ?_
    rintro e w4 ⟨rfl, b4⟩
    have e4 := below_then e3 b4 e3.size
    clear b4 e3
    go_wp2_with fail
    refine (lput_calls lb m HmR.out Hp.out Hbb.out _ (Ht.out.below e4)).mono ?_
    rintro e w5 ⟨A5, c5, rfl, s5, b5⟩
    have e5 := below_then e4 b5 e4.size
    clear b5 e4
    have sb := Ha.out.below e5
    cases bb
    · go_wp2_with fail
      go_ret3
      have h3 : ¬ lput lb m = some b := by rw [Hgood.out]; simp
      have h4 := Hres.out
      rw [if_neg h3] at h4
      injection h4 with h5 h6
      injection h6 with h6 h7
      exact ⟨by rw [← h5, ← h6, ← h7]; rfl, e5⟩
    · go_wp2_with fail
      refine (bequal_is rfl rfl Hr2.out s5 sb).mono ?_
      rintro e w6 ⟨rfl, rfl⟩
      cases r2
      · go_wp2_with fail
        go_ret3
        have h3 : ¬ lput lb m = some b := by rw [Hgood.out]; simp
        have h4 := Hres.out
        rw [if_neg h3] at h4
        injection h4 with h5 h6
        injection h6 with h6 h7
        exact ⟨by rw [← h5, ← h6, ← h7]; rfl, e5⟩
      · go_wp2_with fail
        go_ret3
        have h3 : lput lb m = some b := by rw [Hgood.out]; simp
        have h4 := Hres.out
        rw [if_pos h3] at h4
        injection h4 with h5 h6
        injection h6 with h6 h7
        exact ⟨by rw [← h5, ← h6, ← h7]; rfl, e5⟩
  · rw [if_neg h0] at hg
    injection hg with h5 h6
    injection h6 with h6 h7
    have h0b : (ee != 0) = true := by simpa using h0
    have H5 := Au.mk h5
    have H6 := Au.mk h6
    have H7 := Au.mk h7
    clear h5 h6 h7 h0 hS ha ht
    go_enter Tryz.func39, Tryz.ntmps39
    go_wp2_with fail
    refine (hget_view b Hg.out He.out _ Ha.out).mono ?_
    rintro e w1 ⟨rfl, b1⟩
    unfold Hd.agg
    go_wp2_with fail
    go_ret3
    exact ⟨by rw [← H5.out, ← H6.out, ← H7.out]; rfl, b1.alloc b1.size _⟩
end Go.Proofs.YtldhcknjpmbgnaaGreatDoor.Rk
