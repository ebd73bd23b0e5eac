/- Labels of volumes, walked: number. -/
import Derived.Test.YtmjicapjkmkckaaGreatDoorLabD
namespace Go.Proofs.YtmjicapjkmkckaaGreatDoor.Rk
open Go.RowKit
set_option linter.unusedVariables false
set_option linter.unusedSimpArgs false
set_option maxRecDepth 100000

theorem numAcc_step {c : UInt8} {l : List UInt8} {n : Int} (h : ¬ (c.toNat < 48 ∨ 57 < c.toNat ∨ 999 < n)) : numAcc (c :: l) n = numAcc l (10 * n + ((c.toNat : Int) - 48)) := by rw [numAcc, if_neg h]
theorem numAcc_stop {c : UInt8} {l : List UInt8} {n : Int} (h : c.toNat < 48 ∨ 57 < c.toNat ∨ 999 < n) : numAcc (c :: l) n = 0 := by rw [numAcc, if_pos h]
set_option maxHeartbeats 2000000 in
theorem numberL_calls (s : List UInt8) {r : Int} (hr : numL s = r) (hs : s.length ≤ 1000) (w : World) :
    Calls Tryz.prog 57 #[.string (ofL s)] w fun e w' => e = .returned (.int .i64 r) ∧ Below w.heap.size w w' := by
  have Hr := Au.mk hr
  clear hr
  have hsz : (ofL s).size = s.length := ofL_size s
  have hb0 := Below.refl w.heap.size w
  go_enter Tryz.func57, Tryz.ntmps57
  go_wp2_with fail
  go_loopw [6] (fun v wr => ∃ (k : Nat) (m : Int), k ≤ s.length ∧ Au (wr.heap[w.heap.size + 1]? = some (.stringIter (ofL s) k)) ∧ Au (wr.heap[w.heap.size]? = some (.cells #[.int .i64 m] 3 (0, 0))) ∧ 0 ≤ m ∧ m ≤ 9999 ∧ Au (numAcc (s.drop k) m = numAcc s 0) ∧ Below w.heap.size w wr) (fun v wr => s.length - wr.iterPos (w.heap.size + 1))
  case atStart =>
    refine ⟨0, 0, Nat.zero_le _, ⟨?_⟩, ⟨?_⟩, by decide, by decide, ⟨rfl⟩, ?_⟩
    · rw [show w.heap.size + 1 = (w.alloc (.cells #[.int .i64 0] 3)).heap.size from by simp]; exact heap_alloc_new _ _
    · exact blk_alloc (heap_alloc_new w (.cells #[.int .i64 0] 3)) _
    · exact (hb0.alloc (Nat.le_refl _) _).alloc (by simp) _
  case round =>
    obtain ⟨k, m, hk, Hit, Hn, h0, h1, Hacc, hb⟩ := hrel
    have hlt1 : w.heap.size + 1 < wr.heap.size := (Array.getElem?_eq_some_iff.1 Hit.out).1
    have hpos : wr.iterPos (w.heap.size + 1) = k := by simp [World.iterPos, Hit.out]
    by_cases hlt : k < s.length
    · have hk2 : k < (ofL s).size := by rw [ofL_size]; exact hlt
      obtain ⟨x, hx⟩ : ∃ x, (ofL s)[k] = x := ⟨_, rfl⟩
      have hxs : s[k] = x := by rw [← hx]; rfl
      have hdrop : s.drop k = x :: s.drop (k + 1) := by rw [← hxs]; exact List.drop_eq_getElem_cons hlt
      have Hd := Au.mk hdrop
      clear hdrop hxs
      by_cases ha : x.toNat < 128
      · have hnext : ∀ ty, (Instr.next (.pointer (some ⟨w.heap.size + 1, 0, none⟩)) true ty).run Tryz.prog wr = .ok (.tuple #[.bool true, .int .i64 k, .int .i32 x.toNat]) (wr.iterAt (w.heap.size + 1) (ofL s) (k + 1)) := fun ty => by
          have := Lib.run_next_ascii_at (P := Tryz.prog) wr (w.heap.size + 1) (ofL s) k ty Hit.out hk2 (by rw [hx]; exact ha)
          rw [hx] at this
          exact this
        have I2 := Au.mk (Lib.iterAt_heap wr (w.heap.size + 1) (ofL s) k (k + 1) Hit.out)
        have N2 : Au ((wr.iterAt (w.heap.size + 1) (ofL s) (k + 1)).heap[w.heap.size]? = some (.cells #[.int .i64 m] 3 (0, 0))) := ⟨by rw [Lib.iterAt_other _ _ _ _ _ (by omega)]; exact Hn.out⟩
        have b2 := Lib.below_iterAt hb (k := w.heap.size + 1) (by omega) (ofL s) (k + 1)
        generalize wr.iterAt (w.heap.size + 1) (ofL s) (k + 1) = W2 at hnext I2 N2 b2
        have q1 := cell_of_one N2.out
        have q2 := free_of_one N2.out
        have hcall := more_calls (x.toNat : Int) m ⟨w.heap.size, 0, none⟩ W2 q1 q2 h0 h1
        by_cases hst : x.toNat < 48 ∨ 57 < x.toNat ∨ 999 < m
        · have hst2 : (x.toNat : Int) < 48 ∨ 57 < (x.toNat : Int) ∨ 999 < m := by omega
          simp only [if_pos hst2] at hcall
          have Hr0 : Au (0 = r) := ⟨by rw [← Hr.out, numL, ← Hacc.out, Hd.out, numAcc_stop hst]⟩
          have Hc := Au.mk hcall
          have Hst := Au.mk hst
          clear hcall hst hst2 q1 q2
          go_wp2_with fail
          refine Hc.out.mono ?_
          rintro e w3 ⟨rfl, rfl⟩
          go_wp2_with fail
          go_ret
          exact ⟨by rw [← Hr0.out]; rfl, b2⟩
        · have hst2 : ¬ ((x.toNat : Int) < 48 ∨ 57 < (x.toNat : Int) ∨ 999 < m) := by omega
          simp only [if_neg hst2] at hcall
          have hm1 : 0 ≤ 10 * m + ((x.toNat : Int) - 48) := by omega
          have hm2 : 10 * m + ((x.toNat : Int) - 48) ≤ 9999 := by omega
          have Hacc2 : Au (numAcc (s.drop (k + 1)) (10 * m + ((x.toNat : Int) - 48)) = numAcc s 0) := ⟨by rw [← Hacc.out, Hd.out, numAcc_step hst]⟩
          have Hc := Au.mk hcall
          have Hm1 := Au.mk hm1
          have Hm2 := Au.mk hm2
          clear hcall hst hst2 q1 q2 hm1 hm2
          go_wp2_with fail
          refine Hc.out.mono ?_
          rintro e w3 ⟨rfl, rfl⟩
          go_wp2_with fail
          go_roundw
          case rel =>
            refine ⟨k + 1, _, by omega, ⟨?_⟩, ⟨one_setCell N2.out⟩, Hm1.out, Hm2.out, Hacc2, ?_⟩
            · exact blk_far I2.out (by simp) _
            · exact b2.setCell (by simp) _
          case measure =>
            have h5 : (W2.setCell ⟨w.heap.size, 0, none⟩ (.int .i64 (10 * m + ((x.toNat : Int) - 48)))).iterPos (w.heap.size + 1) = k + 1 := by
              simp [World.iterPos, blk_far I2.out (p := ⟨w.heap.size, 0, none⟩) (by simp)]
            rw [h5, hpos]; omega
      · have hge := decode_high (ofL s) k hk2 (by rw [hx]; omega)
        obtain ⟨d, hd⟩ : ∃ d, (Utf8.decode (ofL s) k).1 = d := ⟨_, rfl⟩
        obtain ⟨v, hv⟩ : ∃ v, (Utf8.decode (ofL s) k).2 = v := ⟨_, rfl⟩
        rw [hd] at hge
        have hnext : ∀ ty, (Instr.next (.pointer (some ⟨w.heap.size + 1, 0, none⟩)) true ty).run Tryz.prog wr = .ok (.tuple #[.bool true, .int .i64 k, .int .i32 d]) (wr.iterAt (w.heap.size + 1) (ofL s) (k + v)) := fun ty => by
          have := Lib.run_next_any_at (P := Tryz.prog) wr (w.heap.size + 1) (ofL s) k ty Hit.out hk2
          rw [hd, hv] at this
          exact this
        have N2 : Au ((wr.iterAt (w.heap.size + 1) (ofL s) (k + v)).heap[w.heap.size]? = some (.cells #[.int .i64 m] 3 (0, 0))) := ⟨by rw [Lib.iterAt_other _ _ _ _ _ (by omega)]; exact Hn.out⟩
        have b2 := Lib.below_iterAt hb (k := w.heap.size + 1) (by omega) (ofL s) (k + v)
        generalize wr.iterAt (w.heap.size + 1) (ofL s) (k + v) = W2 at hnext N2 b2
        have q1 := cell_of_one N2.out
        have q2 := free_of_one N2.out
        have hcall := more_calls (d : Int) m ⟨w.heap.size, 0, none⟩ W2 q1 q2 h0 h1
        have hst2 : (d : Int) < 48 ∨ 57 < (d : Int) ∨ 999 < m := by omega
        simp only [if_pos hst2] at hcall
        have Hr0 : Au (0 = r) := ⟨by rw [← Hr.out, numL, ← Hacc.out, Hd.out, numAcc_stop (by omega)]⟩
        have Hc := Au.mk hcall
        clear hcall hst2 q1 q2 hge hd hv
        go_wp2_with fail
        refine Hc.out.mono ?_
        rintro e w3 ⟨rfl, rfl⟩
        go_wp2_with fail
        go_ret
        exact ⟨by rw [← Hr0.out]; rfl, b2⟩
    · have hnext : ∀ ty, (Instr.next (.pointer (some ⟨w.heap.size + 1, 0, none⟩)) true ty).run Tryz.prog wr = .ok (.tuple #[.bool false]) wr := fun ty =>
        Lib.run_next_end_at (P := Tryz.prog) wr (w.heap.size + 1) (ofL s) k ty Hit.out (by rw [ofL_size]; exact hlt)
      have Hr0 : Au (m = r) := ⟨by
        rw [← Hr.out, numL, ← Hacc.out, List.drop_of_length_le (by omega)]; rfl⟩
      have q1 := cell_of_one Hn.out
      go_wp2_with fail
      go_ret
      exact ⟨by rw [← Hr0.out]; rfl, hb⟩
end Go.Proofs.YtmjicapjkmkckaaGreatDoor.Rk
