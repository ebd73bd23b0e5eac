/- Blocks of a text: block.pieces, block.Cut, walked. -/
import Derived.Test.YtmjicapjkmkckaaGreatDoorVolV
import Derived.Lib.BufferWrite
namespace Go.Proofs.YtmjicapjkmkckaaGreatDoor.Rk
open Go.RowKit Go.Shelf
attribute [local go_sem] Oper.semAt_some
set_option linter.unusedVariables false
set_option linter.unusedSimpArgs false
set_option maxRecDepth 100000

theorem pieces_calls (p : List UInt8) (w : World) : Calls Tryz.prog 163 #[.string (ofL p)] w fun e w' => e = .returned (.func (.func 175) #[] #[.pointer (some ⟨w.heap.size, 0, none⟩)]) ∧ w.alloc (.cells #[.string (ofL p)] 9) = w' := by
  go_enter Tryz.func163, Tryz.ntmps163
  go_wp2_with fail
  go_ret
  exact ⟨rfl, rfl⟩
/-- How long the text in a cell is. -/
def strM (v : Option Value) : Nat := match v with
  | some (.string s) => s.size
  | _ => 0
set_option maxHeartbeats 1000000 in
theorem pieces_walk {L n : Nat} (J J' : List UInt8 → World → Prop)
    (hC : ∀ q W, J q W → q.length ≤ 10000 ∧ W.heap[n]? = some (.cells #[.string (ofL q)] 9 (0, 0))) (hC' : ∀ q W, J' q W → W.heap[n]? = some (.cells #[.string (ofL q)] 9 (0, 0)))
    (hY : ∀ q W, q ≠ [] → J q W → YieldAt Fence.wide 0 Tryz.prog L #[.string (ofL (q.take 512))] W fun e W' => e = .returned (.bool true) ∧ J' q W')
    (hS : ∀ q W, J' q W → J (q.drop 512) (W.setCell ⟨n, 0, none⟩ (.string (ofL (q.drop 512))))) (p : List UInt8) (W1 : World) (h0 : J p W1) :
    CallsIn Fence.wide 0 Tryz.prog 175 #[.func (.yield L) #[] #[], .pointer (some ⟨n, 0, none⟩)] W1 fun e W' => (∃ v, e = .returned v) ∧ J [] W' := by
  have HC := Au.mk hC
  have HC' := Au.mk hC'
  have HY := Au.mk hY
  have HS := Au.mk hS
  clear hC hC' hY hS
  refine callsIn_of_wp Tryz.func175 rfl trivial ?_ rfl
  simp only [Tryz.ntmps175, List.size_toArray, List.length_cons, List.length_nil, Nat.reduceAdd, Nat.reduceSub, Array.replicate_succ, Array.replicate_zero, List.push_toArray, List.append_toArray, List.nil_append, List.cons_append]
  gi_wp2_with fail
  gi_loopw [3] (fun v wr => ∃ q : List UInt8, Au (J q wr)) (fun v wr => strM (wr.cell? ⟨n, 0, none⟩))
  case atStart => exact ⟨p, ⟨h0⟩⟩
  case round =>
    obtain ⟨q, HJ⟩ := hrel
    obtain ⟨hql, hcell⟩ := HC.out q wr HJ.out
    have Hcell := Au.mk (cell_of_one hcell)
    have c1 := cell_of_one hcell
    have hz : (ofL q).size = q.length := ofL_size q
    clear hcell
    by_cases hq : q = []
    · subst hq
      have hem : ([] : List UInt8).isEmpty = true := rfl
      gi_wp2_with fail
      go_end0
      exact ⟨⟨_, rfl⟩, HJ.out⟩
    · have hem : q.isEmpty = false := by cases q with
        | nil => exact absurd rfl hq
        | cons a l => rfl
      have hlen : 0 < q.length := List.length_pos_iff.2 hq
      have y1 : (ofL q).extract 0 512 = ofL (q.take 512) := by rw [ofL_extract]; simp
      have y2 : q.length ≤ 512 → (ofL q).extract 0 q.length = ofL (q.take 512) := fun h => by rw [ofL_extract, List.take_of_length_le (Nat.le_refl _), List.take_of_length_le h]; simp
      have y3 : (ofL q).extract 512 q.length = ofL (q.drop 512) := by rw [ofL_extract, List.take_length]
      have y4 : q.length ≤ 512 → (ofL q).extract q.length q.length = ofL (q.drop 512) := fun h => by rw [ofL_extract, List.take_length, List.drop_of_length_le (Nat.le_refl _), List.drop_of_length_le h]
      have hY := HY.out q wr hq HJ.out
      have HYd := Au.mk hY
      have Hq := Au.mk hq
      clear hY hq
      by_cases h5 : q.length ≤ 512
      · have hm : min (q.length : Int) 512 = q.length := by omega
        have y2' := y2 h5
        have y4' := y4 h5
        clear y1 y2 y3 y4
        gi_wp2_with fail
        refine upon_yield HYd.out ?_
        rintro e W' ⟨rfl, hJ⟩
        refine ⟨_, rfl, ?_⟩
        have c2 := cell_of_one (HC'.out q W' hJ)
        have c3 := free_of_one (HC'.out q W' hJ)
        have he : ofL (q.drop 512) = ByteArray.empty := by rw [List.drop_of_length_le h5]; rfl
        have hj2 := HS.out q W' hJ
        rw [he] at hj2
        have HJ2 := Au.mk hj2
        clear hj2 he
        have HC2 := Au.mk (HC'.out q W' hJ)
        clear hJ c1
        gi_wp2_with fail
        go_roundw
        case rel => exact ⟨q.drop 512, HJ2⟩
        case measure =>
          rw [cell_of_one (one_setCell HC2.out), Hcell.out]
          have : ByteArray.empty.size = 0 := rfl
          simp only [strM, ofL_size, this]
          omega
      · have hm : min (q.length : Int) 512 = 512 := by omega
        have h5i : (512 : Int) ≤ q.length := by omega
        clear y2 y4
        gi_wp2_with fail
        refine upon_yield HYd.out ?_
        rintro e W' ⟨rfl, hJ⟩
        refine ⟨_, rfl, ?_⟩
        have c2 := cell_of_one (HC'.out q W' hJ)
        have c3 := free_of_one (HC'.out q W' hJ)
        have HJ2 := Au.mk (HS.out q W' hJ)
        have HC2 := Au.mk (HC'.out q W' hJ)
        clear hJ c1
        gi_wp2_with fail
        go_roundw
        case rel => exact ⟨q.drop 512, HJ2⟩
        case measure =>
          rw [cell_of_one (one_setCell HC2.out), Hcell.out]
          simp only [strM, ofL_size, List.length_drop]
          omega
/-- What the loop of Cut holds: ahead of a round; behind it. -/
def CutJ (s : List UInt8) (w : World) (n L D base : Nat) (rd : Loop) (q : List UInt8) (W : World) : Prop :=
  q.length ≤ 10000 ∧ (∃ done v, done ++ cutB q = cutB s ∧ W.heap[n]? = some (.cells #[v] 33 (0, 0)) ∧ RowD (Kd.slice Kd.byte) W (fun _ => False) base v done) ∧ W.heap[n + 1]? = some (.cells #[.string (ofL q)] 9 (0, 0)) ∧ Rcd W L D rd ∧ Below n w W ∧ base ≤ W.heap.size
def CutJ' (s : List UInt8) (w : World) (n L D base : Nat) (rd : Loop) (q : List UInt8) (W : World) : Prop :=
  q.length ≤ 10000 ∧ (∃ done v, done ++ cutB (q.drop 512) = cutB s ∧ W.heap[n]? = some (.cells #[v] 33 (0, 0)) ∧ RowD (Kd.slice Kd.byte) W (fun _ => False) base v done) ∧ W.heap[n + 1]? = some (.cells #[.string (ofL q)] 9 (0, 0)) ∧ Rcd W L D rd ∧ Below n w W ∧ base ≤ W.heap.size
theorem cutJ_step {s : List UInt8} {w : World} {n L D base : Nat} {rd : Loop} (hn : n + 1 < D) (hL : D < L) (hB : L < base) {q : List UInt8} {W : World} (h : CutJ' s w n L D base rd q W) : CutJ s w n L D base rd (q.drop 512) (W.setCell ⟨n + 1, 0, none⟩ (.string (ofL (q.drop 512)))) := by
  obtain ⟨h1, ⟨done, v, h2, h3, h4⟩, h5, h6, h7, h8⟩ := h
  refine ⟨by rw [List.length_drop]; omega, ⟨done, v, h2, (Below.heap_setCell _ _ _ _ (by simp)).trans h3, h4.set _ (fun h => h) (by simp; omega)⟩, one_setCell h5, h6.set (p := ⟨n + 1, 0, none⟩) _ (by simp; omega) (by simp; omega), h7.setCell (p := ⟨n + 1, 0, none⟩) (by simp) _, by simpa [World.setCell] using h8⟩
theorem cut_done {q done s : List UInt8} {bl : List (List UInt8)} (hq : q ≠ []) (h : bl ++ cutB q = cutB s) : (bl ++ [padB q]) ++ cutB (q.drop 512) = cutB s := by
  rw [← h, cutB_cons hq]; simp
theorem padB_splice {q : List UInt8} {z : List UInt8} (hz : zeros 512 = z) : ((bcs z).take 0 ++ Lib.byteCells (ofL (q.take 512)).data.toList ++ (bcs z).drop (0 + (ofL (q.take 512)).size)) = bcs (padB q) := by
  subst hz
  have e1 : (ofL (q.take 512)).data.toList = q.take 512 := by simp [ofL]
  rw [e1, ofL_size]
  simp only [Lib.byteCells, bcs, padB, zeros, List.take_zero, List.nil_append, Nat.zero_add, List.map_append, List.map_replicate, List.drop_replicate, List.length_take]
  congr 2
  omega
end Go.Proofs.YtmjicapjkmkckaaGreatDoor.Rk
