/- VolM: VolP VolQ VolT VolU VolV VolW VolX -/
import Derived.Test.YtldhcknjpmbgnaaGreatDoorVolS
import Derived.Test.YtldhcknjpmbgnaaGreatDoorVMis
import Derived.Test.YtldhcknjpmbgnaaGreatDoorShelf
import Derived.Test.YtldhcknjpmbgnaaGreatDoorVKnd
import Derived.Test.YtldhcknjpmbgnaaGreatDoorLabT
import Derived.Lib.BufferWrite
/- Paths, walked: strings.Cut at one byte, path.parts, path.May. -/
namespace Go.Proofs.YtldhcknjpmbgnaaGreatDoor.Rk
open Go.RowKit Go.Shelf
set_option linter.unusedVariables false
set_option linter.unusedSimpArgs false
set_option maxRecDepth 100000

theorem indexByte_idx (c : UInt8) : ∀ l : List UInt8, Lib.indexByte l c = idx c l
  | [] => rfl
  | a :: l => by
    unfold Lib.indexByte idx
    by_cases h : a = c
    · subst h; simp
    · have h1 : (a == c) = false := by simpa using h
      have h2 : ¬ c = a := fun e => h e.symm
      rw [if_neg (by simp [h1]), indexByte_idx c l]
      unfold idx
      by_cases hm : c ∈ l
      · rw [if_pos hm, if_pos (List.mem_cons_of_mem _ hm), if_neg (by simp)]
        simp [List.takeWhile_cons, h]
      · rw [if_neg hm, if_pos (by rfl), if_neg (by simp [h2, hm])]
theorem slite_cut (p : List UInt8) (hp : p.length ≤ 10000) (w : World) :
    Calls Tryz.prog 174 #[.string (ofL p), .string ⟨#[47]⟩] w fun e w' => e = .returned (.tuple #[.string (ofL (if (47 : UInt8) ∈ p then headP p else p)), .string (ofL (if (47 : UInt8) ∈ p then tailP p else [])), .bool (decide ((47 : UInt8) ∈ p))]) ∧ Drawn w w' := by
  have hz : (ofL p).size = p.length := ofL_size p
  have hone : (⟨#[47]⟩ : ByteArray).size = 1 := rfl
  have hi := indexByte_idx 47 p
  by_cases hm : (47 : UInt8) ∈ p
  · rw [if_pos hm, if_pos hm, decide_eq_true hm]
    have h0 : 0 ≤ idx 47 p := by unfold idx; rw [if_pos hm]; omega
    obtain ⟨k, hk, hlt, _, _⟩ := idx_lt h0
    have hh : (ofL p).extract 0 k = ofL (headP p) := by
      have e : (headP p).length = k := by unfold idx at hk; rw [if_pos hm] at hk; exact Int.ofNat_inj.1 hk
      have e2 : headP p ++ p.dropWhile (· != 47) = p := List.takeWhile_append_dropWhile
      apply ByteArray.ext
      have : p.take k = headP p := by
        have h := List.take_left (l₁ := headP p) (l₂ := p.dropWhile (· != 47))
        rw [e2, e] at h; exact h
      simp [ofL, ByteArray.data_extract, this]
    have ht : (ofL p).extract (k + 1) (ofL p).size = ofL (tailP p) := by
      have e : (headP p).length = k := by unfold idx at hk; rw [if_pos hm] at hk; exact Int.ofNat_inj.1 hk
      have e2 : headP p ++ p.dropWhile (· != 47) = p := List.takeWhile_append_dropWhile
      have e3 : p.drop k = p.dropWhile (· != 47) := by
        have : (headP p ++ p.dropWhile (· != 47)).drop (headP p).length = p.dropWhile (· != 47) := List.drop_left
        rw [e2, e] at this; exact this
      have : p.drop (k + 1) = tailP p := by unfold tailP; rw [← e3, List.drop_drop]
      apply ByteArray.ext
      simp [ofL, ByteArray.data_extract, ← this, List.drop_take, ByteArray.size]
      exact List.take_of_length_le (by simp)
    rw [hk] at hi
    have Hi := Au.mk hi
    clear hi hk h0 hm
    have ht2 : (ofL p).extract (k + 1) p.length = ofL (tailP p) := by rw [← hz]; exact ht
    go_enter Tryz.func174, Tryz.ntmps174
    go_wp2_with fail
    refine (Tryz.stringslite_Index_one (ofL p) 47 _).mono ?_
    rintro e w1 ⟨rfl, rfl⟩
    rw [show (ofL p).data.toList = p from by simp [ofL], Hi.out]
    go_wp2_with fail
    go_quiet (fail)
    go_wp2_with fail
    go_ret3
    exact ⟨rfl, Drawn.step (Drawn.refl _) _⟩
  · rw [if_neg hm, if_neg hm, decide_eq_false hm]
    unfold idx at hi
    rw [if_neg hm] at hi
    have Hi := Au.mk hi
    clear hi hm
    go_enter Tryz.func174, Tryz.ntmps174
    go_wp2_with fail
    refine (Tryz.stringslite_Index_one (ofL p) 47 _).mono ?_
    rintro e w1 ⟨rfl, rfl⟩
    rw [show (ofL p).data.toList = p from by simp [ofL], Hi.out]
    go_wp2_with fail
    go_ret3
    exact ⟨rfl, Drawn.refl _⟩
theorem scut_calls (p : List UInt8) (hp : p.length ≤ 10000) {a b : List UInt8} {r : Bool} (h : ((if (47 : UInt8) ∈ p then headP p else p), (if (47 : UInt8) ∈ p then tailP p else []), decide ((47 : UInt8) ∈ p)) = (a, b, r)) (w : World) :
    Calls Tryz.prog 156 #[.string (ofL p), .string ⟨#[47]⟩] w fun e w' => e = .returned (.tuple #[.string (ofL a), .string (ofL b), .bool r]) ∧ Drawn w w' := by
  injection h with h1 h2
  injection h2 with h2 h3
  have hc := slite_cut p hp w
  rw [h1, h2, h3] at hc
  have Hc := Au.mk hc
  clear hc h1 h2 h3
  go_enter Tryz.func156, Tryz.ntmps156
  go_wp2_with fail
  refine Hc.out.mono ?_
  rintro e w1 ⟨rfl, b1⟩
  go_wp2_with fail
  go_ret3
  exact ⟨rfl, b1⟩
theorem parts_calls (p : List UInt8) (w : World) : Calls Tryz.prog 125 #[.string (ofL p)] w fun e w' => e = .returned (.func (.func 155) #[] #[.pointer (some ⟨w.heap.size, 0, none⟩)]) ∧ w.alloc (.cells #[.string (ofL p)] 9) = w' := by
  go_enter Tryz.func125, Tryz.ntmps125
  go_wp2_with fail
  go_ret
  exact ⟨rfl, rfl⟩
theorem odd_calls (s : List UInt8) {r : Bool} (hr : oddP s = r) (w : World) : Calls Tryz.prog 124 #[.string (ofL s)] w fun e w' => e = .returned (.bool r) ∧ w = w' := by
  subst hr
  unfold oddP
  obtain ⟨b1, B1⟩ := au (s == [])
  obtain ⟨b2, B2⟩ := au (s == [46])
  obtain ⟨b3, B3⟩ := au (s == [46, 46])
  have e1 : s.isEmpty = b1 := by rw [← B1.out]; cases s <;> rfl
  have e2 := B2.out
  have e3 := B3.out
  rw [B1.out, B2.out, B3.out]
  cases b1 <;> cases b2 <;> cases b3
  all_goals
    go_enter Tryz.func124, Tryz.ntmps124
    go_wp2_with fail
    go_ret
    exact ⟨rfl, rfl⟩
end Go.Proofs.YtldhcknjpmbgnaaGreatDoor.Rk
/- Paths, walked: path.May. -/
namespace Go.Proofs.YtldhcknjpmbgnaaGreatDoor.Rk
open Go.RowKit Go.Shelf
attribute [local go_sem] Oper.semAt_some
set_option linter.unusedVariables false
set_option linter.unusedSimpArgs false
set_option maxRecDepth 100000

/-- What is left of a path that is cut at each slash. -/
def cutM (more : Value) (v : Option Value) : Nat := match more, v with
  | .bool true, some (.string s) => s.size + 1
  | _, _ => 0
theorem pmay_no {p : List UInt8} (h : (pparts p).all (fun s => !oddP s) = false) : pmay p = false := by unfold pmay; rw [h]; rfl
theorem all_parts {a : List UInt8} {l : List (List UInt8)} {r : Bool} (h : (a :: l).all (fun s => !oddP s) = r) (ha : oddP a = false) : l.all (fun s => !oddP s) = r := by
  simpa [ha] using h
theorem all_odd {a : List UInt8} {l : List (List UInt8)} {r : Bool} (h : (a :: l).all (fun s => !oddP s) = r) (ha : oddP a = true) : r = false := by
  rw [← h]; simp [ha]
/-- What the loop's own cells hold. -/
structure PMem (W : World) (n L D : Nat) (q : List UInt8) : Prop where
  r : W.heap[n]? = some (.cells #[.bool false] 4 (0, 0))
  o : W.heap[n + 1]? = some (.cells #[.func (.func 124) #[] #[]] 124 (0, 0))
  p : W.heap[n + 2]? = some (.cells #[.string (ofL q)] 9 (0, 0))
theorem PMem.keep {W V : World} {n L D : Nat} {q : List UInt8} (h : PMem W n L D q) (hk : ∀ k, k < n + 3 → V.heap[k]? = W.heap[k]?) : PMem V n L D q :=
  ⟨(hk _ (by omega)).trans h.r, (hk _ (by omega)).trans h.o, (hk _ (by omega)).trans h.p⟩
theorem PMem.lt {W : World} {n L D : Nat} {q : List UInt8} (h : PMem W n L D q) : n + 2 < W.heap.size := lt_of_block h.p
theorem PMem.below {W V : World} {n L D : Nat} {q : List UInt8} (h : PMem W n L D q) (hb : Below W.heap.size W V) : PMem V n L D q :=
  h.keep fun k hk => hb.block _ (by have := h.lt; omega)
theorem PMem.set {W : World} {n L D : Nat} {q : List UInt8} (h : PMem W n L D q) (x : List UInt8) : PMem (W.setCell ⟨n + 2, 0, none⟩ (.string (ofL x))) n L D x :=
  ⟨(Below.heap_setCell _ _ _ _ (by simp)).trans h.r, (Below.heap_setCell _ _ _ _ (by simp)).trans h.o, one_setCell h.p⟩
theorem below_putObj {B : Nat} {w W : World} (h : Below B w W) {L : Nat} (hL : B ≤ L) (hB : B ≤ W.heap.size) (o : Obj) : Below B w (W.putObj L o) :=
  below_of_grown h (grown_putObj W L o) hB hL
def PEnd (w : World) (n L D : Nat) (r : Bool) (rd rx : Loop) (e : Ending) (W' : World) : Prop :=
  (∃ v, e = .returned v) ∧ (∃ q, PMem W' n L D q) ∧ Below n w W' ∧ ((r = true ∧ Rcd W' L D rd) ∨ (r = false ∧ Rcd W' L D rx))
set_option maxHeartbeats 1000000 in
theorem pparts_walk (p : List UInt8) (hp : p.length ≤ 10000) {r : Bool} (hr : (pparts p).all (fun s => !oddP s) = r) (w W1 : World) (L D : Nat) (rd rx : Loop) (n : Nat) (hn : n + 2 < D) (hL : D < L) (hW : PMem W1 n L D p) (hl : Rcd W1 L D rd) (hb : Below n w W1)
    (hY : ∀ s q W, PMem W n L D q → Rcd W L D rd → Below n w W → YieldAt Fence.wide 0 Tryz.prog L #[.string (ofL s)] W fun e W' => PMem W' n L D q ∧ Below n w W' ∧ ((e = .returned (.bool true) ∧ oddP s = false ∧ Rcd W' L D rd) ∨ (e = .returned (.bool false) ∧ oddP s = true ∧ Rcd W' L D rx))) :
    CallsIn Fence.wide 0 Tryz.prog 155 #[.func (.yield L) #[] #[], .pointer (some ⟨n + 2, 0, none⟩)] W1 (PEnd w n L D r rd rx) := by
  have HY := Au.mk hY
  clear hY
  refine callsIn_of_wp Tryz.func155 rfl trivial ?_ rfl
  simp only [Tryz.ntmps155, List.size_toArray, List.length_cons, List.length_nil, Nat.reduceAdd, Nat.reduceSub, Array.replicate_succ, Array.replicate_zero, List.push_toArray, List.append_toArray, List.nil_append, List.cons_append]
  gi_wp2_with fail
  gi_loopw [3] (fun more wr => ∃ (q : List UInt8) (b : Bool), more = .bool b ∧ q.length ≤ 10000 ∧ Au (PMem wr n L D q) ∧ Au (Rcd wr L D rd) ∧ Below n w wr ∧ Au (if b then (pparts q).all (fun s => !oddP s) = r else r = true)) (fun more wr => cutM more (wr.cell? ⟨n + 2, 0, none⟩))
  case atStart => exact ⟨p, true, rfl, hp, ⟨hW⟩, ⟨hl⟩, hb, ⟨hr⟩⟩
  case round =>
    obtain ⟨q, b, rfl, hq, HM, HL, hbr, Hr⟩ := hrel
    cases b
    · gi_wp2_with fail
      go_end0
      exact ⟨⟨_, rfl⟩, ⟨q, HM.out⟩, hbr, .inl ⟨Hr.out, HL.out⟩⟩
    · obtain ⟨a, Ha⟩ := au (if (47 : UInt8) ∈ q then headP q else q)
      obtain ⟨t, Ht⟩ := au (if (47 : UInt8) ∈ q then tailP q else [])
      obtain ⟨m, Hm⟩ := au (decide ((47 : UInt8) ∈ q))
      have Hc : Au (∀ W, Calls Tryz.prog 156 #[.string (ofL q), .string ⟨#[47]⟩] W fun e w' => e = .returned (.tuple #[.string (ofL a), .string (ofL t), .bool m]) ∧ Drawn W w') :=
        ⟨fun W => scut_calls q hq (by rw [Ha.out, Ht.out, Hm.out]) W⟩
      have Hp : Au (∃ l, pparts q = a :: l ∧ if m then l = pparts t else l = []) := ⟨by
        rw [← Ha.out, ← Ht.out, ← Hm.out]
        by_cases h : (47 : UInt8) ∈ q
        · exact ⟨_, by rw [if_pos h, pparts_slash h], by simp [h]⟩
        · exact ⟨_, by rw [if_neg h, pparts_none h], by simp [h]⟩⟩
      have Htl : Au (t.length ≤ q.length ∧ (m = true → t.length < q.length)) := ⟨by
        rw [← Ht.out, ← Hm.out]
        by_cases h : (47 : UInt8) ∈ q
        · have := tailP_length h; rw [if_pos h]; exact ⟨by omega, fun _ => this⟩
        · rw [if_neg h]; simp [h]⟩
      have Hcell : Au (wr.cell? ⟨n + 2, 0, none⟩ = some (.string (ofL q))) := ⟨cell_of_one HM.out.p⟩
      have c1 := cell_of_one HM.out.p
      have c2 := free_of_one HM.out.p
      gi_wp2_with fail
      refine ⟨trivial, rfl, (callsIn_wide.2 (Hc.out _)).mono ?_⟩
      rintro e w3 ⟨rfl, b3⟩
      have b3 := b3.below wr.heap.size
      have HM3 := Au.mk (HM.out.below b3)
      have HL3 := Au.mk (HL.out.below b3)
      have hb3 := below_then hbr b3 (by have := HM.out.lt; omega)
      clear c1 c2
      have c1 := cell_of_one HM3.out.p
      have c2 := free_of_one HM3.out.p
      gi_wp2_with fail
      have HM4 := Au.mk (HM3.out.set t)
      have HL4 := Au.mk (HL3.out.set (p := ⟨n + 2, 0, none⟩) (.string (ofL t)) (by simp; omega) (by simp; omega))
      have hb4 := hb3.setCell (p := ⟨n + 2, 0, none⟩) (by simp) (.string (ofL t))
      generalize w3.setCell ⟨n + 2, 0, none⟩ (.string (ofL t)) = w4 at HM4 HL4 hb4 ⊢
      obtain ⟨fn, tmps, assign, body, hy, hR⟩ := HY.out a t w4 HM4.out HL4.out hb4
      rw [hy]
      refine ⟨(fun h => by cases h), hR.mono ?_⟩
      rintro e w5 ⟨M5, b5, (⟨rfl, ho, L5⟩ | ⟨rfl, ho, L5⟩)⟩
      · have Ho := Au.mk ho
        have HM5 := Au.mk M5
        have HL5 := Au.mk L5
        clear ho M5 L5 c1 c2 hy
        gi_wp2_with fail
        go_roundw
        case rel =>
          refine ⟨t, m, rfl, by have := Htl.out.1; omega, HM5, HL5, b5, ⟨?_⟩⟩
          obtain ⟨l, e1, e2⟩ := Hp.out
          have h2 : (a :: l).all (fun s => !oddP s) = r := by rw [← e1]; simpa using Hr.out
          cases m
          · have e3 : l = [] := by simpa using e2
            subst e3
            simp [Ho.out] at h2
            simpa using h2.symm
          · have e3 : l = pparts t := by simpa using e2
            rw [e3] at h2
            simpa using all_parts h2 Ho.out
        case measure =>
          rw [cell_of_one HM5.out.p, Hcell.out]
          have h1 := Htl.out
          cases m
          · simp [cutM]
          · have := h1.2 rfl
            simp [cutM, ofL_size]; omega
      · have Ho := Au.mk ho
        clear ho c1 c2 hy
        gi_wp2_with fail
        refine bodyPost_ret (results_none rfl _ _ _) rfl ?_
        obtain ⟨l, e1, e2⟩ := Hp.out
        have h2 : (a :: l).all (fun s => !oddP s) = r := by rw [← e1]; simpa using Hr.out
        exact ⟨⟨_, rfl⟩, ⟨t, M5⟩, b5, .inr ⟨all_odd h2 Ho.out, L5⟩⟩
theorem index0_calls {s : List UInt8} {n : Int} (hn : Lib.indexByte s 0 = n) (w : World) : Calls Tryz.prog 119 #[.string (ofL s), .int .u8 0] w fun e w' => e = .returned (.int .i64 n) ∧ w = w' := index_is hn w
set_option maxHeartbeats 2000000 in
theorem pmay_calls (p : List UInt8) (hp : p.length ≤ 10000) {r : Bool} (hr : pmay p = r) (w : World) :
    Calls Tryz.prog 76 #[.string (ofL p)] w fun e w' => e = .returned (.bool r) ∧ Below w.heap.size w w' := by
  have Hr := Au.mk hr
  clear hr
  refine (callsIn_wide (n := 0)).1 ?_
  refine callsIn_of_wp_marks Tryz.func76 rfl trivial ?_ rfl
  simp only [Tryz.ntmps76, List.size_toArray, List.length_cons, List.length_nil, Nat.reduceAdd, Nat.reduceSub, Array.replicate_succ, Array.replicate_zero, List.push_toArray, List.append_toArray, List.nil_append, List.cons_append]
  gi_wp2_with fail
  refine ⟨trivial, rfl, (callsIn_wide.2 (parts_calls p _)).mono ?_⟩
  rintro e w' ⟨rfl, rfl⟩
  gi_wp2_with fail
  obtain ⟨rp, Hrp⟩ := au ((pparts p).all (fun s => !oddP s))
  have hb0 : Below w.heap.size w (((w.alloc (.cells #[.bool false] 4)).alloc (.cells #[.func (.func 124) #[] #[]] 124)).alloc (.cells #[.string (ofL p)] 9)) :=
    (((Below.refl _ _).alloc (Nat.le_refl _) _).alloc (by simp) _).alloc (by simp; omega) _
  have hM0 : ∀ L D, PMem (((w.alloc (.cells #[.bool false] 4)).alloc (.cells #[.func (.func 124) #[] #[]] 124)).alloc (.cells #[.string (ofL p)] 9)) w.heap.size L D p := fun L D => by
    have h3 := heap_alloc_new ((w.alloc (.cells #[.bool false] 4)).alloc (.cells #[.func (.func 124) #[] #[]] 124)) (.cells #[.string (ofL p)] 9)
    have h2 := heap_alloc_new (w.alloc (.cells #[.bool false] 4)) (.cells #[.func (.func 124) #[] #[]] 124)
    have h1 := heap_alloc_new w (.cells #[.bool false] 4)
    simp only [World.size_alloc] at h3 h2
    exact ⟨blk_alloc (blk_alloc h1 _) _, blk_alloc h2 _, h3⟩
  generalize ((w.alloc (.cells #[.bool false] 4)).alloc (.cells #[.func (.func 124) #[] #[]] 124)).alloc (.cells #[.string (ofL p)] 9) = W0 at hb0 hM0 ⊢
  obtain ⟨n, Hn⟩ := au w.heap.size
  rw [Hn.out] at hb0 hM0 ⊢
  have hsz := (hM0 0 0).lt
  refine over_in rfl (enters_of Tryz.func155 (by kernel_rfl) rfl) ?_
  intro rd fn W1 Hrd hb1 hz1 hR
  have hM1 := (hM0 (W0.heap.size + 1) W0.heap.size).below hb1
  refine (pparts_walk p hp Hrp.out w W1 (W0.heap.size + 1) W0.heap.size (rd .ready none) (rd .done (some .ret)) n (by omega) (by omega) hM1 hR (below_then hb0 hb1 (by omega)) ?_).mono ?_
  · intro s q W hM hL hb
    refine over_round Hrd hL rfl ?_
    have hlt := hM.lt
    have hMb := hM.keep (V := W.putObj (W0.heap.size + 1) (.loop (rd .busy none))) (fun k hk => World.putObj_heap_other (by omega))
    have HMb := Au.mk hMb
    have Hlb := Au.mk (hL.turn (rd .busy none) (by omega : W0.heap.size ≠ W0.heap.size + 1))
    have Hbb := Au.mk (below_putObj hb (L := W0.heap.size + 1) (by omega) (by omega) (.loop (rd .busy none)))
    have Hns := Au.mk (show n + 2 < W0.heap.size ∧ n < W.heap.size from ⟨by omega, by omega⟩)
    have q1 := cell_of_one hMb.o
    have q2 := cell_of_one hMb.r
    have q3 := free_of_one hMb.r
    have HL := Au.mk hL
    clear hM hMb hb hsz hlt hL
    gi_wp2_with fail
    refine ⟨HL.out, ?_⟩
    generalize W.putObj (W0.heap.size + 1) (.loop (rd .busy none)) = Wb at HMb Hlb Hbb q1 q2 q3 ⊢
    obtain ⟨o, Ho⟩ := au (oddP s)
    cases o
    · gi_wp2_with fail
      refine ⟨trivial, rfl, CallsIn.inRound _ ((callsIn_wide.2 (odd_calls s Ho.out _)).mono ?_)⟩
      rintro e w' ⟨rfl, rfl⟩
      gi_wp2_with fail
      have hlt := HMb.out.lt
      have h2 := Hns.out
      exact ⟨Hlb.out, HMb.out.keep (fun k hk => World.putObj_heap_other (by omega)), below_putObj Hbb.out (by omega) (by omega) _, .inl ⟨rfl, Ho.out, Hlb.out.turn _ (by omega)⟩⟩
    · gi_wp2_with fail
      refine ⟨trivial, rfl, CallsIn.inRound _ ((callsIn_wide.2 (odd_calls s Ho.out _)).mono ?_)⟩
      rintro e w' ⟨rfl, rfl⟩
      gi_wp2_with fail
      have hlt := HMb.out.lt
      have h2 := Hns.out
      have l1 := Hlb.out.set (p := ⟨n, 0, none⟩) (.bool false) (by simp; omega) (by simp; omega)
      have m1 : PMem (Wb.setCell ⟨n, 0, none⟩ (.bool false)) n (W0.heap.size + 1) W0.heap.size q :=
        ⟨one_setCell HMb.out.r, (Below.heap_setCell _ _ _ _ (by simp)).trans HMb.out.o, (Below.heap_setCell _ _ _ _ (by simp)).trans HMb.out.p⟩
      have b1 := Hbb.out.setCell (p := ⟨n, 0, none⟩) (Nat.le_refl _) (.bool false)
      have hlt1 := m1.lt
      exact ⟨l1, m1.keep (fun k hk => World.putObj_heap_other (by omega)), below_putObj b1 (by omega) (by omega) _, .inr ⟨rfl, Ho.out, l1.turn _ (by omega)⟩⟩
  · have hpm : pmay p = (rp && (decide (p.length ≤ 300) && !p.contains 0)) := by rw [← Hrp.out]; rfl
    rw [Hr.out] at hpm
    have Hpm := Au.mk hpm
    have hz : (ofL p).size = p.length := ofL_size p
    rintro e W' ⟨hv, ⟨q, M⟩, hb, (⟨h1, hl⟩ | ⟨h1, hl⟩)⟩
    · refine ⟨hv, .inl ⟨hl, ?_⟩⟩
      have hlt := M.lt
      have b2 := below_putObj hb (L := W0.heap.size + 1) (by omega) (by omega) (.loop (rd .exhausted none))
      have M2 := M.keep (V := W'.putObj (W0.heap.size + 1) (.loop (rd .exhausted none))) (fun k hk => World.putObj_heap_other (by omega))
      have D2 := Au.mk (hl.deferred (by omega) (.loop (rd .exhausted none)))
      have HM := Au.mk M2
      have Hn2 := Au.mk (show n < W0.heap.size from by omega)
      have q1 := cell_of_one M2.r
      have q2 := free_of_one M2.r
      have Hb := Au.mk b2
      clear hb hl hlt M M2 hpm hv hb0 hb1 hz1 hR hM1 hsz b2
      generalize W'.putObj (W0.heap.size + 1) (.loop (rd .exhausted none)) = W2 at *
      subst h1
      have fin : ∀ (b : Bool) (tmps : Array Value), tmps[2]? = some (.pointer (some ⟨n, 0, none⟩)) → b = r → bodyPostM Fence.wide 0 Tryz.prog Tryz.f76 (fun e w' => e = .returned (.bool r) ∧ Below w.heap.size w w') .ret { tmps := tmps, defers := [{ target := .collected W0.heap.size, args := #[] }] } (W2.setCell ⟨n, 0, none⟩ (.bool b)) := by
        intro b tmps ht hb2
        have hne : n ≠ W0.heap.size := by have := Hn2.out; omega
        have hc : ((W2.setCell ⟨n, 0, none⟩ (.bool b)).putObj W0.heap.size (.deferred none)).cell? ⟨n, 0, none⟩ = some (.bool b) := by
          rw [cell_putObj hne]; exact cell_of_one (one_setCell HM.out.r)
        have hd := (Below.heap_setCell W2 ⟨n, 0, none⟩ (.bool b) W0.heap.size (Ne.symm hne)).trans D2.out
        refine end_marks (v := .bool b) hd ?_ ⟨by rw [hb2], ?_⟩
        · simp [results, Tryz.results76, go_sem, ht, hc]
        · have h5 := HM.out.lt
          have h6 := Hn2.out
          rw [Hn.out]
          exact below_putObj (Hb.out.setCell (p := ⟨n, 0, none⟩) (Nat.le_refl _) _) (by omega) (by simp [World.setCell]; omega) _
      have Fin := Au.mk fin
      clear fin
      have hrr : r = (decide (p.length ≤ 300) && !p.contains 0) := by rw [Hpm.out]; rfl
      by_cases h3 : p.length ≤ 300
      · have h3i : (p.length : Int) ≤ 300 := by omega
        obtain ⟨i, Hi⟩ := au (Lib.indexByte p 0)
        have hc0 : (i < 0) ↔ (0 : UInt8) ∉ p := by rw [← Hi.out]; exact indexByte_mem p 0
        have Hr2 : Au (decide (i < 0) = r) := ⟨by rw [hrr]; simp [hc0, h3]⟩
        clear hc0 hrr
        gi_wp2_with fail
        refine ⟨trivial, rfl, (callsIn_wide.2 (index0_calls Hi.out W2)).mono ?_⟩
        rintro e w' ⟨rfl, rfl⟩
        gi_wp2_with fail
        exact Fin.out _ _ (by rfl) Hr2.out
      · have Hr2 : Au (false = r) := ⟨by rw [hrr]; simp [h3]⟩
        have h3i : decide ((p.length : Int) ≤ 300) = false := by simp; omega
        have h3n : decide (p.length ≤ 300) = false := by simp; omega
        clear hrr h3
        gi_wp2_with fail
        refine ⟨trivial, ?_⟩
        gi_wp2_with fail
        exact Fin.out _ _ (by rfl) Hr2.out
    · refine ⟨hv, .inr ⟨hl, ?_⟩⟩
      have hlt := M.lt
      have b2 := below_putObj hb (L := W0.heap.size + 1) (by omega) (by omega) (.loop (rd .exhausted (some .ret)))
      have M2 := M.keep (V := W'.putObj (W0.heap.size + 1) (.loop (rd .exhausted (some .ret)))) (fun k hk => World.putObj_heap_other (by omega))
      have D2 := Au.mk (hl.deferred (by omega) (.loop (rd .exhausted (some .ret))))
      have HM := Au.mk M2
      have Hn2 := Au.mk (show n < W0.heap.size from by omega)
      have q1 := cell_of_one M2.r
      have q2 := free_of_one M2.r
      have Hb := Au.mk b2
      have Hr2 : Au (false = r) := ⟨by rw [Hpm.out, h1]; rfl⟩
      clear hb hl hlt M M2 hpm hv hb0 hb1 hz1 hR hM1 hsz b2 h1
      generalize W'.putObj (W0.heap.size + 1) (.loop (rd .exhausted (some .ret))) = W2 at *
      gi_wp2_with fail
      have hne : n ≠ W0.heap.size := by have := Hn2.out; omega
      have hc : (W2.putObj W0.heap.size (.deferred none)).cell? ⟨n, 0, none⟩ = some (.bool false) := by
        rw [cell_putObj hne]; exact q1
      refine end_marks (v := .bool false) D2.out ?_ ⟨by rw [Hr2.out], ?_⟩
      · simp [results, Tryz.results76, go_sem, hc]
      · have h5 := HM.out.lt
        have h6 := Hn2.out
        rw [Hn.out]
        exact below_putObj Hb.out (by omega) (by omega) _
end Go.Proofs.YtldhcknjpmbgnaaGreatDoor.Rk
/- Paths: Parent, Split; long texts: Text; block.Many, walked. -/
namespace Go.Proofs.YtldhcknjpmbgnaaGreatDoor.Rk
open Go.RowKit Go.Shelf
set_option linter.unusedVariables false
set_option linter.unusedSimpArgs false
set_option maxRecDepth 100000

theorem ltext_calls (s : List UInt8) (hs : s.length ≤ 10000) {r : Bool} (hr : ltext s = r) (w : World) :
    Calls Tryz.prog 74 #[.string (ofL s)] w fun e w' => e = .returned (.bool r) ∧ w = w' := by
  have hz : (ofL s).size = s.length := ofL_size s
  obtain ⟨b1, B1⟩ := au (s == [])
  have e1 : s.isEmpty = b1 := by rw [← B1.out]; cases s <;> rfl
  obtain ⟨a2, A2⟩ := au (decide (s.length ≤ 300))
  have c2n := A2.out
  have c2 : decide ((s.length : Int) ≤ 300) = a2 := by rw [← c2n]; simp only [decide_eq_decide]; omega
  obtain ⟨i, Hi⟩ := au (Lib.indexByte s 0)
  have Hr : Au ((!b1 && (a2 && decide (i < 0))) = r) := ⟨by
    have h0 : (i < 0) ↔ (0 : UInt8) ∉ s := by rw [← Hi.out]; exact indexByte_mem s 0
    rw [← hr, ltext, B1.out, A2.out]; simp [h0]⟩
  clear hr hs
  cases b1 <;> cases a2
  all_goals
    go_enter Tryz.func74, Tryz.ntmps74
    go_wp2_with (go_at_call 119; refine (index0_calls Hi.out _).mono ?_; rintro e w1 ⟨rfl, rfl⟩)
    go_ret
    exact ⟨ret_bool (by rw [← Hr.out]; rfl), rfl⟩
theorem lastIdx_cases (p : List UInt8) : lastIdx 47 p = -1 ∧ (47 : UInt8) ∉ p ∨ ∃ k : Nat, lastIdx 47 p = k ∧ k < p.length ∧ p[k]? = some 47 ∧ (47 : UInt8) ∉ p.drop (k + 1) := by
  have hz : (ofL p).size = p.length := ofL_size p
  have hg : ∀ j (h : j < p.length), (ofL p).data[j]! = p[j] := fun j h => by simp [ofL, h]
  unfold lastIdx
  rcases Lib.lastIndexByte_spec (ofL p) ((47 : UInt8).toNat : Int) with ⟨e, h⟩ | ⟨i, hi, e, h, hn⟩
  · left
    refine ⟨e, fun hm => ?_⟩
    obtain ⟨j, hj, hj2⟩ := List.mem_iff_getElem.1 hm
    have := h j (by rw [hz]; exact hj)
    rw [hg j hj, hj2] at this
    exact this rfl
  · right
    rw [hz] at hi
    rw [hg i hi] at h
    refine ⟨i, e, hi, ?_, fun hm => ?_⟩
    · rw [List.getElem?_eq_getElem hi]
      congr 1
      exact UInt8.toNat_inj.1 (by exact_mod_cast h)
    · obtain ⟨j, hj, hj2⟩ := List.mem_iff_getElem.1 hm
      rw [List.length_drop] at hj
      rw [List.getElem_drop] at hj2
      have := hn (i + 1 + j) (by omega) (by rw [hz]; omega)
      rw [hg _ (by omega), hj2] at this
      exact this rfl
theorem lastByte_calls {p : List UInt8} {i : Int} (hi : lastIdx 47 p = i) (hp : p.length ≤ 10000) (w : World) : Calls Tryz.prog 131 #[.string (ofL p), .int .u8 47] w fun e w' => e = .returned (.int .i64 i) ∧ w = w' := by
  refine (Tryz.strings_LastIndexByte (ofL p) 47 (by rw [ofL_size]; omega) w).mono ?_
  rintro e w' ⟨h1, h2⟩
  exact ⟨by rw [h1, ← hi]; rfl, h2.symm⟩
set_option maxHeartbeats 1000000 in
theorem parent_calls (p : List UInt8) (hp : p.length ≤ 10000) {q : List UInt8} {b : Bool} (h : parent p = (q, b)) (w : World) :
    Calls Tryz.prog 84 #[.string (ofL p)] w fun e w' => e = .returned (.tuple #[.string (ofL q), .bool b]) ∧ Below w.heap.size w w' := by
  have hz : (ofL p).size = p.length := ofL_size p
  obtain ⟨m, Hm⟩ := au (pmay p)
  have hmm := Hm.out
  unfold parent at h
  rw [hmm] at h
  rcases lastIdx_cases p with ⟨e, _⟩ | ⟨k, e, hk, _, _⟩
  · rw [e] at h
    have He := Au.mk e
    have h' : (([] : List UInt8), false) = (q, b) := h
    injection h' with h1 h2
    subst h1 h2
    clear e h
    go_enter Tryz.func84, Tryz.ntmps84
    go_wp2_with fail
    refine (lastByte_calls He.out hp _).mono ?_
    rintro e w1 ⟨rfl, rfl⟩
    go_wp2_with fail
    go_ret2
    exact ⟨rfl, Below.refl _ _⟩
  · rw [e] at h
    have He := Au.mk e
    have hx : (ofL p).extract 0 k = ofL (p.take k) := by rw [ofL_extract]; simp
    have hkl : (k : Int) ≤ p.length := by omega
    clear e
    cases m
    · have h' : (([] : List UInt8), false) = (q, b) := by simpa using h
      injection h' with h1 h2
      subst h1 h2
      clear h hmm
      go_enter Tryz.func84, Tryz.ntmps84
      go_wp2_with fail
      refine (lastByte_calls He.out hp _).mono ?_
      rintro e w1 ⟨rfl, rfl⟩
      go_wp2_with fail
      refine (pmay_calls p hp Hm.out _).mono ?_
      rintro e w1 ⟨rfl, b1⟩
      go_wp2_with fail
      go_ret2
      exact ⟨rfl, b1⟩
    · have h0 : ¬ ((k : Int) < 0) := by omega
      have h' : (p.take k, true) = (q, b) := by simpa [h0] using h
      injection h' with h1 h2
      subst h1 h2
      clear h hmm h0
      go_enter Tryz.func84, Tryz.ntmps84
      go_wp2_with fail
      refine (lastByte_calls He.out hp _).mono ?_
      rintro e w1 ⟨rfl, rfl⟩
      go_wp2_with fail
      refine (pmay_calls p hp Hm.out _).mono ?_
      rintro e w1 ⟨rfl, b1⟩
      go_wp2_with fail
      go_ret2
      exact ⟨rfl, b1⟩
theorem index47_calls {s : List UInt8} {n : Int} (hn : idx 47 s = n) (w : World) : Calls Tryz.prog 119 #[.string (ofL s), .int .u8 47] w fun e w' => e = .returned (.int .i64 n) ∧ w = w' :=
  index_is (c := 47) (by rw [indexByte_idx]; exact hn) w
set_option maxHeartbeats 2000000 in
theorem psplit_calls (p : List UInt8) (hp : p.length ≤ 10000) {a b : List UInt8} {r : Bool} (h : psplit p = (a, b, r)) (w : World) :
    Calls Tryz.prog 176 #[.string (ofL p)] w fun e w' => e = .returned (.tuple #[.string (ofL a), .string (ofL b), .bool r]) ∧ Below w.heap.size w w' := by
  have hz : (ofL p).size = p.length := ofL_size p
  obtain ⟨m, Hm⟩ := au (pmay p)
  unfold psplit at h
  rw [Hm.out] at h
  cases m
  · have h' : (([] : List UInt8), ([] : List UInt8), false) = (a, b, r) := h
    injection h' with h1 h2
    injection h2 with h2 h3
    subst h1 h2 h3
    clear h
    go_enter Tryz.func176, Tryz.ntmps176
    go_wp2_with fail
    refine (pmay_calls p hp Hm.out _).mono ?_
    rintro e w1 ⟨rfl, b1⟩
    go_wp2_with fail
    go_ret3
    exact ⟨rfl, b1⟩
  · rw [if_pos rfl] at h
    by_cases hl : p.length ≤ 100
    · rw [if_pos hl] at h
      injection h with h1 h2
      injection h2 with h2 h3
      subst h1 h2 h3
      have hli : (p.length : Int) ≤ 100 := by omega
      go_enter Tryz.func176, Tryz.ntmps176
      go_wp2_with fail
      refine (pmay_calls p hp Hm.out _).mono ?_
      rintro e w1 ⟨rfl, b1⟩
      go_wp2_with fail
      go_ret3
      exact ⟨rfl, b1⟩
    · rw [if_neg hl] at h
      dsimp only at h
      have d1 : decide ((p.length : Int) ≤ 100) = false := by simp; omega
      have d2 : decide (p.length ≤ 100) = false := by simp; omega
      obtain ⟨f, hf⟩ : ∃ f : Nat, p.length = f + 101 := ⟨p.length - 101, by omega⟩
      have hf2 : p.length - 101 = f := by omega
      rw [hf2] at h
      obtain ⟨i, Hi⟩ := au (idx 47 (p.drop f))
      rw [Hi.out] at h
      have hsub : IntKind.i64.wrap ((p.length : Int) - 100) = f + 1 := by rw [IntKind.wrap_i64]; omega
      have hx : (ofL p).extract f (ofL p).size = ofL (p.drop f) := by rw [ofL_extract, hz, List.take_length]
      have hx2 : (ofL p).extract f p.length = ofL (p.drop f) := by rw [← hz]; exact hx
      have hlen : (p.length : Int) = f + 101 := by omega
      have hfp : (f : Int) ≤ p.length := by omega
      have hfz : (f : Int) ≤ (ofL p).size := by omega
      have Hf := Au.mk hf
      clear hf hf2 hl
      by_cases hi0 : i < 0
      · rw [if_pos (.inl hi0)] at h
        injection h with h1 h2
        injection h2 with h2 h3
        subst h1 h2 h3
        have hc2 : decide (i < 0) = true := by simpa using hi0
        go_enter Tryz.func176, Tryz.ntmps176
        go_wp2_with fail
        refine (pmay_calls p hp Hm.out _).mono ?_
        rintro e w1 ⟨rfl, b1⟩
        go_wp2_with fail
        refine (index47_calls Hi.out _).mono ?_
        rintro e w1 ⟨rfl, rfl⟩
        go_wp2_with fail
        go_ret3
        exact ⟨rfl, b1⟩
      · obtain ⟨k, hk, hlt, _, _⟩ := idx_lt (c := 47) (l := p.drop f) (by rw [Hi.out]; omega)
        rw [Hi.out] at hk
        subst hk
        rw [List.length_drop] at hlt
        have hk1 : f + k < p.length := by omega
        have hk2 : (f : Int) + k < p.length := by omega
        have d3 : decide ((k : Int) < 0) = false := by simp
        by_cases hc : 155 < (f : Int) + k
        · rw [if_pos (.inr hc)] at h
          injection h with h1 h2
          injection h2 with h2 h3
          subst h1 h2 h3
          clear hi0
          go_enter Tryz.func176, Tryz.ntmps176
          go_wp2_with fail
          refine (pmay_calls p hp Hm.out _).mono ?_
          rintro e w1 ⟨rfl, b1⟩
          go_wp2_with fail
          refine (index47_calls Hi.out _).mono ?_
          rintro e w1 ⟨rfl, rfl⟩
          go_wp2_with fail
          go_ret3
          exact ⟨rfl, b1⟩
        · rw [if_neg (by omega)] at h
          have h' : (p.take (f + k), p.drop (f + k + 1), true) = (a, b, r) := by simpa using h
          injection h' with h1 h2
          injection h2 with h2 h3
          subst h1 h2 h3
          have d4 : decide (155 < (f : Int) + k) = false := by simpa using hc
          have y1 : (ofL p).extract 0 (f + k) = ofL (p.take (f + k)) := by rw [ofL_extract]; simp
          have y2 : (ofL p).extract (f + k + 1) (ofL p).size = ofL (p.drop (f + k + 1)) := by rw [ofL_extract, hz, List.take_length]
          have y3 : (ofL p).extract (f + k + 1) p.length = ofL (p.drop (f + k + 1)) := by rw [← hz]; exact y2
          have Y := Au.mk (And.intro y1 (And.intro y2 y3))
          have Hk1 := Au.mk hk1
          have hfb : (f : Int) + k ≤ 10000 := by omega
          have e5 : (f : Int) + 101 - 100 - 1 = f := by omega
          have HE5 := Au.mk e5
          clear hi0 hc h e5 y1 y2 y3 hk1
          go_enter Tryz.func176, Tryz.ntmps176
          go_wp2_with fail
          refine (pmay_calls p hp Hm.out _).mono ?_
          rintro e w1 ⟨rfl, b1⟩
          go_wp2_with fail
          refine (index47_calls Hi.out _).mono ?_
          rintro e w1 ⟨rfl, rfl⟩
          rw [HE5.out]
          go_wp2_with fail
          have y1 := Y.out.1
          have y2 := Y.out.2.1
          have y3 := Y.out.2.2
          have k1 : IntKind.i64.wrap ((f : Int) + k) = (f : Int) + k := by rw [IntKind.wrap_i64]; omega
          have k2 : IntKind.i64.wrap ((f : Int) + k + 1) = (f : Int) + k + 1 := by rw [IntKind.wrap_i64]; omega
          have t1 : ((f : Int) + k).toNat = f + k := by omega
          have t2 : ((f : Int) + k + 1).toNat = f + k + 1 := by omega
          have k3 : (f : Int) + k ≤ p.length := by have := Hk1.out; omega
          have k4 : (f : Int) + k + 1 ≤ p.length := by have := Hk1.out; omega
          have k5 : (0 : Int) ≤ (f : Int) + k := by omega
          have k6 : (0 : Int) ≤ (f : Int) + k + 1 := by omega
          go_quiet (fail)
          go_wp2_with fail
          go_ret3
          exact ⟨rfl, below_drewN b1 _⟩
end Go.Proofs.YtldhcknjpmbgnaaGreatDoor.Rk
/- Long names: Needs, Names; blocks: Many, Zeros, walked; lists of blocks joined. -/
namespace Go.Proofs.YtldhcknjpmbgnaaGreatDoor.Rk
open Go.RowKit Go.Shelf
set_option linter.unusedVariables false
set_option linter.unusedSimpArgs false
set_option maxRecDepth 100000

theorem nd_cells {W : World} {g : Nat} (n : Nd) (hg : W.heap[g]? = some (.cells n.cells.toArray 23 (0, 0))) : W.cell? ⟨g, 0, none⟩ = some (.string (ofL n.path)) ∧ W.cell? ⟨g, 1, none⟩ = some (.string (ofL n.link)) ∧ W.cell? ⟨g, 2, none⟩ = some (.int .u8 n.kind.toNat) ∧ W.cell? ⟨g, 3, none⟩ = some (.int .i64 n.mode) ∧ W.cell? ⟨g, 4, none⟩ = some (.int .i64 n.uid) ∧ W.cell? ⟨g, 5, none⟩ = some (.int .i64 n.gid) ∧ W.cell? ⟨g, 6, none⟩ = some (.int .i64 n.mtime) ∧ W.cell? ⟨g, 7, none⟩ = some (.string (ofL n.data)) :=
  ⟨blk_cell hg 0 rfl, blk_cell hg 1 rfl, blk_cell hg 2 rfl, blk_cell hg 3 rfl, blk_cell hg 4 rfl, blk_cell hg 5 rfl, blk_cell hg 6 rfl, blk_cell hg 7 rfl⟩
theorem nd_box (w : World) (n : Nd) : (w.alloc (.cells n.cells.toArray 23)).heap[w.heap.size]? = some (.cells n.cells.toArray 23 (0, 0)) := heap_alloc_new _ _
theorem short_calls {s : List UInt8} {x : List UInt8} (hx : short s = x) (hs : s.length ≤ 10000) (w : World) : Calls Tryz.prog 182 #[.string (ofL s)] w fun e w' => e = .returned (.string (ofL x)) ∧ w = w' := by
  have hz : (ofL s).size = s.length := ofL_size s
  have hx1 : (ofL s).extract 0 100 = ofL x := by rw [ofL_extract, ← hx]; simp [short]
  have hx2 : s.length ≤ 100 → (ofL s).extract 0 s.length = ofL x := fun h => by rw [ofL_extract, ← hx, short, List.take_of_length_le h, List.take_length]; simp
  clear hx
  by_cases h : s.length ≤ 100
  · have hi : (s.length : Int) ≤ 100 := by omega
    have hx3 := hx2 h
    clear hx1 hx2
    have hmn : min (s.length : Int) 100 = s.length := by omega
    go_enter Tryz.func182, Tryz.ntmps182
    go_wp2_with fail
    go_ret
    exact ⟨by simp_all, rfl⟩
  · have hi : (100 : Int) ≤ s.length := by omega
    have hmn : min (s.length : Int) 100 = 100 := by omega
    clear hx2
    go_enter Tryz.func182, Tryz.ntmps182
    go_wp2_with fail
    go_ret
    exact ⟨by simp_all, rfl⟩
set_option maxHeartbeats 2000000 in
theorem lneeds_calls (n : Nd) (hS : n.S) {x y : Bool} (h : lneeds n = (x, y)) (w : World) : Calls Tryz.prog 159 #[n.agg] w fun e w' => e = .returned (.tuple #[.bool x, .bool y]) ∧ Below w.heap.size w w' := by
  obtain ⟨h1, h2, _⟩ := hS
  have hp : n.path.length ≤ 10000 := by omega
  obtain ⟨a, Ha⟩ := au (psplit n.path).1
  obtain ⟨b, Hb⟩ := au (psplit n.path).2.1
  obtain ⟨r, Hr⟩ := au (psplit n.path).2.2
  obtain ⟨m, Hm⟩ := au (pmay n.path)
  have Hs : Au (psplit n.path = (a, b, r)) := ⟨by rw [← Ha.out, ← Hb.out, ← Hr.out]⟩
  unfold lneeds at h
  rw [Hr.out, Hm.out] at h
  injection h with hx hy
  have Hx := Au.mk hx
  have hz : (ofL n.link).size = n.link.length := ofL_size _
  have hyi : decide ((100 : Int) < n.link.length) = y := by rw [← hy]; simp only [decide_eq_decide]; omega
  have hb0 := (Below.refl w.heap.size w).alloc (Nat.le_refl _) (.cells n.cells.toArray 23)
  have B0 := Au.mk (nd_box w n)
  obtain ⟨f0, f1, _⟩ := nd_cells n B0.out
  unfold Nd.agg
  unfold Nd.cells at f0 f1 hb0 B0
  clear hx
  cases r
  · go_enter Tryz.func159, Tryz.ntmps159
    go_wp2_with fail
    refine (psplit_calls n.path (by omega) Hs.out _).mono ?_
    rintro e w1 ⟨rfl, b1⟩
    have g0 := cell_below f0 b1
    have g1 := cell_below f1 b1
    have e1 := below_then hb0 b1 hb0.size
    clear f0 f1 hb0 b1
    go_upto_region 2 with fail
    go_region_held3 (fun w' => w'.cell? ⟨w.heap.size, 0, none⟩ = some (.string (ofL n.path)) ∧ w'.cell? ⟨w.heap.size, 1, none⟩ = some (.string (ofL n.link))) (go_keep)
      (first | (go_at_call 76; refine (pmay_calls n.path hp Hm.out _).mono ?_; rintro e w2 ⟨rfl, b2⟩; have k0 := cell_below (w := w1.drew) g0 b2; have k1 := cell_below (w := w1.drew) g1 b2))
    go_wp2_with fail
    go_ret2
    exact ⟨by rw [← Hx.out]; rfl, below_then (below_drewN e1 1) b2 (below_drewN e1 1).size⟩
  · go_enter Tryz.func159, Tryz.ntmps159
    go_wp2_with fail
    refine (psplit_calls n.path (by omega) Hs.out _).mono ?_
    rintro e w1 ⟨rfl, b1⟩
    have g0 := cell_below f0 b1
    have g1 := cell_below f1 b1
    have e1 := below_then hb0 b1 hb0.size
    clear f0 f1 hb0 b1
    go_upto_region 2 with fail
    go_quiet (fail)
    go_wp2_with fail
    go_ret2
    exact ⟨by rw [← Hx.out]; rfl, below_drewN e1 _⟩
set_option maxHeartbeats 2000000 in
theorem lnames_calls (n : Nd) (hS : n.S) {x y z : List UInt8} (hx : (ehead n).name = x) (hy : (ehead n).pre = y) (hz : (ehead n).link = z) (w : World) :
    Calls Tryz.prog 175 #[n.agg] w fun e w' => e = .returned (.tuple #[.string (ofL x), .string (ofL y), .string (ofL z)]) ∧ Below w.heap.size w w' := by
  obtain ⟨h1, h2, h3⟩ := hS
  have hp : n.path.length ≤ 10000 := by omega
  have hl : n.link.length ≤ 10000 := by omega
  obtain ⟨a, Ha⟩ := au (psplit n.path).1
  obtain ⟨b, Hb⟩ := au (psplit n.path).2.1
  obtain ⟨r, Hr⟩ := au (psplit n.path).2.2
  have Hs : Au (psplit n.path = (a, b, r)) := ⟨by rw [← Ha.out, ← Hb.out, ← Hr.out]⟩
  obtain ⟨l, Hl⟩ := au (lneeds n).1
  obtain ⟨k, Hk⟩ := au (lneeds n).2
  have Hn : Au (lneeds n = (l, k)) := ⟨by rw [← Hl.out, ← Hk.out]⟩
  have HS : Au n.S := ⟨⟨h1, h2, h3⟩⟩
  have Hx : Au ((if l then short n.path else b) = x) := ⟨by rw [← hx, ← Hl.out, ← Hb.out]; rfl⟩
  have Hy : Au (a = y) := ⟨by rw [← hy, ← Ha.out]; rfl⟩
  have Hz : Au (short n.link = z) := ⟨by rw [← hz]; rfl⟩
  have hb0 := (Below.refl w.heap.size w).alloc (Nat.le_refl _) (.cells n.cells.toArray 23)
  have B0 := Au.mk (nd_box w n)
  clear hx hy hz
  unfold Nd.agg
  go_enter Tryz.func175, Tryz.ntmps175
  obtain ⟨f0, f1, f2, f3, f4, f5, f6, f7⟩ := nd_cells n B0.out
  unfold Nd.cells at f0 f1 f2 f3 f4 f5 f6 f7 hb0 B0
  go_wp2_with fail
  refine (psplit_calls n.path hp Hs.out _).mono ?_
  rintro e w1 ⟨rfl, b1⟩
  have B1 := Au.mk (blk_below B0.out b1 (lt_of_block B0.out))
  have e1 := below_then hb0 b1 hb0.size
  clear f0 f1 f2 f3 f4 f5 f6 f7 hb0 b1 B0
  obtain ⟨f0, f1, f2, f3, f4, f5, f6, f7⟩ := nd_cells n B1.out
  go_wp2_with fail
  refine (lneeds_calls n HS.out Hn.out _).mono ?_
  rintro e w2 ⟨rfl, b2⟩
  have B2 := Au.mk (blk_below B1.out b2 (lt_of_block B1.out))
  have e2 := below_then e1 b2 e1.size
  clear f0 f1 f2 f3 f4 f5 f6 f7 e1 b2 B1
  obtain ⟨f0, f1, f2, f3, f4, f5, f6, f7⟩ := nd_cells n B2.out
  cases l
  · have Hx2 : Au (b = x) := ⟨by simpa using Hx.out⟩
    go_wp2_with fail
    refine (short_calls Hz.out hl _).mono ?_
    rintro e w3 ⟨rfl, rfl⟩
    go_wp2_with fail
    go_ret3
    exact ⟨by rw [← Hx2.out, ← Hy.out]; rfl, e2⟩
  · have Hx2 : Au (short n.path = x) := ⟨by simpa using Hx.out⟩
    go_wp2_with fail
    refine (short_calls Hx2.out hp _).mono ?_
    rintro e w3 ⟨rfl, rfl⟩
    go_wp2_with fail
    refine (short_calls Hz.out hl _).mono ?_
    rintro e w3 ⟨rfl, rfl⟩
    go_wp2_with fail
    go_ret3
    exact ⟨by rw [← Hy.out]; rfl, e2⟩
theorem manyB_calls (n : Nat) (hn : n ≤ 1000000) (w : World) : Calls Tryz.prog 153 #[.int .i64 n] w fun e w' => e = .returned (.int .i64 (manyB n)) ∧ w = w' := by
  by_cases h : n < 1
  · have hi : (n : Int) < 1 := by omega
    go_enter Tryz.func153, Tryz.ntmps153
    go_wp2_with fail
    go_ret
    exact ⟨by unfold manyB; rw [if_pos h]; rfl, rfl⟩
  · have hi : ¬ (n : Int) < 1 := by omega
    have hr : ((n : Int) - 1) / 512 + 1 = (manyB n : Nat) := by unfold manyB; rw [if_neg h]; omega
    have Hr := Au.mk hr
    clear hr
    have h1 : 1 ≤ (n : Int) := by omega
    have h2 : (n : Int) ≤ 1000000 := by omega
    go_enter Tryz.func153, Tryz.ntmps153
    go_wp2_with fail
    go_ret
    exact ⟨by rw [← Hr.out]; rfl, rfl⟩
theorem etBlks : ET Tryz.prog 36 46 (.slice none 0 0) 1 24 := ⟨Tryz.underlying36, by kernel_rfl, rfl, by decide⟩
abbrev KBk : Kd (List (List UInt8)) := Kd.slice (Kd.slice Kd.byte)
theorem make512 {z : List UInt8} (hz : zeros 512 = z) (W : World) : (Instr.makeSlice 46 (.int .i64 512) (.int .i64 512)).run Tryz.prog W = .ok (.slice (some ⟨W.heap.size, 0, none⟩) 512 512) (W.alloc (.cells (bcs z).toArray 5)) := by
  subst hz; exact make_bytes (P := Tryz.prog) etBytes 512 (by decide) W
theorem cells_at {w : World} {n : Nat} (h : w.heap.size = n) (v : Value) (t : TypeId) : Cells (w.alloc (.cells #[v] t)) (some ⟨n, 0, none⟩) [v] := by subst h; exact cells_new1 w v t
set_option maxHeartbeats 2000000 in
theorem zblocks_calls {n : Nat} {l : List (List UInt8)} (h : zblocks n = l) (hn : n ≤ 1000000) (w : World) :
    Calls Tryz.prog 45 #[.int .i64 n] w fun e w' => ∃ A c, e = .returned (.slice A l.length c) ∧ Sl (Kd.slice Kd.byte) w' (fun k => w.heap.size ≤ k) A c l ∧ Below w.heap.size w w' := by
  unfold zblocks at h
  by_cases hc : n < 1 ∨ 400 < n
  · rw [if_pos hc] at h
    subst h
    have hor : (decide ((n : Int) < 1) = true) ∨ (decide ((n : Int) < 1) = false ∧ decide ((400 : Int) < n) = true ∧ decide (400 < n) = true) := by
      simp only [decide_eq_true_eq, decide_eq_false_iff_not]; omega
    clear hc
    rcases hor with c1 | ⟨c1, c2, c3⟩
    all_goals
      go_enter Tryz.func45, Tryz.ntmps45
      go_wp2_with fail
      go_ret
      exact ⟨none, 0, rfl, Sl.nil _ _ _, Below.refl _ _⟩
  · rw [if_neg hc] at h
    have c1 : decide ((n : Int) < 1) = false := by simp; omega
    have c2 : decide ((400 : Int) < n) = false := by simp; omega
    have c3 : decide (400 < n) = false := by simp; omega
    have hn4 : n ≤ 400 := by omega
    have Hl := Au.mk h
    have hb0 := Below.refl w.heap.size w
    obtain ⟨z5, Hz5⟩ := au (zeros 512)
    have hz5 : z5.length = 512 := by rw [← Hz5.out]; exact zeros512
    have Hz5l := Au.mk hz5
    rw [Hz5.out] at Hl
    have hmk := fun W => make512 Hz5.out W
    clear hc h hz5
    go_enter Tryz.func45, Tryz.ntmps45
    go_wp2_with fail
    go_loopw [3, 11] (fun v i wr => ∃ k : Nat, k ≤ n ∧ i = .int .i64 k ∧ Au (RowD (Kd.slice Kd.byte) wr (fun _ => False) w.heap.size v (List.replicate k z5)) ∧ Below w.heap.size w wr) (fun _ i _ => n - (intOf i).toNat)
    case atStart => exact ⟨0, Nat.zero_le _, rfl, ⟨RowD.nil _ _ _ _⟩, hb0⟩
    case round =>
      obtain ⟨k, hk, rfl, HR, hb⟩ := hrel
      by_cases hlt : k < n
      · have hs := hb.size
        have hne : ∀ g, u3.ownBlock = some g → g < wr.heap.size := fun g hg => by obtain ⟨vs, hr⟩ := HR.out.row; exact (hr.block g hg).2
        have Hne := Au.mk hne
        have H3 : Au ((List.replicate k z5).length + [z5].length ≤ maxLen ∧ ((List.replicate k z5).length + [z5].length) * 24 ≤ 140737488355328) := ⟨by simp [maxLen]; omega⟩
        have H5 : Au (∀ o1 o2, w.heap.size ≤ ((wr.alloc o1).alloc o2).heap.size) := ⟨fun o1 o2 => by simp; omega⟩
        clear hne
        go_wp2_with (at_builtin; refine wpList_append_rowD (d := Kd.slice Kd.byte) (G := fun _ => False) (F2 := fun k => k = wr.heap.size) (base := w.heap.size) (xs := List.replicate k z5) (ys := [z5]) _ rfl etBlks _ _ rfl rfl ((HR.out.alloc _).alloc _) rfl rfl (els_one (by rw [Hz5l.out]; exact cells_at (by simp) _ _) ((new_sl wr z5 _ Hz5l.out (by decide)).alloc _)) (fun k hk => .inr (hk ▸ hs)) (fun g hg h => Nat.lt_irrefl _ (h ▸ Hne.out g hg)) H3.out.1 H3.out.2 (H5.out _ _) ?_; intro v' w1 hr hg ho)
        go_wp2_with fail
        go_roundw
        case rel =>
          refine ⟨k + 1, by omega, by go_num, ⟨?_⟩, ?_⟩
          · rw [List.replicate_succ']; exact hr
          · refine ((hb.alloc hs _).alloc (by simp; omega) _).grown hg (by simp; omega) ?_
            intro g hgg
            obtain ⟨vs, hrw⟩ := HR.out.row
            exact (hrw.block g hgg).1
        case measure => simp [intOf]; omega
      · obtain rfl : k = n := by omega
        rw [Hl.out] at HR
        obtain ⟨A, c, rfl, hsl⟩ := HR.out.sl
        go_wp2_with fail
        go_ret
        exact ⟨A, c, rfl, hsl.mono (fun k hk => by simpa using hk), hb⟩
end Go.Proofs.YtldhcknjpmbgnaaGreatDoor.Rk
/- Lists of blocks joined: slices.Grow, slices.Concat, walked. -/
namespace Go.Proofs.YtldhcknjpmbgnaaGreatDoor.Rk
open Go.RowKit Go.Shelf
set_option linter.unusedVariables false
set_option linter.unusedSimpArgs false
set_option maxRecDepth 100000

/-- A row without elements. -/
theorem rowD_empty {α : Type} (d : Kd α) {w : World} {g cap : Nat} {e : TypeId} {cs : Array Value} (G : Nat → Prop) {base : Nat} (hb : base ≤ g) (hg : w.heap[g]? = some (.cells cs e (0, 0))) (hc : cs.size = cap * d.sz) (hm : cap ≤ maxLen) : RowD d w G base (.slice (some ⟨g, 0, none⟩) 0 cap) [] := by
  refine ⟨fun _ => False, [], fun k h => h.elim, fun _ _ h => h, ⟨by simp, .inr ⟨g, cap, rfl, hb, lt_of_block hg, Nat.zero_le _, hm, by simp, fun j hj => ⟨?_, blk_free hg j⟩⟩⟩, fun W _ => rfl⟩
  have hg' : w.heap[g]? = some (.cells cs.toList.toArray e (0, 0)) := by simpa using hg
  have hj' : j < cs.toList.length := by simpa using (by omega : j < cs.size)
  rw [blk_cell hg' j (List.getElem?_eq_getElem hj')]; rfl
set_option maxHeartbeats 2000000 in
theorem grow_calls (n : Nat) (hn : n ≤ 1000000) (G : Nat → Prop) (w : World) :
    Calls Tryz.prog 71 #[.slice none 0 0, .int .i64 n] w fun e w' => (∃ v, e = .returned v ∧ RowD (Kd.slice Kd.byte) w' G w.heap.size v []) ∧ Below w.heap.size w w' := by
  by_cases h0 : n = 0
  · subst h0
    go_enter Tryz.func71, Tryz.ntmps71
    go_wp2_with fail
    go_ret
    exact ⟨⟨_, rfl, RowD.nil _ _ _ _⟩, Below.refl _ _⟩
  · obtain ⟨i, hi, hz, hsz, hby⟩ := info_parts etBlks.i
    have h1 : 1 ≤ n := by omega
    have hfit : n * 24 ≤ 140737488355328 := by omega
    have hrun : ∀ ty, (Builtin.append_ #[36, 3] ty #[.slice none 0 0, .int .i64 (n : Int)]).run Tryz.prog w = .ok (.slice (some ⟨w.heap.size, 0, none⟩) n (grownCap w n 0 46)) (w.drew.alloc (.cells (Builtin.zeroCells (Value.slice none 0 0).cells n ++ Builtin.zeroCells (Value.slice none 0 0).cells (grownCap w n 0 46 - n)) 46)) := fun ty => by
      have hf := run_firstCells_none (P := Tryz.prog) w.drew i.size 0 0 0
      have h := Lib.run_append_grow_zeros w 36 3 ty 46 i (.slice none 0 0) .i64 .i64 Tryz.underlying36 Tryz.underlying3 hi hz none 0 0 [] hf n (by omega) (by rw [hsz]; decide) (by omega) (by omega) (by rw [hby]; omega)
        (by rw [hby]; exact growslice_fits (by omega) (by omega))
      simpa using h
    have hge : n ≤ grownCap w n 0 46 := grownCap_ge w _ _ _
    have hle := grownCap_le_maxLen w n 0 46 (by simp only [maxLen]; omega)
    obtain ⟨cap, Hc⟩ := au (grownCap w n 0 46)
    rw [Hc.out] at hrun hge hle
    have hcs : (Builtin.zeroCells (Value.slice none 0 0).cells n ++ Builtin.zeroCells (Value.slice none 0 0).cells (cap - n)).size = cap := by
      simp [Builtin.zeroCells, Value.cells]; omega
    obtain ⟨cs, Hcs⟩ := au (Builtin.zeroCells (Value.slice none 0 0).cells n ++ Builtin.zeroCells (Value.slice none 0 0).cells (cap - n))
    rw [Hcs.out] at hrun hcs
    have hle' : cap ≤ 9223372036854775807 := by simpa [maxLen] using hle
    have hl0 : (0 : Int) ≤ cap := by omega
    have hl1 : (cap : Int) ≤ 9223372036854775807 := by omega
    have HF := Au.mk (And.intro hcs (And.intro hle hge))
    clear hcs hle hle' hi hz hsz hby
    go_enter Tryz.func71, Tryz.ntmps71
    go_wp2_with (at_builtin; refine Lib.wpList_append_run _ rfl _ _ _ _ rfl _ _ rfl rfl _ _ (hrun _) ?_)
    go_ret
    refine ⟨⟨_, rfl, rowD_empty (Kd.slice Kd.byte) G (Nat.le_refl _) (heap_alloc_new w.drew _) (by rw [HF.out.1]; exact (Nat.mul_one _).symm) HF.out.2.1⟩, (below_drewN (Below.refl _ w) 1).alloc (Nat.le_refl _) _⟩
theorem flat_take_succ {α : Type} {l : List (List α)} {k : Nat} {x : List α} (h : l[k]? = some x) : (l.take (k + 1)).flatten = (l.take k).flatten ++ x := by
  have hlt := (List.getElem?_eq_some_iff.1 h).1
  rw [List.take_succ_eq_append_getElem hlt, List.flatten_append]
  rw [List.getElem?_eq_getElem hlt] at h
  injection h with h
  simp [h]
theorem flat_le {α : Type} (l : List (List α)) (k : Nat) : (l.take k).flatten.length ≤ l.flatten.length := by
  have h : l.flatten = (l.take k).flatten ++ (l.drop k).flatten := by rw [← List.flatten_append, List.take_append_drop]
  rw [h, List.length_append]; omega
set_option maxHeartbeats 4000000 in
theorem concat_calls (parts : List (List (List UInt8))) {n : Nat} (hn : parts.length = n) {A : Option Addr} {c : Nat} {F : Nat → Prop} (hfl : parts.flatten.length ≤ 1000000) {r : List (List UInt8)} (hr : parts.flatten = r) (w : World) (ha : Sl KBk w F A c parts) :
    Calls Tryz.prog 44 #[.slice A n c] w fun e w' => ∃ A' c', e = .returned (.slice A' r.length c') ∧ Sl (Kd.slice Kd.byte) w' (fun k => F k ∨ w.heap.size ≤ k) A' c' r ∧ Below w.heap.size w w' := by
  have hnle : n ≤ 9223372036854775807 := by rw [← hn]; exact ha.le
  have Ha := Au.mk ha.old
  have Hn := Au.mk hn
  have Hr := Au.mk hr
  have hb0 := Below.refl w.heap.size w
  clear ha hn hr
  go_enter Tryz.func44, Tryz.ntmps44
  go_wp2_with fail
  go_loop [3, 11] (fun s i => ∃ (k m : Nat), k ≤ n ∧ i = .int .i64 k ∧ s = .int .i64 m ∧ Au (m = (parts.take k).flatten.length) ∧ m ≤ 1000000) (fun _ i => n - (intOf i).toNat)
  case atStart => exact ⟨0, 0, Nat.zero_le _, rfl, rfl, ⟨by simp⟩, by omega⟩
  case round =>
    obtain ⟨k, m, hk, rfl, rfl, Hm, hm⟩ := hrel
    by_cases hlt : k < n
    · obtain ⟨x, hx⟩ : ∃ x, parts[k]? = some x := ⟨_, List.getElem?_eq_getElem (by rw [Hn.out]; exact hlt)⟩
      have hts := flat_take_succ hx
      have hle2 := flat_le parts (k + 1)
      rw [hts, List.length_append, ← Hm.out] at hle2
      have hml : m + x.length ≤ 1000000 := by omega
      have hml2 : (m : Int) + x.length ≤ 1000000 := by omega
      obtain ⟨b, o, A', c', rfl, hcell, hsx⟩ := Ha.out.slice_at hx
      have Hts : Au (m + x.length = (parts.take (k + 1)).flatten.length) := ⟨by rw [hts, List.length_append, Hm.out]⟩
      clear hts hle2 hx hsx
      have hnl : ¬ ((m : Int) + x.length < 0) := by omega
      go_wp2_with fail
      go_round
      case rel => exact ⟨k + 1, m + x.length, by omega, by go_num, by go_num, Hts, hml⟩
      case measure => simp [intOf]; omega
    · obtain rfl : k = n := by omega
      have Hm2 : Au (m = r.length) := ⟨by rw [Hm.out, List.take_of_length_le (by rw [Hn.out]; exact Nat.le_refl _), Hr.out]⟩
      go_wp2_with fail
      with_reducible refine (grow_calls m hm (fun k => F k ∧ k < w.heap.size) _).mono ?_
      rintro e w1 ⟨⟨v, rfl, hrow⟩, b1⟩
      have Hrow := Au.mk hrow
      clear hrow
      have hs1 := b1.size
      go_wp2_with fail
      go_loopw [6, 27] (fun v i wr => ∃ j : Nat, j ≤ k ∧ i = .int .i64 j ∧ Au (RowD (Kd.slice Kd.byte) wr (fun k => F k ∧ k < w.heap.size) w.heap.size v (parts.take j).flatten) ∧ Below w.heap.size w wr) (fun _ i _ => k - (intOf i).toNat)
      case atStart => exact ⟨0, Nat.zero_le _, rfl, ⟨by simpa using Hrow.out⟩, b1⟩
      case round =>
        obtain ⟨j, hj, rfl, HR, hb⟩ := hrel
        by_cases hlt : j < k
        · have hs := hb.size
          obtain ⟨x, hx⟩ : ∃ x, parts[j]? = some x := ⟨_, List.getElem?_eq_getElem (by rw [Hn.out]; exact hlt)⟩
          have hle2 := flat_le parts (j + 1)
          rw [flat_take_succ hx, List.length_append] at hle2
          obtain ⟨b, o, A', c', rfl, hcell, hsx⟩ := (Ha.out.below hb).slice_at hx
          have Hsx := Au.mk hsx
          have Hx := Au.mk hx
          have H3 : Au ((parts.take j).flatten.length + x.length ≤ maxLen ∧ ((parts.take j).flatten.length + x.length) * 24 ≤ 140737488355328) := ⟨by simp only [maxLen]; omega⟩
          have Hne : Au (∀ g, u6.ownBlock = some g → ¬ (F g ∧ g < w.heap.size)) := ⟨fun g hg h => by obtain ⟨vs, hr⟩ := HR.out.row; have := (hr.block g hg).1; omega⟩
          clear hx hsx hle2
          go_wp2_with (at_builtin; refine wpList_append_rowD (d := Kd.slice Kd.byte) (G := fun k => F k ∧ k < w.heap.size) (F2 := fun k => F k ∧ k < w.heap.size) (base := w.heap.size) (xs := (parts.take j).flatten) (ys := x) _ rfl etBlks _ _ rfl rfl HR.out rfl rfl Hsx.out.els (fun k hk => .inl hk) Hne.out H3.out.1 H3.out.2 hs ?_; intro v' w2 hr hg ho)
          go_wp2_with fail
          go_roundw
          case rel =>
            refine ⟨j + 1, by omega, by go_num, ⟨by rw [flat_take_succ Hx.out]; exact hr⟩, hb.grown hg hs ?_⟩
            intro g hgg
            obtain ⟨vs, hrw⟩ := HR.out.row
            exact (hrw.block g hgg).1
          case measure => simp [intOf]; omega
        · obtain rfl : j = k := by omega
          have hall : (parts.take j).flatten = r := by rw [List.take_of_length_le (by rw [Hn.out]; exact Nat.le_refl _), Hr.out]
          have hR2 := HR.out
          rw [hall] at hR2
          obtain ⟨A', c', rfl, hsl⟩ := hR2.sl
          have Hsl := Au.mk hsl
          clear hall hR2 hsl
          go_wp2_with fail
          go_ret
          exact ⟨A', c', rfl, Hsl.out.mono (fun k hk => hk.elim (fun h => .inl h.1) .inr), hb⟩
end Go.Proofs.YtldhcknjpmbgnaaGreatDoor.Rk
/- Blocks of a text: block.pieces, block.Cut, walked. -/
namespace Go.Proofs.YtldhcknjpmbgnaaGreatDoor.Rk
open Go.RowKit Go.Shelf
attribute [local go_sem] Oper.semAt_some
set_option linter.unusedVariables false
set_option linter.unusedSimpArgs false
set_option maxRecDepth 100000

theorem pieces_calls (p : List UInt8) (w : World) : Calls Tryz.prog 162 #[.string (ofL p)] w fun e w' => e = .returned (.func (.func 177) #[] #[.pointer (some ⟨w.heap.size, 0, none⟩)]) ∧ w.alloc (.cells #[.string (ofL p)] 9) = w' := by
  go_enter Tryz.func162, Tryz.ntmps162
  go_wp2_with fail
  go_ret
  exact ⟨rfl, rfl⟩
/-- How long the text in a cell is. -/
def strM (v : Option Value) : Nat := match v with
  | some (.string s) => s.size
  | _ => 0
set_option maxHeartbeats 1000000 in
theorem pieces_walk {L n : Nat} (J J' : List UInt8 → World → Prop)
    (hC : ∀ q W, J q W → q.length ≤ 10000 ∧ W.heap[n]? = some (.cells #[.string (ofL q)] 9 (0, 0))) (hC' : ∀ q W, J' q W → W.heap[n]? = some (.cells #[.string (ofL q)] 9 (0, 0)))
    (hY : ∀ q W, q ≠ [] → J q W → YieldAt Fence.wide 0 Tryz.prog L #[.string (ofL (q.take 512))] W fun e W' => e = .returned (.bool true) ∧ J' q W')
    (hS : ∀ q W, J' q W → J (q.drop 512) (W.setCell ⟨n, 0, none⟩ (.string (ofL (q.drop 512))))) (p : List UInt8) (W1 : World) (h0 : J p W1) :
    CallsIn Fence.wide 0 Tryz.prog 177 #[.func (.yield L) #[] #[], .pointer (some ⟨n, 0, none⟩)] W1 fun e W' => (∃ v, e = .returned v) ∧ J [] W' := by
  have HC := Au.mk hC
  have HC' := Au.mk hC'
  have HY := Au.mk hY
  have HS := Au.mk hS
  clear hC hC' hY hS
  refine callsIn_of_wp Tryz.func177 rfl trivial ?_ rfl
  simp only [Tryz.ntmps177, List.size_toArray, List.length_cons, List.length_nil, Nat.reduceAdd, Nat.reduceSub, Array.replicate_succ, Array.replicate_zero, List.push_toArray, List.append_toArray, List.nil_append, List.cons_append]
  gi_wp2_with fail
  gi_loopw [3] (fun v wr => ∃ q : List UInt8, Au (J q wr)) (fun v wr => strM (wr.cell? ⟨n, 0, none⟩))
  case atStart => exact ⟨p, ⟨h0⟩⟩
  case round =>
    obtain ⟨q, HJ⟩ := hrel
    obtain ⟨hql, hcell⟩ := HC.out q wr HJ.out
    have Hcell := Au.mk (cell_of_one hcell)
    have c1 := cell_of_one hcell
    have hz : (ofL q).size = q.length := ofL_size q
    clear hcell
    by_cases hq : q = []
    · subst hq
      have hem : ([] : List UInt8).isEmpty = true := rfl
      gi_wp2_with fail
      go_end0
      exact ⟨⟨_, rfl⟩, HJ.out⟩
    · have hem : q.isEmpty = false := by cases q with
        | nil => exact absurd rfl hq
        | cons a l => rfl
      have hlen : 0 < q.length := List.length_pos_iff.2 hq
      have y1 : (ofL q).extract 0 512 = ofL (q.take 512) := by rw [ofL_extract]; simp
      have y2 : q.length ≤ 512 → (ofL q).extract 0 q.length = ofL (q.take 512) := fun h => by rw [ofL_extract, List.take_of_length_le (Nat.le_refl _), List.take_of_length_le h]; simp
      have y3 : (ofL q).extract 512 q.length = ofL (q.drop 512) := by rw [ofL_extract, List.take_length]
      have y4 : q.length ≤ 512 → (ofL q).extract q.length q.length = ofL (q.drop 512) := fun h => by rw [ofL_extract, List.take_length, List.drop_of_length_le (Nat.le_refl _), List.drop_of_length_le h]
      have hY := HY.out q wr hq HJ.out
      have HYd := Au.mk hY
      have Hq := Au.mk hq
      clear hY hq
      by_cases h5 : q.length ≤ 512
      · have hm : min (q.length : Int) 512 = q.length := by omega
        have y2' := y2 h5
        have y4' := y4 h5
        clear y1 y2 y3 y4
        gi_wp2_with fail
        refine upon_yield HYd.out ?_
        rintro e W' ⟨rfl, hJ⟩
        refine ⟨_, rfl, ?_⟩
        have c2 := cell_of_one (HC'.out q W' hJ)
        have c3 := free_of_one (HC'.out q W' hJ)
        have he : ofL (q.drop 512) = ByteArray.empty := by rw [List.drop_of_length_le h5]; rfl
        have hj2 := HS.out q W' hJ
        rw [he] at hj2
        have HJ2 := Au.mk hj2
        clear hj2 he
        have HC2 := Au.mk (HC'.out q W' hJ)
        clear hJ c1
        gi_wp2_with fail
        go_roundw
        case rel => exact ⟨q.drop 512, HJ2⟩
        case measure =>
          rw [cell_of_one (one_setCell HC2.out), Hcell.out]
          have : ByteArray.empty.size = 0 := rfl
          simp only [strM, ofL_size, this]
          omega
      · have hm : min (q.length : Int) 512 = 512 := by omega
        have h5i : (512 : Int) ≤ q.length := by omega
        clear y2 y4
        gi_wp2_with fail
        refine upon_yield HYd.out ?_
        rintro e W' ⟨rfl, hJ⟩
        refine ⟨_, rfl, ?_⟩
        have c2 := cell_of_one (HC'.out q W' hJ)
        have c3 := free_of_one (HC'.out q W' hJ)
        have HJ2 := Au.mk (HS.out q W' hJ)
        have HC2 := Au.mk (HC'.out q W' hJ)
        clear hJ c1
        gi_wp2_with fail
        go_roundw
        case rel => exact ⟨q.drop 512, HJ2⟩
        case measure =>
          rw [cell_of_one (one_setCell HC2.out), Hcell.out]
          simp only [strM, ofL_size, List.length_drop]
          omega
/-- What the loop of Cut holds: ahead of a round; behind it. -/
def CutJ (s : List UInt8) (w : World) (n L D base : Nat) (rd : Loop) (q : List UInt8) (W : World) : Prop :=
  q.length ≤ 10000 ∧ (∃ done v, done ++ cutB q = cutB s ∧ W.heap[n]? = some (.cells #[v] 36 (0, 0)) ∧ RowD (Kd.slice Kd.byte) W (fun _ => False) base v done) ∧ W.heap[n + 1]? = some (.cells #[.string (ofL q)] 9 (0, 0)) ∧ Rcd W L D rd ∧ Below n w W ∧ base ≤ W.heap.size
def CutJ' (s : List UInt8) (w : World) (n L D base : Nat) (rd : Loop) (q : List UInt8) (W : World) : Prop :=
  q.length ≤ 10000 ∧ (∃ done v, done ++ cutB (q.drop 512) = cutB s ∧ W.heap[n]? = some (.cells #[v] 36 (0, 0)) ∧ RowD (Kd.slice Kd.byte) W (fun _ => False) base v done) ∧ W.heap[n + 1]? = some (.cells #[.string (ofL q)] 9 (0, 0)) ∧ Rcd W L D rd ∧ Below n w W ∧ base ≤ W.heap.size
theorem cutJ_step {s : List UInt8} {w : World} {n L D base : Nat} {rd : Loop} (hn : n + 1 < D) (hL : D < L) (hB : L < base) {q : List UInt8} {W : World} (h : CutJ' s w n L D base rd q W) : CutJ s w n L D base rd (q.drop 512) (W.setCell ⟨n + 1, 0, none⟩ (.string (ofL (q.drop 512)))) := by
  obtain ⟨h1, ⟨done, v, h2, h3, h4⟩, h5, h6, h7, h8⟩ := h
  refine ⟨by rw [List.length_drop]; omega, ⟨done, v, h2, (Below.heap_setCell _ _ _ _ (by simp)).trans h3, h4.set _ (fun h => h) (by simp; omega)⟩, one_setCell h5, h6.set (p := ⟨n + 1, 0, none⟩) _ (by simp; omega) (by simp; omega), h7.setCell (p := ⟨n + 1, 0, none⟩) (by simp) _, by simpa [World.setCell] using h8⟩
theorem cut_done {q done s : List UInt8} {bl : List (List UInt8)} (hq : q ≠ []) (h : bl ++ cutB q = cutB s) : (bl ++ [padB q]) ++ cutB (q.drop 512) = cutB s := by
  rw [← h, cutB_cons hq]; simp
theorem padB_splice {q : List UInt8} {z : List UInt8} (hz : zeros 512 = z) : ((bcs z).take 0 ++ Lib.byteCells (ofL (q.take 512)).data.toList ++ (bcs z).drop (0 + (ofL (q.take 512)).size)) = bcs (padB q) := by
  subst hz
  have e1 : (ofL (q.take 512)).data.toList = q.take 512 := by simp [ofL]
  rw [e1, ofL_size]
  simp only [Lib.byteCells, bcs, padB, zeros, List.take_zero, List.nil_append, Nat.zero_add, List.map_append, List.map_replicate, List.drop_replicate, List.length_take]
  congr 2
  omega
end Go.Proofs.YtldhcknjpmbgnaaGreatDoor.Rk
/- Blocks of a text: block.Cut, walked. -/
namespace Go.Proofs.YtldhcknjpmbgnaaGreatDoor.Rk
open Go.RowKit Go.Shelf
attribute [local go_sem] Oper.semAt_some
set_option linter.unusedVariables false
set_option linter.unusedSimpArgs false
set_option maxRecDepth 100000

set_option maxHeartbeats 2000000 in
theorem cutB_calls (s : List UInt8) (hs : s.length ≤ 10000) {l : List (List UInt8)} (hl : cutB s = l) (w : World) :
    Calls Tryz.prog 135 #[.string (ofL s)] w fun e w' => ∃ A c, e = .returned (.slice A l.length c) ∧ Sl (Kd.slice Kd.byte) w' (fun k => w.heap.size ≤ k) A c l ∧ Below w.heap.size w w' := by
  have Hl := Au.mk hl
  clear hl
  refine (callsIn_wide (n := 0)).1 ?_
  refine callsIn_of_wp_marks Tryz.func135 rfl trivial ?_ rfl
  simp only [Tryz.ntmps135, List.size_toArray, List.length_cons, List.length_nil, Nat.reduceAdd, Nat.reduceSub, Array.replicate_succ, Array.replicate_zero, List.push_toArray, List.append_toArray, List.nil_append, List.cons_append]
  gi_wp2_with fail
  refine ⟨trivial, rfl, (callsIn_wide.2 (pieces_calls s _)).mono ?_⟩
  rintro e w' ⟨rfl, rfl⟩
  gi_wp2_with fail
  have hb0 : Below w.heap.size w ((w.alloc (.cells #[.slice none 0 0] 36)).alloc (.cells #[.string (ofL s)] 9)) :=
    ((Below.refl _ _).alloc (Nat.le_refl _) _).alloc (by simp) _
  have hM0 : ((w.alloc (.cells #[.slice none 0 0] 36)).alloc (.cells #[.string (ofL s)] 9)).heap[w.heap.size]? = some (.cells #[.slice none 0 0] 36 (0, 0)) ∧
      ((w.alloc (.cells #[.slice none 0 0] 36)).alloc (.cells #[.string (ofL s)] 9)).heap[w.heap.size + 1]? = some (.cells #[.string (ofL s)] 9 (0, 0)) := by
    have h2 := heap_alloc_new (w.alloc (.cells #[.slice none 0 0] 36)) (.cells #[.string (ofL s)] 9)
    have h1 := heap_alloc_new w (.cells #[.slice none 0 0] 36)
    simp only [World.size_alloc] at h2
    exact ⟨blk_alloc h1 _, h2⟩
  generalize (w.alloc (.cells #[.slice none 0 0] 36)).alloc (.cells #[.string (ofL s)] 9) = W0 at hb0 hM0 ⊢
  obtain ⟨n, Hn⟩ := au w.heap.size
  rw [Hn.out] at hb0 hM0 ⊢
  have hsz := lt_of_block hM0.2
  refine over_in rfl (enters_of Tryz.func177 (by kernel_rfl) rfl) ?_
  intro rd fn W1 Hrd hb1 hz1 hR
  have hJ0 : CutJ s w n (W0.heap.size + 1) W0.heap.size W1.heap.size (rd .ready none) s W1 :=
    ⟨hs, ⟨[], .slice none 0 0, rfl, (hb1.block _ (by omega)).trans hM0.1, RowD.nil _ _ _ _⟩, (hb1.block _ (by omega)).trans hM0.2, hR, below_then hb0 hb1 (by omega), Nat.le_refl _⟩
  have Hz1 := Au.mk hz1
  refine (pieces_walk (n := n + 1) (CutJ s w n (W0.heap.size + 1) W0.heap.size W1.heap.size (rd .ready none)) (CutJ' s w n (W0.heap.size + 1) W0.heap.size W1.heap.size (rd .ready none)) (fun q W h => ⟨h.1, h.2.2.1⟩) (fun q W h => h.2.2.1) ?_ (fun q W h => cutJ_step (by omega) (by omega) (by omega) h) s W1 hJ0).mono ?_
  · intro q W hq hJ
    obtain ⟨j1, ⟨done, v, j2, j3, j4⟩, j5, j6, j7, j8⟩ := hJ
    have J6 := Au.mk j6
    have hlen := cutB_len s
    have hdl : done.length + 1 ≤ 1000 := by
      have h2 := congrArg List.length j2
      rw [List.length_append, cutB_cons hq, List.length_cons, hlen] at h2
      unfold manyB at h2
      split at h2 <;> omega
    refine over_round Hrd j6 rfl ?_
    have hltn := lt_of_block j3
    have Jr := Au.mk (j6.turn (rd .busy none) (by omega : W0.heap.size ≠ W0.heap.size + 1))
    have Jb := Au.mk (below_putObj j7 (L := W0.heap.size + 1) (by omega) (by omega) (.loop (rd .busy none)))
    have Jt := Au.mk ((World.putObj_heap_other (w := W) (o := .loop (rd .busy none)) (by omega : n + 1 ≠ W0.heap.size + 1)).trans j5)
    have Jo := Au.mk ((World.putObj_heap_other (w := W) (o := .loop (rd .busy none)) (by omega : n ≠ W0.heap.size + 1)).trans j3)
    have Jd := Au.mk (j4.keep (W := W.putObj (W0.heap.size + 1) (.loop (rd .busy none))) (fun k hk hlt => World.putObj_heap_other (by rcases hk with hk | hk; exact hk.elim; omega)) (by simp))
    have Jz : Au (W1.heap.size ≤ (W.putObj (W0.heap.size + 1) (.loop (rd .busy none))).heap.size) := ⟨by simpa using j8⟩
    have Hq := Au.mk hq
    have J2 := Au.mk j2
    clear j2 j3 j4 j5 j6 j7 j8 hq hlen hltn hJ0 hR hz1
    gi_wp2_with fail
    refine ⟨J6.out, ?_⟩
    generalize W.putObj (W0.heap.size + 1) (.loop (rd .busy none)) = Wb at Jr Jb Jt Jo Jd Jz ⊢
    obtain ⟨z5, Hz5⟩ := au (zeros 512)
    have Hz5l : Au (z5.length = 512) := ⟨by rw [← Hz5.out]; exact zeros512⟩
    gi_wp2_with fail
    rw [make512 Hz5.out]
    have G2 := Au.mk (heap_alloc_new Wb (.cells (bcs z5).toArray 5))
    gi_wp2_with fail
    have hcp := Lib.run_copy_row_string (P := Tryz.prog) (Wb.alloc (.cells (bcs z5).toArray 5)) 46 9 3 5 Wb.heap.size 0 512 512 (ofL (q.take 512)) (bcs z5).toArray 5 Tryz.underlying46 (by kernel_rfl) G2.out
      (by rw [ofL_size, List.length_take]; omega) (by rw [ofL_size, List.length_take]; simp [bcs, Hz5l.out]; omega)
    have e1 : (bcs z5).toArray.toList = bcs z5 := rfl
    rw [e1, padB_splice Hz5.out] at hcp
    rw [hcp]
    have G3 := Au.mk (setRow_heap (Wb.alloc (.cells (bcs z5).toArray 5)) Wb.heap.size (bcs z5).toArray (bcs (padB q)).toArray 5 (0, 0) G2.out)
    have K3 : Au (∀ k, k < Wb.heap.size → ((Wb.alloc (.cells (bcs z5).toArray 5)).setRow Wb.heap.size (bcs (padB q)).toArray).heap[k]? = Wb.heap[k]?) :=
      ⟨fun k hk => (setRow_other _ _ k _ (by omega)).trans (Below.heap_alloc Wb _ k hk)⟩
    have S3 : Au (((Wb.alloc (.cells (bcs z5).toArray 5)).setRow Wb.heap.size (bcs (padB q)).toArray).heap.size = Wb.heap.size + 1) := ⟨by simp [World.setRow]⟩
    have B3 := Au.mk (below_setRow (g := Wb.heap.size) ((Below.refl Wb.heap.size Wb).alloc (Nat.le_refl _) (.cells (bcs z5).toArray 5)) (Nat.le_refl _) (bcs (padB q)).toArray)
    clear hcp e1 G2
    generalize (Wb.alloc (.cells (bcs z5).toArray 5)).setRow Wb.heap.size (bcs (padB q)).toArray = W3 at G3 K3 S3 B3 ⊢
    obtain ⟨g, Hg⟩ := au Wb.heap.size
    rw [Hg.out] at G3
    have hltn := lt_of_block Jo.out
    have Jo3 := Au.mk ((K3.out n hltn).trans Jo.out)
    have Jt3 := Au.mk ((K3.out (n + 1) (lt_of_block Jt.out)).trans Jt.out)
    have Jr3 := Au.mk (Jr.out.below B3.out)
    have Jd3 := Au.mk (Jd.out.below B3.out)
    have Jb3 := Au.mk (below_then Jb.out B3.out (by have := Jz.out; have := Hz1.out; omega))
    have hpad : Sl Kd.byte W3 (fun k => k = g) (some ⟨g, 0, none⟩) 512 (padB q) := blk_sl G3.out (padB_length q) (by decide)
    have hne : ∀ g', v.ownBlock = some g' → ¬ g' = g := fun g' hg' h => by
      obtain ⟨vs, hr⟩ := Jd.out.row
      have := (hr.block g' hg').2
      rw [Hg.out] at this; omega
    have hgW : W1.heap.size ≤ g := by rw [← Hg.out]; exact Jz.out
    have hels : Els (Kd.slice Kd.byte) (W3.alloc (.cells #[.slice (some ⟨g, 0, none⟩) 512 512] 46)) (fun k => k = g) (some ⟨W3.heap.size, 0, none⟩) [padB q] := els_one (by rw [padB_length]; exact cells_new1 _ _ _) (hpad.alloc _)
    have hz1 := Hz1.out
    have hS3 := S3.out
    have hJz := Jz.out
    have Jd4 := Au.mk (Jd3.out.alloc (.cells #[.slice (some ⟨g, 0, none⟩) 512 512] 46))
    have Hels := Au.mk hels
    have Hne := Au.mk hne
    have H3 : Au (done.length + [padB q].length ≤ maxLen ∧ (done.length + [padB q].length) * 24 ≤ 140737488355328 ∧ W1.heap.size ≤ (W3.alloc (.cells #[.slice (some ⟨g, 0, none⟩) 512 512] 46)).heap.size) :=
      ⟨by simp only [List.length_singleton, maxLen]; omega, by simp only [List.length_singleton]; omega, by simp; omega⟩
    have Hbx : Au (∀ W5, (W3.alloc (.cells #[.slice (some ⟨g, 0, none⟩) 512 512] 46)).grownBy W5 v.ownBlock → W5.heap[n]? = some (.cells #[v] 36 (0, 0))) :=
      ⟨fun W5 hg5 => Jd4.out.kept _ hg5 (blk_alloc Jo3.out _) (by omega)⟩
    have Hgw : Au (∀ k, k = g → False ∨ W1.heap.size ≤ k) := ⟨fun k hk => .inr (by rw [hk]; exact hgW)⟩
    have c1 := cell_of_one Jo3.out
    have Hlt := Au.mk hltn
    have Hsz := Au.mk hsz
    rw [Hg.out]
    clear hels hne hgW hpad hS3 hJz hz1 hltn hsz hdl
    gi_wp2_with (gi_at_builtin; refine wpListIn_append_rowD (d := Kd.slice Kd.byte) (G := fun _ => False) (F2 := fun k => k = g) (base := W1.heap.size) (xs := done) (ys := [padB q]) _ rfl etBlks _ _ rfl rfl Jd4.out rfl rfl Hels.out Hgw.out Hne.out H3.out.1 H3.out.2.1 H3.out.2.2 ?_; intro v' W5 hr5 hg5 ho5; obtain ⟨A5, c5, rfl⟩ := hr5.form; have Hr5 := Au.mk hr5; have Hg5 := Au.mk hg5; clear hr5 hg5 ho5; have c2 := cell_of_one (Hbx.out W5 Hg5.out); have c3 := free_of_one (Hbx.out W5 Hg5.out))
    have hz1 := Hz1.out
    have hsz := Hsz.out
    have hS3 := S3.out
    have hJz := Jz.out
    have hg5 : (W3.alloc (.cells #[.slice (some ⟨g, 0, none⟩) 512 512] 46)).grownBy W5 v.ownBlock := Hg5.out
    have o5 := Hbx.out W5 hg5
    have t5 := Jd4.out.kept _ hg5 (blk_alloc Jt3.out _) (by omega)
    have r4 := Jr3.out.alloc (.cells #[.slice (some ⟨g, 0, none⟩) 512 512] 46)
    have r5 : Rcd W5 (W0.heap.size + 1) W0.heap.size (rd .busy none) := ⟨Jd4.out.kept _ hg5 r4.lp (by omega), Jd4.out.kept _ hg5 r4.dl (by omega)⟩
    have b5 : Below n w W5 := (Jb3.out.alloc (by omega) _).grown hg5 (by simp; omega) (fun k hk => by have := Jd4.out.low _ k hk; omega)
    have z5' : W1.heap.size ≤ W5.heap.size := by have := hg5.size; simp at this; omega
    have hlen : done.length + 1 = (done ++ [padB q]).length := by simp
    have r6 := r5.set (p := ⟨n, 0, none⟩) (.slice A5 (done.length + 1) c5) (by simp; omega) (by simp; omega)
    have b6 := b5.setCell (p := ⟨n, 0, none⟩) (Nat.le_refl _) (.slice A5 (done.length + 1) c5)
    have o6 : (W5.setCell ⟨n, 0, none⟩ (.slice A5 (done.length + 1) c5)).heap[n]? = some (.cells #[.slice A5 (done.length + 1) c5] 36 (0, 0)) := one_setCell o5
    have t6 := (Below.heap_setCell W5 ⟨n, 0, none⟩ (.slice A5 (done.length + 1) c5) (n + 1) (by simp)).trans t5
    have d6 := Hr5.out.set (p := ⟨n, 0, none⟩) (.slice A5 (done.length + 1) c5) (fun h => h) (by simp; omega)
    have s6 : W1.heap.size ≤ (W5.setCell ⟨n, 0, none⟩ (.slice A5 (done.length + 1) c5)).heap.size := by simpa [World.setCell] using z5'
    generalize W5.setCell ⟨n, 0, none⟩ (.slice A5 (done.length + 1) c5) = W6 at r6 b6 o6 t6 d6 s6 ⊢
    refine ⟨r6, rfl, j1, ⟨done ++ [padB q], .slice A5 (done.length + 1) c5, cut_done (done := q) Hq.out J2.out, ?_, ?_⟩, ?_, r6.turn _ (by omega), below_putObj b6 (by omega) (by omega) _, by simpa using s6⟩
    · exact (World.putObj_heap_other (by omega)).trans o6
    · rw [hlen]
      exact d6.keep (fun k hk hlt => World.putObj_heap_other (by rcases hk with hk | hk; exact hk.elim; omega)) (by simp)
    · exact (World.putObj_heap_other (by omega)).trans t6
  · rintro e W' ⟨hv, _, ⟨done, v, h2, h3, h4⟩, h5, h6, h7, h8⟩
    refine ⟨hv, .inl ⟨h6, ?_⟩⟩
    have hdone : done = l := by rw [← Hl.out, ← h2, cutB_nil, List.append_nil]
    subst hdone
    have b2 := below_putObj h7 (L := W0.heap.size + 1) (by omega) (by omega) (.loop (rd .exhausted none))
    have D2 := Au.mk (h6.deferred (by omega) (.loop (rd .exhausted none)))
    have O2 := (World.putObj_heap_other (w := W') (o := .loop (rd .exhausted none)) (by omega : n ≠ W0.heap.size + 1)).trans h3
    have R2 := Au.mk (h4.keep (W := W'.putObj (W0.heap.size + 1) (.loop (rd .exhausted none))) (fun k hk hlt => World.putObj_heap_other (by rcases hk with hk | hk; exact hk.elim; omega)) (by simp))
    have Hb := Au.mk b2
    have Hn2 := Au.mk (show n < W0.heap.size ∧ W1.heap.size ≤ (W'.putObj (W0.heap.size + 1) (.loop (rd .exhausted none))).heap.size from ⟨by omega, by simpa using h8⟩)
    have q1 := cell_of_one O2
    clear b2 O2 h2 h3 h4 h5 h6 h7 h8 hsz hJ0 hR hz1 hb1 hb0 hM0 hv
    generalize W'.putObj (W0.heap.size + 1) (.loop (rd .exhausted none)) = W2 at *
    gi_wp2_with fail
    obtain ⟨A, c, rfl, hsl⟩ := R2.out.sl
    have h5 := Hn2.out
    have h6 := Hz1.out
    rw [Hn.out]
    refine end_marks (v := .slice A done.length c) D2.out (by simp [results, Tryz.results135, go_sem]) ⟨A, c, rfl, ?_, below_putObj Hb.out (by omega) (by omega) _⟩
    exact (hsl.keep (W := W2.putObj W0.heap.size (.deferred none)) (fun k hk hlt => World.putObj_heap_other (by rcases hk with hk | hk; exact hk.elim; omega)) (by simp)).mono (fun k hk => by rcases hk with hk | hk; exact hk.elim; omega)
end Go.Proofs.YtldhcknjpmbgnaaGreatDoor.Rk
