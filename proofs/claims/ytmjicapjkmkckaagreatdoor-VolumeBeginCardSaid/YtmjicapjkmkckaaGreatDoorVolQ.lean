/- Paths, walked: path.May. -/
import Derived.Test.YtmjicapjkmkckaaGreatDoorVolP
namespace Go.Proofs.YtmjicapjkmkckaaGreatDoor.Rk
open Go.RowKit Go.Shelf
attribute [local go_sem] Oper.semAt_some
set_option linter.unusedVariables false
set_option linter.unusedSimpArgs false
set_option maxRecDepth 100000

/-- What is left of a path that is cut at each slash. -/
def cutM (more : Value) (v : Option Value) : Nat := match more, v with
  | .bool true, some (.string s) => s.size + 1
  | _, _ => 0
theorem pmay_no {p : List UInt8} (h : (pparts p).all (fun s => !oddP s) = false) : pmay p = false := by unfold pmay; rw [h]; rfl
theorem all_parts {a : List UInt8} {l : List (List UInt8)} {r : Bool} (h : (a :: l).all (fun s => !oddP s) = r) (ha : oddP a = false) : l.all (fun s => !oddP s) = r := by
  simpa [ha] using h
theorem all_odd {a : List UInt8} {l : List (List UInt8)} {r : Bool} (h : (a :: l).all (fun s => !oddP s) = r) (ha : oddP a = true) : r = false := by
  rw [← h]; simp [ha]
/-- What the loop's own cells hold. -/
structure PMem (W : World) (n L D : Nat) (q : List UInt8) : Prop where
  r : W.heap[n]? = some (.cells #[.bool false] 4 (0, 0))
  o : W.heap[n + 1]? = some (.cells #[.func (.func 106) #[] #[]] 92 (0, 0))
  p : W.heap[n + 2]? = some (.cells #[.string (ofL q)] 9 (0, 0))
theorem PMem.keep {W V : World} {n L D : Nat} {q : List UInt8} (h : PMem W n L D q) (hk : ∀ k, k < n + 3 → V.heap[k]? = W.heap[k]?) : PMem V n L D q :=
  ⟨(hk _ (by omega)).trans h.r, (hk _ (by omega)).trans h.o, (hk _ (by omega)).trans h.p⟩
theorem PMem.lt {W : World} {n L D : Nat} {q : List UInt8} (h : PMem W n L D q) : n + 2 < W.heap.size := lt_of_block h.p
theorem PMem.below {W V : World} {n L D : Nat} {q : List UInt8} (h : PMem W n L D q) (hb : Below W.heap.size W V) : PMem V n L D q :=
  h.keep fun k hk => hb.block _ (by have := h.lt; omega)
theorem PMem.set {W : World} {n L D : Nat} {q : List UInt8} (h : PMem W n L D q) (x : List UInt8) : PMem (W.setCell ⟨n + 2, 0, none⟩ (.string (ofL x))) n L D x :=
  ⟨(Below.heap_setCell _ _ _ _ (by simp)).trans h.r, (Below.heap_setCell _ _ _ _ (by simp)).trans h.o, one_setCell h.p⟩
theorem below_putObj {B : Nat} {w W : World} (h : Below B w W) {L : Nat} (hL : B ≤ L) (hB : B ≤ W.heap.size) (o : Obj) : Below B w (W.putObj L o) :=
  below_of_grown h (grown_putObj W L o) hB hL
def PEnd (w : World) (n L D : Nat) (r : Bool) (rd rx : Loop) (e : Ending) (W' : World) : Prop :=
  (∃ v, e = .returned v) ∧ (∃ q, PMem W' n L D q) ∧ Below n w W' ∧ ((r = true ∧ Rcd W' L D rd) ∨ (r = false ∧ Rcd W' L D rx))
set_option maxHeartbeats 1000000 in
theorem pparts_walk (p : List UInt8) (hp : p.length ≤ 10000) {r : Bool} (hr : (pparts p).all (fun s => !oddP s) = r) (w W1 : World) (L D : Nat) (rd rx : Loop) (n : Nat) (hn : n + 2 < D) (hL : D < L) (hW : PMem W1 n L D p) (hl : Rcd W1 L D rd) (hb : Below n w W1)
    (hY : ∀ s q W, PMem W n L D q → Rcd W L D rd → Below n w W → YieldAt Fence.wide 0 Tryz.prog L #[.string (ofL s)] W fun e W' => PMem W' n L D q ∧ Below n w W' ∧ ((e = .returned (.bool true) ∧ oddP s = false ∧ Rcd W' L D rd) ∨ (e = .returned (.bool false) ∧ oddP s = true ∧ Rcd W' L D rx))) :
    CallsIn Fence.wide 0 Tryz.prog 144 #[.func (.yield L) #[] #[], .pointer (some ⟨n + 2, 0, none⟩)] W1 (PEnd w n L D r rd rx) := by
  have HY := Au.mk hY
  clear hY
  refine callsIn_of_wp Tryz.func144 rfl trivial ?_ rfl
  simp only [Tryz.ntmps144, List.size_toArray, List.length_cons, List.length_nil, Nat.reduceAdd, Nat.reduceSub, Array.replicate_succ, Array.replicate_zero, List.push_toArray, List.append_toArray, List.nil_append, List.cons_append]
  gi_wp2_with fail
  gi_loopw [3] (fun more wr => ∃ (q : List UInt8) (b : Bool), more = .bool b ∧ q.length ≤ 10000 ∧ Au (PMem wr n L D q) ∧ Au (Rcd wr L D rd) ∧ Below n w wr ∧ Au (if b then (pparts q).all (fun s => !oddP s) = r else r = true)) (fun more wr => cutM more (wr.cell? ⟨n + 2, 0, none⟩))
  case atStart => exact ⟨p, true, rfl, hp, ⟨hW⟩, ⟨hl⟩, hb, ⟨hr⟩⟩
  case round =>
    obtain ⟨q, b, rfl, hq, HM, HL, hbr, Hr⟩ := hrel
    cases b
    · gi_wp2_with fail
      go_end0
      exact ⟨⟨_, rfl⟩, ⟨q, HM.out⟩, hbr, .inl ⟨Hr.out, HL.out⟩⟩
    · obtain ⟨a, Ha⟩ := au (if (47 : UInt8) ∈ q then headP q else q)
      obtain ⟨t, Ht⟩ := au (if (47 : UInt8) ∈ q then tailP q else [])
      obtain ⟨m, Hm⟩ := au (decide ((47 : UInt8) ∈ q))
      have Hc : Au (∀ W, Calls Tryz.prog 145 #[.string (ofL q), .string ⟨#[47]⟩] W fun e w' => e = .returned (.tuple #[.string (ofL a), .string (ofL t), .bool m]) ∧ Drawn W w') :=
        ⟨fun W => scut_calls q hq (by rw [Ha.out, Ht.out, Hm.out]) W⟩
      have Hp : Au (∃ l, pparts q = a :: l ∧ if m then l = pparts t else l = []) := ⟨by
        rw [← Ha.out, ← Ht.out, ← Hm.out]
        by_cases h : (47 : UInt8) ∈ q
        · exact ⟨_, by rw [if_pos h, pparts_slash h], by simp [h]⟩
        · exact ⟨_, by rw [if_neg h, pparts_none h], by simp [h]⟩⟩
      have Htl : Au (t.length ≤ q.length ∧ (m = true → t.length < q.length)) := ⟨by
        rw [← Ht.out, ← Hm.out]
        by_cases h : (47 : UInt8) ∈ q
        · have := tailP_length h; rw [if_pos h]; exact ⟨by omega, fun _ => this⟩
        · rw [if_neg h]; simp [h]⟩
      have Hcell : Au (wr.cell? ⟨n + 2, 0, none⟩ = some (.string (ofL q))) := ⟨cell_of_one HM.out.p⟩
      have c1 := cell_of_one HM.out.p
      have c2 := free_of_one HM.out.p
      gi_wp2_with fail
      refine ⟨trivial, rfl, (callsIn_wide.2 (Hc.out _)).mono ?_⟩
      rintro e w3 ⟨rfl, b3⟩
      have b3 := b3.below wr.heap.size
      have HM3 := Au.mk (HM.out.below b3)
      have HL3 := Au.mk (HL.out.below b3)
      have hb3 := below_then hbr b3 (by have := HM.out.lt; omega)
      clear c1 c2
      have c1 := cell_of_one HM3.out.p
      have c2 := free_of_one HM3.out.p
      gi_wp2_with fail
      have HM4 := Au.mk (HM3.out.set t)
      have HL4 := Au.mk (HL3.out.set (p := ⟨n + 2, 0, none⟩) (.string (ofL t)) (by simp; omega) (by simp; omega))
      have hb4 := hb3.setCell (p := ⟨n + 2, 0, none⟩) (by simp) (.string (ofL t))
      generalize w3.setCell ⟨n + 2, 0, none⟩ (.string (ofL t)) = w4 at HM4 HL4 hb4 ⊢
      obtain ⟨fn, tmps, assign, body, hy, hR⟩ := HY.out a t w4 HM4.out HL4.out hb4
      rw [hy]
      refine ⟨(fun h => by cases h), hR.mono ?_⟩
      rintro e w5 ⟨M5, b5, (⟨rfl, ho, L5⟩ | ⟨rfl, ho, L5⟩)⟩
      · have Ho := Au.mk ho
        have HM5 := Au.mk M5
        have HL5 := Au.mk L5
        clear ho M5 L5 c1 c2 hy
        gi_wp2_with fail
        go_roundw
        case rel =>
          refine ⟨t, m, rfl, by have := Htl.out.1; omega, HM5, HL5, b5, ⟨?_⟩⟩
          obtain ⟨l, e1, e2⟩ := Hp.out
          have h2 : (a :: l).all (fun s => !oddP s) = r := by rw [← e1]; simpa using Hr.out
          cases m
          · have e3 : l = [] := by simpa using e2
            subst e3
            simp [Ho.out] at h2
            simpa using h2.symm
          · have e3 : l = pparts t := by simpa using e2
            rw [e3] at h2
            simpa using all_parts h2 Ho.out
        case measure =>
          rw [cell_of_one HM5.out.p, Hcell.out]
          have h1 := Htl.out
          cases m
          · simp [cutM]
          · have := h1.2 rfl
            simp [cutM, ofL_size]; omega
      · have Ho := Au.mk ho
        clear ho c1 c2 hy
        gi_wp2_with fail
        refine bodyPost_ret (results_none rfl _ _ _) rfl ?_
        obtain ⟨l, e1, e2⟩ := Hp.out
        have h2 : (a :: l).all (fun s => !oddP s) = r := by rw [← e1]; simpa using Hr.out
        exact ⟨⟨_, rfl⟩, ⟨t, M5⟩, b5, .inr ⟨all_odd h2 Ho.out, L5⟩⟩
theorem index0_calls {s : List UInt8} {n : Int} (hn : Lib.indexByte s 0 = n) (w : World) : Calls Tryz.prog 84 #[.string (ofL s), .int .u8 0] w fun e w' => e = .returned (.int .i64 n) ∧ w = w' := index_is hn w
set_option maxHeartbeats 2000000 in
theorem pmay_calls (p : List UInt8) (hp : p.length ≤ 10000) {r : Bool} (hr : pmay p = r) (w : World) :
    Calls Tryz.prog 67 #[.string (ofL p)] w fun e w' => e = .returned (.bool r) ∧ Below w.heap.size w w' := by
  have Hr := Au.mk hr
  clear hr
  refine (callsIn_wide (n := 0)).1 ?_
  refine callsIn_of_wp_marks Tryz.func67 rfl trivial ?_ rfl
  simp only [Tryz.ntmps67, List.size_toArray, List.length_cons, List.length_nil, Nat.reduceAdd, Nat.reduceSub, Array.replicate_succ, Array.replicate_zero, List.push_toArray, List.append_toArray, List.nil_append, List.cons_append]
  gi_wp2_with fail
  refine ⟨trivial, rfl, (callsIn_wide.2 (parts_calls p _)).mono ?_⟩
  rintro e w' ⟨rfl, rfl⟩
  gi_wp2_with fail
  obtain ⟨rp, Hrp⟩ := au ((pparts p).all (fun s => !oddP s))
  have hb0 : Below w.heap.size w (((w.alloc (.cells #[.bool false] 4)).alloc (.cells #[.func (.func 106) #[] #[]] 92)).alloc (.cells #[.string (ofL p)] 9)) :=
    (((Below.refl _ _).alloc (Nat.le_refl _) _).alloc (by simp) _).alloc (by simp; omega) _
  have hM0 : ∀ L D, PMem (((w.alloc (.cells #[.bool false] 4)).alloc (.cells #[.func (.func 106) #[] #[]] 92)).alloc (.cells #[.string (ofL p)] 9)) w.heap.size L D p := fun L D => by
    have h3 := heap_alloc_new ((w.alloc (.cells #[.bool false] 4)).alloc (.cells #[.func (.func 106) #[] #[]] 92)) (.cells #[.string (ofL p)] 9)
    have h2 := heap_alloc_new (w.alloc (.cells #[.bool false] 4)) (.cells #[.func (.func 106) #[] #[]] 92)
    have h1 := heap_alloc_new w (.cells #[.bool false] 4)
    simp only [World.size_alloc] at h3 h2
    exact ⟨blk_alloc (blk_alloc h1 _) _, blk_alloc h2 _, h3⟩
  generalize ((w.alloc (.cells #[.bool false] 4)).alloc (.cells #[.func (.func 106) #[] #[]] 92)).alloc (.cells #[.string (ofL p)] 9) = W0 at hb0 hM0 ⊢
  obtain ⟨n, Hn⟩ := au w.heap.size
  rw [Hn.out] at hb0 hM0 ⊢
  have hsz := (hM0 0 0).lt
  refine over_in rfl (enters_of Tryz.func144 (by kernel_rfl) rfl) ?_
  intro rd fn W1 Hrd hb1 hz1 hR
  have hM1 := (hM0 (W0.heap.size + 1) W0.heap.size).below hb1
  refine (pparts_walk p hp Hrp.out w W1 (W0.heap.size + 1) W0.heap.size (rd .ready none) (rd .done (some .ret)) n (by omega) (by omega) hM1 hR (below_then hb0 hb1 (by omega)) ?_).mono ?_
  · intro s q W hM hL hb
    refine over_round Hrd hL rfl ?_
    have hlt := hM.lt
    have hMb := hM.keep (V := W.putObj (W0.heap.size + 1) (.loop (rd .busy none))) (fun k hk => World.putObj_heap_other (by omega))
    have HMb := Au.mk hMb
    have Hlb := Au.mk (hL.turn (rd .busy none) (by omega : W0.heap.size ≠ W0.heap.size + 1))
    have Hbb := Au.mk (below_putObj hb (L := W0.heap.size + 1) (by omega) (by omega) (.loop (rd .busy none)))
    have Hns := Au.mk (show n + 2 < W0.heap.size ∧ n < W.heap.size from ⟨by omega, by omega⟩)
    have q1 := cell_of_one hMb.o
    have q2 := cell_of_one hMb.r
    have q3 := free_of_one hMb.r
    have HL := Au.mk hL
    clear hM hMb hb hsz hlt hL
    gi_wp2_with fail
    refine ⟨HL.out, ?_⟩
    generalize W.putObj (W0.heap.size + 1) (.loop (rd .busy none)) = Wb at HMb Hlb Hbb q1 q2 q3 ⊢
    obtain ⟨o, Ho⟩ := au (oddP s)
    cases o
    · gi_wp2_with fail
      refine ⟨trivial, rfl, CallsIn.inRound _ ((callsIn_wide.2 (odd_calls s Ho.out _)).mono ?_)⟩
      rintro e w' ⟨rfl, rfl⟩
      gi_wp2_with fail
      have hlt := HMb.out.lt
      have h2 := Hns.out
      exact ⟨Hlb.out, HMb.out.keep (fun k hk => World.putObj_heap_other (by omega)), below_putObj Hbb.out (by omega) (by omega) _, .inl ⟨rfl, Ho.out, Hlb.out.turn _ (by omega)⟩⟩
    · gi_wp2_with fail
      refine ⟨trivial, rfl, CallsIn.inRound _ ((callsIn_wide.2 (odd_calls s Ho.out _)).mono ?_)⟩
      rintro e w' ⟨rfl, rfl⟩
      gi_wp2_with fail
      have hlt := HMb.out.lt
      have h2 := Hns.out
      have l1 := Hlb.out.set (p := ⟨n, 0, none⟩) (.bool false) (by simp; omega) (by simp; omega)
      have m1 : PMem (Wb.setCell ⟨n, 0, none⟩ (.bool false)) n (W0.heap.size + 1) W0.heap.size q :=
        ⟨one_setCell HMb.out.r, (Below.heap_setCell _ _ _ _ (by simp)).trans HMb.out.o, (Below.heap_setCell _ _ _ _ (by simp)).trans HMb.out.p⟩
      have b1 := Hbb.out.setCell (p := ⟨n, 0, none⟩) (Nat.le_refl _) (.bool false)
      have hlt1 := m1.lt
      exact ⟨l1, m1.keep (fun k hk => World.putObj_heap_other (by omega)), below_putObj b1 (by omega) (by omega) _, .inr ⟨rfl, Ho.out, l1.turn _ (by omega)⟩⟩
  · have hpm : pmay p = (rp && (decide (p.length ≤ 300) && !p.contains 0)) := by rw [← Hrp.out]; rfl
    rw [Hr.out] at hpm
    have Hpm := Au.mk hpm
    have hz : (ofL p).size = p.length := ofL_size p
    rintro e W' ⟨hv, ⟨q, M⟩, hb, (⟨h1, hl⟩ | ⟨h1, hl⟩)⟩
    · refine ⟨hv, .inl ⟨hl, ?_⟩⟩
      have hlt := M.lt
      have b2 := below_putObj hb (L := W0.heap.size + 1) (by omega) (by omega) (.loop (rd .exhausted none))
      have M2 := M.keep (V := W'.putObj (W0.heap.size + 1) (.loop (rd .exhausted none))) (fun k hk => World.putObj_heap_other (by omega))
      have D2 := Au.mk (hl.deferred (by omega) (.loop (rd .exhausted none)))
      have HM := Au.mk M2
      have Hn2 := Au.mk (show n < W0.heap.size from by omega)
      have q1 := cell_of_one M2.r
      have q2 := free_of_one M2.r
      have Hb := Au.mk b2
      clear hb hl hlt M M2 hpm hv hb0 hb1 hz1 hR hM1 hsz b2
      generalize W'.putObj (W0.heap.size + 1) (.loop (rd .exhausted none)) = W2 at *
      subst h1
      have fin : ∀ (b : Bool) (tmps : Array Value), tmps[2]? = some (.pointer (some ⟨n, 0, none⟩)) → b = r → bodyPostM Fence.wide 0 Tryz.prog Tryz.f67 (fun e w' => e = .returned (.bool r) ∧ Below w.heap.size w w') .ret { tmps := tmps, defers := [{ target := .collected W0.heap.size, args := #[] }] } (W2.setCell ⟨n, 0, none⟩ (.bool b)) := by
        intro b tmps ht hb2
        have hne : n ≠ W0.heap.size := by have := Hn2.out; omega
        have hc : ((W2.setCell ⟨n, 0, none⟩ (.bool b)).putObj W0.heap.size (.deferred none)).cell? ⟨n, 0, none⟩ = some (.bool b) := by
          rw [cell_putObj hne]; exact cell_of_one (one_setCell HM.out.r)
        have hd := (Below.heap_setCell W2 ⟨n, 0, none⟩ (.bool b) W0.heap.size (Ne.symm hne)).trans D2.out
        refine end_marks (v := .bool b) hd ?_ ⟨by rw [hb2], ?_⟩
        · simp [results, Tryz.results67, go_sem, ht, hc]
        · have h5 := HM.out.lt
          have h6 := Hn2.out
          rw [Hn.out]
          exact below_putObj (Hb.out.setCell (p := ⟨n, 0, none⟩) (Nat.le_refl _) _) (by omega) (by simp [World.setCell]; omega) _
      have Fin := Au.mk fin
      clear fin
      have hrr : r = (decide (p.length ≤ 300) && !p.contains 0) := by rw [Hpm.out]; rfl
      by_cases h3 : p.length ≤ 300
      · have h3i : (p.length : Int) ≤ 300 := by omega
        obtain ⟨i, Hi⟩ := au (Lib.indexByte p 0)
        have hc0 : (i < 0) ↔ (0 : UInt8) ∉ p := by rw [← Hi.out]; exact indexByte_mem p 0
        have Hr2 : Au (decide (i < 0) = r) := ⟨by rw [hrr]; simp [hc0, h3]⟩
        clear hc0 hrr
        gi_wp2_with fail
        refine ⟨trivial, rfl, (callsIn_wide.2 (index0_calls Hi.out W2)).mono ?_⟩
        rintro e w' ⟨rfl, rfl⟩
        gi_wp2_with fail
        exact Fin.out _ _ (by rfl) Hr2.out
      · have Hr2 : Au (false = r) := ⟨by rw [hrr]; simp [h3]⟩
        have h3i : decide ((p.length : Int) ≤ 300) = false := by simp; omega
        have h3n : decide (p.length ≤ 300) = false := by simp; omega
        clear hrr h3
        gi_wp2_with fail
        refine ⟨trivial, ?_⟩
        gi_wp2_with fail
        exact Fin.out _ _ (by rfl) Hr2.out
    · refine ⟨hv, .inr ⟨hl, ?_⟩⟩
      have hlt := M.lt
      have b2 := below_putObj hb (L := W0.heap.size + 1) (by omega) (by omega) (.loop (rd .exhausted (some .ret)))
      have M2 := M.keep (V := W'.putObj (W0.heap.size + 1) (.loop (rd .exhausted (some .ret)))) (fun k hk => World.putObj_heap_other (by omega))
      have D2 := Au.mk (hl.deferred (by omega) (.loop (rd .exhausted (some .ret))))
      have HM := Au.mk M2
      have Hn2 := Au.mk (show n < W0.heap.size from by omega)
      have q1 := cell_of_one M2.r
      have q2 := free_of_one M2.r
      have Hb := Au.mk b2
      have Hr2 : Au (false = r) := ⟨by rw [Hpm.out, h1]; rfl⟩
      clear hb hl hlt M M2 hpm hv hb0 hb1 hz1 hR hM1 hsz b2 h1
      generalize W'.putObj (W0.heap.size + 1) (.loop (rd .exhausted (some .ret))) = W2 at *
      gi_wp2_with fail
      have hne : n ≠ W0.heap.size := by have := Hn2.out; omega
      have hc : (W2.putObj W0.heap.size (.deferred none)).cell? ⟨n, 0, none⟩ = some (.bool false) := by
        rw [cell_putObj hne]; exact q1
      refine end_marks (v := .bool false) D2.out ?_ ⟨by rw [Hr2.out], ?_⟩
      · simp [results, Tryz.results67, go_sem, hc]
      · have h5 := HM.out.lt
        have h6 := Hn2.out
        rw [Hn.out]
        exact below_putObj Hb.out (by omega) (by omega) _
end Go.Proofs.YtmjicapjkmkckaaGreatDoor.Rk
