/- Lists of blocks joined: slices.Grow, slices.Concat, walked. -/
import Derived.Test.YtmjicapjkmkckaaGreatDoorVolU
namespace Go.Proofs.YtmjicapjkmkckaaGreatDoor.Rk
open Go.RowKit Go.Shelf
set_option linter.unusedVariables false
set_option linter.unusedSimpArgs false
set_option maxRecDepth 100000

/-- A row without elements. -/
theorem rowD_empty {α : Type} (d : Kd α) {w : World} {g cap : Nat} {e : TypeId} {cs : Array Value} (G : Nat → Prop) {base : Nat} (hb : base ≤ g) (hg : w.heap[g]? = some (.cells cs e (0, 0))) (hc : cs.size = cap * d.sz) (hm : cap ≤ maxLen) : RowD d w G base (.slice (some ⟨g, 0, none⟩) 0 cap) [] := by
  refine ⟨fun _ => False, [], fun k h => h.elim, fun _ _ h => h, ⟨by simp, .inr ⟨g, cap, rfl, hb, lt_of_block hg, Nat.zero_le _, hm, by simp, fun j hj => ⟨?_, blk_free hg j⟩⟩⟩, fun W _ => rfl⟩
  have hg' : w.heap[g]? = some (.cells cs.toList.toArray e (0, 0)) := by simpa using hg
  have hj' : j < cs.toList.length := by simpa using (by omega : j < cs.size)
  rw [blk_cell hg' j (List.getElem?_eq_getElem hj')]; rfl
set_option maxHeartbeats 2000000 in
theorem grow_calls (n : Nat) (hn : n ≤ 1000000) (G : Nat → Prop) (w : World) :
    Calls Tryz.prog 71 #[.slice none 0 0, .int .i64 n] w fun e w' => (∃ v, e = .returned v ∧ RowD (Kd.slice Kd.byte) w' G w.heap.size v []) ∧ Below w.heap.size w w' := by
  by_cases h0 : n = 0
  · subst h0
    go_enter Tryz.func71, Tryz.ntmps71
    go_wp2_with fail
    go_ret
    exact ⟨⟨_, rfl, RowD.nil _ _ _ _⟩, Below.refl _ _⟩
  · obtain ⟨i, hi, hz, hsz, hby⟩ := info_parts etBlks.i
    have h1 : 1 ≤ n := by omega
    have hfit : n * 24 ≤ 140737488355328 := by omega
    have hrun : ∀ ty, (Builtin.append_ #[33, 3] ty #[.slice none 0 0, .int .i64 (n : Int)]).run Tryz.prog w = .ok (.slice (some ⟨w.heap.size, 0, none⟩) n (grownCap w n 0 43)) (w.drew.alloc (.cells (Builtin.zeroCells (Value.slice none 0 0).cells n ++ Builtin.zeroCells (Value.slice none 0 0).cells (grownCap w n 0 43 - n)) 43)) := fun ty => by
      have hf := run_firstCells_none (P := Tryz.prog) w.drew i.size 0 0 0
      have h := Lib.run_append_grow_zeros w 33 3 ty 43 i (.slice none 0 0) .i64 .i64 Tryz.underlying33 Tryz.underlying3 hi hz none 0 0 [] hf n (by omega) (by rw [hsz]; decide) (by omega) (by omega) (by rw [hby]; omega)
        (by rw [hby]; exact growslice_fits (by omega) (by omega))
      simpa using h
    have hge : n ≤ grownCap w n 0 43 := grownCap_ge w _ _ _
    have hle := grownCap_le_maxLen w n 0 43 (by simp only [maxLen]; omega)
    obtain ⟨cap, Hc⟩ := au (grownCap w n 0 43)
    rw [Hc.out] at hrun hge hle
    have hcs : (Builtin.zeroCells (Value.slice none 0 0).cells n ++ Builtin.zeroCells (Value.slice none 0 0).cells (cap - n)).size = cap := by
      simp [Builtin.zeroCells, Value.cells]; omega
    obtain ⟨cs, Hcs⟩ := au (Builtin.zeroCells (Value.slice none 0 0).cells n ++ Builtin.zeroCells (Value.slice none 0 0).cells (cap - n))
    rw [Hcs.out] at hrun hcs
    have hle' : cap ≤ 9223372036854775807 := by simpa [maxLen] using hle
    have hl0 : (0 : Int) ≤ cap := by omega
    have hl1 : (cap : Int) ≤ 9223372036854775807 := by omega
    have HF := Au.mk (And.intro hcs (And.intro hle hge))
    clear hcs hle hle' hi hz hsz hby
    go_enter Tryz.func71, Tryz.ntmps71
    go_wp2_with (at_builtin; refine Lib.wpList_append_run _ rfl _ _ _ _ rfl _ _ rfl rfl _ _ (hrun _) ?_)
    go_ret
    refine ⟨⟨_, rfl, rowD_empty (Kd.slice Kd.byte) G (Nat.le_refl _) (heap_alloc_new w.drew _) (by rw [HF.out.1]; exact (Nat.mul_one _).symm) HF.out.2.1⟩, (below_drewN (Below.refl _ w) 1).alloc (Nat.le_refl _) _⟩
theorem flat_take_succ {α : Type} {l : List (List α)} {k : Nat} {x : List α} (h : l[k]? = some x) : (l.take (k + 1)).flatten = (l.take k).flatten ++ x := by
  have hlt := (List.getElem?_eq_some_iff.1 h).1
  rw [List.take_succ_eq_append_getElem hlt, List.flatten_append]
  rw [List.getElem?_eq_getElem hlt] at h
  injection h with h
  simp [h]
theorem flat_le {α : Type} (l : List (List α)) (k : Nat) : (l.take k).flatten.length ≤ l.flatten.length := by
  have h : l.flatten = (l.take k).flatten ++ (l.drop k).flatten := by rw [← List.flatten_append, List.take_append_drop]
  rw [h, List.length_append]; omega
set_option maxHeartbeats 4000000 in
theorem concat_calls (parts : List (List (List UInt8))) {n : Nat} (hn : parts.length = n) {A : Option Addr} {c : Nat} {F : Nat → Prop} (hfl : parts.flatten.length ≤ 1000000) {r : List (List UInt8)} (hr : parts.flatten = r) (w : World) (ha : Sl KBk w F A c parts) :
    Calls Tryz.prog 35 #[.slice A n c] w fun e w' => ∃ A' c', e = .returned (.slice A' r.length c') ∧ Sl (Kd.slice Kd.byte) w' (fun k => F k ∨ w.heap.size ≤ k) A' c' r ∧ Below w.heap.size w w' := by
  have hnle : n ≤ 9223372036854775807 := by rw [← hn]; exact ha.le
  have Ha := Au.mk ha.old
  have Hn := Au.mk hn
  have Hr := Au.mk hr
  have hb0 := Below.refl w.heap.size w
  clear ha hn hr
  go_enter Tryz.func35, Tryz.ntmps35
  go_wp2_with fail
  go_loop [3, 11] (fun s i => ∃ (k m : Nat), k ≤ n ∧ i = .int .i64 k ∧ s = .int .i64 m ∧ Au (m = (parts.take k).flatten.length) ∧ m ≤ 1000000) (fun _ i => n - (intOf i).toNat)
  case atStart => exact ⟨0, 0, Nat.zero_le _, rfl, rfl, ⟨by simp⟩, by omega⟩
  case round =>
    obtain ⟨k, m, hk, rfl, rfl, Hm, hm⟩ := hrel
    by_cases hlt : k < n
    · obtain ⟨x, hx⟩ : ∃ x, parts[k]? = some x := ⟨_, List.getElem?_eq_getElem (by rw [Hn.out]; exact hlt)⟩
      have hts := flat_take_succ hx
      have hle2 := flat_le parts (k + 1)
      rw [hts, List.length_append, ← Hm.out] at hle2
      have hml : m + x.length ≤ 1000000 := by omega
      have hml2 : (m : Int) + x.length ≤ 1000000 := by omega
      obtain ⟨b, o, A', c', rfl, hcell, hsx⟩ := Ha.out.slice_at hx
      have Hts : Au (m + x.length = (parts.take (k + 1)).flatten.length) := ⟨by rw [hts, List.length_append, Hm.out]⟩
      clear hts hle2 hx hsx
      have hnl : ¬ ((m : Int) + x.length < 0) := by omega
      go_wp2_with fail
      go_round
      case rel => exact ⟨k + 1, m + x.length, by omega, by go_num, by go_num, Hts, hml⟩
      case measure => simp [intOf]; omega
    · obtain rfl : k = n := by omega
      have Hm2 : Au (m = r.length) := ⟨by rw [Hm.out, List.take_of_length_le (by rw [Hn.out]; exact Nat.le_refl _), Hr.out]⟩
      go_wp2_with fail
      with_reducible refine (grow_calls m hm (fun k => F k ∧ k < w.heap.size) _).mono ?_
      rintro e w1 ⟨⟨v, rfl, hrow⟩, b1⟩
      have Hrow := Au.mk hrow
      clear hrow
      have hs1 := b1.size
      go_wp2_with fail
      go_loopw [6, 27] (fun v i wr => ∃ j : Nat, j ≤ k ∧ i = .int .i64 j ∧ Au (RowD (Kd.slice Kd.byte) wr (fun k => F k ∧ k < w.heap.size) w.heap.size v (parts.take j).flatten) ∧ Below w.heap.size w wr) (fun _ i _ => k - (intOf i).toNat)
      case atStart => exact ⟨0, Nat.zero_le _, rfl, ⟨by simpa using Hrow.out⟩, b1⟩
      case round =>
        obtain ⟨j, hj, rfl, HR, hb⟩ := hrel
        by_cases hlt : j < k
        · have hs := hb.size
          obtain ⟨x, hx⟩ : ∃ x, parts[j]? = some x := ⟨_, List.getElem?_eq_getElem (by rw [Hn.out]; exact hlt)⟩
          have hle2 := flat_le parts (j + 1)
          rw [flat_take_succ hx, List.length_append] at hle2
          obtain ⟨b, o, A', c', rfl, hcell, hsx⟩ := (Ha.out.below hb).slice_at hx
          have Hsx := Au.mk hsx
          have Hx := Au.mk hx
          have H3 : Au ((parts.take j).flatten.length + x.length ≤ maxLen ∧ ((parts.take j).flatten.length + x.length) * 24 ≤ 140737488355328) := ⟨by simp only [maxLen]; omega⟩
          have Hne : Au (∀ g, u6.ownBlock = some g → ¬ (F g ∧ g < w.heap.size)) := ⟨fun g hg h => by obtain ⟨vs, hr⟩ := HR.out.row; have := (hr.block g hg).1; omega⟩
          clear hx hsx hle2
          go_wp2_with (at_builtin; refine wpList_append_rowD (d := Kd.slice Kd.byte) (G := fun k => F k ∧ k < w.heap.size) (F2 := fun k => F k ∧ k < w.heap.size) (base := w.heap.size) (xs := (parts.take j).flatten) (ys := x) _ rfl etBlks _ _ rfl rfl HR.out rfl rfl Hsx.out.els (fun k hk => .inl hk) Hne.out H3.out.1 H3.out.2 hs ?_; intro v' w2 hr hg ho)
          go_wp2_with fail
          go_roundw
          case rel =>
            refine ⟨j + 1, by omega, by go_num, ⟨by rw [flat_take_succ Hx.out]; exact hr⟩, hb.grown hg hs ?_⟩
            intro g hgg
            obtain ⟨vs, hrw⟩ := HR.out.row
            exact (hrw.block g hgg).1
          case measure => simp [intOf]; omega
        · obtain rfl : j = k := by omega
          have hall : (parts.take j).flatten = r := by rw [List.take_of_length_le (by rw [Hn.out]; exact Nat.le_refl _), Hr.out]
          have hR2 := HR.out
          rw [hall] at hR2
          obtain ⟨A', c', rfl, hsl⟩ := hR2.sl
          have Hsl := Au.mk hsl
          clear hall hR2 hsl
          go_wp2_with fail
          go_ret
          exact ⟨A', c', rfl, Hsl.out.mono (fun k hk => hk.elim (fun h => .inl h.1) .inr), hb⟩
end Go.Proofs.YtmjicapjkmkckaaGreatDoor.Rk
