/- head.Get: the walk. -/
import Derived.Test.YtejalhoaljlnhaaHeadO
import Derived.Laws.ResultCell
import Derived.Laws.Tables
namespace Go.Proofs.Ytejalhoaljlnhaa.Rk
open Go.RowKit
set_option linter.unusedVariables false
set_option linter.unusedSimpArgs false

theorem ret_head {fn : Func} (hfn : fn.results = #[.cell 2 36, .tmp 3]) {R : Ending → World → Prop} {w : World} {h : Hd} {g : Nat} {n : Int} {a : Act} (hg : w.heap[g]? = some (.cells h.cells.toArray 36 (0, 0)))
    (t2 : a.tmps.getD 2 undef = .pointer (some ⟨g, 0, none⟩)) (t3 : a.tmps.getD 3 undef = .int .i64 n) (hd : a.defers = [])
    (hR : R (.returned (.tuple #[h.agg, .int .i64 n])) w) : bodyPost Try.prog fn R .ret a w := by
  refine bodyPost_ret (v := .tuple #[h.agg, .int .i64 n]) ?_ hd hR
  rw [results_cell_tmp hfn, t2, t3]
  have hp := run_loadVar_row (P := Try.prog) w g 36 36 h.cells.toArray (0, 0) _ hg Try.underlying36 rfl (by kernel_rfl)
  simp [asAddr, hp, Result.andThen]
  rfl

theorem head_one (h : Hd) : h.cells.toArray.all (·.oneCell') = true := by simp [Hd.cells, Value.oneCell']
/-- A header laid into a variable. -/
theorem wpList_store_head {ops : Array Oper} {rest : List Oper} {o : Oper} {a : Act} {w : World} {Q : Exit → Act → World → Prop} (hgd : o.guard = none) (x y : Operand) (ho : o.op = .store 36 x y)
    (g : Nat) (h old : Hd) (hx : a.eval x = .pointer (some ⟨g, 0, none⟩)) (hy : a.eval y = h.agg) (hg : w.heap[g]? = some (.cells old.cells.toArray 36 (0, 0)))
    (k : ∀ w', Au (w'.heap[g]? = some (.cells h.cells.toArray 36 (0, 0))) → w.grownBy w' (some g) → wpList Try.prog ops Q rest (a.put o.dst undef) w') : wpList Try.prog ops Q (o :: rest) a w := by
  refine wpList_store_row hgd 36 x y ho g h.cells.toArray hx hy 36 old.cells.toArray hg (by kernel_rfl) rfl (head_one h) (k _ ⟨setRow_heap w g _ _ _ _ hg⟩ ?_)
  exact ⟨rfl, rfl, rfl, by rw [size_setRow]; exact Nat.le_refl _, fun i hi hne => setRow_other w g i _ (by rintro rfl; exact hne rfl)⟩
theorem bequal_is {l m : List UInt8} {n k : Nat} {r : Bool} (hn : l.length = n) (hk : m.length = k) (hr : (l == m) = r) {A B : Option Addr} {c d : Nat} {F G : Nat → Prop} {w : World} (ha : Sl Kd.byte w F A c l) (hb : Sl Kd.byte w G B d m) :
    Calls Try.prog 48 #[.slice A n c, .slice B k d] w fun e w' => e = .returned (.bool r) ∧ w = w' := by
  subst hn hk hr
  exact bequal_calls l m A B c d F G w ha hb
theorem get_no1 (l : List UInt8) {A : Option Addr} {c : Nat} {F : Nat → Prop} (w : World) (ha : Sl Kd.byte w F A c l) (hl : ¬ l.length = 512) :
    Calls Try.prog 30 #[.slice A l.length c] w fun e w' => e = .returned (.tuple #[hd0.agg, .int .i64 1]) ∧ Below w.heap.size w w' := by
  have c1 : ((l.length : Int) != 512) = true := by simp; omega
  have hb0 := Below.refl w.heap.size w
  clear hl
  go_enter Try.func30, Try.ntmps30
  go_wp2_with fail
  ((try simp only [Exit.inBlock, Exit.then]); refine ret_head rfl (heap_alloc_new w (.cells hd0.cells.toArray 36)) rfl rfl rfl ?_)
  exact ⟨rfl, hb0.alloc (Nat.le_refl _) _⟩
theorem get_no4 (l : List UInt8) {A : Option Addr} {c : Nat} {F : Nat → Prop} (w : World) (ha : Sl Kd.byte w F A c l) (hl : l.length = 512) (hz : isZero l = true) :
    Calls Try.prog 30 #[.slice A l.length c] w fun e w' => e = .returned (.tuple #[hd0.agg, .int .i64 4]) ∧ Below w.heap.size w w' := by
  have c1 : ((l.length : Int) != 512) = false := by simp [hl]
  have hb0 := Below.refl w.heap.size w
  have Hz := Au.mk hz
  have Hl := Au.mk hl
  clear hl hz
  go_enter Try.func30, Try.ntmps30
  go_wp2_with fail
  refine (zero_calls l _ _ _ _ (ha.alloc _)).mono ?_
  rintro e w1 ⟨rfl, rfl⟩
  rw [Hz.out]
  go_wp2_with fail
  ((try simp only [Exit.inBlock, Exit.then]); refine ret_head rfl (heap_alloc_new w (.cells hd0.cells.toArray 36)) rfl rfl rfl ?_)
  exact ⟨rfl, hb0.alloc (Nat.le_refl _) _⟩
set_option maxHeartbeats 2000000 in
theorem get_no3 (l : List UInt8) {b o : Nat} {c : Nat} {F : Nat → Prop} (w : World) (ha : Sl Kd.byte w F (some ⟨b, o, none⟩) c l) (hl : l.length = 512) (hz : isZero l = false) (hs : ((l.drop 148).take 8 == sgn l) = false) :
    Calls Try.prog 30 #[.slice (some ⟨b, o, none⟩) l.length c] w fun e w' => e = .returned (.tuple #[hd0.agg, .int .i64 3]) ∧ Below w.heap.size w w' := by
  have c1 : ((l.length : Int) != 512) = false := by simp [hl]
  have hb0 := Below.refl w.heap.size w
  have hcap := ha.1
  have hcap2 := ha.2.1
  have hc5 : 512 ≤ c := by omega
  have hcut := byte_cut ha 148 8 (c - 148) (by omega) (by omega) (by omega)
  have hln : ((l.drop 148).take 8).length = 8 := by simp; omega
  obtain ⟨q, Hq⟩ := au ((l.drop 148).take 8)
  rw [Hq.out] at hs hcut hln
  obtain ⟨sg, Hsg⟩ := au (sgn l)
  rw [Hsg.out] at hs
  have Hz := Au.mk hz
  have Hl := Au.mk hl
  have Hs := Au.mk hs
  have Hln := Au.mk hln
  clear hl hz hs hcap hln
  go_enter Try.func30, Try.ntmps30
  go_wp2_with fail
  refine (zero_calls l _ _ _ _ (ha.alloc _)).mono ?_
  rintro e w1 ⟨rfl, rfl⟩
  rw [Hz.out]
  go_wp2_with fail
  generalize hW : World.alloc (World.alloc w _) _ = W5
  have g0 : W5.heap[w.heap.size]? = some (.cells hd0.cells.toArray 36 (0, 0)) := by rw [← hW]; exact blk_alloc (heap_alloc_new _ _) _
  have f4 : W5.cell? ⟨w.heap.size + 1, 0, none⟩ = some (.slice (some ⟨b, o, none⟩) l.length c) := by
    rw [← hW]
    have := cell_new (w := w.alloc (.cells hd0.cells.toArray 36)) (cs := [.slice (some ⟨b, o, none⟩) l.length c]) (t := 57) 0 rfl
    rw [World.size_alloc] at this
    exact this
  have hbW : Below w.heap.size w W5 := by rw [← hW]; exact (hb0.alloc (Nat.le_refl _) _).alloc (by simp) _
  clear hW
  have ha5 := ha.below hbW
  have hcut5 := hcut.below hbW
  have h156 : (156 : Int) ≤ c := by omega
  have G0 := Au.mk g0
  clear g0
  go_region_held_law (fun w' => w'.cell? ⟨w.heap.size + 1, 0, none⟩ = some (.slice (some ⟨b, o, none⟩) l.length c)) (go_keep)
    (first | (go_at_call 43; refine (ssum_calls l rfl Hsg.out _ (ha5.drewN 1) Hl.out).mono ?_; rintro e w8 ⟨B8, d8, rfl, s8, b8⟩; have k8 := cell_below (w := W5.drew) f4 b8) | (go_at_call 48; refine (bequal_is Hln.out rfl Hs.out ((hcut5.drewN 1).below b8) s8).mono ?_; rintro e w9 ⟨rfl, rfl⟩))
  have G9 := blk_below (w := W5.drew) G0.out b8 (lt_of_block G0.out)
  have hb8 : Below w.heap.size w w8 := (below_drewN hbW 1).trans (b8.mono (below_drewN hbW 1).size)
  have H9 := Au.mk G9
  clear G9
  go_wp2_with (first | (with_reducible refine wpList_store_head (o := ⟨none, .store 36 (.tmp 2) (.tmp 33), _, _, _, _⟩) rfl (.tmp 2) (.tmp 33) rfl w.heap.size hd0 hd0 ?a1 ?a2 H9.out ?a3))
  case a1 => rfl
  case a2 => rfl
  intro w' Hw' hg'
  go_wp2_with fail
  ((try simp only [Exit.inBlock, Exit.then]); refine ret_head rfl Hw'.out rfl rfl rfl ?_)
  exact ⟨rfl, below_of_grown hb8 hg' hb8.size (Nat.le_refl _)⟩
end Go.Proofs.Ytejalhoaljlnhaa.Rk
