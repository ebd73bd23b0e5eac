/- Check: the laws' small archive, walked. -/
import Derived.Test.YtldhcknjpmbgnaaGreatDoorCkG
namespace Go.Proofs.YtldhcknjpmbgnaaGreatDoor.Rk
open Go.RowKit Go.Shelf
set_option linter.unusedVariables false
set_option linter.unusedSimpArgs false
set_option maxRecDepth 100000

theorem tp_elem {w : World} {F : Nat → Prop} {t : Tp} (hR : R64 t.cap) {A : Option Addr} {c m : Nat} (hm : t.recs.length = m) (hx : Sl (Kd.slice Kd.byte) w F A c t.recs) : ∀ W, Keeps F w W → Kd.tp.K W t [.int .i64 t.cap, .slice A m c, .bool t.mark] :=
  fun W hW => ⟨hR, A, c, by rw [hm], hx.1, hx.2.1, hx.2.2.imp fun vs hv => hv W hW⟩
theorem tps_two {w : World} {F : Nat → Prop} {e : TypeId} {t u : Tp} (hR : R64 t.cap) (hU : R64 u.cap) {A B : Option Addr} {c d m n : Nat} (hm : t.recs.length = m) (hn : u.recs.length = n) (hx : Sl (Kd.slice Kd.byte) w F A c t.recs) (hy : Sl (Kd.slice Kd.byte) w F B d u.recs) :
    Sl Kd.tp (w.alloc (.cells #[.int .i64 t.cap, .slice A m c, .bool t.mark, .int .i64 u.cap, .slice B n d, .bool u.mark] e)) (fun k => F k ∧ k < w.heap.size ∨ k = w.heap.size) (some ⟨w.heap.size, 0, none⟩) 2 [t, u] :=
  sl_lit (d := Kd.tp) (vs := [.int .i64 t.cap, .slice A m c, .bool t.mark, .int .i64 u.cap, .slice B n d, .bool u.mark]) (xs := [t, u]) (by simp) fun W hW =>
    (Reps.single (d := Kd.tp) (x := t) (tp_elem hR hm hx W hW)).append (Reps.single (tp_elem hU hn hy W hW))
set_option maxHeartbeats 4000000 in
theorem awake18_calls (w : World) (hT : Tab w) : Calls Tryz.prog 11 #[] w fun e w' => e = .returned (.bool true) ∧ Below w.heap.size w w' := by
  have HT := Au.mk hT
  obtain ⟨p, hp, hl⟩ := split1
  obtain ⟨f1, f2, f3, f4, f5, f6⟩ := tp1_facts hl
  have F1 := Au.mk f1
  have F2 := Au.mk f2
  have F3 := Au.mk f3
  have F4 := Au.mk f4
  have F5 := Au.mk f5
  have Hp := Au.mk hp
  have hAll : AllS [] := fun n hn => by simp at hn
  have C1 : Au (Calls Tryz.prog 17 #[.agg #[.int .i64 1, .slice none 0 0, .bool false]] w fun e w' => e = .returned (.tuple #[.string ⟨#[]⟩, .int .i64 0, .int .i64 7]) ∧ Below w.heap.size w w') := ⟨cwho_calls ⟨1, [], false⟩ ⟨by decide, by decide⟩ rfl f6 w hT (Sl.nil _ w (fun _ => False))⟩
  have hS0 : ps0.S := by refine ⟨⟨?_, ?_, ?_⟩, ?_, ?_, ?_⟩ <;> decide
  have hR0 : ps0.R := by refine ⟨⟨?_, ?_⟩, ⟨?_, ?_⟩, ⟨?_, ?_⟩, ⟨⟨?_, ?_⟩, ⟨?_, ?_⟩, ⟨?_, ?_⟩, ⟨?_, ?_⟩, ?_, ?_, ?_⟩, ?_, ?_, ?_⟩ <;> decide
  have HS0 := Au.mk hS0
  have HR0 := Au.mk hR0
  clear hT hp hl f1 f2 f3 f4 f5 f6 hS0 hR0
  go_enter Tryz.func11, Tryz.ntmps11
  go_wp2_with fail
  refine C1.out.mono ?_
  rintro e w1 ⟨rfl, b1⟩
  have e1 := Au.mk b1
  have T1 := HT.out.below b1
  have S1 : Sl Kd.int (w1.alloc (.cells #[.int .i64 3] 3)) (fun k => k = w1.heap.size) (some ⟨w1.heap.size, 0, none⟩) 1 [3] := (sl_lit (d := Kd.int) (vs := [.int .i64 3]) (xs := [3]) (F := fun k => False) (w := w1) (e := 3) (by simp) (fun W hW => Reps.single ⟨rfl, (show R64 3 from ⟨by decide, by decide⟩)⟩)).mono (fun k hk => by rcases hk with hk | hk; exact hk.1.elim; exact hk)
  have b2 : Below w1.heap.size w1 (w1.alloc (.cells #[.int .i64 3] 3)) := (Below.refl _ _).alloc (Nat.le_refl _) _
  have C2 : Au (Calls Tryz.prog 23 #[.slice none 0 0, .agg #[.string ⟨#[120]⟩, .int .i64 1, .slice (some ⟨w1.heap.size, 0, none⟩) 1 1]] (w1.alloc (.cells #[.int .i64 3] 3)) fun e w' => ∃ A' c', e = .returned (.tuple #[.slice A' 1 c', .int .i64 0]) ∧ Sl KBk3 w' (fun j => (w1.alloc (.cells #[.int .i64 3] 3)).heap.size ≤ j) A' c' [[p, zeros 512, zeros 512]] ∧ Below (w1.alloc (.cells #[.int .i64 3] 3)).heap.size (w1.alloc (.cells #[.int .i64 3] 3)) w') :=
    ⟨split_calls [] hAll s1 Hp.out _ (T1.below b2) (Sl.nil Kd.nd _ (fun _ => False)) S1⟩
  have e2 := Au.mk (below_then e1.out b2 e1.out.size)
  have T2 := Au.mk (T1.below b2)
  clear b1 b2 S1 T1
  go_wp2_with fail
  generalize w1.alloc (.cells #[.int .i64 3] 3) = W2 at C2 e2 T2 ⊢
  refine C2.out.mono ?_
  rintro e w3 ⟨A3, c3, rfl, s3, b3⟩
  have e3 := Au.mk (below_then e2.out b3 e2.out.size)
  have T3 := T2.out.below b3
  have z2 := e2.out.size
  obtain ⟨b, o, A', c', rfl, k3, r3⟩ := s3.slice_at (i := 0) (x := [p, zeros 512, zeros 512]) rfl
  rw [Nat.add_zero] at k3
  have k3' : w3.cell? ⟨b, o, none⟩ = some (.slice A' 3 c') := k3
  have hb4 : Below w3.heap.size w3 (w3.alloc (.cells #[.int .i64 3, .slice A' 3 c', .bool false] 38)) := (Below.refl _ _).alloc (Nat.le_refl _) _
  have X4 := Au.mk (heap_alloc_new w3 (.cells #[.int .i64 3, .slice A' 3 c', .bool false] 38))
  have T4 := Au.mk (T3.below hb4)
  have R4 := Au.mk (r3.below hb4)
  have e4 := Au.mk (below_then e3.out hb4 e3.out.size)
  have f0 := blk_cell X4.out 0 rfl
  have f1 := blk_cell X4.out 1 rfl
  have f2 := blk_cell X4.out 2 rfl
  clear k3 s3 b3 r3 hb4 T3
  go_wp2_with fail
  obtain ⟨g, Hg⟩ := au w3.heap.size
  have hR3 : R64 (tp1 p).cap := (show R64 3 from ⟨by decide, by decide⟩)
  have CW := Au.mk (fun (W : World) (hT : Tab W) (G : Nat → Prop) (h : Sl (Kd.slice Kd.byte) W G A' c' [p, zeros 512, zeros 512]) => (show Calls Tryz.prog 17 #[.agg #[.int .i64 3, .slice A' 3 c', .bool false]] W fun e w' => e = .returned (.tuple #[.string ⟨#[120]⟩, .int .i64 1, .int .i64 0]) ∧ Below W.heap.size W w' from cwho_calls (tp1 p) hR3 rfl F2.out W hT h))
  have CB := Au.mk (fun (W : World) (G : Nat → Prop) (h : Sl (Kd.slice Kd.byte) W G A' c' [p, zeros 512, zeros 512]) => (show Calls Tryz.prog 19 #[.agg #[.int .i64 3, .slice A' 3 c', .bool false]] W fun e w' => ∃ A5 c5, e = .returned (.tuple #[.slice A5 3 c5, .int .i64 0]) ∧ Sl (Kd.slice Kd.byte) w' (fun j => W.heap.size ≤ j) A5 c5 [p, zeros 512, zeros 512] ∧ Below W.heap.size W w' from cblocks_calls (tp1 p) hR3 rfl F1.out W h))
  have CF := Au.mk (fun (W : World) (hT : Tab W) (G : Nat → Prop) (h : Sl (Kd.slice Kd.byte) W G A' c' [p, zeros 512, zeros 512]) => (show Calls Tryz.prog 16 #[.agg #[.int .i64 0, .string ⟨#[]⟩, .string ⟨#[]⟩, .int .u8 0, .int .i64 0, .int .i64 0, .int .i64 0, .int .i64 0, .string ⟨#[]⟩, .int .i64 0, .int .i64 0, .string ⟨#[]⟩, .string ⟨#[]⟩, .string ⟨#[]⟩], .string ⟨#[120]⟩, .int .i64 1, .agg #[.int .i64 3, .slice A' 3 c', .bool false]] W fun e w' => e = .returned (.tuple #[.int .i64 1, .int .i64 0]) ∧ Below W.heap.size W w' from cfits_calls ps0 HS0.out HR0.out [120] 1 (tp1 p) hR3 rfl F3.out W hT h))
  have CD := Au.mk (fun (W : World) (hT : Tab W) (G : Nat → Prop) (h : Sl Kd.tp W G (some ⟨W.heap.size - 1, 0, none⟩) 2 [tp1 p, tp1 p]) => find_calls [120] 1 [tp1 p, tp1 p] (by simp) rfl (m := 2) (xs := [0, 1]) (by rw [F4.out]; rfl) rfl W hT h)
  have CN := Au.mk (fun (W : World) (hT : Tab W) (G : Nat → Prop) (h : Sl Kd.tp W G (some ⟨W.heap.size - 1, 0, none⟩) 2 [⟨0, [], false⟩, tp1 p]) => (show Calls Tryz.prog 14 #[.agg #[.int .i64 0, .string ⟨#[]⟩, .string ⟨#[]⟩, .int .u8 0, .int .i64 0, .int .i64 0, .int .i64 0, .int .i64 0, .string ⟨#[]⟩, .int .i64 0, .int .i64 0, .string ⟨#[]⟩, .string ⟨#[]⟩, .string ⟨#[]⟩], .string ⟨#[120]⟩, .int .i64 1, .slice (some ⟨W.heap.size - 1, 0, none⟩) 2 2] W fun e w' => e = .returned (.int .i64 1) ∧ Below W.heap.size W w' from cnextT_calls ps0 HS0.out HR0.out [120] 1 [⟨0, [], false⟩, tp1 p] rfl F5.out W hT h))
  rw [Hg.out] at X4 ⊢
  generalize w3.alloc (.cells #[.int .i64 3, .slice A' 3 c', .bool false] 38) = W4 at X4 T4 R4 e4 ⊢
  rw [Hg.out] at f0 f1 f2
  refine (CW.out _ T4.out _ R4.out).mono ?_
  rintro e w5 ⟨rfl, b5⟩
  have e5 := Au.mk (below_then e4.out b5 e4.out.size)
  have X5 := Au.mk (blk_below X4.out b5 (lt_of_block X4.out))
  have T5 := Au.mk (T4.out.below b5)
  have R5 := Au.mk (R4.out.below b5)
  clear f0 f1 f2 b5
  have f0 := blk_cell X5.out 0 rfl
  have f1 := blk_cell X5.out 1 rfl
  have f2 := blk_cell X5.out 2 rfl
  go_wp2_with fail
  refine (CB.out _ _ R5.out).mono ?_
  rintro e w6 ⟨A6, c6, rfl, -, b6⟩
  have e6 := Au.mk (below_then e5.out b6 e5.out.size)
  have X6 := Au.mk (blk_below X5.out b6 (lt_of_block X5.out))
  have T6 := Au.mk (T5.out.below b6)
  have R6 := Au.mk (R5.out.below b6)
  clear f0 f1 f2 b6
  have f0 := blk_cell X6.out 0 rfl
  have f1 := blk_cell X6.out 1 rfl
  have f2 := blk_cell X6.out 2 rfl
  go_wp2_with fail
  refine (CF.out _ T6.out _ R6.out).mono ?_
  rintro e w7 ⟨rfl, b7⟩
  have e7 := Au.mk (below_then e6.out b7 e6.out.size)
  have X7 := Au.mk (blk_below X6.out b7 (lt_of_block X6.out))
  have T7 := Au.mk (T6.out.below b7)
  have R7 := Au.mk (R6.out.below b7)
  clear f0 f1 f2 b7
  have f0 := blk_cell X7.out 0 rfl
  have f1 := blk_cell X7.out 1 rfl
  have f2 := blk_cell X7.out 2 rfl
  have z7 : (w7.alloc (.cells #[.int .i64 3, .slice A' 3 c', .bool false, .int .i64 3, .slice A' 3 c', .bool false] 38)).heap.size - 1 = w7.heap.size := by simp
  have hb8 : Below w7.heap.size w7 (w7.alloc (.cells #[.int .i64 3, .slice A' 3 c', .bool false, .int .i64 3, .slice A' 3 c', .bool false] 38)) := (Below.refl _ _).alloc (Nat.le_refl _) _
  have LD : Au (Sl Kd.tp (w7.alloc (.cells #[.int .i64 3, .slice A' 3 c', .bool false, .int .i64 3, .slice A' 3 c', .bool false] 38)) _ (some ⟨w7.heap.size, 0, none⟩) 2 [tp1 p, tp1 p]) := ⟨tps_two (t := tp1 p) (u := tp1 p) hR3 hR3 rfl rfl R7.out R7.out⟩
  have CD2 := CD.out (w7.alloc (.cells #[.int .i64 3, .slice A' 3 c', .bool false, .int .i64 3, .slice A' 3 c', .bool false] 38)) (T7.out.below hb8) _ (by rw [z7]; exact LD.out)
  rw [z7] at CD2
  have CD3 := Au.mk CD2
  clear CD2
  go_wp2_with fail
  refine CD3.out.mono ?_
  rintro e w8 ⟨A8, c8, rfl, -, b8⟩
  have hb9 : Below w7.heap.size w7 w8 := below_then hb8 b8 hb8.size
  have e8 := Au.mk (below_then e7.out hb9 e7.out.size)
  have X8 := Au.mk (blk_below X7.out hb9 (lt_of_block X7.out))
  have T8 := Au.mk (T7.out.below hb9)
  have R8 := Au.mk (R7.out.below hb9)
  clear f0 f1 f2 b8 hb8 hb9 z7
  have f0 := blk_cell X8.out 0 rfl
  have f1 := blk_cell X8.out 1 rfl
  have f2 := blk_cell X8.out 2 rfl
  have z8 : (w8.alloc (.cells #[.int .i64 0, .slice none 0 0, .bool false, .int .i64 3, .slice A' 3 c', .bool false] 38)).heap.size - 1 = w8.heap.size := by simp
  have hb9 : Below w8.heap.size w8 (w8.alloc (.cells #[.int .i64 0, .slice none 0 0, .bool false, .int .i64 3, .slice A' 3 c', .bool false] 38)) := (Below.refl _ _).alloc (Nat.le_refl _) _
  have LN : Au (Sl Kd.tp (w8.alloc (.cells #[.int .i64 0, .slice none 0 0, .bool false, .int .i64 3, .slice A' 3 c', .bool false] 38)) _ (some ⟨w8.heap.size, 0, none⟩) 2 [⟨0, [], false⟩, tp1 p]) := ⟨tps_two (t := ⟨0, [], false⟩) (u := tp1 p) ⟨by decide, by decide⟩ hR3 rfl rfl (Sl.nil _ _ _) R8.out⟩
  have CN2 := CN.out (w8.alloc (.cells #[.int .i64 0, .slice none 0 0, .bool false, .int .i64 3, .slice A' 3 c', .bool false] 38)) (T8.out.below hb9) _ (by rw [z8]; exact LN.out)
  rw [z8] at CN2
  have CN3 := Au.mk CN2
  have e9 := Au.mk (below_then e8.out hb9 e8.out.size)
  clear CN2 hb9 z8
  go_wp2_with fail
  refine CN3.out.mono ?_
  rintro e w9 ⟨rfl, b9⟩
  have e10 := Au.mk (below_then e9.out b9 e9.out.size)
  clear f0 f1 f2 b9
  go_wp2_with fail
  go_ret
  exact ⟨rfl, e10.out⟩
end Go.Proofs.YtldhcknjpmbgnaaGreatDoor.Rk
