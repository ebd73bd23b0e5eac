/- Long names as blocks: Put, Ahead, walked. -/
import Derived.Test.YtmjicapjkmkckaaGreatDoorVolY
namespace Go.Proofs.YtmjicapjkmkckaaGreatDoor.Rk
open Go.RowKit Go.Shelf
set_option linter.unusedVariables false
set_option linter.unusedSimpArgs false
set_option maxRecDepth 100000

set_option maxHeartbeats 4000000 in
theorem lputB_calls (k : UInt8) (hk : k = 75 ∨ k = 76) (s : List UInt8) (hs : s.length ≤ 1000) {l : List (List UInt8)} {b : Bool} (hl : (lputB k s).getD [] = l) (hb : (lputB k s).isSome = b) (w : World) :
    Calls Tryz.prog 108 #[.int .u8 k.toNat, .string (ofL s)] w fun e w' => ∃ A c, e = .returned (.tuple #[.slice A l.length c, .bool b]) ∧ Sl (Kd.slice Kd.byte) w' (fun j => w.heap.size ≤ j) A c l ∧ Below w.heap.size w w' := by
  have hs' : s.length ≤ 10000 := by omega
  have hsi : (s.length : Int) ≤ 1000 := by omega
  have hz : (ofL s).size = s.length := ofL_size s
  obtain ⟨t, Ht⟩ := au (ltext s)
  have hput : lputB k s = if t then some ((hput (longHd k s)).getD [] :: cutB (s ++ [0])) else none := by
    unfold lputB; rw [Ht.out]
    rcases hk with rfl | rfl <;> simp
  rw [hput] at hl hb
  clear hput
  have kt : (k.toNat : Int) = 75 ∨ (k.toNat : Int) = 76 := by rcases hk with rfl | rfl <;> simp
  cases t
  · have h1 : [] = l := hl
    have h2 : false = b := hb
    subst h1 h2
    clear hl hb
    rcases hk with rfl | rfl
    all_goals
      go_enter Tryz.func108, Tryz.ntmps108
      go_wp2_with fail
      refine (ltext_calls s hs' Ht.out _).mono ?_
      rintro e w1 ⟨rfl, rfl⟩
      go_wp2_with fail
      go_ret2
      exact ⟨none, 0, rfl, Sl.nil _ _ _, Below.refl _ _⟩
  · obtain ⟨p, Hp⟩ := au ((hput (longHd k s)).getD [])
    obtain ⟨pb, Hpb⟩ := au ((hput (longHd k s)).isSome)
    obtain ⟨c2, Hc2⟩ := au (cutB (s ++ [0]))
    have h300 := (ltext_iff.1 Ht.out).2.1
    have HR := Au.mk (longHd_R (k := k) h300)
    have Hl : Au (p :: c2 = l) := ⟨by rw [← hl, ← Hp.out, ← Hc2.out]; rfl⟩
    have h2 : true = b := hb
    subst h2
    clear hl hb
    have hcl : c2.length ≤ 2 := by rw [← Hc2.out, cutB_len, List.length_append]; simp only [List.length_singleton]; unfold manyB; split <;> omega
    have Hcl := Au.mk hcl
    have hcat : ofL s ++ (⟨#[0]⟩ : ByteArray) = ofL (s ++ [0]) := ofL_append s [0]
    have hsl : (s ++ [0]).length ≤ 10000 := by simp; omega
    have Hsl := Au.mk hsl
    clear hcl hsl
    rcases hk with rfl | rfl
    all_goals
      go_enter Tryz.func108, Tryz.ntmps108
      go_wp2_with fail
      refine (ltext_calls s hs' Ht.out _).mono ?_
      rintro e w1 ⟨rfl, rfl⟩
      go_wp2_with fail
      refine (hput_view _ HR.out Hp.out Hpb.out _).mono ?_
      rintro e w1 ⟨A, c, rfl, s1, b1⟩
      have s2 := sl_one (d := Kd.byte) (e := 43) rfl s1
      have e2 := b1.alloc b1.size (.cells #[.slice A p.length c] 43)
      have S2 := Au.mk s2
      clear s2 s1
      go_wp2_with fail
      refine (cutB_calls _ Hsl.out Hc2.out _).mono ?_
      rintro e w3 ⟨A3, c3, rfl, s3, b3⟩
      have hs1 := b1.size
      have e3 := below_then e2 b3 e2.size
      have S3 : Sl (Kd.slice Kd.byte) w3 (fun k => w.heap.size ≤ k) (some ⟨w1.heap.size, 0, none⟩) 1 [p] := (S2.out.below b3).mono (fun k hk => by rcases hk with ⟨hk, _⟩ | hk <;> omega)
      have s3' : Sl (Kd.slice Kd.byte) w3 (fun k => w.heap.size ≤ k) A3 c3 c2 := s3.mono (fun k hk => by simp at hk; omega)
      have s4 := sl_two (d := Kd.slice Kd.byte) (e := 33) (n := 1) (m := c2.length) rfl rfl S3 s3'
      have e4 := e3.alloc e3.size (.cells #[.slice (some ⟨w1.heap.size, 0, none⟩) 1 1, .slice A3 c2.length c3] 33)
      have S4 := Au.mk s4
      have hfl : Au ([[p], c2].flatten = l) := ⟨by rw [← Hl.out]; simp⟩
      have hfl2 : Au ([[p], c2].flatten.length ≤ 1000000) := ⟨by have := Hcl.out; simp; omega⟩
      have Hs3 := Au.mk e3.size
      clear s4 s3 s3' S3 S2 b3 e2 e3 b1 hs1
      go_wp2_with fail
      refine (concat_calls [[p], c2] rfl hfl2.out hfl.out _ S4.out).mono ?_
      rintro e w5 ⟨A5, c5, rfl, s5, b5⟩
      have e5 := below_then e4 b5 e4.size
      have hs3 := Hs3.out
      have S5 : Au (Sl (Kd.slice Kd.byte) w5 (fun k => w.heap.size ≤ k) A5 c5 l) := ⟨s5.mono (fun k hk => by simp at hk; omega)⟩
      clear s5 S4 b5 e4 hs3
      go_wp2_with fail
      go_ret2
      exact ⟨A5, c5, rfl, S5.out, e5⟩
theorem lput75_calls (s : List UInt8) (hs : s.length ≤ 1000) {l : List (List UInt8)} {b : Bool} (hl : (lputB 75 s).getD [] = l) (hb : (lputB 75 s).isSome = b) (w : World) :
    Calls Tryz.prog 108 #[.int .u8 75, .string (ofL s)] w fun e w' => ∃ A c, e = .returned (.tuple #[.slice A l.length c, .bool b]) ∧ Sl (Kd.slice Kd.byte) w' (fun j => w.heap.size ≤ j) A c l ∧ Below w.heap.size w w' := lputB_calls 75 (.inl rfl) s hs hl hb w
theorem lput76_calls (s : List UInt8) (hs : s.length ≤ 1000) {l : List (List UInt8)} {b : Bool} (hl : (lputB 76 s).getD [] = l) (hb : (lputB 76 s).isSome = b) (w : World) :
    Calls Tryz.prog 108 #[.int .u8 76, .string (ofL s)] w fun e w' => ∃ A c, e = .returned (.tuple #[.slice A l.length c, .bool b]) ∧ Sl (Kd.slice Kd.byte) w' (fun j => w.heap.size ≤ j) A c l ∧ Below w.heap.size w w' := lputB_calls 76 (.inr rfl) s hs hl hb w
/-- Are these blocks wanted? -/
theorem ahead1_calls (is : Bool) (k : UInt8) (hk : k = 75 ∨ k = 76) (s : List UInt8) (hs : s.length ≤ 1000) {l : List (List UInt8)} (hl : (if is then (lputB k s).getD [] else []) = l) (w : World) :
    Calls Tryz.prog 161 #[.bool is, .int .u8 k.toNat, .string (ofL s)] w fun e w' => ∃ A c, e = .returned (.slice A l.length c) ∧ Sl (Kd.slice Kd.byte) w' (fun j => w.heap.size ≤ j) A c l ∧ Below w.heap.size w w' := by
  cases is
  · have h1 : [] = l := by simpa using hl
    subst h1
    go_enter Tryz.func161, Tryz.ntmps161
    go_wp2_with fail
    go_ret
    exact ⟨none, 0, rfl, Sl.nil _ _ _, Below.refl _ _⟩
  · obtain ⟨b, Hb⟩ := au (lputB k s).isSome
    have Hl : Au ((lputB k s).getD [] = l) := ⟨by simpa using hl⟩
    clear hl
    rcases hk with rfl | rfl
    · go_enter Tryz.func161, Tryz.ntmps161
      go_wp2_with fail
      refine (lput75_calls s hs Hl.out Hb.out _).mono ?_
      rintro e w1 ⟨A, c, rfl, s1, b1⟩
      go_wp2_with fail
      go_ret
      exact ⟨A, c, rfl, s1, b1⟩
    · go_enter Tryz.func161, Tryz.ntmps161
      go_wp2_with fail
      refine (lput76_calls s hs Hl.out Hb.out _).mono ?_
      rintro e w1 ⟨A, c, rfl, s1, b1⟩
      go_wp2_with fail
      go_ret
      exact ⟨A, c, rfl, s1, b1⟩
theorem ahead75_calls (is : Bool) (s : List UInt8) (hs : s.length ≤ 1000) {l : List (List UInt8)} (hl : (if is then (lputB 75 s).getD [] else []) = l) (w : World) :
    Calls Tryz.prog 161 #[.bool is, .int .u8 75, .string (ofL s)] w fun e w' => ∃ A c, e = .returned (.slice A l.length c) ∧ Sl (Kd.slice Kd.byte) w' (fun j => w.heap.size ≤ j) A c l ∧ Below w.heap.size w w' := ahead1_calls is 75 (.inl rfl) s hs hl w
theorem ahead76_calls (is : Bool) (s : List UInt8) (hs : s.length ≤ 1000) {l : List (List UInt8)} (hl : (if is then (lputB 76 s).getD [] else []) = l) (w : World) :
    Calls Tryz.prog 161 #[.bool is, .int .u8 76, .string (ofL s)] w fun e w' => ∃ A c, e = .returned (.slice A l.length c) ∧ Sl (Kd.slice Kd.byte) w' (fun j => w.heap.size ≤ j) A c l ∧ Below w.heap.size w w' := ahead1_calls is 76 (.inr rfl) s hs hl w
theorem ljoined_calls (parts : List (List (List UInt8))) {n : Nat} (hn : parts.length = n) {A : Option Addr} {c : Nat} {F : Nat → Prop} (hfl : parts.flatten.length ≤ 1000000) {r : List (List UInt8)} (hr : parts.flatten = r) (w : World) (ha : Sl KBk w F A c parts) :
    Calls Tryz.prog 162 #[.slice A n c] w fun e w' => ∃ A' c', e = .returned (.slice A' r.length c') ∧ Sl (Kd.slice Kd.byte) w' (fun k => F k ∨ w.heap.size ≤ k) A' c' r ∧ Below w.heap.size w w' := by
  have Hc := Au.mk (concat_calls parts hn hfl hr w ha)
  clear hn hfl hr ha
  go_enter Tryz.func162, Tryz.ntmps162
  go_wp2_with fail
  refine Hc.out.mono ?_
  rintro e w1 ⟨A', c', rfl, s1, b1⟩
  go_wp2_with fail
  go_ret
  exact ⟨A', c', rfl, s1, b1⟩
set_option maxHeartbeats 4000000 in
theorem aheadB_calls (n : Nd) (hS : n.S) {l : List (List UInt8)} (hl : aheadB n = l) (w : World) :
    Calls Tryz.prog 131 #[n.agg] w fun e w' => ∃ A c, e = .returned (.slice A l.length c) ∧ Sl (Kd.slice Kd.byte) w' (fun j => w.heap.size ≤ j) A c l ∧ Below w.heap.size w w' := by
  obtain ⟨h1, h2, h3⟩ := hS
  have HS : Au n.S := ⟨⟨h1, h2, h3⟩⟩
  obtain ⟨x, Hx⟩ := au (lneeds n).1
  obtain ⟨y, Hy⟩ := au (lneeds n).2
  have Hn : Au (lneeds n = (x, y)) := ⟨by rw [← Hx.out, ← Hy.out]⟩
  obtain ⟨la, Hla⟩ := au (if y then (lputB 75 n.link).getD [] else [])
  obtain ⟨lb, Hlb⟩ := au (if x then (lputB 76 n.path).getD [] else [])
  have Hl : Au ([la, lb].flatten = l) := ⟨by rw [← hl, ← Hla.out, ← Hlb.out, ← Hx.out, ← Hy.out]; simp [aheadB]⟩
  have Hl2 : Au ([la, lb].flatten.length ≤ 1000000) := ⟨by
    have a1 := lputB_len (k := 75) (s := n.link)
    have a2 := lputB_len (k := 76) (s := n.path)
    have e1 : la.length ≤ 2 := by rw [← Hla.out]; split; exact a1; simp
    have e2 : lb.length ≤ 2 := by rw [← Hlb.out]; split; exact a2; simp
    simp; omega⟩
  have B0 := Au.mk (nd_box w n)
  have hb0 := (Below.refl w.heap.size w).alloc (Nat.le_refl _) (.cells n.cells.toArray 53)
  obtain ⟨f0, f1, f2, f3, f4, f5, f6, f7⟩ := nd_cells n B0.out
  unfold Nd.agg
  unfold Nd.cells at f0 f1 f2 f3 f4 f5 f6 f7 hb0 B0
  clear hl
  go_enter Tryz.func131, Tryz.ntmps131
  go_wp2_with fail
  refine (lneeds_calls n HS.out Hn.out _).mono ?_
  rintro e w1 ⟨rfl, b1⟩
  have g0 := cell_below f0 b1
  have g1 := cell_below f1 b1
  have e1 := below_then hb0 b1 hb0.size
  clear f0 f1 f2 f3 f4 f5 f6 f7 hb0 B0
  go_upto_region 3 with fail
  go_region_held3 (fun w' => w'.cell? ⟨w.heap.size, 0, none⟩ = some (.string (ofL n.path)) ∧ w'.cell? ⟨w.heap.size, 1, none⟩ = some (.string (ofL n.link))) (go_keep)
    (first | (go_at_call 161; (with_reducible refine (ahead75_calls y n.link h2 Hla.out _).mono ?_); rintro e w2 ⟨A2, c2, rfl, s2, b2⟩; have k0 := cell_below (w := w1.drew) g0 b2; have k1 := cell_below (w := w1.drew) g1 b2) | (go_at_call 161; (with_reducible refine (ahead76_calls x n.path h1 Hlb.out _).mono ?_); rintro e w3 ⟨A3, c3, rfl, s3, b3⟩; have j0 := cell_below k0 b3; have j1 := cell_below k1 b3; have t2 := s2.below b3; have s4 := sl_two (d := Kd.slice Kd.byte) (e := 33) (n := la.length) (m := lb.length) rfl rfl (t2.mono (fun k hk => Or.inl hk)) (s3.mono (fun k hk => Or.inr hk))) | (go_at_call 162; refine (ljoined_calls [la, lb] rfl Hl2.out Hl.out _ s4).mono ?_; rintro e w5 ⟨A5, c5, rfl, s5, b5⟩; have q0 := cell_below (cell_alloc j0 _) b5; have q1 := cell_below (cell_alloc j1 _) b5))
  go_wp2_with fail
  go_ret
  have e1' := below_drewN e1 1
  have e2 := below_then e1' b2 e1'.size
  have e3 := below_then e2 b3 e2.size
  have e4 := e3.alloc e3.size (.cells #[.slice A2 la.length c2, .slice A3 lb.length c3] 33)
  have e5 := below_then e4 b5 e4.size
  have z1 := e1.size
  have z1' : w1.drew.heap.size = w1.heap.size := rfl
  have z2 := b2.size
  have z3 := b3.size
  exact ⟨A5, c5, rfl, s5.mono (fun k hk => by simp at hk; omega), e5⟩
end Go.Proofs.YtmjicapjkmkckaaGreatDoor.Rk
