/- num's contracts, both answers at once. -/
import Derived.Test.YtejalhoaljlnhaaNumL1
namespace Go.Proofs.Ytejalhoaljlnhaa.Rk
open Go.RowKit
set_option linter.unusedVariables false
set_option linter.unusedSimpArgs false

theorem put_view {n wide : Int} {p : List UInt8} {b : Bool} (hp : (put n wide).getD [] = p) (hb : (put n wide).isSome = b) (hn : R64 n) (w : World) :
    Calls Try.prog 20 #[.int .i64 n, .int .i64 wide] w fun e w' => ∃ A c, e = .returned (.tuple #[.slice A p.length c, .bool b]) ∧ Sl Kd.byte w' (fun k => w.heap.size ≤ k) A c p ∧ Below w.heap.size w w' := by
  subst hp hb
  cases h : put n wide with
  | none => exact (put_no h hn w).mono fun e w' ⟨h1, h2⟩ => ⟨none, 0, h1, Sl.nil _ _ _, h2⟩
  | some l => exact put_yes h hn w
theorem get_view {l : List UInt8} {n : Int} {b : Bool} (hn : (get l).getD 0 = n) (hb : (get l).isSome = b) {A : Option Addr} {c : Nat} {F : Nat → Prop} {w : World} (ha : Sl Kd.byte w F A c l) :
    Calls Try.prog 22 #[.slice A l.length c] w fun e w' => e = .returned (.tuple #[.int .i64 n, .bool b]) ∧ Below w.heap.size w w' := by
  subst hn hb
  cases h : get l with
  | none => exact get_no h ha
  | some n => exact get_yes h ha
theorem octal_view {n d : Int} {s : List UInt8} {b : Bool} (hs : (octal n d).getD [] = s) (hb : (octal n d).isSome = b) (hn : R64 n) (w : World) :
    Calls Try.prog 18 #[.int .i64 n, .int .i64 d] w fun e w' => e = .returned (.tuple #[.string (ofL s), .bool b]) ∧ Below w.heap.size w w' := by
  subst hs hb
  cases h : octal n d with
  | none => exact octal_no h w hn.1 hn.2
  | some l => exact octal_yes h w hn.1 hn.2
theorem get_R64 (l : List UInt8) : R64 ((get l).getD 0) := by
  cases h : get l with
  | none => exact ⟨by decide, by decide⟩
  | some n =>
    have hacc : ∀ (o : Bool) (l : List UInt8) (a n : Int), R64 a → accW o l a = some n → R64 n := by
      intro o l
      induction l with
      | nil => intro a n ha h; simp [accW] at h; subst h; exact ha
      | cons c l ih =>
        intro a n ha h
        rw [accW] at h
        split at h
        · cases h
        · exact ih _ _ (wrap64_lo _) h
    unfold get at h
    split at h
    · cases h
    · split at h
      · cases h
      · rename_i m hm
        split at h
        · injection h with h
          subst h
          unfold getN at hm
          split at hm
          · exact hacc _ _ _ _ ⟨by decide, by decide⟩ hm
          · exact hacc _ _ _ _ ⟨by decide, by decide⟩ hm
        · cases h

theorem back1 (n wide : Int) (hn : R64 n) {p : List UInt8} {b : Bool} {x : Int} {g : Bool} (hp : (put n wide).getD [] = p) (hb : (put n wide).isSome = b) (hx : (get p).getD 0 = x) (hg : (get p).isSome = g) :
    b = true → g = true ∧ x = n ∧ (p.length : Int) = wide ∧ 0 ≤ n := by
  intro h
  subst hb
  obtain ⟨l, hl⟩ := Option.isSome_iff_exists.1 h
  rw [hl] at hp
  simp at hp
  subst hp
  rw [get_put hn.2 hl] at hx hg
  simp at hx hg
  exact ⟨by simpa using hg.symm, hx.symm, put_length hl, (put_iff.1 hl).1⟩
theorem back2 (n m wide : Int) {p q : List UInt8} {a b : Bool} (hp : (put n wide).getD [] = p) (ha : (put n wide).isSome = a) (hq : (put m wide).getD [] = q) (hb : (put m wide).isSome = b) :
    a = true → b = true → (p = q ↔ n = m) := by
  intro h1 h2
  subst ha hb
  obtain ⟨l, hl⟩ := Option.isSome_iff_exists.1 h1
  obtain ⟨k, hk⟩ := Option.isSome_iff_exists.1 h2
  rw [hl] at hp
  rw [hk] at hq
  simp at hp hq
  subst hp hq
  constructor
  · rintro rfl; exact put_inj hl hk
  · rintro rfl; rw [hl] at hk; injection hk
theorem back3 (b : List UInt8) {y : Int} {g : Bool} {r : List UInt8} {f : Bool} (hy : (get b).getD 0 = y) (hg : (get b).isSome = g) (hr : (put y b.length).getD [] = r) (hf : (put y b.length).isSome = f) :
    (g = false → y = 0) ∧ (g = true → f = true ∧ r = b ∧ 0 ≤ y) := by
  subst hy hg hr hf
  cases h : get b with
  | none => simp
  | some n =>
    have hp := put_of_get h
    simp [hp, (put_iff.1 hp).1]

set_option maxHeartbeats 1000000 in
theorem NumBack_walk (n m wide : Int) (b : List UInt8) {A : Option Addr} {c : Nat} (hn : R64 n) (hm : R64 m) (hw : R64 wide) (w : World) (hs : Sl Kd.byte w (fun _ => True) A c b) :
    Calls Try.prog 4 #[.int .i64 n, .int .i64 m, .int .i64 wide, .slice A b.length c] w fun e w' => e = .returned (.bool true) ∧ Below w.heap.size w w' := by
  by_cases h60 : b.length ≤ 60
  · obtain ⟨p, Hp⟩ := au ((put n wide).getD [])
    obtain ⟨b1, Hb1⟩ := au (put n wide).isSome
    obtain ⟨q, Hq⟩ := au ((put m wide).getD [])
    obtain ⟨b2, Hb2⟩ := au (put m wide).isSome
    obtain ⟨x, Hx⟩ := au ((get p).getD 0)
    obtain ⟨b3, Hb3⟩ := au (get p).isSome
    obtain ⟨y, Hy⟩ := au ((get b).getD 0)
    obtain ⟨b4, Hb4⟩ := au (get b).isSome
    obtain ⟨r, Hr⟩ := au ((put y b.length).getD [])
    obtain ⟨b5, Hb5⟩ := au (put y b.length).isSome
    have hy64 : R64 y := Hy.out ▸ get_R64 b
    have L1 := Au.mk (back1 n wide hn Hp.out Hb1.out Hx.out Hb3.out)
    have L2 := Au.mk (back2 n m wide Hp.out Hb1.out Hq.out Hb2.out)
    have L3 := Au.mk (back3 b Hy.out Hb4.out Hr.out Hb5.out)
    have hsplit : b1 = false ∨ (b1 = true ∧ b3 = true ∧ x = n ∧ wide = (p.length : Int) ∧ 0 ≤ n ∧ (b2 = false ∨ (b2 = true ∧ ((n = m ∧ p = q) ∨ (n ≠ m ∧ p ≠ q))))) := by
      cases b1 with
      | false => exact .inl rfl
      | true =>
        obtain ⟨q1, q2, q3, q4⟩ := L1.out rfl
        refine .inr ⟨rfl, q1, q2, q3.symm, q4, ?_⟩
        cases b2 with
        | false => exact .inl rfl
        | true =>
          have := L2.out rfl rfl
          by_cases hnm : n = m
          · exact .inr ⟨rfl, .inl ⟨hnm, this.2 hnm⟩⟩
          · exact .inr ⟨rfl, .inr ⟨hnm, fun h => hnm (this.1 h)⟩⟩
    clear L1 L2
    have hsplit2 : b4 = false ∧ y = 0 ∨ (b4 = true ∧ b5 = true ∧ r = b ∧ 0 ≤ y) := by
      cases b4 with
      | false => exact .inl ⟨rfl, L3.out.1 rfl⟩
      | true => exact .inr ⟨rfl, L3.out.2 rfl⟩
    clear L3
    rcases hsplit with rfl | ⟨rfl, rfl, rfl, rfl, hn0, rfl | ⟨rfl, ⟨rfl, rfl⟩ | ⟨hne1, hne2⟩⟩⟩
    · rcases hsplit2 with ⟨rfl, rfl⟩ | ⟨rfl, rfl, rfl, hy0⟩
      all_goals
        go_enter Try.func4, Try.ntmps4
        go_wp2_with (fail)
        refine (awake01_calls _).mono ?_
        rintro e w1 ⟨rfl, c1⟩
        go_wp2_with (fail)
        refine (put_view Hp.out Hb1.out hn _).mono ?_
        rintro e w2 ⟨A2, k2, rfl, s2, c2⟩
        go_wp2_with (fail)
        refine (put_view Hq.out Hb2.out hm _).mono ?_
        rintro e w3 ⟨A3, k3, rfl, s3, c3⟩
        go_wp2_with (fail)
        refine (get_view Hx.out Hb3.out (s2.below c3)).mono ?_
        rintro e w4 ⟨rfl, c4⟩
        have t1 := str_of ((s2.below c3).below c4)
        have t2 := str_of (s3.below c4)
        go_wp2_with (fail)
        have s0 := (((hs.below c1).below c2).below c3).below c4
        refine (get_view Hy.out Hb4.out s0).mono ?_
        rintro e w5 ⟨rfl, c5⟩
        clear t1 t2
        go_wp2_with (fail)
        refine (put_view Hr.out Hb5.out hy64 _).mono ?_
        rintro e w6 ⟨A6, k6, rfl, s6, c6⟩
        have t3 := str_of s6
        have t4 := str_of ((s0.below c5).below c6)
        go_wp2_with (fail)
        go_ret
        exact ⟨ret_true (by simp [*]), bt (bt (bt (bt (bt c1 c2) c3) c4) c5) c6⟩
    · rcases hsplit2 with ⟨rfl, rfl⟩ | ⟨rfl, rfl, rfl, hy0⟩
      all_goals
        go_enter Try.func4, Try.ntmps4
        go_wp2_with (fail)
        refine (awake01_calls _).mono ?_
        rintro e w1 ⟨rfl, c1⟩
        go_wp2_with (fail)
        refine (put_view Hp.out Hb1.out hn _).mono ?_
        rintro e w2 ⟨A2, k2, rfl, s2, c2⟩
        go_wp2_with (fail)
        refine (put_view Hq.out Hb2.out hm _).mono ?_
        rintro e w3 ⟨A3, k3, rfl, s3, c3⟩
        go_wp2_with (fail)
        refine (get_view Hx.out Hb3.out (s2.below c3)).mono ?_
        rintro e w4 ⟨rfl, c4⟩
        have t1 := str_of ((s2.below c3).below c4)
        have t2 := str_of (s3.below c4)
        go_wp2_with (fail)
        have s0 := (((hs.below c1).below c2).below c3).below c4
        refine (get_view Hy.out Hb4.out s0).mono ?_
        rintro e w5 ⟨rfl, c5⟩
        clear t1 t2
        go_wp2_with (fail)
        refine (put_view Hr.out Hb5.out hy64 _).mono ?_
        rintro e w6 ⟨A6, k6, rfl, s6, c6⟩
        have t3 := str_of s6
        have t4 := str_of ((s0.below c5).below c6)
        go_wp2_with (fail)
        go_ret
        exact ⟨ret_true (by simp [*]), bt (bt (bt (bt (bt c1 c2) c3) c4) c5) c6⟩
    · rcases hsplit2 with ⟨rfl, rfl⟩ | ⟨rfl, rfl, rfl, hy0⟩
      all_goals
        go_enter Try.func4, Try.ntmps4
        go_wp2_with (fail)
        refine (awake01_calls _).mono ?_
        rintro e w1 ⟨rfl, c1⟩
        go_wp2_with (fail)
        refine (put_view Hp.out Hb1.out hn _).mono ?_
        rintro e w2 ⟨A2, k2, rfl, s2, c2⟩
        go_wp2_with (fail)
        refine (put_view Hq.out Hb2.out hm _).mono ?_
        rintro e w3 ⟨A3, k3, rfl, s3, c3⟩
        go_wp2_with (fail)
        refine (get_view Hx.out Hb3.out (s2.below c3)).mono ?_
        rintro e w4 ⟨rfl, c4⟩
        have t1 := str_of ((s2.below c3).below c4)
        have t2 := str_of (s3.below c4)
        go_wp2_with (fail)
        have s0 := (((hs.below c1).below c2).below c3).below c4
        refine (get_view Hy.out Hb4.out s0).mono ?_
        rintro e w5 ⟨rfl, c5⟩
        clear t1 t2
        go_wp2_with (fail)
        refine (put_view Hr.out Hb5.out hy64 _).mono ?_
        rintro e w6 ⟨A6, k6, rfl, s6, c6⟩
        have t3 := str_of s6
        have t4 := str_of ((s0.below c5).below c6)
        go_wp2_with (fail)
        go_ret
        exact ⟨ret_true (by simp [*]), bt (bt (bt (bt (bt c1 c2) c3) c4) c5) c6⟩
    · have e1 : (p == q) = false := by simpa using hne2
      have e2 : (x == m) = false := by simpa using hne1
      have e3 : decide (x = m) = false := by simpa using hne1
      have e4 : decide (p = q) = false := by simpa using hne2
      clear hne1 hne2
      rcases hsplit2 with ⟨rfl, rfl⟩ | ⟨rfl, rfl, rfl, hy0⟩
      all_goals
        go_enter Try.func4, Try.ntmps4
        go_wp2_with (fail)
        refine (awake01_calls _).mono ?_
        rintro e w1 ⟨rfl, c1⟩
        go_wp2_with (fail)
        refine (put_view Hp.out Hb1.out hn _).mono ?_
        rintro e w2 ⟨A2, k2, rfl, s2, c2⟩
        go_wp2_with (fail)
        refine (put_view Hq.out Hb2.out hm _).mono ?_
        rintro e w3 ⟨A3, k3, rfl, s3, c3⟩
        go_wp2_with (fail)
        refine (get_view Hx.out Hb3.out (s2.below c3)).mono ?_
        rintro e w4 ⟨rfl, c4⟩
        have t1 := str_of ((s2.below c3).below c4)
        have t2 := str_of (s3.below c4)
        go_wp2_with (fail)
        have s0 := (((hs.below c1).below c2).below c3).below c4
        refine (get_view Hy.out Hb4.out s0).mono ?_
        rintro e w5 ⟨rfl, c5⟩
        clear t1 t2
        go_wp2_with (fail)
        refine (put_view Hr.out Hb5.out hy64 _).mono ?_
        rintro e w6 ⟨A6, k6, rfl, s6, c6⟩
        have t3 := str_of s6
        have t4 := str_of ((s0.below c5).below c6)
        go_wp2_with (fail)
        go_ret
        exact ⟨ret_true (by simp [*]), bt (bt (bt (bt (bt c1 c2) c3) c4) c5) c6⟩
  · go_enter Try.func4, Try.ntmps4
    go_wp2_with (fail)
    refine (awake01_calls _).mono ?_
    rintro e w1 ⟨rfl, c1⟩
    go_wp2_with (fail)
    go_ret
    exact ⟨rfl, c1⟩
end Go.Proofs.Ytejalhoaljlnhaa.Rk
