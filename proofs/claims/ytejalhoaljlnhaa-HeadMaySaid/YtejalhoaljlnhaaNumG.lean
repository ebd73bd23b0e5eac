/- Walks: NumMarks, NumShort. -/
import Derived.Test.YtejalhoaljlnhaaNumF
import Derived.Test.YtejalhoaljlnhaaBase2
namespace Go.Proofs.Ytejalhoaljlnhaa.Rk
open Go.RowKit
set_option linter.unusedVariables false
set_option linter.unusedSimpArgs false

theorem marks_law {n wide : Int} {p : List UInt8} (h : put n wide = some p) : (p.length : Int) = wide ∧ 2 ≤ p.length ∧ plain n wide = (octal n (wide - 1)).isSome ∧
    ((octal n (wide - 1)).isSome = true → p = (octal n (wide - 1)).getD [] ++ [0]) ∧ ((octal n (wide - 1)).isSome = false → p[0]? = some 128) := by
  have hl := put_length h
  obtain ⟨h0, h1, h2, hc⟩ := put_iff.1 h
  have hw : width wide = true := by simp [width]; omega
  have hd : (wide - 1).toNat = wide.toNat - 1 := by omega
  refine ⟨hl, by omega, by simp [plain, hw], ?_, ?_⟩
  · intro ho
    obtain ⟨l, hl⟩ := Option.isSome_iff_exists.1 ho
    obtain ⟨_, _, _, q, rfl⟩ := octal_iff.1 hl
    rw [hd] at q
    rcases hc with ⟨_, rfl⟩ | ⟨q2, _⟩
    · simp_all
    · omega
  · intro ho
    rcases hc with ⟨q, rfl⟩ | ⟨_, _, rfl⟩
    · have : octal n (wide - 1) = some (octL (wide - 1).toNat n.toNat) := octal_iff.2 ⟨h0, by omega, by omega, by rw [hd]; exact q, rfl⟩
      rw [this] at ho; cases ho
    · rfl

set_option maxHeartbeats 1000000 in
theorem NumMarks_walk (n wide : Int) (hn : R64 n) (hw : R64 wide) (w : World) : Calls Try.prog 9 #[.int .i64 n, .int .i64 wide] w fun e w' => e = .returned (.bool true) ∧ Below w.heap.size w w' := by
  cases hp : put n wide with
  | none =>
    have Hp := Au.mk hp
    clear hp
    go_enter Try.func9, Try.ntmps9
    go_wp2_with (fail)
    refine (awake01_calls _).mono ?_
    rintro e w1 ⟨rfl, c1⟩
    go_wp2_with (fail)
    refine (put_no Hp.out hn _).mono ?_
    rintro e w2 ⟨rfl, c2⟩
    go_wp2_with (fail)
    go_ret
    exact ⟨rfl, bt c1 c2⟩
  | some p =>
    have Hp := Au.mk hp
    obtain ⟨hl, hl2, hpl, hy, hno⟩ := marks_law hp
    clear hp
    subst hl
    have hle : ((p.length : Nat) : Int) ≤ 20 := (put_iff.1 Hp.out).2.2.1
    obtain ⟨s, Hs⟩ := au ((octal n ((p.length : Int) - 1)).getD [])
    obtain ⟨b, Hb⟩ := au (octal n ((p.length : Int) - 1)).isSome
    rw [Hs.out, Hb.out] at hy
    rw [Hb.out] at hpl hno
    have Hpl := Au.mk hpl
    clear hpl
    cases b with
    | true =>
      have hps := hy rfl
      have hcmp : (p == s ++ [0]) = true := by simp [hps]
      have hsz : (ofL s).size + 1 ≤ 9223372036854775807 := by rw [ofL_size]; rw [hps] at hle; simp at hle; omega
      clear hy hno hps
      have hcat : ofL s ++ (⟨#[0]⟩ : ByteArray) = ofL (s ++ [0]) := ofL_append s [0]
      go_enter Try.func9, Try.ntmps9
      go_wp2_with (fail)
      refine (awake01_calls _).mono ?_
      rintro e w1 ⟨rfl, c1⟩
      go_wp2_with (fail)
      refine (put_yes Hp.out hn _).mono ?_
      rintro e w2 ⟨A2, k2, rfl, s2, c2⟩
      go_wp2_with (fail)
      refine (octal_view Hs.out Hb.out hn _).mono ?_
      rintro e w3 ⟨rfl, c3⟩
      go_wp2_with (fail)
      refine (plain_is Hpl.out hn _).mono ?_
      rintro e w4 ⟨rfl, c4⟩
      have t1 := str_of ((s2.below c3).below c4)
      go_wp2_with (fail)
      go_ret
      exact ⟨ret_true (by simp [*]), bt (bt (bt c1 c2) c3) c4⟩
    | false =>
      have h0 := hno rfl
      clear hy hno
      go_enter Try.func9, Try.ntmps9
      go_wp2_with (fail)
      refine (awake01_calls _).mono ?_
      rintro e w1 ⟨rfl, c1⟩
      go_wp2_with (fail)
      refine (put_yes Hp.out hn _).mono ?_
      rintro e w2 ⟨A2, k2, rfl, s2, c2⟩
      go_wp2_with (fail)
      refine (octal_view Hs.out Hb.out hn _).mono ?_
      rintro e w3 ⟨rfl, c3⟩
      go_wp2_with (fail)
      refine (plain_is Hpl.out hn _).mono ?_
      rintro e w4 ⟨rfl, c4⟩
      obtain ⟨g, o, rfl, hcell⟩ := ((s2.below c3).below c4).bytes.at_ (bcs_get h0)
      clear h0
      rw [Nat.add_zero] at hcell
      go_wp2_with (fail)
      go_ret
      exact ⟨ret_true (by simp [*]), bt (bt (bt c1 c2) c3) c4⟩

theorem short_law {n wide : Int} {p : List UInt8} (h : put n wide = some p) (k : Nat) (c : UInt8) (hk : k < p.length) (hc : p[k] ≠ c) : (get (p.set k c)).isSome = true → (get (p.set k c)).getD 0 ≠ n := by
  intro h1 h2
  obtain ⟨m, hm⟩ := Option.isSome_iff_exists.1 h1
  rw [hm] at h2
  simp at h2
  subst h2
  have := put_of_get hm
  rw [List.length_set, put_length h, h] at this
  injection this with this
  have h3 := congrArg (fun l => l[k]?) this
  simp [hk] at h3
  exact hc h3

set_option maxHeartbeats 1000000 in
theorem NumShort_walk (n wide k : Int) (c : UInt8) (hn : R64 n) (hw : R64 wide) (hk : R64 k) (w : World) : Calls Try.prog 7 #[.int .i64 n, .int .i64 wide, .int .i64 k, .int .u8 c.toNat] w fun e w' => e = .returned (.bool true) ∧ Below w.heap.size w w' := by
  cases hp : put n wide with
  | none =>
    have Hp := Au.mk hp
    clear hp
    go_enter Try.func7, Try.ntmps7
    go_wp2_with (fail)
    refine (awake01_calls _).mono ?_
    rintro e w1 ⟨rfl, c1⟩
    go_wp2_with (fail)
    refine (put_no Hp.out hn _).mono ?_
    rintro e w2 ⟨rfl, c2⟩
    go_wp2_with (fail)
    go_ret
    exact ⟨rfl, bt c1 c2⟩
  | some p =>
    have Hp := Au.mk hp
    have hle : p.length ≤ 20 := by have := (put_iff.1 hp).2.2.1; have := put_length hp; omega
    clear hp
    by_cases hk1 : 0 ≤ k ∧ k < p.length
    · obtain ⟨hk0, hk1⟩ := hk1
      obtain ⟨j, rfl⟩ := Int.eq_ofNat_of_zero_le hk0
      have hj : j < p.length := by omega
      obtain ⟨d, Hd⟩ := au p[j]
      by_cases hdc : d = c
      · have e1 : ((d.toNat : Int) == (c.toNat : Int)) = true := by simp [hdc]
        have e2 : (d.toNat == c.toNat) = true := by simp [hdc]
        clear hdc
        go_enter Try.func7, Try.ntmps7
        go_wp2_with (fail)
        refine (awake01_calls _).mono ?_
        rintro e w1 ⟨rfl, c1⟩
        go_wp2_with (fail)
        refine (put_yes Hp.out hn _).mono ?_
        rintro e w2 ⟨A2, k2, rfl, s2, c2⟩
        obtain ⟨g, o, rfl, hcell⟩ := s2.byte_at j hj
        rw [Hd.out] at hcell
        go_wp2_with (fail)
        go_ret
        exact ⟨rfl, bt c1 c2⟩
      · have e1 : ((d.toNat : Int) == (c.toNat : Int)) = false := by rw [byte_beq]; simpa using hdc
        have e2 : (d.toNat == c.toNat) = false := by simpa [UInt8.toNat_inj] using hdc
        obtain ⟨m, Hm⟩ := au ((get (p.set j c)).getD 0)
        obtain ⟨b, Hb⟩ := au (get (p.set j c)).isSome
        have hlaw := short_law Hp.out j c hj (by rw [Hd.out]; exact hdc)
        rw [Hm.out, Hb.out] at hlaw
        clear hdc
        go_enter Try.func7, Try.ntmps7
        go_wp2_with (fail)
        refine (awake01_calls _).mono ?_
        rintro e w1 ⟨rfl, c1⟩
        go_wp2_with (fail)
        refine (put_yes Hp.out hn _).mono ?_
        rintro e w2 ⟨A2, k2, rfl, s2, c2⟩
        obtain ⟨g, o, rfl, hcell⟩ := s2.byte_at j hj
        rw [Hd.out] at hcell
        go_wp2_with (first | (at_builtin; refine wpList_append_row _ rfl etBytes _ _ rfl rfl (Row.nil _ w2.heap.size 1) rfl s2.bytes (by simp [bcs]) (bcs_one _) (by simp only [maxLen]; omega) (by omega) (Nat.le_refl _) ?_))
        intro v' w3 hrow hg _
        obtain ⟨g3, cap3, rfl, hg3, hg3l, hcap, hcap2⟩ := hrow.head (by omega)
        obtain ⟨q1, q2⟩ := hrow.cell (j := j) (u := .int .u8 (d.toNat : Int)) (by exact bcs_get (by rw [List.getElem?_eq_getElem hj, Hd.out]))
        have hst := hrow.store j (.int .u8 c.toNat)
        rw [bcs_set] at hst
        have hlp : (p.set j c).length = p.length := List.length_set
        rw [← hlp] at hst
        obtain ⟨A5, k5, e5, s5⟩ := hst.sl_bytes
        injection e5 with e51 _ e52
        subst e51 e52
        go_wp2_with (fail)
        have G := get_view Hm.out Hb.out s5
        rw [hlp] at G
        refine G.mono ?_
        rintro e w4 ⟨rfl, c4⟩
        have cg : Below w2.heap.size w2 w3 := (Below.refl _ _).grown hg (Nat.le_refl _) (by intro k hk; simp [Value.ownBlock] at hk)
        have cs := cg.setCell (p := ⟨g3, j, none⟩) hg3 (.int .u8 c.toNat)
        have c5 := bt (bt (bt c1 c2) cs) c4
        have hmn : b = false ∨ (b = true ∧ m ≠ n) := by
          cases b with
          | false => exact .inl rfl
          | true => exact .inr ⟨rfl, hlaw rfl⟩
        clear hlaw
        rcases hmn with rfl | ⟨rfl, hmn⟩
        · go_wp2_with (fail)
          go_ret
          exact ⟨rfl, c5⟩
        · have e7 : (m == n) = false := by simpa using hmn
          have e8 : (m != n) = true := by simpa using hmn
          have e9 : decide (m = n) = false := by simpa using hmn
          clear hmn
          go_wp2_with (fail)
          go_ret
          exact ⟨ret_true (by simp [*]), c5⟩
    · have hor : k < 0 ∨ (0 ≤ k ∧ (p.length : Int) ≤ k) := by omega
      rcases hor with hk2 | ⟨hk2, hk3⟩
      all_goals
        clear hk1
        go_enter Try.func7, Try.ntmps7
        go_wp2_with (fail)
        refine (awake01_calls _).mono ?_
        rintro e w1 ⟨rfl, c1⟩
        go_wp2_with (fail)
        refine (put_yes Hp.out hn _).mono ?_
        rintro e w2 ⟨A2, k2, rfl, s2, c2⟩
        go_wp2_with (fail)
        go_ret
        exact ⟨rfl, bt c1 c2⟩
end Go.Proofs.Ytejalhoaljlnhaa.Rk
