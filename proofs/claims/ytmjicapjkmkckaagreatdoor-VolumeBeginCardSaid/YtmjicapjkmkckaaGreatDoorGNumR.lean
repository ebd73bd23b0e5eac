/- GNumR: NumR NumQ NumT NumU -/
import Derived.Test.YtmjicapjkmkckaaGreatDoorGNum
set_option maxRecDepth 100000
/- Walks: the document's answers for numbers: Octal, Plain. -/
namespace Go.Proofs.YtmjicapjkmkckaaGreatDoor.Rk
open Go.RowKit
set_option linter.unusedVariables false
set_option linter.unusedSimpArgs false

theorem digit_cut : ∀ a : Nat, a < 8 → (⟨#[48, 49, 50, 51, 52, 53, 54, 55]⟩ : ByteArray).extract a (a + 1) = ofL [UInt8.ofNat (48 + a)] := by
  intro a ha
  have : a = 0 ∨ a = 1 ∨ a = 2 ∨ a = 3 ∨ a = 4 ∨ a = 5 ∨ a = 6 ∨ a = 7 := by omega
  rcases this with rfl | rfl | rfl | rfl | rfl | rfl | rfl | rfl <;> rfl

theorem rOctal_walk (n d : Nat) (w : World) (h1 : n < 9223372036854775808) (hd0 : 1 ≤ d) (hd1 : d ≤ 20) :
    Calls Tryz.prog 153 #[.int .i64 n, .int .i64 (d : Int)] w fun e w' => e = .returned (strOr (octal n d)) ∧ w = w' := by
  have c1 : decide ((n : Int) < 0) = false := by simp
  have c2 : decide ((d : Int) < 1) = false := by simp; omega
  have c3 : decide ((20 : Int) < d) = false := by simp; omega
  go_enter Tryz.func153, Tryz.ntmps153
  go_wp2_with fail
  clear c1 c2 c3
  go_loop [0, 6, 7] (fun x s i => ∃ (k m : Nat) (o : List UInt8), k ≤ d ∧ i = .int .i64 k ∧ x = .int .i64 m ∧ s = .string (ofL o) ∧ Au (m = n / 8 ^ k) ∧ Au (o = octL k n)) (fun _ _ i => d - (intOf i).toNat)
  case atStart => exact ⟨0, n, [], Nat.zero_le _, rfl, rfl, rfl, ⟨(Nat.div_one n).symm⟩, ⟨rfl⟩⟩
  case round =>
    obtain ⟨k, m, o, hk, rfl, rfl, rfl, Hm, Ho⟩ := hrel
    have hle : m < 9223372036854775808 := by have := Nat.div_le_self n (8 ^ k); have := Hm.out; omega
    have hol : o.length ≤ 20 := by rw [Ho.out, octL_length]; omega
    by_cases hlt : k < d
    · obtain ⟨q, Hq⟩ := au (m % 8)
      have hq8 : q < 8 := by rw [← Hq.out]; exact Nat.mod_lt _ (by decide)
      obtain ⟨c, Hc⟩ := au (UInt8.ofNat (48 + q))
      have hcut := digit_cut q hq8
      rw [Hc.out] at hcut
      have hq9 : (q : Int) + 1 ≤ 8 := by omega
      have hq10 : (q : Int) ≤ q + 1 := by omega
      have hsz : (⟨#[48, 49, 50, 51, 52, 53, 54, 55]⟩ : ByteArray).size = 8 := rfl
      have hcat : ofL [c] ++ ofL o = ofL (c :: o) := ofL_append _ _
      have hmq : (m : Int) % 8 = (q : Int) := by have := Hq.out; omega
      have hs1 : (ofL o).size = o.length := ofL_size o
      have hs2 : (ofL [c]).size = 1 := ofL_size _
      go_wp2_with fail
      go_round
      case rel =>
        refine ⟨k + 1, m / 8, c :: o, by omega, by go_num, by first | rfl | go_num, by first | rfl | rw [hcat], ⟨?_⟩, ⟨?_⟩⟩
        · rw [Hm.out, Nat.div_div_eq_div_mul, Nat.pow_succ]
        · rw [octL, ← Ho.out, ← Hm.out, Hq.out, Hc.out]
      case measure => simp [intOf]; omega
    · obtain rfl : k = d := by omega
      by_cases hz : m < 1
      · go_wp2_with fail
        go_ret2
        refine ⟨?_, rfl⟩
        rw [octal_some hd0 hd1 (by rw [← Hm.out]; omega), ← Ho.out]
        rfl
      · have hz' : 0 < m := by omega
        clear hz
        go_wp2_with fail
        go_ret2
        refine ⟨?_, rfl⟩
        rw [octal_none (by rw [← Hm.out]; omega)]
        rfl

theorem rOctal_calls (n d : Int) (w : World) (hn : R64 n) :
    Calls Tryz.prog 153 #[.int .i64 n, .int .i64 d] w fun e w' => e = .returned (strOr (octal n d)) ∧ w = w' := by
  by_cases h0 : n < 0 ∨ d < 1 ∨ 20 < d
  · have hr : octal n d = none := by unfold octal; rw [if_pos (by omega)]
    rw [hr]
    clear hr
    have h3 : n < 0 ∨ (0 ≤ n ∧ d < 1) ∨ (0 ≤ n ∧ 1 ≤ d ∧ 20 < d) := by omega
    rcases h3 with h3 | ⟨h3, h4⟩ | ⟨h3, h4, h5⟩
    all_goals
      clear h0
      go_enter Tryz.func153, Tryz.ntmps153
      go_wp2_with fail
      go_ret2
      exact ⟨rfl, rfl⟩
  · obtain ⟨n', rfl⟩ := Int.eq_ofNat_of_zero_le (by omega : 0 ≤ n)
    obtain ⟨d', rfl⟩ := Int.eq_ofNat_of_zero_le (by omega : 0 ≤ d)
    exact rOctal_walk n' d' w (by have := hn.2; omega) (by omega) (by omega)
/-- (string, bool) as two values. -/
theorem strOr_two (o : Option (List UInt8)) : strOr o = .tuple #[.string (ofL (o.getD [])), .bool o.isSome] := by cases o <;> rfl
theorem rOctal_view {n d : Int} {s : List UInt8} {b : Bool} (hs : (octal n d).getD [] = s) (hb : (octal n d).isSome = b) (hn : R64 n) (w : World) :
    Calls Tryz.prog 153 #[.int .i64 n, .int .i64 d] w fun e w' => e = .returned (.tuple #[.string (ofL s), .bool b]) ∧ w = w' := by
  have h := rOctal_calls n d w hn
  subst hs hb
  rwa [strOr_two] at h
end Go.Proofs.YtmjicapjkmkckaaGreatDoor.Rk
/- Walks: the document's answers for numbers: Put. -/
namespace Go.Proofs.YtmjicapjkmkckaaGreatDoor.Rk
open Go.RowKit
set_option linter.unusedVariables false
set_option linter.unusedSimpArgs false

theorem rput_octal {n wide : Int} {l : List UInt8} (w : World) (hn : R64 n) (h0 : 0 ≤ n) (hw0 : 2 ≤ wide) (hw1 : wide ≤ 20) (hs : (octal n (wide - 1)).getD [] = l) (hb : (octal n (wide - 1)).isSome = true) (hll : l.length < 20) :
    Calls Tryz.prog 152 #[.int .i64 n, .int .i64 wide] w (bytesOr w (some (l ++ [0]))) := by
  have Hs := Au.mk hs
  have Hb := Au.mk hb
  clear hs hb
  have kb := fun W => str_bytes (P := Tryz.prog) (dst := 43) Tryz.underlying9 Tryz.underlying43 Tryz.underlying5 l W
  go_enter Tryz.func152, Tryz.ntmps152
  go_wp2_with (first | (go_at_call 153; (with_reducible refine (rOctal_view Hs.out Hb.out hn _).mono ?_); rintro e w' ⟨rfl, rfl⟩) | (at_builtin; refine wpList_append_row _ rfl etBytes _ _ rfl rfl ((bytesWorld_row _ _ l (by omega) _ (Nat.le_refl _)).alloc _) rfl (cells_new1 _ _ _) rfl (by simp [Value.oneCell']) (by simp only [maxLen]; omega) (by omega) (by simp [Lib.bytesWorld_size]; omega) ?_))
  intro v' w1 hrow hg _
  go_wp2_with fail
  go_ret2
  have hb1 : Below w.heap.size w w1 := (((bytesWorld_below w _ _)).alloc (by simp [Lib.bytesWorld_size]) _).grown hg (by simp [Lib.bytesWorld_size]; omega) (by
    intro k hk; simp [Value.ownBlock] at hk; omega)
  have hr : Row w1 w.heap.size 1 v' (l ++ [0]).length (bcs (l ++ [0])) := by simpa [bcs] using hrow
  obtain ⟨A, c, rfl, hs⟩ := hr.sl_bytes
  exact ⟨hb1, A, c, rfl, hs⟩

theorem rput_bin {n wd : Nat} (w : World) (h1 : n < 9223372036854775808) (hw0 : 2 ≤ wd) (hw1 : wd ≤ 20) (ho : octal n ((wd : Int) - 1) = none) (o : Option (List UInt8)) (hp : put n wd = o) :
    Calls Tryz.prog 152 #[.int .i64 n, .int .i64 (wd : Int)] w (bytesOr w o) := by
  have Ho := Au.mk ho
  have Hp := Au.mk hp
  have Hs : Au ((octal n ((wd : Int) - 1)).getD [] = []) := ⟨by rw [ho]; rfl⟩
  have Hb : Au ((octal n ((wd : Int) - 1)).isSome = false) := ⟨by rw [ho]; rfl⟩
  clear ho hp
  have c1 : decide ((n : Int) < 0) = false := by simp
  have hn : R64 (n : Int) := ⟨by omega, by omega⟩
  go_enter Tryz.func152, Tryz.ntmps152
  go_wp2_with (first | (go_at_call 153; (with_reducible refine (rOctal_view Hs.out Hb.out hn _).mono ?_); rintro e w' ⟨rfl, rfl⟩))
  clear c1
  go_loopw [0, 8, 9] (fun x v i wr => ∃ (k m : Nat) (A : Option Addr) (c : Nat) (l : List UInt8), k + 1 ≤ wd ∧ i = .int .i64 k ∧ x = .int .i64 m ∧ v = .slice A l.length c ∧ Au (m = n / 256 ^ k) ∧ Au (l = binL k n) ∧ Sl Kd.byte wr (fun g => w.heap.size ≤ g) A c l ∧ Below w.heap.size w wr) (fun _ _ i _ => wd - (intOf i).toNat)
  case atStart => exact ⟨0, n, none, 0, [], by omega, rfl, rfl, rfl, ⟨(Nat.div_one n).symm⟩, ⟨rfl⟩, Sl.nil _ _ _, Below.refl _ _⟩
  case round =>
    obtain ⟨k, m, A, c, l, hk, rfl, rfl, rfl, Hm, Hl, hs, hb⟩ := hrel
    have hle : m < 9223372036854775808 := by have := Nat.div_le_self n (256 ^ k); have := Hm.out; omega
    have hll : l.length ≤ 20 := by rw [Hl.out, binL_length]; omega
    by_cases hlt : k + 1 < wd
    · go_wp2_with (first | (at_builtin; refine wpList_append_row _ rfl etBytes _ _ rfl rfl (row_lit1 wr w.heap.size _ _ hb.size) rfl (hs.alloc _).bytes (by simp [bcs]) (bcs_one _) (by simp only [maxLen]; omega) (by omega) (by simp; have := hb.size; omega) ?_))
      intro v' w1 hrow hg _
      go_wp2_with fail
      go_roundw
      case rel =>
        have hb1 : Below w.heap.size w w1 := (hb.alloc hb.size _).grown hg (by simp; have := hb.size; omega) (by intro k hk; simp [Value.ownBlock] at hk; have := hb.size; omega)
        have hr : Row w1 w.heap.size 1 v' (UInt8.ofNat (m % 256) :: l).length (bcs (UInt8.ofNat (m % 256) :: l)) := by
          have e : bcs (UInt8.ofNat (m % 256) :: l) = [Value.int .u8 (m % 256)] ++ bcs l := by simp [bcs]
          rw [e, List.length_cons, Nat.add_comm]
          exact hrow
        obtain ⟨A1, c1, rfl, hs1⟩ := hr.sl_bytes
        refine ⟨k + 1, m / 256, A1, c1, _, by omega, by go_num, by first | rfl | go_num, rfl, ⟨?_⟩, ⟨?_⟩, hs1, hb1⟩
        · rw [Hm.out, Nat.div_div_eq_div_mul, Nat.pow_succ]
        · rw [binL, ← Hl.out, ← Hm.out]
      case measure => simp [intOf]; omega
    · have hkd : k = wd - 1 := by omega
      have Hkd := Au.mk hkd
      clear hkd
      have ⟨q1, _⟩ := octal_no_big w h1 hw0 hw1 Ho.out
      by_cases hz : m < 1
      · go_wp2_with (first | (at_builtin; refine wpList_append_row _ rfl etBytes _ _ rfl rfl (row_lit1 wr w.heap.size _ _ hb.size) rfl (hs.alloc _).bytes (by simp [bcs]) (bcs_one _) (by simp only [maxLen]; omega) (by omega) (by simp; have := hb.size; omega) ?_))
        intro v' w1 hrow hg _
        go_wp2_with fail
        go_ret2
        have hb1 : Below w.heap.size w w1 := (hb.alloc hb.size _).grown hg (by simp; have := hb.size; omega) (by intro k hk; simp [Value.ownBlock] at hk; have := hb.size; omega)
        have ho : o = some (128 :: l) := by
          rw [← Hp.out, put_iff]
          refine ⟨by omega, by omega, by omega, .inr ⟨?_, ?_, ?_⟩⟩
          · simpa using q1
          · have := Hm.out
            rw [Hkd.out] at this
            have h0 : n / 256 ^ (wd - 1) = 0 := by omega
            have hp : 0 < 256 ^ (wd - 1) := Nat.pow_pos (by decide)
            have := (Nat.div_eq_zero_iff_lt hp).1 h0
            simpa using this
          · rw [Hl.out, Hkd.out]; simp
        have hr : Row w1 w.heap.size 1 v' (128 :: l).length (bcs (128 :: l)) := by
          have e : bcs (128 :: l) = [Value.int .u8 128] ++ bcs l := by simp [bcs]
          rw [e, List.length_cons, Nat.add_comm]
          exact hrow
        obtain ⟨A1, c1, rfl, hs1⟩ := hr.sl_bytes
        rw [ho]
        exact ⟨hb1, A1, c1, rfl, hs1⟩
      · have hz' : 0 < m := by omega
        clear hz
        go_wp2_with fail
        go_ret2
        refine ⟨hb, ?_⟩
        have ho : o = none := by
          rw [← Hp.out]
          cases hq : put n wd with
          | none => rfl
          | some l =>
            obtain ⟨_, _, _, ⟨h, _⟩ | ⟨_, h, _⟩⟩ := put_iff.1 hq
            · exact absurd (by simpa using h) (by simpa using q1)
            · have := Hm.out
              rw [Hkd.out, Nat.div_eq_of_lt (by simpa using h)] at this
              omega
        rw [ho]
        rfl

theorem rput_calls (n wide : Int) (w : World) (hn : R64 n) :
    Calls Tryz.prog 152 #[.int .i64 n, .int .i64 wide] w (bytesOr w (put n wide)) := by
  by_cases hw : 2 ≤ wide ∧ wide ≤ 20 ∧ 0 ≤ n
  · obtain ⟨b1, b2, b3⟩ := hw
    have hw : width wide = true := by simp [width]; omega
    cases ho : octal n (wide - 1) with
    | some l =>
      have hr : put n wide = some (l ++ [0]) := by unfold put; rw [if_neg (by simp [hw]; omega), ho]
      rw [hr]
      exact rput_octal w hn b3 b1 b2 (by rw [ho]; rfl) (by rw [ho]; rfl) (by
        obtain ⟨_, _, _, _, rfl⟩ := octal_iff.1 ho
        rw [octL_length]; omega)
    | none =>
      obtain ⟨n', rfl⟩ := Int.eq_ofNat_of_zero_le b3
      obtain ⟨wd, rfl⟩ := Int.eq_ofNat_of_zero_le (by omega : 0 ≤ wide)
      exact rput_bin w (by have := hn.2; omega) (by omega) (by omega) ho _ rfl
  · have hr : put n wide = none := by unfold put; rw [if_pos (by simp [width]; omega)]
    rw [hr]
    clear hr
    have h3 : wide < 2 ∨ (2 ≤ wide ∧ 20 < wide) ∨ (2 ≤ wide ∧ wide ≤ 20 ∧ n < 0) := by omega
    rcases h3 with h3 | ⟨h3, h4⟩ | ⟨h3, h4, h5⟩
    all_goals
      clear hw
      go_enter Tryz.func152, Tryz.ntmps152
      go_wp2_with fail
      go_ret2
      exact ⟨Below.refl _ _, rfl⟩
theorem rput_view {n wide : Int} {p : List UInt8} {b : Bool} (hp : (put n wide).getD [] = p) (hb : (put n wide).isSome = b) (hn : R64 n) (w : World) :
    Calls Tryz.prog 152 #[.int .i64 n, .int .i64 wide] w fun e w' => ∃ A c, e = .returned (.tuple #[.slice A p.length c, .bool b]) ∧ Sl Kd.byte w' (fun k => w.heap.size ≤ k) A c p ∧ Below w.heap.size w w' := by
  have h0 := rput_calls n wide w hn
  subst hp hb
  cases h : put n wide with
  | none => rw [h] at h0; exact h0.mono fun e w' ⟨h1, h2⟩ => ⟨none, 0, h2, Sl.nil _ _ _, h1⟩
  | some l => rw [h] at h0; exact h0.mono fun e w' ⟨h1, A, c, h2, h3⟩ => ⟨A, c, h2, h3, h1⟩
end Go.Proofs.YtmjicapjkmkckaaGreatDoor.Rk
/- Walks: the document's answers for numbers: Get. -/
namespace Go.Proofs.YtmjicapjkmkckaaGreatDoor.Rk
open Go.RowKit
set_option linter.unusedVariables false
set_option linter.unusedSimpArgs false

/-- One byte more, as the document has it. -/
def accR (mk : Bool) : List UInt8 → Int → Option Int
  | [], n => some n
  | c :: l, n =>
    if mk = true ∧ 36028797018963967 < n then none
    else accR mk l (if mk then wrap64 (wrap64 (256 * n) + (c.toNat : Int)) else if 48 ≤ c.toNat ∧ c.toNat ≤ 55 then wrap64 (wrap64 (8 * n) + ((c.toNat : Int) - 48) % 256) else n)
theorem accR_oct (k n : Nat) (hn : n < 9223372036854775808) : ∀ j, j ≤ k → accR false (octL j n) ((n / 8 ^ j : Nat) : Int) = some (n : Int) := by
  intro j
  induction j with
  | zero => intro _; simp [octL, accR]
  | succ j ih =>
    intro hj
    have hle : n / 8 ^ (j + 1) = n / 8 ^ j / 8 := by rw [Nat.pow_succ, Nat.div_div_eq_div_mul]
    have hm := Nat.div_le_self n (8 ^ j)
    rw [octL, accR, if_neg (by simp)]
    rw [← ih (by omega)]
    congr 1
    rw [hle]
    clear ih hle
    generalize n / 8 ^ j = q at hm
    have : (UInt8.ofNat (48 + q % 8)).toNat = 48 + q % 8 := by simp; omega
    rw [this, if_neg (by simp), if_pos (by omega)]
    simp only [wrap64]
    omega
theorem accR_bin (k n : Nat) (hn : n < 9223372036854775808) : ∀ j, j ≤ k → accR true (binL j n) ((n / 256 ^ j : Nat) : Int) = some (n : Int) := by
  intro j
  induction j with
  | zero => intro _; simp [binL, accR]
  | succ j ih =>
    intro hj
    have hle : n / 256 ^ (j + 1) = n / 256 ^ j / 256 := by rw [Nat.pow_succ, Nat.div_div_eq_div_mul]
    have hm := Nat.div_le_self n (256 ^ j)
    have hlt : n / 256 ^ (j + 1) < 36028797018963968 := by rw [hle]; omega
    rw [binL, accR, if_neg (by generalize n / 256 ^ (j + 1) = q at hlt; simp; omega)]
    rw [← ih (by omega)]
    congr 1
    rw [hle]
    clear ih hle hlt
    generalize n / 256 ^ j = q at hm
    have : (UInt8.ofNat (q % 256)).toNat = q % 256 := by simp
    rw [this]
    simp only [if_true, wrap64]
    omega
def getR (b : List UInt8) : Option Int := if b.head? = some 128 then accR true b.tail 0 else accR false b.dropLast 0
theorem getR_of_get {b : List UInt8} {n : Int} (h : get b = some n) : getR b = some n := by
  have hR : R64 n := by have := get_R64 b; rw [h] at this; exact this
  obtain ⟨n0, h1, h2, h⟩ := put_iff.1 (put_of_get h)
  obtain ⟨k, hk⟩ : ∃ k, (b.length : Int).toNat - 1 = k + 1 := ⟨b.length - 2, by omega⟩
  obtain ⟨m, rfl⟩ := Int.eq_ofNat_of_zero_le n0
  rw [hk] at h
  simp only [Int.toNat_natCast] at h
  have hm : m < 9223372036854775808 := by have := hR.2; omega
  unfold getR
  rcases h with ⟨a1, hb⟩ | ⟨a0, a1, hb⟩
  · have hd := octL_digit (k + 1) m
    have hne : ¬ b.head? = some 128 := by
      intro h
      rw [hb, octL] at h
      rw [octL] at hd
      simp only [List.cons_append, List.head?_cons, Option.some.injEq] at h
      have := hd _ List.mem_cons_self
      rw [h] at this; simp at this
    rw [if_neg hne, hb, List.dropLast_concat]
    have := accR_oct (k + 1) m hm (k + 1) (Nat.le_refl _)
    rwa [Nat.div_eq_of_lt a1] at this
  · rw [hb, if_pos (by simp), List.tail_cons]
    have := accR_bin (k + 1) m hm (k + 1) (Nat.le_refl _)
    rwa [Nat.div_eq_of_lt a1] at this
theorem get_of_R {b : List UInt8} {n : Int} (hn : R64 n) (h : getR b = some n) : get b = if put n b.length = some b then some n else none := by
  split
  · rename_i hp
    exact (get_iff hn.2).2 hp
  · rename_i hp
    cases hg : get b with
    | none => rfl
    | some m =>
      have := getR_of_get hg
      rw [h] at this
      injection this with this
      subst this
      exact absurd (put_of_get hg) hp
theorem get_of_Rnone {b : List UInt8} (h : getR b = none) : get b = none := by
  cases hg : get b with
  | none => rfl
  | some m => have := getR_of_get hg; rw [h] at this; cases this

theorem accR_true_lt {c : UInt8} {l : List UInt8} {n : Int} (h : n ≤ 36028797018963967) : accR true (c :: l) n = accR true l (wrap64 (wrap64 (256 * n) + (c.toNat : Int))) := by
  rw [accR, if_neg (by simp; omega)]; rfl
theorem accR_true_ge {c : UInt8} {l : List UInt8} {n : Int} (h : 36028797018963967 < n) : accR true (c :: l) n = none := by
  rw [accR, if_pos ⟨rfl, h⟩]
theorem accR_false {c : UInt8} {l : List UInt8} {n : Int} : accR false (c :: l) n = accR false l (if 48 ≤ c.toNat ∧ c.toNat ≤ 55 then wrap64 (wrap64 (8 * n) + ((c.toNat : Int) - 48) % 256) else n) := by
  rw [accR, if_neg (by simp)]; rfl
theorem accR_true_end {l : List UInt8} {n : Int} (h : 36028797018963967 < n) (hl : l ≠ []) : accR true l n = none := by
  cases l with
  | nil => exact absurd rfl hl
  | cons c l => exact accR_true_ge h

end Go.Proofs.YtmjicapjkmkckaaGreatDoor.Rk
/- Walks: NumTells. -/
namespace Go.Proofs.YtmjicapjkmkckaaGreatDoor.Rk
open Go.RowKit
set_option linter.unusedVariables false
set_option linter.unusedSimpArgs false

end Go.Proofs.YtmjicapjkmkckaaGreatDoor.Rk
