/- Trees as blocks: plain laws: which headers may be, how long blocks are, how many there are. -/
import Derived.Test.YtmjicapjkmkckaaGreatDoorVolB
namespace Go.Proofs.YtmjicapjkmkckaaGreatDoor.Rk
open Go.RowKit
set_option linter.unusedVariables false
set_option linter.unusedSimpArgs false

/-! ### paths -/
theorem pmay_parts {p : List UInt8} (h : pmay p = true) : ∀ s ∈ pparts p, oddP s = false := by
  unfold pmay at h
  simp only [Bool.and_eq_true, List.all_eq_true] at h
  intro s hs
  have := h.1 s hs
  simpa using this
theorem pmay_len {p : List UInt8} (h : pmay p = true) : p.length ≤ 300 := by
  unfold pmay at h
  simp only [Bool.and_eq_true, decide_eq_true_eq] at h
  exact h.2.1
theorem pmay_zero {p : List UInt8} (h : pmay p = true) : (0 : UInt8) ∉ p := by
  unfold pmay at h
  simp only [Bool.and_eq_true] at h
  simpa using h.2.2
theorem pmay_ne {p : List UInt8} (h : pmay p = true) : p ≠ [] := by
  rintro rfl
  have := pmay_parts h [] (by simp [pparts])
  cases this
/-- A path that ends by a slash has an empty part. -/
theorem pparts_end : ∀ (a : List UInt8), [] ∈ pparts (a ++ [47])
  | [] => by simp [pparts]
  | c :: a => by
    rw [List.cons_append, pparts_cons]
    by_cases hc : c = 47
    · rw [if_pos hc]; exact List.mem_cons_of_mem _ (pparts_end a)
    · rw [if_neg hc]
      have ih := pparts_end a
      cases hp : pparts (a ++ [47]) with
      | nil => exact absurd hp (pparts_ne _)
      | cons x xs =>
        dsimp only
        rw [hp] at ih
        rcases List.mem_cons.1 ih with h | h
        · -- the first part of a path that ends by a slash is empty: then a is empty, or begins by a slash
          cases a with
          | nil =>
            have : pparts ([] ++ [47] : List UInt8) = [[], []] := rfl
            rw [this] at hp
            injection hp with h1 h2
            rw [← h2]; simp
          | cons d a =>
            rw [List.cons_append, pparts_cons] at hp
            by_cases hd : d = 47
            · rw [if_pos hd] at hp
              injection hp with h1 h2
              rw [← h2]; exact List.mem_cons_of_mem _ (pparts_end a)
            · rw [if_neg hd] at hp
              split at hp
              · rename_i h0; exact absurd h0 (pparts_ne _)
              · injection hp with h1 h2
                rw [← h] at h1; cases h1
        · exact List.mem_cons_of_mem _ h
theorem idx_lt {c : UInt8} {l : List UInt8} (h : 0 ≤ idx c l) : ∃ k : Nat, idx c l = k ∧ k < l.length ∧ l[k]? = some c ∧ c ∉ l.take k := by
  unfold idx at h ⊢
  by_cases hc : c ∈ l
  · rw [if_pos hc]
    refine ⟨_, rfl, ?_⟩
    have key : ∀ {l : List UInt8}, c ∈ l → (l.takeWhile (· != c)).length < l.length ∧ l[(l.takeWhile (· != c)).length]? = some c ∧ c ∉ l.take (l.takeWhile (· != c)).length := by
      intro l
      induction l with
      | nil => intro h; cases h
      | cons d l ih =>
        intro h
        by_cases hd : d = c
        · subst hd; simp
        · have hl : c ∈ l := by
            rcases List.mem_cons.1 h with h | h
            · exact absurd h.symm hd
            · exact h
          obtain ⟨h1, h2, h3⟩ := ih hl
          have e : (d :: l).takeWhile (· != c) = d :: l.takeWhile (· != c) := by simp [hd]
          rw [e, List.length_cons]
          refine ⟨by simpa using h1, by simpa using h2, ?_⟩
          rw [List.take_succ_cons]
          intro hm
          rcases List.mem_cons.1 hm with hm | hm
          · exact hd hm.symm
          · exact h3 hm
    exact key hc
  · rw [if_neg hc] at h; omega
/-- What a split path is. -/
theorem psplit_cases {p : List UInt8} (h : pmay p = true) : (p.length ≤ 100 ∧ psplit p = ([], p, true)) ∨ (100 < p.length ∧ psplit p = ([], [], false)) ∨
    (100 < p.length ∧ ∃ a b, p = a ++ 47 :: b ∧ psplit p = (a, b, true) ∧ a.length ≤ 155 ∧ b.length ≤ 100 ∧ b ≠ []) := by
  have hl := pmay_len h
  unfold psplit
  rw [if_pos h]
  by_cases h1 : p.length ≤ 100
  · rw [if_pos h1]; exact .inl ⟨h1, rfl⟩
  · rw [if_neg h1]
    dsimp only
    by_cases h2 : idx 47 (p.drop (p.length - 101)) < 0 ∨ 155 < (p.length - 101 : Nat) + idx 47 (p.drop (p.length - 101))
    · rw [if_pos h2]; exact .inr (.inl ⟨by omega, rfl⟩)
    · rw [if_neg h2]
      right; right
      refine ⟨by omega, ?_⟩
      obtain ⟨k, hk, hlt, hget, _⟩ := idx_lt (c := 47) (l := p.drop (p.length - 101)) (by omega)
      rw [hk] at h2 ⊢
      rw [List.length_drop] at hlt
      rw [List.getElem?_drop] at hget
      simp only [Int.toNat_natCast]
      have hlt2 : p.length - 101 + k < p.length := by omega
      have hp : p = p.take (p.length - 101 + k) ++ 47 :: p.drop (p.length - 101 + k + 1) := by
        have h3 := List.getElem?_eq_some_iff.1 hget
        have e := List.take_append_drop (p.length - 101 + k) p
        rw [List.drop_eq_getElem_cons hlt2, h3.2] at e
        exact e.symm
      refine ⟨_, _, hp, rfl, ?_, ?_, ?_⟩
      · rw [List.length_take]; omega
      · rw [List.length_drop]; omega
      · intro h0
        rw [h0] at hp
        have := pmay_parts h [] (by rw [hp]; exact pparts_end _)
        cases this

/-! ### headers -/
theorem put8 {n : Int} (h0 : 0 ≤ n) (h1 : n ≤ 1099511627776) : ∃ l, put n 8 = some l := by
  rcases Nat.lt_or_ge n.toNat (8 ^ 7) with h | h
  · exact ⟨_, put_iff.2 ⟨h0, by decide, by decide, .inl ⟨h, rfl⟩⟩⟩
  · exact ⟨_, put_iff.2 ⟨h0, by decide, by decide, .inr ⟨h, by simp; omega, rfl⟩⟩⟩
theorem put12 {n : Int} (h0 : 0 ≤ n) (h1 : n ≤ 1099511627776) : ∃ l, put n 12 = some l := by
  rcases Nat.lt_or_ge n.toNat (8 ^ 11) with h | h
  · exact ⟨_, put_iff.2 ⟨h0, by decide, by decide, .inl ⟨h, rfl⟩⟩⟩
  · exact ⟨_, put_iff.2 ⟨h0, by decide, by decide, .inr ⟨h, by simp; omega, rfl⟩⟩⟩
theorem inN_iff {n m : Int} : inN n m = true ↔ 0 ≤ n ∧ n ≤ m := by simp [inN]
/-- A node that may be alone, opened. -/
structure One (n : Nd) : Prop where
  kind : kindOk n = true
  path : pmay n.path = true
  mode : 0 ≤ n.mode ∧ n.mode ≤ 4095
  uid : 0 ≤ n.uid ∧ n.uid ≤ 1099511627776
  gid : 0 ≤ n.gid ∧ n.gid ≤ 1099511627776
  mtime : 0 ≤ n.mtime ∧ n.mtime ≤ 1099511627776
theorem one_iff {n : Nd} : one n = true ↔ One n := by
  unfold one
  simp only [Bool.and_eq_true, inN_iff]
  exact ⟨fun ⟨a, b, c, d, e, f⟩ => ⟨a, b, c, d, e, f⟩, fun ⟨a, b, c, d, e, f⟩ => ⟨a, b, c, d, e, f⟩⟩
theorem ltext_iff {s : List UInt8} : ltext s = true ↔ s ≠ [] ∧ s.length ≤ 300 ∧ (0 : UInt8) ∉ s := by
  unfold ltext
  simp
/-- What a kind asks. -/
theorem kind_cases {n : Nd} (h : kindOk n = true) : (n.kind = 48 ∧ n.link = [] ∧ n.data.length ≤ 4000) ∨ (n.kind = 49 ∧ n.mode = 0 ∧ n.uid = 0 ∧ n.gid = 0 ∧ n.mtime = 0 ∧ n.data = [] ∧ pmay n.link = true) ∨
    (n.kind = 50 ∧ ltext n.link = true ∧ n.data = []) ∨ (n.kind = 53 ∧ n.link = [] ∧ n.data = []) := by
  unfold kindOk at h
  by_cases h1 : n.kind = 48
  · rw [if_pos h1] at h; simp only [Bool.and_eq_true, beq_iff_eq, decide_eq_true_eq] at h; exact .inl ⟨h1, h.1, h.2⟩
  · rw [if_neg h1] at h
    by_cases h2 : n.kind = 49
    · rw [if_pos h2] at h; simp only [Bool.and_eq_true, beq_iff_eq] at h; exact .inr (.inl ⟨h2, h.1.1.1.1.1, h.1.1.1.1.2, h.1.1.1.2, h.1.1.2, h.1.2, h.2⟩)
    · rw [if_neg h2] at h
      by_cases h3 : n.kind = 50
      · rw [if_pos h3] at h; simp only [Bool.and_eq_true, beq_iff_eq] at h; exact .inr (.inr (.inl ⟨h3, h.1, h.2⟩))
      · rw [if_neg h3] at h
        by_cases h4 : n.kind = 53
        · rw [if_pos h4] at h; simp only [Bool.and_eq_true, beq_iff_eq] at h; exact .inr (.inr (.inr ⟨h4, h.1, h.2⟩))
        · rw [if_neg h4] at h; cases h
theorem kind_link {n : Nd} (h : kindOk n = true) : n.link.length ≤ 300 ∧ (0 : UInt8) ∉ n.link := by
  rcases kind_cases h with ⟨_, e, _⟩ | ⟨_, _, _, _, _, _, e⟩ | ⟨_, e, _⟩ | ⟨_, e, _⟩
  · rw [e]; simp
  · exact ⟨pmay_len e, pmay_zero e⟩
  · exact (ltext_iff.1 e).2
  · rw [e]; simp
theorem kind_data {n : Nd} (h : kindOk n = true) : n.data.length ≤ 4000 := by
  rcases kind_cases h with ⟨_, _, e⟩ | ⟨_, _, _, _, _, e, _⟩ | ⟨_, _, e⟩ | ⟨_, _, e⟩
  · exact e
  all_goals rw [e]; simp
theorem kind_ty {n : Nd} (h : kindOk n = true) : n.kind = 48 ∨ n.kind = 49 ∨ n.kind = 50 ∨ n.kind = 53 := by
  rcases kind_cases h with ⟨e, _⟩ | ⟨e, _⟩ | ⟨e, _⟩ | ⟨e, _⟩ <;> simp [e]
theorem short_len (s : List UInt8) : (short s).length ≤ 100 := by unfold short; rw [List.length_take]; omega
theorem short_zero {s : List UInt8} (h : (0 : UInt8) ∉ s) : (0 : UInt8) ∉ short s := fun h0 => h (List.mem_of_mem_take h0)
theorem short_ne {s : List UInt8} (h : s ≠ []) : short s ≠ [] := by
  cases s with
  | nil => exact absurd rfl h
  | cons a l => simp [short]
theorem needs_name {n : Nd} (h : pmay n.path = true) : (lneeds n).1 = !(psplit n.path).2.2 := by unfold lneeds; simp [h]
/-- The header of a node that may be. -/
theorem ehead_fits {n : Nd} (h : One n) : Fits (ehead n) := by
  have hk := kind_link h.kind
  have hd := kind_data h.kind
  have ht := kind_ty h.kind
  have h0 := pmay_zero h.path
  have hty : tyOk n.kind = true := by rcases ht with e | e | e | e <;> rw [e] <;> decide
  have hn77 : n.kind ≠ 77 := by rcases ht with e | e | e | e <;> rw [e] <;> decide
  have hname : (ehead n).name ≠ [] ∧ (ehead n).name.length ≤ 100 ∧ (0 : UInt8) ∉ (ehead n).name ∧ (ehead n).pre.length ≤ 155 ∧ (0 : UInt8) ∉ (ehead n).pre := by
    unfold ehead
    dsimp only
    rw [needs_name h.path]
    rcases psplit_cases h.path with ⟨h1, e⟩ | ⟨h1, e⟩ | ⟨h1, a, b, hp, e, h2, h3, h4⟩
    · rw [e]; exact ⟨by simpa using pmay_ne h.path, by simpa using h1, by simpa using h0, by simp, by simp⟩
    · rw [e]; exact ⟨by simpa using short_ne (pmay_ne h.path), by simpa using short_len _, by simpa using short_zero h0, by simp, by simp⟩
    · rw [e]
      rw [hp] at h0
      simp only [List.mem_append, List.mem_cons, not_or] at h0
      exact ⟨by simpa using h4, by simpa using h3, by simpa using h0.2.2, h2, h0.1⟩
  obtain ⟨a1, a2, a3, a4, a5⟩ := hname
  refine ⟨a1, hty, a2, a3, short_len _, short_zero hk.2, put8 h.mode.1 (by have := h.mode.2; show n.mode ≤ _; omega), put8 h.uid.1 h.uid.2, put8 h.gid.1 h.gid.2, put12 (Int.natCast_nonneg _) ?_, put12 h.mtime.1 h.mtime.2, fun e => absurd e hn77, fun _ => ⟨rfl, rfl, a4, a5⟩⟩
  show (n.data.length : Int) ≤ _
  omega
theorem longHd_fits {k : UInt8} {s : List UInt8} (hk : k = 75 ∨ k = 76) (h : s.length ≤ 300) : Fits (longHd k s) := by
  have p8 : ∃ l, put 0 8 = some l := put8 (by decide) (by decide)
  have p12 : ∃ l, put 0 12 = some l := put12 (by decide) (by decide)
  have hty : tyOk k = true := by rcases hk with rfl | rfl <;> decide
  have h77 : k ≠ 77 := by rcases hk with rfl | rfl <;> decide
  refine ⟨by simp [longHd], hty, by simp [longHd], by simp [longHd], by simp [longHd], by simp [longHd], p8, p8, p8, put12 ?_ ?_, p12, fun e => absurd e h77, fun _ => ⟨rfl, rfl, by simp [longHd], by simp [longHd]⟩⟩
  · show (0 : Int) ≤ s.length + 1; omega
  · show (s.length : Int) + 1 ≤ _; omega
theorem contHd_fits {n : Nd} (h : One n) {off whole : Int} (h0 : 0 ≤ off) (h1 : off ≤ whole) (h2 : whole ≤ 4000) : Fits (contHd n off whole) := by
  have h0' := pmay_zero h.path
  refine ⟨short_ne (pmay_ne h.path), (show tyOk 77 = true by decide), short_len _, short_zero h0', by simp [contHd], by simp [contHd], put8 h.mode.1 (by have := h.mode.2; show n.mode ≤ _; omega), put8 h.uid.1 h.uid.2, put8 h.gid.1 h.gid.2, put12 ?_ ?_, put12 h.mtime.1 h.mtime.2, fun _ => ⟨rfl, put12 h0 ?_, put12 ?_ ?_⟩, fun e => absurd rfl e⟩
  all_goals simp only [contHd]; omega
theorem R64_le {n : Int} (h0 : 0 ≤ n) (h1 : n ≤ 1099511627776) : R64 n := ⟨by omega, by omega⟩
theorem ehead_R {n : Nd} (h : One n) : (ehead n).R := by
  have hd := kind_data h.kind
  refine ⟨R64_le h.mode.1 (by have := h.mode.2; show n.mode ≤ _; omega), R64_le h.uid.1 h.uid.2, R64_le h.gid.1 h.gid.2, R64_le (Int.natCast_nonneg _) (by show (n.data.length : Int) ≤ _; omega), R64_le h.mtime.1 h.mtime.2, (⟨by decide, by decide⟩ : R64 0), (⟨by decide, by decide⟩ : R64 0)⟩
theorem longHd_R {k : UInt8} {s : List UInt8} (h : s.length ≤ 300) : (longHd k s).R := by
  have z : R64 0 := ⟨by decide, by decide⟩
  exact ⟨z, z, z, R64_le (by show (0 : Int) ≤ s.length + 1; omega) (by show (s.length : Int) + 1 ≤ _; omega), z, z, z⟩
theorem contHd_R {n : Nd} (h : One n) {off whole : Int} (h0 : 0 ≤ off) (h1 : off ≤ whole) (h2 : whole ≤ 4000) : (contHd n off whole).R := by
  refine ⟨R64_le h.mode.1 (by have := h.mode.2; show n.mode ≤ _; omega), R64_le h.uid.1 h.uid.2, R64_le h.gid.1 h.gid.2, R64_le ?_ ?_, R64_le h.mtime.1 h.mtime.2, R64_le h0 (by show off ≤ _; omega), R64_le ?_ ?_⟩
  all_goals simp only [contHd]; omega
theorem hput_fits {h : Hd} (f : Fits h) : hput h = some (blockOf h) := by unfold hput; rw [if_pos ((fits_iff _).2 f)]
theorem block512 {h : Hd} (f : Fits h) : ((hput h).getD []).length = 512 := by rw [hput_fits f]; exact blockOf_length _ f

/-! ### blocks -/
def AllB (l : List (List UInt8)) : Prop := ∀ b ∈ l, b.length = 512
theorem AllB.nil : AllB [] := by simp [AllB]
theorem AllB.append {l m : List (List UInt8)} (h : AllB l) (k : AllB m) : AllB (l ++ m) := fun b hb => by
  rcases List.mem_append.1 hb with hb | hb
  · exact h b hb
  · exact k b hb
theorem AllB.cons {b : List UInt8} {m : List (List UInt8)} (h : b.length = 512) (k : AllB m) : AllB (b :: m) := fun c hc => by
  rcases List.mem_cons.1 hc with rfl | hc
  · exact h
  · exact k c hc
theorem cutB_all (s : List UInt8) : AllB (cutB s) := cutB_blocks s.length s (Nat.le_refl _)
theorem cutB_len (s : List UInt8) : (cutB s).length = manyB s.length := cutB_length s.length s (Nat.le_refl _)
theorem zeros512 : (zeros 512).length = 512 := zeros_length 512
theorem lputB_all {k : UInt8} {s : List UInt8} : AllB ((lputB k s).getD []) := by
  unfold lputB
  by_cases h : ((k == 75 || k == 76) && ltext s) = true
  · rw [if_pos h]
    simp only [Bool.and_eq_true, Bool.or_eq_true, beq_iff_eq] at h
    exact AllB.cons (block512 (longHd_fits h.1 (ltext_iff.1 h.2).2.1)) (cutB_all _)
  · rw [if_neg h]; exact AllB.nil
theorem lputB_len {k : UInt8} {s : List UInt8} : ((lputB k s).getD []).length ≤ 2 := by
  unfold lputB
  by_cases h : ((k == 75 || k == 76) && ltext s) = true
  · rw [if_pos h]
    simp only [Bool.and_eq_true] at h
    have h1 := (ltext_iff.1 h.2).2.1
    rw [Option.getD_some, List.length_cons, cutB_len, List.length_append]
    simp only [List.length_singleton]
    unfold manyB; rw [if_neg (by omega)]; omega
  · rw [if_neg h]; simp
theorem eput_all (n : Nd) : AllB (eput n) := by
  unfold eput
  by_cases h : one n = true
  · rw [if_pos h]
    refine AllB.append (AllB.append ?_ (AllB.cons (block512 (ehead_fits (one_iff.1 h))) AllB.nil)) (cutB_all _)
    unfold aheadB
    refine AllB.append ?_ ?_ <;> split <;> first | exact lputB_all | exact AllB.nil
  · rw [if_neg h]; exact AllB.nil
theorem eput_pos {n : Nd} (h : one n = true) : 1 ≤ (eput n).length := by
  unfold eput; rw [if_pos h]; simp only [List.length_append, List.length_singleton]; omega
theorem eput_le (n : Nd) : (eput n).length ≤ 13 := by
  unfold eput
  by_cases h : one n = true
  · rw [if_pos h]
    have hd := kind_data (one_iff.1 h).kind
    have h1 : (aheadB n).length ≤ 4 := by
      unfold aheadB
      rw [List.length_append]
      have a1 := lputB_len (k := 75) (s := n.link)
      have a2 := lputB_len (k := 76) (s := n.path)
      split <;> split <;> simp <;> omega
    simp only [List.length_append, List.length_singleton, cutB_len]
    have : manyB n.data.length ≤ 8 := by unfold manyB; split <;> omega
    omega
  · rw [if_neg h]; simp
theorem tmay_one {t : List Nd} (h : tmay t = true) : ∀ n ∈ t, one n = true := by
  unfold tmay at h
  simp only [Bool.and_eq_true] at h
  have key : ∀ (l pre : List Nd), tmayGo pre l = true → ∀ n ∈ l, one n = true := by
    intro l
    induction l with
    | nil => intro _ _ n hn; cases hn
    | cons a l ih =>
      intro pre h n hn
      unfold tmayGo at h
      simp only [Bool.and_eq_true] at h
      rcases List.mem_cons.1 hn with rfl | hn
      · unfold nextOk at h
        simp only [Bool.and_eq_true] at h
        exact h.1.1
      · exact ih _ h.2 n hn
  exact key t [] h.2
theorem tmay_len {t : List Nd} (h : tmay t = true) : t.length ≤ 20 := by
  unfold tmay at h
  simp only [Bool.and_eq_true, decide_eq_true_eq] at h
  exact h.1
theorem sall_all (t : List Nd) : AllB (sall t) := by
  unfold sall
  split
  · refine AllB.append ?_ (AllB.cons zeros512 (AllB.cons zeros512 AllB.nil))
    intro b hb
    obtain ⟨l, hl, hb⟩ := List.mem_flatten.1 hb
    obtain ⟨n, _, rfl⟩ := List.mem_map.1 hl
    exact eput_all n b hb
  · exact AllB.nil
theorem flat_len : ∀ (t : List Nd), ((t.map eput).flatten).length ≤ 13 * t.length
  | [] => by simp
  | n :: t => by
    rw [List.map_cons, List.flatten_cons, List.length_append, List.length_cons]
    have := flat_len t
    have := eput_le n
    omega
theorem sall_len {t : List Nd} (h : tmay t = true) : 2 ≤ (sall t).length ∧ (sall t).length ≤ 262 := by
  unfold sall
  rw [if_pos h]
  have := flat_len t
  have := tmay_len h
  rw [List.length_append]
  simp only [List.length_cons, List.length_nil]
  omega
theorem sall_last {t : List Nd} (h : tmay t = true) : (sall t).getLast? = some (zeros 512) := by
  unfold sall
  rw [if_pos h]
  rw [List.getLast?_append]
  simp
theorem cput_all (n : Nd) (off : Int) : AllB (cput n off) := by
  unfold cput
  by_cases h : cmay n off = true
  · rw [if_pos h]
    have h' := h
    unfold cmay cfile at h'
    simp only [Bool.and_eq_true, decide_eq_true_eq, beq_iff_eq] at h'
    have ho := one_iff.1 h'.1.2
    have hd := kind_data ho.kind
    unfold cputB
    refine AllB.append ?_ (AllB.cons (block512 (contHd_fits ho h'.2.1 (by omega) (by omega))) AllB.nil)
    split
    · exact lputB_all
    · exact AllB.nil
  · rw [if_neg h]; exact AllB.nil
theorem cput_len (n : Nd) (off : Int) : (cput n off).length ≤ 3 := by
  unfold cput
  split
  · unfold cputB
    rw [List.length_append]
    have := lputB_len (k := 76) (s := n.path)
    split <;> simp only [List.length_nil, List.length_singleton] <;> omega
  · simp
end Go.Proofs.YtmjicapjkmkckaaGreatDoor.Rk
