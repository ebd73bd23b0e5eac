/- ChkS: ChkA ChkB -/
import Derived.Test.YtldhcknjpmbgnaaGreatDoorStrpS
import Derived.Test.YtldhcknjpmbgnaaGreatDoorParS
/- Records of blocks: plain Lean. -/
namespace Go.Proofs.YtldhcknjpmbgnaaGreatDoor.Rk
open Go.RowKit
set_option linter.unusedVariables false
set_option linter.unusedSimpArgs false
set_option maxRecDepth 100000

/-- Pieces of so many. -/
def chunkN {α : Type} (k : Nat) (l : List α) : List (List α) := if h : l = [] ∨ k = 0 then [] else l.take k :: chunkN k (l.drop k)
  termination_by l.length
  decreasing_by
    have := List.length_pos_iff.2 (fun e => h (.inl e))
    rw [List.length_drop]; omega
theorem chunkN_nil {α : Type} (k : Nat) : chunkN k ([] : List α) = [] := by rw [chunkN, dif_pos (.inl rfl)]
theorem chunkN_cons {α : Type} {k : Nat} {l : List α} (hk : k ≠ 0) (h : l ≠ []) : chunkN k l = l.take k :: chunkN k (l.drop k) := by
  rw [chunkN, dif_neg (fun e => e.elim h hk)]
theorem chunkN_flatten {α : Type} {k : Nat} (hk : k ≠ 0) : ∀ (m : Nat) (l : List α), l.length ≤ m → (chunkN k l).flatten = l
  | 0, l, hm => by
    have : l = [] := List.length_eq_zero_iff.1 (by omega)
    subst this; rw [chunkN_nil]; rfl
  | m + 1, l, hm => by
    by_cases h : l = []
    · subst h; rw [chunkN_nil]; rfl
    · have := List.length_pos_iff.2 h
      rw [chunkN_cons hk h, List.flatten_cons, chunkN_flatten hk m _ (by rw [List.length_drop]; omega), List.take_append_drop]
theorem chunkN_len {α : Type} {k : Nat} (hk : k ≠ 0) : ∀ (m : Nat) (l : List α), l.length ≤ m → l.length % k = 0 → ∀ p ∈ chunkN k l, p.length = k
  | 0, l, hm, _ => by
    have : l = [] := List.length_eq_zero_iff.1 (by omega)
    subst this; rw [chunkN_nil]; simp
  | m + 1, l, hm, h0 => by
    by_cases h : l = []
    · subst h; rw [chunkN_nil]; simp
    · have h1 := List.length_pos_iff.2 h
      have h2 : k ≤ l.length := by
        apply Classical.byContradiction
        intro hc
        rw [Nat.mod_eq_of_lt (by omega)] at h0
        omega
      rw [chunkN_cons hk h]
      intro p hp
      rcases List.mem_cons.1 hp with rfl | hp
      · rw [List.length_take]; omega
      · refine chunkN_len hk m (l.drop k) (by rw [List.length_drop]; omega) ?_ p hp
        rw [List.length_drop]
        have := Nat.mod_eq_sub_mod h2
        omega
theorem chunk_blocks : ∀ (l : List (List UInt8)), AllB l → chunkN 512 l.flatten = l
  | [], _ => by rw [List.flatten_nil, chunkN_nil]
  | b :: l, h => by
    have hb : b.length = 512 := h b List.mem_cons_self
    have ih := chunk_blocks l (fun x hx => h x (List.mem_cons_of_mem _ hx))
    rw [List.flatten_cons, chunkN_cons (by decide) (by intro e; have := congrArg List.length e; rw [List.length_append, hb] at this; simp at this)]
    rw [List.take_append_of_le_length (by omega), List.take_of_length_le (by omega), List.drop_append_of_le_length (by omega), List.drop_eq_nil_of_le (by omega), List.nil_append, ih]
/-- Records of so many blocks. -/
def rgroup (b : Nat) (l : List (List UInt8)) : List (List UInt8) := (chunkN b l).map fun p => p.flatten ++ zeros (b * 512 - p.flatten.length)
/-- The blocks of records. -/
def rblocks (rs : List (List UInt8)) : List (List UInt8) := (rs.map (chunkN 512)).flatten
theorem flat512 : ∀ (l : List (List UInt8)), AllB l → l.flatten.length = l.length * 512
  | [], _ => rfl
  | b :: l, h => by
    have hb : b.length = 512 := h b List.mem_cons_self
    rw [List.flatten_cons, List.length_append, hb, flat512 l (fun x hx => h x (List.mem_cons_of_mem _ hx)), List.length_cons]; omega
/-- The records of a volume have its blocks. -/
theorem rblocks_group {b : Nat} (hb : 1 ≤ b) {l : List (List UInt8)} (h : AllB l) (h0 : l.length % b = 0) : rblocks (rgroup b l) = l := by
  unfold rblocks rgroup
  rw [List.map_map]
  have e : (chunkN b l).map (chunkN 512 ∘ fun p => p.flatten ++ zeros (b * 512 - p.flatten.length)) = chunkN b l := by
    have : ∀ p ∈ chunkN b l, (chunkN 512 ∘ fun p => p.flatten ++ zeros (b * 512 - p.flatten.length)) p = p := fun p hp => by
      have hp1 := chunkN_len (by omega) l.length l (Nat.le_refl _) h0 p hp
      have hp2 : AllB p := fun x hx => h x (by
        have hf := chunkN_flatten (k := b) (by omega) l.length l (Nat.le_refl _)
        rw [← hf]
        exact List.mem_flatten.2 ⟨p, hp, hx⟩)
      show chunkN 512 (p.flatten ++ zeros (b * 512 - p.flatten.length)) = p
      rw [flat512 p hp2, hp1, Nat.sub_self]
      show chunkN 512 (p.flatten ++ []) = p
      rw [List.append_nil, chunk_blocks p hp2]
    have h2 : ∀ (m : List (List (List UInt8))), (∀ p ∈ m, (chunkN 512 ∘ fun p => p.flatten ++ zeros (b * 512 - p.flatten.length)) p = p) → m.map (chunkN 512 ∘ fun p => p.flatten ++ zeros (b * 512 - p.flatten.length)) = m := by
      intro m
      induction m with
      | nil => intro _; rfl
      | cons p m ih =>
        intro hm
        rw [List.map_cons, hm p List.mem_cons_self, ih (fun q hq => hm q (List.mem_cons_of_mem _ hq))]
    exact h2 _ this
  rw [e, chunkN_flatten (by omega) l.length l (Nat.le_refl _)]
end Go.Proofs.YtldhcknjpmbgnaaGreatDoor.Rk
/- Which volume a tape has: plain Lean. -/
namespace Go.Proofs.YtldhcknjpmbgnaaGreatDoor.Rk
open Go.RowKit
set_option linter.unusedVariables false
set_option linter.unusedSimpArgs false
set_option maxRecDepth 100000

structure Tp where
  cap : Int
  recs : List (List UInt8)
  mark : Bool
def recMay (r : List UInt8) : Bool := r.length % 512 == 0 && (decide (1 ≤ r.length / 512) && decide (r.length / 512 ≤ 20))
def tapeMay (t : Tp) : Bool := decide (0 ≤ t.cap) && (decide (t.cap ≤ 200) && (decide ((t.recs.length : Int) ≤ t.cap) && t.recs.all recMay))
/-- A tape's blocks. -/
def cblocks (t : Tp) : List (List UInt8) × Int := if tapeMay t = true then (rblocks t.recs, 0) else ([], 1)
/-- A tape's label, and its number. -/
def cwho (t : Tp) : List UInt8 × Int × Int :=
  if (cblocks t).2 ≠ 0 then ([], 0, (cblocks t).2) else match (cblocks t).1 with | [] => ([], 0, 7) | b :: _ => lget b
def cfitsT (s : Ps) (name : List UInt8) (n : Int) (t : Tp) : Int × Int := if (cblocks t).2 ≠ 0 then (0, (cblocks t).2) else sone s name n (cblocks t).1
def hasT (name : List UInt8) (n : Int) (t : Tp) : Bool := (cwho t).2.2 == 0 && ((cwho t).1 == name && (cwho t).2.1 == n)
/-- The places of those that are so. -/
def placesT (p : Tp → Bool) : Nat → List Tp → List Nat
  | _, [] => []
  | i, t :: l => if p t = true then i :: placesT p (i + 1) l else placesT p (i + 1) l
def cfind (l : List Tp) (name : List UInt8) (n : Int) : List Nat := placesT (hasT name n) 0 l
def cnextT (s : Ps) (name : List UInt8) (n : Int) (l : List Tp) : Int :=
  if psMay s = false then -1 else match placesT (fun t => (cfitsT s name n t).2 == 0) 0 l with | [] => -1 | i :: _ => (i : Int)
theorem places_mem {p : Tp → Bool} : ∀ (l : List Tp) (i k : Nat), k ∈ placesT p i l ↔ i ≤ k ∧ ∃ t, l[k - i]? = some t ∧ p t = true
  | [], i, k => by simp [placesT]
  | t :: l, i, k => by
    have ih := places_mem (p := p) l (i + 1) k
    have key : (i + 1 ≤ k ∧ ∃ u, l[k - (i + 1)]? = some u ∧ p u = true) ↔ i < k ∧ ∃ u, (t :: l)[k - i]? = some u ∧ p u = true := by
      constructor
      · rintro ⟨h1, u, h2, h3⟩
        refine ⟨h1, u, ?_, h3⟩
        rw [show k - i = (k - (i + 1)) + 1 by omega, List.getElem?_cons_succ]; exact h2
      · rintro ⟨h1, u, h2, h3⟩
        refine ⟨h1, u, ?_, h3⟩
        rw [show k - i = (k - (i + 1)) + 1 by omega, List.getElem?_cons_succ] at h2; exact h2
    unfold placesT
    split
    · rename_i hp
      rw [List.mem_cons, ih, key]
      constructor
      · rintro (rfl | ⟨h1, h2⟩)
        · exact ⟨Nat.le_refl _, t, by simp, hp⟩
        · exact ⟨by omega, h2⟩
      · rintro ⟨h1, h2⟩
        by_cases hk : k = i
        · exact .inl hk
        · exact .inr ⟨by omega, h2⟩
    · rename_i hp
      rw [ih, key]
      constructor
      · rintro ⟨h1, h2⟩; exact ⟨by omega, h2⟩
      · rintro ⟨h1, u, h2, h3⟩
        by_cases hk : k = i
        · subst hk
          simp at h2
          subst h2
          exact absurd h3 hp
        · exact ⟨by omega, u, h2, h3⟩
theorem places_pair {p : Tp → Bool} : ∀ (l : List Tp) (i : Nat), (placesT p i l).Pairwise (· < ·)
  | [], i => List.Pairwise.nil
  | t :: l, i => by
    unfold placesT
    split
    · refine List.pairwise_cons.2 ⟨fun k hk => ?_, places_pair l (i + 1)⟩
      have := ((places_mem l (i + 1) k).1 hk).1
      omega
    · exact places_pair l (i + 1)
theorem places_count {p : Tp → Bool} : ∀ (l : List Tp) (i : Nat), (placesT p i l).length = l.countP p
  | [], i => rfl
  | t :: l, i => by
    unfold placesT
    rw [List.countP_cons]
    split
    · rename_i hp
      rw [List.length_cons, places_count l (i + 1)]
    · rename_i hp
      rw [places_count l (i + 1)]; rfl
/-- What is found. -/
theorem find_spec (l : List Tp) (name : List UInt8) (n : Int) : (∀ k, k ∈ cfind l name n ↔ ∃ t, l[k]? = some t ∧ hasT name n t = true) ∧ (cfind l name n).Pairwise (· < ·) ∧ (cfind (l ++ l) name n).length = 2 * (cfind l name n).length := by
  refine ⟨fun k => ?_, places_pair l 0, ?_⟩
  · have := places_mem (p := hasT name n) l 0 k
    unfold cfind
    rw [this]
    simp
  · unfold cfind
    rw [places_count, places_count, List.countP_append]; omega
/-- What fits has the label and the number. -/
theorem fits_has {s : Ps} {name : List UInt8} {n : Int} {t : Tp} (h : (cfitsT s name n t).2 = 0) : hasT name n t = true := by
  unfold cfitsT at h
  unfold hasT cwho
  by_cases h1 : (cblocks t).2 ≠ 0
  · rw [if_pos h1] at h; exact absurd h h1
  · rw [if_neg h1] at h ⊢
    unfold sone at h
    split at h
    · cases h
    · split at h
      · cases h
      · cases hb : (cblocks t).1 with
        | nil => rw [hb] at h; cases h
        | cons b rest =>
          rw [hb] at h
          dsimp only at h ⊢
          split at h
          · cases h
          · rename_i hc
            have e1 : (lget b).2.2 = 0 := by
              apply Classical.byContradiction; intro q; exact hc (.inl q)
            have e2 : (lget b).1 = name := by
              apply Classical.byContradiction; intro q; exact hc (.inr (.inl q))
            have e3 : (lget b).2.1 = n := by
              apply Classical.byContradiction; intro q; exact hc (.inr (.inr q))
            rw [e1, e2, e3]; simp
/-- The next tape. -/
theorem next_spec (s : Ps) (name : List UInt8) (n : Int) (l : List Tp) : (cnextT s name n l = -1 ∧ ∀ (k : Nat) (t : Tp), l[k]? = some t → (cfitsT s name n t).2 ≠ 0) ∨
    ∃ (i : Nat) (t : Tp), cnextT s name n l = ((i : Nat) : Int) ∧ l[i]? = some t ∧ (cfitsT s name n t).2 = 0 ∧ i ∈ cfind l name n ∧ ∀ (k : Nat) (u : Tp), l[k]? = some u → (cfitsT s name n u).2 = 0 → i ≤ k := by
  unfold cnextT
  cases hm : psMay s with
  | false =>
    rw [if_pos rfl]
    refine .inl ⟨rfl, fun k t _ => ?_⟩
    unfold cfitsT
    split
    · assumption
    · unfold sone
      rw [hm, if_pos rfl]; decide
  | true =>
    rw [if_neg (by decide)]
    have hmem := places_mem (p := fun t => (cfitsT s name n t).2 == 0) l 0
    have hpair := places_pair (p := fun t => (cfitsT s name n t).2 == 0) l 0
    cases hp : placesT (fun t => (cfitsT s name n t).2 == 0) 0 l with
    | nil =>
      refine .inl ⟨rfl, fun k t hk h0 => ?_⟩
      have := (hmem k).2 ⟨Nat.zero_le _, t, by simpa using hk, by simpa using h0⟩
      rw [hp] at this
      cases this
    | cons i r =>
      rw [hp] at hmem hpair
      obtain ⟨_, t, h1, h2⟩ := (hmem i).1 List.mem_cons_self
      have h1 : l[i]? = some t := by simpa using h1
      have h2 : (cfitsT s name n t).2 = 0 := by simpa using h2
      refine .inr ⟨i, t, rfl, h1, h2, (find_spec l name n).1 i |>.2 ⟨t, h1, fits_has h2⟩, fun k u hk hu => ?_⟩
      have := (hmem k).2 ⟨Nat.zero_le _, u, by simpa using hk, by simpa using hu⟩
      rcases List.mem_cons.1 this with rfl | this
      · exact Nat.le_refl _
      · exact Nat.le_of_lt ((List.pairwise_cons.1 hpair).1 k this)
theorem chunk_ne {r : List UInt8} (h : recMay r = true) : ∃ b bs, chunkN 512 r = b :: bs := by
  unfold recMay at h
  simp only [Bool.and_eq_true, decide_eq_true_eq, beq_iff_eq] at h
  have hr : r ≠ [] := by rintro rfl; simp at h
  exact ⟨_, _, chunkN_cons (by decide) hr⟩
/-- A tape without its last records. -/
theorem cut_spec {t : Tp} (ht : tapeMay t = true) {k : Nat} (hk : k ≤ t.recs.length) : (cblocks t).2 = 0 ∧ (cblocks { t with recs := t.recs.take k }).2 = 0 ∧ (cblocks { t with recs := t.recs.take k }).1 <+: (cblocks t).1 ∧
    (k = 0 → (cwho { t with recs := t.recs.take k }).2.2 = 7) ∧ (0 < k → cwho { t with recs := t.recs.take k } = cwho t) := by
  have ht' := ht
  unfold tapeMay at ht'
  simp only [Bool.and_eq_true, decide_eq_true_eq, List.all_eq_true] at ht'
  have hx : tapeMay { t with recs := t.recs.take k } = true := by
    unfold tapeMay
    simp only [Bool.and_eq_true, decide_eq_true_eq, List.all_eq_true]
    exact ⟨ht'.1, ht'.2.1, by rw [List.length_take]; omega, fun r hr => ht'.2.2.2 r (List.mem_of_mem_take hr)⟩
  have e1 : cblocks t = (rblocks t.recs, 0) := by unfold cblocks; rw [if_pos ht]
  have e2 : cblocks { t with recs := t.recs.take k } = (rblocks (t.recs.take k), 0) := by unfold cblocks; rw [if_pos hx]
  have happ : rblocks t.recs = rblocks (t.recs.take k) ++ rblocks (t.recs.drop k) := by
    unfold rblocks
    rw [← List.flatten_append, ← List.map_append, List.take_append_drop]
  refine ⟨by rw [e1], by rw [e2], by rw [e1, e2]; exact ⟨_, happ.symm⟩, fun h0 => ?_, fun h0 => ?_⟩
  · subst h0
    unfold cwho
    rw [e2, if_neg (by simp), List.take_zero]
    rfl
  · cases hr : t.recs with
    | nil => rw [hr] at hk; simp at hk; omega
    | cons r rs =>
      obtain ⟨k, rfl⟩ : ∃ m, k = m + 1 := ⟨k - 1, by omega⟩
      obtain ⟨b, bs, hb⟩ := chunk_ne (ht'.2.2.2 r (by rw [hr]; exact List.mem_cons_self))
      unfold cwho
      rw [← hr, e1, e2, if_neg (by simp), if_neg (by simp), hr, List.take_succ_cons]
      show (match ((chunkN 512 r) :: ((rs.take k).map (chunkN 512))).flatten with | [] => ([], (0 : Int), (7 : Int)) | b :: _ => lget b) = (match ((chunkN 512 r) :: (rs.map (chunkN 512))).flatten with | [] => ([], (0 : Int), (7 : Int)) | b :: _ => lget b)
      rw [List.flatten_cons, List.flatten_cons, hb]
      rfl
end Go.Proofs.YtldhcknjpmbgnaaGreatDoor.Rk
