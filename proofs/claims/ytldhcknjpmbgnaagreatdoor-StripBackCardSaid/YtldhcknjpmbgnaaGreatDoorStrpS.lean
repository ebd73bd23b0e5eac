/- StrpS: StrpA StrpB StrpC -/
import Derived.Test.YtldhcknjpmbgnaaGreatDoorParS
/- Volumes as one stream again: plain Lean. -/
namespace Go.Proofs.YtldhcknjpmbgnaaGreatDoor.Rk
open Go.RowKit
set_option linter.unusedVariables false
set_option linter.unusedSimpArgs false
set_option maxRecDepth 100000

set_option maxRecDepth 100000 in
/-- What is put is got, whatever stands behind. -/
theorem cget_more {n : Nd} {off : Int} (h : cmay n off = true) (m : List (List UInt8)) : cget (cput n off ++ m) = some (bareN n, off, (n.data.length : Int), (cput n off).length) := by
  obtain ⟨h1, h2, h3, h4⟩ := cmay_iff.1 h
  obtain ⟨hk, ho⟩ := cfile_iff.1 h1
  have O := one_iff.1 ho
  have ho' := ho
  unfold one at ho'
  simp only [Bool.and_eq_true] at ho'
  obtain ⟨hkd, hpm, _⟩ := ho'
  have hd := kind_data hkd
  have hpl := pmay_len hpm
  have hpn := pmay_ne hpm
  have hpz := pmay_zero hpm
  have hF := contHd_fits O h2 (Int.le_of_lt h3) (by omega : (n.data.length : Int) ≤ 4000)
  have hR := contHd_R O h2 (Int.le_of_lt h3) (by omega : (n.data.length : Int) ≤ 4000)
  have hC : hget ((hput (contHd n off n.data.length)).getD []) = (contHd n off n.data.length, 0) := by
    rw [hput_fits hF]; exact hget_block _ hR hF
  have hfit : cfits (contHd n off n.data.length) n.path = true := by
    unfold cfits
    simp only [Bool.and_eq_true, decide_eq_true_eq, beq_iff_eq]
    exact ⟨hpm, bareN_one h1, by show (n.data.length : Int) ≤ 4000; omega, h3, h4⟩
  have hcp : cput n off = cputB n off n.data.length := by unfold cput; rw [if_pos h]
  have fin : ∀ (nm : List UInt8) (i : Nat), (if nm = [] then (contHd n off n.data.length).name else nm) = n.path → (cput n off ++ m).take i = cput n off → i = (cput n off).length →
      cfin (cput n off ++ m) nm (contHd n off n.data.length) true i = some (bareN n, off, (n.data.length : Int), (cput n off).length) := by
    intro nm i e1 e2 e3
    unfold cfin
    have h77 : (!true || (contHd n off n.data.length).ty != 77) = false := rfl
    rw [if_neg (by rw [h77]; decide), e1, if_pos ?_]
    · rw [e3]; rfl
    · rw [hfit, e2, hcp]
      show (true && (cputB (bareN n) off n.data.length == _)) = true
      rw [cputB_bare]; simp
  by_cases hl : 100 < n.path.length
  · have hlt : ltext n.path = true := ltext_iff.2 ⟨hpn, hpl, hpz⟩
    have hLF := longHd_fits (k := 76) (s := n.path) (.inr rfl) hpl
    have hLR := longHd_R (k := 76) (s := n.path) hpl
    have hL : hget ((hput (longHd 76 n.path)).getD []) = (longHd 76 n.path, 0) := by
      rw [hput_fits hLF]; exact hget_block _ hLR hLF
    have e : cput n off = [(hput (longHd 76 n.path)).getD [], padB (n.path ++ [0]), (hput (contHd n off n.data.length)).getD []] := by
      rw [hcp]
      unfold cputB
      rw [if_pos hl]
      unfold lputB
      rw [if_pos (by rw [hlt]; decide), Option.getD_some, cutB_short (by simp) (by rw [List.length_append]; simp; omega)]
      rfl
    have n0 : cnext (cput n off ++ m) 0 = (longHd 76 n.path, true) := by
      unfold cnext; rw [e]
      show ((hget ((hput (longHd 76 n.path)).getD [])).1, (hget ((hput (longHd 76 n.path)).getD [])).2 == 0) = _
      rw [hL]; rfl
    have n2 : cnext (cput n off ++ m) 2 = (contHd n off n.data.length, true) := by
      unfold cnext; rw [e]
      show ((hget ((hput (contHd n off n.data.length)).getD [])).1, (hget ((hput (contHd n off n.data.length)).getD [])).2 == 0) = _
      rw [hC]; rfl
    have n1 : (cput n off ++ m)[1]? = some (padB (n.path ++ [0])) := by rw [e]; rfl
    have hsz : (longHd 76 n.path).size = (n.path.length : Int) + 1 := rfl
    have hty : (longHd 76 n.path).ty = 76 := rfl
    unfold cget
    rw [n0, if_pos (show ((longHd 76 n.path, true).2 && (longHd 76 n.path, true).1.ty == 76) = true from rfl), n1, n2]
    show (if _ then none else _) = _
    rw [hsz, if_neg (by rw [padB_length]; omega)]
    have e5 : ((n.path.length : Int) + 1).toNat = (n.path ++ [0]).length := by rw [List.length_append, List.length_singleton]; omega
    rw [e5, padB_take (by rw [List.length_append, List.length_singleton]; omega), trimZ_snoc]
    exact fin n.path 3 (if_neg hpn) (by rw [e]; rfl) (by rw [e]; rfl)
  · have e : cput n off = [(hput (contHd n off n.data.length)).getD []] := by
      rw [hcp]
      unfold cputB
      rw [if_neg hl]; rfl
    have n0 : cnext (cput n off ++ m) 0 = (contHd n off n.data.length, true) := by
      unfold cnext; rw [e]
      show ((hget ((hput (contHd n off n.data.length)).getD [])).1, (hget ((hput (contHd n off n.data.length)).getD [])).2 == 0) = _
      rw [hC]; rfl
    have hty : (contHd n off n.data.length).ty = 77 := rfl
    unfold cget
    rw [n0, if_neg (show ¬ ((contHd n off n.data.length, true).2 && (contHd n off n.data.length, true).1.ty == 76) = true from fun h => Bool.false_ne_true h)]
    refine fin [] 1 ?_ (by rw [e]; rfl) (by rw [e]; rfl)
    rw [if_pos rfl]
    exact short_le (by omega)
theorem whereB_nonneg {t : List Nd} {i : Int} (h0 : 0 ≤ i) (h1 : i < (sall t).length) : 0 ≤ (whereB t i).1 := by
  have key : whereB t i = (if idxOf i (starts t) - 1 < 0 then ((t.length : Int), (-1 : Int)) else match t[(idxOf i (starts t) - 1).toNat]? with
        | some n => (idxOf i (starts t) - 1, max (-1) (i - ((starts t).getD ((idxOf i (starts t) - 1).toNat + 1) 0 : Nat) + (edata n : Nat)))
        | none => (idxOf i (starts t) - 1, -1)) := by unfold whereB; rw [if_neg (by omega)]; rfl
  rw [key]
  by_cases h2 : idxOf i (starts t) - 1 < 0
  · rw [if_pos h2]
    show (0 : Int) ≤ t.length
    omega
  · rw [if_neg h2]
    cases t[(idxOf i (starts t) - 1).toNat]? with
    | none => show (0 : Int) ≤ idxOf i (starts t) - 1; omega
    | some n => show (0 : Int) ≤ idxOf i (starts t) - 1; omega
theorem begin_ok {t : List Nd} {s : St} {pos n : Int} {b : List (List UInt8)} (h : vbeginO t s pos n = some b) :
    ∃ blk rest, b = blk :: rest ∧ lget blk = (s.label, n, 0) ∧ 0 ≤ (whereB t pos).1 ∧ (((whereB t pos).2 = -1 ∧ rest = []) ∨
      ∃ (k j : Nat) (nd : Nd), whereB t pos = ((k : Int), (j : Int)) ∧ t[k]? = some nd ∧ cmay nd (512 * (j : Int)) = true ∧ rest = cput nd (512 * (j : Int))) := by
  unfold vbeginO at h
  split at h
  · unfold vbegin at h
    split at h
    · rename_i h1
      injection h with h
      obtain ⟨h2, h3, h4⟩ := h1
      obtain ⟨blk, hblk⟩ := Option.isSome_iff_exists.1 h2
      refine ⟨blk, _, (by rw [← h]; unfold vbeg; rw [hblk, Option.getD_some]), lget_put hblk, whereB_nonneg h3 h4, ?_⟩
      by_cases hw : (whereB t pos).2 = -1
      · exact .inl ⟨hw, by rw [if_pos hw]⟩
      · obtain ⟨k, j, nd, e1, e2, e3⟩ := whereB_may hw
        refine .inr ⟨k, j, nd, e1, e2, e3, ?_⟩
        rw [if_neg hw, e1]
        simp only [Int.toNat_natCast]
        rw [e2]
    · cases h
  · cases h
/-! ### Run -/
theorem prun_steps {s t : Ps} {l : List (List UInt8)} {e : List Ev} (h : Steps s l t e) : prun s l = (t, e, l.length, 0) := by
  induction h with
  | nil s => rfl
  | @cons s t u b l e f h k ih =>
    unfold prun
    rw [h]
    dsimp only
    by_cases h5 : t.phase = 5
    · rw [if_pos h5]
      cases k with
      | nil => simp
      | cons k1 _ => exact absurd h5 (step_live k1).2
    · rw [if_neg h5, ih]
      simp
/-- What stands behind the end is not taken. -/
theorem prun_more {s t : Ps} {l : List (List UInt8)} {e : List Ev} (h : Steps s l t e) (h5 : t.phase = 5) (hl : l ≠ []) (m : List (List UInt8)) : prun s (l ++ m) = (t, e, l.length, 0) := by
  induction h with
  | nil s => exact absurd rfl hl
  | @cons s t u b l e f h k ih =>
    rw [List.cons_append]
    unfold prun
    rw [h]
    dsimp only
    by_cases h6 : t.phase = 5
    · rw [if_pos h6]
      cases k with
      | nil => simp
      | cons k1 _ => exact absurd h6 (step_live k1).2
    · rw [if_neg h6]
      have hl2 : l ≠ [] := by
        rintro rfl
        cases k
        exact h6 h5
      rw [ih h5 hl2]
      simp

/-! ### strip -/
/-- How many blocks of a volume are not the stream's; why not. -/
def sone (s : Ps) (name : List UInt8) (n : Int) (v : List (List UInt8)) : Int × Int :=
  if psMay s = false then (0, 1)
  else if s.phase = 5 then (0, 17)
  else match v with
    | [] => (0, 7)
    | b :: rest =>
      if (lget b).2.2 ≠ 0 ∨ (lget b).1 ≠ name ∨ (lget b).2.1 ≠ n then (0, 11)
      else if s.phase ≠ 3 then (1, 0)
      else match cget rest with
        | none => (0, 12)
        | some (who, off, whole, used) => if neq who s.node = false ∨ off ≠ s.size - s.left ∨ whole ≠ s.size then (0, 12) else (1 + (used : Int), 0)
/-- Volumes, one behind the other. -/
def sloop (name : List UInt8) : Ps → Nat → List (List (List UInt8)) → Ps × List (List UInt8) × Int
  | s, _, [] => (s, [], 0)
  | s, i, v :: vs =>
    if (sone s name ((i + 1 : Nat) : Int) v).2 ≠ 0 then (s, [], (sone s name ((i + 1 : Nat) : Int) v).2)
    else
      let r := prun s (v.drop (sone s name ((i + 1 : Nat) : Int) v).1.toNat)
      let out := (v.drop (sone s name ((i + 1 : Nat) : Int) v).1.toNat).take r.2.2.1
      if r.2.2.2 ≠ 0 then (r.1, out, r.2.2.2)
      else if r.1.phase = 5 then (r.1, out, 0)
      else let q := sloop name r.1 (i + 1) vs; (q.1, out ++ q.2.1, q.2.2)
/-- The state, the stream, why not. -/
def sstrip (name : List UInt8) (vols : List (List (List UInt8))) : Ps × List (List UInt8) × Int :=
  let r := sloop name ps0 0 vols
  let why := if r.2.2 = 0 ∧ r.1.phase ≠ 5 then 7 else r.2.2
  (r.1, if why ≠ 0 then [] else r.2.1, why)
theorem sloop_step {name : List UInt8} {s t : Ps} {i : Nat} {v : List (List UInt8)} {vs : List (List (List UInt8))} {k used : Nat} {ev : List Ev} (h1 : sone s name ((i + 1 : Nat) : Int) v = ((k : Int), 0)) (h2 : prun s (v.drop k) = (t, ev, used, 0)) :
    sloop name s i (v :: vs) = if t.phase = 5 then (t, (v.drop k).take used, 0) else ((sloop name t (i + 1) vs).1, (v.drop k).take used ++ (sloop name t (i + 1) vs).2.1, (sloop name t (i + 1) vs).2.2) := by
  rw [sloop, h1]
  dsimp only
  rw [if_neg (by simp), Int.toNat_natCast, h2]
  dsimp only
  rw [if_neg (by simp)]
theorem sloop_append {name : List UInt8} : ∀ (vs ws : List (List (List UInt8))) (s : Ps) (i : Nat), (sloop name s i vs).2.2 = 0 → ((sloop name s i vs).1.phase ≠ 5 ∨ vs = []) →
    sloop name s i (vs ++ ws) = ((sloop name (sloop name s i vs).1 (i + vs.length) ws).1, (sloop name s i vs).2.1 ++ (sloop name (sloop name s i vs).1 (i + vs.length) ws).2.1, (sloop name (sloop name s i vs).1 (i + vs.length) ws).2.2)
  | [], ws, s, i, _, _ => by simp [sloop]
  | v :: vs, ws, s, i, h0, h5 => by
    rw [List.cons_append]
    rw [sloop] at h0 h5 ⊢
    rw [sloop]
    by_cases c1 : (sone s name ((i + 1 : Nat) : Int) v).2 ≠ 0
    · rw [if_pos c1] at h0; exact absurd h0 c1
    · rw [if_neg c1] at h0 h5 ⊢
      rw [if_neg c1]
      dsimp only at h0 h5 ⊢
      by_cases c2 : (prun s (v.drop (sone s name ((i + 1 : Nat) : Int) v).1.toNat)).2.2.2 ≠ 0
      · rw [if_pos c2] at h0; exact absurd h0 c2
      · rw [if_neg c2] at h0 h5 ⊢
        rw [if_neg c2]
        by_cases c3 : (prun s (v.drop (sone s name ((i + 1 : Nat) : Int) v).1.toNat)).1.phase = 5
        · rw [if_pos c3] at h5
          rcases h5 with h5 | h5
          · exact absurd c3 h5
          · cases h5
        · rw [if_neg c3] at h0 h5 ⊢
          rw [if_neg c3]
          dsimp only at h0 h5 ⊢
          by_cases hv : vs = []
          · subst hv
            simp [sloop]
          · have ih := sloop_append vs ws (prun s (v.drop (sone s name ((i + 1 : Nat) : Int) v).1.toNat)).1 (i + 1) h0 (.inl (by rcases h5 with h5 | h5; exact h5; cases h5))
            rw [ih]
            dsimp only
            rw [show i + (v :: vs).length = i + 1 + vs.length by simp; omega, List.append_assoc]

/-! ### the volumes of a tree -/
/-- The label, and what goes on, are what they should be. -/
theorem sone_own {t : List Nd} {s : St} (h1 : tmay t = true) {pos n : Nat} {b m : List (List UInt8)} (hb : vbeginO t s (pos : Int) (n : Int) = some b) (hp : pos < (sall t).length) {st : Ps} {e : List Ev} (hst : Steps ps0 ((sall t).take pos) st e) :
    sone st s.label (n : Int) (b ++ m) = ((b.length : Int), 0) := by
  obtain ⟨st', e', a1, a2, a3, a4⟩ := where_state h1 hp
  obtain ⟨rfl, -⟩ := Steps.det hst a1
  obtain ⟨blk, rest, rfl, b1, b2, b3⟩ := begin_ok hb
  unfold sone
  rw [if_neg (by rw [a2]; simp), if_neg a3, List.cons_append]
  dsimp only
  rw [b1, if_neg (by simp)]
  rcases a4 with ⟨c1, c2⟩ | ⟨k, j, nd, c1, c2, c3, c4⟩
  · rw [if_pos c2]
    rcases b3 with ⟨-, rfl⟩ | ⟨k', j', nd', d1, _⟩
    · rfl
    · rw [d1] at c1
      have c1 : (j' : Int) = -1 := c1
      omega
  · rw [c4, if_neg (show ¬ (sD (bareN nd) nd.data.length ((nd.data.length : Int) - 512 * (j : Int))).phase ≠ 3 from fun h => h rfl)]
    rcases b3 with ⟨d1, -⟩ | ⟨k', j', nd', d1, d2, d3, rfl⟩
    · rw [c1] at d1
      have d1 : (j : Int) = -1 := d1
      omega
    · rw [c1] at d1
      injection d1 with d1 d4
      obtain rfl : k = k' := by omega
      obtain rfl : j = j' := by omega
      rw [c2] at d2
      injection d2 with d2
      subst d2
      rw [cget_more c3]
      dsimp only
      rw [if_neg ?_]
      · rw [List.length_cons]; congr 1; omega
      · show ¬ (neq (bareN nd) (bareN nd) = false ∨ 512 * (j : Int) ≠ (nd.data.length : Int) - ((nd.data.length : Int) - 512 * (j : Int)) ∨ (nd.data.length : Int) ≠ nd.data.length)
        rw [neq_iff.2 rfl]
        simp
        omega
end Go.Proofs.YtldhcknjpmbgnaaGreatDoor.Rk
/- The volumes of a tree, as one stream again: plain Lean. -/
namespace Go.Proofs.YtldhcknjpmbgnaaGreatDoor.Rk
open Go.RowKit
set_option linter.unusedVariables false
set_option linter.unusedSimpArgs false
set_option maxRecDepth 100000

/-- A volume behind its beginning: a piece of the stream, and what fills the last record. -/
theorem vol_piece {all v : List (List UInt8)} {q bl : Nat} (h1 : bl ≤ v.length) (h : ∀ k, bl ≤ k → k < v.length → ∃ x, v[k]? = some x ∧ if q + (k - bl) < all.length then all[q + (k - bl)]? = some x else x = zeros 512) :
    v.drop bl = (all.drop q).take (v.length - bl) ++ (v.drop bl).drop (all.length - q) := by
  have e : (v.drop bl).take (all.length - q) = (all.drop q).take (v.length - bl) := by
    apply List.ext_getElem?
    intro i
    rw [List.getElem?_take, List.getElem?_take, List.getElem?_drop, List.getElem?_drop]
    by_cases c1 : i < all.length - q
    · rw [if_pos c1]
      by_cases c2 : i < v.length - bl
      · rw [if_pos c2]
        obtain ⟨x, h2, h3⟩ := h (bl + i) (by omega) (by omega)
        rw [show bl + i - bl = i by omega, if_pos (by omega)] at h3
        rw [h2, h3]
      · rw [if_neg c2]
        exact List.getElem?_eq_none_iff.2 (by omega)
    · rw [if_neg c1]
      by_cases c2 : i < v.length - bl
      · rw [if_pos c2]
        exact (List.getElem?_eq_none_iff.2 (by omega)).symm
      · rw [if_neg c2]
  rw [← e, List.take_append_drop]
theorem steps_to {t : List Nd} (h : tmay t = true) (q : Nat) : ∃ s e, Steps ps0 ((sall t).take q) s e := by
  obtain ⟨s, e, f, h1, h2, -⟩ := Steps.split (l := (sall t).take q) (m := (sall t).drop q) (by rw [List.take_append_drop]; exact steps_sall h)
  exact ⟨s, e, h1⟩
theorem begin_lt {t : List Nd} {s : St} {pos : Nat} {n : Int} {b : List (List UInt8)} (h : vbeginO t s (pos : Int) n = some b) : pos < (sall t).length := by
  unfold vbeginO at h
  split at h
  · unfold vbegin at h
    split at h
    · rename_i h1; omega
    · cases h
  · cases h
/-- What the first volumes leave. -/
theorem sloop_vols {t : List Nd} {s : St} {l : List (List (List UInt8))} {P : Nat → Nat} (h1 : tmay t = true) (P0 : P 0 = 0)
    (hP : ∀ j v, l[j]? = some v → ∃ b, vbeginO t s (P j) (j + 1 : Nat) = some b ∧ 1 ≤ b.length ∧ b.length < v.length ∧ v.length ≤ 4000 ∧ v.take b.length = b ∧ AllB v ∧
        (∀ k, b.length ≤ k → k < v.length → ∃ x, v[k]? = some x ∧ if P j + (k - b.length) < (sall t).length then (sall t)[P j + (k - b.length)]? = some x else x = zeros 512) ∧ P (j + 1) = P j + (v.length - b.length)) :
    ∀ k, k ≤ l.length → ∃ st ev, Steps ps0 ((sall t).take (P k)) st ev ∧ sloop s.label ps0 0 (l.take k) = (st, (sall t).take (P k), 0)
  | 0, _ => ⟨ps0, [], by rw [P0]; exact Steps.nil _, by rw [P0]; rfl⟩
  | k + 1, hk => by
    obtain ⟨st, ev, a1, a2⟩ := sloop_vols h1 P0 hP k (by omega)
    obtain ⟨v, hv⟩ : ∃ v, l[k]? = some v := ⟨_, List.getElem?_eq_getElem (by omega)⟩
    obtain ⟨b, b1, b2, b3, b4, b5, b6, b7, b8⟩ := hP k v hv
    have hlt := begin_lt b1
    obtain ⟨st', e', c1, c2, c3, -⟩ := where_state h1 hlt
    obtain ⟨rfl, -⟩ := Steps.det a1 c1
    have hvb : v = b ++ v.drop b.length := by
      have := List.take_append_drop b.length v
      rw [b5] at this; exact this.symm
    have hpc := vol_piece (Nat.le_of_lt b3) b7
    have hone : sone st s.label ((k + 1 : Nat) : Int) v = ((b.length : Int), 0) := by
      have := sone_own (m := v.drop b.length) h1 b1 hlt a1
      rw [← hvb] at this; exact this
    obtain ⟨u, f, d1⟩ := steps_to h1 (P (k + 1))
    have hspl : (sall t).take (P (k + 1)) = (sall t).take (P k) ++ ((sall t).drop (P k)).take (v.length - b.length) := by
      rw [b8, List.take_add]
    obtain ⟨st2, e2, f2, g1, g2, -⟩ := Steps.split (by rw [← hspl]; exact d1)
    obtain ⟨rfl, -⟩ := Steps.det a1 g1
    have hrun : ∃ ev2, prun st (v.drop b.length) = (u, ev2, (((sall t).drop (P k)).take (v.length - b.length)).length, 0) := by
      by_cases hq : P (k + 1) ≤ (sall t).length
      · have hz : (v.drop b.length).drop ((sall t).length - P k) = [] := List.drop_eq_nil_of_le (by rw [List.length_drop]; omega)
        rw [hz, List.append_nil] at hpc
        rw [hpc]
        exact ⟨_, prun_steps g2⟩
      · have h5 : u = sZ 5 := by
          have : (sall t).take (P (k + 1)) = sall t := List.take_of_length_le (by omega)
          rw [this] at d1
          exact (Steps.det d1 (steps_sall h1)).1
        rw [hpc]
        refine ⟨_, prun_more g2 (by rw [h5]; rfl) ?_ _⟩
        intro e0
        have := congrArg List.length e0
        rw [List.length_take, List.length_drop] at this
        simp at this
        omega
    obtain ⟨ev2, hrun⟩ := hrun
    have hout : (v.drop b.length).take (((sall t).drop (P k)).take (v.length - b.length)).length = ((sall t).drop (P k)).take (v.length - b.length) := by
      conv => lhs; rw [hpc]
      rw [List.take_left]
    have hone' := sloop_step (vs := []) hone hrun
    have hres : sloop s.label st k [v] = (u, ((sall t).drop (P k)).take (v.length - b.length), 0) := by
      rw [hone', hout]
      by_cases h5 : u.phase = 5
      · rw [if_pos h5]
      · rw [if_neg h5]; simp [sloop]
    refine ⟨u, f, d1, ?_⟩
    have htk : l.take (k + 1) = l.take k ++ [v] := by
      rw [List.take_succ_eq_append_getElem (by omega), (List.getElem?_eq_some_iff.1 hv).2]
    rw [htk, sloop_append (l.take k) [v] ps0 0 (by rw [a2]) (by rw [a2]; exact .inl c3), a2]
    dsimp only
    rw [show 0 + (l.take k).length = k by rw [List.length_take]; omega, hres, hspl]
theorem sloop_stop {name : List UInt8} : ∀ (vs ws : List (List (List UInt8))) (s : Ps) (i : Nat), s.phase ≠ 5 → (sloop name s i vs).2.2 = 0 → (sloop name s i vs).1.phase = 5 → sloop name s i (vs ++ ws) = sloop name s i vs
  | [], ws, s, i, hs, _, h5 => absurd h5 hs
  | v :: vs, ws, s, i, hs, h0, h5 => by
    rw [List.cons_append]
    rw [sloop] at h0 h5 ⊢
    rw [sloop]
    by_cases c1 : (sone s name ((i + 1 : Nat) : Int) v).2 ≠ 0
    · rw [if_pos c1] at h0; exact absurd h0 c1
    · rw [if_neg c1] at h0 h5 ⊢
      rw [if_neg c1]
      dsimp only at h0 h5 ⊢
      by_cases c2 : (prun s (v.drop (sone s name ((i + 1 : Nat) : Int) v).1.toNat)).2.2.2 ≠ 0
      · rw [if_pos c2] at h0; exact absurd h0 c2
      · rw [if_neg c2] at h0 h5 ⊢
        rw [if_neg c2]
        by_cases c3 : (prun s (v.drop (sone s name ((i + 1 : Nat) : Int) v).1.toNat)).1.phase = 5
        · rw [if_pos c3, if_pos c3]
        · rw [if_neg c3] at h0 h5 ⊢
          rw [if_neg c3]
          dsimp only at h0 h5 ⊢
          rw [sloop_stop vs ws _ (i + 1) c3 h0 h5]

/-! ### what the laws ask -/
/-- Of the first volumes there are too few. -/
theorem strip_few {t : List Nd} {s : St} {l : List (List (List UInt8))} {e : Int} (h : vsplit t s = (l, e)) (he : e ≠ 1) {k : Nat} (hk : k ≤ l.length) (hno : ¬ (e = 0 ∧ k = l.length)) :
    ∃ st, sstrip s.label (l.take k) = (st, [], 7) ∧ psMay st = true ∧ st.phase ≠ 5 := by
  obtain ⟨h1, h2, h12, P, P0, PB, PE, PV⟩ := (stream_ok h).2 he
  obtain ⟨st, ev, a1, a2⟩ := sloop_vols h1 P0 PV k hk
  have hlt : P k < (sall t).length := by
    by_cases hkl : k < l.length
    · obtain ⟨v, hv⟩ : ∃ v, l[k]? = some v := ⟨_, List.getElem?_eq_getElem hkl⟩
      obtain ⟨b, b1, _⟩ := PV k v hv
      exact begin_lt b1
    · have hkk : k = l.length := by omega
      subst hkk
      have h0 : ¬ e = 0 := fun h0 => hno ⟨h0, rfl⟩
      have : ¬ (sall t).length ≤ P l.length := fun h3 => by
        rw [decide_eq_false h0, decide_eq_true h3] at PE; cases PE
      omega
  obtain ⟨st', e', c1, c2, c3, -⟩ := where_state h1 hlt
  obtain ⟨rfl, -⟩ := Steps.det a1 c1
  refine ⟨st, ?_, c2, c3⟩
  unfold sstrip
  rw [a2]
  dsimp only
  have e7 : (if (0 : Int) = 0 ∧ st.phase ≠ 5 then (7 : Int) else 0) = 7 := if_pos ⟨rfl, c3⟩
  rw [e7, if_pos (by decide)]
/-- What the first volumes leave. -/
theorem strip_left {t : List Nd} {s : St} {l : List (List (List UInt8))} {e : Int} (h : vsplit t s = (l, e)) (he : e ≠ 1) : ∃ P : Nat → Nat, P 0 = 0 ∧ (∀ j v, l[j]? = some v → ∃ b, vbeginO t s (P j) (j + 1 : Nat) = some b ∧ b.length < v.length ∧ P (j + 1) = P j + (v.length - b.length)) ∧
    ∀ k, k ≤ l.length → ∃ st ev, Steps ps0 ((sall t).take (P k)) st ev ∧ (sstrip s.label (l.take k)).1 = st := by
  obtain ⟨h1, h2, h12, P, P0, PB, PE, PV⟩ := (stream_ok h).2 he
  refine ⟨P, P0, fun j v hv => ?_, fun k hk => ?_⟩
  · obtain ⟨b, b1, b2, b3, _, _, _, _, b8⟩ := PV j v hv
    exact ⟨b, b1, b3, b8⟩
  · obtain ⟨st, ev, a1, a2⟩ := sloop_vols h1 P0 PV k hk
    exact ⟨st, ev, a1, by unfold sstrip; rw [a2]⟩
/-- All volumes are the stream again, whatever stands behind. -/
theorem strip_all {t : List Nd} {s : St} {l : List (List (List UInt8))} (h : vsplit t s = (l, 0)) (more : List (List (List UInt8))) : sstrip s.label (l ++ more) = (sZ 5, sall t, 0) := by
  obtain ⟨h1, h2, h12, P, P0, PB, PE, PV⟩ := (stream_ok h).2 (by decide)
  obtain ⟨st, ev, a1, a2⟩ := sloop_vols h1 P0 PV l.length (Nat.le_refl _)
  have hle : (sall t).length ≤ P l.length := by
    by_cases h3 : (sall t).length ≤ P l.length
    · exact h3
    · rw [decide_eq_false h3] at PE; exact absurd PE (by decide)
  rw [List.take_length] at a2
  rw [List.take_of_length_le hle] at a1 a2
  obtain ⟨rfl, -⟩ := Steps.det a1 (steps_sall h1)
  have h5 : (sloop s.label ps0 0 l).1.phase = 5 := by rw [a2]; rfl
  have hstop := sloop_stop l more ps0 0 (by decide) (by rw [a2]) h5
  unfold sstrip
  rw [hstop, a2]
  dsimp only
  have e0 : (if (0 : Int) = 0 ∧ (sZ 5).phase ≠ 5 then (7 : Int) else 0) = 0 := if_neg (fun h => h.2 rfl)
  rw [e0, if_neg (by decide)]
/-- What a volume says of itself. -/
theorem vol_label {t : List Nd} {s : St} {l : List (List (List UInt8))} {e : Int} (h : vsplit t s = (l, e)) {j : Nat} {v : List (List UInt8)} (hv : l[j]? = some v) : ∃ blk rest, v = blk :: rest ∧ lget blk = (s.label, ((j + 1 : Nat) : Int), 0) := by
  have he : e ≠ 1 := by
    rintro rfl
    have := (stream_ok h).1 rfl
    have := (List.getElem?_eq_some_iff.1 hv).1
    omega
  obtain ⟨h1, h2, h12, P, P0, PB, PE, PV⟩ := (stream_ok h).2 he
  obtain ⟨b, b1, _, _, _, b5, _⟩ := PV j v hv
  obtain ⟨blk, rest, rfl, c1, -⟩ := begin_ok b1
  have hvb : v = (blk :: rest) ++ v.drop (blk :: rest).length := by
    have := List.take_append_drop (blk :: rest).length v
    rw [b5] at this; exact this.symm
  exact ⟨blk, rest ++ v.drop (blk :: rest).length, hvb, c1⟩
/-- No other volume goes in the place of the next one. -/
theorem strip_other {t : List Nd} {s : St} {l : List (List (List UInt8))} {e : Int} (h : vsplit t s = (l, e)) (he : e ≠ 1) {k i : Nat} {v w : List (List UInt8)} (hk : l[k]? = some v) (hi : l[i]? = some w) (name : List UInt8) :
    ∃ b : Nat, (1 ≤ b ∧ sone (sstrip s.label (l.take k)).1 s.label ((k + 1 : Nat) : Int) v = ((b : Int), 0)) ∧ (i ≠ k → sone (sstrip s.label (l.take k)).1 s.label ((k + 1 : Nat) : Int) w = (0, 11)) ∧
      (name ≠ s.label → sone (sstrip s.label (l.take k)).1 name ((k + 1 : Nat) : Int) v = (0, 11)) := by
  obtain ⟨h1, h2, h12, P, P0, PB, PE, PV⟩ := (stream_ok h).2 he
  obtain ⟨st, ev, a1, a2⟩ := sloop_vols h1 P0 PV k (Nat.le_of_lt (List.getElem?_eq_some_iff.1 hk).1)
  have hst : (sstrip s.label (l.take k)).1 = st := by unfold sstrip; rw [a2]
  obtain ⟨b, b1, b2, b3, b4, b5, b6, b7, b8⟩ := PV k v hk
  have hlt := begin_lt b1
  obtain ⟨st', e', c1, c2, c3, -⟩ := where_state h1 hlt
  obtain ⟨rfl, -⟩ := Steps.det a1 c1
  rw [hst]
  have hvb : v = b ++ v.drop b.length := by
    have := List.take_append_drop b.length v
    rw [b5] at this; exact this.symm
  have hone : sone st s.label ((k + 1 : Nat) : Int) v = ((b.length : Int), 0) := by
    have := sone_own (m := v.drop b.length) h1 b1 hlt a1
    rw [← hvb] at this; exact this
  have bad : ∀ (nm : List UInt8) (u : List (List UInt8)) (blk : List UInt8) (rest : List (List UInt8)), u = blk :: rest → ((lget blk).1 ≠ nm ∨ (lget blk).2.1 ≠ ((k + 1 : Nat) : Int)) → sone st nm ((k + 1 : Nat) : Int) u = (0, 11) := by
    intro nm u blk rest hu hb
    unfold sone
    rw [if_neg (by rw [c2]; simp), if_neg c3, hu]
    dsimp only
    rw [if_pos (.inr hb)]
  refine ⟨b.length, ⟨b2, hone⟩, fun hik => ?_, fun hn => ?_⟩
  · obtain ⟨blk, rest, d1, d2⟩ := vol_label h hi
    refine bad _ _ _ _ d1 (.inr ?_)
    rw [d2]
    show ((i + 1 : Nat) : Int) ≠ ((k + 1 : Nat) : Int)
    omega
  · obtain ⟨blk, rest, d1, d2⟩ := vol_label h hk
    refine bad _ _ _ _ d1 (.inl ?_)
    rw [d2]
    exact fun e => hn e.symm
end Go.Proofs.YtldhcknjpmbgnaaGreatDoor.Rk
/- Volumes that are spoilt; what is told, gathered: plain Lean. -/
namespace Go.Proofs.YtldhcknjpmbgnaaGreatDoor.Rk
open Go.RowKit
set_option linter.unusedVariables false
set_option linter.unusedSimpArgs false
set_option maxRecDepth 100000

theorem cget_spec {l : List (List UInt8)} {n : Nd} {off whole : Int} {used : Nat} (h : cget l = some (n, off, whole, used)) : cputB n off whole = l.take used := by
  have fin : ∀ (nm : List UInt8) (hd : Hd) (is : Bool) (i : Nat), cfin l nm hd is i = some (n, off, whole, used) → cputB n off whole = l.take used := by
    intro nm hd is i h
    unfold cfin at h
    split at h
    · cases h
    · generalize (if nm = [] then hd.name else nm) = z at h
      split at h
      · rename_i h2
        injection h with h
        injection h with e1 h
        injection h with e2 h
        injection h with e3 e4
        subst e1 e2 e3 e4
        simp only [Bool.and_eq_true, beq_iff_eq] at h2
        exact h2.2
      · cases h
  unfold cget at h
  split at h
  · split at h
    · cases h
    · split at h
      · cases h
      · exact fin _ _ _ _ h
  · exact fin _ _ _ _ h
/-- A volume of which a block ahead is another one goes nowhere. -/
theorem strip_spoilt {t : List Nd} {s : St} {l : List (List (List UInt8))} {e : Int} (h : vsplit t s = (l, e)) (he : e ≠ 1) {k : Nat} {v : List (List UInt8)} (hk : l[k]? = some v) {n : Nat}
    (hn : sone (sstrip s.label (l.take k)).1 s.label ((k + 1 : Nat) : Int) v = ((n : Int), 0)) {i : Nat} {x y : List UInt8} (hi : i < n) (hx : v[i]? = some x) (hne : y ≠ x) :
    sone (sstrip s.label (l.take k)).1 s.label ((k + 1 : Nat) : Int) (v.set i y) = (0, if i = 0 then 11 else 12) := by
  obtain ⟨h1, h2, h12, P, P0, PB, PE, PV⟩ := (stream_ok h).2 he
  obtain ⟨st, ev, a1, a2⟩ := sloop_vols h1 P0 PV k (Nat.le_of_lt (List.getElem?_eq_some_iff.1 hk).1)
  have hst : (sstrip s.label (l.take k)).1 = st := by unfold sstrip; rw [a2]
  obtain ⟨b, b1, b2, b3, b4, b5, b6, b7, b8⟩ := PV k v hk
  have hlt := begin_lt b1
  obtain ⟨st', e', c1, c2, c3, c4⟩ := where_state h1 hlt
  obtain ⟨rfl, -⟩ := Steps.det a1 c1
  rw [hst] at hn ⊢
  have hvb : v = b ++ v.drop b.length := by
    have := List.take_append_drop b.length v
    rw [b5] at this; exact this.symm
  have hone : sone st s.label ((k + 1 : Nat) : Int) v = ((b.length : Int), 0) := by
    have := sone_own (m := v.drop b.length) h1 b1 hlt a1
    rw [← hvb] at this; exact this
  rw [hone] at hn
  have hnb : n = b.length := by
    injection hn with hn _
    omega
  subst hnb
  obtain ⟨blk, rest, rfl, d1, d2, d3⟩ := begin_ok b1
  obtain ⟨m, hm⟩ : ∃ m, v.drop (blk :: rest).length = m := ⟨_, rfl⟩
  rw [hm] at hvb
  subst hvb
  rw [List.cons_append] at hx ⊢
  cases i with
  | zero =>
    have hx : blk = x := by simpa using hx
    rw [if_pos rfl, List.set_cons_zero]
    unfold sone
    rw [if_neg (by rw [c2]; simp), if_neg c3]
    dsimp only
    rw [if_pos ?_]
    have put_of : ∀ (c : List UInt8), lget c = (s.label, ((k + 1 : Nat) : Int), 0) → lput s.label ((k + 1 : Nat) : Int) = some c := by
      intro c hc
      rcases lget_cases c with ⟨g1, g2⟩ | ⟨g1, s', n', g2, g3⟩ | ⟨g1, g2, _⟩
      · rw [hc] at g2
        injection g2 with _ g2
        injection g2 with _ g2
        exact absurd g2.symm g1
      · rw [hc] at g2
        injection g2 with e1 g2
        injection g2 with e2 _
        rw [e1, e2]; exact g3
      · rw [hc] at g2
        injection g2 with _ g2
        injection g2 with _ g2
        cases g2
    by_cases f1 : (lget y).2.2 ≠ 0
    · exact .inl f1
    · by_cases f2 : (lget y).1 ≠ s.label
      · exact .inr (.inl f2)
      · by_cases f3 : (lget y).2.1 ≠ ((k + 1 : Nat) : Int)
        · exact .inr (.inr f3)
        · exfalso
          have f1 : (lget y).2.2 = 0 := by omega
          have f2 : (lget y).1 = s.label := Classical.not_not.1 f2
          have f3 : (lget y).2.1 = ((k + 1 : Nat) : Int) := by omega
          have hy : lget y = (s.label, ((k + 1 : Nat) : Int), 0) := by
            rw [← f1, ← f2, ← f3]
          have p1 := put_of y hy
          rw [put_of blk d1] at p1
          injection p1 with p1
          exact hne (by rw [← hx, p1])
  | succ i =>
    rw [if_neg (by omega), List.set_cons_succ]
    have hx : (rest ++ m)[i]? = some x := by simpa using hx
    have hir : i < rest.length := by simpa using hi
    rcases d3 with ⟨-, rfl⟩ | ⟨k', j', nd, f1, f2, f3, rfl⟩
    · simp at hir
    · have h3 : st = sD (bareN nd) nd.data.length ((nd.data.length : Int) - 512 * (j' : Int)) := by
        rcases c4 with ⟨g1, _⟩ | ⟨k'', j'', n'', g1, g2, g3, g4⟩
        · rw [f1] at g1
          have g1 : (j' : Int) = -1 := g1
          omega
        · rw [f1] at g1
          injection g1 with g1 g5
          obtain rfl : k' = k'' := by omega
          obtain rfl : j' = j'' := by omega
          rw [f2] at g2
          injection g2 with g2
          subst g2
          exact g4
      unfold sone
      rw [if_neg (by rw [c2]; simp), if_neg c3]
      dsimp only
      rw [d1, if_neg (by simp), h3, if_neg (show ¬ (sD (bareN nd) nd.data.length ((nd.data.length : Int) - 512 * (j' : Int))).phase ≠ 3 from fun h => h rfl)]
      cases hc : cget ((cput nd (512 * (j' : Int)) ++ m).set i y) with
      | none => rfl
      | some r =>
        obtain ⟨who, off, whole, used⟩ := r
        dsimp only
        rw [if_pos ?_]
        apply Classical.byContradiction
        intro hcon
        have g1 : neq who (bareN nd) = true := by
          cases hq : neq who (bareN nd) with
          | true => rfl
          | false => exact absurd (.inl hq) hcon
        have g2 : off = 512 * (j' : Int) := by
          apply Classical.byContradiction
          intro hq
          refine hcon (.inr (.inl ?_))
          show off ≠ (nd.data.length : Int) - ((nd.data.length : Int) - 512 * (j' : Int))
          omega
        have g3 : whole = nd.data.length := by
          apply Classical.byContradiction
          intro hq
          exact hcon (.inr (.inr hq))
        rw [neq_iff] at g1
        subst g1 g2 g3
        have sp := cget_spec hc
        rw [cputB_bare] at sp
        have hcp : cput nd (512 * (j' : Int)) = cputB nd (512 * (j' : Int)) nd.data.length := by unfold cput; rw [if_pos f3]
        rw [← hcp] at sp
        have hl := congrArg List.length sp
        rw [List.length_take] at hl
        have q1 : (cput nd (512 * (j' : Int)))[i]? = some x := by
          rw [List.getElem?_append_left hir] at hx; exact hx
        rw [sp, List.getElem?_take, if_pos (by omega), List.getElem?_set, if_pos rfl] at q1
        rw [if_pos (by rw [List.length_append]; omega)] at q1
        injection q1 with q1
        exact hne q1

/-! ### what is told, gathered -/
def addData : List Nd → List UInt8 → List Nd
  | [], _ => []
  | [n], d => [{ n with data := n.data ++ d }]
  | n :: m :: l, d => n :: addData (m :: l) d
def gstep (s : List Nd × Bool) (e : Ev) : Option (List Nd × Bool) :=
  if e.kind = 0 ∧ s.2 = false then some (s.1 ++ [e.node], true)
  else if e.kind = 1 ∧ s.2 = true then some (addData s.1 e.data, true)
  else if e.kind = 2 ∧ s.2 = true then some (s.1, false)
  else none
def gloop : List Nd × Bool → List Ev → List Nd × Bool
  | s, [] => (s.1, true)
  | s, e :: l => match gstep s e with
    | none => (s.1, false)
    | some t => gloop t l
/-- The nodes that are told. -/
def gather (l : List Ev) : List Nd × Bool := gloop ([], false) l
theorem addData_snoc (d : List UInt8) (n : Nd) : ∀ l : List Nd, addData (l ++ [n]) d = l ++ [{ n with data := n.data ++ d }]
  | [] => rfl
  | [m] => rfl
  | a :: b :: l => by
    have := addData_snoc d n (b :: l)
    show a :: addData (b :: (l ++ [n])) d = _
    rw [show b :: (l ++ [n]) = (b :: l) ++ [n] from rfl, this]; rfl
theorem gloop_data : ∀ (k : Nat) (d : List UInt8), d.length ≤ k → ∀ (l : List Nd) (n : Nd) (m : List Ev), gloop (l ++ [n], true) (dataEvs d ++ m) = gloop (l ++ [{ n with data := n.data ++ d }], true) m
  | 0, d, h, l, n, m => by
    have : d = [] := List.length_eq_zero_iff.1 (by omega)
    subst this
    rw [dataEvs_nil, List.append_nil]; rfl
  | k + 1, d, h, l, n, m => by
    by_cases hd : d = []
    · subst hd
      rw [dataEvs_nil, List.append_nil]; rfl
    · have hl := len_pos hd
      rw [dataEvs_cons hd, List.cons_append]
      show (match gstep (l ++ [n], true) (evData (d.take 512)) with | none => ((l ++ [n]), false) | some t => gloop t (dataEvs (d.drop 512) ++ m)) = _
      have e1 : gstep (l ++ [n], true) (evData (d.take 512)) = some (l ++ [{ n with data := n.data ++ d.take 512 }], true) := by
        unfold gstep
        rw [if_neg (by simp [evData]), if_pos (show (evData (d.take 512)).kind = 1 ∧ true = true from ⟨rfl, rfl⟩)]
        show some (addData (l ++ [n]) (d.take 512), true) = _
        rw [addData_snoc]
      rw [e1]
      dsimp only
      rw [gloop_data k (d.drop 512) (by rw [List.length_drop]; omega)]
      show gloop (l ++ [{ n with data := n.data ++ d.take 512 ++ d.drop 512 }], true) m = _
      rw [List.append_assoc, List.take_append_drop]
theorem gloop_node {n : Nd} (l : List Nd) (m : List Ev) : gloop (l, false) (nodeEvs n ++ m) = gloop (l ++ [n], false) m := by
  unfold nodeEvs
  rw [List.cons_append]
  show (match gstep (l, false) (evNode (noData n)) with | none => (l, false) | some t => gloop t ((dataEvs n.data ++ [evOver]) ++ m)) = _
  have e1 : gstep (l, false) (evNode (noData n)) = some (l ++ [noData n], true) := by
    unfold gstep
    rw [if_pos (show (evNode (noData n)).kind = 0 ∧ false = false from ⟨rfl, rfl⟩)]; rfl
  rw [e1]
  dsimp only
  rw [List.append_assoc, gloop_data n.data.length n.data (Nat.le_refl _)]
  have e2 : gstep (l ++ [{ noData n with data := (noData n).data ++ n.data }], true) evOver = some (l ++ [n], false) := by
    unfold gstep
    rw [if_neg (by simp), if_neg (by simp [evOver]), if_pos (show evOver.kind = 2 ∧ true = true from ⟨rfl, rfl⟩)]
    rfl
  show (match gstep (l ++ [{ noData n with data := (noData n).data ++ n.data }], true) evOver with | none => ((l ++ [{ noData n with data := (noData n).data ++ n.data }]), false) | some t => gloop t m) = _
  rw [e2]
theorem gloop_nodes : ∀ (t l : List Nd), gloop (l, false) ((t.map nodeEvs).flatten) = (l ++ t, true)
  | [], l => by simp [gloop]
  | n :: t, l => by
    show gloop (l, false) (nodeEvs n ++ (t.map nodeEvs).flatten) = _
    rw [gloop_node, gloop_nodes t]
    simp
/-- A tree's events are gathered as the tree. -/
theorem gather_tree (t : List Nd) : gather ((t.map nodeEvs).flatten) = (t, true) := by
  unfold gather
  rw [gloop_nodes]; rfl
/-- A tree's stream is read as the tree. -/
theorem run_tree {t : List Nd} (h : tmay t = true) : prun ps0 (sall t) = (sZ 5, (t.map nodeEvs).flatten, (sall t).length, 0) := prun_steps (steps_sall h)
end Go.Proofs.YtldhcknjpmbgnaaGreatDoor.Rk
