/- LawS: LawA LawP -/
import Derived.Test.YtldhcknjpmbgnaaGreatDoorVlmS
/- VolumeBound -/
namespace Go.Proofs.YtldhcknjpmbgnaaGreatDoor.Rk
open Go.RowKit Go.Shelf
set_option linter.unusedVariables false
set_option linter.unusedSimpArgs false
set_option maxRecDepth 100000

/-- What holds if Split says that all is there. -/
theorem split_ok {t : List Nd} {s : St} {l : List (List (List UInt8))} (h : vsplit t s = (l, 0)) : tmay t = true ∧ smay s = true ∧ go t s 0 0 = (l, 0) := by
  unfold vsplit at h
  by_cases hc : (tmay t && smay s) = true
  · rw [if_pos hc] at h
    simp only [Bool.and_eq_true] at hc
    exact ⟨hc.1, hc.2, h⟩
  · rw [if_neg hc] at h
    injection h with _ h2
    cases h2
theorem smay_iff {s : St} (h : smay s = true) : lmay s.label 1 = true ∧ 1 ≤ s.b ∧ s.b ≤ 20 ∧ s.caps.length ≤ 12 ∧ ∀ n ∈ s.caps, 0 ≤ n ∧ n ≤ 200 := by
  unfold smay at h
  simpa only [Bool.and_eq_true, decide_eq_true_eq, List.all_eq_true] using h
theorem sall_pos {t : List Nd} (h : tmay t = true) : 2 ≤ (sall t).length := by
  unfold sall; rw [h]; simp
/-- The least that goes on in a volume, of the first k. -/
def least (s : St) : Nat → Int
  | 0 => s.b * 200
  | k + 1 => if s.b * (s.caps.getD k 0) - 4 < least s k then s.b * (s.caps.getD k 0) - 4 else least s k
theorem least_le {s : St} (k j : Nat) (h : j < k) : least s k ≤ s.b * (s.caps.getD j 0) - 4 := by
  induction k with
  | zero => omega
  | succ k ih =>
    unfold least
    by_cases hj : j = k
    · subst hj; split <;> omega
    · have := ih (by omega)
      split <;> omega
theorem cap_range {s : St} (h : smay s = true) (k : Nat) : 0 ≤ s.b * (s.caps.getD k 0) ∧ s.b * (s.caps.getD k 0) ≤ 4000 := by
  obtain ⟨_, h1, h2, _, h4⟩ := smay_iff h
  have hc : 0 ≤ s.caps.getD k 0 ∧ s.caps.getD k 0 ≤ 200 := by
    rw [List.getD_eq_getElem?_getD]
    cases hk : s.caps[k]? with
    | none => simp
    | some x => exact h4 x (List.mem_of_getElem? hk)
  refine ⟨Int.mul_nonneg (by omega) hc.1, ?_⟩
  have h5 : s.b * (s.caps.getD k 0) ≤ 20 * 200 := Int.mul_le_mul h2 hc.2 hc.1 (by omega)
  omega
theorem least_range {s : St} (h : smay s = true) (k : Nat) : -4 ≤ least s k ∧ least s k ≤ 4000 := by
  obtain ⟨_, h1, h2, _, h4⟩ := smay_iff h
  induction k with
  | zero => unfold least; omega
  | succ k ih =>
    have := cap_range h k
    unfold least
    split <;> omega
theorem bound_ok {t : List Nd} {s : St} {l : List (List (List UInt8))} (h : vsplit t s = (l, 0)) : l.length ≤ (sall t).length ∧ 1 ≤ l.length ∧ l.length ≤ s.caps.length ∧ (1 ≤ least s l.length → ((l.length : Int) - 1) * least s l.length < (sall t).length) := by
  obtain ⟨h1, h2, h3⟩ := split_ok h
  obtain ⟨hl, hB1, hB2, hc, hcaps⟩ := smay_iff h2
  have hp := sall_pos h1
  have hb1 : ∀ p n : Nat, 1 ≤ (vbeg t s (p : Nat) (n : Nat)).length := fun p n => (vbeg_len t s _ _).1
  have hb4 : ∀ p n : Nat, (vbeg t s (p : Nat) (n : Nat)).length ≤ 4 := fun p n => (vbeg_len t s _ _).2
  have hz : ∀ k, 1 ≤ k → k ≤ s.b.toNat → (zblocks k).length = k := fun k hk1 hk2 => by unfold zblocks; rw [if_neg (by omega)]; simp
  have h3' : sgo (sall t) (fun pos n => vbeg t s (pos : Nat) (n : Nat)) zblocks s.b.toNat (s.caps.map Int.toNat) 0 0 = (l, 0) := h3
  have r1 := sgo_room (all := sall t) (bg := fun pos n => vbeg t s (pos : Nat) (n : Nat)) (z := zblocks) (B := s.b.toNat) (by omega) hz hb1 (s.caps.map Int.toNat) 0 0
  rw [h3'] at r1
  have r2 := sgo_bound (all := sall t) (bg := fun pos n => vbeg t s (pos : Nat) (n : Nat)) (z := zblocks) (B := s.b.toNat) hb1 hb4
  have r3 := r2 1 (Nat.le_refl _) (s.caps.map Int.toNat) 0 0 (by rw [h3']) (by omega)
  rw [h3'] at r3
  have hle : l.length ≤ s.caps.length := by simpa using r1.1
  have h1l : 1 ≤ l.length := r1.2.2.2.1 rfl (by omega)
  refine ⟨by have := r3.1; simpa using this, h1l, hle, fun hl1 => ?_⟩
  obtain ⟨q, hq⟩ : ∃ q : Nat, least s l.length = (q : Int) := ⟨(least s l.length).toNat, by omega⟩
  have r4 := (r2 q (by omega) (s.caps.map Int.toNat) 0 0 (by rw [h3']) (by omega)).2
  rw [h3'] at r4
  have r5 := r4 (fun j cap hj hcap => by
    have hj' : j < l.length := hj
    have h5 := least_le (s := s) l.length j hj'
    rw [List.getElem?_map] at hcap
    obtain ⟨x, hx1, hx2⟩ := Option.map_eq_some_iff.1 hcap
    rw [List.getD_eq_getElem?_getD, hx1, Option.getD_some, hq] at h5
    have hx0 := hcaps x (List.mem_of_getElem? hx1)
    have h6 : ((s.b.toNat * cap : Nat) : Int) = s.b * x := by
      rw [← hx2, Int.natCast_mul, Int.toNat_of_nonneg (by omega), Int.toNat_of_nonneg hx0.1]
    omega)
  have r6 : (l.length - 1) * q < (sall t).length := by simpa using r5
  rw [hq]
  have h7 : ((l.length : Int) - 1) = ((l.length - 1 : Nat) : Int) := by omega
  rw [h7, ← Int.natCast_mul]
  exact_mod_cast r6
end Go.Proofs.YtldhcknjpmbgnaaGreatDoor.Rk
/- Plain laws of volumes: what the laws ask. -/
namespace Go.Proofs.YtldhcknjpmbgnaaGreatDoor.Rk
open Go.RowKit
set_option linter.unusedVariables false
set_option linter.unusedSimpArgs false
section
variable {β : Type} {all : List β} {bg : Nat → Nat → List β} {z : Nat → List β} {B : Nat}
/-- What holds of all that goes in holds of what comes out. -/
theorem sgo_every {Pd : β → Prop} {N : Nat} (ha : ∀ x ∈ all, Pd x) (hb : ∀ p n, 1 ≤ n → n ≤ N → ∀ x ∈ bg p n, Pd x) (hz : ∀ k, ∀ x ∈ z k, Pd x) : ∀ (caps : List Nat) (i pos : Nat), i + caps.length ≤ N → ∀ v ∈ (sgo all bg z B caps i pos).1, ∀ x ∈ v, Pd x
  | [], i, pos, _, v, hv, x, hx => by
    unfold sgo at hv
    simp at hv
  | cap :: caps, i, pos, hN, v, hv, x, hx => by
    simp only [List.length_cons] at hN
    by_cases h : pos < all.length
    · by_cases h2 : B * cap ≤ (bg pos (i + 1)).length
      · rw [sgo_small h h2] at hv; simp at hv
      · rw [sgo_step h h2] at hv
        rcases List.mem_cons.1 hv with hv | hv
        · have hbare : ∀ x ∈ bare all bg B cap i pos, Pd x := fun x hx => by
            unfold bare at hx
            rcases List.mem_append.1 hx with hx | hx
            · exact hb _ _ (by omega) (by omega) x hx
            · exact ha x (List.mem_of_mem_take (List.mem_of_mem_drop hx))
          subst hv
          unfold volAt at hx
          split at hx
          · rcases List.mem_append.1 hx with hx | hx
            · exact hbare x hx
            · exact hz _ x hx
          · exact hbare x hx
        · exact sgo_every ha hb hz caps (i + 1) _ (by omega) v hv x hx
    · rw [sgo_done h] at hv; simp at hv
end
theorem zblocks_all (k : Nat) : AllB (zblocks k) := fun b hb => by
  unfold zblocks at hb
  split at hb
  · simp at hb
  · rw [(List.mem_replicate.1 hb).2]; exact zeros512
theorem vbeg_all {t : List Nd} {s : St} {p n : Int} (h : lmay s.label n = true) : AllB (vbeg t s p n) := by
  unfold vbeg
  refine AllB.cons ?_ ?_
  · rw [lput_yes h]; exact blockOf_length _ (hdL_fits h)
  · split
    · exact AllB.nil
    · split
      · exact cput_all _ _
      · exact AllB.nil
theorem room_ok {t : List Nd} {s : St} {l : List (List (List UInt8))} {en : Int} (h : vsplit t s = (l, en)) :
    l.length ≤ s.caps.length ∧ (en = 0 → 1 ≤ l.length) ∧ (en = 14 → l.length = s.caps.length) ∧
    ∀ j v, l[j]? = some v → smay s = true ∧ ∃ cap, s.caps[j]? = some cap ∧ 2 ≤ v.length ∧ (v.length : Int) ≤ s.b * cap ∧ v.length % s.b.toNat = 0 ∧ ((v.length : Int) = s.b * cap ∨ (en = 0 ∧ j + 1 = l.length)) ∧ AllB v := by
  unfold vsplit at h
  by_cases hc : (tmay t && smay s) = true
  · rw [if_pos hc] at h
    simp only [Bool.and_eq_true] at hc
    obtain ⟨h1, h2⟩ := hc
    obtain ⟨hl, hB1, hB2, hc12, hcaps⟩ := smay_iff h2
    have hp := sall_pos h1
    have hb1 : ∀ p n : Nat, 1 ≤ (vbeg t s (p : Nat) (n : Nat)).length := fun p n => (vbeg_len t s _ _).1
    have hz : ∀ k, 1 ≤ k → k ≤ s.b.toNat → (zblocks k).length = k := fun k hk1 hk2 => by unfold zblocks; rw [if_neg (by omega)]; simp
    have h3' : sgo (sall t) (fun pos n => vbeg t s (pos : Nat) (n : Nat)) zblocks s.b.toNat (s.caps.map Int.toNat) 0 0 = (l, en) := h
    have r1 := sgo_room (all := sall t) (bg := fun pos n => vbeg t s (pos : Nat) (n : Nat)) (z := zblocks) (B := s.b.toNat) (by omega) hz hb1 (s.caps.map Int.toNat) 0 0
    have r2 := sgo_every (all := sall t) (bg := fun pos n => vbeg t s (pos : Nat) (n : Nat)) (z := zblocks) (B := s.b.toNat) (Pd := fun b => b.length = 512) (N := 12) (sall_all t)
      (fun p n h0 hn => vbeg_all (by have h5 := lmay_iff.1 hl; exact lmay_iff.2 ⟨h5.1, h5.2.1, h5.2.2.1, by omega, by omega⟩)) zblocks_all (s.caps.map Int.toNat) 0 0 (by simp; omega)
    rw [h3'] at r1 r2
    obtain ⟨a1, a2, a3, a4, a5⟩ := r1
    refine ⟨by simpa using a1, fun he => a4 he (by omega), fun he => by simpa using a3 he, fun j v hv => ⟨h2, ?_⟩⟩
    obtain ⟨cap, c1, c2, c3, c4, c5⟩ := a5 j v hv
    rw [List.getElem?_map] at c1
    obtain ⟨x, hx1, hx2⟩ := Option.map_eq_some_iff.1 c1
    have hx0 := hcaps x (List.mem_of_getElem? hx1)
    have h6 : ((s.b.toNat * cap : Nat) : Int) = s.b * x := by
      rw [← hx2, Int.natCast_mul, Int.toNat_of_nonneg (by omega), Int.toNat_of_nonneg hx0.1]
    refine ⟨x, hx1, c2, by omega, c4, ?_, fun b hb => r2 v (List.mem_of_getElem? hv) b hb⟩
    rcases c5 with c5 | c5
    · exact .inl (by omega)
    · exact .inr c5
  · rw [if_neg hc] at h
    injection h with h1 h2
    subst h1 h2
    exact ⟨by simp, fun h => by simp at h, fun h => by simp at h, fun j v hv => by simp at hv⟩
/-- Split, of what may be. -/
theorem vsplit_yes {t : List Nd} {s : St} (h1 : tmay t = true) (h2 : smay s = true) : vsplit t s = sgo (sall t) (fun pos n => vbeg t s (pos : Nat) (n : Nat)) zblocks s.b.toNat (s.caps.map Int.toNat) 0 0 := by
  unfold vsplit; rw [if_pos (by rw [h1, h2]; rfl)]
theorem vsplit_no {t : List Nd} {s : St} (h : (tmay t && smay s) = false) : vsplit t s = ([], 1) := by
  unfold vsplit; rw [if_neg (by rw [h]; decide)]
theorem vbeg_caps (t : List Nd) (s : St) (cs : List Int) (p n : Int) : vbeg t { s with caps := cs } p n = vbeg t s p n := rfl
theorem smay_caps {s : St} {cs : List Int} (h : smay s = true) (h1 : cs.length ≤ 12) (h2 : ∀ n ∈ cs, 0 ≤ n ∧ n ≤ 200) : smay { s with caps := cs } = true := by
  obtain ⟨a1, a2, a3, a4, a5⟩ := smay_iff h
  unfold smay
  simpa only [Bool.and_eq_true, decide_eq_true_eq, List.all_eq_true] using And.intro a1 (And.intro a2 (And.intro a3 (And.intro h1 h2)))
theorem smay_less {s : St} {more : List Int} (h : smay { s with caps := s.caps ++ more } = true) : smay s = true := by
  obtain ⟨a1, a2, a3, a4, a5⟩ := smay_iff h
  have a4 : (s.caps ++ more).length ≤ 12 := a4
  rw [List.length_append] at a4
  have := smay_caps (cs := s.caps) h (by omega) (fun n hn => a5 n (List.mem_append_left _ hn))
  exact this
/-- With more capacities. -/
theorem more_ok {t : List Nd} {s : St} {more : List Int} {a b : List (List (List UInt8))} {e f : Int} (hm : smay { s with caps := s.caps ++ more } = true) (ha : vsplit t s = (a, e)) (hb : vsplit t { s with caps := s.caps ++ more } = (b, f)) :
    a.length ≤ b.length ∧ (e = 0 → b.length = a.length) ∧ (e ≠ 14 → f = e) ∧ b.take a.length = a := by
  by_cases h1 : tmay t = true
  · rw [vsplit_yes h1 (smay_less hm)] at ha
    rw [vsplit_yes h1 hm] at hb
    have hb : sgo (sall t) (fun pos n => vbeg t s (pos : Nat) (n : Nat)) zblocks s.b.toNat ((s.caps ++ more).map Int.toNat) 0 0 = (b, f) := hb
    rw [List.map_append] at hb
    obtain ⟨r1, r2⟩ := sgo_more (all := sall t) (bg := fun pos n => vbeg t s (pos : Nat) (n : Nat)) (z := zblocks) (B := s.b.toNat) (more.map Int.toNat) (s.caps.map Int.toNat) 0 0
    rw [ha] at r1 r2
    by_cases h14 : e = 14
    · obtain ⟨p, hp, _⟩ := r2 h14
      rw [hp] at hb
      injection hb with h2 h3
      subst h2
      refine ⟨by show a.length ≤ (a ++ _).length; rw [List.length_append]; omega, fun h => absurd (h.symm.trans h14) (by decide), fun h => absurd h14 h, ?_⟩
      rw [List.take_left]
    · rw [r1 h14] at hb
      injection hb with h2 h3
      subst h2 h3
      exact ⟨Nat.le_refl _, fun _ => rfl, fun _ => rfl, List.take_length⟩
  · rw [vsplit_no (by simp [h1])] at ha hb
    injection ha with h2 h3
    injection hb with h4 h5
    subst h2 h3 h4 h5
    exact ⟨Nat.le_refl _, fun _ => rfl, fun _ => rfl, rfl⟩
/-- With a capacity of 0 behind, and without any. -/
theorem small_ok {t : List Nd} {s : St} {l : List (List (List UInt8))} {e : Int} (hs : smay s = true) (hc : s.caps.length ≤ 11) (h : vsplit t s = (l, e)) :
    (e = 0 → 1 ≤ l.length) ∧ (e = 14 → vsplit t { s with caps := s.caps ++ [0] } = (l, 13) ∧ vsplit t { s with caps := [] } = ([], 14)) := by
  refine ⟨(room_ok h).2.1, fun he => ?_⟩
  subst he
  have h1 : tmay t = true := by
    cases h1 : tmay t with
    | true => rfl
    | false =>
      rw [vsplit_no (by simp [h1])] at h
      injection h with _ h3
      exact absurd h3 (by decide)
  obtain ⟨a1, a2, a3, a4, a5⟩ := smay_iff hs
  have hm : smay { s with caps := s.caps ++ [0] } = true := smay_caps hs (by rw [List.length_append]; simp; omega) (fun n hn => by
    rcases List.mem_append.1 hn with hn | hn
    · exact a5 n hn
    · simp at hn; omega)
  have hm0 : smay { s with caps := [] } = true := smay_caps hs (by simp) (fun n hn => by simp at hn)
  rw [vsplit_yes h1 hs] at h
  rw [vsplit_yes h1 hm, vsplit_yes h1 hm0]
  obtain ⟨r1, r2⟩ := sgo_more (all := sall t) (bg := fun pos n => vbeg t s (pos : Nat) (n : Nat)) (z := zblocks) (B := s.b.toNat) [0] (s.caps.map Int.toNat) 0 0
  rw [h] at r1 r2
  obtain ⟨p, hp, hlt⟩ := r2 rfl
  constructor
  · show sgo (sall t) (fun pos n => vbeg t s (pos : Nat) (n : Nat)) zblocks s.b.toNat ((s.caps ++ [0]).map Int.toNat) 0 0 = (l, 13)
    rw [List.map_append]
    show sgo (sall t) (fun pos n => vbeg t s (pos : Nat) (n : Nat)) zblocks s.b.toNat (s.caps.map Int.toNat ++ [0]) 0 0 = (l, 13)
    rw [hp, sgo_small hlt (by simp)]
    simp
  · have := sall_pos h1
    exact sgo_none (by omega)
theorem zblocks_rep {k : Nat} (h1 : 1 ≤ k) (h2 : k ≤ 20) : zblocks k = List.replicate k (zeros 512) := by
  unfold zblocks; rw [if_neg (by omega)]
/-- The last block; and how many blocks there are. -/
theorem last_ok {t : List Nd} {s : St} {l : List (List (List UInt8))} (h : vsplit t s = (l, 0)) :
    (∃ v, l.getLast? = some v ∧ 2 ≤ v.length ∧ v.getLast? = some (zeros 512)) ∧ (sall t).length + l.length ≤ (l.map List.length).sum ∧ ((l.map List.length).sum : Int) + 1 ≤ (sall t).length + 4 * l.length + s.b := by
  obtain ⟨h1, h2, h3⟩ := split_ok h
  obtain ⟨hl, hB1, hB2, hc, hcaps⟩ := smay_iff h2
  have hp := sall_pos h1
  have h3' : sgo (sall t) (fun pos n => vbeg t s (pos : Nat) (n : Nat)) zblocks s.b.toNat (s.caps.map Int.toNat) 0 0 = (l, 0) := h3
  have r1 := sgo_last (all := sall t) (bg := fun pos n => vbeg t s (pos : Nat) (n : Nat)) (z := zblocks) (B := s.b.toNat) (by omega) (fun k h1 h2 => by rw [zblocks_rep h1 (by omega)]; simp)
    (fun p n => (vbeg_len t s _ _).1) (fun p n => (vbeg_len t s _ _).2) (zeros 512) (fun k h1 h2 => by rw [zblocks_rep h1 (by omega)]; cases k with | zero => omega | succ k => simp [List.getLast?_replicate]) (sall_last h1) (s.caps.map Int.toNat) 0 0 (by rw [h3']) (by omega)
  rw [h3'] at r1
  obtain ⟨r1, r2, r3⟩ := r1
  refine ⟨r1, by simpa using r2, ?_⟩
  simp only [Nat.sub_zero] at r3
  omega
section
variable {β : Type} {all : List β} {bg : Nat → Nat → List β} {z : Nat → List β} {B : Nat}
/-- Where the volumes stand in the stream. -/
theorem sgo_places (hB : 1 ≤ B) (zb : β) (hz : ∀ k, 1 ≤ k → k ≤ B → z k = List.replicate k zb) : ∀ (caps : List Nat) (i pos : Nat),
    ∃ P : Nat → Nat, P 0 = pos ∧ ((sgo all bg z B caps i pos).2 = 0 ↔ ((sgo all bg z B caps i pos).2 = 0 ∨ pos < all.length) ∧ all.length ≤ P (sgo all bg z B caps i pos).1.length) ∧
    ∀ j v, (sgo all bg z B caps i pos).1[j]? = some v → P j < all.length ∧ (bg (P j) (i + j + 1)).length < v.length ∧ v.take (bg (P j) (i + j + 1)).length = bg (P j) (i + j + 1) ∧
      (∀ k, (bg (P j) (i + j + 1)).length ≤ k → k < v.length → v[k]? = if P j + (k - (bg (P j) (i + j + 1)).length) < all.length then all[P j + (k - (bg (P j) (i + j + 1)).length)]? else some zb) ∧
      P (j + 1) = P j + (v.length - (bg (P j) (i + j + 1)).length)
  | [], i, pos => by
    refine ⟨fun _ => pos, rfl, ?_, fun j v hv => by unfold sgo at hv; simp at hv⟩
    by_cases h : pos < all.length
    · rw [sgo_none h]; simp <;> omega
    · rw [sgo_done h]; simp <;> omega
  | cap :: caps, i, pos => by
    by_cases h : pos < all.length
    · by_cases h2 : B * cap ≤ (bg pos (i + 1)).length
      · refine ⟨fun _ => pos, rfl, ?_, fun j v hv => by rw [sgo_small h h2] at hv; simp at hv⟩
        rw [sgo_small h h2]; simp <;> omega
      · obtain ⟨P, hP0, hP1, hP2⟩ := sgo_places hB zb hz caps (i + 1) (endAt all bg B cap i pos)
        rw [sgo_step h h2]
        have hz' : ∀ k, 1 ≤ k → k ≤ B → (z k).length = k := fun k h1 h2 => by rw [hz k h1 h2]; simp
        obtain ⟨v1, v2, v3, v4⟩ := volAt_length hB hz' h h2
        obtain ⟨w1, w2⟩ := volAt_at (z := z) hB zb hz h h2
        by_cases he : endAt all bg B cap i pos < all.length
        · have hv := (v4 he)
          refine ⟨fun j => match j with | 0 => pos | j + 1 => P j, rfl, ?_, ?_⟩
          · simp only [List.length_cons]
            rw [hP1]
            constructor
            · rintro ⟨_, h6⟩; exact ⟨.inr h, h6⟩
            · rintro ⟨_, h6⟩; exact ⟨.inr he, h6⟩
          · intro j v hjv
            cases j with
            | zero =>
              have hjv : volAt all bg z B cap i pos = v := by simpa using hjv
              subst hjv
              refine ⟨h, by show (bg pos (i + 0 + 1)).length < _; simp <;> omega, w1, w2, ?_⟩
              show P 0 = pos + (_ - (bg pos (i + 0 + 1)).length)
              rw [hP0, hv.2, hv.1]
            | succ j =>
              have e : i + (j + 1) + 1 = i + 1 + j + 1 := by omega
              have := hP2 j v (by simpa using hjv)
              rw [e]
              exact this
        · rw [sgo_done he]
          refine ⟨fun j => match j with | 0 => pos | _ + 1 => pos + ((volAt all bg z B cap i pos).length - (bg pos (i + 1)).length), rfl, ?_, ?_⟩
          · simp only [List.length_cons, List.length_nil, true_iff]
            refine ⟨.inl trivial, ?_⟩
            show all.length ≤ pos + _
            have hb := bare_length h h2
            have hle : (bare all bg B cap i pos).length ≤ (volAt all bg z B cap i pos).length := by
              unfold volAt; split
              · rw [List.length_append]; omega
              · exact Nat.le_refl _
            have := endAt_le (all := all) (bg := bg) (B := B) cap i pos
            have := endAt_lt h h2
            omega
          · intro j v hjv
            cases j with
            | zero =>
              have hjv : volAt all bg z B cap i pos = v := by simpa using hjv
              subst hjv
              exact ⟨h, by show (bg pos (i + 0 + 1)).length < _; simp <;> omega, w1, w2, rfl⟩
            | succ j => simp at hjv
    · refine ⟨fun _ => pos, rfl, ?_, fun j v hv => by rw [sgo_done h] at hv; simp at hv⟩
      rw [sgo_done h]; simp <;> omega
end
/-- A volume's beginning, as Begin tells it. -/
theorem vbeginO_yes {t : List Nd} {s : St} (h1 : tmay t = true) (h2 : smay s = true) {p n : Int} (hp : 0 ≤ p) (hp2 : p < (sall t).length) (hn : 1 ≤ n) (hn2 : n ≤ 12) : vbeginO t s p n = some (vbeg t s p n) := by
  obtain ⟨hl, _⟩ := smay_iff h2
  have h5 := lmay_iff.1 hl
  have hlm : lmay s.label n = true := lmay_iff.2 ⟨h5.1, h5.2.1, h5.2.2.1, by omega, by omega⟩
  unfold vbeginO vbegin
  rw [if_pos (by rw [h1, h2]; rfl), if_pos ⟨by rw [lput_yes hlm]; rfl, hp, hp2⟩]
/-- Where the volumes stand. -/
theorem stream_ok {t : List Nd} {s : St} {l : List (List (List UInt8))} {e : Int} (h : vsplit t s = (l, e)) :
    (e = 1 → l.length = 0) ∧ (e ≠ 1 → tmay t = true ∧ smay s = true ∧ l.length ≤ 12 ∧ ∃ P : Nat → Nat, P 0 = 0 ∧ (∀ j, j ≤ l.length → P j ≤ 4000 * j) ∧ (decide (e = 0) = decide ((sall t).length ≤ P l.length)) ∧
      ∀ j v, l[j]? = some v → ∃ b, vbeginO t s (P j) (j + 1 : Nat) = some b ∧ 1 ≤ b.length ∧ b.length < v.length ∧ v.length ≤ 4000 ∧ v.take b.length = b ∧ AllB v ∧
        (∀ k, b.length ≤ k → k < v.length → ∃ x, v[k]? = some x ∧ if P j + (k - b.length) < (sall t).length then (sall t)[P j + (k - b.length)]? = some x else x = zeros 512) ∧ P (j + 1) = P j + (v.length - b.length)) := by
  cases hc : (tmay t && smay s) with
  | false =>
    rw [vsplit_no hc] at h
    injection h with h2 h3
    subst h2 h3
    exact ⟨fun _ => rfl, fun h => absurd rfl h⟩
  | true =>
    simp only [Bool.and_eq_true] at hc
    obtain ⟨h1, h2⟩ := hc
    have hroom := room_ok h
    obtain ⟨hl, hB1, hB2, hcp, hcaps⟩ := smay_iff h2
    have hp := sall_pos h1
    have hb1 : ∀ p n : Nat, 1 ≤ (vbeg t s (p : Nat) (n : Nat)).length := fun p n => (vbeg_len t s _ _).1
    rw [vsplit_yes h1 h2] at h
    have r1 := sgo_room (all := sall t) (bg := fun pos n => vbeg t s (pos : Nat) (n : Nat)) (z := zblocks) (B := s.b.toNat) (by omega) (fun k h1 h2 => by rw [zblocks_rep h1 (by omega)]; simp) hb1 (s.caps.map Int.toNat) 0 0
    rw [h] at r1
    obtain ⟨P, p0, p1, p2⟩ := sgo_places (all := sall t) (bg := fun pos n => vbeg t s (pos : Nat) (n : Nat)) (z := zblocks) (B := s.b.toNat) (by omega) (zeros 512) (fun k h1 h2 => zblocks_rep h1 (by omega)) (s.caps.map Int.toNat) 0 0
    rw [h] at p1 p2
    have hlen : l.length ≤ 12 := by have := r1.1; simp at this; omega
    have hv4 : ∀ (j : Nat) (v : List (List UInt8)), l[j]? = some v → v.length ≤ 4000 := fun j v hv => by
      obtain ⟨_, cap, c1, _, c3, _⟩ := hroom.2.2.2 j v hv
      have h5 := hcaps cap (List.mem_of_getElem? c1)
      have h6 : s.b * cap ≤ 20 * 200 := Int.mul_le_mul hB2 h5.2 h5.1 (by omega)
      omega
    refine ⟨fun he => ?_, fun _ => ⟨h1, h2, hlen, P, p0, ?_, ?_, ?_⟩⟩
    · rcases r1.2.1 with h5 | h5 | h5 <;> have h5 : e = _ := h5 <;> omega
    · intro j
      induction j with
      | zero => intro _; omega
      | succ j ih =>
        intro hj
        obtain ⟨v, hv⟩ : ∃ v, l[j]? = some v := ⟨_, List.getElem?_eq_getElem (by omega)⟩
        have := p2 j v hv
        have := hv4 j v hv
        have := ih (by omega)
        omega
    · have p1' : e = 0 ↔ (e = 0 ∨ 0 < (sall t).length) ∧ (sall t).length ≤ P l.length := p1
      rw [decide_eq_decide]
      rw [p1']
      constructor
      · rintro ⟨_, h6⟩; exact h6
      · intro h6; exact ⟨.inr (by omega), h6⟩
    · intro j v hv
      obtain ⟨q1, q2, q3, q4, q5⟩ := p2 j v hv
      simp only [Nat.zero_add] at q2 q3 q4 q5
      have hjl := (List.getElem?_eq_some_iff.1 hv).1
      obtain ⟨_, _, _, _, _, _, _, hall⟩ := hroom.2.2.2 j v hv
      refine ⟨vbeg t s (P j : Nat) (j + 1 : Nat), vbeginO_yes h1 h2 (by omega) (by omega) (by omega) (by omega), hb1 _ _, q2, hv4 j v hv, q3, hall, fun k k1 k2 => ?_, q5⟩
      have q6 := q4 k k1 k2
      obtain ⟨x, hx⟩ : ∃ x, v[k]? = some x := ⟨_, List.getElem?_eq_getElem k2⟩
      refine ⟨x, hx, ?_⟩
      rw [hx] at q6
      split at q6
      · rename_i h7
        rw [if_pos h7]; exact q6.symm
      · rename_i h7
        rw [if_neg h7]; injection q6
end Go.Proofs.YtldhcknjpmbgnaaGreatDoor.Rk
