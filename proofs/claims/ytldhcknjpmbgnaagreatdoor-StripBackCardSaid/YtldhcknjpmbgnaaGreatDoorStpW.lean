/- Strip: its functions, walked; what its laws look at first. -/
import Derived.Test.YtldhcknjpmbgnaaGreatDoorVTal
import Derived.Test.YtldhcknjpmbgnaaGreatDoorPpK
import Derived.Test.YtldhcknjpmbgnaaGreatDoorPwC
import Derived.Test.YtldhcknjpmbgnaaGreatDoorStrpS
import Derived.Test.YtldhcknjpmbgnaaGreatDoorLawS
import Derived.Test.YtldhcknjpmbgnaaGreatDoorPpL
import Derived.Test.YtldhcknjpmbgnaaGreatDoorCkB
import Derived.Deep.DeepCutAuto
import Derived.WalkMore
namespace Go.Proofs.YtldhcknjpmbgnaaGreatDoor.Rk
open Go.RowKit Go.Shelf
set_option linter.unusedVariables false
set_option linter.unusedSimpArgs false
set_option maxRecDepth 100000

/-- An order: what is read, what must come now, two of which either may come now. -/
inductive Ord where
  | stop : Ord
  | rd : Nat → Ord → Ord
  | now : Nat → Ord → Ord
  | two : Nat → Nat → Ord → Ord → Ord
def Ord.len : Ord → Nat
  | .stop => 0
  | .rd _ t => t.len + 1
  | .now _ t => t.len + 1
  | .two _ _ s _ => s.len + 1
def Ord.rds : List Nat → Ord → Ord
  | [], t => t
  | k :: l, t => .rd k (Ord.rds l t)
def ordX (P : Program) (ops : Array Oper) (Q : Exit → Act → World → Prop) (S : World → Prop) : Ord → Act → World → Prop
  | .stop, a, w => wpList P ops Q [] a w
  | .rd i t, a, w => match ops[i]? with | some o => ∃ v, YieldsIf P ops S o v a ∧ ordX P ops Q S t (a.put o.dst v) w | none => False
  | .now i t, a, w => match ops[i]? with | some o => Region.wanted o (yielded ops a.tmps) = true ∧ o.wp P a w (fun a' w' => S w' ∧ ordX P ops Q S t a' w') (Calm Q) | none => False
  | .two i j s t, a, w => (match ops[i]? with | some o => Region.wanted o (yielded ops a.tmps) = true ∧ o.wp P a w (fun a' w' => S w' ∧ ordX P ops Q S s a' w') (Calm Q) | none => False) ∧
      (match ops[j]? with | some o => Region.wanted o (yielded ops a.tmps) = true ∧ o.wp P a w (fun a' w' => S w' ∧ ordX P ops Q S t a' w') (Calm Q) | none => False)
def ordXB (md : Region.Mode) (ops : Array Oper) : Ord → Array Bool → Bool
  | .stop, listed => (Region.ready md ops listed).isEmpty
  | .rd k t, listed => (Region.ready md ops listed).contains k && Region.free md ops listed k && waitsT md ops k [] (waitB md ops k) listed && ordXB md ops t (listed.setIfInBounds k true)
  | .now k t, listed => decide (Region.ready md ops listed = [k]) && ordXB md ops t (listed.setIfInBounds k true)
  | .two i j s t, listed => decide (Region.ready md ops listed = [i, j]) && (s.len == t.len) && ordXB md ops s (listed.setIfInBounds i true) && ordXB md ops t (listed.setIfInBounds j true)
section
variable {P : Program} {md : Region.Mode} {ops : Array Oper} {Q : Exit → Act → World → Prop} {S : World → Prop}
theorem anyC_tre (hs : Region.noSelect ops = true) : ∀ (t : Ord) (listed : Array Bool) (a : Act) (w : World), S w → ordXB md ops t listed = true →
    ordX P ops Q S t a w → anyC P md ops Q S (fun k => !([] : List Nat).contains k) t.len listed a w
  | .stop, listed, a, w, hS, hB, h => ⟨List.isEmpty_iff.1 hB, h⟩
  | .rd i t, listed, a, w, hS, hB, h => by
    simp only [ordXB, Bool.and_eq_true] at hB
    obtain ⟨⟨⟨hr, hf⟩, hw⟩, hB'⟩ := hB
    unfold ordX at h
    cases h0 : ops[i]? with
    | none => simp [h0] at h
    | some o =>
      simp only [h0] at h
      obtain ⟨v, hy, hK⟩ := h
      exact anyC_first h0 (Region.noSelect_spec hs) _ listed a w (Region.free_spec h0 hf) (by simpa using hr) (waits_ofT hw) hy hS (anyC_tre hs t _ _ w hS hB' hK)
  | .now i t, listed, a, w, hS, hB, h => by
    simp only [ordXB, Bool.and_eq_true, decide_eq_true_eq] at hB
    obtain ⟨hr, hB'⟩ := hB
    unfold ordX at h
    cases h0 : ops[i]? with
    | none => simp [h0] at h
    | some o =>
      simp only [h0] at h
      refine ⟨fun h1 => (by rw [hr] at h1; cases h1), fun j hj => ?_⟩
      rw [hr] at hj
      have hji : j = i := by simpa using hj
      subst hji
      unfold wpOp
      simp only [h0]
      rw [if_pos h.1]
      exact .inl (Oper.wp_mono (fun a' w' h' => ⟨fun _ => h'.1, anyC_tre hs t _ a' w' h'.1 hB' h'.2⟩) h.2)
  | .two i k s t, listed, a, w, hS, hB, h => by
    simp only [ordXB, Bool.and_eq_true, decide_eq_true_eq, beq_iff_eq] at hB
    obtain ⟨⟨⟨hr, hl⟩, hBs⟩, hBt⟩ := hB
    unfold ordX at h
    obtain ⟨h1, h2⟩ := h
    refine ⟨fun h1 => (by rw [hr] at h1; cases h1), fun j hj => ?_⟩
    rw [hr] at hj
    have hji : j = i ∨ j = k := by simpa using hj
    rcases hji with rfl | rfl
    · cases h0 : ops[j]? with
      | none => simp [h0] at h1
      | some o =>
        simp only [h0] at h1
        unfold wpOp
        simp only [h0]
        rw [if_pos h1.1]
        exact .inl (Oper.wp_mono (fun a' w' h' => ⟨fun _ => h'.1, anyC_tre hs s _ a' w' h'.1 hBs h'.2⟩) h1.2)
    · cases h0 : ops[j]? with
      | none => simp [h0] at h2
      | some o =>
        simp only [h0] at h2
        unfold wpOp
        simp only [h0]
        rw [if_pos h2.1]
        refine .inl (Oper.wp_mono (fun a' w' h' => ⟨fun _ => h'.1, ?_⟩) h2.2)
        have := anyC_tre hs t _ a' w' h'.1 hBt h'.2
        rw [← hl] at this
        exact this
variable {i j : Nat} {o p : Oper} {s t : Ord} {a : Act} {w : World}
theorem ordX_rd (h0 : ops[i]? = some o) (h : ∃ v, YieldsIf P ops S o v a ∧ ordX P ops Q S t (a.put o.dst v) w) : ordX P ops Q S (.rd i t) a w := by
  unfold ordX; simp only [h0]; exact h
theorem ordX_now (h0 : ops[i]? = some o) (h1 : Region.wanted o (yielded ops a.tmps) = true) (h : o.wp P a w (fun a' w' => S w' ∧ ordX P ops Q S t a' w') (Calm Q)) : ordX P ops Q S (.now i t) a w := by
  unfold ordX; simp only [h0]; exact ⟨h1, h⟩
theorem ordX_two (h0 : ops[i]? = some o) (h1 : Region.wanted o (yielded ops a.tmps) = true) (k0 : ops[j]? = some p) (k1 : Region.wanted p (yielded ops a.tmps) = true)
    (h : o.wp P a w (fun a' w' => S w' ∧ ordX P ops Q S s a' w') (Calm Q)) (k : p.wp P a w (fun a' w' => S w' ∧ ordX P ops Q S t a' w') (Calm Q)) : ordX P ops Q S (.two i j s t) a w := by
  unfold ordX; simp only [h0, k0]; exact ⟨⟨h1, h⟩, ⟨k1, k⟩⟩
theorem ordX_stop (h : wpList P ops Q [] a w) : ordX P ops Q S .stop a w := h
end
def regX (ops : Array Oper) (t : Ord) : Bool := Region.noSelect ops && (ops.size == t.len) && ordXB .any ops t (Array.replicate ops.size false)
theorem region_tre {P : Program} {id : Nat} {ops : List Oper} {Q : Exit → Act → World → Prop} {a : Act} {w : World} (S : World → Prop) (t : Ord) (hm : P.follows .mixedOrders = true) (hB : regX ops.toArray t = true) (hS : S w.drew)
    (h : ordX P ops.toArray Q S t a w.drew) : (Code.region id ops.toArray true).wp P Q a w := by
  simp only [regX, Bool.and_eq_true, beq_iff_eq] at hB
  have := anyC_tre (md := .any) hB.1.1 t (Array.replicate ops.toArray.size false) a w.drew hS hB.2 h
  rw [← hB.1.2] at this
  exact wp_region_any hm (any_of_C _ _ _ _ this)
/-- What one volume gives. -/
def stake (s : Ps) (name : List UInt8) (n : Int) (v : List (List UInt8)) : Ps × List (List UInt8) × Int :=
  if (sone s name n v).2 ≠ 0 then (s, [], (sone s name n v).2)
  else
    let r := prun s (v.drop (sone s name n v).1.toNat)
    (r.1, (v.drop (sone s name n v).1.toNat).take r.2.2.1, r.2.2.2)
theorem stake_no {s : Ps} {name : List UInt8} {n k e : Int} {v : List (List UInt8)} (h : sone s name n v = (k, e)) (he : e ≠ 0) : stake s name n v = (s, [], e) := by
  unfold stake
  rw [h, if_pos he]
theorem stake_yes {s t : Ps} {name : List UInt8} {n e : Int} {k used : Nat} {v : List (List UInt8)} {ev : List Ev} (h : sone s name n v = ((k : Int), 0)) (hr : prun s (v.drop k) = (t, ev, used, e)) : stake s name n v = (t, (v.drop k).take used, e) := by
  unfold stake
  rw [h, if_neg (by simp)]
  dsimp only
  rw [Int.toNat_natCast, hr]
theorem sloop_take {name : List UInt8} {s : Ps} {i : Nat} {v : List (List UInt8)} {vs : List (List (List UInt8))} :
    sloop name s i (v :: vs) = if (stake s name ((i + 1 : Nat) : Int) v).2.2 ≠ 0 ∨ (stake s name ((i + 1 : Nat) : Int) v).1.phase = 5 then stake s name ((i + 1 : Nat) : Int) v
      else ((sloop name (stake s name ((i + 1 : Nat) : Int) v).1 (i + 1) vs).1, (stake s name ((i + 1 : Nat) : Int) v).2.1 ++ (sloop name (stake s name ((i + 1 : Nat) : Int) v).1 (i + 1) vs).2.1, (sloop name (stake s name ((i + 1 : Nat) : Int) v).1 (i + 1) vs).2.2) := by
  rw [sloop]
  by_cases h : (sone s name ((i + 1 : Nat) : Int) v).2 ≠ 0
  · have hs : stake s name ((i + 1 : Nat) : Int) v = (s, [], (sone s name ((i + 1 : Nat) : Int) v).2) := by
      unfold stake
      rw [if_pos h]
    rw [if_pos h, hs, if_pos (.inl h)]
  · have hs : stake s name ((i + 1 : Nat) : Int) v = ((prun s (v.drop (sone s name ((i + 1 : Nat) : Int) v).1.toNat)).1, (v.drop (sone s name ((i + 1 : Nat) : Int) v).1.toNat).take (prun s (v.drop (sone s name ((i + 1 : Nat) : Int) v).1.toNat)).2.2.1, (prun s (v.drop (sone s name ((i + 1 : Nat) : Int) v).1.toNat)).2.2.2) := by
      unfold stake
      rw [if_neg h]
    rw [if_neg h, hs]
    dsimp only
    by_cases h2 : (prun s (v.drop (sone s name ((i + 1 : Nat) : Int) v).1.toNat)).2.2.2 ≠ 0
    · rw [if_pos h2, if_pos (.inl h2)]
    · rw [if_neg h2]
      by_cases h3 : (prun s (v.drop (sone s name ((i + 1 : Nat) : Int) v).1.toNat)).1.phase = 5
      · rw [if_pos h3, if_pos (.inr h3)]
        have : (prun s (v.drop (sone s name ((i + 1 : Nat) : Int) v).1.toNat)).2.2.2 = 0 := Decidable.not_not.1 h2
        rw [this]
      · rw [if_neg h3, if_neg (by rintro (h4 | h4); exact h2 h4; exact h3 h4)]
/-- What the rounds from here on make. -/
def sloGo (name : List UInt8) (l : List (List (List UInt8))) (i : Nat) (s : Ps) (out : List (List UInt8)) : Ps × List (List UInt8) × Int :=
  ((sloop name s i (l.drop i)).1, out ++ (sloop name s i (l.drop i)).2.1, (sloop name s i (l.drop i)).2.2)
theorem sloGo_end {name : List UInt8} {l : List (List (List UInt8))} {s : Ps} {out : List (List UInt8)} : sloGo name l l.length s out = (s, out, 0) := by
  unfold sloGo
  rw [List.drop_length]
  simp [sloop]
theorem sloGo_stop {name : List UInt8} {l : List (List (List UInt8))} {i : Nat} {v : List (List UInt8)} {s t : Ps} {out o : List (List UInt8)} {e : Int} (hv : l[i]? = some v) (h : stake s name ((i + 1 : Nat) : Int) v = (t, o, e)) (hs : e ≠ 0 ∨ t.phase = 5) :
    sloGo name l i s out = (t, out ++ o, e) := by
  obtain ⟨hlt, rfl⟩ := List.getElem?_eq_some_iff.1 hv
  unfold sloGo
  rw [List.drop_eq_getElem_cons hlt, sloop_take, h, if_pos hs]
theorem sloGo_next {name : List UInt8} {l : List (List (List UInt8))} {i : Nat} {v : List (List UInt8)} {s t : Ps} {out o : List (List UInt8)} {e : Int} (hv : l[i]? = some v) (h : stake s name ((i + 1 : Nat) : Int) v = (t, o, e)) (h0 : e = 0) (h5 : ¬ t.phase = 5) :
    sloGo name l i s out = sloGo name l (i + 1) t (out ++ o) := by
  obtain ⟨hlt, rfl⟩ := List.getElem?_eq_some_iff.1 hv
  unfold sloGo
  rw [List.drop_eq_getElem_cons hlt, sloop_take, h, if_neg (by rintro (h4 | h4); exact h4 h0; exact h5 h4)]
  dsimp only
  rw [List.append_assoc]
/-- The state stays in its bounds. -/
theorem stake_ok {s : Ps} (hs : s.S) (hr : s.R) (name : List UInt8) (n : Int) (v : List (List UInt8)) : (stake s name n v).1.S ∧ (stake s name n v).1.R := by
  unfold stake
  split
  · exact ⟨hs, hr⟩
  · exact ⟨(prun_ok hs hr _).1, (prun_ok hs hr _).2.1⟩
theorem sloop_ok {name : List UInt8} : ∀ (l : List (List (List UInt8))) (s : Ps) (i : Nat), s.S → s.R → (sloop name s i l).1.S ∧ (sloop name s i l).1.R
  | [], s, i, hs, hr => ⟨hs, hr⟩
  | v :: l, s, i, hs, hr => by
    have h := stake_ok hs hr name ((i + 1 : Nat) : Int) v
    rw [sloop_take]
    split
    · exact h
    · exact sloop_ok l _ (i + 1) h.1 h.2
theorem sstrip_ok (name : List UInt8) (l : List (List (List UInt8))) : (sstrip name l).1.S ∧ (sstrip name l).1.R := sloop_ok l ps0 0 ps0_S ps0_R
theorem prun_used (s : Ps) (l : List (List UInt8)) : (prun s l).2.2.1 ≤ l.length := by
  induction l generalizing s with
  | nil => exact Nat.zero_le _
  | cons b l ih =>
    unfold prun
    cases hE : pstepE s b with
    | error e => exact Nat.zero_le _
    | ok x =>
      dsimp only
      split
      · simp
      · have := ih x.1
        simp only [List.length_cons]
        omega
theorem cputB_len {n : Nd} {off whole : Int} (h : pmay n.path = true) : (cputB n off whole).length = 1 ∨ (cputB n off whole).length = 3 := by
  have h1 := pmay_len h
  have h2 := pmay_ne h
  have h3 := pmay_zero h
  unfold cputB
  by_cases hl : 100 < n.path.length
  · right
    rw [if_pos hl]
    unfold lputB
    have hlt : ltext n.path = true := ltext_iff.2 ⟨h2, h1, h3⟩
    rw [if_pos (by rw [hlt]; decide), Option.getD_some, cutB_short (by simp) (by rw [List.length_append]; simp; omega)]
    rfl
  · left
    rw [if_neg hl]; rfl
theorem cfin_spec {l : List (List UInt8)} {nm : List UInt8} {hd : Hd} {is : Bool} {i used : Nat} {n : Nd} {off whole : Int} (h : cfin l nm hd is i = some (n, off, whole, used)) : used = i ∧ cputB n off whole = l.take i ∧ pmay n.path = true := by
  unfold cfin at h
  split at h
  · cases h
  · generalize (if nm = [] then hd.name else nm) = z at h
    split at h
    · rename_i h2
      injection h with h
      injection h with e1 h
      injection h with e2 h
      injection h with e3 e4
      subst e1 e2 e3 e4
      simp only [Bool.and_eq_true, beq_iff_eq] at h2
      refine ⟨rfl, h2.2, ?_⟩
      have h3 := h2.1
      unfold cfits at h3
      simp only [Bool.and_eq_true] at h3
      exact h3.1
    · cases h
theorem cget_fits {l : List (List UInt8)} {n : Nd} {off whole : Int} {used : Nat} (h : cget l = some (n, off, whole, used)) : used ≤ l.length := by
  unfold cget at h
  split at h
  · split at h
    · cases h
    · rename_i b hb
      split at h
      · cases h
      · obtain ⟨rfl, h2, h3⟩ := cfin_spec h
        have h1 := (List.getElem?_eq_some_iff.1 hb).1
        have h4 := congrArg List.length h2
        rw [List.length_take] at h4
        rcases cputB_len (n := n) (off := off) (whole := whole) h3 with h5 | h5 <;> omega
  · obtain ⟨rfl, h2, h3⟩ := cfin_spec h
    have h4 := congrArg List.length h2
    rw [List.length_take] at h4
    rcases cputB_len (n := n) (off := off) (whole := whole) h3 with h5 | h5 <;> omega
theorem sone_le {s : Ps} {name : List UInt8} {n k e : Int} {v : List (List UInt8)} (h : sone s name n v = (k, e)) : 0 ≤ k ∧ k ≤ v.length ∧ (e = 0 → s.phase ≠ 3 → k = 1) := by
  unfold sone at h
  split at h
  · injection h with h1 h2; subst h1 h2; exact ⟨Int.le_refl _, by omega, fun h => by cases h⟩
  · split at h
    · injection h with h1 h2; subst h1 h2; exact ⟨Int.le_refl _, by omega, fun h => by cases h⟩
    · split at h
      · injection h with h1 h2; subst h1 h2; exact ⟨Int.le_refl _, by omega, fun h => by cases h⟩
      · rename_i b rest
        split at h
        · injection h with h1 h2; subst h1 h2; exact ⟨Int.le_refl _, by omega, fun h => by cases h⟩
        · split at h
          · injection h with h1 h2; subst h1 h2; exact ⟨by decide, by simp only [List.length_cons]; omega, fun _ _ => rfl⟩
          · rename_i h3
            split at h
            · injection h with h1 h2; subst h1 h2; exact ⟨Int.le_refl _, by omega, fun h => by cases h⟩
            · rename_i who off whole used hc
              split at h
              · injection h with h1 h2; subst h1 h2; exact ⟨Int.le_refl _, by omega, fun h => by cases h⟩
              · injection h with h1 h2
                subst h1 h2
                have := cget_fits hc
                refine ⟨by omega, by simp only [List.length_cons]; omega, fun _ h4 => absurd (Decidable.not_not.1 h3) h4⟩
theorem vols_len {t : List Nd} {s : St} {l : List (List (List UInt8))} {en : Int} (h : vsplit t s = (l, en)) : ∀ v ∈ l, v.length ≤ 4000 := by
  intro v hv
  obtain ⟨j, hj⟩ := List.getElem?_of_mem hv
  obtain ⟨-, -, -, h4⟩ := room_ok h
  obtain ⟨hm, cap, k1, -, k3, -⟩ := h4 j v hj
  have hcr := cap_range hm j
  have hg : s.caps.getD j 0 = cap := by rw [List.getD_eq_getElem?_getD, k1]; rfl
  rw [hg] at hcr
  omega
theorem strip17 : ∃ v, vsplit [] s0 = ([v], 0) ∧ v.length = 4 ∧ sstrip [120] [v] = (sZ 5, [zeros 512, zeros 512], 0) ∧ sstrip [121] [v] = (ps0, [], 11) ∧ sone ps0 [120] 1 v = (1, 0) := by
  obtain ⟨v, hv, h4⟩ := split0
  have ha := strip_all hv []
  rw [List.append_nil] at ha
  obtain ⟨b, ⟨b1, b2⟩, -, b3⟩ := strip_other hv (by decide) (k := 0) (i := 0) (v := v) (w := v) rfl rfl [121]
  have hl : (sstrip s0.label ([v].take 0)).1 = ps0 := rfl
  rw [hl] at b2 b3
  have b3 := b3 (by decide)
  have hk := (sone_le b2).2.2 rfl (by decide)
  refine ⟨v, hv, h4, ha, ?_, ?_⟩
  · have hs : stake ps0 [121] 1 v = (ps0, [], 11) := stake_no b3 (by decide)
    unfold sstrip
    have : sloop [121] ps0 0 [v] = (ps0, [], 11) := by
      rw [sloop_take]
      show (if (stake ps0 [121] 1 v).2.2 ≠ 0 ∨ (stake ps0 [121] 1 v).1.phase = 5 then stake ps0 [121] 1 v else _) = _
      rw [hs, if_pos (.inl (by decide))]
    rw [this]
    rfl
  · rw [hk] at b2
    exact b2
/-- What was taken are blocks. -/
theorem pstepE_512 {s : Ps} {b : List UInt8} {x : Ps × List Ev} (h : pstepE s b = .ok x) : b.length = 512 := by
  unfold pstepE at h
  split at h
  · rename_i hm
    exact hm.2
  · cases h
theorem prun_err {s : Ps} {a : List UInt8} {l : List (List UInt8)} {e : Int} (h : pstepE s a = .error e) : prun s (a :: l) = (s, [], 0, e) := by
  simp [prun, h]
theorem prun_over {s t : Ps} {a : List UInt8} {l : List (List UInt8)} {m : List Ev} (h : pstepE s a = .ok (t, m)) (h5 : t.phase = 5) : prun s (a :: l) = (t, m, 1, 0) := by
  simp [prun, h, h5]
theorem prun_on {s t : Ps} {a : List UInt8} {l : List (List UInt8)} {m : List Ev} (h : pstepE s a = .ok (t, m)) (h5 : ¬ t.phase = 5) : (prun s (a :: l)).2.2.1 = (prun t l).2.2.1 + 1 := by
  simp [prun, h, h5, Nat.add_comm]
theorem prun_512 {l : List (List UInt8)} : ∀ {s : Ps}, ∀ b ∈ l.take (prun s l).2.2.1, b.length = 512 := by
  induction l with
  | nil => intro s b hb; simp at hb
  | cons a l ih =>
    intro s b hb
    cases hE : pstepE s a with
    | error e =>
      rw [prun_err hE] at hb
      simp at hb
    | ok x =>
      obtain ⟨t, m⟩ := x
      by_cases h5 : t.phase = 5
      · rw [prun_over hE h5] at hb
        simp at hb
        rw [hb]; exact pstepE_512 hE
      · rw [prun_on hE h5, List.take_succ_cons] at hb
        rcases List.mem_cons.1 hb with hb | hb
        · rw [hb]; exact pstepE_512 hE
        · exact ih b hb
/-- Where a strip stands: its boxes. -/
structure TakeAt (W : World) (n : Nat) (name : List UInt8) (s : Ps) (out : List (List UInt8)) (w : World) : Prop where
  nm : w.heap[n]? = some (.cells #[.string (ofL name)] 9 (0, 0))
  rs : w.heap[n + 1]? = some (.cells ps0.cells.toArray 25 (0, 0))
  st : w.heap[n + 2]? = some (.cells s.cells.toArray 25 (0, 0))
  out : ∃ v, w.heap[n + 3]? = some (.cells #[v] 36 (0, 0)) ∧ RowD (Kd.slice Kd.byte) w (fun _ => False) (n + 4) v out
  below : Below n W w
theorem TakeAt.step {W w w' : World} {n : Nat} {name : List UInt8} {s : Ps} {out : List (List UInt8)} (h : TakeAt W n name s out w) (hb : Below w.heap.size w w') : TakeAt W n name s out w' := by
  obtain ⟨h1, h2, h3, ⟨v, h4, h5⟩, h6⟩ := h
  exact ⟨blk_below h1 hb (lt_of_block h1), blk_below h2 hb (lt_of_block h2), blk_below h3 hb (lt_of_block h3), ⟨v, blk_below h4 hb (lt_of_block h4), h5.below hb⟩, h6.trans (hb.mono (by have := lt_of_block h4; omega))⟩
theorem TakeAt.set {W w : World} {n : Nat} {name : List UInt8} {s : Ps} {out : List (List UInt8)} (h : TakeAt W n name s out w) (t : Ps) : TakeAt W n name t out (setPs w (n + 2) t) := by
  obtain ⟨h1, h2, h3, ⟨v, h4, h5⟩, h6⟩ := h
  exact ⟨by rw [setPs_other (by omega)]; exact h1, by rw [setPs_other (by omega)]; exact h2, setPs_block h3, ⟨v, by rw [setPs_other (by omega)]; exact h4, h5.setPs (by omega) t⟩, h6.trans ((setPs_below (Below.refl _ _)).mono (by omega : n ≤ n + 2))⟩
theorem TakeAt.tab {W w : World} {n : Nat} {name : List UInt8} {s : Ps} {out : List (List UInt8)} (h : TakeAt W n name s out w) (hn : W.heap.size = n) (hT : Tab W) : Tab w := hT.below (by rw [hn]; exact h.below)
theorem TakeAt.push {W w w4 w5 : World} {n : Nat} {name : List UInt8} {s : Ps} {out out' : List (List UInt8)} {v v' : Value} (h : TakeAt W n name s out w) (hn : W.heap.size = n) (hv : w.heap[n + 3]? = some (.cells #[v] 36 (0, 0))) (R : RowD (Kd.slice Kd.byte) w (fun _ => False) (n + 4) v out) (hb : Below w.heap.size w w4)
    (hr : RowD (Kd.slice Kd.byte) w5 (fun _ => False) (n + 4) v' out') (hg : w4.grownBy w5 v.ownBlock) : TakeAt W n name s out' (w5.setCell ⟨n + 3, 0, none⟩ v') := by
  have hl := R.low w
  have hz := lt_of_block hv
  have hz4 := hb.size
  have hk : ∀ k, k < n + 4 → w5.heap[k]? = w.heap[k]? := fun k hk => (hg.block k (by omega) (fun e => by have := hl k e.symm; omega)).trans (hb.block k (by omega))
  have hk2 : ∀ k, k < n + 3 → (w5.setCell ⟨n + 3, 0, none⟩ v').heap[k]? = w.heap[k]? := fun k hk3 => (Below.heap_setCell w5 ⟨n + 3, 0, none⟩ v' k (by simp; omega)).trans (hk k (by omega))
  refine ⟨(hk2 n (by omega)).trans h.nm, (hk2 (n + 1) (by omega)).trans h.rs, (hk2 (n + 2) (by omega)).trans h.st, ⟨v', one_setCell ((hk (n + 3) (by omega)).trans hv), hr.set v' (fun h => h) (by simp)⟩, ?_⟩
  have b4 : Below n W w4 := h.below.trans (hb.mono (by omega))
  exact (b4.grown hg (by omega) (fun g hg2 => by have := hl g hg2; omega)).setCell (p := ⟨n + 3, 0, none⟩) (by simp) v'
theorem sone_nil {s : Ps} {name : List UInt8} {n k : Int} (h : sone s name n [] = (k, 0)) : False := by
  unfold sone at h
  split at h
  · injection h with _ h; exact absurd h (by decide)
  · split at h
    · injection h with _ h; exact absurd h (by decide)
    · injection h with _ h; exact absurd h (by decide)
set_option maxHeartbeats 2000000 in
theorem take_calls (W : World) (hT : Tab W) {n : Nat} (hn : W.heap.size = n) (name : List UInt8) (s : Ps) (hS : s.S) (hR : s.R) (num : Int) (v : List (List UInt8)) {m : Nat} (hm : v.length = m) (hl : m ≤ 10000) {out : List (List UInt8)} (ho : out.length ≤ 400000) {A : Option Addr} {c : Nat} {F : Nat → Prop} (w : World) (hv : Sl (Kd.slice Kd.byte) w (fun k => F k ∧ k < n) A c v) (hJ : TakeAt W n name s out w) {t : Ps} {o : List (List UInt8)} {e : Int} (hr : stake s name num v = (t, o, e)) :
    Calls Tryz.prog 72 #[.int .i64 num, .slice A m c, .pointer (some ⟨n + 2, 0, none⟩), .pointer (some ⟨n, 0, none⟩), .pointer (some ⟨n + 3, 0, none⟩)] w fun r w' => r = .returned (.int .i64 e) ∧ TakeAt W n name t (out ++ o) w' := by
  have HS := Au.mk hS
  have HR := Au.mk hR
  have Hn := Au.mk hn
  have Hm := Au.mk hm
  have HT := Au.mk hT
  have hmc := hv.1
  have hcm := hv.2.1
  rw [hm] at hmc
  obtain ⟨⟨k, er⟩, K1⟩ := au (sone s name num v)
  obtain ⟨hk0, hkm, -⟩ := sone_le K1.out
  rw [hm] at hkm
  have CO := Au.mk (sone_calls s hS hR name num v hm K1.out w (hJ.tab hn hT) hv)
  have J := Au.mk hJ
  have V := Au.mk hv
  have Hr := Au.mk hr
  unfold Ps.agg at CO
  obtain ⟨f0, f1, f2, f3, f4, f5, f6, f7, f8, f9, f10, f11, f12, f13⟩ := st_cells s J.out.st
  have fn := blk_cell J.out.nm 0 rfl
  clear hS hR hn hm hT hJ hv hr
  go_enter Tryz.func72, Tryz.ntmps72
  go_wp2_with fail
  refine CO.out.mono ?_
  rintro e' w1 ⟨rfl, b1⟩
  have J1 := Au.mk (J.out.step b1)
  have V1 := Au.mk (V.out.below b1)
  clear f0 f1 f2 f3 f4 f5 f6 f7 f8 f9 f10 f11 f12 f13 fn J V CO b1
  by_cases her : er ≠ 0
  · have hr := Hr.out
    rw [stake_no K1.out her] at hr
    simp only [Prod.mk.injEq] at hr
    obtain ⟨rfl, rfl, rfl⟩ := hr
    have t0 : (er != 0) = true := bne_iff_ne.2 her
    have JE := Au.mk (show TakeAt W n name s (out ++ []) w1 by rw [List.append_nil]; exact J1.out)
    clear her
    go_wp2_with fail
    go_ret
    exact ⟨rfl, JE.out⟩
  have her : er = 0 := Decidable.not_not.1 her
  subst her
  obtain ⟨kn, rfl⟩ : ∃ kn : Nat, k = (kn : Int) := ⟨k.toNat, by omega⟩
  have hkn : kn ≤ m := by omega
  obtain ⟨⟨t1, ev, used, e1⟩, P1⟩ := au (prun s (v.drop kn))
  have hr := Hr.out
  rw [stake_yes K1.out P1.out] at hr
  simp only [Prod.mk.injEq] at hr
  obtain ⟨rfl, ho1, rfl⟩ := hr
  have HO := Au.mk ho1
  have hdl : (v.drop kn).length = m - kn := by rw [List.length_drop, Hm.out]
  have hu : used ≤ m - kn := by
    have := prun_used s (v.drop kn)
    rw [P1.out, hdl] at this; exact this
  have HL : Au (o.length = used) := ⟨by rw [← HO.out, List.length_take, hdl]; omega⟩
  have H5 : Au (∀ b ∈ o, b.length = 512) := ⟨by
    have := prun_512 (s := s) (l := v.drop kn)
    rw [P1.out] at this
    rw [← HO.out]; exact this⟩
  obtain ⟨v0, hv0⟩ : ∃ v0, v[0]? = some v0 := by
    cases v with
    | nil => exact (sone_nil K1.out).elim
    | cons a l => exact ⟨a, rfl⟩
  obtain ⟨bb, oo, _, _, rfl, _, _⟩ := V1.out.slice_at hv0
  clear hv0 ho1 hk0 hkm
  obtain ⟨f0, f1, f2, f3, f4, f5, f6, f7, f8, f9, f10, f11, f12, f13⟩ := st_cells s J1.out.st
  have hmx : Tryz.prog.follows .mixedOrders = true := by kernel_rfl
  obtain ⟨P, HP⟩ := au (if c = kn then (some ⟨bb, oo, none⟩ : Option Addr) else some ⟨bb, oo + kn, none⟩)
  have SD : Au (Sl (Kd.slice Kd.byte) w1 (fun k => F k ∧ k < n) P (c - kn) (v.drop kn)) := ⟨by
    rw [← HP.out]
    split
    · have hdn : v.drop kn = [] := List.length_eq_zero_iff.1 (by omega)
      rw [hdn]; exact ⟨Nat.zero_le _, by omega, [], fun W _ => ⟨Cells.nil _ _, rfl⟩⟩
    · exact V1.out.drop rfl (by rw [Hm.out]; exact hkn)⟩
  have CR := Au.mk (fun (W' : World) (h : Sl (Kd.slice Kd.byte) W' (fun k => F k ∧ k < n) P (c - kn) (v.drop kn)) => prun_calls s HS.out HR.out (v.drop kn) (by omega) W' h)
  rw [hdl, P1.out] at CR
  unfold Ps.agg at CR
  go_upto_region 4 with fail
  go_cut [9, 10, 12] (fun v9 v10 v12 wx => v9 = .int .i64 e1 ∧ v12 = .int .i64 (used : Int) ∧ ∃ q : Nat, n + 4 ≤ q ∧ v10 = .pointer (some ⟨q, 0, none⟩) ∧ wx.heap[q]? = some (.cells t1.cells.toArray 25 (0, 0)) ∧ TakeAt W n name s out wx ∧ Sl (Kd.slice Kd.byte) wx (fun k => F k ∧ k < n) (some ⟨bb, oo, none⟩) c v)
  case first =>
    clear Hr K1 HO HL H5
    refine Code.wp_mono Calm.imp ?_
    refine region_tre (fun w' => BlkIs w' (n + 2) s.cells.toArray 25) (Ord.rds [0, 1, 2, 3] (.two 4 10 (Ord.rds [5, 6, 7, 8, 9] (.now 10 (.now 11 (Ord.rds [12, 13, 14] .stop)))) (.now 4 (Ord.rds [5, 6, 7, 8, 9] (.now 11 (Ord.rds [12, 13, 14] .stop)))))) hmx (by kernel_rfl) ⟨J1.out.st⟩ ?_
    clear f0 f1 f2 f3 f4 f5 f6 f7 f8 f9 f10 f11 f12 f13
    iterate 4
      refine ordX_rd rfl ⟨?_, Or.inl ⟨by rfl, fun w' hw' => ?_⟩, ?_⟩
      rotate_left 1
      · obtain ⟨q0, q1, q2, q3, q4, q5, q6, q7, q8, q9, q10, q11, q12, q13⟩ := st_cells s hw'.out
        clear hw'
        go_simp
        all_goals (with_reducible rfl)
      try simp only [Act.put, List.getElem_toArray, List.getElem_cons_succ, List.getElem_cons_zero, List.setIfInBounds_toArray, List.set_cons_zero, List.set_cons_succ]
    have zn : n + 4 ≤ w1.heap.size := by obtain ⟨v, h, -⟩ := J1.out.out; have := lt_of_block h; omega
    refine ordX_two rfl (by rfl) rfl (by rfl) ?_ ?_
    · go_simp
      rw [HP.out]
      refine (CR.out _ (SD.out.drewN 1)).mono ?_
      rintro e' w2 ⟨A2, c2, he, s2, b2⟩
      dsimp only at he s2
      unfold Ps.agg at he
      subst he
      have zn2 : n + 4 ≤ w2.heap.size := Nat.le_trans zn b2.size
      have J2 := Au.mk (J1.out.step (w' := w2) ((below_drewN (Below.refl _ _) 1).trans b2))
      have V2 := Au.mk (V1.out.below (W := w2) ((below_drewN (Below.refl _ _) 1).trans b2))
      clear s2 b2 CR SD
      refine ⟨⟨J2.out.st⟩, ?_⟩
      iterate 5
        refine ordX_rd rfl ⟨?_, Or.inl ⟨by rfl, fun w' hw' => ?_⟩, ?_⟩
        rotate_left 1
        · clear hw'
          go_simp
          all_goals (with_reducible rfl)
        try simp only [Act.put, List.getElem_toArray, List.getElem_cons_succ, List.getElem_cons_zero, List.setIfInBounds_toArray, List.set_cons_zero, List.set_cons_succ]
      refine ordX_now rfl (by rfl) ?_
      go_simp
      have B3 := Au.mk ((Below.refl w2.heap.size w2).alloc (Nat.le_refl _) (.cells ps0.cells.toArray 25))
      have J3 := Au.mk (J2.out.step B3.out)
      have N3 := Au.mk (heap_alloc_new w2 (.cells ps0.cells.toArray 25))
      generalize hW3 : w2.alloc (.cells ps0.cells.toArray 25) = W3 at J3 B3 N3
      have hW3' : w2.alloc (.cells #[.int .i64 0, .string ⟨#[]⟩, .string ⟨#[]⟩, .int .u8 0, .int .i64 0, .int .i64 0, .int .i64 0, .int .i64 0, .string ⟨#[]⟩, .int .i64 0, .int .i64 0, .string ⟨#[]⟩, .string ⟨#[]⟩, .string ⟨#[]⟩] 25) = W3 := hW3
      rw [hW3']
      clear hW3 hW3'
      obtain ⟨q, Hq⟩ := au w2.heap.size
      rw [Hq.out] at N3 B3 zn2 ⊢
      refine ⟨⟨J3.out.st⟩, ?_⟩
      obtain ⟨f0, f1, f2, f3, f4, f5, f6, f7, f8, f9, f10, f11, f12, f13⟩ := st_cells ps0 N3.out
      obtain ⟨h0, h1', h2', h3, h4, h5, h6, h7, h8, h9, h10, h11, h12, h13⟩ := ps_free N3.out
      try simp only [Act.put, List.getElem_toArray, List.getElem_cons_succ, List.getElem_cons_zero, List.setIfInBounds_toArray, List.set_cons_zero, List.set_cons_succ]
      refine ordX_now rfl (by rfl) ?_
      go_simp
      rw [store_ps]
      clear f0 f1 f2 f3 f4 f5 f6 f7 f8 f9 f10 f11 f12 f13 h0 h1' h2' h3 h4 h5 h6 h7 h8 h9 h10 h11 h12 h13
      have hb4 : Below w2.heap.size w2 (setPs W3 q t1) := by rw [Hq.out]; exact setPs_below B3.out
      have J4 := Au.mk (J2.out.step hb4)
      have V4 := Au.mk (V2.out.below hb4)
      have N4 := Au.mk (setPs_block (s := t1) N3.out)
      generalize setPs W3 q t1 = W4 at J4 V4 N4 ⊢
      clear J3 B3 N3 J2 V2 hb4
      refine ⟨⟨J4.out.st⟩, ?_⟩
      iterate 3
        refine ordX_rd rfl ⟨?_, Or.inl ⟨by rfl, fun w' hw' => ?_⟩, ?_⟩
        rotate_left 1
        · clear hw'
          go_simp
          all_goals (with_reducible rfl)
        try simp only [Act.put, List.getElem_toArray, List.getElem_cons_succ, List.getElem_cons_zero, List.setIfInBounds_toArray, List.set_cons_zero, List.set_cons_succ]
      refine ordX_stop ?_
      simp only [wpList, Calm]
      go_wp2_with fail
      go_meet
      exact ⟨rfl, rfl, q, zn2, rfl, N4.out, J4.out, V4.out⟩
    · go_simp
      have B2 := Au.mk (below_drewN ((Below.refl w1.heap.size w1).alloc (Nat.le_refl _) (.cells ps0.cells.toArray 25)) 1)
      have SD2 := Au.mk ((SD.out.alloc (.cells ps0.cells.toArray 25)).drewN 1)
      have J2 := Au.mk (J1.out.step B2.out)
      have N2 : Au ((w1.alloc (.cells ps0.cells.toArray 25)).drew.heap[w1.heap.size]? = some (.cells ps0.cells.toArray 25 (0, 0))) := ⟨heap_alloc_new w1 (.cells ps0.cells.toArray 25)⟩
      have hdr : (w1.alloc (.cells ps0.cells.toArray 25)).drewN 1 = (w1.alloc (.cells ps0.cells.toArray 25)).drew := rfl
      rw [hdr] at B2 SD2 J2
      generalize hW2 : (w1.alloc (.cells ps0.cells.toArray 25)).drew = W2 at B2 SD2 J2 N2
      have hW2' : (w1.alloc (.cells #[.int .i64 0, .string ⟨#[]⟩, .string ⟨#[]⟩, .int .u8 0, .int .i64 0, .int .i64 0, .int .i64 0, .int .i64 0, .string ⟨#[]⟩, .int .i64 0, .int .i64 0, .string ⟨#[]⟩, .string ⟨#[]⟩, .string ⟨#[]⟩] 25)).drew = W2 := hW2
      rw [hW2']
      clear hW2 hW2'
      clear hdr
      obtain ⟨q, Hq⟩ := au w1.heap.size
      rw [Hq.out] at N2 B2 zn ⊢
      refine ⟨⟨J2.out.st⟩, ?_⟩
      try simp only [Act.put, List.getElem_toArray, List.getElem_cons_succ, List.getElem_cons_zero, List.setIfInBounds_toArray, List.set_cons_zero, List.set_cons_succ]
      refine ordX_now rfl (by rfl) ?_
      go_simp
      rw [HP.out]
      refine (CR.out _ SD2.out).mono ?_
      rintro e' w2 ⟨A2, c2, he, s2, b2⟩
      dsimp only at he s2
      unfold Ps.agg at he
      subst he
      have B3 := Au.mk (below_then B2.out b2 (Nat.le_of_lt (lt_of_block N2.out)))
      have J3 := Au.mk (J2.out.step b2)
      have N3 := Au.mk (blk_below N2.out b2 (lt_of_block N2.out))
      clear s2 b2 CR SD SD2 N2 J2 B2
      refine ⟨⟨J3.out.st⟩, ?_⟩
      iterate 5
        refine ordX_rd rfl ⟨?_, Or.inl ⟨by rfl, fun w' hw' => ?_⟩, ?_⟩
        rotate_left 1
        · clear hw'
          go_simp
          all_goals (with_reducible rfl)
        try simp only [Act.put, List.getElem_toArray, List.getElem_cons_succ, List.getElem_cons_zero, List.setIfInBounds_toArray, List.set_cons_zero, List.set_cons_succ]
      obtain ⟨f0, f1, f2, f3, f4, f5, f6, f7, f8, f9, f10, f11, f12, f13⟩ := st_cells ps0 N3.out
      obtain ⟨h0, h1', h2', h3, h4, h5, h6, h7, h8, h9, h10, h11, h12, h13⟩ := ps_free N3.out
      refine ordX_now rfl (by rfl) ?_
      go_simp
      rw [store_ps]
      clear f0 f1 f2 f3 f4 f5 f6 f7 f8 f9 f10 f11 f12 f13 h0 h1' h2' h3 h4 h5 h6 h7 h8 h9 h10 h11 h12 h13
      have hb4 : Below w1.heap.size w1 (setPs w2 q t1) := by rw [Hq.out]; exact setPs_below B3.out
      have J4 := Au.mk (J1.out.step hb4)
      have V4 := Au.mk (V1.out.below hb4)
      have N4 := Au.mk (setPs_block (s := t1) N3.out)
      generalize setPs w2 q t1 = W4 at J4 V4 N4 ⊢
      clear J3 B3 N3 J1 V1 hb4
      refine ⟨⟨J4.out.st⟩, ?_⟩
      iterate 3
        refine ordX_rd rfl ⟨?_, Or.inl ⟨by rfl, fun w' hw' => ?_⟩, ?_⟩
        rotate_left 1
        · clear hw'
          go_simp
          all_goals (with_reducible rfl)
        try simp only [Act.put, List.getElem_toArray, List.getElem_cons_succ, List.getElem_cons_zero, List.setIfInBounds_toArray, List.set_cons_zero, List.set_cons_succ]
      refine ordX_stop ?_
      simp only [wpList, Calm]
      go_wp2_with fail
      go_meet
      exact ⟨rfl, rfl, q, zn, rfl, N4.out, J4.out, V4.out⟩
  obtain ⟨rfl, rfl, q, zn, rfl, n4, j4, v4⟩ := hcut
  have J4 := Au.mk j4
  have V4 := Au.mk v4
  have N4 := Au.mk n4
  clear j4 v4 n4 J1 V1 CR SD f0 f1 f2 f3 f4 f5 f6 f7 f8 f9 f10 f11 f12 f13
  obtain ⟨f0, f1, f2, f3, f4, f5, f6, f7, f8, f9, f10, f11, f12, f13⟩ := st_cells t1 N4.out
  obtain ⟨a0, a1, a2, a3, a4, a5, a6, a7, a8, a9, a10, a11, a12, a13⟩ := st_cells s J4.out.st
  obtain ⟨h0, h1', h2', h3, h4, h5, h6, h7, h8, h9, h10, h11, h12, h13⟩ := ps_free J4.out.st
  go_upto_region 6 with fail
  rw [store_ps]
  clear f0 f1 f2 f3 f4 f5 f6 f7 f8 f9 f10 f11 f12 f13 h0 h1' h2' h3 h4 h5 h6 h7 h8 h9 h10 h11 h12 h13 a0 a1 a2 a3 a4 a5 a6 a7 a8 a9 a10 a11 a12 a13
  have J5 := Au.mk (J4.out.set t1)
  have V5 := Au.mk (Sl.setPs (g := n + 2) V4.out (by omega) t1)
  generalize setPs wc (n + 2) t1 = W5 at J5 V5 ⊢
  clear J4 V4 N4
  have hw1 : IntKind.i64.wrap ((kn : Int) + used) = (kn : Int) + used := by rw [IntKind.wrap_i64]; omega
  go_cut [42, 43, 44] (fun v42 v43 v44 wx => v43 = .int .i64 (used : Int) ∧ v44 = .int .i64 0 ∧ (∃ AA : Option Addr, v42 = .slice AA used (c - kn) ∧ Sl (Kd.slice Kd.byte) W5 (fun k => F k ∧ k < n) AA (c - kn) o) ∧ wx = W5)
  case first =>
    by_cases hkc : c = kn
    · have ho0 : o = [] := List.length_eq_zero_iff.1 (by rw [HL.out]; omega)
      have HO0 := Au.mk ho0
      clear ho0
      go_wp2_with fail
      go_meet
      refine ⟨rfl, rfl, ⟨_, by rw [show kn + used - kn = used by omega, show c - kn = 0 by omega], ?_⟩, rfl⟩
      rw [HO0.out]; exact ⟨Nat.zero_le _, by omega, [], fun W _ => ⟨Cells.nil _ _, rfl⟩⟩
    · go_wp2_with fail
      go_meet
      refine ⟨rfl, rfl, ⟨_, by rw [show kn + used - kn = used by omega], ?_⟩, rfl⟩
      rw [← HO.out]
      exact (V5.out.drop rfl (by rw [Hm.out]; exact hkn)).take rfl used
  obtain ⟨rfl, rfl, ⟨AA, rfl, vo⟩, rfl⟩ := hcut
  have VO := Au.mk vo
  clear vo V5
  go_wp2_with fail
  go_loopw [44] (fun i wr => ∃ j : Nat, j ≤ used ∧ i = .int .i64 (j : Int) ∧ Au (TakeAt W n name t1 (out ++ o.take j) wr) ∧ Au (Sl (Kd.slice Kd.byte) wr (fun k => F k ∧ k < n) AA (c - kn) o)) (fun i _ => used - (intOf i).toNat)
  case atStart => exact ⟨0, Nat.zero_le _, rfl, ⟨by rw [List.take_zero, List.append_nil]; exact J5.out⟩, VO⟩
  case round =>
    obtain ⟨j, hj, rfl, J, V⟩ := hrel
    by_cases hju : j = used
    · subst hju
      have JE := Au.mk (show TakeAt W n name t1 (out ++ o) wr by have := J.out; rw [← HL.out, List.take_length] at this; exact this)
      go_wp2_with fail
      go_ret
      exact ⟨rfl, JE.out⟩
    · have hlt : j < used := by omega
      have hlti : (j : Int) < used := by omega
      obtain ⟨y, hy⟩ : ∃ y, o[j]? = some y := ⟨_, List.getElem?_eq_getElem (by rw [HL.out]; exact hlt)⟩
      have hyl : y.length = 512 := H5.out y (List.mem_of_getElem? hy)
      obtain ⟨ba, oa, A', c', rfl, fc, sb⟩ := V.out.slice_at hy
      obtain ⟨bb', oo', rfl, -⟩ := sb.byte_at 0 (by omega)
      obtain ⟨v', o4, r4⟩ := J.out.out
      have SB := Au.mk sb
      have O4 := Au.mk o4
      have R4 := Au.mk r4
      have c4 := cell_of_one o4
      have hw2 : IntKind.i64.wrap ((j : Int) + 1) = (j : Int) + 1 := by rw [IntKind.wrap_i64]; omega
      have hsucc : out ++ o.take (j + 1) = (out ++ o.take j) ++ [y] := by
        rw [List.append_assoc, List.take_add_one, hy]; rfl
      have HS1 := Au.mk hsucc
      obtain ⟨dn, Hdn⟩ := au (out ++ o.take j)
      have hdl : dn.length ≤ 410000 := by rw [← Hdn.out, List.length_append, List.length_take]; omega
      rw [hyl] at fc
      rw [Hdn.out] at J R4 HS1
      have C67 := Au.mk (fun W' (h : Sl Kd.byte W' (fun k => F k ∧ k < n) (some ⟨bb', oo', none⟩) c' y) => clone_calls y hyl (by decide) W' h)
      clear hsucc o4 r4 sb hy
      go_upto_region 9 with fail
      refine region_ops (fun w' => w'.cell? ⟨n + 3, 0, none⟩ = some v') [true, true, false, false] hmx (by decide) (by kernel_rfl) c4 ?_
      simp only [opsL]
      iterate 2
        refine ⟨?_, Or.inl ⟨by rfl, fun w' hw' => ?_⟩, ?_⟩
        rotate_left 1
        · have hc1 := hw'
          go_simp
          all_goals (with_reducible rfl)
        try simp only [Act.put, List.setIfInBounds_toArray, List.set_cons_zero, List.set_cons_succ]
      refine ⟨by rfl, ?_⟩
      go_simp
      refine (C67.out _ (SB.out.drewN 1)).mono ?_
      rintro e' w3 ⟨A3, c3, rfl, s3, b3⟩
      have d1 : w3.cell? ⟨n + 3, 0, none⟩ = some v' := cell_below (w := wr.drew) c4 b3
      refine ⟨d1, ?_⟩
      go_simp
      refine ⟨cell_alloc d1 _, ?_⟩
      have hzb : wr.drew.heap.size = wr.heap.size := rfl
      have zw3 : wr.heap.size ≤ w3.heap.size := b3.size
      have b4 : Below wr.heap.size wr (w3.alloc (.cells #[.slice A3 512 c3] 46)) := (below_then (below_drewN (Below.refl _ _) 1) b3 (Nat.le_refl _)).alloc zw3 _
      have E4 := Au.mk (sl_one_up (B := wr.heap.size) (e := 46) zw3 hyl s3).els
      have RB := Au.mk (R4.out.below b4)
      have OB := Au.mk (blk_below O4.out b4 (lt_of_block O4.out))
      have B4 := Au.mk b4
      have z4 : wr.heap.size ≤ (w3.alloc (.cells #[.slice A3 512 c3] 46)).heap.size := b4.size
      have HU := Au.mk (fun g (hg : v'.ownBlock = some g) => (⟨R4.out.low wr g hg, R4.out.high wr g hg⟩ : n + 4 ≤ g ∧ g < wr.heap.size))
      have hzn : n + 4 ≤ wr.heap.size := by have := lt_of_block O4.out; omega
      obtain ⟨g9, Hg9⟩ := au w3.heap.size
      rw [Hg9.out] at E4 ⊢
      obtain ⟨zb, Zb⟩ := au wr.heap.size
      rw [Zb.out] at E4 z4 HU hzn
      clear s3 b3 d1 b4 zw3 hzb
      generalize w3.alloc (.cells #[.slice A3 512 c3] 46) = W4 at E4 RB OB B4 z4 ⊢
      have HK : Au (∀ W6, W4.grownBy W6 v'.ownBlock → W6.heap[n + 3]? = some (.cells #[v'] 36 (0, 0))) :=
        ⟨fun W6 hg6 => (hg6.block _ (lt_of_block OB.out) (fun e => by have := HU.out _ e.symm; omega)).trans OB.out⟩
      at_builtin
      refine wpList_append_rowD (d := Kd.slice Kd.byte) (G := fun _ => False) (F2 := fun k => zb ≤ k) (base := n + 4) (xs := dn) (ys := [y]) _ rfl etBlks _ _ rfl rfl RB.out rfl rfl E4.out (fun k hk => .inr (Nat.le_trans hzn hk)) (fun g hg h => by have := HU.out g hg; omega) (by simp only [maxLen, List.length_singleton]; omega) (by simp only [List.length_singleton]; omega) (by omega) ?_
      intro v5 W6 hr5 hg5 ho5
      obtain ⟨A5, c5, rfl⟩ := hr5.form
      have hl2 : (dn ++ [y]).length = dn.length + 1 := by simp
      rw [hl2] at hr5 ⊢
      have Hr5 := Au.mk hr5
      have Hg5 := Au.mk hg5
      have d3 := cell_of_one (HK.out W6 Hg5.out)
      have d4 := free_of_one (HK.out W6 Hg5.out)
      clear hr5 hg5 ho5
      go_wp2_with fail
      try simp only [Calm]
      have hb4 : Below wr.heap.size wr W4 := B4.out
      have J6 := Au.mk (J.out.push Hn.out O4.out R4.out hb4 Hr5.out Hg5.out)
      rw [← HS1.out] at J6
      have V6 : Au (Sl (Kd.slice Kd.byte) (W6.setCell ⟨n + 3, 0, none⟩ (.slice A5 (dn.length + 1) c5)) (fun k => F k ∧ k < n) (some ⟨ba, oa, none⟩) (c - kn) o) := ⟨((V.out.below hb4).grown Hg5.out (fun g hg h => by have := HU.out g hg; have := h.2; omega)).set _ (by simp)⟩
      generalize W6.setCell ⟨n + 3, 0, none⟩ (.slice A5 (dn.length + 1) c5) = W7 at J6 V6 ⊢
      clear d3 d4
      go_wp2_with fail
      exact ⟨⟨j + 1, hlt, rfl, J6, V6⟩, by show used - ((j : Int) + 1).toNat < used - (j : Int).toNat; omega⟩
/-- How a strip ends. -/
def StripRes (W : World) (r : Ps × List (List UInt8) × Int) (e : Ending) (W' : World) : Prop :=
  ∃ A c, e = .returned (.tuple #[r.1.agg, .slice A r.2.1.length c, .int .i64 r.2.2]) ∧ Sl (Kd.slice Kd.byte) W' (fun k => W.heap.size ≤ k) A c r.2.1 ∧ Below W.heap.size W W'
theorem results_strip {w : World} {g : Nat} {s : Ps} (X : w.heap[g]? = some (.cells s.cells.toArray 25 (0, 0))) {u v : Value} {tmps : Array Value} (t4 : tmps.getD 4 undef = .pointer (some ⟨g, 0, none⟩)) (t5 : tmps.getD 5 undef = u) (t6 : tmps.getD 6 undef = v) :
    (results Tryz.f46 tmps).run Tryz.prog w = .ok (.tuple #[s.agg, u, v]) w := by
  have hr : Tryz.f46.results = #[.cell 4 25, .tmp 5, .tmp 6] := rfl
  have hp := run_loadVar_row (P := Tryz.prog) w g 25 25 s.cells.toArray (0, 0) _ X Tryz.underlying25 rfl (by kernel_rfl)
  have u4 : tmps[4]?.getD undef = .pointer (some ⟨g, 0, none⟩) := by simpa using t4
  have u5 : tmps[5]?.getD undef = u := by simpa using t5
  have u6 : tmps[6]?.getD undef = v := by simpa using t6
  simp only [results, hr]
  simp [Sem.run_bind, Result.andThen, u4, u5, u6, asAddr, hp]
  rfl
theorem strip_end {W w : World} {n : Nat} {s : Ps} (X : w.heap[n + 1]? = some (.cells s.cells.toArray 25 (0, 0))) (hn : W.heap.size = n) (hb : Below n W w) {r : Ps × List (List UInt8) × Int} {out : List (List UInt8)} {e : Int} (hr : r = (s, out, e)) {v : Value} (R : RowD (Kd.slice Kd.byte) w (fun _ => False) (n + 4) v out) {a : Act} (hd : a.defers = [])
    (t4 : a.tmps.getD 4 undef = .pointer (some ⟨n + 1, 0, none⟩)) (t5 : a.tmps.getD 5 undef = v) (t6 : a.tmps.getD 6 undef = .int .i64 e) : bodyPost Tryz.prog Tryz.f46 (StripRes W r) .ret a w := by
  refine bodyPost_ret (results_strip X t4 t5 t6) hd ?_
  obtain ⟨A, c, rfl, S⟩ := R.sl
  subst hr
  exact ⟨A, c, rfl, S.mono (fun k hk => by rcases hk with hk | hk; exact hk.elim; omega), by rw [hn]; exact hb⟩
theorem sstrip_A {name : List UInt8} {l : List (List (List UInt8))} {s : Ps} {o : List (List UInt8)} (h : sloop name ps0 0 l = (s, o, 0)) (h5 : s.phase ≠ 5) : sstrip name l = (s, [], 7) := by
  simp [sstrip, h, h5]
theorem sstrip_B {name : List UInt8} {l : List (List (List UInt8))} {s : Ps} {o : List (List UInt8)} {e : Int} (h : sloop name ps0 0 l = (s, o, e)) (he : e ≠ 0) : sstrip name l = (s, [], e) := by
  simp [sstrip, h, he]
theorem sstrip_C {name : List UInt8} {l : List (List (List UInt8))} {s : Ps} {o : List (List UInt8)} (h : sloop name ps0 0 l = (s, o, 0)) (h5 : s.phase = 5) : sstrip name l = (s, o, 0) := by
  simp [sstrip, h, h5]
theorem stake_len (s : Ps) (name : List UInt8) (n : Int) (v : List (List UInt8)) : (stake s name n v).2.1.length ≤ v.length := by
  unfold stake
  split
  · exact Nat.zero_le _
  · simp only [List.length_take, List.length_drop]; omega
theorem TakeAt.nil {W w : World} {n : Nat} {name : List UInt8} {s : Ps} {out : List (List UInt8)} (h : TakeAt W n name s out w) : TakeAt W n name s [] (w.setCell ⟨n + 3, 0, none⟩ (.slice none 0 0)) := by
  obtain ⟨h1, h2, h3, ⟨v, h4, h5⟩, h6⟩ := h
  have hk : ∀ k, k < n + 3 → (w.setCell ⟨n + 3, 0, none⟩ (.slice none 0 0)).heap[k]? = w.heap[k]? := fun k hk => Below.heap_setCell w ⟨n + 3, 0, none⟩ _ k (by simp; omega)
  exact ⟨(hk n (by omega)).trans h1, (hk (n + 1) (by omega)).trans h2, (hk (n + 2) (by omega)).trans h3, ⟨_, one_setCell h4, RowD.nil _ _ _ _⟩, h6.setCell (p := ⟨n + 3, 0, none⟩) (by simp) _⟩
theorem take_new (W : World) (name : List UInt8) : TakeAt W W.heap.size name ps0 [] ((((W.alloc (.cells #[.string (ofL name)] 9)).alloc (.cells ps0.cells.toArray 25)).alloc (.cells ps0.cells.toArray 25)).alloc (.cells #[.slice none 0 0] 36)) := by
  have z1 : ∀ (w : World) (o : Obj), (w.alloc o).heap.size = w.heap.size + 1 := fun w o => by simp
  have hx : ∀ (w : World) (o : Obj) (k : Nat), k = w.heap.size → (w.alloc o).heap[k]? = some o := fun w o k hk => by rw [hk]; exact heap_alloc_new w o
  refine ⟨blk_alloc (blk_alloc (blk_alloc (hx _ _ _ rfl) _) _) _, blk_alloc (blk_alloc (hx _ _ _ (by rw [z1])) _) _, blk_alloc (hx _ _ _ (by rw [z1, z1])) _, ⟨_, hx _ _ _ (by rw [z1, z1, z1]), RowD.nil _ _ _ _⟩, ?_⟩
  exact ((((Below.refl _ _).alloc (Nat.le_refl _) _).alloc (by rw [z1]; omega) _).alloc (by rw [z1, z1]; omega) _).alloc (by rw [z1, z1, z1]; omega) _
set_option maxHeartbeats 4000000 in
theorem strip_calls (name : List UInt8) (vols : List (List (List UInt8))) {N p : Nat} (hN : vols.length = N) (hp : p ≤ N) (hp2 : p ≤ 100) (hB : ∀ v ∈ vols.take p, v.length ≤ 4000) (hstop : p = N ∨ (sloop name ps0 0 (vols.take p)).2.2 ≠ 0 ∨ (sloop name ps0 0 (vols.take p)).1.phase = 5) {A : Option Addr} {c : Nat} {F : Nat → Prop} (W : World) (hT : Tab W) (hv : Sl KBk3 W F A c vols) :
    Calls Tryz.prog 46 #[.string (ofL name), .slice A N c] W (StripRes W (sstrip name (vols.take p))) := by
  have hcN := hv.le
  rw [hN] at hcN
  obtain ⟨l, L1⟩ := au (vols.take p)
  have hlp : l.length = p := by rw [← L1.out, List.length_take]; omega
  have hlv : ∀ k, k < p → l[k]? = vols[k]? := fun k hk => by rw [← L1.out, List.getElem?_take, if_pos hk]
  rw [L1.out] at hB hstop ⊢
  obtain ⟨n, Hn⟩ := au W.heap.size
  have HV := Au.mk hv.old
  have HT := Au.mk hT
  have HB := Au.mk hB
  have Hs := Au.mk hstop
  have Hlp := Au.mk hlp
  have Hlv := Au.mk hlv
  have X0 := Au.mk (take_new W name)
  have HNN := Au.mk hN
  clear hv hT hB hstop hlp hlv hN
  go_enter Tryz.func46, Tryz.ntmps46
  go_wp2_with fail
  go_step3
  go_wp2_with fail
  generalize hW1 : World.alloc (World.alloc (World.alloc (World.alloc W _) _) _) _ = W1
  have X1 : Au (TakeAt W W.heap.size name ps0 [] W1) := ⟨by rw [← hW1]; exact X0.out⟩
  rw [Hn.out] at X1 ⊢
  clear hW1 X0
  simp only [Nat.add_assoc, Nat.reduceAdd]
  go_step3
  go_wp2_with fail
  go_loopw [9, 16] (fun y i wr => ∃ (k : Nat) (s' : Ps) (out : List (List UInt8)), k ≤ p ∧ y = .int .i64 0 ∧ i = .int .i64 (k : Int) ∧ out.length ≤ k * 4000 ∧ Au (s'.S ∧ s'.R) ∧ ¬ s'.phase = 5 ∧ Au (sloop name ps0 0 l = sloGo name l k s' out) ∧ Au (TakeAt W n name s' out wr)) (fun _ i _ => N - (intOf i).toNat)
  case atStart =>
    exact ⟨0, ps0, [], Nat.zero_le _, rfl, rfl, Nat.zero_le _, ⟨ps0_S, ps0_R⟩, by decide, ⟨by unfold sloGo; simp⟩, X1⟩
  case round =>
    obtain ⟨k, s', out, hk, rfl, rfl, hol, HS, h5, HG, X⟩ := hrel
    obtain ⟨f0, f1, f2, f3, f4, f5, f6, f7, f8, f9, f10, f11, f12, f13⟩ := st_cells s' X.out.st
    have t5 : (s'.phase == 5) = false := by simp [h5]
    have t5n : (s'.phase != 5) = true := by simp [h5]
    by_cases hkn : k = N
    · subst hkn
      have hpk : p = k := by omega
      have hmx : Tryz.prog.follows .mixedOrders = true := by kernel_rfl
      have Hr := Au.mk (sstrip_A (show sloop name ps0 0 l = (s', out, 0) by rw [HG.out, ← hpk, ← Hlp.out, sloGo_end]) h5)
      obtain ⟨v, o4, rw4⟩ := X.out.out
      have O4 := Au.mk o4
      have c4 := cell_of_one o4
      have g4 := free_of_one o4
      clear h5 o4 rw4 hpk
      go_wp2_with fail
      go_upto_region 15 with fail
      have J6 := Au.mk X.out.nil
      generalize wr.setCell ⟨n + 3, 0, none⟩ (.slice none 0 0) = W6 at J6 ⊢
      clear f0 f1 f2 f3 f4 f5 f6 f7 f8 f9 f10 f11 f12 f13 c4 g4
      obtain ⟨v6, o6, r6⟩ := J6.out.out
      have R6 := Au.mk r6
      have O6 := Au.mk o6
      clear r6 o6
      refine Code.wp_mono Calm.imp ?_
      refine region_tre (fun w' => BlkIs w' (n + 2) s'.cells.toArray 25 ∧ BlkIs w' (n + 3) #[v6] 36) (Ord.rds [0, 1, 2] (.now 3 (Ord.rds [4, 5] .stop))) hmx (by kernel_rfl) ⟨⟨J6.out.st⟩, ⟨O6.out⟩⟩ ?_
      iterate 3
        refine ordX_rd rfl ⟨?_, Or.inl ⟨by rfl, fun w' hw' => ?_⟩, ?_⟩
        rotate_left 1
        · obtain ⟨q0, q1, q2, q3, q4, q5, q6, q7, q8, q9, q10, q11, q12, q13⟩ := st_cells s' hw'.1.out
          have qo := cell_of_one hw'.2.out
          clear hw'
          go_simp
          all_goals (with_reducible rfl)
        try simp only [Act.put, List.getElem_toArray, List.getElem_cons_succ, List.getElem_cons_zero, List.setIfInBounds_toArray, List.set_cons_zero, List.set_cons_succ]
      obtain ⟨a0, a1, a2, a3, a4, a5, a6, a7, a8, a9, a10, a11, a12, a13⟩ := st_cells ps0 J6.out.rs
      obtain ⟨g0, g1, g2, g3, g4, g5, g6, g7, g8, g9, g10, g11, g12, g13⟩ := ps_free J6.out.rs
      refine ordX_now rfl (by rfl) ?_
      go_simp
      rw [store_ps]
      clear a0 a1 a2 a3 a4 a5 a6 a7 a8 a9 a10 a11 a12 a13 g0 g1 g2 g3 g4 g5 g6 g7 g8 g9 g10 g11 g12 g13
      have X8 : Au ((setPs W6 (n + 1) s').heap[n + 1]? = some (.cells s'.cells.toArray 25 (0, 0))) := ⟨setPs_block (c := ps0) J6.out.rs⟩
      have B8 : Au (Below n W (setPs W6 (n + 1) s')) := ⟨J6.out.below.trans ((setPs_below (Below.refl _ _)).mono (by omega : n ≤ n + 1))⟩
      have R8 : Au (RowD (Kd.slice Kd.byte) (setPs W6 (n + 1) s') (fun _ => False) (n + 4) v6 []) := ⟨RowD.setPs R6.out (by omega) s'⟩
      have S8 : Au (BlkIs (setPs W6 (n + 1) s') (n + 2) s'.cells.toArray 25 ∧ BlkIs (setPs W6 (n + 1) s') (n + 3) #[v6] 36) := ⟨⟨⟨(setPs_other (by omega)).trans J6.out.st⟩, ⟨(setPs_other (by omega)).trans O6.out⟩⟩⟩
      generalize setPs W6 (n + 1) s' = W8 at X8 B8 R8 S8 ⊢
      have X7 : Au (W8.drew.heap[n + 1]? = some (.cells s'.cells.toArray 25 (0, 0))) := ⟨X8.out⟩
      have B7 : Au (Below n W W8.drew) := ⟨below_drewN B8.out 1⟩
      have R7 : Au (RowD (Kd.slice Kd.byte) W8.drew (fun _ => False) (n + 4) v6 []) := ⟨R8.out.drewN 1⟩
      have S7 : Au (BlkIs W8.drew (n + 2) s'.cells.toArray 25 ∧ BlkIs W8.drew (n + 3) #[v6] 36) := ⟨⟨⟨S8.out.1.out⟩, ⟨S8.out.2.out⟩⟩⟩
      generalize W8.drew = W7 at X7 B7 R7 S7 ⊢
      clear X8 B8 R8 S8
      refine ⟨S7.out, ?_⟩
      iterate 2
        refine ordX_rd rfl ⟨?_, Or.inl ⟨by rfl, fun w' hw' => ?_⟩, ?_⟩
        rotate_left 1
        · clear hw'
          go_simp
          all_goals (with_reducible rfl)
        try simp only [Act.put, List.getElem_toArray, List.getElem_cons_succ, List.getElem_cons_zero, List.setIfInBounds_toArray, List.set_cons_zero, List.set_cons_succ]
      refine ordX_stop ?_
      simp only [wpList, Calm]
      go_wp2_with fail
      try rw [Exit.noGoto_ret]
      exact strip_end X7.out Hn.out B7.out Hr.out R7.out rfl rfl rfl rfl
    · have hkp : k < p := by
        apply Classical.byContradiction; intro hc
        have hpk : k = p := by omega
        have e0 : sloop name ps0 0 l = (s', out, 0) := by rw [HG.out, hpk, ← Hlp.out, sloGo_end]
        rcases Hs.out with h | h | h
        · omega
        · rw [e0] at h; exact h rfl
        · rw [e0] at h; exact h5 h
      obtain ⟨v, hv⟩ : ∃ v, l[k]? = some v := ⟨_, List.getElem?_eq_getElem (by rw [Hlp.out]; exact hkp)⟩
      have hvm := HB.out v (List.mem_of_getElem? hv)
      obtain ⟨m, Hm⟩ := au v.length
      rw [Hm.out] at hvm
      have HVw := HV.out.below (show Below W.heap.size W wr by rw [Hn.out]; exact X.out.below)
      rw [Hn.out] at HVw
      obtain ⟨ba, oa, A', c', rfl, fc, sb⟩ := HVw.slice_at (by rw [← Hlv.out k hkp]; exact hv)
      rw [Hm.out] at fc
      have hw1 : IntKind.i64.wrap ((k : Int) + 1) = (k : Int) + 1 := by rw [IntKind.wrap_i64]; omega
      obtain ⟨⟨t, o, e⟩, Ht⟩ := au (stake s' name ((k + 1 : Nat) : Int) v)
      have Hv := Au.mk hv
      have hkN : (k : Int) < N := by omega
      have ho4 : o.length ≤ 4000 := by
        have := stake_len s' name ((k + 1 : Nat) : Int) v
        rw [Ht.out, Hm.out] at this
        exact Nat.le_trans this hvm
      have HS2 := Au.mk (stake_ok HS.out.1 HS.out.2 name ((k + 1 : Nat) : Int) v)
      rw [Ht.out] at HS2
      have CT := Au.mk (take_calls W HT.out Hn.out name s' HS.out.1 HS.out.2 ((k : Int) + 1) v Hm.out (by omega) (out := out) (by omega) wr sb X.out (show stake s' name ((k : Int) + 1) v = (t, o, e) from Ht.out))
      clear hv sb HVw f0 f1 f2 f3 f4 f5 f6 f7 f8 f9 f10 f11 f12 f13
      go_wp2_with fail
      refine CT.out.mono ?_
      rintro e' w2 ⟨rfl, x2⟩
      have X2 := Au.mk x2
      clear x2 CT fc X
      obtain ⟨f0, f1, f2, f3, f4, f5, f6, f7, f8, f9, f10, f11, f12, f13⟩ := st_cells t X2.out.st
      have hmx : Tryz.prog.follows .mixedOrders = true := by kernel_rfl
      by_cases he : e ≠ 0
      · have e1 : (e != 0) = true := bne_iff_ne.2 he
        have e2 : (e == 0) = false := beq_eq_false_iff_ne.2 he
        have Hr := Au.mk (sstrip_B (show sloop name ps0 0 l = (t, out ++ o, e) by rw [HG.out]; exact sloGo_stop Hv.out Ht.out (.inl he)) he)
        obtain ⟨v4, o4, -⟩ := X2.out.out
        have c4 := cell_of_one o4
        have g4 := free_of_one o4
        clear he o4
        go_upto_region 15 with fail
        have J6 := Au.mk X2.out.nil
        generalize w2.setCell ⟨n + 3, 0, none⟩ (.slice none 0 0) = W6 at J6 ⊢
        clear f0 f1 f2 f3 f4 f5 f6 f7 f8 f9 f10 f11 f12 f13 c4 g4
        obtain ⟨v6, o6, r6⟩ := J6.out.out
        have R6 := Au.mk r6
        have O6 := Au.mk o6
        clear r6 o6
        refine Code.wp_mono Calm.imp ?_
        refine region_tre (fun w' => BlkIs w' (n + 2) t.cells.toArray 25 ∧ BlkIs w' (n + 3) #[v6] 36) (Ord.rds [0, 1, 2] (.now 3 (Ord.rds [4, 5] .stop))) hmx (by kernel_rfl) ⟨⟨J6.out.st⟩, ⟨O6.out⟩⟩ ?_
        iterate 3
          refine ordX_rd rfl ⟨?_, Or.inl ⟨by rfl, fun w' hw' => ?_⟩, ?_⟩
          rotate_left 1
          · obtain ⟨q0, q1, q2, q3, q4, q5, q6, q7, q8, q9, q10, q11, q12, q13⟩ := st_cells t hw'.1.out
            have qo := cell_of_one hw'.2.out
            clear hw'
            go_simp
            all_goals (with_reducible rfl)
          try simp only [Act.put, List.getElem_toArray, List.getElem_cons_succ, List.getElem_cons_zero, List.setIfInBounds_toArray, List.set_cons_zero, List.set_cons_succ]
        obtain ⟨a0, a1, a2, a3, a4, a5, a6, a7, a8, a9, a10, a11, a12, a13⟩ := st_cells ps0 J6.out.rs
        obtain ⟨g0, g1, g2, g3, g4, g5, g6, g7, g8, g9, g10, g11, g12, g13⟩ := ps_free J6.out.rs
        refine ordX_now rfl (by rfl) ?_
        go_simp
        rw [store_ps]
        clear a0 a1 a2 a3 a4 a5 a6 a7 a8 a9 a10 a11 a12 a13 g0 g1 g2 g3 g4 g5 g6 g7 g8 g9 g10 g11 g12 g13
        have X8 : Au ((setPs W6 (n + 1) t).heap[n + 1]? = some (.cells t.cells.toArray 25 (0, 0))) := ⟨setPs_block (c := ps0) J6.out.rs⟩
        have B8 : Au (Below n W (setPs W6 (n + 1) t)) := ⟨J6.out.below.trans ((setPs_below (Below.refl _ _)).mono (by omega : n ≤ n + 1))⟩
        have R8 : Au (RowD (Kd.slice Kd.byte) (setPs W6 (n + 1) t) (fun _ => False) (n + 4) v6 []) := ⟨RowD.setPs R6.out (by omega) t⟩
        have S8 : Au (BlkIs (setPs W6 (n + 1) t) (n + 2) t.cells.toArray 25 ∧ BlkIs (setPs W6 (n + 1) t) (n + 3) #[v6] 36) := ⟨⟨⟨(setPs_other (by omega)).trans J6.out.st⟩, ⟨(setPs_other (by omega)).trans O6.out⟩⟩⟩
        generalize setPs W6 (n + 1) t = W8 at X8 B8 R8 S8 ⊢
        have X7 : Au (W8.drew.heap[n + 1]? = some (.cells t.cells.toArray 25 (0, 0))) := ⟨X8.out⟩
        have B7 : Au (Below n W W8.drew) := ⟨below_drewN B8.out 1⟩
        have R7 : Au (RowD (Kd.slice Kd.byte) W8.drew (fun _ => False) (n + 4) v6 []) := ⟨R8.out.drewN 1⟩
        have S7 : Au (BlkIs W8.drew (n + 2) t.cells.toArray 25 ∧ BlkIs W8.drew (n + 3) #[v6] 36) := ⟨⟨⟨S8.out.1.out⟩, ⟨S8.out.2.out⟩⟩⟩
        generalize W8.drew = W7 at X7 B7 R7 S7 ⊢
        clear X8 B8 R8 S8
        refine ⟨S7.out, ?_⟩
        iterate 2
          refine ordX_rd rfl ⟨?_, Or.inl ⟨by rfl, fun w' hw' => ?_⟩, ?_⟩
          rotate_left 1
          · clear hw'
            go_simp
            all_goals (with_reducible rfl)
          try simp only [Act.put, List.getElem_toArray, List.getElem_cons_succ, List.getElem_cons_zero, List.setIfInBounds_toArray, List.set_cons_zero, List.set_cons_succ]
        refine ordX_stop ?_
        simp only [wpList, Calm]
        go_wp2_with fail
        try rw [Exit.noGoto_ret]
        exact strip_end X7.out Hn.out B7.out Hr.out R7.out rfl rfl rfl rfl
      · have he : e = 0 := Decidable.not_not.1 he
        subst he
        by_cases h5 : t.phase = 5
        · have t5 : (t.phase == 5) = true := by simp [h5]
          have t5n : (t.phase != 5) = false := by simp [h5]
          have Hr := Au.mk (sstrip_C (show sloop name ps0 0 l = (t, out ++ o, 0) by rw [HG.out]; exact sloGo_stop Hv.out Ht.out (.inr h5)) h5)
          clear h5
          go_upto_region 15 with fail
          have J6 := X2
          generalize w2 = W6 at J6 ⊢
          clear f0 f1 f2 f3 f4 f5 f6 f7 f8 f9 f10 f11 f12 f13
          obtain ⟨v6, o6, r6⟩ := J6.out.out
          have R6 := Au.mk r6
          have O6 := Au.mk o6
          clear r6 o6
          refine Code.wp_mono Calm.imp ?_
          refine region_tre (fun w' => BlkIs w' (n + 2) t.cells.toArray 25 ∧ BlkIs w' (n + 3) #[v6] 36) (Ord.rds [0, 1, 2] (.now 3 (Ord.rds [4, 5] .stop))) hmx (by kernel_rfl) ⟨⟨J6.out.st⟩, ⟨O6.out⟩⟩ ?_
          iterate 3
            refine ordX_rd rfl ⟨?_, Or.inl ⟨by rfl, fun w' hw' => ?_⟩, ?_⟩
            rotate_left 1
            · obtain ⟨q0, q1, q2, q3, q4, q5, q6, q7, q8, q9, q10, q11, q12, q13⟩ := st_cells t hw'.1.out
              have qo := cell_of_one hw'.2.out
              clear hw'
              go_simp
              all_goals (with_reducible rfl)
            try simp only [Act.put, List.getElem_toArray, List.getElem_cons_succ, List.getElem_cons_zero, List.setIfInBounds_toArray, List.set_cons_zero, List.set_cons_succ]
          obtain ⟨a0, a1, a2, a3, a4, a5, a6, a7, a8, a9, a10, a11, a12, a13⟩ := st_cells ps0 J6.out.rs
          obtain ⟨g0, g1, g2, g3, g4, g5, g6, g7, g8, g9, g10, g11, g12, g13⟩ := ps_free J6.out.rs
          refine ordX_now rfl (by rfl) ?_
          go_simp
          rw [store_ps]
          clear a0 a1 a2 a3 a4 a5 a6 a7 a8 a9 a10 a11 a12 a13 g0 g1 g2 g3 g4 g5 g6 g7 g8 g9 g10 g11 g12 g13
          have X8 : Au ((setPs W6 (n + 1) t).heap[n + 1]? = some (.cells t.cells.toArray 25 (0, 0))) := ⟨setPs_block (c := ps0) J6.out.rs⟩
          have B8 : Au (Below n W (setPs W6 (n + 1) t)) := ⟨J6.out.below.trans ((setPs_below (Below.refl _ _)).mono (by omega : n ≤ n + 1))⟩
          have R8 : Au (RowD (Kd.slice Kd.byte) (setPs W6 (n + 1) t) (fun _ => False) (n + 4) v6 (out ++ o)) := ⟨RowD.setPs R6.out (by omega) t⟩
          have S8 : Au (BlkIs (setPs W6 (n + 1) t) (n + 2) t.cells.toArray 25 ∧ BlkIs (setPs W6 (n + 1) t) (n + 3) #[v6] 36) := ⟨⟨⟨(setPs_other (by omega)).trans J6.out.st⟩, ⟨(setPs_other (by omega)).trans O6.out⟩⟩⟩
          generalize setPs W6 (n + 1) t = W8 at X8 B8 R8 S8 ⊢
          have X7 : Au (W8.drew.heap[n + 1]? = some (.cells t.cells.toArray 25 (0, 0))) := ⟨X8.out⟩
          have B7 : Au (Below n W W8.drew) := ⟨below_drewN B8.out 1⟩
          have R7 : Au (RowD (Kd.slice Kd.byte) W8.drew (fun _ => False) (n + 4) v6 (out ++ o)) := ⟨R8.out.drewN 1⟩
          have S7 : Au (BlkIs W8.drew (n + 2) t.cells.toArray 25 ∧ BlkIs W8.drew (n + 3) #[v6] 36) := ⟨⟨⟨S8.out.1.out⟩, ⟨S8.out.2.out⟩⟩⟩
          generalize W8.drew = W7 at X7 B7 R7 S7 ⊢
          clear X8 B8 R8 S8
          refine ⟨S7.out, ?_⟩
          iterate 2
            refine ordX_rd rfl ⟨?_, Or.inl ⟨by rfl, fun w' hw' => ?_⟩, ?_⟩
            rotate_left 1
            · clear hw'
              go_simp
              all_goals (with_reducible rfl)
            try simp only [Act.put, List.getElem_toArray, List.getElem_cons_succ, List.getElem_cons_zero, List.setIfInBounds_toArray, List.set_cons_zero, List.set_cons_succ]
          refine ordX_stop ?_
          simp only [wpList, Calm]
          go_wp2_with fail
          try rw [Exit.noGoto_ret]
          exact strip_end X7.out Hn.out B7.out Hr.out R7.out rfl rfl rfl rfl
        · have t5 : (t.phase == 5) = false := by simp [h5]
          have HG2 := Au.mk (show sloop name ps0 0 l = sloGo name l (k + 1) t (out ++ o) by rw [HG.out]; exact sloGo_next Hv.out Ht.out rfl h5)
          go_wp2_with fail
          exact ⟨⟨k + 1, t, out ++ o, hkp, rfl, rfl, by rw [List.length_append]; omega, HS2, h5, HG2, X2⟩, by show N - ((k : Int) + 1).toNat < N - (k : Int).toNat; omega⟩
theorem Strip_calls (name : List UInt8) (vols : List (List (List UInt8))) {N p : Nat} (hN : vols.length = N) (hp : p ≤ N) (hp2 : p ≤ 100) (hB : ∀ v ∈ vols.take p, v.length ≤ 4000) (hstop : p = N ∨ (sloop name ps0 0 (vols.take p)).2.2 ≠ 0 ∨ (sloop name ps0 0 (vols.take p)).1.phase = 5) {t : Ps} {o : List (List UInt8)} {er : Int} (hr : sstrip name (vols.take p) = (t, o, er)) {A : Option Addr} {c : Nat} {F : Nat → Prop} (w : World) (hT : Tab w) (hv : Sl KBk3 w F A c vols) :
    Calls Tryz.prog 24 #[.string (ofL name), .slice A N c] w fun e w' => ∃ A' c', e = .returned (.tuple #[.slice A' o.length c', .int .i64 er]) ∧ Sl (Kd.slice Kd.byte) w' (fun k => w.heap.size ≤ k) A' c' o ∧ Below w.heap.size w w' := by
  have C := Au.mk (strip_calls name vols hN hp hp2 hB hstop w hT hv)
  rw [hr] at C
  clear hB hstop hv hT
  go_enter Tryz.func24, Tryz.ntmps24
  go_wp2_with fail
  refine C.out.mono ?_
  rintro e w1 ⟨A1, c1, he, s1, b1⟩
  dsimp only at he s1
  unfold Ps.agg at he
  subst he
  have S1 := Au.mk s1
  have B1 := Au.mk b1
  clear s1 b1 C
  go_wp2_with fail
  go_ret2
  exact ⟨A1, c1, rfl, S1.out.alloc _, B1.out.alloc B1.out.size _⟩
theorem ret_ps {fn : Func} (hfn : fn.results = #[.cell 4 25]) {R : Ending → World → Prop} {w : World} {s : Ps} {g : Nat} {a : Act} (hg : w.heap[g]? = some (.cells s.cells.toArray 25 (0, 0)))
    (t2 : a.tmps.getD 4 undef = .pointer (some ⟨g, 0, none⟩)) (hd : a.defers = []) (hR : R (.returned s.agg) w) : bodyPost Tryz.prog fn R .ret a w :=
  bodyPost_ret (v := s.agg) (results_cell_row hfn a.tmps w g 25 s.cells.toArray (0, 0) _ t2 hg Tryz.underlying25 rfl (by kernel_rfl)) hd hR
theorem Left_calls (name : List UInt8) (vols : List (List (List UInt8))) {N p : Nat} (hN : vols.length = N) (hp : p ≤ N) (hp2 : p ≤ 100) (hB : ∀ v ∈ vols.take p, v.length ≤ 4000) (hstop : p = N ∨ (sloop name ps0 0 (vols.take p)).2.2 ≠ 0 ∨ (sloop name ps0 0 (vols.take p)).1.phase = 5) {t : Ps} {o : List (List UInt8)} {er : Int} (hr : sstrip name (vols.take p) = (t, o, er)) {A : Option Addr} {c : Nat} {F : Nat → Prop} (w : World) (hT : Tab w) (hv : Sl KBk3 w F A c vols) :
    Calls Tryz.prog 25 #[.string (ofL name), .slice A N c] w fun e w' => e = .returned t.agg ∧ Below w.heap.size w w' := by
  have hb0 : Below w.heap.size w (w.alloc (.cells ps0.cells.toArray 25)) := (Below.refl _ _).alloc (Nat.le_refl _) _
  have G0 := Au.mk (heap_alloc_new w (.cells ps0.cells.toArray 25))
  have C := Au.mk (strip_calls name vols hN hp hp2 hB hstop (w.alloc (.cells ps0.cells.toArray 25)) (hT.below hb0) (hv.old.below hb0))
  have B0 := Au.mk hb0
  rw [hr] at C
  clear hB hstop hv hT hb0
  go_enter Tryz.func25, Tryz.ntmps25
  go_upto_region 1 with fail
  generalize hW : World.alloc _ _ = W
  have C : Au (Calls Tryz.prog 46 #[.string (ofL name), .slice A N c] W (StripRes W (t, o, er))) := ⟨by rw [← hW]; exact C.out⟩
  have B0 : Au (Below w.heap.size w W) := ⟨by rw [← hW]; exact B0.out⟩
  have G0 : Au (W.heap[w.heap.size]? = some (.cells ps0.cells.toArray 25 (0, 0))) := ⟨by rw [← hW]; exact G0.out⟩
  clear hW
  go_wp2_with fail
  refine C.out.mono ?_
  rintro e w1 ⟨A1, c1, he, s1, b1⟩
  dsimp only at he s1
  unfold Ps.agg at he
  subst he
  have g1 := blk_below G0.out b1 (lt_of_block G0.out)
  have e1 := below_then B0.out b1 B0.out.size
  have G1 := Au.mk (blk_alloc g1 (.cells t.cells.toArray 25))
  have N1 := Au.mk (heap_alloc_new w1 (.cells t.cells.toArray 25))
  have E1 := Au.mk (e1.alloc e1.size (.cells t.cells.toArray 25))
  clear s1 b1 C g1 e1
  go_upto_region 2 with fail
  generalize hW2 : w1.alloc (.cells t.cells.toArray 25) = W2 at G1 N1 E1
  have hW2' : w1.alloc (.cells #[.int .i64 t.phase, .string (ofL t.node.path), .string (ofL t.node.link), .int .u8 t.node.kind.toNat, .int .i64 t.node.mode, .int .i64 t.node.uid, .int .i64 t.node.gid, .int .i64 t.node.mtime, .string (ofL t.node.data), .int .i64 t.size, .int .i64 t.left, .string (ofL t.text), .string (ofL t.name), .string (ofL t.link)] 25) = W2 := hW2
  rw [hW2']
  clear hW2 hW2'
  obtain ⟨f0, f1, f2, f3, f4, f5, f6, f7, f8, f9, f10, f11, f12, f13⟩ := st_cells t N1.out
  obtain ⟨a0, a1, a2, a3, a4, a5, a6, a7, a8, a9, a10, a11, a12, a13⟩ := st_cells ps0 G1.out
  obtain ⟨g0, g1, g2, g3, g4, g5, g6, g7, g8, g9, g10, g11, g12, g13⟩ := ps_free G1.out
  go_wp2_with fail
  rw [store_ps]
  have X := Au.mk (setPs_block (s := t) G1.out)
  have B := Au.mk (setPs_below (s := t) E1.out)
  generalize setPs W2 w.heap.size t = W3 at X B ⊢
  exact ret_ps rfl X.out rfl rfl ⟨rfl, B.out⟩
theorem field_end (w : World) : (Instr.field 25 (.agg #[.int .i64 5, .string ⟨#[]⟩, .string ⟨#[]⟩, .int .u8 0, .int .i64 0, .int .i64 0, .int .i64 0, .int .i64 0, .string ⟨#[]⟩, .int .i64 0, .int .i64 0, .string ⟨#[]⟩, .string ⟨#[]⟩, .string ⟨#[]⟩]) 0).run Tryz.prog w = .ok (.int .i64 5) w := by
  simp [Instr.field, asAgg, go_sem, Tryz.underlying25]
set_option maxHeartbeats 4000000 in
theorem awake17_calls (w : World) (hT : Tab w) : Calls Tryz.prog 20 #[] w fun e w' => e = .returned (.bool true) ∧ Below w.heap.size w w' := by
  have HT := Au.mk hT
  obtain ⟨v, hv, hv4, hx, hy, ho⟩ := strip17
  have hvl : ∀ u ∈ [v].take 1, u.length ≤ 4000 := by
    intro u hu
    have hu : u = v := by simpa using hu
    rw [hu, hv4]; decide
  have hAll : AllS [] := fun n hn => by simp at hn
  obtain ⟨n0, Hn0⟩ := au w.heap.size
  have C1 := Au.mk (fun (W : World) (hT : Tab W) (h : Sl Kd.int W (fun k => k = n0) (some ⟨n0, 0, none⟩) 1 [2]) => (show Calls Tryz.prog 23 #[.slice none 0 0, .agg #[.string ⟨#[120]⟩, .int .i64 2, .slice (some ⟨n0, 0, none⟩) 1 1]] W fun e w' => ∃ A' c', e = .returned (.tuple #[.slice A' 1 c', .int .i64 0]) ∧ Sl KBk3 w' (fun j => W.heap.size ≤ j) A' c' [v] ∧ Below W.heap.size W w' from split_calls [] hAll s0 hv W hT (Sl.nil Kd.nd W (fun _ => False)) h))
  have C2 := Au.mk (fun (A : Option Addr) (c : Nat) (F : Nat → Prop) (W : World) (hT : Tab W) (h : Sl KBk3 W F A c [v]) => (show Calls Tryz.prog 24 #[.string ⟨#[120]⟩, .slice A 1 c] W fun e w' => ∃ A' c', e = .returned (.tuple #[.slice A' 2 c', .int .i64 0]) ∧ Sl (Kd.slice Kd.byte) w' (fun k => W.heap.size ≤ k) A' c' [zeros 512, zeros 512] ∧ Below W.heap.size W w' from
    Strip_calls [120] [v] (N := 1) (p := 1) rfl (Nat.le_refl _) (by decide) hvl (.inl rfl) hx W hT h))
  have C3 := Au.mk (fun (A : Option Addr) (c : Nat) (F : Nat → Prop) (W : World) (hT : Tab W) (h : Sl KBk3 W F A c [v]) => (show Calls Tryz.prog 24 #[.string ⟨#[121]⟩, .slice A 1 c] W fun e w' => ∃ A' c', e = .returned (.tuple #[.slice A' 0 c', .int .i64 11]) ∧ Sl (Kd.slice Kd.byte) w' (fun k => W.heap.size ≤ k) A' c' [] ∧ Below W.heap.size W w' from
    Strip_calls [121] [v] (N := 1) (p := 1) rfl (Nat.le_refl _) (by decide) hvl (.inl rfl) hy W hT h))
  have C4 := Au.mk (fun (A : Option Addr) (c : Nat) (F : Nat → Prop) (W : World) (hT : Tab W) (h : Sl (Kd.slice Kd.byte) W F A c v) => (show Calls Tryz.prog 27 #[.agg #[.int .i64 0, .string ⟨#[]⟩, .string ⟨#[]⟩, .int .u8 0, .int .i64 0, .int .i64 0, .int .i64 0, .int .i64 0, .string ⟨#[]⟩, .int .i64 0, .int .i64 0, .string ⟨#[]⟩, .string ⟨#[]⟩, .string ⟨#[]⟩], .string ⟨#[120]⟩, .int .i64 1, .slice A 4 c] W fun e w' => e = .returned (.tuple #[.int .i64 1, .int .i64 0]) ∧ Below W.heap.size W w' from
    sone_calls ps0 ps0_S ps0_R [120] 1 v hv4 ho W hT h))
  have C5 := Au.mk (fun (A : Option Addr) (c : Nat) (F : Nat → Prop) (W : World) (hT : Tab W) (h : Sl KBk3 W F A c [v]) => (show Calls Tryz.prog 25 #[.string ⟨#[120]⟩, .slice A 1 c] W fun e w' => e = .returned (.agg #[.int .i64 5, .string ⟨#[]⟩, .string ⟨#[]⟩, .int .u8 0, .int .i64 0, .int .i64 0, .int .i64 0, .int .i64 0, .string ⟨#[]⟩, .int .i64 0, .int .i64 0, .string ⟨#[]⟩, .string ⟨#[]⟩, .string ⟨#[]⟩]) ∧ Below W.heap.size W w' from
    Left_calls [120] [v] (N := 1) (p := 1) rfl (Nat.le_refl _) (by decide) hvl (.inl rfl) hx W hT h))
  clear hv hx hy ho hvl hT hAll
  go_enter Tryz.func20, Tryz.ntmps20
  go_wp2_with fail
  have e0 : Below w.heap.size w (w.alloc (.cells #[.int .i64 2] 3)) := (Below.refl w.heap.size w).alloc (Nat.le_refl _) _
  have S0 : Sl Kd.int (w.alloc (.cells #[.int .i64 2] 3)) (fun k => k = w.heap.size) (some ⟨w.heap.size, 0, none⟩) 1 [2] := (sl_lit (d := Kd.int) (vs := [.int .i64 2]) (xs := [2]) (F := fun k => False) (w := w) (e := 3) (by simp) (fun W hW => Reps.single ⟨rfl, (show R64 2 from ⟨by decide, by decide⟩)⟩)).mono (fun k hk => by rcases hk with hk | hk; exact hk.1.elim; exact hk)
  have T0 := HT.out.below e0
  generalize w.alloc (.cells #[.int .i64 2] 3) = W0 at e0 S0 T0 ⊢
  rw [Hn0.out] at S0 ⊢
  refine (C1.out _ T0 S0).mono ?_
  rintro e w1 ⟨A1, c1, rfl, s1, b1⟩
  have e1 := below_then e0 b1 e0.size
  have T1 := Au.mk (T0.below b1)
  have V1 := Au.mk s1
  obtain ⟨b, o, A', c', rfl, hc4, sv⟩ := s1.slice_at (i := 0) (x := v) rfl
  have SV1 := Au.mk sv
  rw [hv4, Nat.add_zero] at hc4
  clear S0 T0 b1 s1 sv
  go_wp2_with fail
  refine (C2.out _ _ _ _ T1.out V1.out).mono ?_
  rintro e w2 ⟨A2, c2, rfl, -, b2⟩
  have e2 := below_then e1 b2 e1.size
  have T2 := Au.mk (T1.out.below b2)
  have V2 := Au.mk (V1.out.below b2)
  have SV2 := Au.mk (SV1.out.below b2)
  have hc5 := cell_below hc4 b2
  clear hc4 b2
  go_wp2_with fail
  refine (C3.out _ _ _ _ T2.out V2.out).mono ?_
  rintro e w3 ⟨A3, c3, rfl, -, b3⟩
  have e3 := below_then e2 b3 e2.size
  have T3 := Au.mk (T2.out.below b3)
  have V3 := Au.mk (V2.out.below b3)
  have SV3 := Au.mk (SV2.out.below b3)
  have hc6 := cell_below hc5 b3
  clear hc5 b3
  go_wp2_with fail
  refine (C4.out _ _ _ _ T3.out SV3.out).mono ?_
  rintro e w4 ⟨rfl, b4⟩
  have e4 := below_then e3 b4 e3.size
  have T4 := Au.mk (T3.out.below b4)
  have V4 := Au.mk (V3.out.below b4)
  clear hc6 b4
  go_wp2_with fail
  refine (C5.out _ _ _ _ T4.out V4.out).mono ?_
  rintro e w5 ⟨rfl, b5⟩
  have e5 := below_then e4 b5 e4.size
  have hfe := fun W => field_end W
  clear b5
  go_wp2_with fail
  go_ret
  exact ⟨rfl, e5⟩
end Go.Proofs.YtldhcknjpmbgnaaGreatDoor.Rk
