/- Who goes on: plain Lean: Get of what Put puts; where a volume begins. -/
import Derived.Test.YtldhcknjpmbgnaaGreatDoorLawS
namespace Go.Proofs.YtldhcknjpmbgnaaGreatDoor.Rk
open Go.RowKit
set_option linter.unusedVariables false
set_option linter.unusedSimpArgs false

def trimZ (l : List UInt8) : List UInt8 := if l.getLast? = some 0 then l.dropLast else l
/-- The next header of a list. -/
def cnext (l : List (List UInt8)) (i : Nat) : Hd × Bool := match l[i]? with | some b => ((hget b).1, (hget b).2 == 0) | none => (hd0, false)
def cnode (h : Hd) (nm : List UInt8) : Nd := ⟨nm, [], 48, h.mode, h.uid, h.gid, h.mtime, []⟩
def cfits (h : Hd) (nm : List UInt8) : Bool := pmay nm && (cfile (cnode h nm) && (decide (h.real ≤ 4000) && (decide (h.off < h.real) && h.off % 512 == 0)))
def cfin (l : List (List UInt8)) (name : List UInt8) (h : Hd) (is : Bool) (i : Nat) : Option (Nd × Int × Int × Nat) :=
  if (!is || h.ty != 77) = true then none
  else if (cfits h (if name = [] then h.name else name) && (cputB (cnode h (if name = [] then h.name else name)) h.off h.real == l.take i)) = true then some (cnode h (if name = [] then h.name else name), h.off, h.real, i) else none
/-- Who goes on, and where. -/
def cget (l : List (List UInt8)) : Option (Nd × Int × Int × Nat) :=
  if ((cnext l 0).2 && (cnext l 0).1.ty == 76) = true then
    match l[1]? with
    | none => none
    | some b => if b.length ≠ 512 ∨ (cnext l 0).1.size < 2 ∨ 301 < (cnext l 0).1.size then none else cfin l (trimZ (b.take (cnext l 0).1.size.toNat)) (cnext l 2).1 (cnext l 2).2 3
  else cfin l [] (cnext l 0).1 (cnext l 0).2 1

theorem trimZ_snoc (l : List UInt8) : trimZ (l ++ [0]) = l := by
  unfold trimZ
  rw [List.getLast?_concat, if_pos rfl, List.dropLast_concat]
theorem cutB_short {s : List UInt8} (h1 : s ≠ []) (h2 : s.length ≤ 512) : cutB s = [padB s] := by
  rw [cutB_cons h1, List.drop_eq_nil_of_le h2, cutB_nil]
theorem padB_take {s : List UInt8} (h : s.length ≤ 512) : (padB s).take s.length = s := by
  unfold padB
  rw [List.take_of_length_le h, List.take_left]
theorem cfile_iff {n : Nd} : cfile n = true ↔ n.kind = 48 ∧ one n = true := by simp [cfile]
/-- A node without its bytes. -/
def bareN (n : Nd) : Nd := ⟨n.path, [], 48, n.mode, n.uid, n.gid, n.mtime, []⟩
theorem bareN_one {n : Nd} (h : cfile n = true) : cfile (bareN n) = true := by
  obtain ⟨h1, h2⟩ := cfile_iff.1 h
  refine cfile_iff.2 ⟨rfl, ?_⟩
  unfold one at h2 ⊢
  simp only [Bool.and_eq_true] at h2 ⊢
  refine ⟨?_, h2.2⟩
  simp [bareN, kindOk]
theorem cputB_bare (n : Nd) (off whole : Int) : cputB (bareN n) off whole = cputB n off whole := rfl
theorem cmay_iff {n : Nd} {off : Int} : cmay n off = true ↔ cfile n = true ∧ 0 ≤ off ∧ off < n.data.length ∧ off % 512 = 0 := by
  unfold cmay; simp [Bool.and_eq_true]
theorem short_le {s : List UInt8} (h : s.length ≤ 100) : short s = s := List.take_of_length_le h
set_option maxRecDepth 100000 in
/-- What is put is got. -/
theorem cget_cput {n : Nd} {off : Int} (h : cmay n off = true) : cget (cput n off) = some (bareN n, off, (n.data.length : Int), (cput n off).length) := by
  obtain ⟨h1, h2, h3, h4⟩ := cmay_iff.1 h
  obtain ⟨hk, ho⟩ := cfile_iff.1 h1
  have O := one_iff.1 ho
  have ho' := ho
  unfold one at ho'
  simp only [Bool.and_eq_true] at ho'
  obtain ⟨hkd, hpm, _⟩ := ho'
  have hd := kind_data hkd
  have hpl := pmay_len hpm
  have hpn := pmay_ne hpm
  have hpz := pmay_zero hpm
  have hF := contHd_fits O h2 (Int.le_of_lt h3) (by omega : (n.data.length : Int) ≤ 4000)
  have hR := contHd_R O h2 (Int.le_of_lt h3) (by omega : (n.data.length : Int) ≤ 4000)
  have hC : hget ((hput (contHd n off n.data.length)).getD []) = (contHd n off n.data.length, 0) := by
    rw [hput_fits hF]; exact hget_block _ hR hF
  have hfit : cfits (contHd n off n.data.length) n.path = true := by
    unfold cfits
    simp only [Bool.and_eq_true, decide_eq_true_eq, beq_iff_eq]
    exact ⟨hpm, bareN_one h1, by show (n.data.length : Int) ≤ 4000; omega, h3, h4⟩
  have hcp : cput n off = cputB n off n.data.length := by unfold cput; rw [if_pos h]
  have fin : ∀ (nm : List UInt8) (i : Nat), (if nm = [] then (contHd n off n.data.length).name else nm) = n.path → (cput n off).take i = cput n off → i = (cput n off).length →
      cfin (cput n off) nm (contHd n off n.data.length) true i = some (bareN n, off, (n.data.length : Int), (cput n off).length) := by
    intro nm i e1 e2 e3
    unfold cfin
    have h77 : (!true || (contHd n off n.data.length).ty != 77) = false := rfl
    rw [if_neg (by rw [h77]; decide), e1, if_pos ?_]
    · rw [e3]; rfl
    · rw [hfit, e2, hcp]
      show (true && (cputB (bareN n) off n.data.length == _)) = true
      rw [cputB_bare]; simp
  by_cases hl : 100 < n.path.length
  · have hlt : ltext n.path = true := ltext_iff.2 ⟨hpn, hpl, hpz⟩
    have hLF := longHd_fits (k := 76) (s := n.path) (.inr rfl) hpl
    have hLR := longHd_R (k := 76) (s := n.path) hpl
    have hL : hget ((hput (longHd 76 n.path)).getD []) = (longHd 76 n.path, 0) := by
      rw [hput_fits hLF]; exact hget_block _ hLR hLF
    have e : cput n off = [(hput (longHd 76 n.path)).getD [], padB (n.path ++ [0]), (hput (contHd n off n.data.length)).getD []] := by
      rw [hcp]
      unfold cputB
      rw [if_pos hl]
      unfold lputB
      rw [if_pos (by rw [hlt]; decide), Option.getD_some, cutB_short (by simp) (by rw [List.length_append]; simp; omega)]
      rfl
    have n0 : cnext (cput n off) 0 = (longHd 76 n.path, true) := by
      unfold cnext; rw [e]
      show ((hget ((hput (longHd 76 n.path)).getD [])).1, (hget ((hput (longHd 76 n.path)).getD [])).2 == 0) = _
      rw [hL]; rfl
    have n2 : cnext (cput n off) 2 = (contHd n off n.data.length, true) := by
      unfold cnext; rw [e]
      show ((hget ((hput (contHd n off n.data.length)).getD [])).1, (hget ((hput (contHd n off n.data.length)).getD [])).2 == 0) = _
      rw [hC]; rfl
    have n1 : (cput n off)[1]? = some (padB (n.path ++ [0])) := by rw [e]; rfl
    have hsz : (longHd 76 n.path).size = (n.path.length : Int) + 1 := rfl
    have hty : (longHd 76 n.path).ty = 76 := rfl
    unfold cget
    rw [n0, if_pos (show ((longHd 76 n.path, true).2 && (longHd 76 n.path, true).1.ty == 76) = true from rfl), n1, n2]
    show (if _ then none else _) = _
    rw [hsz, if_neg (by rw [padB_length]; omega)]
    have e5 : ((n.path.length : Int) + 1).toNat = (n.path ++ [0]).length := by rw [List.length_append, List.length_singleton]; omega
    rw [e5, padB_take (by rw [List.length_append, List.length_singleton]; omega), trimZ_snoc]
    exact fin n.path 3 (if_neg hpn) (by rw [e]; rfl) (by rw [e]; rfl)
  · have e : cput n off = [(hput (contHd n off n.data.length)).getD []] := by
      rw [hcp]
      unfold cputB
      rw [if_neg hl]; rfl
    have n0 : cnext (cput n off) 0 = (contHd n off n.data.length, true) := by
      unfold cnext; rw [e]
      show ((hget ((hput (contHd n off n.data.length)).getD [])).1, (hget ((hput (contHd n off n.data.length)).getD [])).2 == 0) = _
      rw [hC]; rfl
    have hty : (contHd n off n.data.length).ty = 77 := rfl
    unfold cget
    rw [n0, if_neg (show ¬ ((contHd n off n.data.length, true).2 && (contHd n off n.data.length, true).1.ty == 76) = true from fun h => Bool.false_ne_true h)]
    refine fin [] 1 ?_ (by rw [e]; rfl) (by rw [e]; rfl)
    rw [if_pos rfl]
    exact short_le (by omega)
/-- Whose bytes a block has: that file may go on there. -/
theorem whereB_may {t : List Nd} {i : Int} (h : (whereB t i).2 ≠ -1) : ∃ (k j : Nat) (nd : Nd), whereB t i = ((k : Int), (j : Int)) ∧ t[k]? = some nd ∧ cmay nd (512 * (j : Int)) = true := by
  by_cases h1 : i < 0 ∨ ((sall t).length : Int) ≤ i
  · rw [whereB_out h1] at h; exact absurd rfl h
  · have key : whereB t i = (if idxOf i (starts t) - 1 < 0 then ((t.length : Int), (-1 : Int)) else match t[(idxOf i (starts t) - 1).toNat]? with
        | some n => (idxOf i (starts t) - 1, max (-1) (i - ((starts t).getD ((idxOf i (starts t) - 1).toNat + 1) 0 : Nat) + (edata n : Nat)))
        | none => (idxOf i (starts t) - 1, -1)) := by unfold whereB; rw [if_neg h1]; rfl
    rw [key] at h ⊢
    by_cases h2 : idxOf i (starts t) - 1 < 0
    · rw [if_pos h2] at h; exact absurd rfl h
    · rw [if_neg h2] at h ⊢
      cases hx : (starts t).findIdx? (fun at' : Nat => decide (i < (at' : Int))) with
      | none =>
        have : idxOf i (starts t) = -1 := by unfold idxOf; rw [hx]
        omega
      | some m =>
        have hm : idxOf i (starts t) = (m : Int) := by unfold idxOf; rw [hx]
        obtain ⟨hlt, hp, _⟩ := List.findIdx?_eq_some_iff_getElem.1 hx
        have hp : i < ((starts t)[m] : Int) := by simpa using hp
        rw [hm] at h h2 ⊢
        obtain ⟨k, rfl⟩ : ∃ k, m = k + 1 := ⟨m - 1, by omega⟩
        have e2 : (((k + 1 : Nat) : Int) - 1) = (k : Int) := by omega
        rw [e2] at h ⊢
        simp only [Int.toNat_natCast] at h ⊢
        cases hn : t[k]? with
        | none =>
          try rw [hn] at h
          exact absurd rfl h
        | some n =>
          try rw [hn] at h
          try rw [hn]
          simp only at h ⊢
          have hg : (starts t).getD (k + 1) 0 = (starts t)[k + 1] := by rw [List.getD_eq_getElem?_getD, List.getElem?_eq_getElem hlt]; rfl
          rw [hg] at h ⊢
          have h3 : 0 ≤ i - ((starts t)[k + 1] : Int) + (edata n : Int) := by omega
          have hed : 1 ≤ edata n := by omega
          obtain ⟨j, hj⟩ : ∃ j : Nat, i - ((starts t)[k + 1] : Int) + (edata n : Int) = (j : Int) := ⟨(i - ((starts t)[k + 1] : Int) + (edata n : Int)).toNat, by omega⟩
          have hjl : j + 1 ≤ edata n := by omega
          refine ⟨k, j, n, by rw [hj, Int.max_eq_right (by omega)], by first | rfl | exact hn, ?_⟩
          unfold edata at hjl
          by_cases ho : one n = true
          · rw [if_pos ho] at hjl
            unfold manyB at hjl
            by_cases hd : n.data.length < 1
            · rw [if_pos hd] at hjl; omega
            · rw [if_neg hd] at hjl
              have ho' := ho
              unfold one at ho'
              simp only [Bool.and_eq_true] at ho'
              have hk : n.kind = 48 := by
                rcases kind_cases ho'.1 with h | h | h | h
                · exact h.1
                · exact absurd h.2.2.2.2.2.1 (by intro e; rw [e] at hd; simp at hd)
                · exact absurd h.2.2 (by intro e; rw [e] at hd; simp at hd)
                · exact absurd h.2.2 (by intro e; rw [e] at hd; simp at hd)
              exact cmay_iff.2 ⟨cfile_iff.2 ⟨hk, ho⟩, by omega, by omega, by omega⟩
          · rw [if_neg ho] at hjl; omega
end Go.Proofs.YtldhcknjpmbgnaaGreatDoor.Rk
