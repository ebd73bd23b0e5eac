/- Walks: the library's functions that headers use; block.Zero. -/
import Derived.Test.YtejalhoaljlnhaaNumE
import Derived.Test.YtejalhoaljlnhaaBase2
import Derived.Lib.Bytealg
import Derived.Lib.BytesEntry
namespace Go.Proofs.Ytejalhoaljlnhaa.Rk
open Go.RowKit
set_option linter.unusedVariables false
set_option linter.unusedSimpArgs false

/-- A text up to its first nought. -/
def upto (l : List UInt8) : List UInt8 := l.takeWhile (· != 0)
theorem indexByte0 (l : List UInt8) : Lib.indexByte l 0 = if (0 : UInt8) ∈ l then ((upto l).length : Int) else -1 := by
  induction l with
  | nil => rfl
  | cons a l ih =>
    unfold Lib.indexByte
    by_cases h : a = 0
    · subst h; simp [upto]
    · have h1 : (a == 0) = false := by simpa using h
      have h2 : ¬ (0 : UInt8) = a := fun e => h e.symm
      rw [if_neg (by simp [h1]), ih]
      by_cases hm : (0 : UInt8) ∈ l
      · rw [if_pos hm, if_pos (List.mem_cons_of_mem _ hm), if_neg (by simp)]
        simp [upto, List.takeWhile_cons, h]
      · rw [if_neg hm, if_pos (by rfl), if_neg (by simp [h2, hm])]
theorem indexByte_mem (l : List UInt8) (c : UInt8) : (Lib.indexByte l c < 0) ↔ c ∉ l := by
  induction l with
  | nil => simp [Lib.indexByte]
  | cons a l ih =>
    unfold Lib.indexByte
    have hge := Lib.indexByte_ge l c
    by_cases h : a = c
    · subst h; simp
    · have h1 : (a == c) = false := by simpa using h
      have h2 : ¬ c = a := fun e => h e.symm
      rw [if_neg (by simp [h1])]
      by_cases hm : Lib.indexByte l c = -1
      · rw [if_pos (by simp [hm])]
        have := ih.1 (by omega)
        simp [h2, this]
      · rw [if_neg (by simpa using hm)]
        have h3 : ¬ c ∉ l := fun hh => by have := ih.2 hh; omega
        have h4 : c ∈ l := by simpa using h3
        simp [h4]; omega
theorem upto_le (l : List UInt8) : (upto l).length ≤ l.length := List.Sublist.length_le (List.takeWhile_sublist _)
theorem upto_take (l : List UInt8) : upto l = l.take (upto l).length := by
  have h : upto l ++ l.dropWhile (· != 0) = l := List.takeWhile_append_dropWhile
  have h2 : (upto l ++ l.dropWhile (· != 0)).take (upto l).length = upto l := List.take_left
  rw [h] at h2
  exact h2.symm
theorem upto_no0 (l : List UInt8) : (0 : UInt8) ∉ upto l := by
  unfold upto
  induction l with
  | nil => simp
  | cons a l ih =>
    rw [List.takeWhile_cons]
    split
    · rename_i h
      intro hm
      rcases List.mem_cons.1 hm with h0 | h0
      · simp [← h0] at h
      · exact ih h0
    · simp
theorem upto_none {l : List UInt8} (h : (0 : UInt8) ∉ l) : upto l = l := by
  unfold upto
  induction l with
  | nil => rfl
  | cons a l ih =>
    have h1 : a ≠ 0 := fun e => h (by simp [e])
    rw [List.takeWhile_cons, if_pos (by simpa using h1), ih (fun hm => h (List.mem_cons_of_mem _ hm))]

theorem indexByte_calls (s : List UInt8) (c : UInt8) (w : World) : Calls Try.prog 54 #[.string (ofL s), .int .u8 c.toNat] w fun e w' => e = .returned (.int .i64 (Lib.indexByte s c)) ∧ w = w' := by
  go_enter Try.func54, Try.ntmps54
  go_wp2
  rw [run_callFunc_extern Try.func65 (by kernel_rfl) (by kernel_rfl) (by kernel_rfl) (e := Extern.BytealgIndexByte.indexByte) (by kernel_rfl), Lib.run_indexByteString]
  simp only [Result.andThen]
  rw [Oper.upon_value]
  go_wp2
  go_ret
  exact ⟨rfl, rfl⟩

/-- The library's entry at bytes that are read, wherever they lie. -/
theorem run_indexByte_sl {P : Program} (w : World) {A : Option Addr} {l : List UInt8} (h : Cells w A (bcs l)) (c : Nat) (x : UInt8) :
    (Extern.BytealgIndexByte.indexByte #[.slice A l.length c, .int .u8 (x.toNat : Int)]).run P w = .ok (.int .i64 (Lib.indexByte l x)) w := by
  have hx : ((x.toNat : Int).toNat.toUInt8) = x := by simp
  cases A with
  | none =>
    have : l = [] := by
      cases l with
      | nil => rfl
      | cons y l => obtain ⟨b, o, e, _⟩ := h (by simp [bcs]); cases e
    subst this
    exact Lib.run_indexByteNil _ _ _ _
  | some a =>
    have hb : Lib.bytesOf (l.map fun b => (b.toNat : Int)) = l := by simp [Lib.bytesOf, Function.comp_def]
    have hl := Lib.run_loadBytesX (P := P) w (l.map fun b => (b.toNat : Int)) a .empty (fun j v hj => by
      have hj' : (bcs l)[j]? = some (.int .u8 v) := by
        simp [bcs] at hj ⊢
        obtain ⟨u, h1, h2⟩ := hj
        exact ⟨u, h1, h2⟩
      obtain ⟨b, o, e, h1⟩ := h.at_ hj'
      cases e
      rw [Addr.add_lit]; exact h1)
    rw [hb, List.length_map] at hl
    have hs := Lib.run_indexByteString (P := P) ⟨l.toArray⟩ (x.toNat : Int) w
    have he : (⟨ByteArray.empty.data ++ l.toArray⟩ : ByteArray) = ⟨l.toArray⟩ := by
      apply ByteArray.ext
      show (#[] : Array UInt8) ++ l.toArray = l.toArray
      simp
    rw [he] at hl
    rw [hx] at hs
    change Sem.run P (do
      let b ← Extern.Bytes.bytesOf (.slice (some a) l.length c)
      let c ← Extern.Bytes.asByte (.int .u8 (x.toNat : Int))
      match (List.range b.size).find? fun i => b[i]! == c with
      | some i => pure (goInt i)
      | none => pure (goInt (-1))) w = _
    change Sem.run P (do
      let b ← Extern.Bytes.bytesOf (.string ⟨l.toArray⟩)
      let c ← Extern.Bytes.asByte (.int .u8 (x.toNat : Int))
      match (List.range b.size).find? fun i => b[i]! == c with
      | some i => pure (goInt i)
      | none => pure (goInt (-1))) w = _ at hs
    simp only [Extern.Bytes.bytesOf, Sem.run_bind, Sem.run_pure, hl, Result.andThen] at hs ⊢
    exact hs

theorem indexByteB_calls (l : List UInt8) (x : UInt8) (A : Option Addr) (c : Nat) (F : Nat → Prop) (w : World) (ha : Sl Kd.byte w F A c l) : Calls Try.prog 61 #[.slice A l.length c, .int .u8 x.toNat] w fun e w' => e = .returned (.int .i64 (Lib.indexByte l x)) ∧ w = w' := by
  go_enter Try.func61, Try.ntmps61
  go_wp2
  rw [run_callFunc_extern Try.func66 (by kernel_rfl) (by kernel_rfl) (by kernel_rfl) (e := Extern.BytealgIndexByte.indexByte) (by kernel_rfl), run_indexByte_sl w ha.bytes]
  simp only [Result.andThen]
  rw [Oper.upon_value]
  go_wp2
  go_ret
  exact ⟨rfl, rfl⟩

set_option maxRecDepth 100000 in
/-- bytes.Index at one byte. -/
theorem index1_calls (l : List UInt8) (x : UInt8) (A B : Option Addr) (c d : Nat) (F G : Nat → Prop) (w : World) (ha : Sl Kd.byte w F A c l) (hb : Sl Kd.byte w G B d [x]) :
    Calls Try.prog 57 #[.slice A l.length c, .slice B 1 d] w fun e w' => e = .returned (.int .i64 (Lib.indexByte l x)) ∧ w = w' := by
  obtain ⟨b, o, rfl, hc⟩ := hb.byte_at 0 (by simp)
  simp only [List.getElem_cons_zero, Nat.add_zero] at hc
  go_enter Try.func57, Try.ntmps57
  go_wp2_with fail
  refine (indexByteB_calls l x _ _ _ _ ha).mono ?_
  rintro e w1 ⟨rfl, rfl⟩
  go_wp2_with fail
  go_ret
  exact ⟨rfl, rfl⟩
/-- bytes.Cut at a nought: what stands ahead of it. -/
theorem cut0_calls (l : List UInt8) (A B : Option Addr) (c d : Nat) (F G : Nat → Prop) (w : World) (ha : Sl Kd.byte w F A c l) (hb : Sl Kd.byte w G B d [0]) :
    Calls Try.prog 49 #[.slice A l.length c, .slice B 1 d] w fun e w' => ∃ v b, e = .returned (.tuple #[.slice A (upto l).length c, v, .bool b]) ∧ Drawn w w' := by
  have hi := indexByte0 l
  by_cases hm : (0 : UInt8) ∈ l
  · rw [if_pos hm] at hi
    have hle := upto_le l
    have hlt : (upto l).length < l.length := by
      rcases Nat.lt_or_ge (upto l).length l.length with h | h
      · exact h
      · exfalso
        have h2 := upto_take l
        rw [List.take_of_length_le h] at h2
        rw [← h2] at hm
        exact upto_no0 l hm
    have hcap := ha.1
    have hcap2 := ha.2.1
    obtain ⟨k, Hk⟩ := au (upto l).length
    rw [Hk.out] at hi hle hlt ⊢
    have Hi := Au.mk hi
    clear hi
    go_enter Try.func49, Try.ntmps49
    go_wp2_with fail
    refine (index1_calls l 0 _ _ _ _ _ _ _ ha hb).mono ?_
    rintro e w1 ⟨rfl, rfl⟩
    rw [Hi.out]
    go_wp2_with fail
    by_cases hck : c = k + 1
    · subst hck
      go_quiet (fail)
      go_wp2_with fail
      go_ret3
      exact ⟨_, _, rfl, Drawn.step (Drawn.refl _) _⟩
    · go_quiet (fail)
      go_wp2_with fail
      go_ret3
      exact ⟨_, _, rfl, Drawn.step (Drawn.refl _) _⟩
  · rw [if_neg hm] at hi
    have hu := upto_none hm
    obtain ⟨k, Hk⟩ := au (upto l).length
    have hkl : k = l.length := by rw [← Hk.out, hu]
    rw [Hk.out, hkl]
    have Hi := Au.mk hi
    clear hi hkl Hk hm hu
    go_enter Try.func49, Try.ntmps49
    go_wp2_with fail
    refine (index1_calls l 0 _ _ _ _ _ _ _ ha hb).mono ?_
    rintro e w1 ⟨rfl, rfl⟩
    rw [Hi.out]
    go_wp2_with fail
    go_ret3
    exact ⟨_, _, rfl, Drawn.refl _⟩
end Go.Proofs.Ytejalhoaljlnhaa.Rk
