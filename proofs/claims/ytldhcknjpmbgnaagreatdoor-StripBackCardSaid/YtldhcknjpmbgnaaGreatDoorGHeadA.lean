/- GHeadA: HeadA HeadB HeadC HeadD HeadE HeadF HeadG HeadH HeadI HeadJ HeadK -/
import Derived.Test.YtldhcknjpmbgnaaGreatDoorGNumR
import Derived.Test.YtldhcknjpmbgnaaGreatDoorGNum
import Derived.Test.YtldhcknjpmbgnaaGreatDoorGBase
import Derived.Lib.Bytealg
import Derived.Lib.BytesEntry
import Derived.Deep.RegionHeld3
set_option maxRecDepth 100000
/- Walks: the library's functions that headers use; block.Zero. -/
namespace Go.Proofs.YtldhcknjpmbgnaaGreatDoor.Rk
open Go.RowKit
set_option linter.unusedVariables false
set_option linter.unusedSimpArgs false

/-- A text up to its first nought. -/
def upto (l : List UInt8) : List UInt8 := l.takeWhile (· != 0)
theorem indexByte0 (l : List UInt8) : Lib.indexByte l 0 = if (0 : UInt8) ∈ l then ((upto l).length : Int) else -1 := by
  induction l with
  | nil => rfl
  | cons a l ih =>
    unfold Lib.indexByte
    by_cases h : a = 0
    · subst h; simp [upto]
    · have h1 : (a == 0) = false := by simpa using h
      have h2 : ¬ (0 : UInt8) = a := fun e => h e.symm
      rw [if_neg (by simp [h1]), ih]
      by_cases hm : (0 : UInt8) ∈ l
      · rw [if_pos hm, if_pos (List.mem_cons_of_mem _ hm), if_neg (by simp)]
        simp [upto, List.takeWhile_cons, h]
      · rw [if_neg hm, if_pos (by rfl), if_neg (by simp [h2, hm])]
theorem indexByte_mem (l : List UInt8) (c : UInt8) : (Lib.indexByte l c < 0) ↔ c ∉ l := by
  induction l with
  | nil => simp [Lib.indexByte]
  | cons a l ih =>
    unfold Lib.indexByte
    have hge := Lib.indexByte_ge l c
    by_cases h : a = c
    · subst h; simp
    · have h1 : (a == c) = false := by simpa using h
      have h2 : ¬ c = a := fun e => h e.symm
      rw [if_neg (by simp [h1])]
      by_cases hm : Lib.indexByte l c = -1
      · rw [if_pos (by simp [hm])]
        have := ih.1 (by omega)
        simp [h2, this]
      · rw [if_neg (by simpa using hm)]
        have h3 : ¬ c ∉ l := fun hh => by have := ih.2 hh; omega
        have h4 : c ∈ l := by simpa using h3
        simp [h4]; omega
theorem upto_le (l : List UInt8) : (upto l).length ≤ l.length := List.Sublist.length_le (List.takeWhile_sublist _)
theorem upto_take (l : List UInt8) : upto l = l.take (upto l).length := by
  have h : upto l ++ l.dropWhile (· != 0) = l := List.takeWhile_append_dropWhile
  have h2 : (upto l ++ l.dropWhile (· != 0)).take (upto l).length = upto l := List.take_left
  rw [h] at h2
  exact h2.symm
theorem upto_no0 (l : List UInt8) : (0 : UInt8) ∉ upto l := by
  unfold upto
  induction l with
  | nil => simp
  | cons a l ih =>
    rw [List.takeWhile_cons]
    split
    · rename_i h
      intro hm
      rcases List.mem_cons.1 hm with h0 | h0
      · simp [← h0] at h
      · exact ih h0
    · simp
theorem upto_none {l : List UInt8} (h : (0 : UInt8) ∉ l) : upto l = l := by
  unfold upto
  induction l with
  | nil => rfl
  | cons a l ih =>
    have h1 : a ≠ 0 := fun e => h (by simp [e])
    rw [List.takeWhile_cons, if_pos (by simpa using h1), ih (fun hm => h (List.mem_cons_of_mem _ hm))]

theorem indexByte_calls (s : List UInt8) (c : UInt8) (w : World) : Calls Tryz.prog 119 #[.string (ofL s), .int .u8 c.toNat] w fun e w' => e = .returned (.int .i64 (Lib.indexByte s c)) ∧ w = w' := by
  go_enter Tryz.func119, Tryz.ntmps119
  go_wp2
  rw [run_callFunc_extern Tryz.func173 (by kernel_rfl) (by kernel_rfl) (by kernel_rfl) (e := Extern.BytealgIndexByte.indexByte) (by kernel_rfl), Lib.run_indexByteString]
  simp only [Result.andThen]
  rw [Oper.upon_value]
  go_wp2
  go_ret
  exact ⟨rfl, rfl⟩

/-- The library's entry at bytes that are read, wherever they lie. -/
theorem run_indexByte_sl {P : Program} (w : World) {A : Option Addr} {l : List UInt8} (h : Cells w A (bcs l)) (c : Nat) (x : UInt8) :
    (Extern.BytealgIndexByte.indexByte #[.slice A l.length c, .int .u8 (x.toNat : Int)]).run P w = .ok (.int .i64 (Lib.indexByte l x)) w := by
  have hx : ((x.toNat : Int).toNat.toUInt8) = x := by simp
  cases A with
  | none =>
    have : l = [] := by
      cases l with
      | nil => rfl
      | cons y l => obtain ⟨b, o, e, _⟩ := h (by simp [bcs]); cases e
    subst this
    exact Lib.run_indexByteNil _ _ _ _
  | some a =>
    have hb : Lib.bytesOf (l.map fun b => (b.toNat : Int)) = l := by simp [Lib.bytesOf, Function.comp_def]
    have hl := Lib.run_loadBytesX (P := P) w (l.map fun b => (b.toNat : Int)) a .empty (fun j v hj => by
      have hj' : (bcs l)[j]? = some (.int .u8 v) := by
        simp [bcs] at hj ⊢
        obtain ⟨u, h1, h2⟩ := hj
        exact ⟨u, h1, h2⟩
      obtain ⟨b, o, e, h1⟩ := h.at_ hj'
      cases e
      rw [Addr.add_lit]; exact h1)
    rw [hb, List.length_map] at hl
    have hs := Lib.run_indexByteString (P := P) ⟨l.toArray⟩ (x.toNat : Int) w
    have he : (⟨ByteArray.empty.data ++ l.toArray⟩ : ByteArray) = ⟨l.toArray⟩ := by
      apply ByteArray.ext
      show (#[] : Array UInt8) ++ l.toArray = l.toArray
      simp
    rw [he] at hl
    rw [hx] at hs
    change Sem.run P (do
      let b ← Extern.Bytes.bytesOf (.slice (some a) l.length c)
      let c ← Extern.Bytes.asByte (.int .u8 (x.toNat : Int))
      match (List.range b.size).find? fun i => b[i]! == c with
      | some i => pure (goInt i)
      | none => pure (goInt (-1))) w = _
    change Sem.run P (do
      let b ← Extern.Bytes.bytesOf (.string ⟨l.toArray⟩)
      let c ← Extern.Bytes.asByte (.int .u8 (x.toNat : Int))
      match (List.range b.size).find? fun i => b[i]! == c with
      | some i => pure (goInt i)
      | none => pure (goInt (-1))) w = _ at hs
    simp only [Extern.Bytes.bytesOf, Sem.run_bind, Sem.run_pure, hl, Result.andThen] at hs ⊢
    exact hs

theorem indexByteB_calls (l : List UInt8) (x : UInt8) (A : Option Addr) (c : Nat) (F : Nat → Prop) (w : World) (ha : Sl Kd.byte w F A c l) : Calls Tryz.prog 168 #[.slice A l.length c, .int .u8 x.toNat] w fun e w' => e = .returned (.int .i64 (Lib.indexByte l x)) ∧ w = w' := by
  go_enter Tryz.func168, Tryz.ntmps168
  go_wp2
  rw [run_callFunc_extern Tryz.func178 (by kernel_rfl) (by kernel_rfl) (by kernel_rfl) (e := Extern.BytealgIndexByte.indexByte) (by kernel_rfl), run_indexByte_sl w ha.bytes]
  simp only [Result.andThen]
  rw [Oper.upon_value]
  go_wp2
  go_ret
  exact ⟨rfl, rfl⟩

set_option maxRecDepth 100000 in
/-- bytes.Index at one byte. -/
theorem index1_calls (l : List UInt8) (x : UInt8) (A B : Option Addr) (c d : Nat) (F G : Nat → Prop) (w : World) (ha : Sl Kd.byte w F A c l) (hb : Sl Kd.byte w G B d [x]) :
    Calls Tryz.prog 145 #[.slice A l.length c, .slice B 1 d] w fun e w' => e = .returned (.int .i64 (Lib.indexByte l x)) ∧ w = w' := by
  obtain ⟨b, o, rfl, hc⟩ := hb.byte_at 0 (by simp)
  simp only [List.getElem_cons_zero, Nat.add_zero] at hc
  go_enter Tryz.func145, Tryz.ntmps145
  go_wp2_with fail
  refine (indexByteB_calls l x _ _ _ _ ha).mono ?_
  rintro e w1 ⟨rfl, rfl⟩
  go_wp2_with fail
  go_ret
  exact ⟨rfl, rfl⟩
/-- bytes.Cut at a nought: what stands ahead of it. -/
theorem cut0_calls (l : List UInt8) (A B : Option Addr) (c d : Nat) (F G : Nat → Prop) (w : World) (ha : Sl Kd.byte w F A c l) (hb : Sl Kd.byte w G B d [0]) :
    Calls Tryz.prog 98 #[.slice A l.length c, .slice B 1 d] w fun e w' => ∃ v b, e = .returned (.tuple #[.slice A (upto l).length c, v, .bool b]) ∧ Drawn w w' := by
  have hi := indexByte0 l
  by_cases hm : (0 : UInt8) ∈ l
  · rw [if_pos hm] at hi
    have hle := upto_le l
    have hlt : (upto l).length < l.length := by
      rcases Nat.lt_or_ge (upto l).length l.length with h | h
      · exact h
      · exfalso
        have h2 := upto_take l
        rw [List.take_of_length_le h] at h2
        rw [← h2] at hm
        exact upto_no0 l hm
    have hcap := ha.1
    have hcap2 := ha.2.1
    obtain ⟨k, Hk⟩ := au (upto l).length
    rw [Hk.out] at hi hle hlt ⊢
    have Hi := Au.mk hi
    clear hi
    go_enter Tryz.func98, Tryz.ntmps98
    go_wp2_with fail
    refine (index1_calls l 0 _ _ _ _ _ _ _ ha hb).mono ?_
    rintro e w1 ⟨rfl, rfl⟩
    rw [Hi.out]
    go_wp2_with fail
    by_cases hck : c = k + 1
    · subst hck
      go_quiet (fail)
      go_wp2_with fail
      go_ret3
      exact ⟨_, _, rfl, Drawn.step (Drawn.refl _) _⟩
    · go_quiet (fail)
      go_wp2_with fail
      go_ret3
      exact ⟨_, _, rfl, Drawn.step (Drawn.refl _) _⟩
  · rw [if_neg hm] at hi
    have hu := upto_none hm
    obtain ⟨k, Hk⟩ := au (upto l).length
    have hkl : k = l.length := by rw [← Hk.out, hu]
    rw [Hk.out, hkl]
    have Hi := Au.mk hi
    clear hi hkl Hk hm hu
    go_enter Tryz.func98, Tryz.ntmps98
    go_wp2_with fail
    refine (index1_calls l 0 _ _ _ _ _ _ _ ha hb).mono ?_
    rintro e w1 ⟨rfl, rfl⟩
    rw [Hi.out]
    go_wp2_with fail
    go_ret3
    exact ⟨_, _, rfl, Drawn.refl _⟩
end Go.Proofs.YtldhcknjpmbgnaaGreatDoor.Rk
/- Walks: bytes.Equal, block.Zero. -/
namespace Go.Proofs.YtldhcknjpmbgnaaGreatDoor.Rk
open Go.RowKit
set_option linter.unusedVariables false
set_option linter.unusedSimpArgs false

theorem bequal_calls (l m : List UInt8) (A B : Option Addr) (c d : Nat) (F G : Nat → Prop) (w : World) (ha : Sl Kd.byte w F A c l) (hb : Sl Kd.byte w G B d m) :
    Calls Tryz.prog 62 #[.slice A l.length c, .slice B m.length d] w fun e w' => e = .returned (.bool (l == m)) ∧ w = w' := by
  have t1 := str_of ha
  have t2 := str_of hb
  go_enter Tryz.func62, Tryz.ntmps62
  go_wp2_with fail
  go_ret
  exact ⟨rfl, rfl⟩

theorem zero1_calls (x : UInt8) (w : World) : Calls Tryz.prog 142 #[.int .u8 x.toNat] w fun e w' => e = .returned (.bool (x != 0)) ∧ w = w' := by
  have h := byte_beq x 0
  go_enter Tryz.func142, Tryz.ntmps142
  go_wp2_with fail
  go_ret
  refine ⟨ret_bool ?_, rfl⟩
  have h0 : ((x.toNat : Int) == 0) = (x == 0) := h
  simp only [bne, h0]

/-- Are bytes noughts? -/
def isZero (l : List UInt8) : Bool := l.all (· == 0)

theorem indexFunc0_calls (l : List UInt8) (A : Option Addr) (c : Nat) (F : Nat → Prop) (w : World) (ha : Sl Kd.byte w F A c l) :
    Calls Tryz.prog 166 #[.slice A l.length c, .func (.func 142) #[] #[]] w fun e w' => ∃ n : Int, e = .returned (.int .i64 n) ∧ Au (decide (0 ≤ n) = !isZero l) ∧ w = w' := by
  have hle := ha.le
  go_enter Tryz.func166, Tryz.ntmps166
  go_wp2_with fail
  go_loop [8] (fun i => ∃ k : Nat, k ≤ l.length ∧ i = .int .i64 k ∧ Au (isZero (l.take k) = true)) (fun i => l.length - (intOf i).toNat)
  case atStart => exact ⟨0, Nat.zero_le _, rfl, ⟨rfl⟩⟩
  case round =>
    obtain ⟨k, hk, rfl, Hz⟩ := hrel
    by_cases hlt : k < l.length
    · obtain ⟨b, o, rfl, hc⟩ := ha.byte_at k hlt
      obtain ⟨x, Hx⟩ := au l[k]
      rw [Hx.out] at hc
      have hsplit : l = l.take k ++ x :: l.drop (k + 1) := by
        rw [← Hx.out, ← List.drop_eq_getElem_cons hlt, List.take_append_drop]
      by_cases hx : x = 0
      · have e1 : (x != 0) = false := by simp [hx]
        have Hx0 := Au.mk hx
        have Hs := Au.mk hsplit
        clear hx hsplit
        go_wp2_with fail
        refine (zero1_calls _ _).mono ?_
        rintro e w1 ⟨rfl, rfl⟩
        go_wp2_with fail
        go_round
        case rel =>
          refine ⟨k + 1, by omega, by go_num, ⟨?_⟩⟩
          have h1 := Hz.out
          unfold isZero at h1 ⊢
          rw [List.take_succ_eq_append_getElem hlt, List.all_append, h1, Hx.out, Hx0.out]
          rfl
        case measure => simp [intOf]; omega
      · have e1 : (x != 0) = true := by simpa using hx
        have hr : isZero l = false := by
          rw [hsplit]
          unfold isZero
          rw [List.all_append, List.all_cons, show (x == 0) = false from by simpa using hx]
          simp
        have Hr := Au.mk hr
        clear hx hsplit hr
        go_wp2_with fail
        refine (zero1_calls _ _).mono ?_
        rintro e w1 ⟨rfl, rfl⟩
        go_wp2_with fail
        go_ret
        refine ⟨_, rfl, ⟨?_⟩, rfl⟩
        rw [Hr.out]; simp
    · obtain rfl : k = l.length := by omega
      have h1 := Hz.out
      rw [List.take_length] at h1
      have Hr := Au.mk h1
      clear h1
      go_wp2_with fail
      go_ret
      refine ⟨_, rfl, ⟨?_⟩, rfl⟩
      rw [Hr.out]; rfl

theorem zero_calls (l : List UInt8) (A : Option Addr) (c : Nat) (F : Nat → Prop) (w : World) (ha : Sl Kd.byte w F A c l) :
    Calls Tryz.prog 95 #[.slice A l.length c] w fun e w' => e = .returned (.bool (isZero l)) ∧ w = w' := by
  obtain ⟨r, Hr⟩ := au (isZero l)
  rw [Hr.out]
  go_enter Tryz.func95, Tryz.ntmps95
  go_wp2_with (first | (go_at_call 166; refine (indexFunc0_calls l _ _ _ _ ha).mono ?_; rintro e w1 ⟨n, rfl, Hn, rfl⟩) | go_in)
  go_ret
  refine ⟨ret_bool ?_, rfl⟩
  have := Hn.out
  rw [Hr.out] at this
  cases r <;> simp_all
end Go.Proofs.YtldhcknjpmbgnaaGreatDoor.Rk
/- Walks: head.words, head.numbers. -/
namespace Go.Proofs.YtldhcknjpmbgnaaGreatDoor.Rk
open Go.RowKit
set_option linter.unusedVariables false
set_option linter.unusedSimpArgs false

/-- A header. -/
structure Hd where
  name : List UInt8
  pre : List UInt8
  link : List UInt8
  mode : Int
  uid : Int
  gid : Int
  size : Int
  mtime : Int
  ty : UInt8
  off : Int
  real : Int
def Hd.cells (h : Hd) : List Value := [.string (ofL h.name), .string (ofL h.pre), .string (ofL h.link), .int .i64 h.mode, .int .i64 h.uid, .int .i64 h.gid, .int .i64 h.size, .int .i64 h.mtime, .int .u8 h.ty.toNat, .int .i64 h.off, .int .i64 h.real]

/-- The words of a header at block g, as cells. -/
def wordsOf (g : Nat) (ty : UInt8) : List Value :=
  [.int .i64 0, .int .i64 100, .pointer (some ⟨g, 0, none⟩), .int .i64 157, .int .i64 100, .pointer (some ⟨g, 2, none⟩)] ++ (if ty = 77 then [] else [.int .i64 345, .int .i64 155, .pointer (some ⟨g, 1, none⟩)])
def wordsN (ty : UInt8) : Nat := if ty = 77 then 2 else 3
theorem etWord : ET Tryz.prog 154 159 (.agg #[.int .i64 0, .int .i64 0, .pointer none]) 3 24 := ⟨Tryz.underlying154, by kernel_rfl, rfl, by decide⟩

theorem words_calls (g : Nat) (ty : UInt8) (w : World) (hc : w.cell? ⟨g, 8, none⟩ = some (.int .u8 ty.toNat)) :
    Calls Tryz.prog 97 #[.pointer (some ⟨g, 0, none⟩)] w fun e w' => ∃ A c n, e = .returned (.slice A n c) ∧ Au (n = wordsN ty) ∧ Fresh w w' A (wordsOf g ty) ∧ Below w.heap.size w w' := by
  by_cases hty : ty = 77
  · subst hty
    have hall : ∀ o, (w.alloc o).cell? ⟨g, 8, none⟩ = some (.int .u8 77) := fun o => cell_alloc hc o
    go_enter Tryz.func97, Tryz.ntmps97
    go_wp2_with fail
    go_still_tail 8, (by kernel_rfl)
    go_wp2_with fail
    go_ret
    refine ⟨_, _, _, rfl, ⟨rfl⟩, ?_, by first | exact (Below.refl _ _).alloc (Nat.le_refl _) _ | exact below_drewN ((Below.refl _ _).alloc (Nat.le_refl _) _) _ | exact ((Below.refl _ _).alloc (Nat.le_refl _) _).drew⟩
    intro W hW
    have h := (row_lit w w.heap.size 159 (wordsOf g 77) 3 2 (Nat.le_refl _) rfl (by decide)).form
    obtain ⟨A, c, e, _, _, _, h2⟩ := h
    injection e with e1 _ e3
    subst e1 e3
    exact h2 W hW
  · have h2 : ((ty.toNat : Int) == 77) = false := by
      have := byte_beq ty 77
      rw [show (ty == 77) = false from by simpa using hty] at this
      exact this
    have h3 : ((ty.toNat : Int) != 77) = true := by rw [bne, h2]; rfl
    have hall : ∀ o, (w.alloc o).cell? ⟨g, 8, none⟩ = some (.int .u8 ty.toNat) := fun o => cell_alloc hc o
    have Hty := Au.mk hty
    clear hty
    go_enter Tryz.func97, Tryz.ntmps97
    go_wp2_with fail
    go_still_tail 8, (by kernel_rfl)
    have r0 : Row ((w.alloc (.cells (wordsOf g 77).toArray 159)).alloc (.cells #[.int .i64 345, .int .i64 155, .pointer (some ⟨g, 1, none⟩)] 159)).drew w.heap.size 3 (.slice (some ⟨w.heap.size, 0, none⟩) 2 2) 2 (wordsOf g 77) := ((row_lit w w.heap.size 159 (wordsOf g 77) 3 2 (Nat.le_refl _) rfl (by decide)).alloc _)
    have q0 : Cells ((w.alloc (.cells (wordsOf g 77).toArray 159)).alloc (.cells #[.int .i64 345, .int .i64 155, .pointer (some ⟨g, 1, none⟩)] 159)).drew (some ⟨w.heap.size + 1, 0, none⟩) [.int .i64 345, .int .i64 155, .pointer (some ⟨g, 1, none⟩)] := by
      have := cells_newN (w.alloc (.cells (wordsOf g 77).toArray 159)) [.int .i64 345, .int .i64 155, .pointer (some ⟨g, 1, none⟩)] 159
      rw [World.size_alloc] at this
      exact this
    go_wp2_with (first | (at_builtin; go_loud (refine wpList_append_row _ rfl etWord _ _ rfl rfl r0 rfl q0 rfl (by simp [Value.oneCell']) (by decide) (by decide) (by simp; omega) ?_)))
    intro v' w1 hrow hg _
    go_wp2_with fail
    go_ret
    have hcs : wordsOf g 77 ++ [Value.int .i64 345, .int .i64 155, .pointer (some ⟨g, 1, none⟩)] = wordsOf g ty := by
      simp [wordsOf, Hty.out]
    rw [hcs] at hrow
    obtain ⟨A, c, rfl, _, _, _, h4⟩ := hrow.form
    refine ⟨A, c, 3, rfl, ⟨?_⟩, h4, ?_⟩
    · simp [wordsN, Hty.out]
    · exact ((((Below.refl _ _).alloc (Nat.le_refl _) _).alloc (by simp) _).drew).grown hg (by simp; omega) (by intro k hk; simp [Value.ownBlock] at hk; omega)
end Go.Proofs.YtldhcknjpmbgnaaGreatDoor.Rk
/- Walks: head.numbers, (page).put. -/
namespace Go.Proofs.YtldhcknjpmbgnaaGreatDoor.Rk
open Go.RowKit
set_option linter.unusedVariables false
set_option linter.unusedSimpArgs false

def spotsA (g : Nat) : List Value := [.int .i64 100, .int .i64 8, .pointer (some ⟨g, 3, none⟩), .int .i64 108, .int .i64 8, .pointer (some ⟨g, 4, none⟩), .int .i64 116, .int .i64 8, .pointer (some ⟨g, 5, none⟩),
  .int .i64 124, .int .i64 12, .pointer (some ⟨g, 6, none⟩), .int .i64 136, .int .i64 12, .pointer (some ⟨g, 7, none⟩)]
def spotsB (g : Nat) : List Value := [.int .i64 369, .int .i64 12, .pointer (some ⟨g, 9, none⟩), .int .i64 483, .int .i64 12, .pointer (some ⟨g, 10, none⟩)]
/-- The numbers of a header at block g, as cells. -/
def spotsOf (g : Nat) (ty : UInt8) : List Value := spotsA g ++ (if ty = 77 then spotsB g else [])
def spotsN (ty : UInt8) : Nat := if ty = 77 then 7 else 5
theorem etSpot : ET Tryz.prog 162 166 (.agg #[.int .i64 0, .int .i64 0, .pointer none]) 3 24 := ⟨Tryz.underlying162, by kernel_rfl, rfl, by decide⟩

set_option maxHeartbeats 2000000 in
theorem numbers_calls (g : Nat) (ty : UInt8) (w : World) (hc : w.cell? ⟨g, 8, none⟩ = some (.int .u8 ty.toNat)) :
    Calls Tryz.prog 99 #[.pointer (some ⟨g, 0, none⟩)] w fun e w' => ∃ A c n, e = .returned (.slice A n c) ∧ Au (n = spotsN ty) ∧ Fresh w w' A (spotsOf g ty) ∧ Below w.heap.size w w' := by
  have hall : ∀ o, (w.alloc o).cell? ⟨g, 8, none⟩ = some (.int .u8 ty.toNat) := fun o => cell_alloc hc o
  by_cases hty : ty = 77
  · subst hty
    go_enter Tryz.func99, Tryz.ntmps99
    go_wp2_with fail
    go_still_tail 20, (by kernel_rfl)
    go_wp2_with fail
    have r0 : Row ((w.alloc (.cells (spotsA g).toArray 166)).alloc (.cells (spotsB g).toArray 166)).drew w.heap.size 3 (.slice (some ⟨w.heap.size, 0, none⟩) 5 5) 5 (spotsA g) := ((row_lit w w.heap.size 166 (spotsA g) 3 5 (Nat.le_refl _) rfl (by decide)).alloc _)
    have q0 : Cells ((w.alloc (.cells (spotsA g).toArray 166)).alloc (.cells (spotsB g).toArray 166)).drew (some ⟨w.heap.size + 1, 0, none⟩) (spotsB g) := by
      have := cells_newN (w.alloc (.cells (spotsA g).toArray 166)) (spotsB g) 166
      rw [World.size_alloc] at this
      exact this
    go_region_law (refine step_append_row _ rfl etSpot _ _ rfl rfl r0 rfl q0 rfl (by simp [spotsB, Value.oneCell']) (by decide) (by decide) (by simp; omega) ?_; intro v' w1 hrow hg hv)
    all_goals
      go_wp2_with fail
      go_ret
      have hcs : spotsA g ++ spotsB g = spotsOf g 77 := by simp [spotsOf]
      rw [hcs] at hrow
      obtain ⟨A, c, rfl, _, _, _, h4⟩ := hrow.form
      refine ⟨A, c, 7, rfl, ⟨rfl⟩, h4, ?_⟩
      have hb0 := (((((Below.refl w.heap.size w).alloc (Nat.le_refl _) (.cells (spotsA g).toArray 166)).alloc (by simp) (.cells (spotsB g).toArray 166)).drew).drew)
      exact hb0.grown hg (by simp; omega) (by intro k hk; have hk2 : some w.heap.size = some k := hk; injection hk2 with hk2; omega)
  · have h2 : ((ty.toNat : Int) == 77) = false := by
      have := byte_beq ty 77
      rw [show (ty == 77) = false from by simpa using hty] at this
      exact this
    have h3 : ((ty.toNat : Int) != 77) = true := by rw [bne, h2]; rfl
    have Hty := Au.mk hty
    clear hty
    go_enter Tryz.func99, Tryz.ntmps99
    go_wp2_with fail
    go_still_tail 20, (by kernel_rfl)
    go_wp2_with fail
    go_ret
    refine ⟨_, _, _, rfl, ⟨by simp [spotsN, Hty.out]⟩, ?_, by first | exact (Below.refl _ _).alloc (Nat.le_refl _) _ | exact below_drewN ((Below.refl _ _).alloc (Nat.le_refl _) _) _ | exact ((Below.refl _ _).alloc (Nat.le_refl _) _).drew⟩
    intro W hW
    have hcs : spotsOf g ty = spotsA g := by simp [spotsOf, Hty.out]
    rw [hcs]
    obtain ⟨A, c, e, _, _, _, h2⟩ := (row_lit w w.heap.size 166 (spotsA g) 3 5 (Nat.le_refl _) rfl (by decide)).form
    injection e with e1 _ e3
    subst e1 e3
    exact h2 W hW
end Go.Proofs.YtldhcknjpmbgnaaGreatDoor.Rk
/- Walks: (page).put. -/
namespace Go.Proofs.YtldhcknjpmbgnaaGreatDoor.Rk
open Go.RowKit
set_option linter.unusedVariables false
set_option linter.unusedSimpArgs false

theorem flatten_take_succ {l : List (List UInt8)} {k : Nat} {x : List UInt8} (h : l[k]? = some x) : (l.take (k + 1)).flatten = (l.take k).flatten ++ x := by
  have hlt := (List.getElem?_eq_some_iff.1 h).1
  rw [List.take_succ_eq_append_getElem hlt]
  rw [List.getElem?_eq_getElem hlt] at h
  injection h with h
  simp [h]
theorem flatten_take_le (l : List (List UInt8)) (k : Nat) : (l.take k).flatten.length ≤ l.flatten.length := by
  have : l.flatten = (l.take k).flatten ++ (l.drop k).flatten := by rw [← List.flatten_append, List.take_append_drop]
  rw [this]; simp

theorem infoU8 : (Tryz.prog.info? 5).map (·.size) = some 1 := by kernel_rfl
theorem blk_grown {w w' : World} {g : Nat} {o : Obj} {row : Option Nat} (h : w.heap[g]? = some o) (hg : w.grownBy w' row) (hne : some g ≠ row) : w'.heap[g]? = some o := (hg.block g (lt_of_block h) hne).trans h

set_option maxHeartbeats 1000000 in
theorem pput_calls (g : Nat) (pg : List UInt8) (i : Nat) (xs : List (List UInt8)) {A : Option Addr} {c : Nat} {F : Nat → Prop} (w : World) (hg : w.heap[g]? = some (.cells (bcs pg).toArray 5 (0, 0))) (hl : pg.length = 512)
    (hfit : i + xs.flatten.length ≤ 512) (hs : Sl (Kd.slice Kd.byte) w F A c xs) (hF : ¬ F g) :
    Calls Tryz.prog 149 #[.agg #[.slice (some ⟨g, 0, none⟩) 512 512], .int .i64 i, .slice A xs.length c] w fun e w' =>
      e = .returned (.tuple #[]) ∧ Au (w'.heap[g]? = some (.cells (bcs (splice pg i xs.flatten)).toArray 5 (0, 0))) ∧ w.grownBy w' (some g) := by
  have hcap := hs.1
  have hcap2 := hs.2.1
  have hglt := lt_of_block hg
  go_enter Tryz.func149, Tryz.ntmps149
  go_wp2_with fail
  go_loopw [1, 7, 10] (fun a _ j wr => ∃ (k p : Nat), k ≤ xs.length ∧ a = .int .i64 (p : Int) ∧ j = .int .i64 k ∧ Au (p = i + (xs.take k).flatten.length) ∧ Au (wr.heap[g]? = some (.cells (bcs (splice pg i (xs.take k).flatten)).toArray 5 (0, 0))) ∧ wr.heap[w.heap.size]? = some (.cells #[.slice (some ⟨g, 0, none⟩) 512 512] 150 (0, 0)) ∧ w.grownBy wr (some g)) (fun _ _ j _ => xs.length - (intOf j).toNat)
  case atStart =>
    refine ⟨0, i, Nat.zero_le _, rfl, rfl, ⟨by simp⟩, ⟨?_⟩, heap_alloc_new _ _, grown_of ((Below.refl _ _).alloc (Nat.le_refl _) _) _⟩
    rw [List.take_zero, List.flatten_nil, splice_nil]
    exact blk_alloc hg _
  case round =>
    obtain ⟨k, p, hk, rfl, rfl, Hp, Hg, hbx, hgr⟩ := hrel
    by_cases hlt : k < xs.length
    · obtain ⟨x, Hx⟩ : ∃ x, Au (xs[k]? = some x) := ⟨_, ⟨List.getElem?_eq_getElem hlt⟩⟩
      have hs2 := hs.grown hgr (by intro _ h; cases h; exact hF)
      obtain ⟨b, o, A', c', rfl, hcell, hx⟩ := hs2.slice_at Hx.out
      have hfl := flatten_take_le xs (k + 1)
      rw [flatten_take_succ Hx.out, List.length_append] at hfl
      have hp2 : p + x.length ≤ 512 := by have := Hp.out; omega
      have hxc := hx.1
      have hxc2 := hx.2.1
      have Hlen : Au ((splice pg i (xs.take k).flatten).length = 512) := ⟨by rw [splice_length _ _ _ (by omega), hl]⟩
      have hq1 := cell_of_one hbx
      clear hfl
      obtain ⟨dp, hcut, hdp⟩ := cut_from etBytes g 512 p (by omega)
      have Hdp := Au.mk hdp
      clear hdp
      go_wp2_with (first | (with_reducible refine wpList_copy_blk (o := ⟨some 20, _, _, _, _, _⟩) wr ?a1 (.tmp 18) (.tmp 19) 46 46 ?a2 5 Tryz.underlying46 infoU8 dp A' (512 - p) (512 - p) x.length c' ?a3 ?a4 g p _ 5 Hg.out (bcs x) ?a5 ?a6 hx.bytes ?a7 (bcs_one _) ?a8))
      case a1 => rfl
      case a2 => rfl
      case a3 => rfl
      case a4 => rfl
      case a5 => rw [bcs_length]; show x.length = min x.length (512 - p); omega
      case a6 => intro h; rw [bcs_length] at h; exact Hdp.out (by omega)
      case a7 => rw [bcs_length, bcs_length]; have := Hlen.out; omega
      intro w3 Hg3 hgr3
      go_wp2_with fail
      go_roundw
      case rel =>
        refine ⟨k + 1, p + x.length, by omega, by rw [bcs_length]; congr 1; unfold wrap64; omega, by go_num, ⟨?_⟩, ⟨?_⟩, blk_grown hbx hgr3 (by simp; omega), grown_trans hgr hgr3⟩
        · rw [flatten_take_succ Hx.out, List.length_append, Hp.out]; omega
        · have := Hg3.out
          rw [splice_bcs, Hp.out, splice_append _ _ _ _ (by have := Hp.out; omega), ← flatten_take_succ Hx.out] at this
          exact this
      case measure => simp [intOf]; omega
    · obtain rfl : k = xs.length := by omega
      go_wp2_with fail
      go_end0
      refine ⟨rfl, ⟨?_⟩, hgr⟩
      have := Hg.out
      rwa [List.take_length] at this
end Go.Proofs.YtldhcknjpmbgnaaGreatDoor.Rk
/- head.Sum, (signed).sum, and the document's. -/
namespace Go.Proofs.YtldhcknjpmbgnaaGreatDoor.Rk
open Go.RowKit
set_option linter.unusedVariables false
set_option linter.unusedSimpArgs false

/-- What a byte at a place counts in the sum. -/
def sumB (i : Nat) (x : UInt8) : Nat := if 148 ≤ i ∧ i < 156 then 32 else x.toNat
def sumK (b : List UInt8) : Nat → Nat
  | 0 => 0
  | k + 1 => sumK b k + sumB k (b[k]?.getD 0)
def hsum (b : List UInt8) : Int := if b.length = 512 then (sumK b 512 : Int) else -1
theorem sumB_le (i : Nat) (x : UInt8) : sumB i x ≤ 255 := by
  unfold sumB; split <;> have := x.toNat_lt <;> omega
theorem sumK_le (b : List UInt8) (k : Nat) : sumK b k ≤ 255 * k := by
  induction k with
  | zero => simp [sumK]
  | succ k ih => have := sumB_le k (b[k]?.getD 0); simp only [sumK]; omega
theorem sumK_step {b : List UInt8} {k : Nat} (h : k < b.length) : sumK b (k + 1) = sumK b k + sumB k b[k] := by simp [sumK, h]

set_option maxRecDepth 100000 in
theorem sum_walk (l : List UInt8) {A : Option Addr} {c : Nat} {F : Nat → Prop} (w : World) (ha : Sl Kd.byte w F A c l) (hl : l.length = 512) :
    Calls Tryz.prog 144 #[.slice A l.length c] w fun e w' => e = .returned (.int .i64 (sumK l 512)) ∧ w = w' := by
  have c1 : ((l.length : Int) != 512) = false := by simp [hl]
  have Hl := Au.mk hl
  clear hl
  go_enter Tryz.func144, Tryz.ntmps144
  go_wp2_with fail
  go_loop [3, 11] (fun n i => ∃ k : Nat, k ≤ 512 ∧ i = .int .i64 k ∧ n = .int .i64 (sumK l k : Int)) (fun _ i => 512 - (intOf i).toNat)
  case atStart => exact ⟨0, by omega, rfl, rfl⟩
  case round =>
    obtain ⟨k, hk, rfl, rfl⟩ := hrel
    by_cases hlt : k < 512
    · have hkl : k < l.length := by have := Hl.out; omega
      obtain ⟨a1, a2, rfl, ca⟩ := ha.byte_at k hkl
      obtain ⟨x, hx⟩ : ∃ x, x = l[k] := ⟨_, rfl⟩
      rw [← hx] at ca
      have hs := sumK_step hkl
      rw [← hx] at hs
      have hb := sumK_le l k
      have Hs := Au.mk hs
      clear hs hx
      have hx2 := x.toNat_lt
      by_cases h1 : 148 ≤ k
      · by_cases h2 : k < 156
        · have hs2 : sumK l (k + 1) = sumK l k + 32 := by rw [Hs.out]; simp [sumB, h1, h2]
          have Hs2 := Au.mk hs2
          clear hs2
          go_wp2_with fail
          go_round
          case rel => exact ⟨k + 1, by omega, by go_num, by rw [Hs2.out]; go_num⟩
          case measure => simp [intOf]; omega
        · have hs2 : sumK l (k + 1) = sumK l k + x.toNat := by rw [Hs.out]; simp [sumB, h2]
          have Hs2 := Au.mk hs2
          clear hs2
          go_wp2_with fail
          go_round
          case rel => exact ⟨k + 1, by omega, by go_num, by rw [Hs2.out]; go_num⟩
          case measure => simp [intOf]; omega
      · have hs2 : sumK l (k + 1) = sumK l k + x.toNat := by rw [Hs.out]; simp [sumB, h1]
        have Hs2 := Au.mk hs2
        clear hs2
        go_wp2_with fail
        go_round
        case rel => exact ⟨k + 1, by omega, by go_num, by rw [Hs2.out]; go_num⟩
        case measure => simp [intOf]; omega
    · obtain rfl : k = 512 := by omega
      have hle : l.length < 513 := by have := Hl.out; omega
      go_wp2_with fail
      go_ret
      exact ⟨rfl, rfl⟩
theorem sum_calls (l : List UInt8) {n : Int} (hn : hsum l = n) {A : Option Addr} {c : Nat} {F : Nat → Prop} (w : World) (ha : Sl Kd.byte w F A c l) :
    Calls Tryz.prog 144 #[.slice A l.length c] w fun e w' => e = .returned (.int .i64 n) ∧ w = w' := by
  subst hn
  by_cases hl : l.length = 512
  · have := sum_walk l w ha hl
    unfold hsum
    rw [if_pos hl]
    exact this
  · have c1 : ((l.length : Int) != 512) = true := by simp; omega
    unfold hsum
    rw [if_neg hl]
    clear hl
    go_enter Tryz.func144, Tryz.ntmps144
    go_wp2_with fail
    go_ret
    exact ⟨rfl, rfl⟩
end Go.Proofs.YtldhcknjpmbgnaaGreatDoor.Rk
/- (signed).sum, sign. -/
namespace Go.Proofs.YtldhcknjpmbgnaaGreatDoor.Rk
open Go.RowKit
set_option linter.unusedVariables false
set_option linter.unusedSimpArgs false

/-- How a block's sum stands. -/
def sgn (b : List UInt8) : List UInt8 := octL 6 (sumK b 512) ++ [0, 32]
theorem sgn_length (b : List UInt8) : (sgn b).length = 8 := by simp [sgn, octL_length]
theorem octal_sum (b : List UInt8) : octal (sumK b 512) 6 = some (octL 6 (sumK b 512)) := by
  have h := sumK_le b 512
  have h2 : sumK b 512 < 262144 := by omega
  have h3 := octal_some (n := sumK b 512) (d := 6) (by decide) (by decide) (Nat.div_eq_of_lt (by simpa using h2))
  exact h3
theorem hsum512 {b : List UInt8} (h : b.length = 512) : hsum b = (sumK b 512 : Int) := by simp [hsum, h]

theorem ssum_calls (l : List UInt8) {n : Nat} (hn : l.length = n) {s : List UInt8} (hs : sgn l = s) {A : Option Addr} {c : Nat} {F : Nat → Prop} (w : World) (ha : Sl Kd.byte w F A c l) (hl : n = 512) :
    Calls Tryz.prog 96 #[.agg #[.slice A n c]] w fun e w' => ∃ B d, e = .returned (.slice B s.length d) ∧ Sl Kd.byte w' (fun k => w.heap.size ≤ k) B d s ∧ Below w.heap.size w w' := by
  subst hn
  have hk := octal_sum l
  have hsm := hsum512 hl
  have hle := sumK_le l 512
  obtain ⟨m, hm⟩ : ∃ m, m = sumK l 512 := ⟨_, rfl⟩
  have hs2 : octL 6 m ++ [0, 32] = s := by rw [hm]; exact hs
  rw [← hm] at hk hsm hle
  obtain ⟨q, hq⟩ : ∃ q, q = octL 6 m := ⟨_, rfl⟩
  have hql : q.length = 6 := by rw [hq, octL_length]
  rw [← hq] at hk hs2
  have hb0 := Below.refl w.heap.size w
  have Hk := Au.mk hk
  have Hs2 := Au.mk hs2
  have Hsm := Au.mk hsm
  have Hql := Au.mk hql
  clear hk hs2 hm hq hsm hql hl hs
  have kb := fun W => str_bytes (P := Tryz.prog) (dst := 46) Tryz.underlying9 Tryz.underlying46 Tryz.underlying5 q W
  go_enter Tryz.func96, Tryz.ntmps96
  go_wp2_with fail
  refine (sum_calls _ Hsm.out _ (ha.alloc _)).mono ?_
  rintro e w1 ⟨rfl, rfl⟩
  go_wp2_with fail
  refine (octal_yes Hk.out _ (by omega) (by omega)).mono ?_
  rintro e w2 ⟨rfl, b2⟩
  have hb2 := ((hb0.alloc (Nat.le_refl _) (.cells #[.slice A l.length c] 152)).trans (b2.mono (by simp)))
  go_wp2_with (first | (at_builtin; go_loud (refine wpList_append_row _ rfl etBytes _ _ rfl rfl ((bytesWorld_row _ _ q (by have := Hql.out; omega) _ hb2.size).alloc _) rfl (cells_newN _ [.int .u8 0, .int .u8 32] _) rfl (by simp [Value.oneCell', bcs]) (by simp only [maxLen]; have := Hql.out; omega) (by have := Hql.out; omega) (by simp [Lib.bytesWorld_size]; have := hb2.size; omega) ?_)))
  intro v' w3 hrow hg _
  have hb3 : Below w.heap.size w w3 := (((below_then hb2 (bytesWorld_below _ 5 q) hb2.size).alloc (by simp [Lib.bytesWorld_size]; have := hb2.size; omega) _).grown hg (by simp [Lib.bytesWorld_size]; have := hb2.size; omega) (by
    intro k hk; simp [Value.ownBlock] at hk; have := hb2.size; omega))
  have hr : Row w3 w.heap.size 1 v' s.length (bcs s) := by rw [← Hs2.out, bcs_append, List.length_append]; exact hrow
  obtain ⟨B, d, rfl, hsl⟩ := hr.sl_bytes
  go_wp2_with fail
  go_ret
  exact ⟨B, d, rfl, hsl, hb3⟩

end Go.Proofs.YtldhcknjpmbgnaaGreatDoor.Rk
/- head.May. -/
namespace Go.Proofs.YtldhcknjpmbgnaaGreatDoor.Rk
open Go.RowKit
set_option linter.unusedVariables false
set_option linter.unusedSimpArgs false

/-- A place: where it stands, how wide, which field. -/
structure Sp where
  at_ : Nat
  wide : Nat
  ix : Nat
def Sp.cells (g : Nat) (s : Sp) : List Value := [.int .i64 s.at_, .int .i64 s.wide, .pointer (some ⟨g, s.ix, none⟩)]
def wSp (ty : UInt8) : List Sp := [⟨0, 100, 0⟩, ⟨157, 100, 2⟩] ++ (if ty = 77 then [] else [⟨345, 155, 1⟩])
def nSp (ty : UInt8) : List Sp := [⟨100, 8, 3⟩, ⟨108, 8, 4⟩, ⟨116, 8, 5⟩, ⟨124, 12, 6⟩, ⟨136, 12, 7⟩] ++ (if ty = 77 then [⟨369, 12, 9⟩, ⟨483, 12, 10⟩] else [])
def Hd.text (h : Hd) : Nat → List UInt8
  | 0 => h.name
  | 1 => h.pre
  | _ => h.link
def Hd.numb (h : Hd) : Nat → Int
  | 3 => h.mode
  | 4 => h.uid
  | 5 => h.gid
  | 6 => h.size
  | 7 => h.mtime
  | 9 => h.off
  | _ => h.real
def Hd.R (h : Hd) : Prop := R64 h.mode ∧ R64 h.uid ∧ R64 h.gid ∧ R64 h.size ∧ R64 h.mtime ∧ R64 h.off ∧ R64 h.real
theorem Hd.R.numb {h : Hd} (hr : h.R) (i : Nat) : R64 (h.numb i) := by
  obtain ⟨h1, h2, h3, h4, h5, h6, h7⟩ := hr
  unfold Hd.numb; split <;> assumption
theorem wSp_cells (g : Nat) (ty : UInt8) : wordsOf g ty = ((wSp ty).map (Sp.cells g)).flatten := by
  unfold wordsOf wSp; split <;> rfl
theorem nSp_cells (g : Nat) (ty : UInt8) : spotsOf g ty = ((nSp ty).map (Sp.cells g)).flatten := by
  unfold spotsOf nSp; split <;> rfl
theorem wSp_len (ty : UInt8) : (wSp ty).length = wordsN ty := by unfold wSp wordsN; split <;> rfl
theorem nSp_len (ty : UInt8) : (nSp ty).length = spotsN ty := by unfold nSp spotsN; split <;> rfl
theorem flat3_at (g : Nat) : ∀ (l : List Sp) (k : Nat) (s : Sp), l[k]? = some s → ∀ j, j < 3 → ((l.map (Sp.cells g)).flatten)[k * 3 + j]? = (s.cells g)[j]?
  | [], k, s, h => by simp at h
  | a :: l, 0, s, h => by
    intro j hj
    simp at h; subst h
    rw [List.map_cons, List.flatten_cons, List.getElem?_append_left (by simp [Sp.cells]; omega)]
    simp
  | a :: l, k + 1, s, h => by
    intro j hj
    rw [List.map_cons, List.flatten_cons, List.getElem?_append_right (by simp [Sp.cells]; omega)]
    have := flat3_at g l k s (by simpa using h) j hj
    rw [← this]; congr 1; simp [Sp.cells]; omega
/-- The three cells of a place in a row of places. -/
theorem place_cells {w : World} {g : Nat} {A : Option Addr} {l : List Sp} {k : Nat} {s : Sp} (h : Cells w A ((l.map (Sp.cells g)).flatten)) (hk : l[k]? = some s) :
    ∃ b o, A = some ⟨b, o, none⟩ ∧ w.cell? ⟨b, o + k * 3, none⟩ = some (.int .i64 s.at_) ∧ w.cell? ⟨b, o + k * 3 + 1, none⟩ = some (.int .i64 s.wide) ∧ w.cell? ⟨b, o + k * 3 + 2, none⟩ = some (.pointer (some ⟨g, s.ix, none⟩)) := by
  have h0 := flat3_at g l k s hk 0 (by omega)
  have h1 := flat3_at g l k s hk 1 (by omega)
  have h2 := flat3_at g l k s hk 2 (by omega)
  obtain ⟨b, o, rfl, c0⟩ := h.at_ (h0.trans rfl)
  obtain ⟨b', o', e, c1⟩ := h.at_ (h1.trans rfl)
  injection e with e; injection e with e1 e2; subst e1 e2
  obtain ⟨b', o', e, c2⟩ := h.at_ (h2.trans rfl)
  injection e with e; injection e with e1 e2; subst e1 e2
  exact ⟨b, o, rfl, c0, c1, c2⟩
theorem wSp_mem {ty : UInt8} {k : Nat} {s : Sp} (h : (wSp ty)[k]? = some s) : s.ix < 3 ∧ s.at_ + s.wide ≤ 512 := by
  have := List.mem_of_getElem? h
  unfold wSp at this; split at this <;> simp at this <;> (rcases this with rfl | rfl | rfl <;> exact ⟨by decide, by decide⟩) <;> (rcases this with rfl | rfl <;> exact ⟨by decide, by decide⟩)
/-- A header as a value. -/
def Hd.agg (h : Hd) : Value := .agg #[.string (ofL h.name), .string (ofL h.pre), .string (ofL h.link), .int .i64 h.mode, .int .i64 h.uid, .int .i64 h.gid, .int .i64 h.size, .int .i64 h.mtime, .int .u8 h.ty.toNat, .int .i64 h.off, .int .i64 h.real]
def wordOk (h : Hd) (s : Sp) : Bool := decide ((h.text s.ix).length ≤ s.wide) && !(h.text s.ix).contains 0
def numbOk (h : Hd) (s : Sp) : Bool := (put (h.numb s.ix) s.wide).isSome
def tyOk (t : UInt8) : Bool := [48, 49, 50, 53, 75, 76, 77, 86].contains t
def restOk (h : Hd) : Bool := if h.ty = 77 then h.pre == [] else h.off == 0 && h.real == 0
def hmay (h : Hd) : Bool := !(h.name == []) && tyOk h.ty && restOk h && (wSp h.ty).all (wordOk h) && (nSp h.ty).all (numbOk h)
end Go.Proofs.YtldhcknjpmbgnaaGreatDoor.Rk
/- head.May: the walk. -/
namespace Go.Proofs.YtldhcknjpmbgnaaGreatDoor.Rk
open Go.RowKit
set_option linter.unusedVariables false
set_option linter.unusedSimpArgs false

theorem index_is {s : List UInt8} {c : UInt8} {n : Int} (hn : Lib.indexByte s c = n) (w : World) : Calls Tryz.prog 119 #[.string (ofL s), .int .u8 c.toNat] w fun e w' => e = .returned (.int .i64 n) ∧ w = w' := by
  subst hn; exact indexByte_calls s c w
theorem index0_quiet {s : List UInt8} {n : Int} (hn : Lib.indexByte s 0 = n) (W : World) (a : Nat) : Calls Tryz.prog 119 #[.string (ofL s), .int .u8 0] (W.drewN a) fun e w' => e = .returned (.int .i64 n) ∧ ∃ m, w' = W.drewN m :=
  (index_is hn (W.drewN a)).mono fun e w' ⟨h1, h2⟩ => ⟨h1, a, h2.symm⟩
theorem may_no1 (h : Hd) (w : World) (h1 : (h.name == []) = true) :
    Calls Tryz.prog 148 #[h.agg] w fun e w' => e = .returned (.bool false) ∧ Below w.heap.size w w' := by
  unfold Hd.agg
  have hb0 := Below.refl w.heap.size w
  go_enter Tryz.func148, Tryz.ntmps148
  go_wp2_with fail
  go_ret
  exact ⟨rfl, hb0.alloc (Nat.le_refl _) _⟩
theorem may_no2 (h : Hd) (w : World) (h1 : (h.name == []) = false) (h2 : tyOk h.ty = false) :
    Calls Tryz.prog 148 #[h.agg] w fun e w' => e = .returned (.bool false) ∧ Below w.heap.size w w' := by
  unfold Hd.agg
  have hb0 := Below.refl w.heap.size w
  obtain ⟨n, Hn⟩ := au (Lib.indexByte [48, 49, 50, 53, 75, 76, 77, 86] h.ty)
  have hn : n < 0 := by
    rw [← Hn.out, indexByte_mem]
    simpa [tyOk] using h2
  go_enter Tryz.func148, Tryz.ntmps148
  go_wp2_with fail
  refine (index_is Hn.out _).mono ?_
  rintro e w1 ⟨rfl, rfl⟩
  go_wp2_with fail
  go_ret
  exact ⟨rfl, hb0.alloc (Nat.le_refl _) _⟩
theorem may_no3 (h : Hd) (w : World) (h1 : (h.name == []) = false) (h2 : tyOk h.ty = true) (h3 : restOk h = false) :
    Calls Tryz.prog 148 #[h.agg] w fun e w' => e = .returned (.bool false) ∧ Below w.heap.size w w' := by
  unfold Hd.agg
  have hb0 := Below.refl w.heap.size w
  obtain ⟨n, Hn⟩ := au (Lib.indexByte [48, 49, 50, 53, 75, 76, 77, 86] h.ty)
  have hn : 0 ≤ n := by
    have h4 : h.ty ∈ [48, 49, 50, 53, 75, 76, 77, 86] := by simpa [tyOk] using h2
    have := indexByte_mem [48, 49, 50, 53, 75, 76, 77, 86] h.ty
    rw [Hn.out] at this
    exact Int.not_lt.1 fun hlt => this.1 hlt h4
  obtain ⟨t, Ht⟩ := au ((h.ty.toNat : Int) == 77)
  obtain ⟨p, Hp⟩ := au (h.pre == [])
  obtain ⟨o1, Ho1⟩ := au (h.off == 0)
  obtain ⟨o2, Ho2⟩ := au (h.real == 0)
  have e77 : ((h.ty.toNat : Int) == 77) = (h.ty == 77) := byte_beq h.ty 77
  rw [Ht.out] at e77
  have ht := Ht.out
  have ht2 : ((h.ty.toNat : Int) != 77) = !t := by rw [bne, ht]
  have hp := Hp.out
  have ho1 := Ho1.out
  have ho2 := Ho2.out
  have hp2 : (h.pre != []) = !p := by rw [bne, hp]
  have ho12 : (h.off != 0) = !o1 := by rw [bne, ho1]
  have ho22 : (h.real != 0) = !o2 := by rw [bne, ho2]
  unfold restOk at h3
  rw [hp, ho1, ho2] at h3
  go_enter Tryz.func148, Tryz.ntmps148
  go_wp2_with fail
  refine (index_is Hn.out _).mono ?_
  rintro e w1 ⟨rfl, rfl⟩
  cases t
  · have h77 : ¬ h.ty = 77 := by simpa using e77.symm
    rw [if_neg h77] at h3
    have H77 := Au.mk h77
    clear h77 e77
    cases o1
    · go_wp2_with fail
      go_ret
      exact ⟨rfl, hb0.alloc (Nat.le_refl _) _⟩
    · cases o2
      · go_wp2_with fail
        go_ret
        exact ⟨rfl, hb0.alloc (Nat.le_refl _) _⟩
      · simp at h3
  · have h77 : h.ty = 77 := by simpa using e77.symm
    rw [if_pos h77] at h3
    subst h3
    have H77 := Au.mk h77
    clear h77 e77
    go_wp2_with fail
    go_ret
    exact ⟨rfl, hb0.alloc (Nat.le_refl _) _⟩
end Go.Proofs.YtldhcknjpmbgnaaGreatDoor.Rk
/- head.May: the walk through the loops. -/
namespace Go.Proofs.YtldhcknjpmbgnaaGreatDoor.Rk
open Go.RowKit
set_option linter.unusedVariables false
set_option linter.unusedSimpArgs false

theorem take_all_succ {α : Type} {l : List α} {f : α → Bool} {k : Nat} {s : α} (hk : l[k]? = some s) (h : (l.take k).all f = true) (hs : f s = true) : (l.take (k + 1)).all f = true := by
  have hlt := (List.getElem?_eq_some_iff.1 hk).1
  rw [List.take_succ_eq_append_getElem hlt]
  rw [List.getElem?_eq_getElem hlt] at hk
  injection hk with hk
  simp [hk, hs, h]
theorem all_at {α : Type} {l : List α} {f : α → Bool} {k : Nat} {s : α} (hk : l[k]? = some s) (hs : f s = false) : l.all f = false := by
  rw [List.all_eq_false]
  exact ⟨s, List.mem_of_getElem? hk, by simp [hs]⟩
theorem hd_text_cell {w : World} {g : Nat} {h : Hd} (hg : w.heap[g]? = some (.cells h.cells.toArray 104 (0, 0))) {i : Nat} (hi : i < 3) : w.cell? ⟨g, i, none⟩ = some (.string (ofL (h.text i))) := by
  apply blk_cell hg
  match i, hi with
  | 0, _ => rfl
  | 1, _ => rfl
  | 2, _ => rfl

theorem nSp_mem {ty : UInt8} {k : Nat} {s : Sp} (h : (nSp ty)[k]? = some s) : 3 ≤ s.ix ∧ s.ix < 11 ∧ s.ix ≠ 8 ∧ s.at_ + s.wide ≤ 512 ∧ s.wide ≤ 12 := by
  have := List.mem_of_getElem? h
  unfold nSp at this
  split at this <;> simp at this
  · rcases this with rfl | rfl | rfl | rfl | rfl | rfl | rfl <;> decide
  · rcases this with rfl | rfl | rfl | rfl | rfl <;> decide
theorem hd_numb_cell {w : World} {g : Nat} {h : Hd} (hg : w.heap[g]? = some (.cells h.cells.toArray 104 (0, 0))) {i : Nat} (h3 : 3 ≤ i) (h11 : i < 11) (h8 : i ≠ 8) : w.cell? ⟨g, i, none⟩ = some (.int .i64 (h.numb i)) := by
  apply blk_cell hg
  match i, h3, h11, h8 with
  | 3, _, _, _ => rfl
  | 4, _, _, _ => rfl
  | 5, _, _, _ => rfl
  | 6, _, _, _ => rfl
  | 7, _, _, _ => rfl
  | 9, _, _, _ => rfl
  | 10, _, _, _ => rfl

set_option maxHeartbeats 2000000 in
theorem may_walk (h : Hd) (hr : h.R) {m : Bool} (w : World) (h1 : (h.name == []) = false) (h2 : tyOk h.ty = true) (h3 : restOk h = true)
    (hm : ((wSp h.ty).all (wordOk h) && (nSp h.ty).all (numbOk h)) = m) :
    Calls Tryz.prog 148 #[h.agg] w fun e w' => e = .returned (.bool m) ∧ Below w.heap.size w w' := by
  unfold Hd.agg
  have hb0 := Below.refl w.heap.size w
  have hg0 : (w.alloc (.cells h.cells.toArray 104)).heap[w.heap.size]? = some (.cells h.cells.toArray 104 (0, 0)) := heap_alloc_new _ _
  obtain ⟨n, Hn⟩ := au (Lib.indexByte [48, 49, 50, 53, 75, 76, 77, 86] h.ty)
  have hn : 0 ≤ n := by
    have h4 : h.ty ∈ [48, 49, 50, 53, 75, 76, 77, 86] := by simpa [tyOk] using h2
    have := indexByte_mem [48, 49, 50, 53, 75, 76, 77, 86] h.ty
    rw [Hn.out] at this
    exact Int.not_lt.1 fun hlt => this.1 hlt h4
  obtain ⟨t, Ht⟩ := au ((h.ty.toNat : Int) == 77)
  have e77 : ((h.ty.toNat : Int) == 77) = (h.ty == 77) := byte_beq h.ty 77
  rw [Ht.out] at e77
  have ht := Ht.out
  have ht2 : ((h.ty.toNat : Int) != 77) = !t := by rw [bne, ht]
  unfold restOk at h3
  have Hm := Au.mk hm
  have Hr := Au.mk hr
  clear hm hr
  cases t
  case' false =>
    have h77 : ¬ h.ty = 77 := by simpa using e77.symm
    rw [if_neg h77, Bool.and_eq_true] at h3
    obtain ⟨ho1, ho2⟩ := h3
    have ho12 : (h.off != 0) = false := by rw [bne, ho1]; rfl
    have ho22 : (h.real != 0) = false := by rw [bne, ho2]; rfl
    clear h77 e77
  case' true =>
    have h77 : h.ty = 77 := by simpa using e77.symm
    rw [if_pos h77] at h3
    have hp2 : (h.pre != []) = false := by rw [bne, h3]; rfl
    clear h77 e77
  all_goals
    clear Ht
    go_enter Tryz.func148, Tryz.ntmps148
    go_wp2_with fail
    refine (index_is Hn.out _).mono ?_
    rintro e w0 ⟨rfl, rfl⟩
    go_wp2_with fail
    refine (words_calls w.heap.size h.ty _ (blk_cell hg0 8 rfl)).mono ?_
    rintro e w1 ⟨A, c, n, rfl, Hn2, hf, b1⟩
    have hg1 := blk_below hg0 b1 (lt_of_block hg0)
    have hbw : Below w.heap.size w w1 := (hb0.alloc (Nat.le_refl _) _).trans (b1.mono (by simp))
    have Hg1 := Au.mk hg1
    have Hf := Au.mk hf
    have hn5 : n < 4 := by rw [Hn2.out, wordsN]; split <;> decide
    clear hg1 hg0 hf
    go_wp2_with fail
    go_loopw [43] (fun i wr => ∃ k : Nat, k ≤ n ∧ i = .int .i64 k ∧ Au (((wSp h.ty).take k).all (wordOk h) = true) ∧ Below w1.heap.size w1 wr) (fun i _ => n - (intOf i).toNat)
    case atStart => exact ⟨0, Nat.zero_le _, rfl, ⟨by simp⟩, .refl _ _⟩
    case round =>
      obtain ⟨k, hk, rfl, Ha, hbr⟩ := hrel
      have hn3 := Hn2.out
      by_cases hlt : k < n
      · obtain ⟨s, Hs⟩ : ∃ s, Au ((wSp h.ty)[k]? = some s) := ⟨_, ⟨List.getElem?_eq_getElem (by rw [wSp_len, ← hn3]; exact hlt)⟩⟩
        have hcs := (Hf.out.below hbr).now
        rw [wSp_cells] at hcs
        obtain ⟨b, o, rfl, d0, d1, d2⟩ := place_cells hcs Hs.out
        obtain ⟨hix, hat⟩ := wSp_mem Hs.out
        have hgr := blk_below Hg1.out hbr (lt_of_block Hg1.out)
        have htx := hd_text_cell hgr hix
        have htx2 : ∀ oo, (wr.alloc oo).cell? ⟨w.heap.size, s.ix, none⟩ = some (.string (ofL (h.text s.ix))) := fun oo => cell_alloc htx oo
        obtain ⟨x, Hx⟩ := au (h.text s.ix)
        rw [Hx.out] at htx htx2
        clear hgr hcs hn3
        have hsz := ofL_size x
        by_cases hw : x.length ≤ s.wide
        · have c1 : decide ((s.wide : Int) < ((ofL x).size : Int)) = false := by rw [hsz]; simp; omega
          have c2 : decide (s.wide < (ofL x).size) = false := by rw [hsz]; simp; omega
          obtain ⟨q2, Hq2⟩ := au (Lib.indexByte x 0)
          by_cases h0 : (0 : UInt8) ∈ x
          · have hq2 : 0 ≤ q2 := by
              have := indexByte_mem x 0
              rw [Hq2.out] at this
              exact Int.not_lt.1 fun hlt => this.1 hlt h0
            have hbad : wordOk h s = false := by simp [wordOk, Hx.out, h0]
            have hmm : m = false := by rw [← Hm.out, all_at Hs.out hbad]; rfl
            subst hmm
            clear hsz hw h0 hbad
            go_wp2_with fail
            go_quiet (exact index0_quiet Hq2.out _ _)
            go_wp2_with fail
            go_ret
            exact ⟨rfl, below_drewN ((hbw.trans (hbr.mono hbw.size)).alloc (by have := hbw.size; have := hbr.size; omega) _) _⟩
          · have hq2 : q2 < 0 := by rw [← Hq2.out, indexByte_mem]; exact h0
            have hgood : wordOk h s = true := by simp [wordOk, Hx.out, h0, hw]
            have Hgood := Au.mk hgood
            clear hsz hw h0 hgood
            go_wp2_with fail
            go_quiet (exact index0_quiet Hq2.out _ _)
            go_wp2_with fail
            go_roundw
            case rel => exact ⟨k + 1, by omega, by go_num, ⟨take_all_succ Hs.out Ha.out Hgood.out⟩, below_drewN (hbr.alloc hbr.size _) _⟩
            case measure => simp [intOf]; omega
        · have c1 : decide ((s.wide : Int) < ((ofL x).size : Int)) = true := by rw [hsz]; simp; omega
          have c2 : decide (s.wide < (ofL x).size) = true := by rw [hsz]; simp; omega
          have hbad : wordOk h s = false := by simp [wordOk, Hx.out, hw]
          have hmm : m = false := by rw [← Hm.out, all_at Hs.out hbad]; rfl
          subst hmm
          clear hsz hw hbad
          go_wp2_with fail
          go_quiet (fail)
          go_wp2_with fail
          go_ret
          exact ⟨rfl, below_drewN ((hbw.trans (hbr.mono hbw.size)).alloc (by have := hbw.size; have := hbr.size; omega) _) _⟩
      · obtain rfl : k = n := by omega
        have hall : (wSp h.ty).all (wordOk h) = true := by
          have := Ha.out
          rwa [List.take_of_length_le (by rw [wSp_len, ← hn3]; exact Nat.le_refl _)] at this
        have hm2 : (nSp h.ty).all (numbOk h) = m := by rw [← Hm.out, hall]; rfl
        have Hm2 := Au.mk hm2
        have hgr := blk_below Hg1.out hbr (lt_of_block Hg1.out)
        have hbw2 := hbw.trans (hbr.mono hbw.size)
        have hrs := hbr.size
        have Hgr := Au.mk hgr
        clear hall hm2 hgr hn3
        go_wp2_with fail
        refine (numbers_calls w.heap.size h.ty _ (blk_cell Hgr.out 8 rfl)).mono ?_
        rintro e w3 ⟨A3, c3, n3, rfl, Hn3, hf3, b3⟩
        have hg3 := blk_below Hgr.out b3 (lt_of_block Hgr.out)
        have hbw3 : Below w.heap.size w w3 := hbw2.trans (b3.mono hbw2.size)
        have Hg3 := Au.mk hg3
        have Hf3 := Au.mk hf3
        have hn53 : n3 < 8 := by rw [Hn3.out, spotsN]; split <;> decide
        clear hg3 hf3
        go_wp2_with fail
        go_loopw [66] (fun i wr => ∃ k : Nat, k ≤ n3 ∧ i = .int .i64 k ∧ Au (((nSp h.ty).take k).all (numbOk h) = true) ∧ Below w3.heap.size w3 wr) (fun i _ => n3 - (intOf i).toNat)
        case atStart => exact ⟨0, Nat.zero_le _, rfl, ⟨by simp⟩, .refl _ _⟩
        case round =>
          obtain ⟨k, hk, rfl, Ha, hbr⟩ := hrel
          have hn3 := Hn3.out
          by_cases hlt : k < n3
          · obtain ⟨s, Hs⟩ : ∃ s, Au ((nSp h.ty)[k]? = some s) := ⟨_, ⟨List.getElem?_eq_getElem (by rw [nSp_len, ← hn3]; exact hlt)⟩⟩
            have hcs := (Hf3.out.below hbr).now
            rw [nSp_cells] at hcs
            obtain ⟨b, o, rfl, d0, d1, d2⟩ := place_cells hcs Hs.out
            obtain ⟨hi3, hi11, hi8, hat, hwd⟩ := nSp_mem Hs.out
            have hgr := blk_below Hg3.out hbr (lt_of_block Hg3.out)
            have htx := hd_numb_cell hgr hi3 hi11 hi8
            have htx2 : ∀ oo, (wr.alloc oo).cell? ⟨w.heap.size, s.ix, none⟩ = some (.int .i64 (h.numb s.ix)) := fun oo => cell_alloc htx oo
            have hRx := Hr.out.numb s.ix
            obtain ⟨x, Hx⟩ := au (h.numb s.ix)
            rw [Hx.out] at htx htx2 hRx
            have HRx := Au.mk hRx
            obtain ⟨bb, Hbb⟩ := au ((put x s.wide).isSome)
            have hok : numbOk h s = bb := by rw [numbOk, Hx.out, Hbb.out]
            have Hok := Au.mk hok
            clear hgr hcs hn3 hok hRx
            have e1 : ∀ a b c, (wr.alloc (.cells #[a, b, c] 166)).cell? ⟨wr.heap.size, 1, none⟩ = some b := fun a b c => (cells_newN wr [a, b, c] _).at_ (j := 1) rfl |>.elim fun _ h => h.elim fun _ h => by obtain ⟨e, h⟩ := h; injection e with e; injection e with e1 e2; subst e1 e2; exact h
            have e2 : ∀ a b c, (wr.alloc (.cells #[a, b, c] 166)).cell? ⟨wr.heap.size, 2, none⟩ = some c := fun a b c => (cells_newN wr [a, b, c] _).at_ (j := 2) rfl |>.elim fun _ h => h.elim fun _ h => by obtain ⟨e, h⟩ := h; injection e with e; injection e with e1 e2; subst e1 e2; exact h
            go_wp2_with fail
            generalize hW : World.alloc wr _ = W5
            have f1 : W5.cell? ⟨wr.heap.size, 1, none⟩ = some (.int .i64 s.wide) := by rw [← hW]; exact e1 _ _ _
            have f2 : W5.cell? ⟨wr.heap.size, 2, none⟩ = some (.pointer (some ⟨w.heap.size, s.ix, none⟩)) := by rw [← hW]; exact e2 _ _ _
            have f3 : W5.cell? ⟨w.heap.size, s.ix, none⟩ = some (.int .i64 x) := by rw [← hW]; exact htx2 _
            have hbW : Below w3.heap.size w3 W5 := by rw [← hW]; exact hbr.alloc hbr.size _
            clear hW e1 e2 htx2
            go_region_held3 (fun w' => w'.cell? ⟨wr.heap.size, 1, none⟩ = some (.int .i64 s.wide) ∧ w'.cell? ⟨wr.heap.size, 2, none⟩ = some (.pointer (some ⟨w.heap.size, s.ix, none⟩)) ∧ w'.cell? ⟨w.heap.size, s.ix, none⟩ = some (.int .i64 x)) (go_keep)
              (first | (go_at_call 147; refine (put_view (b := bb) rfl Hbb.out HRx.out _).mono ?_; rintro e w5 ⟨A5, c5, rfl, s5, b5⟩; have g1 := cell_below (w := W5.drew) f1 b5; have g2 := cell_below (w := W5.drew) f2 b5; have g3 := cell_below (w := W5.drew) f3 b5))
            have hb5 : Below w3.heap.size w3 w5 := (below_drewN hbW 1).trans (b5.mono (below_drewN hbW 1).size)
            cases bb
            · have hmm : m = false := by rw [← Hm2.out, all_at Hs.out Hok.out]
              subst hmm
              go_wp2_with fail
              go_ret
              exact ⟨rfl, hbw3.trans (hb5.mono hbw3.size)⟩
            · go_wp2_with fail
              go_roundw
              case rel => exact ⟨k + 1, by omega, by go_num, ⟨take_all_succ Hs.out Ha.out Hok.out⟩, hb5⟩
              case measure => simp [intOf]; omega
          · obtain rfl : k = n3 := by omega
            have hall : (nSp h.ty).all (numbOk h) = true := by
              have := Ha.out
              rwa [List.take_of_length_le (by rw [nSp_len, ← hn3]; exact Nat.le_refl _)] at this
            have hmm : m = true := by rw [← Hm2.out, hall]
            subst hmm
            clear hall hn3
            go_wp2_with fail
            go_ret
            exact ⟨rfl, hbw3.trans (hbr.mono hbw3.size)⟩
end Go.Proofs.YtldhcknjpmbgnaaGreatDoor.Rk
/- head.May's contract; the block of a header. -/
namespace Go.Proofs.YtldhcknjpmbgnaaGreatDoor.Rk
open Go.RowKit
set_option linter.unusedVariables false
set_option linter.unusedSimpArgs false

theorem may_calls (h : Hd) (hr : h.R) {m : Bool} (hm : hmay h = m) (w : World) :
    Calls Tryz.prog 148 #[h.agg] w fun e w' => e = .returned (.bool m) ∧ Below w.heap.size w w' := by
  subst hm
  unfold hmay
  cases h1 : (h.name == []) with
  | true => simpa [h1] using may_no1 h w h1
  | false =>
    cases h2 : tyOk h.ty with
    | false => simpa [h1, h2] using may_no2 h w h1 h2
    | true =>
      cases h3 : restOk h with
      | false => simpa [h1, h2, h3] using may_no3 h w h1 h2 h3
      | true => exact may_walk h hr w h1 h2 h3 (by simp)

/-- What is written of a header's place. -/
def zeros (n : Nat) : List UInt8 := List.replicate n 0
def numB (h : Hd) (s : Sp) : List UInt8 := (put (h.numb s.ix) s.wide).getD []
def pad (n : Nat) (l : List UInt8) : List UInt8 := l ++ zeros (n - l.length)
/-- The block of a header, before its sum: s stands at the sum's place. -/
def ustar : List UInt8 := [117, 115, 116, 97, 114, 0, 48, 48]
def segsB (h : Hd) (s : List UInt8) : List (List UInt8) :=
  [pad 100 h.name, numB h ⟨100, 8, 3⟩, numB h ⟨108, 8, 4⟩, numB h ⟨116, 8, 5⟩, numB h ⟨124, 12, 6⟩, numB h ⟨136, 12, 7⟩, s, [h.ty], pad 100 h.link, ustar, zeros 80] ++
    (if h.ty = 77 then [zeros 24, numB h ⟨369, 12, 9⟩, zeros 102, numB h ⟨483, 12, 10⟩, zeros 17] else [pad 155 h.pre, zeros 12])
def layB (h : Hd) (s : List UInt8) : List UInt8 := (segsB h s).flatten
def blockOf (h : Hd) : List UInt8 := layB h (sgn (layB h (zeros 8)))
def hput (h : Hd) : Option (List UInt8) := if hmay h then some (blockOf h) else none

theorem zeros_length (n : Nat) : (zeros n).length = n := by simp [zeros]
theorem pad_length {n : Nat} {l : List UInt8} (h : l.length ≤ n) : (pad n l).length = n := by simp [pad, zeros]; omega
/-- What may be, opened. -/
structure Fits (h : Hd) : Prop where
  name0 : h.name ≠ []
  ty : tyOk h.ty = true
  nameL : h.name.length ≤ 100
  nameZ : (0 : UInt8) ∉ h.name
  linkL : h.link.length ≤ 100
  linkZ : (0 : UInt8) ∉ h.link
  mode : ∃ l, put h.mode 8 = some l
  uid : ∃ l, put h.uid 8 = some l
  gid : ∃ l, put h.gid 8 = some l
  size : ∃ l, put h.size 12 = some l
  mtime : ∃ l, put h.mtime 12 = some l
  more : h.ty = 77 → h.pre = [] ∧ (∃ l, put h.off 12 = some l) ∧ (∃ l, put h.real 12 = some l)
  less : h.ty ≠ 77 → h.off = 0 ∧ h.real = 0 ∧ h.pre.length ≤ 155 ∧ (0 : UInt8) ∉ h.pre
theorem fits_iff (h : Hd) : hmay h = true ↔ Fits h := by
  constructor
  · intro hm
    simp only [hmay, Bool.and_eq_true, Bool.not_eq_true', List.all_eq_true] at hm
    obtain ⟨⟨⟨⟨h1, h2⟩, h3⟩, h4⟩, h5⟩ := hm
    have hw : ∀ s ∈ wSp h.ty, (h.text s.ix).length ≤ s.wide ∧ (0 : UInt8) ∉ h.text s.ix := fun s hs => by
      have := h4 s hs; simp [wordOk] at this; exact this
    have hn : ∀ s ∈ nSp h.ty, ∃ l, put (h.numb s.ix) s.wide = some l := fun s hs => Option.isSome_iff_exists.1 (h5 s hs)
    refine ⟨by simpa using h1, h2, (hw ⟨0, 100, 0⟩ (by simp [wSp])).1, (hw ⟨0, 100, 0⟩ (by simp [wSp])).2, (hw ⟨157, 100, 2⟩ (by simp [wSp])).1, (hw ⟨157, 100, 2⟩ (by simp [wSp])).2,
      hn ⟨100, 8, 3⟩ (by simp [nSp]), hn ⟨108, 8, 4⟩ (by simp [nSp]), hn ⟨116, 8, 5⟩ (by simp [nSp]), hn ⟨124, 12, 6⟩ (by simp [nSp]), hn ⟨136, 12, 7⟩ (by simp [nSp]), ?_, ?_⟩
    · intro h77
      simp [restOk, h77] at h3
      exact ⟨h3, hn ⟨369, 12, 9⟩ (by simp [nSp, h77]), hn ⟨483, 12, 10⟩ (by simp [nSp, h77])⟩
    · intro h77
      simp [restOk, h77] at h3
      exact ⟨h3.1, h3.2, (hw ⟨345, 155, 1⟩ (by simp [wSp, h77])).1, (hw ⟨345, 155, 1⟩ (by simp [wSp, h77])).2⟩
  · intro f
    simp only [hmay, Bool.and_eq_true, Bool.not_eq_true', List.all_eq_true]
    refine ⟨⟨⟨⟨by simpa using f.name0, f.ty⟩, ?_⟩, ?_⟩, ?_⟩
    · unfold restOk
      split
      · rename_i h77; simp [(f.more h77).1]
      · rename_i h77; simp [(f.less h77).1, (f.less h77).2.1]
    · intro s hs
      unfold wSp at hs
      split at hs <;> simp at hs
      · rcases hs with rfl | rfl <;> simp [wordOk, Hd.text, f.nameL, f.nameZ, f.linkL, f.linkZ]
      · rename_i h77
        rcases hs with rfl | rfl | rfl <;> simp [wordOk, Hd.text, f.nameL, f.nameZ, f.linkL, f.linkZ, (f.less h77).2.2]
    · intro s hs
      obtain ⟨l1, e1⟩ := f.mode
      obtain ⟨l2, e2⟩ := f.uid
      obtain ⟨l3, e3⟩ := f.gid
      obtain ⟨l4, e4⟩ := f.size
      obtain ⟨l5, e5⟩ := f.mtime
      unfold nSp at hs
      split at hs <;> simp at hs
      · rename_i h77
        obtain ⟨_, ⟨l6, e6⟩, ⟨l7, e7⟩⟩ := f.more h77
        rcases hs with rfl | rfl | rfl | rfl | rfl | rfl | rfl <;> simp [numbOk, Hd.numb, *]
      · rcases hs with rfl | rfl | rfl | rfl | rfl <;> simp [numbOk, Hd.numb, *]
end Go.Proofs.YtldhcknjpmbgnaaGreatDoor.Rk
