/- Walks: the document's answers for headers: May. -/
import Derived.Test.YtejalhoaljlnhaaHeadU
namespace Go.Proofs.Ytejalhoaljlnhaa.Rk
open Go.RowKit
set_option linter.unusedVariables false
set_option linter.unusedSimpArgs false

def wordR (l : List UInt8) (n : Int) : Bool := decide ((l.length : Int) ≤ n) && !l.contains 0
theorem wordR_iff {l : List UInt8} {n : Nat} : wordR l n = true ↔ l.length ≤ n ∧ (0 : UInt8) ∉ l := by simp [wordR]
def fitsR (n wide : Int) : Bool := (put n wide).isSome
theorem fitsR_iff {n wide : Int} : fitsR n wide = true ↔ ∃ l, put n wide = some l := Option.isSome_iff_exists
def tyR (h : Hd) : Bool := if h.ty = 77 then h.pre == [] && fitsR h.off 12 && fitsR h.real 12 else tyOk h.ty && (h.off == 0 && h.real == 0)
theorem rmay_law (h : Hd) : hmay h = (wordR h.name 100 && (wordR h.link 100 && (wordR h.pre 155 && (fitsR h.mode 8 && (fitsR h.uid 8 && (fitsR h.gid 8 && (fitsR h.size 12 && (fitsR h.mtime 12 && (!(h.name == []) && tyR h))))))))) := by
  rw [Bool.eq_iff_iff, fits_iff]
  simp only [Bool.and_eq_true, Bool.not_eq_true', beq_eq_false_iff_ne]
  have w1 : wordR h.name 100 = true ↔ h.name.length ≤ 100 ∧ (0 : UInt8) ∉ h.name := wordR_iff (n := 100)
  have w2 : wordR h.link 100 = true ↔ h.link.length ≤ 100 ∧ (0 : UInt8) ∉ h.link := wordR_iff (n := 100)
  have w3 : wordR h.pre 155 = true ↔ h.pre.length ≤ 155 ∧ (0 : UInt8) ∉ h.pre := wordR_iff (n := 155)
  have f4 := fitsR_iff (n := h.mode) (wide := 8)
  have f5 := fitsR_iff (n := h.uid) (wide := 8)
  have f6 := fitsR_iff (n := h.gid) (wide := 8)
  have f7 := fitsR_iff (n := h.size) (wide := 12)
  have f8 := fitsR_iff (n := h.mtime) (wide := 12)
  have f9 := fitsR_iff (n := h.off) (wide := 12)
  have f10 := fitsR_iff (n := h.real) (wide := 12)
  constructor
  · intro f
    have hp : h.pre.length ≤ 155 ∧ (0 : UInt8) ∉ h.pre := by
      by_cases h77 : h.ty = 77
      · rw [(f.more h77).1]; simp
      · exact (f.less h77).2.2
    refine ⟨w1.2 ⟨f.nameL, f.nameZ⟩, w2.2 ⟨f.linkL, f.linkZ⟩, w3.2 hp, f4.2 f.mode, f5.2 f.uid, f6.2 f.gid, f7.2 f.size, f8.2 f.mtime, f.name0, ?_⟩
    unfold tyR
    by_cases h77 : h.ty = 77
    · rw [if_pos h77]; simp [(f.more h77).1, f9.2 (f.more h77).2.1, f10.2 (f.more h77).2.2]
    · rw [if_neg h77]; simp [f.ty, (f.less h77).1, (f.less h77).2.1]
  · rintro ⟨a1, a2, a3, a4, a5, a6, a7, a8, a9, a10⟩
    unfold tyR at a10
    by_cases h77 : h.ty = 77
    · rw [if_pos h77] at a10
      simp only [Bool.and_eq_true, beq_iff_eq] at a10
      exact ⟨a9, by rw [h77]; decide, (w1.1 a1).1, (w1.1 a1).2, (w2.1 a2).1, (w2.1 a2).2, f4.1 a4, f5.1 a5, f6.1 a6, f7.1 a7, f8.1 a8, fun _ => ⟨a10.1.1, f9.1 a10.1.2, f10.1 a10.2⟩, fun h => absurd h77 h⟩
    · rw [if_neg h77] at a10
      simp only [Bool.and_eq_true, beq_iff_eq] at a10
      exact ⟨a9, a10.1, (w1.1 a1).1, (w1.1 a1).2, (w2.1 a2).1, (w2.1 a2).2, f4.1 a4, f5.1 a5, f6.1 a6, f7.1 a7, f8.1 a8, fun h => absurd h h77, fun _ => ⟨a10.2.1, a10.2.2, (w3.1 a3).1, (w3.1 a3).2⟩⟩

def Hd.S (h : Hd) : Prop := h.name.length ≤ 200 ∧ h.pre.length ≤ 200 ∧ h.link.length ≤ 200
set_option maxHeartbeats 4000000 in
theorem rmay_calls (h : Hd) (hr : h.R) (hz : h.S) {m : Bool} (hm : hmay h = m) (w : World) :
    Calls Try.prog 32 #[h.agg] w fun e w' => e = .returned (.bool m) ∧ Below w.heap.size w w' := by
  rw [rmay_law] at hm
  obtain ⟨z1, z2, z3⟩ := hz
  obtain ⟨r4, r5, r6, r7, r8, r9, r10⟩ := hr
  obtain ⟨b1, H1⟩ := au (wordR h.name 100)
  obtain ⟨b2, H2⟩ := au (wordR h.link 100)
  obtain ⟨b3, H3⟩ := au (wordR h.pre 155)
  obtain ⟨b4, H4⟩ := au (fitsR h.mode 8)
  obtain ⟨b5, H5⟩ := au (fitsR h.uid 8)
  obtain ⟨b6, H6⟩ := au (fitsR h.gid 8)
  obtain ⟨b7, H7⟩ := au (fitsR h.size 12)
  obtain ⟨b8, H8⟩ := au (fitsR h.mtime 12)
  obtain ⟨b9, H9⟩ := au (h.name == [])
  rw [H1.out, H2.out, H3.out, H4.out, H5.out, H6.out, H7.out, H8.out, H9.out] at hm
  have h9 := H9.out
  have hg0 : (w.alloc (.cells h.cells.toArray 36)).heap[w.heap.size]? = some (.cells h.cells.toArray 36 (0, 0)) := heap_alloc_new _ _
  have Hg0 := Au.mk hg0
  have hb0 := (Below.refl w.heap.size w).alloc (Nat.le_refl _) (.cells h.cells.toArray 36)
  clear hg0
  have key : ∀ (W : World), W.heap[w.heap.size]? = some (.cells h.cells.toArray 36 (0, 0)) → ∀ W', Below W.heap.size W W' → W'.heap[w.heap.size]? = some (.cells h.cells.toArray 36 (0, 0)) :=
    fun W h1 W' h2 => blk_below h1 h2 (lt_of_block h1)
  have Hm := Au.mk hm
  clear hm
  have c2 := blk_cell Hg0.out 2 rfl
  unfold Hd.agg
  go_enter Try.func32, Try.ntmps32
  go_wp2_with fail
  refine (word_calls _ (by omega) H1.out _).mono ?_
  rintro e w1 ⟨rfl, rfl⟩
  go_wp2_with fail
  refine (word_calls _ (by omega) H2.out _).mono ?_
  rintro e w1 ⟨rfl, rfl⟩
  go_wp2_with fail
  refine (word_calls _ (by omega) H3.out _).mono ?_
  rintro e w1 ⟨rfl, rfl⟩
  go_wp2_with fail
  refine (fits_calls H4.out r4 _).mono ?_
  rintro e w4 ⟨rfl, d4⟩
  have g4 := key _ Hg0.out _ d4
  have x4 := blk_cell g4 4 rfl
  have e4 := below_then hb0 d4 hb0.size
  have G4 := Au.mk g4
  clear g4 d4
  go_wp2_with fail
  refine (fits_calls H5.out r5 _).mono ?_
  rintro e w5 ⟨rfl, d5⟩
  have g5 := key _ G4.out _ d5
  have x5 := blk_cell g5 5 rfl
  have e5 := below_then e4 d5 e4.size
  have G5 := Au.mk g5
  clear g5 d5 e4
  go_wp2_with fail
  refine (fits_calls H6.out r6 _).mono ?_
  rintro e w6 ⟨rfl, d6⟩
  have g6 := key _ G5.out _ d6
  have x6 := blk_cell g6 6 rfl
  have e6 := below_then e5 d6 e5.size
  have G6 := Au.mk g6
  clear g6 d6 e5
  go_wp2_with fail
  refine (fits_calls H7.out r7 _).mono ?_
  rintro e w7 ⟨rfl, d7⟩
  have g7 := key _ G6.out _ d7
  have x7 := blk_cell g7 7 rfl
  have e7 := below_then e6 d7 e6.size
  have G7 := Au.mk g7
  clear g7 d7 e6
  go_wp2_with fail
  refine (fits_calls H8.out r8 _).mono ?_
  rintro e w8 ⟨rfl, d8⟩
  have g8 := key _ G7.out _ d8
  have x80 := blk_cell g8 0 rfl
  have x81 := blk_cell g8 1 rfl
  have x88 := blk_cell g8 8 rfl
  have x89 := blk_cell g8 9 rfl
  have x90 := blk_cell g8 10 rfl
  have e8 := below_then e7 d8 e7.size
  have G8 := Au.mk g8
  clear g8 d8 e7
  cases b1
  case false =>
    go_wp2_with fail
    go_ret
    exact ⟨ret_bool (by rw [← Hm.out]; rfl), e8⟩
  cases b2
  case false =>
    go_wp2_with fail
    go_ret
    exact ⟨ret_bool (by rw [← Hm.out]; rfl), e8⟩
  cases b3
  case false =>
    go_wp2_with fail
    go_ret
    exact ⟨ret_bool (by rw [← Hm.out]; rfl), e8⟩
  cases b4
  case false =>
    go_wp2_with fail
    go_ret
    exact ⟨ret_bool (by rw [← Hm.out]; rfl), e8⟩
  cases b5
  case false =>
    go_wp2_with fail
    go_ret
    exact ⟨ret_bool (by rw [← Hm.out]; rfl), e8⟩
  cases b6
  case false =>
    go_wp2_with fail
    go_ret
    exact ⟨ret_bool (by rw [← Hm.out]; rfl), e8⟩
  cases b7
  case false =>
    go_wp2_with fail
    go_ret
    exact ⟨ret_bool (by rw [← Hm.out]; rfl), e8⟩
  cases b8
  case false =>
    go_wp2_with fail
    go_ret
    exact ⟨ret_bool (by rw [← Hm.out]; rfl), e8⟩
  cases b9
  case true =>
    go_wp2_with fail
    go_ret
    exact ⟨ret_bool (by rw [← Hm.out]; rfl), e8⟩
  have hm2 : tyR h = m := by rw [← Hm.out]; rfl
  unfold tyR at hm2
  by_cases h77 : h.ty = 77
  · rw [if_pos h77] at hm2
    have ht : (h.ty.toNat : Int) = 77 := by rw [h77]; rfl
    obtain ⟨q1, Q1⟩ := au (fitsR h.off 12)
    obtain ⟨q2, Q2⟩ := au (fitsR h.real 12)
    obtain ⟨q3, Q3⟩ := au (h.pre == [])
    rw [Q1.out, Q2.out, Q3.out] at hm2
    have q3h := Q3.out
    have Hm2 := Au.mk hm2
    rw [ht] at x88
    clear hm2 h77 ht
    go_wp2_with fail
    refine (fits_calls Q1.out r9 _).mono ?_
    rintro e w9 ⟨rfl, d9⟩
    have g9 := key _ G8.out _ d9
    have x9 := blk_cell g9 10 rfl
    have e9 := below_then e8 d9 e8.size
    have G9 := Au.mk g9
    clear g9 d9 e8
    go_wp2_with fail
    refine (fits_calls Q2.out r10 _).mono ?_
    rintro e w10 ⟨rfl, d10⟩
    have g10 := key _ G9.out _ d10
    have x10 := blk_cell g10 1 rfl
    have e10 := below_then e9 d10 e9.size
    clear g10 d10 e9
    cases q1 <;> cases q2 <;> cases q3
    all_goals
      go_wp2_with fail
      go_ret
      exact ⟨ret_bool (by rw [← Hm2.out]; rfl), e10⟩
  · rw [if_neg h77] at hm2
    obtain ⟨q2, Q2⟩ := au (h.off == 0)
    obtain ⟨q3, Q3⟩ := au (h.real == 0)
    rw [Q2.out, Q3.out] at hm2
    have q2h := Q2.out
    have q3h := Q3.out
    have cs : (h.ty.toNat : Int) = 48 ∨ (h.ty.toNat : Int) = 49 ∨ (h.ty.toNat : Int) = 50 ∨ (h.ty.toNat : Int) = 53 ∨ (h.ty.toNat : Int) = 75 ∨ (h.ty.toNat : Int) = 76 ∨ (h.ty.toNat : Int) = 86 ∨
        (((h.ty.toNat : Int) == 48) = false ∧ ((h.ty.toNat : Int) == 49) = false ∧ ((h.ty.toNat : Int) == 50) = false ∧ ((h.ty.toNat : Int) == 53) = false ∧ ((h.ty.toNat : Int) == 75) = false ∧ ((h.ty.toNat : Int) == 76) = false ∧ ((h.ty.toNat : Int) == 86) = false ∧ ((h.ty.toNat : Int) == 77) = false) := by
      have : ¬ (h.ty.toNat : Int) = 77 := fun e => h77 (UInt8.toNat_inj.1 (by simpa using (show h.ty.toNat = 77 by omega)))
      simp only [beq_eq_false_iff_ne]
      omega
    have ok : ∀ n : UInt8, (h.ty.toNat : Int) = (n.toNat : Int) → tyOk n = true → tyOk h.ty = true := fun n e1 e2 => by
      have : h.ty = n := UInt8.toNat_inj.1 (by omega)
      rw [this]; exact e2
    have Ok := Au.mk ok
    have Hm2 := Au.mk hm2
    clear hm2 h77 ok
    rcases cs with ht | ht | ht | ht | ht | ht | ht | ⟨n1, n2, n3, n4, n5, n6, n7, n8⟩
    case' inl => have hm3 : (q2 && q3) = m := by rw [← Hm2.out, Ok.out 48 ht (by decide)]; rfl
    case' inr.inl => have hm3 : (q2 && q3) = m := by rw [← Hm2.out, Ok.out 49 ht (by decide)]; rfl
    case' inr.inr.inl => have hm3 : (q2 && q3) = m := by rw [← Hm2.out, Ok.out 50 ht (by decide)]; rfl
    case' inr.inr.inr.inl => have hm3 : (q2 && q3) = m := by rw [← Hm2.out, Ok.out 53 ht (by decide)]; rfl
    case' inr.inr.inr.inr.inl => have hm3 : (q2 && q3) = m := by rw [← Hm2.out, Ok.out 75 ht (by decide)]; rfl
    case' inr.inr.inr.inr.inr.inl => have hm3 : (q2 && q3) = m := by rw [← Hm2.out, Ok.out 76 ht (by decide)]; rfl
    case' inr.inr.inr.inr.inr.inr.inl => have hm3 : (q2 && q3) = m := by rw [← Hm2.out, Ok.out 86 ht (by decide)]; rfl
    case inr.inr.inr.inr.inr.inr.inr =>
      have ht : tyOk h.ty = false := by
        simp only [beq_eq_false_iff_ne] at n1 n2 n3 n4 n5 n6 n7 n8
        simp only [tyOk, List.contains_eq_mem, decide_eq_false_iff_not, List.mem_cons, List.not_mem_nil, or_false]
        rintro (e | e | e | e | e | e | e | e) <;> rw [e] at n1 n2 n3 n4 n5 n6 n7 n8 <;> contradiction
      have hm3 : false = m := by rw [← Hm2.out, ht]; rfl
      clear ht Ok Hm2
      have Hm3 := Au.mk hm3
      clear hm3
      go_wp2_with fail
      go_ret
      exact ⟨ret_bool Hm3.out, e8⟩
    all_goals
      rw [ht] at x88
      have Hm3 := Au.mk hm3
      clear ht Ok hm3 Hm2
      cases q2 <;> cases q3
      all_goals
        go_wp2_with fail
        go_ret
        exact ⟨ret_bool (by rw [← Hm3.out]; rfl), e8⟩
end Go.Proofs.Ytejalhoaljlnhaa.Rk
