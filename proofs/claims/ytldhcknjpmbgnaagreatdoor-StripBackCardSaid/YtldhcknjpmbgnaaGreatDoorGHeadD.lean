/- GHeadD: HeadZ HedA HedB HedC HedF HedI HedJ -/
import Derived.Test.YtldhcknjpmbgnaaGreatDoorGHeadC
import Derived.Test.YtldhcknjpmbgnaaGreatDoorGBase
set_option maxRecDepth 100000
/- Walks: the document's answers for headers: upto, guess. -/
namespace Go.Proofs.YtldhcknjpmbgnaaGreatDoor.Rk
open Go.RowKit
set_option linter.unusedVariables false
set_option linter.unusedSimpArgs false

theorem ret_head1 {fn : Func} (p : Nat) (hfn : fn.results = #[.cell p 104]) {R : Ending → World → Prop} {w : World} {h : Hd} {g : Nat} {a : Act} (hg : w.heap[g]? = some (.cells h.cells.toArray 104 (0, 0)))
    (t2 : a.tmps.getD p undef = .pointer (some ⟨g, 0, none⟩)) (hd : a.defers = [])
    (hR : R (.returned h.agg) w) : bodyPost Tryz.prog fn R .ret a w :=
  bodyPost_ret (v := h.agg) (results_cell_row hfn a.tmps w g 104 h.cells.toArray (0, 0) _ t2 hg Tryz.underlying104 rfl (by kernel_rfl)) hd hR

theorem upto_at {l : List UInt8} {k : Nat} (hk : k < l.length) (h : l[k] = 0) (h0 : (0 : UInt8) ∉ l.take k) : upto l = l.take k := by
  have e : l = l.take k ++ l.drop k := (List.take_append_drop k l).symm
  conv => lhs; rw [e]
  unfold upto
  rw [List.takeWhile_append_of_pos (by intro a ha; simp; rintro rfl; exact h0 ha), List.drop_eq_getElem_cons hk, h, List.takeWhile_cons_of_neg (by simp)]
  simp
theorem upto_all {l : List UInt8} (h0 : (0 : UInt8) ∉ l) : upto l = l := by
  have := List.takeWhile_append_of_pos (p := (· != (0 : UInt8))) (l₁ := l) (l₂ := []) (by intro a ha; simp; rintro rfl; exact h0 ha)
  simpa [upto] using this
theorem guess_more {b : List UInt8} (h : tyOf b = 77) : guess b = ⟨upto (piece b ⟨0, 100, 0⟩), [], upto (piece b ⟨157, 100, 2⟩), (get (piece b ⟨100, 8, 3⟩)).getD 0, (get (piece b ⟨108, 8, 4⟩)).getD 0, (get (piece b ⟨116, 8, 5⟩)).getD 0, (get (piece b ⟨124, 12, 6⟩)).getD 0,
    (get (piece b ⟨136, 12, 7⟩)).getD 0, tyOf b, (get (piece b ⟨369, 12, 9⟩)).getD 0, (get (piece b ⟨483, 12, 10⟩)).getD 0⟩ := by
  unfold guess
  simp only [guessN, guessW, wSp, nSp, if_pos h, List.append_nil, List.cons_append, List.nil_append, List.foldl_cons, List.foldl_nil, Hd.setText, Hd.setNumb, hd0]
theorem guess_less {b : List UInt8} (h : ¬ tyOf b = 77) : guess b = ⟨upto (piece b ⟨0, 100, 0⟩), upto (piece b ⟨345, 155, 1⟩), upto (piece b ⟨157, 100, 2⟩), (get (piece b ⟨100, 8, 3⟩)).getD 0, (get (piece b ⟨108, 8, 4⟩)).getD 0, (get (piece b ⟨116, 8, 5⟩)).getD 0, (get (piece b ⟨124, 12, 6⟩)).getD 0,
    (get (piece b ⟨136, 12, 7⟩)).getD 0, tyOf b, 0, 0⟩ := by
  unfold guess
  simp only [guessN, guessW, wSp, nSp, if_neg h, List.append_nil, List.cons_append, List.nil_append, List.foldl_cons, List.foldl_nil, Hd.setText, Hd.setNumb, hd0]
theorem piece_le (b : List UInt8) (s : Sp) : (upto (piece b s)).length ≤ s.wide := Nat.le_trans (upto_le _) (by unfold piece; rw [List.length_take]; omega)
theorem guess_S (b : List UInt8) : (guess b).S := by
  by_cases h : tyOf b = 77
  · rw [guess_more h]
    exact ⟨Nat.le_trans (piece_le b ⟨0, 100, 0⟩) (by decide), by simp, Nat.le_trans (piece_le b ⟨157, 100, 2⟩) (by decide)⟩
  · rw [guess_less h]
    exact ⟨Nat.le_trans (piece_le b ⟨0, 100, 0⟩) (by decide), Nat.le_trans (piece_le b ⟨345, 155, 1⟩) (by decide), Nat.le_trans (piece_le b ⟨157, 100, 2⟩) (by decide)⟩
end Go.Proofs.YtldhcknjpmbgnaaGreatDoor.Rk
/- Walks: the document's answers for headers: guess. -/
namespace Go.Proofs.YtldhcknjpmbgnaaGreatDoor.Rk
open Go.RowKit
set_option linter.unusedVariables false
set_option linter.unusedSimpArgs false

end Go.Proofs.YtldhcknjpmbgnaaGreatDoor.Rk
/- Walks: the document's answers for headers: Zero, Get. -/
namespace Go.Proofs.YtldhcknjpmbgnaaGreatDoor.Rk
open Go.RowKit
set_option linter.unusedVariables false
set_option linter.unusedSimpArgs false

theorem isZero_succ {l : List UInt8} {k : Nat} (hk : k < l.length) (hx : l[k] = 0) (h0 : isZero (l.take k) = true) : isZero (l.take (k + 1)) = true := by
  unfold isZero at h0 ⊢
  rw [List.take_succ_eq_append_getElem hk, hx]
  simp only [List.all_append, h0]
  simp
end Go.Proofs.YtldhcknjpmbgnaaGreatDoor.Rk
/- Walks: reelkeeperlaw04: One, Few, awake. -/
namespace Go.Proofs.YtldhcknjpmbgnaaGreatDoor.Rk
open Go.RowKit
set_option linter.unusedVariables false
set_option linter.unusedSimpArgs false

def hdOne (nm : List UInt8) (n : Int) : Hd := ⟨nm, [], [], 420, 0, 0, n, 1000, 48, 0, 0⟩
def few (h : Hd) : Bool := decide (h.name.length ≤ 200) && (decide (h.pre.length ≤ 200) && decide (h.link.length ≤ 200))
theorem few_iff (h : Hd) : few h = true ↔ h.S := by simp [few, Hd.S]
theorem one_may : hmay (hdOne [97] 0) = true := by decide +kernel
theorem one_fits : Fits (hdOne [97] 0) := (fits_iff _).1 one_may
theorem one_R : (hdOne [97] 0).R := by unfold Hd.R R64 hdOne; decide
theorem one_148 : (blockOf (hdOne [97] 0))[148]? = some 48 := by decide +kernel
theorem hget_of {l : List UInt8} {n : Nat} (hn : l.length = n) {A : Option Addr} {c : Nat} {F : Nat → Prop} {g : Hd} {er : Int} (hg : (hget l).1 = g) (he : (hget l).2 = er) (w : World) (ha : Sl Kd.byte w F A c l) :
    Calls Tryz.prog 57 #[.slice A n c] w fun e w' => e = .returned (.tuple #[g.agg, .int .i64 er]) ∧ Below w.heap.size w w' := by
  subst hn
  exact hget_view l hg he w ha
theorem sum_of {l : List UInt8} {k : Nat} {n : Int} (hk : l.length = k) (hn : hsum l = n) {A : Option Addr} {c : Nat} {F : Nat → Prop} (w : World) (ha : Sl Kd.byte w F A c l) :
    Calls Tryz.prog 144 #[.slice A k c] w fun e w' => e = .returned (.int .i64 n) ∧ w = w' := by
  subst hk
  exact sum_calls l hn w ha
end Go.Proofs.YtldhcknjpmbgnaaGreatDoor.Rk
/- The laws HeadTells, HeadSpoilt, walked. -/
namespace Go.Proofs.YtldhcknjpmbgnaaGreatDoor.Rk
open Go.RowKit
set_option linter.unusedVariables false
set_option linter.unusedSimpArgs false

theorem hd_cells {W : World} {g : Nat} (h : Hd) (hg : W.heap[g]? = some (.cells h.cells.toArray 104 (0, 0))) : W.cell? ⟨g, 0, none⟩ = some (.string (ofL h.name)) ∧ W.cell? ⟨g, 1, none⟩ = some (.string (ofL h.pre)) ∧ W.cell? ⟨g, 2, none⟩ = some (.string (ofL h.link)) ∧ W.cell? ⟨g, 3, none⟩ = some (.int .i64 h.mode) ∧ W.cell? ⟨g, 4, none⟩ = some (.int .i64 h.uid) ∧ W.cell? ⟨g, 5, none⟩ = some (.int .i64 h.gid) ∧ W.cell? ⟨g, 6, none⟩ = some (.int .i64 h.size) ∧ W.cell? ⟨g, 7, none⟩ = some (.int .i64 h.mtime) ∧ W.cell? ⟨g, 8, none⟩ = some (.int .u8 h.ty.toNat) ∧ W.cell? ⟨g, 9, none⟩ = some (.int .i64 h.off) ∧ W.cell? ⟨g, 10, none⟩ = some (.int .i64 h.real) :=
  ⟨blk_cell hg 0 rfl, blk_cell hg 1 rfl, blk_cell hg 2 rfl, blk_cell hg 3 rfl, blk_cell hg 4 rfl, blk_cell hg 5 rfl, blk_cell hg 6 rfl, blk_cell hg 7 rfl, blk_cell hg 8 rfl, blk_cell hg 9 rfl, blk_cell hg 10 rfl⟩
end Go.Proofs.YtldhcknjpmbgnaaGreatDoor.Rk
/- The law HeadBack, walked. -/
namespace Go.Proofs.YtldhcknjpmbgnaaGreatDoor.Rk
open Go.RowKit
set_option linter.unusedVariables false
set_option linter.unusedSimpArgs false

def heq (g h : Hd) : Bool := g.name == h.name && (g.pre == h.pre && (g.link == h.link && (g.mode == h.mode && (g.uid == h.uid && (g.gid == h.gid && (g.size == h.size && (g.mtime == h.mtime && (g.ty == h.ty && (g.off == h.off && g.real == h.real)))))))))
theorem heq_iff {g h : Hd} : heq g h = true ↔ g = h := by
  unfold heq
  simp only [Bool.and_eq_true, beq_iff_eq]
  constructor
  · rintro ⟨h1, h2, h3, h4, h5, h6, h7, h8, h9, h10, h11⟩
    cases g
    cases h
    simp_all
  · rintro rfl; simp
theorem eql_head (g h : Hd) (w : World) : (binOp .eql 104 (.agg #[.string (ofL g.name), .string (ofL g.pre), .string (ofL g.link), .int .i64 g.mode, .int .i64 g.uid, .int .i64 g.gid, .int .i64 g.size, .int .i64 g.mtime, .int .u8 g.ty.toNat, .int .i64 g.off, .int .i64 g.real]) (.agg #[.string (ofL h.name), .string (ofL h.pre), .string (ofL h.link), .int .i64 h.mode, .int .i64 h.uid, .int .i64 h.gid, .int .i64 h.size, .int .i64 h.mtime, .int .u8 h.ty.toNat, .int .i64 h.off, .int .i64 h.real])).run Tryz.prog w = .ok (.bool (heq g h)) w := by
  have q1 := Tryz.eqGuardType104
  have q2 := Tryz.stoodInHeld104
  have hty : ((g.ty.toNat : Int) == (h.ty.toNat : Int)) = (g.ty == h.ty) := byte_beq _ _
  unfold heq
  rw [run_eql_struct]
  go_simp
  repeat' split
  all_goals simp [*]

end Go.Proofs.YtldhcknjpmbgnaaGreatDoor.Rk
/- The law HeadPlaces, walked. -/
namespace Go.Proofs.YtldhcknjpmbgnaaGreatDoor.Rk
open Go.RowKit
set_option linter.unusedVariables false
set_option linter.unusedSimpArgs false

theorem cut_str {W : World} {F : Nat → Prop} {b o c : Nat} {l : List UInt8} (ha : Sl Kd.byte W F (some ⟨b, o, none⟩) c l) (p n m : Nat) {x : List UInt8} (hx : (l.drop p).take n = x) (hn : x.length = n) (hp : p + n ≤ l.length) (hm : n ≤ m) (hm2 : m ≤ 9223372036854775807) :
    (convert 46 9 (.slice (some ⟨b, o + p, none⟩) n m)).run Tryz.prog W = .ok (.string (ofL x)) W := by
  have := str_of (byte_cut ha p n m hp hm hm2)
  rw [hx, hn] at this
  exact this
theorem pad_take {n : Nat} {l x : List UInt8} {p : Nat} (h : (l.drop p).take n = pad n x) (hx : x.length ≤ n) : (l.drop p).take x.length = x := by
  have h1 : ((l.drop p).take n).take x.length = (l.drop p).take x.length := by rw [List.take_take]; congr 1; omega
  rw [← h1, h, pad, List.take_left]

end Go.Proofs.YtldhcknjpmbgnaaGreatDoor.Rk
