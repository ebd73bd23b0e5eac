/- Parse: a parser in memory; its small functions, walked: some may panic. -/
import Derived.Test.YtldhcknjpmbgnaaGreatDoorPwC
import Derived.Test.YtldhcknjpmbgnaaGreatDoorVTal
import Derived.Defers
import Derived.Recover
namespace Go.Proofs.YtldhcknjpmbgnaaGreatDoor.Rk
open Go.RowKit Go.Shelf
set_option linter.unusedVariables false
set_option linter.unusedSimpArgs false
set_option maxRecDepth 100000

/-- What a parser panics with. -/
def whyP (c : Int) : List PanicEntry := [{ v := .iface 139 (.agg #[.int .i64 c]), recovered := false }]
theorem must_yes (c : Int) (w : World) : Calls Tryz.prog 88 #[.bool true, .int .i64 c] w fun e w' => e = .returned (.tuple #[]) ∧ w = w' := by
  go_enter Tryz.func88, Tryz.ntmps88
  go_wp2_with fail
  go_end0
  exact ⟨rfl, rfl⟩
theorem must_no (c : Int) (w : World) : Calls Tryz.prog 88 #[.bool false, .int .i64 c] w fun e w' => e = .panicked (whyP c) ∧ w = w' := by
  go_enter Tryz.func88, Tryz.ntmps88
  go_wp2_with fail
  exact ⟨rfl, rfl, rfl⟩
theorem begins_calls (s t : List UInt8) (ht : t.length ≤ 10000) {r : Bool} (hr : begins s t = r) (w : World) : Calls Tryz.prog 164 #[.string (ofL s), .string (ofL t)] w fun e w' => e = .returned (.bool r) ∧ w = w' := by
  have hz : (ofL t).size = t.length := ofL_size t
  obtain ⟨m, Hm⟩ := au (min t.length 100)
  have hm : min (t.length : Int) 100 = (m : Int) := by rw [← Hm.out]; omega
  have hml : m ≤ t.length := by rw [← Hm.out]; omega
  have hx : (ofL t).extract 0 m = ofL (t.take m) := by rw [ofL_extract]; simp
  have hb : (s == t.take m) = r := by
    rw [← hr, begins]
    have : t.take m = t.take 100 := by
      rw [← Hm.out]
      rcases Nat.le_total t.length 100 with h | h
      · rw [Nat.min_eq_left h, List.take_of_length_le (Nat.le_refl _), List.take_of_length_le h]
      · rw [Nat.min_eq_right h]
    rw [this]
  go_enter Tryz.func164, Tryz.ntmps164
  go_wp2_with fail
  go_ret
  exact ⟨ret_bool rfl, rfl⟩
theorem join_calls (a b : List UInt8) (ha : a.length ≤ 10000) (hb : b.length ≤ 10000) {r : List UInt8} (hr : joinP a b = r) (w : World) : Calls Tryz.prog 163 #[.string (ofL a), .string (ofL b)] w fun e w' => e = .returned (.string (ofL r)) ∧ w = w' := by
  unfold joinP at hr
  cases a with
  | nil =>
    rw [if_pos rfl] at hr
    subst hr
    go_enter Tryz.func163, Tryz.ntmps163
    go_wp2_with fail
    go_ret
    exact ⟨rfl, rfl⟩
  | cons x a =>
    rw [if_neg (by simp)] at hr
    have h1 : (x :: a).isEmpty = false := rfl
    have hz : (ofL (x :: a)).size = (x :: a).length := ofL_size _
    have hz2 : (ofL b).size = b.length := ofL_size _
    obtain ⟨y, Hy⟩ := au (x :: a)
    rw [Hy.out] at ha hr h1 hz ⊢
    go_enter Tryz.func163, Tryz.ntmps163
    go_wp2_with fail
    go_ret
    refine ⟨?_, rfl⟩
    show Ending.returned (.string (ofL y ++ ofL [47] ++ ofL b)) = _
    rw [ofL_append, ofL_append, ← hr, List.append_assoc]; rfl

/-! ### what is told -/
def Ev.cells (e : Ev) : List Value := [.int .i64 e.kind, .string (ofL e.node.path), .string (ofL e.node.link), .int .u8 e.node.kind.toNat, .int .i64 e.node.mode, .int .i64 e.node.uid, .int .i64 e.node.gid, .int .i64 e.node.mtime, .string (ofL e.node.data), .string (ofL e.data)]
def Ev.agg (e : Ev) : Value := .agg #[.int .i64 e.kind, .string (ofL e.node.path), .string (ofL e.node.link), .int .u8 e.node.kind.toNat, .int .i64 e.node.mode, .int .i64 e.node.uid, .int .i64 e.node.gid, .int .i64 e.node.mtime, .string (ofL e.node.data), .string (ofL e.data)]
def Ev.R (e : Ev) : Prop := R64 e.kind ∧ e.node.R ∧ e.data.length ≤ maxLen
def Kd.ev : Kd Ev := Kd.flatI 10 Ev.cells Ev.R (fun _ => rfl) (fun x u hu => by simp [Ev.cells] at hu; rcases hu with h | h | h | h | h | h | h | h | h | h <;> rw [h] <;> rfl)
theorem etEvs : ET Tryz.prog 65 147 (.agg #[.int .i64 0, .string ⟨#[]⟩, .string ⟨#[]⟩, .int .u8 0, .int .i64 0, .int .i64 0, .int .i64 0, .int .i64 0, .string ⟨#[]⟩, .string ⟨#[]⟩]) 10 112 := ⟨Tryz.underlying65, by kernel_rfl, rfl, by decide⟩
/-- A parser in memory: its state, and what it has told. -/
def PsAt (W : World) (P : Nat) (s : Ps) (told : List Ev) : Prop :=
  ∃ v, W.heap[P]? = some (.cells #[.int .i64 s.phase, .string (ofL s.node.path), .string (ofL s.node.link), .int .u8 s.node.kind.toNat, .int .i64 s.node.mode, .int .i64 s.node.uid, .int .i64 s.node.gid, .int .i64 s.node.mtime, .string (ofL s.node.data), .int .i64 s.size, .int .i64 s.left, .string (ofL s.text), .string (ofL s.name), .string (ofL s.link), v] 143 (0, 0)) ∧
    RowD Kd.ev W (fun _ => False) (P + 1) v told
theorem PsAt.below {W V : World} {P : Nat} {s : Ps} {told : List Ev} (h : PsAt W P s told) (hb : Below W.heap.size W V) : PsAt V P s told := by
  obtain ⟨v, h1, h2⟩ := h
  exact ⟨v, blk_below h1 hb (lt_of_block h1), h2.below hb⟩
theorem PsAt.lt {W : World} {P : Nat} {s : Ps} {told : List Ev} (h : PsAt W P s told) : P < W.heap.size := by
  obtain ⟨v, h1, h2⟩ := h
  exact lt_of_block h1
/-- How a parser's function ends. -/
def PRes (P : Nat) (told : List Ev) (W : World) (r : Except Int (Ps × List Ev)) (e : Ending) (W' : World) : Prop :=
  match r with
  | .ok (t, l) => e = .returned (.tuple #[]) ∧ PsAt W' P t (told ++ l) ∧ Below P W W'
  | .error c => e = .panicked (whyP c) ∧ Below P W W'
end Go.Proofs.YtldhcknjpmbgnaaGreatDoor.Rk
