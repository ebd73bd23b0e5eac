/- Volumes, walked. -/
import Derived.Test.YtldhcknjpmbgnaaGreatDoorConS
import Derived.Test.YtldhcknjpmbgnaaGreatDoorVolS
namespace Go.Proofs.YtldhcknjpmbgnaaGreatDoor.Rk
open Go.RowKit Go.Shelf
set_option linter.unusedVariables false
set_option linter.unusedSimpArgs false
set_option maxRecDepth 100000

theorem Sl.intI_at {w : World} {F : Nat → Prop} {A : Option Addr} {c : Nat} {xs : List Int} (h : Sl Kd.int w F A c xs) {k : Nat} {x : Int} (hn : xs[k]? = some x) :
    R64 x ∧ ∃ b o, A = some ⟨b, o, none⟩ ∧ w.cell? ⟨b, o + k, none⟩ = some (.int .i64 x) := by
  obtain ⟨vs, hc, hr⟩ := h.now
  obtain ⟨he, hR⟩ := hr.at_ k hn
  have hsz : Kd.int.sz = 1 := rfl
  rw [hsz, Nat.mul_one] at he
  refine ⟨hR, hc.at_ ?_⟩
  have := congrArg (fun l => l[0]?) he
  simpa using this
/-- An odd capacity. -/
def oddC (n : Int) : Bool := decide (n < 0) || decide (200 < n)
theorem oddc_calls (n : Int) {r : Bool} (hr : oddC n = r) (w : World) : Calls Tryz.prog 110 #[.int .i64 n] w fun e w' => e = .returned (.bool r) ∧ w = w' := by
  obtain ⟨a, Ha⟩ := au (decide (n < 0))
  obtain ⟨b, Hb⟩ := au (decide (200 < n))
  have Hr : Au ((a || b) = r) := ⟨by rw [← hr, oddC, Ha.out, Hb.out]⟩
  have ha := Ha.out
  have hb := Hb.out
  clear hr
  cases a <;> cases b
  all_goals
    go_enter Tryz.func110, Tryz.ntmps110
    go_wp2_with fail
    go_ret
    exact ⟨ret_bool (by rw [← Hr.out]; rfl), rfl⟩
def idxC (xs : List Int) : Int := match xs.findIdx? oddC with | some j => (j : Int) | none => -1
theorem idxC_none {xs : List Int} (h : ∀ x ∈ xs, oddC x = false) : idxC xs = -1 := by
  unfold idxC
  rw [List.findIdx?_eq_none_iff.2 h]
theorem idxC_some {xs : List Int} {k : Nat} {x : Int} (hk : xs[k]? = some x) (hx : oddC x = true) (h : ∀ y ∈ xs.take k, oddC y = false) : idxC xs = (k : Int) := by
  unfold idxC
  obtain ⟨hlt, he⟩ := List.getElem?_eq_some_iff.1 hk
  have : xs.findIdx? oddC = some k := by
    rw [List.findIdx?_eq_some_iff_getElem]
    refine ⟨hlt, by rw [he]; exact hx, fun j hj => ?_⟩
    have hm : xs[j] ∈ xs.take k := by
      rw [List.mem_take_iff_getElem]
      exact ⟨j, by omega, rfl⟩
    rw [h _ hm]; simp
  rw [this]
theorem idxC_any (xs : List Int) : decide (0 ≤ idxC xs) = xs.any oddC := by
  unfold idxC
  cases h : xs.findIdx? oddC with
  | none =>
    rw [List.findIdx?_eq_none_iff] at h
    symm
    rw [show (decide ((0 : Int) ≤ -1)) = false by decide, List.any_eq_false]
    exact fun x hx => by simp [h x hx]
  | some j =>
    obtain ⟨hlt, h1, _⟩ := List.findIdx?_eq_some_iff_getElem.1 h
    symm
    have h2 : decide ((0 : Int) ≤ (j : Int)) = true := by simp
    show xs.any oddC = decide ((0 : Int) ≤ (j : Int))
    rw [h2, List.any_eq_true]
    exact ⟨_, List.getElem_mem hlt, h1⟩
theorem indexC_calls (xs : List Int) {n : Nat} (hn : xs.length = n) {r : Int} (hr : idxC xs = r) {A : Option Addr} {c : Nat} {F : Nat → Prop} (w : World) (ha : Sl Kd.int w F A c xs) :
    Calls Tryz.prog 115 #[.slice A n c, .func (.func 110) #[] #[]] w fun e w' => e = .returned (.int .i64 r) ∧ w = w' := by
  subst hn
  have Hr := Au.mk hr
  have hle := ha.le
  clear hr
  go_enter Tryz.func115, Tryz.ntmps115
  go_wp2_with fail
  go_loop [8] (fun j => ∃ k : Nat, k ≤ xs.length ∧ j = .int .i64 k ∧ Au (∀ y ∈ xs.take k, oddC y = false)) (fun j => xs.length - (intOf j).toNat)
  case atStart => exact ⟨0, Nat.zero_le _, rfl, ⟨fun y hy => by simp at hy⟩⟩
  case round =>
    obtain ⟨k, hk, rfl, H0⟩ := hrel
    by_cases hlt : k < xs.length
    · obtain ⟨x, hx⟩ : ∃ x, xs[k]? = some x := ⟨_, List.getElem?_eq_getElem hlt⟩
      obtain ⟨hxR, b, o, rfl, ck⟩ := ha.intI_at hx
      have Hx := Au.mk hx
      clear hx
      obtain ⟨d, Hd⟩ := au (oddC x)
      cases d
      · go_wp2_with (go_at_call 110; refine (oddc_calls x Hd.out _).mono ?_; rintro e w' ⟨rfl, rfl⟩)
        go_round
        case rel =>
          refine ⟨k + 1, by omega, by go_num, ⟨fun y hy => ?_⟩⟩
          rw [take_snocX Hx.out] at hy
          rcases List.mem_append.1 hy with hy | hy
          · exact H0.out y hy
          · rw [List.mem_singleton.1 hy]; exact Hd.out
        case measure => simp [intOf]; omega
      · have hr2 : r = (k : Int) := by rw [← Hr.out]; exact idxC_some Hx.out Hd.out H0.out
        subst hr2
        go_wp2_with (go_at_call 110; refine (oddc_calls x Hd.out _).mono ?_; rintro e w' ⟨rfl, rfl⟩)
        go_ret
        exact ⟨rfl, rfl⟩
    · have hr2 : r = -1 := by
        have := H0.out
        rw [show k = xs.length by omega, List.take_length] at this
        rw [← Hr.out, idxC_none this]
      subst hr2
      go_wp2_with fail
      go_ret
      exact ⟨rfl, rfl⟩
theorem containsC_calls (xs : List Int) {n : Nat} (hn : xs.length = n) {r : Bool} (hr : xs.any oddC = r) {A : Option Addr} {c : Nat} {F : Nat → Prop} (w : World) (ha : Sl Kd.int w F A c xs) :
    Calls Tryz.prog 112 #[.slice A n c, .func (.func 110) #[] #[]] w fun e w' => e = .returned (.bool r) ∧ w = w' := by
  obtain ⟨i, Hi⟩ := au (idxC xs)
  have hri : decide (0 ≤ i) = r := by rw [← Hi.out, idxC_any, hr]
  have Hc := Au.mk (indexC_calls xs hn Hi.out w ha)
  go_enter Tryz.func112, Tryz.ntmps112
  go_wp2_with fail
  refine Hc.out.mono ?_
  rintro e w1 ⟨rfl, rfl⟩
  go_wp2_with fail
  go_ret
  exact ⟨by first | rfl | exact ret_bool (by first | exact hri | rfl), rfl⟩
end Go.Proofs.YtldhcknjpmbgnaaGreatDoor.Rk

namespace Go.Proofs.YtldhcknjpmbgnaaGreatDoor.Rk
open Go.RowKit Go.Shelf
set_option linter.unusedVariables false
set_option linter.unusedSimpArgs false
set_option maxRecDepth 100000

def St.cells (s : St) (A : Option Addr) (c : Nat) : List Value := [.string (ofL s.label), .int .i64 s.b, .slice A s.caps.length c]
def St.agg (s : St) (A : Option Addr) (c : Nat) : Value := .agg #[.string (ofL s.label), .int .i64 s.b, .slice A s.caps.length c]
theorem all_oddC (l : List Int) : l.all (fun n => decide (0 ≤ n) && decide (n ≤ 200)) = !l.any oddC := by
  rw [List.not_any_eq_all_not]
  congr 1
  funext n
  unfold oddC
  rw [Bool.not_or, Bool.eq_iff_iff, Bool.and_eq_true, Bool.and_eq_true]
  simp
set_option maxHeartbeats 1000000 in
theorem smay_calls (s : St) {r : Bool} (hr : smay s = r) {A : Option Addr} {c : Nat} {F : Nat → Prop} (w : World) (hs : Sl Kd.int w F A c s.caps) :
    Calls Tryz.prog 68 #[s.agg A c] w fun e w' => e = .returned (.bool r) ∧ Below w.heap.size w w' := by
  obtain ⟨a, Ha⟩ := au (lmay s.label 1)
  obtain ⟨b, Hb⟩ := au (decide (1 ≤ s.b))
  obtain ⟨d, Hd⟩ := au (decide (s.b ≤ 20))
  obtain ⟨f, Hf⟩ := au (decide (s.caps.length ≤ 12))
  obtain ⟨g, Hg⟩ := au (s.caps.any oddC)
  have Hr : Au ((a && (b && (d && (f && !g)))) = r) := ⟨by rw [← hr, smay, Ha.out, Hb.out, Hd.out, Hf.out, all_oddC, Hg.out]⟩
  have hb := Hb.out
  have hd := Hd.out
  have hf : decide ((s.caps.length : Int) ≤ 12) = f := by rw [← Hf.out]; simp only [decide_eq_decide]; omega
  have hle := hs.le
  have B0 : Au ((w.alloc (.cells (s.cells A c).toArray 50)).heap[w.heap.size]? = some (.cells (s.cells A c).toArray 50 (0, 0))) := ⟨heap_alloc_new _ _⟩
  have hb0 := (Below.refl w.heap.size w).alloc (Nat.le_refl _) (.cells (s.cells A c).toArray 50)
  have s0 := Au.mk (hs.alloc (.cells (s.cells A c).toArray 50))
  have f0 := blk_cell B0.out 0 rfl
  have f1 := blk_cell B0.out 1 rfl
  have f2 := blk_cell B0.out 2 rfl
  unfold St.agg
  unfold St.cells at f0 f1 f2 hb0 s0 B0
  clear hr hs
  cases a
  · go_enter Tryz.func68, Tryz.ntmps68
    go_wp2_with (first | (go_at_call 111; refine (lmay_calls s.label 1 Ha.out _).mono ?_; rintro e w1 ⟨rfl, rfl⟩) | (go_at_call 112; refine (containsC_calls s.caps rfl Hg.out _ s0.out).mono ?_; rintro e w2 ⟨rfl, rfl⟩))
    go_ret
    exact ⟨ret_bool (by rw [← Hr.out]; rfl), hb0⟩
  · cases b
    · go_enter Tryz.func68, Tryz.ntmps68
      go_wp2_with (first | (go_at_call 111; refine (lmay_calls s.label 1 Ha.out _).mono ?_; rintro e w1 ⟨rfl, rfl⟩) | (go_at_call 112; refine (containsC_calls s.caps rfl Hg.out _ s0.out).mono ?_; rintro e w2 ⟨rfl, rfl⟩))
      go_ret
      exact ⟨ret_bool (by rw [← Hr.out]; rfl), hb0⟩
    · cases d
      · go_enter Tryz.func68, Tryz.ntmps68
        go_wp2_with (first | (go_at_call 111; refine (lmay_calls s.label 1 Ha.out _).mono ?_; rintro e w1 ⟨rfl, rfl⟩) | (go_at_call 112; refine (containsC_calls s.caps rfl Hg.out _ s0.out).mono ?_; rintro e w2 ⟨rfl, rfl⟩))
        go_ret
        exact ⟨ret_bool (by rw [← Hr.out]; rfl), hb0⟩
      · cases f
        · go_enter Tryz.func68, Tryz.ntmps68
          go_wp2_with (first | (go_at_call 111; refine (lmay_calls s.label 1 Ha.out _).mono ?_; rintro e w1 ⟨rfl, rfl⟩) | (go_at_call 112; refine (containsC_calls s.caps rfl Hg.out _ s0.out).mono ?_; rintro e w2 ⟨rfl, rfl⟩))
          go_ret
          exact ⟨ret_bool (by rw [← Hr.out]; rfl), hb0⟩
        · cases g
          · go_enter Tryz.func68, Tryz.ntmps68
            go_wp2_with (first | (go_at_call 111; refine (lmay_calls s.label 1 Ha.out _).mono ?_; rintro e w1 ⟨rfl, rfl⟩) | (go_at_call 112; refine (containsC_calls s.caps rfl Hg.out _ s0.out).mono ?_; rintro e w2 ⟨rfl, rfl⟩))
            go_ret
            exact ⟨ret_bool (by rw [← Hr.out]; rfl), hb0⟩
          · go_enter Tryz.func68, Tryz.ntmps68
            go_wp2_with (first | (go_at_call 111; refine (lmay_calls s.label 1 Ha.out _).mono ?_; rintro e w1 ⟨rfl, rfl⟩) | (go_at_call 112; refine (containsC_calls s.caps rfl Hg.out _ s0.out).mono ?_; rintro e w2 ⟨rfl, rfl⟩))
            go_ret
            exact ⟨ret_bool (by rw [← Hr.out]; rfl), hb0⟩
theorem Sl.up2 {α : Type} {d : Kd α} {w : World} {B B' z : Nat} {A : Option Addr} {c : Nat} {x : List α} (h : Sl d w (fun k => B ≤ k ∧ k < z) A c x) (hB : B' ≤ B) : Sl d w (fun k => B' ≤ k ∧ k < z) A c x := h.mono fun k hk => ⟨Nat.le_trans hB hk.1, hk.2⟩
/-- A job's block. -/
def JobAt (W : World) (g : Nat) (s : St) (Ac : Option Addr) (cc : Nat) (t : List Nd) (A : Option Addr) (c : Nat) (all : List (List UInt8)) (Al : Option Addr) (cl : Nat) : Prop :=
  W.heap[g]? = some (.cells #[.string (ofL s.label), .int .i64 s.b, .slice Ac s.caps.length cc, .slice A t.length c, .slice Al all.length cl] 85 (0, 0))
theorem JobAt.below {W V : World} {g : Nat} {s : St} {Ac : Option Addr} {cc : Nat} {t : List Nd} {A : Option Addr} {c : Nat} {all : List (List UInt8)} {Al : Option Addr} {cl : Nat} (h : JobAt W g s Ac cc t A c all Al cl) (hb : Below W.heap.size W V) : JobAt V g s Ac cc t A c all Al cl := blk_below h hb (lt_of_block h)
set_option maxHeartbeats 1000000 in
theorem made_calls (t : List Nd) (hS : AllS t) (s : St) {b : Bool} (hb : (tmay t && smay s) = b) {A Ac : Option Addr} {c cc : Nat} {F G : Nat → Prop} (w : World) (ha : Sl Kd.nd w F A c t) (hs : Sl Kd.int w G Ac cc s.caps) :
    Calls Tryz.prog 42 #[.slice A t.length c, s.agg Ac cc] w fun e w' => Below w.heap.size w w' ∧ ((b = false ∧ e = .returned (.tuple #[.pointer none, .bool false])) ∨
      (b = true ∧ ∃ g Al cl, e = .returned (.tuple #[.pointer (some ⟨g, 0, none⟩), .bool true]) ∧ w.heap.size ≤ g ∧ JobAt w' g s Ac cc t A c (sall t) Al cl ∧ Sl (Kd.slice Kd.byte) w' (fun j => w.heap.size ≤ j ∧ j < g) Al cl (sall t))) := by
  have HS := Au.mk hS
  obtain ⟨x, Hx⟩ := au (tmay t)
  obtain ⟨y, Hy⟩ := au (smay s)
  obtain ⟨l, Hl⟩ := au (sall t)
  have Hb : Au ((x && y) = b) := ⟨by rw [← hb, Hx.out, Hy.out]⟩
  rw [Hl.out]
  have B0 : Au ((w.alloc (.cells (s.cells Ac cc).toArray 50)).heap[w.heap.size]? = some (.cells (s.cells Ac cc).toArray 50 (0, 0))) := ⟨heap_alloc_new _ _⟩
  have hb0 := (Below.refl w.heap.size w).alloc (Nat.le_refl _) (.cells (s.cells Ac cc).toArray 50)
  have s0 := Au.mk (hs.alloc (.cells (s.cells Ac cc).toArray 50))
  have a0 := Au.mk (ha.alloc (.cells (s.cells Ac cc).toArray 50))
  have f0 := blk_cell B0.out 0 rfl
  have f1 := blk_cell B0.out 1 rfl
  have f2 := blk_cell B0.out 2 rfl
  have Hsm : Au (∀ w, Sl Kd.int w G Ac cc s.caps → Calls Tryz.prog 68 #[s.agg Ac cc] w fun e w' => e = .returned (.bool y) ∧ Below w.heap.size w w') := ⟨fun w h => smay_calls s Hy.out w h⟩
  unfold St.agg at Hsm ⊢
  unfold St.cells at f0 f1 f2 hb0 s0 B0 a0
  clear hS hb ha hs
  cases x
  · go_enter Tryz.func42, Tryz.ntmps42
    go_wp2_with (go_at_call 51; refine (tmay_calls t HS.out Hx.out _ a0.out).mono ?_; rintro e w1 ⟨rfl, b1⟩; have e1 := below_then hb0 b1 hb0.size)
    go_ret2
    exact ⟨e1, .inl ⟨by rw [← Hb.out]; rfl, rfl⟩⟩
  · cases y
    · go_enter Tryz.func42, Tryz.ntmps42
      go_wp2_with (first | (go_at_call 51; refine (tmay_calls t HS.out Hx.out _ a0.out).mono ?_; rintro e w1 ⟨rfl, b1⟩; have e1 := below_then hb0 b1 hb0.size; have g0 := cell_below f0 b1; have g1 := cell_below f1 b1; have g2 := cell_below f2 b1; have S1 := Au.mk (s0.out.below b1); clear f0 f1 f2 b1) | (go_at_call 68; refine (Hsm.out _ S1.out).mono ?_; rintro e w2 ⟨rfl, b2⟩; have e2 := below_then e1 b2 e1.size))
      go_ret2
      exact ⟨e2, .inl ⟨by rw [← Hb.out]; rfl, rfl⟩⟩
    · go_enter Tryz.func42, Tryz.ntmps42
      go_wp2_with (first | (go_at_call 51; refine (tmay_calls t HS.out Hx.out _ a0.out).mono ?_; rintro e w1 ⟨rfl, b1⟩; have e1 := below_then hb0 b1 hb0.size; have g0 := cell_below f0 b1; have g1 := cell_below f1 b1; have g2 := cell_below f2 b1; have S1 := Au.mk (s0.out.below b1); have A1 := Au.mk (a0.out.below b1); clear f0 f1 f2 b1) | (go_at_call 68; refine (Hsm.out _ S1.out).mono ?_; rintro e w2 ⟨rfl, b2⟩; have e2 := below_then e1 b2 e1.size; have h0 := cell_below g0 b2; have h1 := cell_below g1 b2; have h2 := cell_below g2 b2; have A2 := Au.mk (A1.out.below b2); clear g0 g1 g2 b2) | (go_at_call 28; refine (sall_calls t HS.out Hl.out Hx.out _ A2.out).mono ?_; rintro e w3 ⟨Al, cl, rfl, s3, b3⟩; have e3 := below_then e2 b3 e2.size; have k0 := cell_below h0 b3; have k1 := cell_below h1 b3; have k2 := cell_below h2 b3; have S3 := Au.mk (s3.old.up2 e2.size); have Z3 := Au.mk e3.size; clear h0 h1 h2 b3 s3))
      go_ret2
      refine ⟨e3.alloc Z3.out _, .inr ⟨by rw [← Hb.out]; rfl, w3.heap.size, Al, cl, rfl, Z3.out, heap_alloc_new w3 _, S3.out.alloc _⟩⟩
end Go.Proofs.YtldhcknjpmbgnaaGreatDoor.Rk

namespace Go.Proofs.YtldhcknjpmbgnaaGreatDoor.Rk
open Go.RowKit Go.Shelf
set_option linter.unusedVariables false
set_option linter.unusedSimpArgs false
set_option maxRecDepth 100000

theorem lit_rowD {α : Type} {d : Kd α} {w : World} {F G : Nat → Prop} {base : Nat} {e : TypeId} {B : Option Addr} {c n : Nat} {x : List α} (hn : x.length = n) (hF : ∀ k, F k → (G k ∨ base ≤ k)) (hb : base ≤ w.heap.size) (hx : Sl d w F B c x) :
    RowD (Kd.slice d) (w.alloc (.cells #[.slice B n c] e)) G base (.slice (some ⟨w.heap.size, 0, none⟩) 1 1) [x] := by
  subst hn
  obtain ⟨h1, h2, vs, hv⟩ := hx
  refine ⟨fun k => F k ∧ k < w.heap.size, [.slice B x.length c], fun k hk => ⟨hF k hk.1, by simp; omega⟩, fun g hg hk => ?_, row_lit1 w base e _ hb, fun W hW => ?_⟩
  · have : w.heap.size = g := by simpa [Value.ownBlock] using hg
    omega
  · have hk : Keeps F w W := fun k hk hlt => (hW k ⟨hk, hlt⟩ (by simp; omega)).trans (Below.heap_alloc w _ k hlt)
    exact Reps.single ⟨B, c, rfl, h1, h2, vs, (hv W hk).1, (hv W hk).2⟩
theorem whereB_cases {t : List Nd} {i : Int} : (whereB t i).2 = -1 ∨ ∃ k nd, (whereB t i).1 = ((k : Nat) : Int) ∧ t[k]? = some nd ∧ -1 ≤ (whereB t i).2 ∧ (whereB t i).2 ≤ max (-1) (i + edata nd) := by
  by_cases h : i < 0 ∨ ((sall t).length : Int) ≤ i
  · rw [whereB_out h]; exact .inl rfl
  · have e : whereB t i = (if idxOf i (starts t) - 1 < 0 then ((t.length : Int), (-1 : Int)) else match t[(idxOf i (starts t) - 1).toNat]? with
        | some n => (idxOf i (starts t) - 1, max (-1) (i - ((starts t).getD ((idxOf i (starts t) - 1).toNat + 1) 0 : Nat) + (edata n : Nat)))
        | none => (idxOf i (starts t) - 1, -1)) := by unfold whereB; rw [if_neg h]; rfl
    rw [e]
    generalize idxOf i (starts t) - 1 = k
    by_cases h2 : k < 0
    · rw [if_pos h2]; exact .inl rfl
    · rw [if_neg h2]
      cases h3 : t[k.toNat]? with
      | none => exact .inl rfl
      | some nd =>
        refine .inr ⟨k.toNat, nd, by simp only; omega, h3, ?_, ?_⟩
        · simp only; omega
        · simp only; omega
set_option maxHeartbeats 4000000 in
theorem begin_calls (t : List Nd) (hS : AllS t) (htm : tmay t = true) (s : St) (pos n : Int) (hp : R64 pos) (hn : R64 n) {b : Bool} (hb : decide ((lput s.label n).isSome ∧ 0 ≤ pos ∧ pos < (sall t).length) = b) {l : List (List UInt8)} (hl : vbeg t s pos n = l)
    {A Ac Al : Option Addr} {c cc cl g : Nat} {F : Nat → Prop} (w : World) (hT : Tab w) (hJ : JobAt w g s Ac cc t A c (sall t) Al cl) (ha : Sl Kd.nd w F A c t) :
    Calls Tryz.prog 43 #[.pointer (some ⟨g, 0, none⟩), .int .i64 pos, .int .i64 n] w fun e w' => Below w.heap.size w w' ∧ ((b = false ∧ e = .returned (.tuple #[.slice none 0 0, .bool false])) ∨
      (b = true ∧ ∃ A' c', e = .returned (.tuple #[.slice A' l.length c', .bool true]) ∧ Sl (Kd.slice Kd.byte) w' (fun j => w.heap.size ≤ j) A' c' l)) := by
  have HS := Au.mk hS
  have HT := Au.mk hT
  have Htm := Au.mk htm
  obtain ⟨m, Hm⟩ := au (sall t).length
  have hm260 : m ≤ 1000 := by have := (sall_len htm).2; rw [Hm.out] at this; omega
  unfold JobAt at hJ
  rw [Hm.out] at hJ hb
  have HJ := Au.mk hJ
  obtain ⟨p, Hp⟩ := au ((lput s.label n).getD [])
  obtain ⟨x, Hx⟩ := au ((lput s.label n).isSome)
  obtain ⟨y, Hy⟩ := au (decide (pos < 0))
  obtain ⟨z, Hz⟩ := au (decide ((m : Int) ≤ pos))
  have Hb : Au ((x && (!y && !z)) = b) := ⟨by
    rw [← hb, ← Hx.out, ← Hy.out, ← Hz.out, Bool.eq_iff_iff]
    simp only [Bool.and_eq_true, Bool.not_eq_true', decide_eq_false_iff_not, decide_eq_true_eq]
    constructor
    · rintro ⟨h1, h2, h3⟩; exact ⟨h1, by omega, by omega⟩
    · rintro ⟨h1, h2, h3⟩; exact ⟨h1, by omega, by omega⟩⟩
  have Hl := Au.mk hl
  have Ha := Au.mk ha
  have f0 := blk_cell hJ 0 rfl
  have f1 := blk_cell hJ 1 rfl
  have f2 := blk_cell hJ 2 rfl
  have f3 := blk_cell hJ 3 rfl
  have f4 := blk_cell hJ 4 rfl
  have hy := Hy.out
  have hz := Hz.out
  clear hS hT htm hb hl hJ ha
  cases x
  · go_enter Tryz.func43, Tryz.ntmps43
    go_wp2_with (go_at_call 61; refine (lput_calls s.label n hn Hp.out Hx.out _ HT.out).mono ?_; rintro e w1 ⟨A1, c1, rfl, s1, b1⟩)
    go_ret2
    exact ⟨b1, .inl ⟨by rw [← Hb.out]; rfl, rfl⟩⟩
  · cases y
    · cases z
      · obtain ⟨⟨r1, r2⟩, Hr⟩ := au (whereB t pos)
        have hpz : 0 ≤ pos ∧ pos ≤ 1000 := by
          have h1 := of_decide_eq_false hy
          have h2 := of_decide_eq_false hz
          omega
        have hbt : Au (true = b) := ⟨by rw [← Hb.out]; rfl⟩
        obtain ⟨q, Hq⟩ := au (r2 != -1)
        have hq := Hq.out
        have hca := @whereB_cases t pos
        rw [Hr.out] at hca
        have Hl2 : Au (p :: (if r2 = -1 then [] else match t[r1.toNat]? with | some nd => cput nd (512 * r2) | none => []) = l) := ⟨by rw [← Hl.out, ← Hp.out, vbeg, Hr.out]; rfl⟩
        go_enter Tryz.func43, Tryz.ntmps43
        go_wp2_with fail
        refine (lput_calls s.label n hn Hp.out Hx.out _ HT.out).mono ?_
        rintro e w1 ⟨A1, c1, rfl, s1, b1⟩
        have J1 := Au.mk (blk_below HJ.out b1 (lt_of_block HJ.out))
        have g4 := blk_cell J1.out 4 rfl
        have R1 := Au.mk (lit_rowD (G := fun _ => False) (base := w.heap.size) (e := 46) rfl (fun k hk => .inr hk) b1.size s1)
        have e1 := b1.alloc b1.size (.cells #[.slice A1 p.length c1] 46)
        have J2 := Au.mk (blk_alloc J1.out (.cells #[.slice A1 p.length c1] 46))
        have g3 := blk_cell J2.out 3 rfl
        have A2 := Au.mk ((Ha.out.old.below b1).alloc (.cells #[.slice A1 p.length c1] 46))
        clear f0 f1 f2 f3 f4 b1 s1
        go_wp2_with fail
        refine (where_calls t HS.out pos hp Hr.out _ A2.out).mono ?_
        rintro e w2 ⟨rfl, b2⟩
        have e2 := below_then e1 b2 e1.size
        have J3 := Au.mk (blk_below J2.out b2 (lt_of_block J2.out))
        have R2 := Au.mk (R1.out.below b2)
        have A3 := Au.mk (A2.out.below b2)
        clear g3 g4 e1 b2
        have g3 := blk_cell J3.out 3 rfl
        cases q
        · have hr2 : r2 = -1 := by simpa using hq
          have hl2 : Au ([p] = l) := ⟨by rw [← Hl2.out, if_pos hr2]⟩
          obtain ⟨A4, c4, h4, s4⟩ := R2.out.sl
          cases h4
          have S4 := Au.mk s4
          clear hca s4
          go_wp2_with fail
          go_ret2
          refine ⟨e2, .inr ⟨hbt.out.symm, some ⟨w1.heap.size, 0, none⟩, 1, ?_, by rw [← hl2.out]; exact S4.out.mono (fun k hk => by rcases hk with hk | hk; exact hk.elim; exact hk)⟩⟩
          rw [← hl2.out]
          rfl
        · have hr2 : r2 ≠ -1 := by simpa using hq
          rcases hca with h | ⟨k, nd, h1, h2, h3, h4⟩
          · exact absurd h hr2
          have h1 : r1 = (k : Int) := h1
          have h3 : -1 ≤ r2 := h3
          have h4 : r2 ≤ max (-1) (pos + edata nd) := h4
          subst h1
          have HnS := Au.mk (HS.out nd (List.mem_of_getElem? h2))
          have hed : edata nd ≤ 20 := by
            have := HnS.out.2.2
            unfold edata manyB; split <;> (try split) <;> omega
          have hw5 : IntKind.i64.wrap (512 * r2) = 512 * r2 := by rw [IntKind.wrap_i64]; omega
          have hr5 : R64 (512 * r2) := ⟨by omega, by omega⟩
          obtain ⟨ml, Hml⟩ := au (cput nd (512 * r2))
          obtain ⟨mb, Hmb⟩ := au (cmay nd (512 * r2))
          have hl2 : Au ([p] ++ ml = l) := ⟨by rw [← Hl2.out, if_neg hr2, Int.toNat_natCast, h2]; show [p] ++ ml = p :: cput nd (512 * r2); rw [Hml.out]; rfl⟩
          have hml3 : ml.length ≤ 3 := by rw [← Hml.out]; exact cput_len _ _
          obtain ⟨hnR, bb, oo, rfl, k0, k1, k2, k3, k4, k5, k6, k7⟩ := A3.out.nd_at h2
          have hkt : k < t.length := (List.getElem?_eq_some_iff.1 h2).1
          have hle := A3.out.le
          have Hcp : Au (∀ W : World, Calls Tryz.prog 70 #[.agg #[.string (ofL nd.path), .string (ofL nd.link), .int .u8 nd.kind.toNat, .int .i64 nd.mode, .int .i64 nd.uid, .int .i64 nd.gid, .int .i64 nd.mtime, .string (ofL nd.data)], .int .i64 (512 * r2)] W fun e w' => ∃ A c, e = .returned (.tuple #[.slice A ml.length c, .bool mb]) ∧ Sl (Kd.slice Kd.byte) w' (fun j => W.heap.size ≤ j) A c ml ∧ Below W.heap.size W w') := ⟨fun W => cput_calls nd HnS.out hnR _ hr5 Hml.out Hmb.out W⟩
          clear h3 h4 hed h2
          go_wp2_with fail
          refine (Hcp.out _).mono ?_
          rintro e w3 ⟨A5, c5, rfl, s5, b5⟩
          have e3 := below_then e2 b5 e2.size
          have hz3 := b5.size
          have R3 := Au.mk (R2.out.below b5)
          have hown : ∀ g', (Value.slice (some ⟨w1.heap.size, 0, none⟩) 1 1).ownBlock = some g' → ¬ (w2.heap.size ≤ g') := fun g' hg' h => by
            obtain ⟨vs, hrow⟩ := R2.out.row
            have := (hrow.block g' hg').2
            omega
          clear k0 k1 k2 k3 k4 k5 k6 k7 g3 b5
          go_wp2_with (at_builtin; refine wpList_append_rowD (d := Kd.slice Kd.byte) (G := fun _ => False) (F2 := fun j => w2.heap.size ≤ j) (base := w.heap.size) (xs := [p]) (ys := ml) _ rfl etBlks _ _ rfl rfl R3.out rfl rfl s5.els (fun j hj => .inr (Nat.le_trans e2.size hj)) hown (by simp only [maxLen, List.length_singleton]; omega) (by simp only [List.length_singleton]; omega) e3.size ?_; intro v' W5 hr5' hg5 ho5; obtain ⟨A6, c6, h6, s6⟩ := hr5'.sl; subst h6; have S6 := Au.mk s6; have Hg5 := Au.mk hg5; clear s6 hg5 ho5 hr5')
          go_ret2
          have hlen : l.length = ml.length + 1 := by rw [← hl2.out]; simp
          have hg5 : w3.grownBy W5 (some w1.heap.size) := Hg5.out
          refine ⟨e3.grown hg5 e3.size (fun k hk => by have h9 : w.heap.size ≤ w1.heap.size := R3.out.low _ _ rfl; have hk' : w1.heap.size = k := (by simpa using hk); omega), .inr ⟨hbt.out.symm, A6, c6, by rw [hlen]; rfl, ?_⟩⟩
          rw [← hl2.out]
          exact S6.out.mono (fun k hk => by rcases hk with hk | hk; exact hk.elim; exact hk)
      · go_enter Tryz.func43, Tryz.ntmps43
        go_wp2_with (go_at_call 61; refine (lput_calls s.label n hn Hp.out Hx.out _ HT.out).mono ?_; rintro e w1 ⟨A1, c1, rfl, s1, b1⟩; have g4 := cell_below f4 b1; clear f0 f1 f2 f3 f4)
        go_ret2
        exact ⟨b1, .inl ⟨by rw [← Hb.out]; rfl, rfl⟩⟩
    · go_enter Tryz.func43, Tryz.ntmps43
      go_wp2_with (go_at_call 61; refine (lput_calls s.label n hn Hp.out Hx.out _ HT.out).mono ?_; rintro e w1 ⟨A1, c1, rfl, s1, b1⟩)
      go_ret2
      exact ⟨b1, .inl ⟨by rw [← Hb.out]; rfl, rfl⟩⟩
end Go.Proofs.YtldhcknjpmbgnaaGreatDoor.Rk

namespace Go.Proofs.YtldhcknjpmbgnaaGreatDoor.Rk
open Go.RowKit Go.Shelf
set_option linter.unusedVariables false
set_option linter.unusedSimpArgs false
set_option maxRecDepth 100000

set_option maxHeartbeats 4000000 in
theorem concatR_calls (parts : List (List (List UInt8))) {n : Nat} (hn : parts.length = n) {A : Option Addr} {c : Nat} {F : Nat → Prop} (hfl : parts.flatten.length ≤ 1000000) {r : List (List UInt8)} (hr : parts.flatten = r) (w : World) (ha : Sl KBk w F A c parts) :
    Calls Tryz.prog 44 #[.slice A n c] w fun e w' => ∃ A' c', e = .returned (.slice A' r.length c') ∧ RowD (Kd.slice Kd.byte) w' (fun k => F k ∧ k < w.heap.size) w.heap.size (.slice A' r.length c') r ∧ Below w.heap.size w w' := by
  have hnle : n ≤ 9223372036854775807 := by rw [← hn]; exact ha.le
  have Ha := Au.mk ha.old
  have Hn := Au.mk hn
  have Hr := Au.mk hr
  have hb0 := Below.refl w.heap.size w
  clear ha hn hr
  go_enter Tryz.func44, Tryz.ntmps44
  go_wp2_with fail
  go_loop [3, 11] (fun s i => ∃ (k m : Nat), k ≤ n ∧ i = .int .i64 k ∧ s = .int .i64 m ∧ Au (m = (parts.take k).flatten.length) ∧ m ≤ 1000000) (fun _ i => n - (intOf i).toNat)
  case atStart => exact ⟨0, 0, Nat.zero_le _, rfl, rfl, ⟨by simp⟩, by omega⟩
  case round =>
    obtain ⟨k, m, hk, rfl, rfl, Hm, hm⟩ := hrel
    by_cases hlt : k < n
    · obtain ⟨x, hx⟩ : ∃ x, parts[k]? = some x := ⟨_, List.getElem?_eq_getElem (by rw [Hn.out]; exact hlt)⟩
      have hts := flat_take_succ hx
      have hle2 := flat_le parts (k + 1)
      rw [hts, List.length_append, ← Hm.out] at hle2
      have hml : m + x.length ≤ 1000000 := by omega
      have hml2 : (m : Int) + x.length ≤ 1000000 := by omega
      obtain ⟨b, o, A', c', rfl, hcell, hsx⟩ := Ha.out.slice_at hx
      have Hts : Au (m + x.length = (parts.take (k + 1)).flatten.length) := ⟨by rw [hts, List.length_append, Hm.out]⟩
      clear hts hle2 hx hsx
      have hnl : ¬ ((m : Int) + x.length < 0) := by omega
      go_wp2_with fail
      go_round
      case rel => exact ⟨k + 1, m + x.length, by omega, by go_num, by go_num, Hts, hml⟩
      case measure => simp [intOf]; omega
    · obtain rfl : k = n := by omega
      have Hm2 : Au (m = r.length) := ⟨by rw [Hm.out, List.take_of_length_le (by rw [Hn.out]; exact Nat.le_refl _), Hr.out]⟩
      go_wp2_with fail
      with_reducible refine (grow_calls m hm (fun k => F k ∧ k < w.heap.size) _).mono ?_
      rintro e w1 ⟨⟨v, rfl, hrow⟩, b1⟩
      have Hrow := Au.mk hrow
      clear hrow
      have hs1 := b1.size
      go_wp2_with fail
      go_loopw [6, 27] (fun v i wr => ∃ j : Nat, j ≤ k ∧ i = .int .i64 j ∧ Au (RowD (Kd.slice Kd.byte) wr (fun k => F k ∧ k < w.heap.size) w.heap.size v (parts.take j).flatten) ∧ Below w.heap.size w wr) (fun _ i _ => k - (intOf i).toNat)
      case atStart => exact ⟨0, Nat.zero_le _, rfl, ⟨by simpa using Hrow.out⟩, b1⟩
      case round =>
        obtain ⟨j, hj, rfl, HR, hb⟩ := hrel
        by_cases hlt : j < k
        · have hs := hb.size
          obtain ⟨x, hx⟩ : ∃ x, parts[j]? = some x := ⟨_, List.getElem?_eq_getElem (by rw [Hn.out]; exact hlt)⟩
          have hle2 := flat_le parts (j + 1)
          rw [flat_take_succ hx, List.length_append] at hle2
          obtain ⟨b, o, A', c', rfl, hcell, hsx⟩ := (Ha.out.below hb).slice_at hx
          have Hsx := Au.mk hsx
          have Hx := Au.mk hx
          have H3 : Au ((parts.take j).flatten.length + x.length ≤ maxLen ∧ ((parts.take j).flatten.length + x.length) * 24 ≤ 140737488355328) := ⟨by simp only [maxLen]; omega⟩
          have Hne : Au (∀ g, u6.ownBlock = some g → ¬ (F g ∧ g < w.heap.size)) := ⟨fun g hg h => by obtain ⟨vs, hr⟩ := HR.out.row; have := (hr.block g hg).1; omega⟩
          clear hx hsx hle2
          go_wp2_with (at_builtin; refine wpList_append_rowD (d := Kd.slice Kd.byte) (G := fun k => F k ∧ k < w.heap.size) (F2 := fun k => F k ∧ k < w.heap.size) (base := w.heap.size) (xs := (parts.take j).flatten) (ys := x) _ rfl etBlks _ _ rfl rfl HR.out rfl rfl Hsx.out.els (fun k hk => .inl hk) Hne.out H3.out.1 H3.out.2 hs ?_; intro v' w2 hr hg ho)
          go_wp2_with fail
          go_roundw
          case rel =>
            refine ⟨j + 1, by omega, by go_num, ⟨by rw [flat_take_succ Hx.out]; exact hr⟩, hb.grown hg hs ?_⟩
            intro g hgg
            obtain ⟨vs, hrw⟩ := HR.out.row
            exact (hrw.block g hgg).1
          case measure => simp [intOf]; omega
        · obtain rfl : j = k := by omega
          have hall : (parts.take j).flatten = r := by rw [List.take_of_length_le (by rw [Hn.out]; exact Nat.le_refl _), Hr.out]
          have hR2 := HR.out
          rw [hall] at hR2
          obtain ⟨A', c', rfl⟩ := hR2.form
          have Hsl := Au.mk hR2
          clear hall hR2
          go_wp2_with fail
          go_ret
          exact ⟨A', c', rfl, Hsl.out, hb⟩
set_option maxHeartbeats 1000000 in
theorem vbegin_calls (t : List Nd) (hS : AllS t) (s : St) (pos n : Int) (hp : R64 pos) (hn : R64 n) {b : Bool} (hb : (vbeginO t s pos n).isSome = b) {l : List (List UInt8)} (hl : (vbeginO t s pos n).getD [] = l)
    {A Ac : Option Addr} {c cc : Nat} {F G : Nat → Prop} (w : World) (hT : Tab w) (ha : Sl Kd.nd w F A c t) (hs : Sl Kd.int w G Ac cc s.caps) :
    Calls Tryz.prog 29 #[.slice A t.length c, s.agg Ac cc, .int .i64 pos, .int .i64 n] w fun e w' => ∃ A' c', e = .returned (.tuple #[.slice A' l.length c', .bool b]) ∧ Sl (Kd.slice Kd.byte) w' (fun j => w.heap.size ≤ j) A' c' l ∧ Below w.heap.size w w' := by
  have HS := Au.mk hS
  obtain ⟨x, Hx⟩ := au (tmay t && smay s)
  have B0 : Au ((w.alloc (.cells (s.cells Ac cc).toArray 50)).heap[w.heap.size]? = some (.cells (s.cells Ac cc).toArray 50 (0, 0))) := ⟨heap_alloc_new _ _⟩
  have hb0 := (Below.refl w.heap.size w).alloc (Nat.le_refl _) (.cells (s.cells Ac cc).toArray 50)
  have s0 := Au.mk (hs.alloc (.cells (s.cells Ac cc).toArray 50))
  have a0 := Au.mk (ha.old.alloc (.cells (s.cells Ac cc).toArray 50))
  have T0 := Au.mk (hT.below hb0)
  have f0 := blk_cell B0.out 0 rfl
  have f1 := blk_cell B0.out 1 rfl
  have f2 := blk_cell B0.out 2 rfl
  have Hm := Au.mk (fun (W : World) (h1 : Sl Kd.nd W (fun k => F k ∧ k < w.heap.size) A c t) (h2 : Sl Kd.int W G Ac cc s.caps) => made_calls t HS.out s Hx.out W h1 h2)
  have Hbb : Au (x = false → b = false ∧ [] = l) := ⟨fun h => by
    have e : vbeginO t s pos n = none := by unfold vbeginO; rw [Hx.out, h]; rfl
    rw [e] at hb hl
    exact ⟨hb.symm, hl⟩⟩
  obtain ⟨q, Hq⟩ := au (decide ((lput s.label n).isSome ∧ 0 ≤ pos ∧ pos < (sall t).length))
  obtain ⟨v, Hv⟩ := au (vbeg t s pos n)
  have Hbt : Au (x = true → b = q ∧ (if q then v else []) = l) := ⟨fun h => by
    have e : vbeginO t s pos n = vbegin t s pos n := by unfold vbeginO; rw [Hx.out, h]; rfl
    rw [e] at hb hl
    unfold vbegin at hb hl
    have hq := Hq.out
    by_cases hc : (lput s.label n).isSome ∧ 0 ≤ pos ∧ pos < (sall t).length
    · rw [if_pos hc] at hb hl
      rw [decide_eq_true hc] at hq
      rw [← hq]
      exact ⟨hb.symm, by rw [← hl, ← Hv.out]; rfl⟩
    · rw [if_neg hc] at hb hl
      rw [decide_eq_false hc] at hq
      rw [← hq]
      exact ⟨hb.symm, by rw [← hl]; rfl⟩⟩
  unfold St.agg at Hm ⊢
  unfold St.cells at f0 f1 f2 hb0 s0 B0 a0 T0
  clear hS hb hl ha hs hT
  go_enter Tryz.func29, Tryz.ntmps29
  go_wp2_with fail
  refine (Hm.out _ a0.out s0.out).mono ?_
  rintro e w1 ⟨b1, h | h⟩
  · obtain ⟨rfl, rfl⟩ := h
    have h0 := Hbb.out rfl
    obtain ⟨rfl, rfl⟩ := h0
    have e1 := below_then hb0 b1 hb0.size
    clear f0 f1 f2
    go_wp2_with fail
    go_ret2
    exact ⟨none, 0, rfl, Sl.nil _ _ _, e1⟩
  · obtain ⟨rfl, g, Al, cl, rfl, hg, hJ, hsl⟩ := h
    have h0 := Hbt.out rfl
    obtain ⟨rfl, hl⟩ := h0
    have e1 := below_then hb0 b1 hb0.size
    have htm : tmay t = true := by have := Hx.out; simp only [Bool.and_eq_true] at this; exact this.1
    have HJ := Au.mk hJ
    have T1 := Au.mk (T0.out.below b1)
    have A1 := Au.mk (a0.out.below b1)
    have Htm := Au.mk htm
    have Hl := Au.mk hl
    clear f0 f1 f2 hJ hsl htm b1 hl
    go_wp2_with fail
    refine (begin_calls t HS.out Htm.out s pos n hp hn Hq.out Hv.out _ T1.out HJ.out A1.out).mono ?_
    rintro e w2 ⟨b2, h | h⟩
    · obtain ⟨rfl, rfl⟩ := h
      have hl := Hl.out
      rw [if_neg (by simp)] at hl
      subst hl
      have e2 := below_then e1 b2 e1.size
      go_wp2_with fail
      go_ret2
      exact ⟨none, 0, rfl, Sl.nil _ _ _, e2⟩
    · obtain ⟨rfl, A2, c2, rfl, s2⟩ := h
      have hl := Hl.out
      rw [if_pos rfl] at hl
      subst hl
      have e2 := below_then e1 b2 e1.size
      have S2 := Au.mk (s2.up e1.size)
      clear s2 b2
      go_wp2_with fail
      go_ret2
      exact ⟨A2, c2, rfl, S2.out, e2⟩
end Go.Proofs.YtldhcknjpmbgnaaGreatDoor.Rk

namespace Go.Proofs.YtldhcknjpmbgnaaGreatDoor.Rk
open Go.RowKit Go.Shelf
set_option linter.unusedVariables false
set_option linter.unusedSimpArgs false
set_option maxRecDepth 100000

theorem Sl.sub {α : Type} {d : Kd α} (h1 : d.sz = 1) {w : World} {F : Nat → Prop} {b o c : Nat} {xs : List α} (h : Sl d w F (some ⟨b, o, none⟩) c xs) {p e : Nat} (hpe : p ≤ e) (he : e ≤ xs.length) :
    Sl d w F (some ⟨b, o + p, none⟩) (e - p) ((xs.take e).drop p) := by
  obtain ⟨hl, hc, vs, hv⟩ := h
  refine ⟨by rw [List.length_drop, List.length_take]; omega, by omega, (vs.take e).drop p, fun W hW => ⟨?_, ?_⟩⟩
  · intro hne
    have hvs : vs ≠ [] := by rintro rfl; simp at hne
    obtain ⟨b', o', e1, hcell⟩ := (hv W hW).1 hvs
    injection e1 with e1
    injection e1 with e2 e3
    subst e2 e3
    refine ⟨b, o + p, rfl, fun j u hu => ?_⟩
    rw [List.getElem?_drop, List.getElem?_take] at hu
    split at hu
    · rw [show o + p + j = o + (p + j) by omega]; exact hcell _ _ hu
    · cases hu
  · have := ((hv W hW).2.take e).drop p
    rwa [h1, Nat.mul_one, Nat.mul_one] at this
theorem vbeg_len (t : List Nd) (s : St) (p n : Int) : 1 ≤ (vbeg t s p n).length ∧ (vbeg t s p n).length ≤ 4 := by
  unfold vbeg
  rw [List.length_cons]
  split
  · simp
  · split
    · have := cput_len; exact ⟨by omega, by have := this ‹Nd› (512 * (whereB t p).2); omega⟩
    · simp
/-- What Split is to tell. -/
abbrev go (t : List Nd) (s : St) (i q : Nat) : List (List (List UInt8)) × Int := sgo (sall t) (fun pos n => vbeg t s pos n) zblocks s.b.toNat ((s.caps.map Int.toNat).drop i) i q
theorem etVols : ET Tryz.prog 53 36 (.slice none 0 0) 1 24 := ⟨Tryz.underlying53, by kernel_rfl, rfl, by decide⟩
theorem go_done {t : List Nd} {s : St} {i q : Nat} (h : ¬ q < (sall t).length) : go t s i q = ([], 0) := sgo_done h
theorem go_end {t : List Nd} {s : St} {i q : Nat} (h : q < (sall t).length) (hi : s.caps.length ≤ i) : go t s i q = ([], 14) := by
  unfold go
  rw [List.drop_eq_nil_of_le (by simpa using hi), sgo, if_pos h]
theorem caps_drop {s : St} {i : Nat} {cap : Int} (h : s.caps[i]? = some cap) : (s.caps.map Int.toNat).drop i = cap.toNat :: (s.caps.map Int.toNat).drop (i + 1) := by
  obtain ⟨hlt, he⟩ := List.getElem?_eq_some_iff.1 h
  rw [List.drop_eq_getElem_cons (by simpa using hlt)]
  simp [he]
theorem go_step {t : List Nd} {s : St} {i q : Nat} {cap : Int} (h : q < (sall t).length) (hc : s.caps[i]? = some cap) (h2 : ¬ s.b.toNat * cap.toNat ≤ (vbeg t s (q : Nat) ((i + 1 : Nat) : Int)).length) :
    go t s i q = (volAt (sall t) (fun pos n => vbeg t s pos n) zblocks s.b.toNat cap.toNat i q :: (go t s (i + 1) (endAt (sall t) (fun pos n => vbeg t s pos n) s.b.toNat cap.toNat i q)).1, (go t s (i + 1) (endAt (sall t) (fun pos n => vbeg t s pos n) s.b.toNat cap.toNat i q)).2) := by
  unfold go
  rw [caps_drop hc]
  exact sgo_step h h2
theorem go_small {t : List Nd} {s : St} {i q : Nat} {cap : Int} (h : q < (sall t).length) (hc : s.caps[i]? = some cap) (h2 : s.b.toNat * cap.toNat ≤ (vbeg t s (q : Nat) ((i + 1 : Nat) : Int)).length) : go t s i q = ([], 13) := by
  unfold go
  rw [caps_drop hc]
  exact sgo_small h h2
set_option maxHeartbeats 8000000 in
theorem split_calls (t : List Nd) (hS : AllS t) (s : St) {l : List (List (List UInt8))} {en : Int} (hl : vsplit t s = (l, en))
    {A Ac : Option Addr} {c cc : Nat} {F G : Nat → Prop} (w : World) (hT : Tab w) (ha : Sl Kd.nd w F A c t) (hs : Sl Kd.int w G Ac cc s.caps) :
    Calls Tryz.prog 23 #[.slice A t.length c, s.agg Ac cc] w fun e w' => ∃ A' c', e = .returned (.tuple #[.slice A' l.length c', .int .i64 en]) ∧ Sl KBk3 w' (fun j => w.heap.size ≤ j) A' c' l ∧ Below w.heap.size w w' := by
  have HS := Au.mk hS
  obtain ⟨x, Hx⟩ := au (tmay t && smay s)
  have B0 : Au ((w.alloc (.cells (s.cells Ac cc).toArray 50)).heap[w.heap.size]? = some (.cells (s.cells Ac cc).toArray 50 (0, 0))) := ⟨heap_alloc_new _ _⟩
  have hb0 := (Below.refl w.heap.size w).alloc (Nat.le_refl _) (.cells (s.cells Ac cc).toArray 50)
  have s0 := Au.mk (hs.old.alloc (.cells (s.cells Ac cc).toArray 50))
  have a0 := Au.mk (ha.old.alloc (.cells (s.cells Ac cc).toArray 50))
  have T0 := Au.mk (hT.below hb0)
  have f0 := blk_cell B0.out 0 rfl
  have f1 := blk_cell B0.out 1 rfl
  have f2 := blk_cell B0.out 2 rfl
  have Hm := Au.mk (fun (W : World) (h1 : Sl Kd.nd W (fun k => F k ∧ k < w.heap.size) A c t) (h2 : Sl Kd.int W (fun k => G k ∧ k < w.heap.size) Ac cc s.caps) => made_calls t HS.out s Hx.out W h1 h2)
  have Hl := Au.mk hl
  have hcap := hs.le
  unfold St.agg at Hm ⊢
  unfold St.cells at f0 f1 f2 hb0 s0 B0 a0 T0
  clear hS hl ha hs hT
  go_enter Tryz.func23, Tryz.ntmps23
  go_wp2_with fail
  refine (Hm.out _ a0.out s0.out).mono ?_
  rintro e w1 ⟨b1, h | h⟩
  · obtain ⟨rfl, rfl⟩ := h
    have e1 := below_then hb0 b1 hb0.size
    have h0 := Hl.out
    unfold vsplit at h0
    rw [Hx.out, if_neg (by simp)] at h0
    injection h0 with h1 h2
    subst h1 h2
    clear f0 f1 f2
    go_wp2_with fail
    go_ret2
    exact ⟨none, 0, rfl, Sl.nil _ _ _, e1⟩
  · obtain ⟨rfl, g, Al, cl, rfl, hg, hJ, hsl⟩ := h
    have e1 := below_then hb0 b1 hb0.size
    have htm : tmay t = true ∧ smay s = true := by have := Hx.out; simpa only [Bool.and_eq_true] using this
    obtain ⟨m, Hm'⟩ := au (sall t).length
    have hm260 : m ≤ 1000 := by have := (sall_len htm.1).2; rw [Hm'.out] at this; omega
    have hsm := htm.2
    unfold smay at hsm
    simp only [Bool.and_eq_true, decide_eq_true_eq, List.all_eq_true] at hsm
    obtain ⟨hlm, hB1, hB2, hc12, hcaps⟩ := hsm
    have Hcaps := Au.mk hcaps
    have Hlm := Au.mk hlm
    have HJ := Au.mk hJ
    have T1 := Au.mk (T0.out.below b1)
    have A1 := Au.mk ((a0.out.below b1).old)
    have S1 := Au.mk ((s0.out.below b1).old)
    have L1 := Au.mk hsl
    have Htm := Au.mk htm.1
    have hgl : g < w1.heap.size := lt_of_block hJ
    have hw1 : w.heap.size ≤ g := Nat.le_trans hb0.size hg
    have h0 := Hl.out
    unfold vsplit at h0
    rw [Hx.out, if_pos rfl] at h0
    have Hgo : Au (go t s 0 0 = (l, en)) := ⟨h0⟩
    have hle1 := hsl.le
    rw [Hm'.out] at hle1
    clear f0 f1 f2 hJ hsl htm b1 h0 hcaps hlm
    go_wp2_with fail
    go_loopw [8, 9] (fun o p wr => ∃ (i q : Nat) (V : List (List (List UInt8))), i ≤ s.caps.length ∧ p = .int .i64 (q : Int) ∧ V.length = i ∧ q ≤ m ∧ Au ((V ++ (go t s i q).1, (go t s i q).2) = (l, en)) ∧ Au (RowD KBk wr (fun k => w.heap.size ≤ k ∧ k < w1.heap.size) w1.heap.size o V) ∧ Below w1.heap.size w1 wr) (fun _ p _ => m - (intOf p).toNat)
    case atStart => exact ⟨0, 0, [], Nat.zero_le _, rfl, rfl, Nat.zero_le _, ⟨show ((go t s 0 0).1, (go t s 0 0).2) = (l, en) from by rw [Hgo.out]⟩, ⟨RowD.nil _ _ _ _⟩, Below.refl _ _⟩
    case round =>
      obtain ⟨i, q, V, hi, rfl, hV, hq, HV, HR, hb⟩ := hrel
      obtain ⟨Ao, co, rfl⟩ := HR.out.form
      rw [hV] at HR ⊢
      have J := Au.mk (blk_below HJ.out hb hgl)
      have T := Au.mk (T1.out.below hb)
      have A2 := Au.mk (A1.out.below hb)
      have S2 := Au.mk (S1.out.below hb)
      have L2 := Au.mk (L1.out.below hb)
      have Hb := Au.mk hb
      have Hv := Au.mk hV
      have f1 := blk_cell J.out 1 rfl
      have f2 := blk_cell J.out 2 rfl
      have f4 := blk_cell J.out 4 rfl
      rw [Hm'.out] at f4
      have hi12 : i ≤ 12 := by omega
      have h1w : w.heap.size ≤ w1.heap.size := by omega
      by_cases hqm : q < m
      · have hqmi : (q : Int) < m := by omega
        have hql : Au (q < (sall t).length) := ⟨by rw [Hm'.out]; exact hqm⟩
        by_cases hic : i = s.caps.length
        · have hlen : Au (V = l ∧ 14 = en) := ⟨by
            have := HV.out
            rw [go_end hql.out (by omega)] at this
            simpa using this⟩
          obtain ⟨A3, c3, h3, s3⟩ := HR.out.sl
          have hbw := Au.mk (e1.trans (hb.mono h1w))
          have S3 := Au.mk s3
          have H3 := Au.mk h3
          clear s3 h3 hb
          subst hic
          go_wp2_with fail
          go_ret2
          obtain ⟨rfl, rfl⟩ := hlen.out
          have h4 : Value.slice Ao s.caps.length co = .slice A3 V.length c3 := H3.out
          exact ⟨A3, c3, by rw [← h4]; rfl, S3.out.mono (fun k hk => by rcases hk with hk | hk <;> omega), hbw.out⟩
        · have hil : i < s.caps.length := by omega
          have hili : (i : Int) < s.caps.length := by omega
          obtain ⟨cap, hcap⟩ : ∃ cap, s.caps[i]? = some cap := ⟨_, List.getElem?_eq_getElem hil⟩
          have hcap2 := Hcaps.out cap (List.mem_of_getElem? hcap)
          obtain ⟨hcapR, bb, oo, rfl, f5⟩ := S2.out.intI_at hcap
          obtain ⟨B, hB⟩ : ∃ B : Nat, s.b = (B : Int) := ⟨s.b.toNat, by omega⟩
          obtain ⟨cn, hcn⟩ : ∃ cn : Nat, cap = (cn : Int) := ⟨cap.toNat, by omega⟩
          have hBn : s.b.toNat = B := by omega
          have hcnn : cap.toNat = cn := by omega
          have hrm4 : B * cn ≤ 4000 := by
            have h1 : B ≤ 20 := by omega
            have h2 : cn ≤ 200 := by omega
            have := Nat.mul_le_mul h1 h2
            omega
          obtain ⟨rm, Hrm⟩ := au (B * cn)
          have hw1 : IntKind.i64.wrap (s.b * cap) = (rm : Int) := by
            rw [hB, hcn, ← Int.natCast_mul, Hrm.out, IntKind.wrap_i64]
            rw [Hrm.out] at hrm4
            omega
          obtain ⟨n1, Hn1⟩ := au (i + 1)
          have hw2 : IntKind.i64.wrap ((i : Int) + 1) = (n1 : Int) := by rw [IntKind.wrap_i64]; have := Hn1.out; omega
          obtain ⟨bg, Hbg⟩ := au (vbeg t s (q : Nat) (n1 : Int))
          obtain ⟨bl, Hbl⟩ := au bg.length
          have hbl : 1 ≤ bl ∧ bl ≤ 4 := by rw [← Hbl.out, ← Hbg.out]; exact vbeg_len t s _ _
          have hrm4' : rm ≤ 4000 := by rw [← Hrm.out]; exact hrm4
          have hw3 : IntKind.i64.wrap ((rm : Int) - bl) = (rm : Int) - bl := by rw [IntKind.wrap_i64]; omega
          have hlp : Au (decide ((lput s.label (n1 : Int)).isSome ∧ 0 ≤ (q : Int) ∧ (q : Int) < (sall t).length) = true) := ⟨by
            refine decide_eq_true ⟨?_, by omega, by rw [Hm'.out]; exact hqmi⟩
            have h1 : lmay s.label (n1 : Int) = true := by
              have h2 := lmay_iff.1 Hlm.out
              exact lmay_iff.2 ⟨h2.1, h2.2.1, h2.2.2.1, by have := Hn1.out; omega, by have := Hn1.out; omega⟩
            rw [lput_yes h1]; rfl⟩
          have hmx : Tryz.prog.follows .mixedOrders = true := by kernel_rfl
          have Hcap := Au.mk (And.intro hcap (And.intro hBn hcnn))
          have hqR : R64 (q : Int) := ⟨by omega, by omega⟩
          have hnR : R64 (n1 : Int) := ⟨by omega, by have := Hn1.out; omega⟩
          have hcl := S2.out.le
          clear hcap hcap2 hcapR hB hcn hBn hcnn hrm4 hb hic
          go_wp2_with fail
          refine region_ops (fun w' => w'.cell? ⟨g, 1, none⟩ = some (.int .i64 s.b) ∧ w'.cell? ⟨g, 2, none⟩ = some (.slice (some ⟨bb, oo, none⟩) s.caps.length cc) ∧ w'.cell? ⟨bb, oo + i, none⟩ = some (.int .i64 cap)) [true, true, true, true, true, true, true, true, true, true, true, true, true, true, true, true] hmx (by decide) (by kernel_rfl) ⟨f1, f2, f5⟩ ?_
          simp only [opsL]
          iterate 16
            refine ⟨?_, Or.inl ⟨by rfl, fun w' hw' => ?_⟩, ?_⟩
            rotate_left 1
            · obtain ⟨g1, g2, g5⟩ := hw'
              go_simp
              all_goals (with_reducible rfl)
            try simp only [Act.put, List.setIfInBounds_toArray, List.set_cons_zero, List.set_cons_succ]
          go_wp2_with fail
          simp only [Calm]
          go_wp2_with fail
          have Td : Tab wr.drew := T.out.below (below_drewN (Below.refl _ _) 1)
          refine (begin_calls t HS.out Htm.out s (q : Int) (n1 : Int) hqR hnR hlp.out Hbg.out wr.drew Td (show JobAt wr.drew g s (some ⟨bb, oo, none⟩) cc t A c (sall t) Al cl from J.out) (A2.out.drewN 1)).mono ?_
          rintro e w2 ⟨b2, h | h⟩
          · exact absurd h.1 (by simp)
          obtain ⟨-, A3, c3, rfl, s3⟩ := h
          rw [Hbl.out]
          have hb2 := below_then (below_drewN Hb.out 1) b2 Hb.out.size
          have hz2 : wr.heap.size ≤ w2.heap.size := b2.size
          have X2 := below_then (below_drewN (Below.refl wr.heap.size wr) 1) b2 (Nat.le_refl _)
          have J2 := Au.mk (blk_below HJ.out hb2 hgl)
          have HR2 := Au.mk ((HR.out.drewN 1).below b2)
          have LL := Au.mk (L1.out.below hb2)
          have S3 := Au.mk s3
          clear f1 f2 f4 f5 b2 s3 Td
          have f1 := blk_cell J2.out 1 rfl
          have f4 := blk_cell J2.out 4 rfl
          rw [Hm'.out] at f4
          by_cases hsm : rm ≤ bl
          · have hlen : Au (V = l ∧ 13 = en) := ⟨by
              have := HV.out
              rw [go_small hql.out Hcap.out.1 (by rw [Hcap.out.2.1, Hcap.out.2.2, Hrm.out, Hn1.out, Hbg.out, Hbl.out]; exact hsm)] at this
              simpa using this⟩
            obtain ⟨A4, c4, h4, s4⟩ := HR2.out.sl
            have hsmi : (rm : Int) - bl < 1 := by omega
            have hbw := Au.mk (e1.trans (hb2.mono h1w))
            have S4 := Au.mk s4
            have H4 := Au.mk h4
            clear s4 h4 hb2 hsm
            go_wp2_with fail
            go_ret2
            obtain ⟨rfl, rfl⟩ := hlen.out
            have h5 : Value.slice Ao i co = .slice A4 V.length c4 := H4.out
            exact ⟨A4, c4, by rw [← h5]; rfl, S4.out.mono (fun k hk => by rcases hk with hk | hk <;> omega), hbw.out⟩
          · obtain ⟨lf, Hlf⟩ := au (rm - bl)
            have hlf : (rm : Int) - bl = (lf : Int) := by have := Hlf.out; omega
            have hlf1 : 1 ≤ lf := by have := Hlf.out; omega
            have hlf2 : lf ≤ 4000 := by have := Hlf.out; omega
            rw [hlf] at hw3
            have hsmi : ¬ ((lf : Int) < 1) := by omega
            obtain ⟨ql, Hql⟩ := au (q + lf)
            have hw4 : IntKind.i64.wrap ((q : Int) + lf) = (ql : Int) := by rw [IntKind.wrap_i64]; have := Hql.out; omega
            obtain ⟨ee, Hee⟩ := au (min m ql)
            have hmin : min (m : Int) (ql : Int) = (ee : Int) := by have := Hee.out; omega
            have heb : q < ee ∧ ee ≤ m := by have := Hee.out; have := Hql.out; omega
            obtain ⟨hee1, hee2⟩ := heb
            have hallne : sall t ≠ [] := fun h => by have := hql.out; rw [h] at this; simp at this
            obtain ⟨ab, ao, rfl⟩ : ∃ ab ao, Al = some ⟨ab, ao, none⟩ := by
              obtain ⟨vs, hc, hr⟩ := LL.out.now
              have hl := hr.len
              have hsz : (Kd.slice Kd.byte).sz = 1 := rfl
              obtain ⟨b', o', e', _⟩ := hc (fun h => by rw [h, hsz] at hl; have := hql.out; simp at hl; omega)
              exact ⟨b', o', e'⟩
            have sub := LL.out.sub rfl (p := q) (e := ee) (by omega) (by rw [Hm'.out]; exact hee2)
            obtain ⟨sb, Hsb⟩ := au (((sall t).take ee).drop q)
            rw [Hsb.out] at sub
            have hsbl : sb.length = ee - q := by rw [← Hsb.out, List.length_drop, List.length_take, Hm'.out]; omega
            have Sub := Au.mk sub
            have hsm' := hsm
            clear sub hallne hsm
            have hq0 : (q : Int) ≤ ee := by omega
            have hem : (ee : Int) ≤ m := by omega
            have hec : (ee : Int) ≤ cl := by have := LL.out.1; rw [Hm'.out] at this; omega
            obtain ⟨vb, Hvb⟩ := au (bg ++ sb)
            obtain ⟨vl, Hvl⟩ := au vb.length
            have Hvl2 : Au (vl = bl + (ee - q)) := ⟨by rw [← Hvl.out, ← Hvb.out, List.length_append, Hbl.out, hsbl]⟩
            have hvl : vl ≤ 2000 := by have := Hvl2.out; omega
            have hfl : Au ([bg, sb].flatten = vb) := ⟨by rw [← Hvb.out]; simp⟩
            have hfl2 : Au ([bg, sb].flatten.length ≤ 1000000) := ⟨by rw [hfl.out, Hvl.out]; omega⟩
            have S4 := Au.mk ((sl_two (F := fun k => (w.heap.size ≤ k ∧ k < w1.heap.size) ∨ wr.heap.size ≤ k) (e := 36) Hbl.out hsbl (S3.out.mono (fun k hk => .inr hk)) (Sub.out.mono (fun k hk => .inl ⟨by have h1 := hk.1; have h2 := hb0.size; omega, by have h1 := hk.2; omega⟩))).mono (G := fun k => (w.heap.size ≤ k ∧ k < w1.heap.size) ∨ wr.heap.size ≤ k) (fun k hk => by rcases hk with hk | hk; exact hk.1; exact .inr (by omega)))
            go_wp2_with fail
            refine (concatR_calls [bg, sb] rfl hfl2.out hfl.out _ S4.out).mono ?_
            rintro e w5 ⟨A5, c5, rfl, s5, b5⟩
            rw [Hvl.out] at s5 ⊢
            have X5 := below_then (X2.alloc hz2 (.cells #[.slice A3 bl c3, .slice (some ⟨ab, ao + q, none⟩) (ee - q) (ee - q)] 36)) b5 (by simp; omega)
            have hz5 := b5.size
            have hb5 := below_then Hb.out X5 Hb.out.size
            rw [World.size_alloc] at hz5 s5
            have J5 := Au.mk (blk_below HJ.out hb5 hgl)
            have S5 := Au.mk s5
            obtain ⟨ov, Hov⟩ := au (vl % s.b.toNat)
            have hrem : IntKind.i64.wrap ((vl : Int).tmod s.b) = (ov : Int) := by
              obtain ⟨B, hB⟩ : ∃ B : Nat, s.b = (B : Int) := ⟨s.b.toNat, by omega⟩
              have h1 : vl % B ≤ vl := Nat.mod_le _ _
              rw [Int.tmod_eq_emod_of_nonneg (by omega), hB, ← Int.natCast_emod, IntKind.wrap_i64, ← Hov.out, hB, Int.toNat_natCast]
              omega
            have hrem2 : (vl : Int) % s.b = (ov : Int) := by
              obtain ⟨B, hB⟩ : ∃ B : Nat, s.b = (B : Int) := ⟨s.b.toNat, by omega⟩
              rw [hB, ← Int.natCast_emod, ← Hov.out, hB, Int.toNat_natCast]
            have hb0' : (s.b == 0) = false := by rw [beq_eq_false_iff_ne]; omega
            obtain ⟨pa, Hpa⟩ := au (ee == m)
            have hpa : ((ee : Int) == (m : Int)) = pa := by rw [← Hpa.out, Bool.eq_iff_iff, beq_iff_eq, beq_iff_eq]; omega
            obtain ⟨pb, Hpb⟩ := au (decide (0 < ov))
            have hpb : decide ((0 : Int) < ov) = pb := by rw [← Hpb.out, decide_eq_decide]; omega
            clear f1 f4 b5 s5 hb2
            have f1 := blk_cell J5.out 1 rfl
            have f4 := blk_cell J5.out 4 rfl
            rw [Hm'.out] at f4
            have hstep := go_step hql.out Hcap.out.1 (by rw [Hcap.out.2.1, Hcap.out.2.2, Hrm.out, Hn1.out, Hbg.out, Hbl.out]; exact hsm')
            have hend : endAt (sall t) (fun pos n => vbeg t s pos n) s.b.toNat cap.toNat i q = ee := by
              unfold endAt
              rw [Hcap.out.2.1, Hcap.out.2.2, Hrm.out, Hn1.out]
              show min (sall t).length (q + (rm - (vbeg t s (q : Nat) (n1 : Int)).length)) = ee
              rw [Hbg.out, Hbl.out, Hm'.out, Hlf.out, Hql.out]
              exact Hee.out
            have hbare : bare (sall t) (fun pos n => vbeg t s pos n) s.b.toNat cap.toNat i q = vb := by
              unfold bare
              rw [hend, Hsb.out, Hn1.out]
              show vbeg t s (q : Nat) (n1 : Int) ++ sb = vb
              rw [Hbg.out]
              exact Hvb.out
            unfold volAt at hstep
            rw [hend, hbare, Hvl.out, Hov.out, Hm'.out] at hstep
            clear hend hbare
            by_cases hpad : pa = true ∧ pb = true
            · obtain ⟨rfl, rfl⟩ := hpad
              have hov0 : 0 < ov := of_decide_eq_true Hpb.out
              obtain ⟨zn, Hzn⟩ := au (s.b.toNat - ov)
              obtain ⟨zs, Hzs⟩ := au (zblocks zn)
              have hovb : ov < s.b.toNat := by rw [← Hov.out]; exact Nat.mod_lt _ (by omega)
              have hw7 : IntKind.i64.wrap (s.b - ov) = (zn : Int) := by rw [IntKind.wrap_i64]; have := Hzn.out; omega
              have hznb : zn ≤ 20 := by have := Hzn.out; omega
              have hzl : zs.length ≤ 20 := by rw [← Hzs.out]; unfold zblocks; split; simp; simp; omega
              have hgo : Au (go t s i q = ((vb ++ zs) :: (go t s (i + 1) ee).1, (go t s (i + 1) ee).2)) := ⟨by
                rw [hstep, if_pos ⟨by simpa using Hpa.out, by simpa using Hpb.out⟩, Hzn.out, Hzs.out]⟩
              obtain ⟨vl2, Hvl2'⟩ := au (vb ++ zs).length
              have hzn6 : zn ≤ 1000000 := by omega
              have Hzc := Au.mk (fun W : World => zblocks_calls (n := zn) (l := zs) Hzs.out hzn6 W)
              clear hstep hzn6
              go_wp2_with fail
              refine (Hzc.out _).mono ?_
              rintro e w6 ⟨A6, c6, rfl, s6, b6⟩
              have hz6 := b6.size
              have X6 := below_then X5 b6 X5.size
              have S6 := Au.mk (S5.out.below b6)
              have hownv : Au (∀ g', (Value.slice A5 vl c5).ownBlock = some g' → w2.heap.size + 1 ≤ g' ∧ g' < w5.heap.size) := ⟨fun g' hg' => by
                obtain ⟨vs, hrow⟩ := S5.out.row
                exact hrow.block g' hg'⟩
              have hvv : Au (vb.length + zs.length ≤ maxLen ∧ (vb.length + zs.length) * 24 ≤ 140737488355328) := ⟨by rw [Hvl.out]; simp only [maxLen]; omega⟩
              have Z6 := Au.mk s6
              clear b6 s6 f1 f4
              go_upto_region 19 with (at_builtin; refine wpList_append_rowD (d := Kd.slice Kd.byte) (G := fun k => ((w.heap.size ≤ k ∧ k < w1.heap.size) ∨ wr.heap.size ≤ k) ∧ k < w2.heap.size + 1) (F2 := fun k => w5.heap.size ≤ k) (base := w2.heap.size + 1) (xs := vb) (ys := zs) _ rfl etBlks _ _ rfl rfl S6.out rfl rfl Z6.out.els (fun k hk => .inr (by omega)) (fun g' hg' h => by have := hownv.out g' hg'; omega) hvv.out.1 hvv.out.2 (by omega) ?_; intro v7 w7 hr7 hg7 ho7; obtain ⟨A7, c7, rfl⟩ := hr7.form; have Hr7 := Au.mk hr7; have Hg7 := Au.mk hg7; clear hr7 hg7 ho7)
              have hg7 : w6.grownBy w7 (Value.slice A5 vl c5).ownBlock := Hg7.out
              have X7 := X6.grown hg7 X6.size (fun k hk => by have := hownv.out k hk; omega)
              have hz7 := hg7.size
              rw [Hvl2'.out] at Hr7
              have e7 : vb.length + zs.length = vl2 := by rw [← Hvl2'.out, List.length_append]
              rw [e7]
              clear e7
              have hown : Au (∀ g', (Value.slice Ao i co).ownBlock = some g' → ¬ ((w.heap.size ≤ g' ∧ g' < w1.heap.size) ∨ wr.heap.size ≤ g')) := ⟨fun g' hg' h => by
                obtain ⟨vs, hrow⟩ := HR.out.row
                have := hrow.block g' hg'
                omega⟩
              have hz1r := Hb.out.size
              have XX := Au.mk (X7)
              have hzz := XX.out.size
              have RR := Au.mk ((HR.out.below XX.out).alloc (.cells #[.slice A7 vl2 c7] 36))
              obtain ⟨A9, c9, h9, s9⟩ := Hr7.out.sl
              have EE : Au (Els KBk (w7.alloc (.cells #[.slice A7 vl2 c7] 36)) (fun k => (w.heap.size ≤ k ∧ k < w1.heap.size) ∨ wr.heap.size ≤ k) (some ⟨w7.heap.size, 0, none⟩) [(vb ++ zs)]) := ⟨by
                rw [Hvl2'.out] at h9
                cases h9
                exact (sl_one (d := Kd.slice Kd.byte) (e := 36) Hvl2'.out s9).els.mono (fun k hk => by
                  rcases hk with ⟨hk | hk, hk2⟩ | hk
                  · exact hk.1
                  · exact .inr (by omega)
                  · exact .inr (by omega))⟩
              have hVl := Hv.out
              have h63 : Au (V.length + [(vb ++ zs)].length ≤ maxLen ∧ (V.length + [(vb ++ zs)].length) * 24 ≤ 140737488355328 ∧ w1.heap.size ≤ (w7.alloc (.cells #[.slice A7 vl2 c7] 36)).heap.size) := ⟨by
                have : [(vb ++ zs)].length = 1 := rfl
                rw [this, World.size_alloc]
                simp only [maxLen]
                omega⟩
              have hlow : Au (∀ k, (Value.slice Ao i co).ownBlock = some k → w1.heap.size ≤ k) := ⟨fun k hk => HR.out.low _ _ hk⟩
              have hVs : Au ((V ++ [(vb ++ zs)]) ++ (go t s (i + 1) ee).1 = l ∧ (go t s (i + 1) ee).2 = en) := ⟨by
                have h := HV.out
                rw [hgo.out] at h
                injection h with h1 h2
                exact ⟨by rw [← h1, List.append_assoc]; rfl, h2⟩⟩
              clear hVl h9 s9
              go_wp2_with (at_builtin; refine wpList_append_rowD (d := KBk) (G := fun k => w.heap.size ≤ k ∧ k < w1.heap.size) (F2 := fun k => (w.heap.size ≤ k ∧ k < w1.heap.size) ∨ wr.heap.size ≤ k) (base := w1.heap.size) (xs := V) (ys := [(vb ++ zs)]) _ rfl etVols _ _ rfl rfl RR.out rfl rfl EE.out (fun k hk => by rcases hk with hk | hk; exact .inl hk; exact .inr (by omega)) hown.out h63.out.1 h63.out.2.1 h63.out.2.2 ?_; intro v' w9 hr9 hg9 ho9)
              go_roundw
              case rel =>
                have hg9' : (w7.alloc (.cells #[.slice A7 vl2 c7] 36)).grownBy w9 (Value.slice Ao i co).ownBlock := hg9
                exact ⟨i + 1, ee, V ++ [(vb ++ zs)], by omega, by first | rfl | go_num, by rw [List.length_append, Hv.out]; rfl, hee2, ⟨by rw [hVs.out.1, hVs.out.2]⟩, ⟨hr9⟩, ((below_then Hb.out XX.out Hb.out.size).alloc (by omega) _).grown hg9' (by rw [World.size_alloc]; omega) hlow.out⟩
              case measure => simp [intOf]; omega
            · have hgo : Au (go t s i q = (vb :: (go t s (i + 1) ee).1, (go t s (i + 1) ee).2)) := ⟨by
                rw [hstep, if_neg (fun h => hpad ⟨by rw [← Hpa.out]; simpa using h.1, by rw [← Hpb.out]; simpa using h.2⟩)]⟩
              clear hstep
              rcases pa with _ | _
              · cases pb
                all_goals
                  go_upto_region 19 with fail
                  have hown : Au (∀ g', (Value.slice Ao i co).ownBlock = some g' → ¬ ((w.heap.size ≤ g' ∧ g' < w1.heap.size) ∨ wr.heap.size ≤ g')) := ⟨fun g' hg' h => by
                    obtain ⟨vs, hrow⟩ := HR.out.row
                    have := hrow.block g' hg'
                    omega⟩
                  have hz1r := Hb.out.size
                  have XX := Au.mk (X5)
                  have hzz := XX.out.size
                  have RR := Au.mk ((HR.out.below XX.out).alloc (.cells #[.slice A5 vl c5] 36))
                  obtain ⟨A9, c9, h9, s9⟩ := S5.out.sl
                  have EE : Au (Els KBk (w5.alloc (.cells #[.slice A5 vl c5] 36)) (fun k => (w.heap.size ≤ k ∧ k < w1.heap.size) ∨ wr.heap.size ≤ k) (some ⟨w5.heap.size, 0, none⟩) [vb]) := ⟨by
                    rw [Hvl.out] at h9
                    cases h9
                    exact (sl_one (d := Kd.slice Kd.byte) (e := 36) Hvl.out s9).els.mono (fun k hk => by
                      rcases hk with ⟨hk | hk, hk2⟩ | hk
                      · exact hk.1
                      · exact .inr (by omega)
                      · exact .inr (by omega))⟩
                  have hVl := Hv.out
                  have h63 : Au (V.length + [vb].length ≤ maxLen ∧ (V.length + [vb].length) * 24 ≤ 140737488355328 ∧ w1.heap.size ≤ (w5.alloc (.cells #[.slice A5 vl c5] 36)).heap.size) := ⟨by
                    have : [vb].length = 1 := rfl
                    rw [this, World.size_alloc]
                    simp only [maxLen]
                    omega⟩
                  have hlow : Au (∀ k, (Value.slice Ao i co).ownBlock = some k → w1.heap.size ≤ k) := ⟨fun k hk => HR.out.low _ _ hk⟩
                  have hVs : Au ((V ++ [vb]) ++ (go t s (i + 1) ee).1 = l ∧ (go t s (i + 1) ee).2 = en) := ⟨by
                    have h := HV.out
                    rw [hgo.out] at h
                    injection h with h1 h2
                    exact ⟨by rw [← h1, List.append_assoc]; rfl, h2⟩⟩
                  clear hVl h9 s9
                  go_wp2_with (at_builtin; refine wpList_append_rowD (d := KBk) (G := fun k => w.heap.size ≤ k ∧ k < w1.heap.size) (F2 := fun k => (w.heap.size ≤ k ∧ k < w1.heap.size) ∨ wr.heap.size ≤ k) (base := w1.heap.size) (xs := V) (ys := [vb]) _ rfl etVols _ _ rfl rfl RR.out rfl rfl EE.out (fun k hk => by rcases hk with hk | hk; exact .inl hk; exact .inr (by omega)) hown.out h63.out.1 h63.out.2.1 h63.out.2.2 ?_; intro v' w9 hr9 hg9 ho9)
                  go_roundw
                  case rel =>
                    have hg9' : (w5.alloc (.cells #[.slice A5 vl c5] 36)).grownBy w9 (Value.slice Ao i co).ownBlock := hg9
                    exact ⟨i + 1, ee, V ++ [vb], by omega, by first | rfl | go_num, by rw [List.length_append, Hv.out]; rfl, hee2, ⟨by rw [hVs.out.1, hVs.out.2]⟩, ⟨hr9⟩, ((below_then Hb.out XX.out Hb.out.size).alloc (by omega) _).grown hg9' (by rw [World.size_alloc]; omega) hlow.out⟩
                  case measure => simp [intOf]; omega
              · rcases pb with _ | _
                · have hov0 : ¬ 0 < ov := of_decide_eq_false Hpb.out
                  go_upto_region 19 with fail
                  have hown : Au (∀ g', (Value.slice Ao i co).ownBlock = some g' → ¬ ((w.heap.size ≤ g' ∧ g' < w1.heap.size) ∨ wr.heap.size ≤ g')) := ⟨fun g' hg' h => by
                    obtain ⟨vs, hrow⟩ := HR.out.row
                    have := hrow.block g' hg'
                    omega⟩
                  have hz1r := Hb.out.size
                  have XX := Au.mk (X5)
                  have hzz := XX.out.size
                  have RR := Au.mk ((HR.out.below XX.out).alloc (.cells #[.slice A5 vl c5] 36))
                  obtain ⟨A9, c9, h9, s9⟩ := S5.out.sl
                  have EE : Au (Els KBk (w5.alloc (.cells #[.slice A5 vl c5] 36)) (fun k => (w.heap.size ≤ k ∧ k < w1.heap.size) ∨ wr.heap.size ≤ k) (some ⟨w5.heap.size, 0, none⟩) [vb]) := ⟨by
                    rw [Hvl.out] at h9
                    cases h9
                    exact (sl_one (d := Kd.slice Kd.byte) (e := 36) Hvl.out s9).els.mono (fun k hk => by
                      rcases hk with ⟨hk | hk, hk2⟩ | hk
                      · exact hk.1
                      · exact .inr (by omega)
                      · exact .inr (by omega))⟩
                  have hVl := Hv.out
                  have h63 : Au (V.length + [vb].length ≤ maxLen ∧ (V.length + [vb].length) * 24 ≤ 140737488355328 ∧ w1.heap.size ≤ (w5.alloc (.cells #[.slice A5 vl c5] 36)).heap.size) := ⟨by
                    have : [vb].length = 1 := rfl
                    rw [this, World.size_alloc]
                    simp only [maxLen]
                    omega⟩
                  have hlow : Au (∀ k, (Value.slice Ao i co).ownBlock = some k → w1.heap.size ≤ k) := ⟨fun k hk => HR.out.low _ _ hk⟩
                  have hVs : Au ((V ++ [vb]) ++ (go t s (i + 1) ee).1 = l ∧ (go t s (i + 1) ee).2 = en) := ⟨by
                    have h := HV.out
                    rw [hgo.out] at h
                    injection h with h1 h2
                    exact ⟨by rw [← h1, List.append_assoc]; rfl, h2⟩⟩
                  clear hVl h9 s9
                  go_wp2_with (at_builtin; refine wpList_append_rowD (d := KBk) (G := fun k => w.heap.size ≤ k ∧ k < w1.heap.size) (F2 := fun k => (w.heap.size ≤ k ∧ k < w1.heap.size) ∨ wr.heap.size ≤ k) (base := w1.heap.size) (xs := V) (ys := [vb]) _ rfl etVols _ _ rfl rfl RR.out rfl rfl EE.out (fun k hk => by rcases hk with hk | hk; exact .inl hk; exact .inr (by omega)) hown.out h63.out.1 h63.out.2.1 h63.out.2.2 ?_; intro v' w9 hr9 hg9 ho9)
                  go_roundw
                  case rel =>
                    have hg9' : (w5.alloc (.cells #[.slice A5 vl c5] 36)).grownBy w9 (Value.slice Ao i co).ownBlock := hg9
                    exact ⟨i + 1, ee, V ++ [vb], by omega, by first | rfl | go_num, by rw [List.length_append, Hv.out]; rfl, hee2, ⟨by rw [hVs.out.1, hVs.out.2]⟩, ⟨hr9⟩, ((below_then Hb.out XX.out Hb.out.size).alloc (by omega) _).grown hg9' (by rw [World.size_alloc]; omega) hlow.out⟩
                  case measure => simp [intOf]; omega
                · exact absurd ⟨rfl, rfl⟩ hpad
      · have hlen : Au (V = l ∧ 0 = en) := ⟨by
          have := HV.out
          rw [go_done (by rw [Hm'.out]; exact hqm)] at this
          simpa using this⟩
        have hqmi : (m : Int) ≤ q := by omega
        obtain ⟨A3, c3, h3, s3⟩ := HR.out.sl
        have hbw := Au.mk (e1.trans (hb.mono h1w))
        have S3 := Au.mk s3
        have H3 := Au.mk h3
        clear s3 h3 hb hqm
        go_wp2_with fail
        go_ret2
        obtain ⟨rfl, rfl⟩ := hlen.out
        have h4 : Value.slice Ao i co = .slice A3 V.length c3 := H3.out
        exact ⟨A3, c3, by rw [← h4]; rfl, S3.out.mono (fun k hk => by rcases hk with hk | hk <;> omega), hbw.out⟩
end Go.Proofs.YtldhcknjpmbgnaaGreatDoor.Rk

namespace Go.Proofs.YtldhcknjpmbgnaaGreatDoor.Rk
open Go.RowKit Go.Shelf
set_option linter.unusedVariables false
set_option linter.unusedSimpArgs false
set_option maxRecDepth 100000

def fewN (n : Nd) : Bool := decide (n.path.length ≤ 400) && (decide (n.link.length ≤ 400) && decide (n.data.length ≤ 5000))
def fewT (t : List Nd) : Bool := (t.take 31).all fewN && decide (t.length ≤ 30)
def fewS (s : St) : Bool := decide (s.label.length ≤ 200) && decide (s.caps.length ≤ 20)
theorem few_S {n : Nd} (h : fewN n = true) : n.S := by
  unfold fewN at h
  simp only [Bool.and_eq_true, decide_eq_true_eq] at h
  exact ⟨by omega, by omega, by omega⟩
theorem few_all {t : List Nd} (h : fewT t = true) : AllS t ∧ t.length ≤ 30 := by
  unfold fewT at h
  simp only [Bool.and_eq_true, decide_eq_true_eq] at h
  rw [List.take_of_length_le (by omega), List.all_eq_true] at h
  exact ⟨fun n hn => few_S (h.1 n hn), h.2⟩
theorem few05_calls (n : Nd) (hR : n.R) {r : Bool} (hr : fewN n = r) (w : World) : Calls Tryz.prog 34 #[n.agg] w fun e w' => e = .returned (.bool r) ∧ Below w.heap.size w w' := by
  have h0 : (ofL n.path).size = n.path.length := ofL_size _
  have h1 : (ofL n.link).size = n.link.length := ofL_size _
  have h2 : (ofL n.data).size = n.data.length := ofL_size _
  obtain ⟨a, Ha⟩ := au (decide (n.path.length ≤ 400))
  obtain ⟨b, Hb⟩ := au (decide (n.link.length ≤ 400))
  obtain ⟨d, Hd⟩ := au (decide (n.data.length ≤ 5000))
  have Hr : Au ((a && (b && d)) = r) := ⟨by rw [← hr, fewN, Ha.out, Hb.out, Hd.out]⟩
  have ha : decide ((n.path.length : Int) ≤ 400) = a := by rw [← Ha.out, decide_eq_decide]; omega
  have hb : decide ((n.link.length : Int) ≤ 400) = b := by rw [← Hb.out, decide_eq_decide]; omega
  have hd : decide ((n.data.length : Int) ≤ 5000) = d := by rw [← Hd.out, decide_eq_decide]; omega
  have B0 := Au.mk (nd_box w n)
  have hb0 := (Below.refl w.heap.size w).alloc (Nat.le_refl _) (.cells n.cells.toArray 23)
  obtain ⟨f0, f1, f2, f3, f4, f5, f6, f7⟩ := nd_cells n B0.out
  unfold Nd.agg
  unfold Nd.cells at f0 f1 f2 f3 f4 f5 f6 f7 hb0
  clear hr hR
  cases a
  · go_enter Tryz.func34, Tryz.ntmps34
    go_wp2_with fail
    go_ret
    exact ⟨ret_bool (by rw [← Hr.out]; rfl), hb0⟩
  · cases b
    · go_enter Tryz.func34, Tryz.ntmps34
      go_wp2_with fail
      go_ret
      exact ⟨ret_bool (by rw [← Hr.out]; rfl), hb0⟩
    · cases d
      all_goals
        go_enter Tryz.func34, Tryz.ntmps34
        go_wp2_with fail
        go_ret
        exact ⟨ret_bool (by rw [← Hr.out]; rfl), hb0⟩
theorem few16_calls (s : St) {r : Bool} (hr : fewS s = r) {A : Option Addr} {c : Nat} (w : World) : Calls Tryz.prog 22 #[s.agg A c] w fun e w' => e = .returned (.bool r) ∧ Below w.heap.size w w' := by
  have h0 : (ofL s.label).size = s.label.length := ofL_size _
  obtain ⟨a, Ha⟩ := au (decide (s.label.length ≤ 200))
  obtain ⟨b, Hb⟩ := au (decide (s.caps.length ≤ 20))
  have Hr : Au ((a && b) = r) := ⟨by rw [← hr, fewS, Ha.out, Hb.out]⟩
  have ha : decide ((s.label.length : Int) ≤ 200) = a := by rw [← Ha.out, decide_eq_decide]; omega
  have hb : decide ((s.caps.length : Int) ≤ 20) = b := by rw [← Hb.out, decide_eq_decide]; omega
  have B0 : Au ((w.alloc (.cells (s.cells A c).toArray 50)).heap[w.heap.size]? = some (.cells (s.cells A c).toArray 50 (0, 0))) := ⟨heap_alloc_new _ _⟩
  have hb0 := (Below.refl w.heap.size w).alloc (Nat.le_refl _) (.cells (s.cells A c).toArray 50)
  have f0 := blk_cell B0.out 0 rfl
  have f1 := blk_cell B0.out 1 rfl
  have f2 := blk_cell B0.out 2 rfl
  unfold St.agg
  unfold St.cells at f0 f1 f2 hb0 B0
  clear hr
  cases a <;> cases b
  all_goals
    go_enter Tryz.func22, Tryz.ntmps22
    go_wp2_with fail
    go_ret
    exact ⟨ret_bool (by rw [← Hr.out]; rfl), hb0⟩
set_option maxHeartbeats 1000000 in
theorem few06_calls (t : List Nd) {r : Bool} (hr : fewT t = r) {A : Option Addr} {c : Nat} {F : Nat → Prop} (w : World) (hA : Sl Kd.nd w F A c t) : Calls Tryz.prog 21 #[.slice A t.length c] w fun e w' => e = .returned (.bool r) ∧ Below w.heap.size w w' := by
  have Hr := Au.mk hr
  have hle := hA.le
  have HA := Au.mk hA.old
  clear hr hA
  go_enter Tryz.func21, Tryz.ntmps21
  go_wp2_with fail
  go_loopw [3] (fun i wr => ∃ k : Nat, k ≤ t.length ∧ k ≤ 31 ∧ i = .int .i64 k ∧ Au ((t.take k).all fewN = true) ∧ Below w.heap.size w wr) (fun i _ => 31 - (intOf i).toNat)
  case atStart => exact ⟨0, Nat.zero_le _, by omega, rfl, ⟨rfl⟩, Below.refl _ _⟩
  case round =>
    obtain ⟨k, hk, hk31, rfl, Hall, hb⟩ := hrel
    by_cases hlt : k < t.length
    · have hlti : (k : Int) < t.length := by omega
      by_cases h31 : k < 31
      · have h30 : (k : Int) ≤ 30 := by omega
        obtain ⟨n, hn⟩ : ∃ n, t[k]? = some n := ⟨_, List.getElem?_eq_getElem hlt⟩
        obtain ⟨hR, b, o, rfl, f0, f1, f2, f3, f4, f5, f6, f7⟩ := (HA.out.below hb).nd_at hn
        obtain ⟨d, Hd⟩ := au (fewN n)
        have Hc := Au.mk (fun W : World => few05_calls n hR Hd.out W)
        have Hn := Au.mk hn
        unfold Nd.agg at Hc
        clear hn hR
        cases d
        · have hf : r = false := by
            rw [← Hr.out]
            unfold fewT
            have : (t.take 31).all fewN = false := by
              rw [List.all_eq_false]
              refine ⟨n, ?_, by rw [Hd.out]; simp⟩
              exact List.mem_of_getElem? (i := k) (by rw [List.getElem?_take, if_pos h31]; exact Hn.out)
            rw [this]; rfl
          subst hf
          go_wp2_with (go_at_call 34; refine (Hc.out _).mono ?_; rintro e w2 ⟨rfl, b2⟩; have e2 := below_then hb b2 hb.size)
          go_ret
          exact ⟨rfl, e2⟩
        · go_wp2_with (go_at_call 34; refine (Hc.out _).mono ?_; rintro e w2 ⟨rfl, b2⟩; have e2 := below_then hb b2 hb.size)
          go_roundw
          case rel =>
            refine ⟨k + 1, by omega, by omega, by go_num, ⟨?_⟩, e2⟩
            rw [take_snocX Hn.out, List.all_append, Hall.out]
            simp [Hd.out]
          case measure => simp [intOf]; omega
      · have h30 : ¬ ((k : Int) ≤ 30) := by omega
        have hf : false = r := by
          rw [← Hr.out]
          unfold fewT
          rw [decide_eq_false (by omega), Bool.and_false]
        have hl : decide ((t.length : Int) ≤ 30) = false := by simp; omega
        subst hf
        go_wp2_with fail
        go_ret
        exact ⟨rfl, hb⟩
    · have hkl : k = t.length := by omega
      obtain ⟨d, Hd⟩ := au (decide (t.length ≤ 30))
      have hd : decide ((t.length : Int) ≤ 30) = d := by rw [← Hd.out, decide_eq_decide]; omega
      have hf : d = r := by
        have := Hall.out
        rw [hkl, List.take_length] at this
        rw [← Hr.out]
        unfold fewT
        rw [List.take_of_length_le (by omega), this, Bool.true_and, Hd.out]
      subst hf
      have hge : ¬ ((k : Int) < t.length) := by omega
      clear hlt hkl
      go_wp2_with fail
      go_ret
      exact ⟨rfl, hb⟩
end Go.Proofs.YtldhcknjpmbgnaaGreatDoor.Rk

namespace Go.Proofs.YtldhcknjpmbgnaaGreatDoor.Rk
open Go.RowKit Go.Shelf
set_option linter.unusedVariables false
set_option linter.unusedSimpArgs false
set_option maxRecDepth 100000

def s0 : St := ⟨[120], 2, [2]⟩
theorem s0_may : smay s0 = true := by decide
theorem t0_may : tmay [] = true := rfl
theorem vbeg0 : ∃ p, vbeg [] s0 0 1 = [p] := by
  have h : whereB [] 0 = (0, -1) := whereB_neg (by decide) (by decide)
  refine ⟨(lput [120] 1).getD [], ?_⟩
  unfold vbeg
  rw [h]
  rfl
theorem split0 : ∃ v, vsplit [] s0 = ([v], 0) ∧ v.length = 4 := by
  obtain ⟨p, hp⟩ := vbeg0
  have hall : sall [] = [zeros 512, zeros 512] := rfl
  refine ⟨[p, zeros 512, zeros 512] ++ zblocks 1, ?_, by simp [zblocks]⟩
  unfold vsplit
  rw [if_pos (by rw [t0_may, s0_may]; rfl), hall]
  have hc : s0.caps.map Int.toNat = [2] := rfl
  have hB : s0.b.toNat = 2 := rfl
  rw [hc, hB]
  have hp' : vbeg [] s0 ((0 : Nat) : Int) ((0 + 1 : Nat) : Int) = [p] := hp
  rw [sgo_step (by simp) (by show ¬ 2 * 2 ≤ (vbeg [] s0 ((0 : Nat) : Int) ((0 + 1 : Nat) : Int)).length; rw [hp']; simp)]
  have he : endAt [zeros 512, zeros 512] (fun pos n => vbeg [] s0 (pos : Nat) (n : Nat)) 2 2 0 0 = 2 := by
    unfold endAt
    show min 2 (0 + (2 * 2 - (vbeg [] s0 ((0 : Nat) : Int) ((0 + 1 : Nat) : Int)).length)) = 2
    rw [hp']; rfl
  have hb : bare [zeros 512, zeros 512] (fun pos n => vbeg [] s0 (pos : Nat) (n : Nat)) 2 2 0 0 = [p, zeros 512, zeros 512] := by
    unfold bare
    rw [he]
    show vbeg [] s0 ((0 : Nat) : Int) ((0 + 1 : Nat) : Int) ++ _ = _
    rw [hp']; rfl
  have hv : volAt [zeros 512, zeros 512] (fun pos n => vbeg [] s0 (pos : Nat) (n : Nat)) zblocks 2 2 0 0 = [p, zeros 512, zeros 512] ++ zblocks 1 := by
    unfold volAt
    have h3 : [p, zeros 512, zeros 512].length = 3 := by simp
    rw [he, hb, if_pos ⟨rfl, by simp⟩, h3]
  rw [he, hv, sgo_done (by simp)]
theorem begin0 : ∃ p, vbeginO [] s0 0 1 = some [p] := by
  obtain ⟨p, hp⟩ := vbeg0
  refine ⟨p, ?_⟩
  unfold vbeginO
  rw [if_pos (by rw [t0_may, s0_may]; rfl)]
  unfold vbegin
  rw [if_pos ⟨by rw [lput_yes (by decide)]; rfl, by decide, by decide⟩, hp]
theorem needs0 : vneeds [] s0 = 1 := by
  obtain ⟨v, hv, _⟩ := split0
  unfold vneeds
  rw [hv]; rfl
end Go.Proofs.YtldhcknjpmbgnaaGreatDoor.Rk
