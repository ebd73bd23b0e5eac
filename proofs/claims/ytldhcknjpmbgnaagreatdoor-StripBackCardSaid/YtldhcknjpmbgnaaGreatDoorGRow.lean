/- GRow: Row Row2 RowA -/
import Derived.Test.YtldhcknjpmbgnaaGreatDoorGBase
import Derived.ProofKit
import Derived.Carry
import Derived.ChangeSame
import Derived.ChangeMaps5
import Derived.Test.YtldhcknjpmbgnaaGreatDoorProg
set_option maxRecDepth 100000
/- From arguments that can be read as data to the walks' words; the step behind a walk that has left all as it was. -/
namespace Go.Proofs.YtldhcknjpmbgnaaGreatDoor.Rk
open Go.RowKit Go.WideShapes Go.ChangeShapes
set_option linter.unusedVariables false
set_option linter.unusedSimpArgs false

def Opens {α : Type} (P : Program) (t : TypeId) (d : Kd α) : Prop := ∀ {H : Type} {enc : TypeId × Value → H} {w : World} {base : Nat} {sp : Nat → Bool} {hd : Bool} {fuel : Nat} {cs : List Value} {x : DataW H × List MemPlace},
  DataW.trod enc P w base sp hd fuel t cs = some x → ∃ a, d.K w a cs

theorem mapM_range_at {β : Type} {f : Nat → Option β} : ∀ {n : Nat} {r : List β}, (List.range n).mapM f = some r → ∀ i, i < n → ∃ y, f i = some y ∧ r[i]? = some y := by
  intro n r h i hi
  have key : ∀ {l : List Nat} {r : List β}, l.mapM f = some r → ∀ i (hi : i < l.length), ∃ y, f l[i] = some y ∧ r[i]? = some y := by
    intro l
    induction l with
    | nil => intro r _ i hi; simp at hi
    | cons a l ih =>
      intro r h i hi
      simp only [List.mapM_cons, Option.bind_eq_bind, Option.bind_eq_some_iff, Option.pure_def, Option.some.injEq] at h
      obtain ⟨b, hb, bs, hbs, rfl⟩ := h
      cases i with
      | zero => exact ⟨b, hb, rfl⟩
      | succ i => exact ih hbs i (by simpa using hi)
  obtain ⟨y, h1, h2⟩ := key h i (by simpa using hi)
  exact ⟨y, by simpa using h1, h2⟩

section
variable {P : Program} {t e : TypeId} {α : Type} {d : Kd α}
theorem opens_byte (ht : P.underlying t = some (.int .u8)) : Opens P t Kd.byte := by
  intro H enc w base sp hd fuel cs x h
  obtain ⟨n, h1, _, hw⟩ := DataW.trod_int ht h
  have hb : 0 ≤ n ∧ n < 256 := by
    have : IntKind.u8.min ≤ n ∧ n ≤ IntKind.u8.max := by simpa [Lit.wf] using hw
    have e1 : IntKind.u8.min = 0 := by decide
    have e2 : IntKind.u8.max = 255 := by decide
    rw [e1, e2] at this; omega
  refine ⟨UInt8.ofNat n.toNat, ?_⟩
  show cs = [_]
  rw [h1]
  congr 2
  simp; omega
theorem wf64 {n : Int} (hw : (Lit.int .i64 n).wf = true) : R64 n := by
  have : IntKind.i64.min ≤ n ∧ n ≤ IntKind.i64.max := by simpa [Lit.wf] using hw
  have e1 : IntKind.i64.min = -9223372036854775808 := by decide
  have e2 : IntKind.i64.max = 9223372036854775807 := by decide
  rw [e1, e2] at this; exact ⟨by omega, by omega⟩
theorem opens_int (ht : P.underlying t = some (.int .i64)) : Opens P t Kd.int := by
  intro H enc w base sp hd fuel cs x h
  obtain ⟨n, h1, _, hw⟩ := DataW.trod_int ht h
  exact ⟨n, h1, wf64 hw⟩
theorem opens_slice (ht : P.underlying t = some (.slice e)) (he : Opens P e d) (hs : P.cellsOf e = d.sz) (hp : 0 < d.sz) : Opens P t (Kd.slice d) := by
  intro H enc w base sp hd fuel cs x h
  rcases DataW.trod_slice ht h with ⟨rfl, _⟩ | ⟨a, len, cap, elems, rest, n, _, rfl, _, hb, hlc, hcm, hel, hat, _⟩
  · exact ⟨[], none, 0, rfl, Nat.le_refl _, by decide, [], Cells.nil _ _, rfl⟩
  · have hm : cap ≤ 9223372036854775807 := by simpa [maxLen] using hcm
    have hone : ∀ i, i < len → ∃ y c, d.K w y c ∧ ∀ j, j < d.sz → w.cell? (a.add (i * d.sz + j)) = c[j]? := by
      intro i hi
      have h1 := hat i hi
      rw [List.getElem?_eq_getElem (by omega), Option.bind_eq_some_iff] at h1
      obtain ⟨c, hc, hy⟩ := h1
      obtain ⟨y, hK⟩ := he hy
      obtain ⟨_, hlen, hcell⟩ := World.cells?_some hc
      rw [hs] at hlen hcell
      exact ⟨y, c, hK, fun j hj => by rw [← add_add]; exact hcell j hj⟩
    have key : ∀ k, k ≤ len → ∃ (xs : List α) (vs : List Value), xs.length = k ∧ Reps d w xs vs ∧ ∀ j u, vs[j]? = some u → w.cell? (a.add j) = some u := by
      intro k
      induction k with
      | zero => intro _; exact ⟨[], [], rfl, rfl, by simp⟩
      | succ k ih =>
        intro hk
        obtain ⟨xs, vs, h1, h2, h3⟩ := ih (by omega)
        obtain ⟨y, c, hK, hc⟩ := hone k (by omega)
        refine ⟨xs ++ [y], vs ++ c, by simp [h1], h2.append (Reps.single hK), fun j u hu => ?_⟩
        have hvl := h2.len
        rw [h1] at hvl
        rw [List.getElem?_append] at hu
        split at hu
        · exact h3 j u hu
        · rename_i hj
          have hj2 : j - vs.length < d.sz := by
            have := (List.getElem?_eq_some_iff.1 hu).1
            rwa [d.len hK] at this
          have := hc (j - vs.length) hj2
          rw [show k * d.sz + (j - vs.length) = j from by omega] at this
          rw [this]; exact hu
    obtain ⟨xs, vs, h1, h2, h3⟩ := key len (Nat.le_refl _)
    subst h1
    exact ⟨xs, some a, cap, rfl, hlc, hm, vs, Cells.of_add fun _ => ⟨a, rfl, h3⟩, h2⟩
end

section
variable {H : Type} {enc : TypeId × Value → H} {P : Program}
/-- An argument of a slice type. -/
theorem arg_slice {α : Type} {d : Kd α} {t : TypeId} {W : World} {base : Nat} {sp : Nat → Bool} {hd : Bool} {v : Value} {x : DataW H} {ps : List MemPlace} {r : Reach} {b0 : Nat} (e : TypeId) (ht : P.underlying t = some (.slice e)) (hval : Value.okWide P W r b0 t v)
    (ho : Opens P t (Kd.slice d)) (h : DataW.Trod enc P W base sp hd t v x ps) : ∃ (A : Option Addr) (c : Nat) (xs : List α), v = .slice A xs.length c ∧ Sl d W (fun _ => True) A c xs := by
  obtain ⟨a0, len, cap, rfl⟩ := okWide_slice ht hval
  obtain ⟨fuel, hf⟩ := h
  obtain ⟨xs, A, c, hcs, h1, h2, vs, hc, hr⟩ := ho hf
  simp [Value.cells] at hcs
  obtain ⟨rfl, rfl, rfl⟩ := hcs
  exact ⟨_, _, xs, rfl, Sl.mk_now h1 h2 hc hr⟩
theorem arg_int {t : TypeId} {W : World} {base : Nat} {sp : Nat → Bool} {hd : Bool} {v : Value} {x : DataW H} {ps : List MemPlace} {r : Reach} {b0 : Nat} (ht : P.underlying t = some (.int .i64)) (hval : Value.okWide P W r b0 t v)
    (h : DataW.Trod enc P W base sp hd t v x ps) : ∃ n, v = .int .i64 n ∧ R64 n := by
  obtain ⟨n, rfl, _, _, hw⟩ := open_int ht hval h
  exact ⟨n, rfl, wf64 hw⟩
theorem arg_byte {t : TypeId} {W : World} {base : Nat} {sp : Nat → Bool} {hd : Bool} {v : Value} {x : DataW H} {ps : List MemPlace} {r : Reach} {b0 : Nat} (ht : P.underlying t = some (.int .u8)) (hval : Value.okWide P W r b0 t v)
    (h : DataW.Trod enc P W base sp hd t v x ps) : ∃ n : UInt8, v = .int .u8 (n.toNat : Int) := by
  obtain ⟨n, rfl, _, _, hw⟩ := open_int ht hval h
  obtain ⟨fuel, hf⟩ := h
  obtain ⟨a, ha⟩ := opens_byte ht hf
  have : Value.int .u8 n = .int .u8 (a.toNat : Int) := by simpa [Value.cells] using (show _ = [_] from ha)
  exact ⟨a, this⟩

theorem trodAll_below (hl : laidOutB P = true) {W W' : World} (hb : Below W.heap.size W W') : ∀ {ts : List TypeId} {vs : List Value} {ds : List (DataW H)} {ps : List MemPlace}, (∀ t ∈ ts, P.readableRec t = true ∧ t < P.types.size) →
    (∀ x ∈ ps, x.block < W.heap.size) → DataW.TrodAll enc P W 0 (fun _ => true) true ts vs ds ps → DataW.TrodAll enc P W' 0 (fun b => decide (b < W.heap.size)) true ts vs ds ps
  | [], [], [], _, _, _, h => h
  | [], [], _ :: _, _, _, _, h => h.elim
  | [], _ :: _, _, _, _, _, h => h.elim
  | _ :: _, [], _, _, _, _, h => h.elim
  | _ :: _, _ :: _, [], _, _, _, h => h.elim
  | t :: ts, v :: vs, d :: ds, ps, ht, hlt, ⟨p, q, h1, h2, e⟩ => by
    subst e
    exact ⟨p, q, Below.trod hl (ht t List.mem_cons_self).1 (ht t List.mem_cons_self).2 h1 hb (fun x hx => hlt x (List.mem_append_left _ hx)), trodAll_below hl hb (fun t' ht' => ht t' (List.mem_cons_of_mem _ ht')) (fun x hx => hlt x (List.mem_append_right _ hx)) h2, rfl⟩
/-- The last step of a law's row: it has answered true, and what was there is as it was. -/
theorem law_post {f : Func} {s : ChangeSpec} {fresh handsOn : Bool} {W W' : World} {args : Array Value} {ds gs : List (DataW H)} {before : List MemPlace} {tb : TypeId}
    (hl : laidOutB P = true) (hW : DataW.Whole enc P f.params.toList s.vars false W args.toList ds gs before) (hv : s.vars = []) (hr : f.resultTypes = #[tb]) (htb : P.underlying tb = some .bool)
    (ht : ∀ t ∈ f.params.toList, P.readableRec t = true ∧ t < P.types.size) (hfn : s.fn H (ds ++ []) = { results := [.lit (.bool true)], args := ds }) (hb : Below W.heap.size W W') :
    s.post enc P f false fresh handsOn false W args (.bool true) W' := by
  have hlt : ∀ p ∈ before, p.block < W.heap.size := fun p hp => hW.lt p hp
  have hW' := hW
  obtain ⟨p, q, hA, hV, rfl, _, _⟩ := hW'
  have hq : q = [] ∧ gs = [] := by
    rw [hv] at hV
    cases gs with
    | nil => exact ⟨hV, rfl⟩
    | cons g gs => exact hV.elim
  obtain ⟨rfl, rfl⟩ := hq
  refine ⟨ds, [], _, [], p, [], hW, ?_, ?_, ?_, World.keptBut_mono (fun x hx => ⟨hx, ?_⟩) (hb.frame (· ∈ p ++ [])), fun h => by cases h⟩
  · rw [hfn, hr]
    exact ⟨[], [], ⟨1, by simp [DataW.trod, htb, Value.cells, Value.resultList]⟩, rfl, rfl⟩
  · rw [hfn]
    exact trodAll_below hl hb ht (fun x hx => hlt x (List.mem_append_left _ hx)) hA
  · rw [hv, hfn]; rfl
  · exact .inr (.inl (by simpa using hx))
end
end Go.Proofs.YtldhcknjpmbgnaaGreatDoor.Rk
/- Arguments: texts, structs. -/
namespace Go.Proofs.YtldhcknjpmbgnaaGreatDoor.Rk
open Go.RowKit Go.WideShapes Go.ChangeShapes Go.ChangeMaps
set_option linter.unusedVariables false
set_option linter.unusedSimpArgs false
theorem data_len (s : ByteArray) : s.data.toList.length = s.size := Array.length_toList
def Kd.str : Kd (List UInt8) := Kd.flatI 1 (fun l => [.string (ofL l)]) (fun l => l.length ≤ maxLen) (fun _ => rfl) (fun x u hu => by rw [List.mem_singleton.1 hu]; rfl)
section
variable {H : Type} {enc : TypeId × Value → H} {P : Program}
theorem arg_str {t : TypeId} {W : World} {base : Nat} {sp : Nat → Bool} {hd : Bool} {v : Value} {x : DataW H} {ps : List MemPlace} {r : Reach} {b0 : Nat} (ht : P.underlying t = some .string) (hval : Value.okWide P W r b0 t v)
    (h : DataW.Trod enc P W base sp hd t v x ps) : ∃ l : List UInt8, v = .string (ofL l) ∧ l.length ≤ maxLen := by
  obtain ⟨s, rfl, _, _, hs⟩ := open_string ht hval h
  refine ⟨s.data.toList, by rw [ofL_data], ?_⟩
  rw [data_len]; exact hs
theorem arg_agg {α : Type} {d : Kd α} {t : TypeId} {fs : Array Field} {W : World} {base : Nat} {sp : Nat → Bool} {hd : Bool} {v : Value} {x : DataW H} {ps : List MemPlace} {r : Reach} {b0 : Nat} (ht : P.underlying t = some (.struct fs)) (hval : Value.okWide P W r b0 t v)
    (ho : Opens P t d) (h : DataW.Trod enc P W base sp hd t v x ps) : ∃ (a : α) (cs : List Value), v = .agg cs.toArray ∧ d.K W a cs := by
  obtain ⟨cs, rfl, _⟩ := okWide_struct ht hval
  obtain ⟨fuel, hf⟩ := h
  obtain ⟨a, ha⟩ := ho hf
  exact ⟨a, cs.toList, by simp, by simpa [Value.cells] using ha⟩
theorem opens_str {t : TypeId} (ht : P.underlying t = some .string) : Opens P t Kd.str := by
  intro H enc w base sp hd fuel cs x h
  obtain ⟨s, h1, _, hs⟩ := DataW.trod_string ht h
  refine ⟨s.data.toList, ?_, ?_⟩
  · show cs = [.string (ofL s.data.toList)]
    rw [h1, ofL_data]
  · show s.data.toList.length ≤ maxLen
    rw [data_len]; exact hs
/-- A field of a struct. -/
theorem field_at {α : Type} {d : Kd α} {W : World} {base : Nat} {sp : Nat → Bool} {hd : Bool} {n : Nat} {t : TypeId} {cs : List Value} {xs : List (DataW H × List MemPlace)} {i o : Nat}
    (hf : DataW.trod enc P W base sp hd n t ((cs.drop o).take (P.cellsOf t)) = xs[i]?) (hi : i < xs.length) (ho : Opens P t d) : ∃ a, d.K W a ((cs.drop o).take (P.cellsOf t)) := by
  rw [List.getElem?_eq_getElem hi] at hf
  exact ho hf
end
end Go.Proofs.YtldhcknjpmbgnaaGreatDoor.Rk
/- The kinds of the arguments, in this program. -/
namespace Go.Proofs.YtldhcknjpmbgnaaGreatDoor.Rk
open Go.RowKit
theorem opens_bytes : Opens Tryz.prog 46 (Kd.slice Kd.byte) := opens_slice Tryz.underlying46 (opens_byte Tryz.underlying5) (by kernel_rfl) (by decide)
end Go.Proofs.YtldhcknjpmbgnaaGreatDoor.Rk
