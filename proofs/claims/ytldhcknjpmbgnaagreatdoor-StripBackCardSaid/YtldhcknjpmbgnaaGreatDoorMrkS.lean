/- Loops over functions inside of other loops: what they have put off, at the end. Pieces of a record, by their number. -/
import Derived.Test.YtldhcknjpmbgnaaGreatDoorVMis
import Derived.Test.YtldhcknjpmbgnaaGreatDoorChkS
namespace Go.Proofs.YtldhcknjpmbgnaaGreatDoor.Rk
open Go.RowKit Go.Shelf
set_option linter.unusedVariables false
set_option linter.unusedSimpArgs false
/-- What loops over functions have put off: nothing, at these places. -/
structure Mks (base : Nat) (W : World) (Ds : List Nat) : Prop where
  nd : Ds.Nodup
  at_ : ∀ D ∈ Ds, base ≤ D ∧ W.heap[D]? = some (.deferred (some []))
def mkd (Ds : List Nat) : List Deferred := Ds.map fun D => { target := .collected D, args := #[] }
section
variable {base : Nat} {W V : World} {Ds : List Nat}
theorem Mks.nil (base : Nat) (W : World) : Mks base W [] := ⟨List.nodup_nil, fun D h => by cases h⟩
theorem Mks.keep (h : Mks base W Ds) (hk : ∀ D ∈ Ds, V.heap[D]? = W.heap[D]?) : Mks base V Ds := ⟨h.nd, fun D hD => ⟨(h.at_ D hD).1, (hk D hD).trans (h.at_ D hD).2⟩⟩
theorem Mks.lt (h : Mks base W Ds) {D : Nat} (hD : D ∈ Ds) : D < W.heap.size := lt_of_block (h.at_ D hD).2
theorem Mks.below (h : Mks base W Ds) (hb : Below W.heap.size W V) : Mks base V Ds := h.keep fun D hD => hb.block D (h.lt hD)
theorem Mks.cons (h : Mks base W Ds) {D : Nat} (hD : D ∉ Ds) (hb : base ≤ D) (hd : W.heap[D]? = some (.deferred (some []))) : Mks base W (D :: Ds) :=
  ⟨List.nodup_cons.2 ⟨hD, h.nd⟩, fun E hE => (List.mem_cons.1 hE).elim (fun e => e ▸ ⟨hb, hd⟩) (fun hE => h.at_ E hE)⟩
/-- At the end of a function. -/
theorem end_mks {P : Program} {f : Func} {tmps : Array Value} {R : Ending → World → Prop} {v : Value} : ∀ {Ds : List Nat} {W : World}, Mks base W Ds →
    (∀ V, Below base W V → V.heap.size = W.heap.size → (∀ k, k ∉ Ds → V.heap[k]? = W.heap[k]?) → (results f tmps).run P V = .ok v V ∧ R (.returned v) V) →
    bodyPostM Fence.wide 0 P f R .ret { tmps := tmps, defers := mkd Ds } W := by
  intro Ds
  induction Ds with
  | nil => intro W _ h; exact ⟨v, (h W (.refl _ _) rfl fun _ _ => rfl).1, (h W (.refl _ _) rfl fun _ _ => rfl).2⟩
  | cons D Ds ih =>
    intro W hm h
    have hD := hm.at_ D List.mem_cons_self
    have hn := (List.nodup_cons.1 hm.nd).1
    refine ⟨by simp, .inl ⟨D, _, rfl, run_takeDeferred hD.2, ?_⟩⟩
    refine ih (W := W.putObj D (.deferred none)) ⟨(List.nodup_cons.1 hm.nd).2, fun E hE => ⟨(hm.at_ E (List.mem_cons_of_mem _ hE)).1, ?_⟩⟩ fun V hb hs hk => h V ?_ ?_ ?_
    · rw [World.putObj_heap_other (by rintro rfl; exact hn hE)]
      exact (hm.at_ E (List.mem_cons_of_mem _ hE)).2
    · exact (below_putObj (.refl base W) hD.1 (Nat.le_trans hD.1 (Nat.le_of_lt (lt_of_block hD.2))) _).trans hb
    · rw [hs]; simp
    · intro k hkn
      rw [hk k (fun q => hkn (List.mem_cons_of_mem _ q)), World.putObj_heap_other (by rintro rfl; exact hkn List.mem_cons_self)]
end
theorem chunk_len : ∀ (m : Nat) (r : List UInt8), r.length = m * 512 → (chunkN 512 r).length = m
  | 0, r, h => by
    have : r = [] := List.length_eq_zero_iff.1 (by omega)
    subst this; rw [chunkN_nil]; rfl
  | m + 1, r, h => by
    have : r ≠ [] := by rintro rfl; simp at h
    rw [chunkN_cons (by decide) this, List.length_cons, chunk_len m _ (by rw [List.length_drop]; omega)]
theorem chunk_at : ∀ (m : Nat) (r : List UInt8), r.length = m * 512 → ∀ k, k < m → (chunkN 512 r)[k]? = some ((r.drop (k * 512)).take 512)
  | 0, r, h, k, hk => by omega
  | m + 1, r, h, k, hk => by
    have : r ≠ [] := by rintro rfl; simp at h
    rw [chunkN_cons (by decide) this]
    cases k with
    | zero => simp
    | succ k =>
      rw [List.getElem?_cons_succ, chunk_at m _ (by rw [List.length_drop]; omega) k (by omega), List.drop_drop]
      congr 3; omega
theorem chunk_succ {m : Nat} {r : List UInt8} (h : r.length = m * 512) {k : Nat} (hk : k < m) : (chunkN 512 r).take (k + 1) = (chunkN 512 r).take k ++ [(r.drop (k * 512)).take 512] := by
  have h1 := chunk_at m r h k hk
  have h2 := (List.getElem?_eq_some_iff.1 h1)
  rw [List.take_succ_eq_append_getElem h2.1, h2.2]
theorem rblocks_succ {rs : List (List UInt8)} {i : Nat} {r : List UInt8} (hi : rs[i]? = some r) : rblocks (rs.take (i + 1)) = rblocks (rs.take i) ++ chunkN 512 r := by
  have h2 := (List.getElem?_eq_some_iff.1 hi)
  unfold rblocks
  rw [List.take_succ_eq_append_getElem h2.1, h2.2, List.map_append, List.flatten_append]
  simp
end Go.Proofs.YtldhcknjpmbgnaaGreatDoor.Rk
