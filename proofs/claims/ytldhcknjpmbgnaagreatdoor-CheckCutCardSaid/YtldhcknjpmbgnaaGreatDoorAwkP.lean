/- What the laws of layer 18 look at first: a small archive, plain. -/
import Derived.Test.YtldhcknjpmbgnaaGreatDoorVlmS
import Derived.Test.YtldhcknjpmbgnaaGreatDoorMrkS
namespace Go.Proofs.YtldhcknjpmbgnaaGreatDoor.Rk
open Go.RowKit
set_option linter.unusedVariables false
set_option linter.unusedSimpArgs false
set_option maxRecDepth 100000
def s1 : St := ⟨[120], 1, [3]⟩
theorem s1_may : smay s1 = true := by decide
theorem vbeg1 : ∃ p, vbeg [] s1 0 1 = [p] ∧ lput [120] 1 = some p := by
  have h : whereB [] 0 = (0, -1) := whereB_neg (by decide) (by decide)
  have hp := lput_yes (s := [120]) (n := 1) (by decide)
  refine ⟨_, ?_, hp⟩
  unfold vbeg
  rw [h]
  show [(lput [120] 1).getD []] = _
  rw [hp]; rfl
theorem split1 : ∃ p, vsplit [] s1 = ([[p, zeros 512, zeros 512]], 0) ∧ lput [120] 1 = some p := by
  obtain ⟨p, hp, hq⟩ := vbeg1
  have hall : sall [] = [zeros 512, zeros 512] := rfl
  refine ⟨p, ?_, hq⟩
  unfold vsplit
  rw [if_pos (by rw [t0_may, s1_may]; rfl), hall]
  have hc : s1.caps.map Int.toNat = [3] := rfl
  have hB : s1.b.toNat = 1 := rfl
  rw [hc, hB]
  have hp' : vbeg [] s1 ((0 : Nat) : Int) ((0 + 1 : Nat) : Int) = [p] := hp
  rw [sgo_step (by simp) (by show ¬ 1 * 3 ≤ (vbeg [] s1 ((0 : Nat) : Int) ((0 + 1 : Nat) : Int)).length; rw [hp']; simp)]
  have he : endAt [zeros 512, zeros 512] (fun pos n => vbeg [] s1 (pos : Nat) (n : Nat)) 1 3 0 0 = 2 := by
    unfold endAt
    show min 2 (0 + (1 * 3 - (vbeg [] s1 ((0 : Nat) : Int) ((0 + 1 : Nat) : Int)).length)) = 2
    rw [hp']; rfl
  have hb : bare [zeros 512, zeros 512] (fun pos n => vbeg [] s1 (pos : Nat) (n : Nat)) 1 3 0 0 = [p, zeros 512, zeros 512] := by
    unfold bare
    rw [he]
    show vbeg [] s1 ((0 : Nat) : Int) ((0 + 1 : Nat) : Int) ++ _ = _
    rw [hp']; rfl
  have hv : volAt [zeros 512, zeros 512] (fun pos n => vbeg [] s1 (pos : Nat) (n : Nat)) zblocks 1 3 0 0 = [p, zeros 512, zeros 512] := by
    unfold volAt
    have h3 : [p, zeros 512, zeros 512].length = 3 := by simp
    rw [he, hb, if_neg (by rw [h3]; decide)]
  rw [he, hv, sgo_done (by simp)]
/-- The tape of that archive. -/
def tp1 (p : List UInt8) : Tp := ⟨3, [p, zeros 512, zeros 512], false⟩
theorem tp1_facts {p : List UInt8} (h : lput [120] 1 = some p) : cblocks (tp1 p) = ([p, zeros 512, zeros 512], 0) ∧ cwho (tp1 p) = ([120], 1, 0) ∧ cfitsT ps0 [120] 1 (tp1 p) = (1, 0) ∧
    cfind [tp1 p, tp1 p] [120] 1 = [0, 1] ∧ cnextT ps0 [120] 1 [⟨0, [], false⟩, tp1 p] = 1 ∧ cwho ⟨1, [], false⟩ = ([], 0, 7) := by
  have hl : p.length = 512 := by
    rw [lput_yes (by decide)] at h
    injection h with h
    rw [← h]; exact blockOf_length _ (hdL_fits (by decide))
  have hz : (zeros 512).length = 512 := by simp [zeros]
  have hA : AllB [p, zeros 512, zeros 512] := by
    intro b hb
    simp only [List.mem_cons, List.not_mem_nil, or_false] at hb
    rcases hb with rfl | rfl | rfl <;> assumption
  have hm : tapeMay (tp1 p) = true := by
    unfold tapeMay tp1 recMay
    simp [hl, hz]
  have hr : rblocks [p, zeros 512, zeros 512] = [p, zeros 512, zeros 512] := by
    have hone : ∀ b : List UInt8, b.length = 512 → chunkN 512 b = [b] := fun b hb => by
      have := chunk_blocks [b] (fun x hx => by rw [List.mem_singleton.1 hx]; exact hb)
      simpa using this
    unfold rblocks
    simp [hone p hl, hone _ hz]
  have hc : cblocks (tp1 p) = ([p, zeros 512, zeros 512], 0) := by
    unfold cblocks
    rw [if_pos hm]
    show (rblocks [p, zeros 512, zeros 512], (0 : Int)) = _
    rw [hr]
  have hg : lget p = ([120], 1, 0) := lget_put h
  have hw : cwho (tp1 p) = ([120], 1, 0) := by
    unfold cwho
    rw [hc, if_neg (by simp)]
    exact hg
  have hf : cfitsT ps0 [120] 1 (tp1 p) = (1, 0) := by
    unfold cfitsT
    rw [hc, if_neg (by simp)]
    unfold sone
    rw [if_neg (by decide), if_neg (by decide)]
    dsimp only
    rw [hg, if_neg (by simp), if_pos (by decide)]
  have hh : hasT [120] 1 (tp1 p) = true := by unfold hasT; rw [hw]; decide
  have hn : (cfitsT ps0 [120] 1 ⟨0, [], false⟩).2 = 7 := by decide
  refine ⟨hc, hw, hf, ?_, ?_, by decide⟩
  · unfold cfind placesT
    rw [if_pos hh]
    unfold placesT
    rw [if_pos hh]
    rfl
  · unfold cnextT
    rw [if_neg (by decide)]
    unfold placesT
    rw [if_neg (by rw [hn]; decide)]
    unfold placesT
    rw [if_pos (by rw [hf]; rfl)]
    rfl
end Go.Proofs.YtldhcknjpmbgnaaGreatDoor.Rk
