/- Labels of volumes, walked: Get. -/
import Derived.Test.YtmjicapjkmkckaaGreatDoorLabE
namespace Go.Proofs.YtmjicapjkmkckaaGreatDoor.Rk
open Go.RowKit
set_option linter.unusedVariables false
set_option linter.unusedSimpArgs false
set_option maxRecDepth 100000

theorem lastIndex_calls {l : List UInt8} {i : Int} (hi : Lib.lastIndex l vol = i) (hl : l.length ≤ 1000) (w : World) :
    Calls Tryz.prog 55 #[.string (ofL l), .string ⟨#[32, 86, 111, 108, 117, 109, 101, 32]⟩] w fun e w' => e = .returned (.int .i64 i) ∧ w = w' := by
  subst hi
  refine (Tryz.strings_LastIndex (ofL l) ⟨#[32, 86, 111, 108, 117, 109, 101, 32]⟩ (by rw [ofL_size]; omega) w).mono ?_
  rintro e w' ⟨h1, h2⟩
  exact ⟨by rw [h1]; simp [ofL, vol], h2.symm⟩
theorem trim_calls {l d : List UInt8} (hd : Lib.trimPrefix l vol = d) (w : World) :
    Calls Tryz.prog 56 #[.string (ofL l), .string ⟨#[32, 86, 111, 108, 117, 109, 101, 32]⟩] w fun e w' => e = .returned (.string (ofL d)) ∧ w = w' := by
  subst hd
  refine (Tryz.strings_TrimPrefix (ofL l) ⟨#[32, 86, 111, 108, 117, 109, 101, 32]⟩ w).mono ?_
  rintro e w' ⟨h1, h2⟩
  exact ⟨by rw [h1]; simp [ofL, vol], h2.symm⟩
theorem trim_quiet {l d : List UInt8} (hd : Lib.trimPrefix l vol = d) (W : World) (a : Nat) : Calls Tryz.prog 56 #[.string (ofL l), .string ⟨#[32, 86, 111, 108, 117, 109, 101, 32]⟩] (W.drewN a) fun e w' => e = .returned (.string (ofL d)) ∧ ∃ m, w' = W.drewN m :=
  (trim_calls hd (W.drewN a)).mono fun e w' ⟨h1, h2⟩ => ⟨h1, a, h2.symm⟩
theorem hget_S (b : List UInt8) : (hget b).1.S := by
  have z : hd0.S := ⟨by decide, by decide, by decide⟩
  rcases hget_cases b with ⟨e, _⟩ | ⟨e, _⟩ | ⟨e, _⟩ | ⟨e, _, _, h4⟩ | ⟨e, _⟩ <;> rw [e] <;> dsimp only
  · exact z
  · exact z
  · exact z
  · exact guess_S b
  · exact z
theorem ofL_extract (l : List UInt8) (a b : Nat) : (ofL l).extract a b = ofL ((l.take b).drop a) := by
  apply ByteArray.ext
  simp [ofL, ByteArray.data_extract, List.drop_take]
theorem lastV_le (l : List UInt8) : lastV l ≤ l.length := by
  unfold lastV Lib.lastIndex
  split
  · rcases Lib.lastOcc_spec l vol (l.length - vol.length + 1) with ⟨e, _⟩ | ⟨i, hi, e, _⟩ <;> rw [e]
    · omega
    · have : vol.length = 8 := rfl
      omega
  · omega
theorem digOf_len (l : List UInt8) : (digOf l).length ≤ l.length := by
  unfold digOf Lib.trimPrefix
  split <;> simp <;> omega
set_option maxHeartbeats 4000000 in
theorem lget_calls (b : List UInt8) {s : List UInt8} {n er : Int} (hg : lget b = (s, n, er)) {A : Option Addr} {c : Nat} {F : Nat → Prop} (w : World) (ha : Sl Kd.byte w F A c b) (ht : Tab w) :
    Calls Tryz.prog 29 #[.slice A b.length c] w fun e w' => e = .returned (.tuple #[.string (ofL s), .int .i64 n, .int .i64 er]) ∧ Below w.heap.size w w' := by
  have hS := hget_S b
  obtain ⟨g, Hg⟩ := au (hget b).1
  obtain ⟨ee, He⟩ := au (hget b).2
  unfold lget at hg
  rw [Hg.out, He.out] at hg
  rw [Hg.out] at hS
  have hl2 := hS.1
  have Ha := Au.mk ha
  have Ht := Au.mk ht
  by_cases h0 : ee = 0
  · subst h0
    rw [if_pos rfl] at hg
    obtain ⟨i, Hi⟩ := au (Lib.lastIndex g.name vol)
    obtain ⟨j, Hj⟩ := au (lastV g.name)
    have hj : max 0 i = (j : Int) := by
      have := Hj.out
      unfold lastV at this
      rw [Hi.out] at this; omega
    have hjl := lastV_le g.name
    rw [Hj.out] at hjl
    obtain ⟨lb, Hlb⟩ := au (labOf g.name)
    obtain ⟨dg, Hdg⟩ := au (digOf g.name)
    have hdl := digOf_len g.name
    rw [Hdg.out] at hdl
    obtain ⟨m, Hm⟩ := au (numL dg)
    have hmR := numL_R64 dg
    rw [Hm.out] at hmR
    obtain ⟨p, Hp⟩ := au ((lput lb m).getD [])
    obtain ⟨bb, Hbb⟩ := au ((lput lb m).isSome)
    obtain ⟨r2, Hr2⟩ := au (p == b)
    have hgood : (lput lb m = some b) = (bb = true ∧ r2 = true) := by
      rw [← Hbb.out, ← Hr2.out, ← Hp.out]
      cases lput lb m <;> simp
    rw [Hlb.out, Hdg.out, Hm.out] at hg
    have Hres := Au.mk hg
    have Hgood := Au.mk hgood
    have hx1 : (ofL g.name).extract 0 j = ofL lb := by rw [ofL_extract, ← Hlb.out, labOf, Hj.out]; simp
    have hx2 : (ofL g.name).extract j (ofL g.name).size = ofL (g.name.drop j) := by rw [ofL_extract, ofL_size, List.take_length]
    have hz : (ofL g.name).size = g.name.length := ofL_size _
    have Htr : Au (Lib.trimPrefix (g.name.drop j) vol = dg) := ⟨by rw [← Hdg.out, digOf, Hj.out]⟩
    have HmR := Au.mk hmR
    clear hg hgood hS ha ht hmR
    go_enter Tryz.func29, Tryz.ntmps29
    go_wp2_with fail
    refine (hget_view b Hg.out He.out _ Ha.out).mono ?_
    rintro e w1 ⟨rfl, b1⟩
    unfold Hd.agg
    go_upto_region 4 with fail
    generalize hW : World.alloc w1 _ = W2
    have G2 : Au (W2.heap[w1.heap.size]? = some (.cells g.cells.toArray 79 (0, 0))) := ⟨by rw [← hW]; exact heap_alloc_new _ _⟩
    have e2 : Below w.heap.size w W2 := by rw [← hW]; exact b1.alloc b1.size _
    have k0 := blk_cell G2.out 0 rfl
    clear hW b1
    go_wp2_with fail
    refine (lastIndex_calls Hi.out (by omega) _).mono ?_
    rintro e w3 ⟨rfl, rfl⟩
    go_upto_region 5 with fail
    have hx3 : (ofL g.name).extract j g.name.length = ofL (g.name.drop j) := by rw [← hx2, hz]
    have hjz : (j : Int) ≤ g.name.length := by omega
    go_quiet (exact trim_quiet Htr.out _ _)
    generalize hW : W2.drewN nq = W3
    have e3 : Below w.heap.size w W3 := by rw [← hW]; exact below_drewN e2 _
    clear hW e2 k0 hx1 hx2 hx3
    go_wp2_with fail
    refine (numberL_calls dg Hm.out (by omega) _).mono ?_
    rintro e w4 ⟨rfl, b4⟩
    have e4 := below_then e3 b4 e3.size
    clear b4 e3
    go_wp2_with fail
    refine (lput_calls lb m HmR.out Hp.out Hbb.out _ (Ht.out.below e4)).mono ?_
    rintro e w5 ⟨A5, c5, rfl, s5, b5⟩
    have e5 := below_then e4 b5 e4.size
    clear b5 e4
    have sb := Ha.out.below e5
    cases bb
    · go_wp2_with fail
      go_ret3
      have h3 : ¬ lput lb m = some b := by rw [Hgood.out]; simp
      have h4 := Hres.out
      rw [if_neg h3] at h4
      injection h4 with h5 h6
      injection h6 with h6 h7
      exact ⟨by rw [← h5, ← h6, ← h7]; rfl, e5⟩
    · go_wp2_with fail
      refine (bequal_is rfl rfl Hr2.out s5 sb).mono ?_
      rintro e w6 ⟨rfl, rfl⟩
      cases r2
      · go_wp2_with fail
        go_ret3
        have h3 : ¬ lput lb m = some b := by rw [Hgood.out]; simp
        have h4 := Hres.out
        rw [if_neg h3] at h4
        injection h4 with h5 h6
        injection h6 with h6 h7
        exact ⟨by rw [← h5, ← h6, ← h7]; rfl, e5⟩
      · go_wp2_with fail
        go_ret3
        have h3 : lput lb m = some b := by rw [Hgood.out]; simp
        have h4 := Hres.out
        rw [if_pos h3] at h4
        injection h4 with h5 h6
        injection h6 with h6 h7
        exact ⟨by rw [← h5, ← h6, ← h7]; rfl, e5⟩
  · rw [if_neg h0] at hg
    injection hg with h5 h6
    injection h6 with h6 h7
    have h0b : (ee != 0) = true := by simpa using h0
    have H5 := Au.mk h5
    have H6 := Au.mk h6
    have H7 := Au.mk h7
    clear h5 h6 h7 h0 hS ha ht
    go_enter Tryz.func29, Tryz.ntmps29
    go_wp2_with fail
    refine (hget_view b Hg.out He.out _ Ha.out).mono ?_
    rintro e w1 ⟨rfl, b1⟩
    unfold Hd.agg
    go_wp2_with fail
    go_ret3
    exact ⟨by rw [← H5.out, ← H6.out, ← H7.out]; rfl, b1.alloc b1.size _⟩
end Go.Proofs.YtmjicapjkmkckaaGreatDoor.Rk
