/- Trees: May, walked. -/
import Derived.Test.YtmjicapjkmkckaaGreatDoorEntB
import Derived.Test.YtmjicapjkmkckaaGreatDoorVolF
import Derived.StringKeys
namespace Go.Proofs.YtmjicapjkmkckaaGreatDoor.Rk
open Go.RowKit Go.Shelf Go.Maps
set_option linter.unusedVariables false
set_option linter.unusedSimpArgs false
set_option maxRecDepth 100000

/-! ### nodes in a slice -/
theorem Sl.nd_at {w : World} {F : Nat → Prop} {A : Option Addr} {c : Nat} {t : List Nd} (h : Sl Kd.nd w F A c t) {k : Nat} {n : Nd} (hn : t[k]? = some n) :
    n.R ∧ ∃ b o, A = some ⟨b, o, none⟩ ∧ w.cell? ⟨b, o + k * 8, none⟩ = some (.string (ofL n.path)) ∧ w.cell? ⟨b, o + k * 8 + 1, none⟩ = some (.string (ofL n.link)) ∧ w.cell? ⟨b, o + k * 8 + 2, none⟩ = some (.int .u8 n.kind.toNat) ∧
      w.cell? ⟨b, o + k * 8 + 3, none⟩ = some (.int .i64 n.mode) ∧ w.cell? ⟨b, o + k * 8 + 4, none⟩ = some (.int .i64 n.uid) ∧ w.cell? ⟨b, o + k * 8 + 5, none⟩ = some (.int .i64 n.gid) ∧ w.cell? ⟨b, o + k * 8 + 6, none⟩ = some (.int .i64 n.mtime) ∧ w.cell? ⟨b, o + k * 8 + 7, none⟩ = some (.string (ofL n.data)) := by
  obtain ⟨vs, hc, hr⟩ := h.now
  obtain ⟨he, hR⟩ := hr.at_ k hn
  have hl := hr.len
  have hlt := (List.getElem?_eq_some_iff.1 hn).1
  have hsz : Kd.nd.sz = 8 := rfl
  rw [hsz] at he hl
  have hat : ∀ j u, n.cells[j]? = some u → vs[k * 8 + j]? = some u := fun j u hj => by
    rw [← he, List.getElem?_take] at hj
    split at hj
    · rw [List.getElem?_drop] at hj; exact hj
    · cases hj
  refine ⟨hR, ?_⟩
  obtain ⟨b, o, rfl, h0⟩ := hc.at_ (hat 0 _ rfl)
  have hx : ∀ j u, n.cells[j]? = some u → w.cell? ⟨b, o + k * 8 + j, none⟩ = some u := fun j u hj => by
    obtain ⟨b', o', e, h1⟩ := hc.at_ (hat j u hj)
    injection e with e; injection e with e1 e2; subst e1 e2
    rw [Nat.add_assoc]; exact h1
  exact ⟨b, o, rfl, hx 0 _ rfl, hx 1 _ rfl, hx 2 _ rfl, hx 3 _ rfl, hx 4 _ rfl, hx 5 _ rfl, hx 6 _ rfl, hx 7 _ rfl⟩
/-- A node is stored, field by field. -/
def setNd (W : World) (g : Nat) (x : Nd) : World :=
  (((((((W.setCell ⟨g, 0, none⟩ (.string (ofL x.path))).setCell ⟨g, 1, none⟩ (.string (ofL x.link))).setCell ⟨g, 2, none⟩ (.int .u8 x.kind.toNat)).setCell ⟨g, 3, none⟩ (.int .i64 x.mode)).setCell ⟨g, 4, none⟩ (.int .i64 x.uid)).setCell ⟨g, 5, none⟩ (.int .i64 x.gid)).setCell ⟨g, 6, none⟩ (.int .i64 x.mtime)).setCell ⟨g, 7, none⟩ (.string (ofL x.data))
theorem setNd_block {W : World} {g : Nat} {t : TypeId} {c : Nd} (h : W.heap[g]? = some (.cells c.cells.toArray t (0, 0))) (x : Nd) : (setNd W g x).heap[g]? = some (.cells x.cells.toArray t (0, 0)) :=
  blk_set (blk_set (blk_set (blk_set (blk_set (blk_set (blk_set (blk_set h 0 _) 1 _) 2 _) 3 _) 4 _) 5 _) 6 _) 7 _
theorem setNd_below {W w : World} {B g : Nat} (h : Below B w W) (hg : B ≤ g) (x : Nd) : Below B w (setNd W g x) :=
  (((((((h.setCell (p := ⟨g, 0, none⟩) hg _).setCell (p := ⟨g, 1, none⟩) hg _).setCell (p := ⟨g, 2, none⟩) hg _).setCell (p := ⟨g, 3, none⟩) hg _).setCell (p := ⟨g, 4, none⟩) hg _).setCell (p := ⟨g, 5, none⟩) hg _).setCell (p := ⟨g, 6, none⟩) hg _).setCell (p := ⟨g, 7, none⟩) hg _
def nd0 : Nd := ⟨[], [], 0, 0, 0, 0, 0, []⟩
/-- What stands in a tree's map. -/
def kmap (t : List Nd) : List (Value × Value) := t.map fun n => (.string (ofL n.path), .int .u8 (n.kind.toNat : Int))
theorem keyedS : Keyed Tryz.prog 9 := string_keyed Tryz.underlying9
theorem keyS {l : List UInt8} (h : l.length ≤ 1000) : ∃ k, keyOf Tryz.prog 9 (.string (ofL l)) = some k :=
  ⟨_, Go.WideMaps.keyOf_string_mk Tryz.underlying9 (by rw [ofL_size]; simp only [maxLen]; omega)⟩
theorem str_inj {a b : List UInt8} (h : Value.string (ofL a) = .string (ofL b)) : a = b := by injection h with h; exact ofL_inj h
theorem lookup_kind {pre : List Nd} (h : TInv pre) {W : World} {b : Nat} (hm : MapL Tryz.prog 9 W b (kmap pre)) {p : List UInt8} (hp1 : p.length ≤ 1000) :
    (Instr.lookup 106 (.map (some b)) (.string (ofL p)) false).run Tryz.prog W = .ok (.int .u8 ((kindAt pre p).toNat : Int)) W := by
  obtain ⟨kk, hk⟩ := keyS hp1
  rcases kindAt_cases h p with ⟨m, hm1, hp, e, hu⟩ | ⟨hn, e⟩
  · rw [e]
    have := run_lookup_hit keyedS Tryz.underlying106 hm hk (v := .int .u8 (m.kind.toNat : Int)) (List.mem_map.2 ⟨m, hm1, by rw [hp]⟩) (fun q hq e => by
      obtain ⟨m', hm', rfl⟩ := List.mem_map.1 hq
      rw [hu m' hm' (str_inj e)]) false
    simpa using this
  · rw [e]
    have := run_lookup_miss keyedS Tryz.underlying106 (z := .int .u8 0) (by kernel_rfl) hm hk (fun q hq e => by
      obtain ⟨m', hm', rfl⟩ := List.mem_map.1 hq
      exact hn m' hm' (str_inj e)) false
    simpa using this
theorem update_kind {pre : List Nd} (h : TInv pre) {n : Nd} (hn : leB n.path (lastPath pre) = false) (hp1 : n.path.length ≤ 1000) {W : World} {b : Nat} (hm : MapL Tryz.prog 9 W b (kmap pre)) :
    ∃ o, (Instr.mapUpdate 106 (.map (some b)) (.string (ofL n.path)) (.int .u8 (n.kind.toNat : Int))).run Tryz.prog W = .ok () (W.putObj b o) ∧ MapL Tryz.prog 9 (W.putObj b o) b (kmap (pre ++ [n])) := by
  obtain ⟨kk, hk⟩ := keyS hp1
  obtain ⟨o, h1, h2⟩ := run_update_new keyedS Tryz.underlying106 (v := .int .u8 (n.kind.toNat : Int)) hm hk (fun q hq e => by
    obtain ⟨m', hm', rfl⟩ := List.mem_map.1 hq
    exact h.fresh hn m' hm' (str_inj e))
  exact ⟨o, h1, by simpa [kmap] using h2⟩
theorem put_grown (W : World) (b : Nat) (o : Obj) : W.grownBy (W.putObj b o) (some b) := grown_putObj W b o
def AllS (t : List Nd) : Prop := ∀ n ∈ t, n.S
set_option maxHeartbeats 4000000 in
theorem tmay_calls (t : List Nd) (hS : AllS t) {A : Option Addr} {c : Nat} {F : Nat → Prop} {r : Bool} (hr : tmay t = r) (w : World) (ha : Sl Kd.nd w F A c t) :
    Calls Tryz.prog 50 #[.slice A t.length c] w fun e w' => e = .returned (.bool r) ∧ Below w.heap.size w w' := by
  have hle := ha.le
  have Ha := Au.mk ha
  have HS := Au.mk hS
  have Hr := Au.mk hr
  have hb0 := Below.refl w.heap.size w
  have hmm := @run_makeMap Tryz.prog
  clear ha hS hr
  by_cases h20 : t.length ≤ 20
  · have c20 : decide ((20 : Int) < t.length) = false := by simp; omega
    have c20n : decide (20 < t.length) = false := by simp; omega
    have Hr2 : Au (tmayGo [] t = r) := ⟨by rw [← Hr.out, tmay]; simp [h20]⟩
    go_enter Tryz.func50, Tryz.ntmps50
    go_wp2_with fail
    go_loopw [4, 15] (fun v i wr => ∃ k : Nat, k ≤ t.length ∧ i = .int .i64 k ∧ v = .string (ofL (lastPath (t.take k))) ∧ Au (TInv (t.take k)) ∧ Au (MapL Tryz.prog 9 wr w.heap.size (kmap (t.take k))) ∧ Below w.heap.size w wr ∧ Au (tmayGo (t.take k) (t.drop k) = r)) (fun _ i _ => t.length - (intOf i).toNat)
    case atStart =>
      refine ⟨0, Nat.zero_le _, rfl, rfl, ⟨TInv.nil⟩, ⟨?_⟩, hb0.alloc (Nat.le_refl _) _, ⟨by simpa using Hr2.out⟩⟩
      exact MapL.made _ _ _
    case round =>
      obtain ⟨k, hk, rfl, rfl, HI, HM, hb, Hg⟩ := hrel
      have hs := hb.size
      have hmlt := HM.out.lt
      by_cases hlt : k < t.length
      · obtain ⟨n, hn⟩ : ∃ n, t[k]? = some n := ⟨_, List.getElem?_eq_getElem hlt⟩
        obtain ⟨hR, b, o, rfl, f0, f1, f2, f3, f4, f5, f6, f7⟩ := (Ha.out.below hb).nd_at hn
        have HnS : Au n.S := ⟨HS.out n (List.mem_of_getElem? hn)⟩
        have Hn := Au.mk hn
        obtain ⟨lp, Hlp⟩ := au (lastPath (t.take k))
        obtain ⟨x, Hx⟩ := au (one n)
        obtain ⟨y1, Hy1⟩ := au (Op.bytesLess n.path lp)
        obtain ⟨y2, Hy2⟩ := au (n.path == lp)
        obtain ⟨up, Hup⟩ := au (parent n.path).1
        obtain ⟨is, His⟩ := au (parent n.path).2
        obtain ⟨ku, Hku⟩ := au (kindAt (t.take k) up)
        obtain ⟨kl, Hkl⟩ := au (kindAt (t.take k) n.link)
        obtain ⟨d1, Hd1⟩ := au (ku == 53)
        obtain ⟨d2, Hd2⟩ := au (n.kind == 49)
        obtain ⟨d3, Hd3⟩ := au (kl == 48)
        have Hpar : Au (parent n.path = (up, is)) := ⟨by rw [← Hup.out, ← His.out]⟩
        have Hle : Au (leB n.path lp = (y1 || y2)) := ⟨by rw [leB_eq, Hy1.out, Hy2.out]⟩
        have Hnx : Au ((x && (!(y1 || y2) && (!(is && !d1) && !(d2 && !d3)))) = true ∨ r = false) := ⟨by
          have h := Hg.out
          rw [tmayGo_step hn] at h
          have e : nextOk (t.take k) n = (x && (!(y1 || y2) && (!(is && !d1) && !(d2 && !d3)))) := by
            unfold nextOk; rw [Hlp.out, Hx.out, Hle.out, His.out, Hup.out, Hku.out, Hkl.out, Hd1.out, Hd2.out, Hd3.out]
          rw [e] at h
          cases q : (x && (!(y1 || y2) && (!(is && !d1) && !(d2 && !d3)))) with
          | true => exact .inl rfl
          | false => right; rw [q] at h; simpa using h.symm⟩
        have Hg2 : Au ((x && (!(y1 || y2) && (!(is && !d1) && !(d2 && !d3)))) = true → tmayGo (t.take (k + 1)) (t.drop (k + 1)) = r) := ⟨fun q => by
          have h := Hg.out
          rw [tmayGo_step hn] at h
          have e : nextOk (t.take k) n = (x && (!(y1 || y2) && (!(is && !d1) && !(d2 && !d3)))) := by
            unfold nextOk; rw [Hlp.out, Hx.out, Hle.out, His.out, Hup.out, Hku.out, Hkl.out, Hd1.out, Hd2.out, Hd3.out]
          rw [e, q] at h
          simpa using h⟩
        have Hpl : Au (n.path.length ≤ 10000 ∧ n.path.length ≤ 1000 ∧ n.link.length ≤ 1000 ∧ up.length ≤ 1000) := ⟨by
          have h1 := HnS.out.1
          have h2 := HnS.out.2.1
          refine ⟨by omega, h1, h2, ?_⟩
          rw [← Hup.out]; unfold parent
          split
          · simp
          · simp only [List.length_take]; omega⟩
        have hy1 := Hy1.out
        have hy2 := Hy2.out
        have hb1 := hb.alloc hs (.cells n.cells.toArray 53)
        have B1 := Au.mk (nd_box wr n)
        have M1 := Au.mk (HM.out.keep (W := wr.alloc (.cells n.cells.toArray 53)) (Below.heap_alloc wr _ _ hmlt))
        have HI2 : Au (TInv (t.take k)) := HI
        rw [Hlp.out]
        clear hR hn
        go_wp2_with fail
        refine (one_calls n HnS.out Hx.out _).mono ?_
        rintro e w1 ⟨rfl, b1⟩
        have B2 := Au.mk (blk_below B1.out b1 (lt_of_block B1.out))
        have M2 := Au.mk (M1.out.below b1)
        have e2 := below_then hb1 b1 hb1.size
        clear f0 f1 f2 f3 f4 f5 f6 f7 b1 B1 M1 hb1
        obtain ⟨f0, f1, f2, f3, f4, f5, f6, f7⟩ := nd_cells n B2.out
        cases x
        · go_wp2_with fail
          go_ret
          exact ⟨by rcases Hnx.out with h | h; cases h; rw [h]; rfl, e2⟩
        · have hyy : y1 = false ∧ y2 = false ∨ (y1 || y2) = true := by cases y1 <;> cases y2 <;> simp
          rcases hyy with ⟨rfl, rfl⟩ | hyy
          · go_wp2_with fail
            refine (parent_calls n.path Hpl.out.1 Hpar.out _).mono ?_
            rintro e w3 ⟨rfl, b3⟩
            have B3 := Au.mk (blk_below B2.out b3 (lt_of_block B2.out))
            have M3 := Au.mk (M2.out.below b3)
            have e3 := below_then e2 b3 e2.size
            clear f0 f1 f2 f3 f4 f5 f6 f7 b3 B2 M2 e2
            obtain ⟨f0, f1, f2, f3, f4, f5, f6, f7⟩ := nd_cells n B3.out
            have lk1 := lookup_kind HI.out M3.out Hpl.out.2.2.2
            have lk2 := lookup_kind HI.out M3.out Hpl.out.2.2.1
            rw [Hku.out] at lk1
            rw [Hkl.out] at lk2
            have q1 : ((ku.toNat : Int) == 53) = d1 := by rw [← Hd1.out]; exact byte_beq ku 53
            have q2 : ((n.kind.toNat : Int) == 49) = d2 := by rw [← Hd2.out]; exact byte_beq n.kind 49
            have q3 : ((kl.toNat : Int) == 48) = d3 := by rw [← Hd3.out]; exact byte_beq kl 48
            have q1' : ((ku.toNat : Int) != 53) = !d1 := by rw [← q1]; rfl
            have q3' : ((kl.toNat : Int) != 48) = !d3 := by rw [← q3]; rfl
            cases is <;> cases d1 <;> cases d2 <;> cases d3
            all_goals first
              | (have hr3 : r = false := by
                   rcases Hnx.out with h | h
                   · cases h
                   · exact h
                 have Hr3 := Au.mk hr3
                 clear hr3
                 go_wp2_with fail
                 go_ret
                 exact ⟨by rw [Hr3.out]; rfl, e3⟩)
              | (go_upto_region 15 with fail
                 have hle2 : leB n.path (lastPath (t.take k)) = false := by rw [Hlp.out]; exact Hle.out
                 have hne : wr.heap.size ≠ w.heap.size := by omega
                 have M4 : MapL Tryz.prog 9 w3.drew w.heap.size (kmap (t.take k)) := M3.out
                 obtain ⟨o4, hu4, m4⟩ := update_kind HI.out hle2 Hpl.out.2.1 M4
                 have g0 : (w3.drew.putObj w.heap.size o4).cell? ⟨wr.heap.size, 0, none⟩ = some (.string (ofL n.path)) := (cell_putObj hne).trans f0
                 have M5 := Au.mk m4
                 have HU := Au.mk hle2
                 clear m4 M4 hle2
                 go_region
                 all_goals
                   go_wp2_with fail
                   go_roundw
                   case rel =>
                     have hk1 : t.take (k + 1) = t.take k ++ [n] := by
                       have hlt2 := (List.getElem?_eq_some_iff.1 Hn.out).1
                       rw [List.take_succ_eq_append_getElem hlt2, (List.getElem?_eq_some_iff.1 Hn.out).2]
                     refine ⟨k + 1, by omega, by go_num, by rw [hk1, lastPath_snoc], ⟨by rw [hk1]; exact HI.out.step HU.out⟩, ⟨by rw [hk1]; exact M5.out⟩, below_putObj (below_drewN e3 1) (Nat.le_refl _) (below_drewN e3 1).size _, ⟨Hg2.out rfl⟩⟩
                   case measure => simp [intOf]; omega)
          · have hr2 : r = false := by
              rcases Hnx.out with h | h
              · rw [hyy] at h; cases h
              · exact h
            have Hr3 := Au.mk hr2
            clear hr2
            cases y1 <;> cases y2
            · cases hyy
            all_goals
              go_wp2_with fail
              go_ret
              exact ⟨by rw [Hr3.out]; rfl, e2⟩
      · obtain rfl : k = t.length := by omega
        have hg := Hg.out
        rw [List.drop_of_length_le (Nat.le_refl _), tmayGo] at hg
        subst hg
        go_wp2_with fail
        go_ret
        exact ⟨rfl, hb⟩
  · have c20 : decide ((20 : Int) < t.length) = true := by simp; omega
    have c20n : decide (20 < t.length) = true := by simp; omega
    have Hr2 : Au (false = r) := ⟨by rw [← Hr.out, tmay]; simp [h20]⟩
    clear h20
    go_enter Tryz.func50, Tryz.ntmps50
    go_wp2_with fail
    go_ret
    exact ⟨by rw [← Hr2.out]; rfl, hb0⟩
end Go.Proofs.YtmjicapjkmkckaaGreatDoor.Rk
