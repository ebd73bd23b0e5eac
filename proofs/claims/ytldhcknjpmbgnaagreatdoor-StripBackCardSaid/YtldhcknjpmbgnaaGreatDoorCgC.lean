/- Who goes on, walked: Get itself. -/
import Derived.Test.YtldhcknjpmbgnaaGreatDoorCgB
import Derived.Test.YtldhcknjpmbgnaaGreatDoorVOrd
namespace Go.Proofs.YtldhcknjpmbgnaaGreatDoor.Rk
open Go.RowKit Go.Shelf
set_option linter.unusedVariables false
set_option linter.unusedSimpArgs false
set_option maxRecDepth 100000

theorem nd_free' {W : World} {g : Nat} {t : TypeId} {cs : Array Value} (h : W.heap[g]? = some (.cells cs t (0, 0))) : W.frozen? ⟨g, 0, none⟩ = false ∧ W.frozen? ⟨g, 1, none⟩ = false ∧ W.frozen? ⟨g, 2, none⟩ = false ∧ W.frozen? ⟨g, 3, none⟩ = false ∧ W.frozen? ⟨g, 4, none⟩ = false ∧ W.frozen? ⟨g, 5, none⟩ = false ∧ W.frozen? ⟨g, 6, none⟩ = false ∧ W.frozen? ⟨g, 7, none⟩ = false :=
  ⟨blk_free h 0, blk_free h 1, blk_free h 2, blk_free h 3, blk_free h 4, blk_free h 5, blk_free h 6, blk_free h 7⟩
theorem setNd_other {W : World} {g k : Nat} (h : k ≠ g) (x : Nd) : (setNd W g x).heap[k]? = W.heap[k]? := by
  unfold setNd
  repeat rw [Below.heap_setCell _ _ _ _ (by rintro rfl; exact h rfl)]
theorem setHd_sl {α : Type} {d : Kd α} {W : World} {F : Nat → Prop} {A : Option Addr} {c : Nat} {xs : List α} (h : Sl d W F A c xs) {g : Nat} (hg : ¬ F g) (x : Hd) : Sl d (setHd W g x) F A c xs :=
  ((((((((((h.set (p := ⟨g, 0, none⟩) _ hg).set (p := ⟨g, 1, none⟩) _ hg).set (p := ⟨g, 2, none⟩) _ hg).set (p := ⟨g, 3, none⟩) _ hg).set (p := ⟨g, 4, none⟩) _ hg).set (p := ⟨g, 5, none⟩) _ hg).set (p := ⟨g, 6, none⟩) _ hg).set (p := ⟨g, 7, none⟩) _ hg).set (p := ⟨g, 8, none⟩) _ hg).set (p := ⟨g, 9, none⟩) _ hg).set (p := ⟨g, 10, none⟩) _ hg
theorem u8_eq (a : UInt8) (k : Nat) (hk : k < 256) : (((a.toNat : Nat) : Int) == (k : Int)) = (a == UInt8.ofNat k) := by
  rw [Bool.eq_iff_iff, beq_iff_eq, beq_iff_eq]
  constructor
  · intro h
    apply UInt8.toNat_inj.1
    rw [UInt8.toNat_ofNat_of_lt' (by simpa using hk)]; omega
  · intro h
    rw [h, UInt8.toNat_ofNat_of_lt' (by simpa using hk)]
theorem cnext_yes {l : List (List UInt8)} {i : Nat} {h : Hd} (hc : cnext l i = (h, true)) : Fits h ∧ i < l.length := by
  rcases nextI l i with ⟨_, h2⟩ | ⟨b, h1, h2⟩
  · rw [hc] at h2; injection h2 with _ h3; cases h3
  · rw [hc] at h2
    injection h2 with h3 h4
    have h5 : (hget b).2 = 0 := by simpa using h4.symm
    have h6 := hget_good h5
    rw [← h3] at h6
    exact ⟨(hput_some h6).1, (List.getElem?_eq_some_iff.1 h1).1⟩
theorem cnext_S {l : List (List UInt8)} {i : Nat} {h : Hd} {b : Bool} (hc : cnext l i = (h, b)) : h.S := by
  rcases nextI l i with ⟨_, h2⟩ | ⟨b, h1, h2⟩
  · rw [hc] at h2; injection h2 with h3 _; rw [h3]; exact ⟨by decide, by decide, by decide⟩
  · rw [hc] at h2
    injection h2 with h3 h4
    rw [h3]; exact hget_S b
theorem r0 : R64 0 := ⟨by decide, by decide⟩
theorem fits_nonneg {h : Hd} (f : Fits h) (h77 : h.ty = 77) : 0 ≤ h.off ∧ 0 ≤ h.real := by
  obtain ⟨_, ⟨a, ha⟩, ⟨b, hb⟩⟩ := f.more h77
  exact ⟨(put_iff.1 ha).1, (put_iff.1 hb).1⟩
theorem cnext_R {l : List (List UInt8)} {i : Nat} {h : Hd} {b : Bool} (hc : cnext l i = (h, b)) : h.R := by
  rcases nextI l i with ⟨_, h2⟩ | ⟨b, h1, h2⟩
  · rw [hc] at h2; injection h2 with h3 _; rw [h3]; exact ⟨r0, r0, r0, r0, r0, r0, r0⟩
  · rw [hc] at h2
    injection h2 with h3 h4
    rw [h3]; exact hget_R b
set_option maxHeartbeats 8000000 in
theorem cgetB_calls (l : List (List UInt8)) {n : Nat} (hn : l.length = n) {r : Option (Nd × Int × Int × Nat)} (hr : cget l = r) {A : Option Addr} {c : Nat} {F : Nat → Prop} (w : World) (ha : Sl (Kd.slice Kd.byte) w F A c l) :
    Calls Tryz.prog 50 #[.slice A n c] w fun e w' => e = .returned (.tuple (cgV r)) ∧ Below w.heap.size w w' := by
  have Hr := Au.mk hr
  have Hn := Au.mk hn
  have hle := ha.le
  have hcn := ha.1
  rw [hn] at hle hcn
  have hb0 := (((Below.refl w.heap.size w).alloc (Nat.le_refl _) (.cells #[.slice A n c] 36)).alloc (by simp) (.cells nd0.cells.toArray 23)).alloc (by simp; omega) (.cells #[.int .i64 0] 3)
  have L0 : Au ((((w.alloc (.cells #[.slice A n c] 36)).alloc (.cells nd0.cells.toArray 23)).alloc (.cells #[.int .i64 0] 3)).heap[w.heap.size]? = some (.cells #[.slice A n c] 36 (0, 0))) := ⟨blk_alloc (blk_alloc (heap_alloc_new _ _) _) _⟩
  have N0 : Au ((((w.alloc (.cells #[.slice A n c] 36)).alloc (.cells nd0.cells.toArray 23)).alloc (.cells #[.int .i64 0] 3)).heap[w.heap.size + 1]? = some (.cells nd0.cells.toArray 23 (0, 0))) := ⟨blk_alloc (by have := heap_alloc_new (w.alloc (.cells #[.slice A n c] 36)) (.cells nd0.cells.toArray 23); simpa using this) _⟩
  have A0 : Au ((((w.alloc (.cells #[.slice A n c] 36)).alloc (.cells nd0.cells.toArray 23)).alloc (.cells #[.int .i64 0] 3)).heap[w.heap.size + 1 + 1]? = some (.cells #[.int .i64 ((0 : Nat) : Int)] 3 (0, 0))) := ⟨by have := heap_alloc_new ((w.alloc (.cells #[.slice A n c] 36)).alloc (.cells nd0.cells.toArray 23)) (.cells #[.int .i64 0] 3); simpa using this⟩
  have s0 := Au.mk ((((ha.old).alloc (.cells #[.slice A n c] 36)).alloc (.cells nd0.cells.toArray 23)).alloc (.cells #[.int .i64 0] 3))
  have z0 : (((w.alloc (.cells #[.slice A n c] 36)).alloc (.cells nd0.cells.toArray 23)).alloc (.cells #[.int .i64 0] 3)).heap.size = w.heap.size + 3 := by simp
  have hmf : ∀ (fn : Fn) (first cap : Array Value) (w : World), (Instr.makeFunc fn first cap).run Tryz.prog w = .ok (.func fn first cap) w := fun _ _ _ _ => rfl
  obtain ⟨⟨g0, is0⟩, Hc0⟩ := au (cnext l 0)
  clear ha hr hn
  go_enter Tryz.func50, Tryz.ntmps50
  go_upto_region 5 with fail
  have hW : (((w.alloc (.cells #[.slice A n c] 36)).alloc (.cells nd0.cells.toArray 23)).alloc (.cells #[.int .i64 0] 3)) = (((w.alloc (.cells #[.slice A n c] 36)).alloc (.cells #[.string ⟨#[]⟩, .string ⟨#[]⟩, .int .u8 0, .int .i64 0, .int .i64 0, .int .i64 0, .int .i64 0, .string ⟨#[]⟩] 23)).alloc (.cells #[.int .i64 0] 3)) := rfl
  rw [← hW]
  generalize (((w.alloc (.cells #[.slice A n c] 36)).alloc (.cells nd0.cells.toArray 23)).alloc (.cells #[.int .i64 0] 3)) = W0 at hb0 L0 N0 A0 s0 z0 ⊢
  clear hW
  go_wp2_with fail
  refine (cnext_calls l Hn.out 0 Hc0.out W0 s0.out A0.out L0.out (by omega) (by omega)).mono ?_
  rintro e w1 ⟨rfl, gr1, A1⟩
  have L1 := Au.mk (blk_grown L0.out gr1 (by simp; omega))
  have N1 := Au.mk (blk_grown N0.out gr1 (by simp))
  have s1 := Au.mk (s0.out.grown gr1 (fun g hg hk => by have : w.heap.size + 1 + 1 = g := by simpa using hg
                                                        omega))
  have e1 := below_of_grown hb0 gr1 (by omega) (by omega)
  have z1 := gr1.size
  clear gr1 L0 N0 A0 s0 hb0
  unfold Hd.agg
  go_upto_region 6 with fail
  have hb2 := (Below.refl w1.heap.size w1).alloc (Nat.le_refl _) (.cells g0.cells.toArray 104)
  have H2 : Au ((w1.alloc (.cells g0.cells.toArray 104)).heap[w1.heap.size]? = some (.cells g0.cells.toArray 104 (0, 0))) := ⟨heap_alloc_new _ _⟩
  have hW : (w1.alloc (.cells g0.cells.toArray 104)) = w1.alloc (.cells #[.string (ofL g0.name), .string (ofL g0.pre), .string (ofL g0.link), .int .i64 g0.mode, .int .i64 g0.uid, .int .i64 g0.gid, .int .i64 g0.size, .int .i64 g0.mtime, .int .u8 g0.ty.toNat, .int .i64 g0.off, .int .i64 g0.real] 104) := rfl
  rw [← hW]
  obtain ⟨gh, Hgh⟩ := au w1.heap.size
  have hgh : w.heap.size + 3 ≤ gh := by rw [← Hgh.out]; omega
  generalize w1.alloc (.cells g0.cells.toArray 104) = w2 at hb2 H2 ⊢
  have L2 := Au.mk (blk_below L1.out hb2 (lt_of_block L1.out))
  have N2 := Au.mk (blk_below N1.out hb2 (lt_of_block N1.out))
  have A2 := Au.mk (blk_below A1 hb2 (lt_of_block A1))
  have s2 := Au.mk (s1.out.below hb2)
  have e2 := below_then e1 hb2 e1.size
  rw [Hgh.out] at H2 ⊢
  clear hW hb2 L1 N1 A1 s1 e1 z1
  have HC1 := Hc0
  have hz2 : w.heap.size + 3 ≤ w2.heap.size := by have := lt_of_block H2.out; omega
  obtain ⟨t76, Ht76⟩ := au (g0.ty == 76)
  have ht76 : (((g0.ty.toNat : Nat) : Int) == 76) = t76 := by rw [← Ht76.out]; exact u8_eq _ 76 (by decide)
  cases is0
  · have hcg : Au (cget l = cfin l [] g0 false 1) := ⟨by
      unfold cget
      rw [Hc0.out]
      show (if (false && g0.ty == 76) = true then _ else cfin l [] g0 false 1) = _
      rw [if_neg (by simp)]⟩
    obtain ⟨k0, k1, k2, k3, k4, k5, k6, k7, k8, k9, k10⟩ := hd_cells g0 H2.out
    go_wp2_with fail
    refine (cno_calls _).mono ?_
    rintro e wn ⟨rfl, bn⟩
    have Nn := Au.mk (blk_below N2.out bn (lt_of_block N2.out))
    have en := below_then e2 bn e2.size
    obtain ⟨y0, y1, y2, y3, y4, y5, y6, y7⟩ := nd_cells nd0 Nn.out
    obtain ⟨x0, x1, x2, x3, x4, x5, x6, x7⟩ := nd_free' Nn.out
    have hrn : Au (r = none) := ⟨by rw [← Hr.out]; exact by rw [hcg.out]; unfold cfin; rfl⟩
    clear bn
    unfold cgV
    unfold Nd.agg
    go_wp2_with fail
    have Nm := setNd_block Nn.out nd0
    have em := setNd_below en (g := w.heap.size + 1) (by omega) nd0
    rw [hrn.out]
    exact ret_node5 rfl Nm rfl rfl rfl rfl rfl rfl ⟨rfl, em⟩
  cases t76
  · have hcg : Au (cget l = cfin l [] g0 true 1) := ⟨by
      unfold cget
      rw [Hc0.out]
      show (if (true && g0.ty == 76) = true then _ else cfin l [] g0 true 1) = _
      rw [if_neg (by rw [Ht76.out]; decide)]⟩
    obtain ⟨hF, hA1⟩ := cnext_yes HC1.out
    obtain ⟨hSn, hSp, hSl⟩ := cnext_S HC1.out
    have hRh := cnext_R HC1.out
    rw [Hn.out] at hA1
    have hat : (if 0 < n then 0 + 1 else 0 : Nat) = 1 := by rw [if_pos (by omega)]
    rw [hat] at A2
    obtain ⟨t77, Ht77⟩ := au (g0.ty == 77)
    have ht77' : (((g0.ty.toNat : Nat) : Int) == 77) = t77 := by rw [← Ht77.out]; exact u8_eq _ 77 (by decide)
    have ht77 : ((((g0.ty.toNat : Nat) : Int) != 77)) = !t77 := by
      show (!(((g0.ty.toNat : Nat) : Int) == 77)) = !t77
      rw [ht77']
    obtain ⟨k0, k1, k2, k3, k4, k5, k6, k7, k8, k9, k10⟩ := hd_cells g0 H2.out
    cases t77
    · go_wp2_with fail
      refine (cno_calls _).mono ?_
      rintro e wn ⟨rfl, bn⟩
      have Nn := Au.mk (blk_below N2.out bn (lt_of_block N2.out))
      have en := below_then e2 bn e2.size
      obtain ⟨y0, y1, y2, y3, y4, y5, y6, y7⟩ := nd_cells nd0 Nn.out
      obtain ⟨x0, x1, x2, x3, x4, x5, x6, x7⟩ := nd_free' Nn.out
      have hrn : Au (r = none) := ⟨by rw [← Hr.out]; exact by rw [hcg.out]; unfold cfin; rw [show (g0.ty != 77) = true by unfold bne; rw [Ht77.out]; rfl]; rfl⟩
      clear bn
      unfold cgV
      unfold Nd.agg
      go_wp2_with fail
      have Nm := setNd_block Nn.out nd0
      have em := setNd_below en (g := w.heap.size + 1) (by omega) nd0
      rw [hrn.out]
      exact ret_node5 rfl Nm rfl rfl rfl rfl rfl rfl ⟨rfl, em⟩
    obtain ⟨ho0, hre0⟩ := fits_nonneg hF (by simpa using Ht77.out)
    obtain ⟨pa, Hpa⟩ := au (g0.name)
    have hpl : pa.length ≤ 1000 := by rw [← Hpa.out]; omega
    have hcf : Au (cget l = if (cfits g0 pa && (cputB (cnode g0 pa) g0.off g0.real == l.take 1)) = true then some (cnode g0 pa, g0.off, g0.real, 1) else none) := ⟨by
      rw [hcg.out]; unfold cfin
      rw [show (g0.ty != 77) = false by unfold bne; rw [Ht77.out]; rfl, if_neg (by decide)]
      rw [if_pos rfl, Hpa.out]⟩
    rw [Hpa.out] at k0
    obtain ⟨nd, Hnd⟩ := au (cnode g0 pa)
    go_upto_region 17 with fail
    have hW : (w2.alloc (.cells (cnode g0 pa).cells.toArray 23)) = w2.alloc (.cells #[.string (ofL pa), .string ⟨#[]⟩, .int .u8 48, .int .i64 g0.mode, .int .i64 g0.uid, .int .i64 g0.gid, .int .i64 g0.mtime, .string ⟨#[]⟩] 23) := rfl
    rw [Hnd.out] at hW
    have hbq := (Below.refl w2.heap.size w2).alloc (Nat.le_refl _) (.cells nd.cells.toArray 23)
    have Qq : Au ((w2.alloc (.cells nd.cells.toArray 23)).heap[w2.heap.size]? = some (.cells nd.cells.toArray 23 (0, 0))) := ⟨heap_alloc_new _ _⟩
    rw [← hW]
    obtain ⟨gq, Hgq⟩ := au w2.heap.size
    have hgq : w.heap.size + 3 ≤ gq := by rw [← Hgq.out]; exact hz2
    rw [Hgq.out] at Qq ⊢
    generalize w2.alloc (.cells nd.cells.toArray 23) = wa at hbq Qq ⊢
    have La := Au.mk (blk_below L2.out hbq (lt_of_block L2.out))
    have Na := Au.mk (blk_below N2.out hbq (lt_of_block N2.out))
    have Aa := Au.mk (blk_below A2.out hbq (lt_of_block A2.out))
    have Ha := Au.mk (blk_below H2.out hbq (lt_of_block H2.out))
    have sa := Au.mk (s2.out.below hbq)
    have ea := below_then e2 hbq e2.size
    have Qa := Qq
    clear hW hbq k0 k1 k2 k3 k4 k5 k6 k7 k8 k9 k10
    obtain ⟨fp, Hfp⟩ := au (pmay pa)
    obtain ⟨ff, Hff⟩ := au (cfile nd)
    have hSq : Au nd.S := ⟨by rw [← Hnd.out]; exact ⟨hpl, by show ([] : List UInt8).length ≤ 1000; simp, by show ([] : List UInt8).length ≤ 10000; simp⟩⟩
    have hRq : Au nd.R := ⟨by rw [← Hnd.out]; exact ⟨hRh.1, hRh.2.1, hRh.2.2.1, hRh.2.2.2.2.1, by show pa.length ≤ maxLen; simp only [maxLen]; omega, by simp [cnode], by simp [cnode]⟩⟩
    have HF := Au.mk (fun W => cfile_calls nd hSq.out Hff.out W)
    unfold Nd.agg at HF
    obtain ⟨k0, k1, k2, k3, k4, k5, k6, k7, k8, k9, k10⟩ := hd_cells g0 Ha.out
    obtain ⟨n0, n1, n2, n3, n4, n5, n6, n7⟩ := nd_cells nd Qa.out
    go_wp2_with fail
    refine (pmay_calls pa (by omega) Hfp.out _).mono ?_
    rintro e wb ⟨rfl, bb⟩
    have Lb := Au.mk (blk_below La.out bb (lt_of_block La.out))
    have Nb := Au.mk (blk_below Na.out bb (lt_of_block Na.out))
    have Ab := Au.mk (blk_below Aa.out bb (lt_of_block Aa.out))
    have Hb := Au.mk (blk_below Ha.out bb (lt_of_block Ha.out))
    have sb := Au.mk (sa.out.below bb)
    have eb := below_then ea bb ea.size
    have Qb := Au.mk (blk_below Qa.out bb (lt_of_block Qa.out))
    clear bb
    clear k0 k1 k2 k3 k4 k5 k6 k7 k8 k9 k10 n0 n1 n2 n3 n4 n5 n6 n7
    obtain ⟨k0, k1, k2, k3, k4, k5, k6, k7, k8, k9, k10⟩ := hd_cells g0 Hb.out
    obtain ⟨n0, n1, n2, n3, n4, n5, n6, n7⟩ := nd_cells nd Qb.out
    cases fp
    · go_wp2_with fail
      go_quiet (fail)
      have Nz : Au ((wb.drewN nq).heap[w.heap.size + 1]? = some (.cells nd0.cells.toArray 23 (0, 0))) := ⟨Nb.out⟩
      have ez := below_drewN eb nq
      go_wp2_with fail
      refine (cno_calls _).mono ?_
      rintro e wn ⟨rfl, bn⟩
      have Nn := Au.mk (blk_below Nz.out bn (lt_of_block Nz.out))
      have en := below_then ez bn ez.size
      obtain ⟨y0, y1, y2, y3, y4, y5, y6, y7⟩ := nd_cells nd0 Nn.out
      obtain ⟨x0, x1, x2, x3, x4, x5, x6, x7⟩ := nd_free' Nn.out
      have hrn : Au (r = none) := ⟨by rw [← Hr.out]; exact by rw [hcf.out, if_neg (by unfold cfits; rw [Hfp.out]; simp)]⟩
      clear bn
      unfold cgV
      unfold Nd.agg
      go_wp2_with fail
      have Nm := setNd_block Nn.out nd0
      have em := setNd_below en (g := w.heap.size + 1) (by omega) nd0
      rw [hrn.out]
      exact ret_node5 rfl Nm rfl rfl rfl rfl rfl rfl ⟨rfl, em⟩
    go_wp2_with fail
    refine (HF.out _).mono ?_
    rintro e wc ⟨rfl, bc⟩
    have Lc := Au.mk (blk_below Lb.out bc (lt_of_block Lb.out))
    have Nc := Au.mk (blk_below Nb.out bc (lt_of_block Nb.out))
    have Ac := Au.mk (blk_below Ab.out bc (lt_of_block Ab.out))
    have Hc := Au.mk (blk_below Hb.out bc (lt_of_block Hb.out))
    have sc := Au.mk (sb.out.below bc)
    have ec := below_then eb bc eb.size
    have Qc := Au.mk (blk_below Qb.out bc (lt_of_block Qb.out))
    clear bc
    clear k0 k1 k2 k3 k4 k5 k6 k7 k8 k9 k10 n0 n1 n2 n3 n4 n5 n6 n7
    obtain ⟨k0, k1, k2, k3, k4, k5, k6, k7, k8, k9, k10⟩ := hd_cells g0 Hc.out
    obtain ⟨n0, n1, n2, n3, n4, n5, n6, n7⟩ := nd_cells nd Qc.out
    cases ff
    · go_wp2_with fail
      go_quiet (fail)
      have Nz : Au ((wc.drewN nq).heap[w.heap.size + 1]? = some (.cells nd0.cells.toArray 23 (0, 0))) := ⟨Nc.out⟩
      have ez := below_drewN ec nq
      go_wp2_with fail
      refine (cno_calls _).mono ?_
      rintro e wn ⟨rfl, bn⟩
      have Nn := Au.mk (blk_below Nz.out bn (lt_of_block Nz.out))
      have en := below_then ez bn ez.size
      obtain ⟨y0, y1, y2, y3, y4, y5, y6, y7⟩ := nd_cells nd0 Nn.out
      obtain ⟨x0, x1, x2, x3, x4, x5, x6, x7⟩ := nd_free' Nn.out
      have hrn : Au (r = none) := ⟨by rw [← Hr.out]; exact by rw [hcf.out, if_neg (by unfold cfits; rw [Hnd.out, Hff.out, Hfp.out]; simp)]⟩
      clear bn
      unfold cgV
      unfold Nd.agg
      go_wp2_with fail
      have Nm := setNd_block Nn.out nd0
      have em := setNd_below en (g := w.heap.size + 1) (by omega) nd0
      rw [hrn.out]
      exact ret_node5 rfl Nm rfl rfl rfl rfl rfl rfl ⟨rfl, em⟩
    by_cases hr4 : g0.real ≤ 4000
    rotate_left 1
    · have hr4' : decide (g0.real ≤ 4000) = false := by simpa using hr4
      go_wp2_with fail
      go_quiet (fail)
      have Nz : Au ((wc.drewN nq).heap[w.heap.size + 1]? = some (.cells nd0.cells.toArray 23 (0, 0))) := ⟨Nc.out⟩
      have ez := below_drewN ec nq
      go_wp2_with fail
      refine (cno_calls _).mono ?_
      rintro e wn ⟨rfl, bn⟩
      have Nn := Au.mk (blk_below Nz.out bn (lt_of_block Nz.out))
      have en := below_then ez bn ez.size
      obtain ⟨y0, y1, y2, y3, y4, y5, y6, y7⟩ := nd_cells nd0 Nn.out
      obtain ⟨x0, x1, x2, x3, x4, x5, x6, x7⟩ := nd_free' Nn.out
      have hrn : Au (r = none) := ⟨by rw [← Hr.out]; exact by rw [hcf.out, if_neg (by unfold cfits; rw [Hnd.out, Hff.out, Hfp.out, hr4']; simp)]⟩
      clear bn
      unfold cgV
      unfold Nd.agg
      go_wp2_with fail
      have Nm := setNd_block Nn.out nd0
      have em := setNd_below en (g := w.heap.size + 1) (by omega) nd0
      rw [hrn.out]
      exact ret_node5 rfl Nm rfl rfl rfl rfl rfl rfl ⟨rfl, em⟩
    by_cases hof : g0.off < g0.real
    rotate_left 1
    · have hof' : decide (g0.off < g0.real) = false := by simpa using hof
      go_wp2_with fail
      go_quiet (fail)
      have Nz : Au ((wc.drewN nq).heap[w.heap.size + 1]? = some (.cells nd0.cells.toArray 23 (0, 0))) := ⟨Nc.out⟩
      have ez := below_drewN ec nq
      go_wp2_with fail
      refine (cno_calls _).mono ?_
      rintro e wn ⟨rfl, bn⟩
      have Nn := Au.mk (blk_below Nz.out bn (lt_of_block Nz.out))
      have en := below_then ez bn ez.size
      obtain ⟨y0, y1, y2, y3, y4, y5, y6, y7⟩ := nd_cells nd0 Nn.out
      obtain ⟨x0, x1, x2, x3, x4, x5, x6, x7⟩ := nd_free' Nn.out
      have hrn : Au (r = none) := ⟨by rw [← Hr.out]; exact by rw [hcf.out, if_neg (by unfold cfits; rw [Hnd.out, Hff.out, Hfp.out, hof']; simp)]⟩
      clear bn
      unfold cgV
      unfold Nd.agg
      go_wp2_with fail
      have Nm := setNd_block Nn.out nd0
      have em := setNd_below en (g := w.heap.size + 1) (by omega) nd0
      rw [hrn.out]
      exact ret_node5 rfl Nm rfl rfl rfl rfl rfl rfl ⟨rfl, em⟩
    obtain ⟨fm, Hfm⟩ := au (g0.off % 512 == 0)
    have hfm := Hfm.out
    have htm : Int.tmod g0.off 512 = g0.off % 512 := Int.tmod_eq_emod_of_nonneg ho0
    cases fm
    · go_wp2_with fail
      go_quiet (fail)
      have Nz : Au ((wc.drewN nq).heap[w.heap.size + 1]? = some (.cells nd0.cells.toArray 23 (0, 0))) := ⟨Nc.out⟩
      have ez := below_drewN ec nq
      go_wp2_with fail
      refine (cno_calls _).mono ?_
      rintro e wn ⟨rfl, bn⟩
      have Nn := Au.mk (blk_below Nz.out bn (lt_of_block Nz.out))
      have en := below_then ez bn ez.size
      obtain ⟨y0, y1, y2, y3, y4, y5, y6, y7⟩ := nd_cells nd0 Nn.out
      obtain ⟨x0, x1, x2, x3, x4, x5, x6, x7⟩ := nd_free' Nn.out
      have hrn : Au (r = none) := ⟨by rw [← Hr.out]; exact by rw [hcf.out, if_neg (by unfold cfits; rw [Hnd.out, Hff.out, Hfp.out, hfm]; simp)]⟩
      clear bn
      unfold cgV
      unfold Nd.agg
      go_wp2_with fail
      have Nm := setNd_block Nn.out nd0
      have em := setNd_below en (g := w.heap.size + 1) (by omega) nd0
      rw [hrn.out]
      exact ret_node5 rfl Nm rfl rfl rfl rfl rfl rfl ⟨rfl, em⟩
    have hfit : Au (cfits g0 pa = true) := ⟨by unfold cfits; rw [Hnd.out, Hff.out, Hfp.out, hfm, decide_eq_true hr4, decide_eq_true hof]; rfl⟩
    obtain ⟨pl, Hpl⟩ := au (cputB nd g0.off g0.real)
    obtain ⟨eq, Heq⟩ := au (pl == l.take 1)
    have hmx : Tryz.prog.follows .mixedOrders = true := by kernel_rfl
    have hic : (1 : Int) ≤ c := by have := hcn; omega
    have HP := Au.mk (fun W => cputB_calls nd hSq.out hRq.out g0.off g0.real ⟨ho0, by omega⟩ ⟨hre0, by omega⟩ Hpl.out W)
    unfold Nd.agg at HP
    go_upto_region 18 with fail
    clear k0 k1 k2 k3 k4 k5 k6 k7 k8 k9 k10 n0 n1 n2 n3 n4 n5 n6 n7
    refine region_ord (fun w' => (w'.heap[w.heap.size]? = some (.cells #[.slice A n c] 36 (0, 0)) ∧ w'.heap[w.heap.size + 1 + 1]? = some (.cells #[.int .i64 ((1 : Nat) : Int)] 3 (0, 0)) ∧ w'.heap[gh]? = some (.cells g0.cells.toArray 104 (0, 0)) ∧ w'.heap[gq]? = some (.cells nd.cells.toArray 23 (0, 0)) ∧ w'.heap[w.heap.size + 1]? = some (.cells nd0.cells.toArray 23 (0, 0))) ∧ Sl (Kd.slice Kd.byte) w' (fun k => F k ∧ k < w.heap.size) A c l ∧ Below w.heap.size w w') [(true, 0), (true, 1), (true, 2), (true, 3), (true, 4), (true, 5), (true, 6), (true, 7), (true, 9), (true, 10), (true, 11), (false, 8), (false, 12), (true, 13), (true, 14)] hmx (by kernel_rfl) ⟨⟨Lc.out, Ac.out, Hc.out, Qc.out, Nc.out⟩, sc.out.drewN 1, below_drewN ec 1⟩ ?_
    simp only [ordL, List.getElem?_toArray, List.getElem?_cons_succ, List.getElem?_cons_zero]
    iterate 11
      refine ⟨?_, Or.inl ⟨by first | rfl | trivial, fun w' hw' => ?_⟩, ?_⟩
      rotate_left 1
      · obtain ⟨⟨q1, q2, q3, q4, q5⟩, -, -⟩ := hw'
        obtain ⟨k0, k1, k2, k3, k4, k5, k6, k7, k8, k9, k10⟩ := hd_cells g0 q3
        obtain ⟨n0, n1, n2, n3, n4, n5, n6, n7⟩ := nd_cells nd q4
        have ca := blk_cell q2 0 rfl
        have cl := blk_cell q1 0 rfl
        clear q1 q2 q3 q4 q5
        go_simp
        all_goals (with_reducible rfl)
      try simp only [Act.put, List.setIfInBounds_toArray, List.set_cons_zero, List.set_cons_succ]
    refine ⟨by first | rfl | trivial, ?_⟩
    go_simp
    refine (HP.out _).mono ?_
    rintro e wd ⟨A9, c9, rfl, s9, bd⟩
    have Ld : wd.heap[w.heap.size]? = _ := blk_below (w := wc.drew) Lc.out bd (lt_of_block Lc.out)
    have Nd' : wd.heap[w.heap.size + 1]? = _ := blk_below (w := wc.drew) Nc.out bd (lt_of_block Nc.out)
    have Ad : wd.heap[w.heap.size + 1 + 1]? = _ := blk_below (w := wc.drew) Ac.out bd (lt_of_block Ac.out)
    have Hd' : wd.heap[gh]? = _ := blk_below (w := wc.drew) Hc.out bd (lt_of_block Hc.out)
    have Qd : wd.heap[gq]? = _ := blk_below (w := wc.drew) Qc.out bd (lt_of_block Qc.out)
    have sd := (sc.out.drewN 1).below bd
    have ed := below_then (below_drewN ec 1) bd ec.size
    refine ⟨⟨⟨Ld, Ad, Hd', Qd, Nd'⟩, sd, ed⟩, ?_⟩
    try simp only [Act.put, List.setIfInBounds_toArray, List.set_cons_zero, List.set_cons_succ]
    first | (refine ⟨by first | rfl | trivial, ?_⟩; go_simp) | skip
    refine (bsame_calls pl (l.take 1) rfl (k' := 1) (by rw [List.length_take, Hn.out]; omega) Heq.out wd s9 (Sl.take rfl sd 1)).mono ?_
    rintro e we ⟨rfl, ⟨nde, rfl⟩⟩
    refine ⟨⟨⟨Ld, Ad, Hd', Qd, Nd'⟩, sd.drewN nde, below_drewN ed nde⟩, ?_⟩
    try simp only [Act.put, List.setIfInBounds_toArray, List.set_cons_zero, List.set_cons_succ]
    iterate 2
      refine ⟨?_, Or.inl ⟨by first | rfl | trivial, fun w' hw' => ?_⟩, ?_⟩
      rotate_left 1
      · clear hw'
        go_simp
        all_goals (with_reducible rfl)
      try simp only [Act.put, List.setIfInBounds_toArray, List.set_cons_zero, List.set_cons_succ]
    have ee := below_drewN ed nde
    have Ne : Au ((wd.drewN nde).heap[w.heap.size + 1]? = some (.cells nd0.cells.toArray 23 (0, 0))) := ⟨Nd'⟩
    have Ae : Au ((wd.drewN nde).heap[w.heap.size + 1 + 1]? = some (.cells #[.int .i64 ((1 : Nat) : Int)] 3 (0, 0))) := ⟨Ad⟩
    have He : Au ((wd.drewN nde).heap[gh]? = some (.cells g0.cells.toArray 104 (0, 0))) := ⟨Hd'⟩
    have Qe : Au ((wd.drewN nde).heap[gq]? = some (.cells nd.cells.toArray 23 (0, 0))) := ⟨Qd⟩
    clear Ld Nd' Ad Hd' Qd sd ed s9 bd
    generalize wd.drewN nde = wz at Ne Ae He Qe ee ⊢
    simp only [Calm]
    cases eq
    · go_wp2_with fail
      refine (cno_calls _).mono ?_
      rintro e wn ⟨rfl, bn⟩
      have Nn := Au.mk (blk_below Ne.out bn (lt_of_block Ne.out))
      have en := below_then ee bn ee.size
      obtain ⟨y0, y1, y2, y3, y4, y5, y6, y7⟩ := nd_cells nd0 Nn.out
      obtain ⟨x0, x1, x2, x3, x4, x5, x6, x7⟩ := nd_free' Nn.out
      have hrn : Au (r = none) := ⟨by rw [← Hr.out]; exact by rw [hcf.out, Hnd.out, Hpl.out, Heq.out]; simp⟩
      clear bn
      unfold cgV
      unfold Nd.agg
      go_wp2_with fail
      have Nm := setNd_block Nn.out nd0
      have em := setNd_below en (g := w.heap.size + 1) (by omega) nd0
      rw [hrn.out]
      exact ret_node5 rfl Nm rfl rfl rfl rfl rfl rfl ⟨rfl, em⟩
    have hrs : Au (r = some (nd, g0.off, g0.real, 1)) := ⟨by rw [← Hr.out, hcf.out, Hnd.out, Hpl.out, Heq.out, hfit.out]; rfl⟩
    go_upto_region 20 with fail
    refine region_ord (fun w' => w'.heap[w.heap.size + 1 + 1]? = some (.cells #[.int .i64 ((1 : Nat) : Int)] 3 (0, 0)) ∧ w'.heap[gh]? = some (.cells g0.cells.toArray 104 (0, 0)) ∧ w'.heap[gq]? = some (.cells nd.cells.toArray 23 (0, 0))) [(true, 0), (true, 1), (true, 2), (true, 3), (true, 4), (true, 5), (false, 6), (true, 7), (true, 8), (true, 9), (true, 10)] hmx (by kernel_rfl) ⟨Ae.out, He.out, Qe.out⟩ ?_
    simp only [ordL, List.getElem?_toArray, List.getElem?_cons_succ, List.getElem?_cons_zero]
    iterate 6
      refine ⟨?_, Or.inl ⟨by first | rfl | trivial, fun w' hw' => ?_⟩, ?_⟩
      rotate_left 1
      · obtain ⟨q2, q3, q4⟩ := hw'
        obtain ⟨k0, k1, k2, k3, k4, k5, k6, k7, k8, k9, k10⟩ := hd_cells g0 q3
        obtain ⟨n0, n1, n2, n3, n4, n5, n6, n7⟩ := nd_cells nd q4
        have ca := blk_cell q2 0 rfl
        clear q2 q3 q4
        go_simp
        all_goals (with_reducible rfl)
      try simp only [Act.put, List.setIfInBounds_toArray, List.set_cons_zero, List.set_cons_succ]
    refine ⟨by first | rfl | trivial, ?_⟩
    have Ny : Au (wz.drew.heap[w.heap.size + 1]? = some (.cells nd0.cells.toArray 23 (0, 0))) := ⟨Ne.out⟩
    have Ay : Au (wz.drew.heap[w.heap.size + 1 + 1]? = some (.cells #[.int .i64 ((1 : Nat) : Int)] 3 (0, 0))) := ⟨Ae.out⟩
    have Hy : Au (wz.drew.heap[gh]? = some (.cells g0.cells.toArray 104 (0, 0))) := ⟨He.out⟩
    have Qy : Au (wz.drew.heap[gq]? = some (.cells nd.cells.toArray 23 (0, 0))) := ⟨Qe.out⟩
    have ey : Below w.heap.size w wz.drew := below_drewN ee 1
    generalize wz.drew = wy at Ny Ay Hy Qy ey ⊢
    obtain ⟨y0, y1, y2, y3, y4, y5, y6, y7⟩ := nd_cells nd0 Ny.out
    obtain ⟨x0, x1, x2, x3, x4, x5, x6, x7⟩ := nd_free' Ny.out
    have NM := Au.mk (setNd_block Ny.out nd)
    have em := setNd_below ey (g := w.heap.size + 1) (by omega) nd
    have SA := Au.mk ((setNd_other (W := wy) (g := w.heap.size + 1) (k := w.heap.size + 1 + 1) (by omega) nd).trans Ay.out)
    have SH := Au.mk ((setNd_other (W := wy) (g := w.heap.size + 1) (k := gh) (by omega) nd).trans Hy.out)
    have SQ := Au.mk ((setNd_other (W := wy) (g := w.heap.size + 1) (k := gq) (by omega) nd).trans Qy.out)
    go_simp
    refine ⟨⟨SA.out, SH.out, SQ.out⟩, ?_⟩
    try simp only [Act.put, List.setIfInBounds_toArray, List.set_cons_zero, List.set_cons_succ]
    iterate 4
      refine ⟨?_, Or.inl ⟨by first | rfl | trivial, fun w' hw' => ?_⟩, ?_⟩
      rotate_left 1
      · clear hw'
        go_simp
        all_goals (with_reducible rfl)
      try simp only [Act.put, List.setIfInBounds_toArray, List.set_cons_zero, List.set_cons_succ]
    go_wp2_with fail
    simp only [Calm]
    go_wp2_with fail
    rw [hrs.out]
    exact ret_node5 rfl NM.out rfl rfl rfl rfl rfl rfl ⟨rfl, em⟩
  · obtain ⟨hF0, hA0⟩ := cnext_yes HC1.out
    rw [Hn.out] at hA0
    have hat0 : ((if 0 < n then 0 + 1 else 0 : Nat)) = 1 := by rw [if_pos (by omega)]
    rw [hat0] at A2
    have hszR := (cnext_R HC1.out).2.2.2.1
    have key : Au (cget l = (match l[1]? with
        | none => none
        | some b => if b.length ≠ 512 ∨ g0.size < 2 ∨ 301 < g0.size then none else cfin l (trimZ (b.take g0.size.toNat)) (cnext l 2).1 (cnext l 2).2 3)) := ⟨by
      unfold cget
      rw [Hc0.out]
      show (if (true && g0.ty == 76) = true then _ else _) = _
      rw [Ht76.out]; rfl⟩
    obtain ⟨k0, k1, k2, k3, k4, k5, k6, k7, k8, k9, k10⟩ := hd_cells g0 H2.out
    have ca := blk_cell A2.out 0 rfl
    have cl := blk_cell L2.out 0 rfl
    by_cases h1n : n ≤ 1
    · have h1n' : (n : Int) ≤ 1 := by omega
      go_wp2_with fail
      refine (cno_calls _).mono ?_
      rintro e wn ⟨rfl, bn⟩
      have Nn := Au.mk (blk_below N2.out bn (lt_of_block N2.out))
      have en := below_then e2 bn e2.size
      obtain ⟨y0, y1, y2, y3, y4, y5, y6, y7⟩ := nd_cells nd0 Nn.out
      obtain ⟨x0, x1, x2, x3, x4, x5, x6, x7⟩ := nd_free' Nn.out
      have hrn : Au (r = none) := ⟨by rw [← Hr.out]; exact by rw [key.out, List.getElem?_eq_none_iff.2 (by rw [Hn.out]; omega)]⟩
      clear bn
      unfold cgV
      unfold Nd.agg
      go_wp2_with fail
      have Nm := setNd_block Nn.out nd0
      have em := setNd_below en (g := w.heap.size + 1) (by omega) nd0
      rw [hrn.out]
      exact ret_node5 rfl Nm rfl rfl rfl rfl rfl rfl ⟨rfl, em⟩
    have h1n' : ¬ (n : Int) ≤ 1 := by omega
    obtain ⟨b, hb⟩ : ∃ b, l[1]? = some b := ⟨_, List.getElem?_eq_getElem (by rw [Hn.out]; omega)⟩
    rw [hb] at key
    obtain ⟨b5, o5, A5, c5, rfl, f5, s5⟩ := s2.out.slice_at hb
    have S5 := Au.mk s5
    obtain ⟨bl, Hbl⟩ := au b.length
    rw [Hbl.out] at f5
    clear hb s5
    by_cases hb512 : bl = 512
    rotate_left 1
    · have hb' : ((bl : Int) != 512) = true := by rw [bne_iff_ne]; omega
      go_wp2_with fail
      refine (cno_calls _).mono ?_
      rintro e wn ⟨rfl, bn⟩
      have Nn := Au.mk (blk_below N2.out bn (lt_of_block N2.out))
      have en := below_then e2 bn e2.size
      obtain ⟨y0, y1, y2, y3, y4, y5, y6, y7⟩ := nd_cells nd0 Nn.out
      obtain ⟨x0, x1, x2, x3, x4, x5, x6, x7⟩ := nd_free' Nn.out
      have hrn : Au (r = none) := ⟨by rw [← Hr.out]; exact by rw [key.out]; exact if_pos (.inl (by rw [Hbl.out]; exact hb512))⟩
      clear bn
      unfold cgV
      unfold Nd.agg
      go_wp2_with fail
      have Nm := setNd_block Nn.out nd0
      have em := setNd_below en (g := w.heap.size + 1) (by omega) nd0
      rw [hrn.out]
      exact ret_node5 rfl Nm rfl rfl rfl rfl rfl rfl ⟨rfl, em⟩
    subst hb512
    by_cases hs1 : g0.size < 2
    · have hs1' : decide (g0.size < 2) = true := by simpa using hs1
      go_wp2_with fail
      refine (cno_calls _).mono ?_
      rintro e wn ⟨rfl, bn⟩
      have Nn := Au.mk (blk_below N2.out bn (lt_of_block N2.out))
      have en := below_then e2 bn e2.size
      obtain ⟨y0, y1, y2, y3, y4, y5, y6, y7⟩ := nd_cells nd0 Nn.out
      obtain ⟨x0, x1, x2, x3, x4, x5, x6, x7⟩ := nd_free' Nn.out
      have hrn : Au (r = none) := ⟨by rw [← Hr.out]; exact by rw [key.out]; exact if_pos (.inr (.inl hs1))⟩
      clear bn
      unfold cgV
      unfold Nd.agg
      go_wp2_with fail
      have Nm := setNd_block Nn.out nd0
      have em := setNd_below en (g := w.heap.size + 1) (by omega) nd0
      rw [hrn.out]
      exact ret_node5 rfl Nm rfl rfl rfl rfl rfl rfl ⟨rfl, em⟩
    by_cases hs2 : 301 < g0.size
    · have hs2' : decide (301 < g0.size) = true := by simpa using hs2
      go_wp2_with fail
      refine (cno_calls _).mono ?_
      rintro e wn ⟨rfl, bn⟩
      have Nn := Au.mk (blk_below N2.out bn (lt_of_block N2.out))
      have en := below_then e2 bn e2.size
      obtain ⟨y0, y1, y2, y3, y4, y5, y6, y7⟩ := nd_cells nd0 Nn.out
      obtain ⟨x0, x1, x2, x3, x4, x5, x6, x7⟩ := nd_free' Nn.out
      have hrn : Au (r = none) := ⟨by rw [← Hr.out]; exact by rw [key.out]; exact if_pos (.inr (.inr hs2))⟩
      clear bn
      unfold cgV
      unfold Nd.agg
      go_wp2_with fail
      have Nm := setNd_block Nn.out nd0
      have em := setNd_below en (g := w.heap.size + 1) (by omega) nd0
      rw [hrn.out]
      exact ret_node5 rfl Nm rfl rfl rfl rfl rfl rfl ⟨rfl, em⟩
    obtain ⟨sz, hsz⟩ : ∃ sz : Nat, g0.size = (sz : Int) := ⟨g0.size.toNat, by omega⟩
    have hc5 : (512 : Nat) ≤ c5 := by have := S5.out.1; rw [Hbl.out] at this; exact this
    have hszc : (sz : Int) ≤ c5 := by omega
    have hsz0 : ¬ (sz : Int) < 0 := by omega
    have hsz1 : ¬ (sz : Int) < 2 := by omega
    have hsz2 : ¬ (301 : Int) < sz := by omega
    rw [hsz] at k6
    obtain ⟨d, Hdd⟩ := au (trimZ (b.take sz))
    have hbt : (b.take sz).length = sz := by rw [List.length_take, Hbl.out]; omega
    have hdl0 : 1 ≤ d.length ∧ d.length ≤ 301 := by
      rw [← Hdd.out]
      unfold trimZ
      split
      · rw [List.length_dropLast, hbt]; omega
      · rw [hbt]; omega
    have hdl : d.length ≤ 1000 := by omega
    have hdne : d ≠ [] := by rintro rfl; simp at hdl0
    have hde : ¬ ofL d = (⟨#[]⟩ : ByteArray) := fun e => hdne (ofL_inj (m := []) e)
    have ka : ∀ m, (convert 46 9 (.slice A5 sz c5)).run Tryz.prog (w2.drewN m) = .ok (.string (ofL (b.take sz))) (w2.drewN m) := fun m => by
      have := str_of ((Sl.take rfl S5.out sz).drewN m)
      rwa [hbt] at this
    have TQ := Au.mk (fun (W : World) (m : Nat) => (tsuf_calls (l := b.take sz) (d := d) Hdd.out (by rw [hbt]; omega) (W.drewN m)).mono fun e w' (h : e = .returned (.string (ofL d)) ∧ W.drewN m = w') => (⟨h.1, m, h.2.symm⟩ : e = .returned (.string (ofL d)) ∧ ∃ k, w' = W.drewN k))
    have hkey : Au (cget l = cfin l d (cnext l 2).1 (cnext l 2).2 3) := ⟨by
      rw [key.out]
      show (if _ then none else _) = _
      rw [if_neg (by rw [Hbl.out]; omega), hsz, Int.toNat_natCast, Hdd.out]⟩
    go_upto_region 9 with fail
    go_quiet (exact TQ.out _ _)
    have L3 : Au ((w2.drewN nq).heap[w.heap.size]? = _) := ⟨L2.out⟩
    have N3 : Au ((w2.drewN nq).heap[w.heap.size + 1]? = _) := ⟨N2.out⟩
    have A3 : Au ((w2.drewN nq).heap[w.heap.size + 1 + 1]? = _) := ⟨A2.out⟩
    have H3 : Au ((w2.drewN nq).heap[gh]? = _) := ⟨H2.out⟩
    have s3 := Au.mk (s2.out.drewN nq)
    have e3 := below_drewN e2 nq
    have hz3 : w.heap.size + 3 ≤ (w2.drewN nq).heap.size := hz2
    generalize w2.drewN nq = w3 at L3 N3 A3 H3 s3 e3 hz3 ⊢
    clear k0 k1 k2 k3 k4 k5 k6 k7 k8 k9 k10 ca cl f5 ka
    have ca := blk_cell A3.out 0 rfl
    have ua := blk_free A3.out 0
    go_upto_region 11 with fail
    have A4 := Au.mk (blk_set A3.out 0 (.int .i64 2))
    have e4 := e3.setCell (p := ⟨w.heap.size + 1 + 1, 0, none⟩) (by show w.heap.size ≤ w.heap.size + 1 + 1; omega) (.int .i64 2)
    have L4 := Au.mk ((Below.heap_setCell w3 ⟨w.heap.size + 1 + 1, 0, none⟩ (.int .i64 2) w.heap.size (by simp; omega)).trans L3.out)
    have N4 := Au.mk ((Below.heap_setCell w3 ⟨w.heap.size + 1 + 1, 0, none⟩ (.int .i64 2) (w.heap.size + 1) (by simp)).trans N3.out)
    have H4 := Au.mk ((Below.heap_setCell w3 ⟨w.heap.size + 1 + 1, 0, none⟩ (.int .i64 2) gh (by simp; omega)).trans H3.out)
    have s4 := Au.mk (s3.out.set (p := ⟨w.heap.size + 1 + 1, 0, none⟩) (.int .i64 2) (fun hk => by have := hk.2; simp at this; omega))
    have hz4 : w.heap.size + 3 ≤ (w3.setCell ⟨w.heap.size + 1 + 1, 0, none⟩ (.int .i64 2)).heap.size := by simp [World.setCell]; exact hz3
    generalize w3.setCell ⟨w.heap.size + 1 + 1, 0, none⟩ (.int .i64 2) = w4 at A4 e4 L4 N4 H4 s4 hz4 ⊢
    clear ca ua L3 N3 A3 H3 s3
    obtain ⟨⟨g2, is2⟩, HC3⟩ := au (cnext l 2)
    have hcg : Au (cget l = cfin l d g2 is2 3) := ⟨by rw [hkey.out, HC3.out]⟩
    go_wp2_with fail
    refine (cnext_calls l Hn.out 2 HC3.out w4 s4.out A4.out L4.out (by omega) (by omega)).mono ?_
    rintro e w5 ⟨rfl, gr5, A5'⟩
    have L5 := Au.mk (blk_grown L4.out gr5 (by simp; omega))
    have N5 := Au.mk (blk_grown N4.out gr5 (by simp))
    have H5 := Au.mk (blk_grown H4.out gr5 (by simp; omega))
    have s5 := Au.mk (s4.out.grown gr5 (fun g hg hk => by have : w.heap.size + 1 + 1 = g := by simpa using hg
                                                          omega))
    have e5 := below_of_grown e4 gr5 (by omega) (by omega)
    have hz5 : w.heap.size + 3 ≤ w5.heap.size := Nat.le_trans hz4 gr5.size
    have A5 := Au.mk A5'
    clear gr5 L4 N4 A4 s4 A5'
    obtain ⟨c0, c1, c2, c3, c4, c5', c6, c7, c8, c9, c10⟩ := hd_cells g0 H5.out
    obtain ⟨r0', r1, r2, r3, r4, r5, r6, r7, r8, r9, r10⟩ := hd_free H5.out
    unfold Hd.agg
    go_upto_region 12 with fail
    have H6 := Au.mk (setHd_block H5.out g2)
    have e6 := setHd_below e5 (g := gh) (by omega) g2
    have L6 := Au.mk ((setHd_other (W := w5) (g := gh) (k := w.heap.size) (by omega) g2).trans L5.out)
    have N6 := Au.mk ((setHd_other (W := w5) (g := gh) (k := w.heap.size + 1) (by omega) g2).trans N5.out)
    have A6 := Au.mk ((setHd_other (W := w5) (g := gh) (k := w.heap.size + 1 + 1) (by omega) g2).trans A5.out)
    have s6 := Au.mk (setHd_sl s5.out (g := gh) (fun hk => by have := hk.2; omega) g2)
    have hz6 : w.heap.size + 3 ≤ (setHd w5 gh g2).heap.size := by rw [setHd_size]; exact hz5
    unfold setHd at H6 e6 L6 N6 A6 s6 hz6
    clear c0 c1 c2 c3 c4 c5' c6 c7 c8 c9 c10 r0' r1 r2 r3 r4 r5 r6 r7 r8 r9 r10 L5 N5 H5 A5 s5
    revert H6 e6 L6 N6 A6 s6 hz6
    generalize ((((((((((w5.setCell ⟨gh, 0, none⟩ (.string (ofL g2.name))).setCell ⟨gh, 1, none⟩ (.string (ofL g2.pre))).setCell ⟨gh, 2, none⟩ (.string (ofL g2.link))).setCell ⟨gh, 3, none⟩ (.int .i64 g2.mode)).setCell ⟨gh, 4, none⟩ (.int .i64 g2.uid)).setCell ⟨gh, 5, none⟩ (.int .i64 g2.gid)).setCell ⟨gh, 6, none⟩ (.int .i64 g2.size)).setCell ⟨gh, 7, none⟩ (.int .i64 g2.mtime)).setCell ⟨gh, 8, none⟩ (.int .u8 g2.ty.toNat)).setCell ⟨gh, 9, none⟩ (.int .i64 g2.off)).setCell ⟨gh, 10, none⟩ (.int .i64 g2.real) = w6
    intro H6 e6 L6 N6 A6 s6 hz6
    cases is2
    · skip
      obtain ⟨k0, k1, k2, k3, k4, k5, k6, k7, k8, k9, k10⟩ := hd_cells g2 H6.out
      go_wp2_with fail
      refine (cno_calls _).mono ?_
      rintro e wn ⟨rfl, bn⟩
      have Nn := Au.mk (blk_below N6.out bn (lt_of_block N6.out))
      have en := below_then e6 bn e6.size
      obtain ⟨y0, y1, y2, y3, y4, y5, y6, y7⟩ := nd_cells nd0 Nn.out
      obtain ⟨x0, x1, x2, x3, x4, x5, x6, x7⟩ := nd_free' Nn.out
      have hrn : Au (r = none) := ⟨by rw [← Hr.out]; exact by rw [hcg.out]; unfold cfin; rfl⟩
      clear bn
      unfold cgV
      unfold Nd.agg
      go_wp2_with fail
      have Nm := setNd_block Nn.out nd0
      have em := setNd_below en (g := w.heap.size + 1) (by omega) nd0
      rw [hrn.out]
      exact ret_node5 rfl Nm rfl rfl rfl rfl rfl rfl ⟨rfl, em⟩
    obtain ⟨hF, hA3⟩ := cnext_yes HC3.out
    obtain ⟨hSn, hSp, hSl⟩ := cnext_S HC3.out
    have hRh := cnext_R HC3.out
    rw [Hn.out] at hA3
    have hat : (if 2 < n then 2 + 1 else 2 : Nat) = 3 := by rw [if_pos (by omega)]
    rw [hat] at A6
    obtain ⟨t77, Ht77⟩ := au (g2.ty == 77)
    have ht77' : (((g2.ty.toNat : Nat) : Int) == 77) = t77 := by rw [← Ht77.out]; exact u8_eq _ 77 (by decide)
    have ht77 : ((((g2.ty.toNat : Nat) : Int) != 77)) = !t77 := by
      show (!(((g2.ty.toNat : Nat) : Int) == 77)) = !t77
      rw [ht77']
    obtain ⟨k0, k1, k2, k3, k4, k5, k6, k7, k8, k9, k10⟩ := hd_cells g2 H6.out
    cases t77
    · go_wp2_with fail
      refine (cno_calls _).mono ?_
      rintro e wn ⟨rfl, bn⟩
      have Nn := Au.mk (blk_below N6.out bn (lt_of_block N6.out))
      have en := below_then e6 bn e6.size
      obtain ⟨y0, y1, y2, y3, y4, y5, y6, y7⟩ := nd_cells nd0 Nn.out
      obtain ⟨x0, x1, x2, x3, x4, x5, x6, x7⟩ := nd_free' Nn.out
      have hrn : Au (r = none) := ⟨by rw [← Hr.out]; exact by rw [hcg.out]; unfold cfin; rw [show (g2.ty != 77) = true by unfold bne; rw [Ht77.out]; rfl]; rfl⟩
      clear bn
      unfold cgV
      unfold Nd.agg
      go_wp2_with fail
      have Nm := setNd_block Nn.out nd0
      have em := setNd_below en (g := w.heap.size + 1) (by omega) nd0
      rw [hrn.out]
      exact ret_node5 rfl Nm rfl rfl rfl rfl rfl rfl ⟨rfl, em⟩
    obtain ⟨ho0, hre0⟩ := fits_nonneg hF (by simpa using Ht77.out)
    obtain ⟨pa, Hpa⟩ := au (d)
    have hpl : pa.length ≤ 1000 := by rw [← Hpa.out]; exact hdl
    have hcf : Au (cget l = if (cfits g2 pa && (cputB (cnode g2 pa) g2.off g2.real == l.take 3)) = true then some (cnode g2 pa, g2.off, g2.real, 3) else none) := ⟨by
      rw [hcg.out]; unfold cfin
      rw [show (g2.ty != 77) = false by unfold bne; rw [Ht77.out]; rfl, if_neg (by decide)]
      rw [if_neg hdne, Hpa.out]⟩
    rw [Hpa.out]
    have hde2 : pa.isEmpty = false := by rw [← Hpa.out]; simpa using hdne
    obtain ⟨nd, Hnd⟩ := au (cnode g2 pa)
    go_upto_region 17 with fail
    have hW : (w6.alloc (.cells (cnode g2 pa).cells.toArray 23)) = w6.alloc (.cells #[.string (ofL pa), .string ⟨#[]⟩, .int .u8 48, .int .i64 g2.mode, .int .i64 g2.uid, .int .i64 g2.gid, .int .i64 g2.mtime, .string ⟨#[]⟩] 23) := rfl
    rw [Hnd.out] at hW
    have hbq := (Below.refl w6.heap.size w6).alloc (Nat.le_refl _) (.cells nd.cells.toArray 23)
    have Qq : Au ((w6.alloc (.cells nd.cells.toArray 23)).heap[w6.heap.size]? = some (.cells nd.cells.toArray 23 (0, 0))) := ⟨heap_alloc_new _ _⟩
    rw [← hW]
    obtain ⟨gq, Hgq⟩ := au w6.heap.size
    have hgq : w.heap.size + 3 ≤ gq := by rw [← Hgq.out]; exact hz6
    rw [Hgq.out] at Qq ⊢
    generalize w6.alloc (.cells nd.cells.toArray 23) = wa at hbq Qq ⊢
    have La := Au.mk (blk_below L6.out hbq (lt_of_block L6.out))
    have Na := Au.mk (blk_below N6.out hbq (lt_of_block N6.out))
    have Aa := Au.mk (blk_below A6.out hbq (lt_of_block A6.out))
    have Ha := Au.mk (blk_below H6.out hbq (lt_of_block H6.out))
    have sa := Au.mk (s6.out.below hbq)
    have ea := below_then e6 hbq e6.size
    have Qa := Qq
    clear hW hbq k0 k1 k2 k3 k4 k5 k6 k7 k8 k9 k10
    obtain ⟨fp, Hfp⟩ := au (pmay pa)
    obtain ⟨ff, Hff⟩ := au (cfile nd)
    have hSq : Au nd.S := ⟨by rw [← Hnd.out]; exact ⟨hpl, by show ([] : List UInt8).length ≤ 1000; simp, by show ([] : List UInt8).length ≤ 10000; simp⟩⟩
    have hRq : Au nd.R := ⟨by rw [← Hnd.out]; exact ⟨hRh.1, hRh.2.1, hRh.2.2.1, hRh.2.2.2.2.1, by show pa.length ≤ maxLen; simp only [maxLen]; omega, by simp [cnode], by simp [cnode]⟩⟩
    have HF := Au.mk (fun W => cfile_calls nd hSq.out Hff.out W)
    unfold Nd.agg at HF
    obtain ⟨k0, k1, k2, k3, k4, k5, k6, k7, k8, k9, k10⟩ := hd_cells g2 Ha.out
    obtain ⟨n0, n1, n2, n3, n4, n5, n6, n7⟩ := nd_cells nd Qa.out
    go_wp2_with fail
    refine (pmay_calls pa (by omega) Hfp.out _).mono ?_
    rintro e wb ⟨rfl, bb⟩
    have Lb := Au.mk (blk_below La.out bb (lt_of_block La.out))
    have Nb := Au.mk (blk_below Na.out bb (lt_of_block Na.out))
    have Ab := Au.mk (blk_below Aa.out bb (lt_of_block Aa.out))
    have Hb := Au.mk (blk_below Ha.out bb (lt_of_block Ha.out))
    have sb := Au.mk (sa.out.below bb)
    have eb := below_then ea bb ea.size
    have Qb := Au.mk (blk_below Qa.out bb (lt_of_block Qa.out))
    clear bb
    clear k0 k1 k2 k3 k4 k5 k6 k7 k8 k9 k10 n0 n1 n2 n3 n4 n5 n6 n7
    obtain ⟨k0, k1, k2, k3, k4, k5, k6, k7, k8, k9, k10⟩ := hd_cells g2 Hb.out
    obtain ⟨n0, n1, n2, n3, n4, n5, n6, n7⟩ := nd_cells nd Qb.out
    cases fp
    · go_wp2_with fail
      go_quiet (fail)
      have Nz : Au ((wb.drewN nq).heap[w.heap.size + 1]? = some (.cells nd0.cells.toArray 23 (0, 0))) := ⟨Nb.out⟩
      have ez := below_drewN eb nq
      go_wp2_with fail
      refine (cno_calls _).mono ?_
      rintro e wn ⟨rfl, bn⟩
      have Nn := Au.mk (blk_below Nz.out bn (lt_of_block Nz.out))
      have en := below_then ez bn ez.size
      obtain ⟨y0, y1, y2, y3, y4, y5, y6, y7⟩ := nd_cells nd0 Nn.out
      obtain ⟨x0, x1, x2, x3, x4, x5, x6, x7⟩ := nd_free' Nn.out
      have hrn : Au (r = none) := ⟨by rw [← Hr.out]; exact by rw [hcf.out, if_neg (by unfold cfits; rw [Hfp.out]; simp)]⟩
      clear bn
      unfold cgV
      unfold Nd.agg
      go_wp2_with fail
      have Nm := setNd_block Nn.out nd0
      have em := setNd_below en (g := w.heap.size + 1) (by omega) nd0
      rw [hrn.out]
      exact ret_node5 rfl Nm rfl rfl rfl rfl rfl rfl ⟨rfl, em⟩
    go_wp2_with fail
    refine (HF.out _).mono ?_
    rintro e wc ⟨rfl, bc⟩
    have Lc := Au.mk (blk_below Lb.out bc (lt_of_block Lb.out))
    have Nc := Au.mk (blk_below Nb.out bc (lt_of_block Nb.out))
    have Ac := Au.mk (blk_below Ab.out bc (lt_of_block Ab.out))
    have Hc := Au.mk (blk_below Hb.out bc (lt_of_block Hb.out))
    have sc := Au.mk (sb.out.below bc)
    have ec := below_then eb bc eb.size
    have Qc := Au.mk (blk_below Qb.out bc (lt_of_block Qb.out))
    clear bc
    clear k0 k1 k2 k3 k4 k5 k6 k7 k8 k9 k10 n0 n1 n2 n3 n4 n5 n6 n7
    obtain ⟨k0, k1, k2, k3, k4, k5, k6, k7, k8, k9, k10⟩ := hd_cells g2 Hc.out
    obtain ⟨n0, n1, n2, n3, n4, n5, n6, n7⟩ := nd_cells nd Qc.out
    cases ff
    · go_wp2_with fail
      go_quiet (fail)
      have Nz : Au ((wc.drewN nq).heap[w.heap.size + 1]? = some (.cells nd0.cells.toArray 23 (0, 0))) := ⟨Nc.out⟩
      have ez := below_drewN ec nq
      go_wp2_with fail
      refine (cno_calls _).mono ?_
      rintro e wn ⟨rfl, bn⟩
      have Nn := Au.mk (blk_below Nz.out bn (lt_of_block Nz.out))
      have en := below_then ez bn ez.size
      obtain ⟨y0, y1, y2, y3, y4, y5, y6, y7⟩ := nd_cells nd0 Nn.out
      obtain ⟨x0, x1, x2, x3, x4, x5, x6, x7⟩ := nd_free' Nn.out
      have hrn : Au (r = none) := ⟨by rw [← Hr.out]; exact by rw [hcf.out, if_neg (by unfold cfits; rw [Hnd.out, Hff.out, Hfp.out]; simp)]⟩
      clear bn
      unfold cgV
      unfold Nd.agg
      go_wp2_with fail
      have Nm := setNd_block Nn.out nd0
      have em := setNd_below en (g := w.heap.size + 1) (by omega) nd0
      rw [hrn.out]
      exact ret_node5 rfl Nm rfl rfl rfl rfl rfl rfl ⟨rfl, em⟩
    by_cases hr4 : g2.real ≤ 4000
    rotate_left 1
    · have hr4' : decide (g2.real ≤ 4000) = false := by simpa using hr4
      go_wp2_with fail
      go_quiet (fail)
      have Nz : Au ((wc.drewN nq).heap[w.heap.size + 1]? = some (.cells nd0.cells.toArray 23 (0, 0))) := ⟨Nc.out⟩
      have ez := below_drewN ec nq
      go_wp2_with fail
      refine (cno_calls _).mono ?_
      rintro e wn ⟨rfl, bn⟩
      have Nn := Au.mk (blk_below Nz.out bn (lt_of_block Nz.out))
      have en := below_then ez bn ez.size
      obtain ⟨y0, y1, y2, y3, y4, y5, y6, y7⟩ := nd_cells nd0 Nn.out
      obtain ⟨x0, x1, x2, x3, x4, x5, x6, x7⟩ := nd_free' Nn.out
      have hrn : Au (r = none) := ⟨by rw [← Hr.out]; exact by rw [hcf.out, if_neg (by unfold cfits; rw [Hnd.out, Hff.out, Hfp.out, hr4']; simp)]⟩
      clear bn
      unfold cgV
      unfold Nd.agg
      go_wp2_with fail
      have Nm := setNd_block Nn.out nd0
      have em := setNd_below en (g := w.heap.size + 1) (by omega) nd0
      rw [hrn.out]
      exact ret_node5 rfl Nm rfl rfl rfl rfl rfl rfl ⟨rfl, em⟩
    by_cases hof : g2.off < g2.real
    rotate_left 1
    · have hof' : decide (g2.off < g2.real) = false := by simpa using hof
      go_wp2_with fail
      go_quiet (fail)
      have Nz : Au ((wc.drewN nq).heap[w.heap.size + 1]? = some (.cells nd0.cells.toArray 23 (0, 0))) := ⟨Nc.out⟩
      have ez := below_drewN ec nq
      go_wp2_with fail
      refine (cno_calls _).mono ?_
      rintro e wn ⟨rfl, bn⟩
      have Nn := Au.mk (blk_below Nz.out bn (lt_of_block Nz.out))
      have en := below_then ez bn ez.size
      obtain ⟨y0, y1, y2, y3, y4, y5, y6, y7⟩ := nd_cells nd0 Nn.out
      obtain ⟨x0, x1, x2, x3, x4, x5, x6, x7⟩ := nd_free' Nn.out
      have hrn : Au (r = none) := ⟨by rw [← Hr.out]; exact by rw [hcf.out, if_neg (by unfold cfits; rw [Hnd.out, Hff.out, Hfp.out, hof']; simp)]⟩
      clear bn
      unfold cgV
      unfold Nd.agg
      go_wp2_with fail
      have Nm := setNd_block Nn.out nd0
      have em := setNd_below en (g := w.heap.size + 1) (by omega) nd0
      rw [hrn.out]
      exact ret_node5 rfl Nm rfl rfl rfl rfl rfl rfl ⟨rfl, em⟩
    obtain ⟨fm, Hfm⟩ := au (g2.off % 512 == 0)
    have hfm := Hfm.out
    have htm : Int.tmod g2.off 512 = g2.off % 512 := Int.tmod_eq_emod_of_nonneg ho0
    cases fm
    · go_wp2_with fail
      go_quiet (fail)
      have Nz : Au ((wc.drewN nq).heap[w.heap.size + 1]? = some (.cells nd0.cells.toArray 23 (0, 0))) := ⟨Nc.out⟩
      have ez := below_drewN ec nq
      go_wp2_with fail
      refine (cno_calls _).mono ?_
      rintro e wn ⟨rfl, bn⟩
      have Nn := Au.mk (blk_below Nz.out bn (lt_of_block Nz.out))
      have en := below_then ez bn ez.size
      obtain ⟨y0, y1, y2, y3, y4, y5, y6, y7⟩ := nd_cells nd0 Nn.out
      obtain ⟨x0, x1, x2, x3, x4, x5, x6, x7⟩ := nd_free' Nn.out
      have hrn : Au (r = none) := ⟨by rw [← Hr.out]; exact by rw [hcf.out, if_neg (by unfold cfits; rw [Hnd.out, Hff.out, Hfp.out, hfm]; simp)]⟩
      clear bn
      unfold cgV
      unfold Nd.agg
      go_wp2_with fail
      have Nm := setNd_block Nn.out nd0
      have em := setNd_below en (g := w.heap.size + 1) (by omega) nd0
      rw [hrn.out]
      exact ret_node5 rfl Nm rfl rfl rfl rfl rfl rfl ⟨rfl, em⟩
    have hfit : Au (cfits g2 pa = true) := ⟨by unfold cfits; rw [Hnd.out, Hff.out, Hfp.out, hfm, decide_eq_true hr4, decide_eq_true hof]; rfl⟩
    obtain ⟨pl, Hpl⟩ := au (cputB nd g2.off g2.real)
    obtain ⟨eq, Heq⟩ := au (pl == l.take 3)
    have hmx : Tryz.prog.follows .mixedOrders = true := by kernel_rfl
    have hic : (3 : Int) ≤ c := by have := hcn; omega
    have HP := Au.mk (fun W => cputB_calls nd hSq.out hRq.out g2.off g2.real ⟨ho0, by omega⟩ ⟨hre0, by omega⟩ Hpl.out W)
    unfold Nd.agg at HP
    go_upto_region 18 with fail
    clear k0 k1 k2 k3 k4 k5 k6 k7 k8 k9 k10 n0 n1 n2 n3 n4 n5 n6 n7
    refine region_ord (fun w' => (w'.heap[w.heap.size]? = some (.cells #[.slice (some ⟨b5, o5, none⟩) n c] 36 (0, 0)) ∧ w'.heap[w.heap.size + 1 + 1]? = some (.cells #[.int .i64 ((3 : Nat) : Int)] 3 (0, 0)) ∧ w'.heap[gh]? = some (.cells g2.cells.toArray 104 (0, 0)) ∧ w'.heap[gq]? = some (.cells nd.cells.toArray 23 (0, 0)) ∧ w'.heap[w.heap.size + 1]? = some (.cells nd0.cells.toArray 23 (0, 0))) ∧ Sl (Kd.slice Kd.byte) w' (fun k => F k ∧ k < w.heap.size) (some ⟨b5, o5, none⟩) c l ∧ Below w.heap.size w w') [(true, 0), (true, 1), (true, 2), (true, 3), (true, 4), (true, 5), (true, 6), (true, 7), (true, 9), (true, 10), (true, 11), (false, 8), (false, 12), (true, 13), (true, 14)] hmx (by kernel_rfl) ⟨⟨Lc.out, Ac.out, Hc.out, Qc.out, Nc.out⟩, sc.out.drewN 1, below_drewN ec 1⟩ ?_
    simp only [ordL, List.getElem?_toArray, List.getElem?_cons_succ, List.getElem?_cons_zero]
    iterate 11
      refine ⟨?_, Or.inl ⟨by first | rfl | trivial, fun w' hw' => ?_⟩, ?_⟩
      rotate_left 1
      · obtain ⟨⟨q1, q2, q3, q4, q5⟩, -, -⟩ := hw'
        obtain ⟨k0, k1, k2, k3, k4, k5, k6, k7, k8, k9, k10⟩ := hd_cells g2 q3
        obtain ⟨n0, n1, n2, n3, n4, n5, n6, n7⟩ := nd_cells nd q4
        have ca := blk_cell q2 0 rfl
        have cl := blk_cell q1 0 rfl
        clear q1 q2 q3 q4 q5
        go_simp
        all_goals (with_reducible rfl)
      try simp only [Act.put, List.setIfInBounds_toArray, List.set_cons_zero, List.set_cons_succ]
    refine ⟨by first | rfl | trivial, ?_⟩
    go_simp
    refine (HP.out _).mono ?_
    rintro e wd ⟨A9, c9, rfl, s9, bd⟩
    have Ld : wd.heap[w.heap.size]? = _ := blk_below (w := wc.drew) Lc.out bd (lt_of_block Lc.out)
    have Nd' : wd.heap[w.heap.size + 1]? = _ := blk_below (w := wc.drew) Nc.out bd (lt_of_block Nc.out)
    have Ad : wd.heap[w.heap.size + 1 + 1]? = _ := blk_below (w := wc.drew) Ac.out bd (lt_of_block Ac.out)
    have Hd' : wd.heap[gh]? = _ := blk_below (w := wc.drew) Hc.out bd (lt_of_block Hc.out)
    have Qd : wd.heap[gq]? = _ := blk_below (w := wc.drew) Qc.out bd (lt_of_block Qc.out)
    have sd := (sc.out.drewN 1).below bd
    have ed := below_then (below_drewN ec 1) bd ec.size
    refine ⟨⟨⟨Ld, Ad, Hd', Qd, Nd'⟩, sd, ed⟩, ?_⟩
    try simp only [Act.put, List.setIfInBounds_toArray, List.set_cons_zero, List.set_cons_succ]
    first | (refine ⟨by first | rfl | trivial, ?_⟩; go_simp) | skip
    refine (bsame_calls pl (l.take 3) rfl (k' := 3) (by rw [List.length_take, Hn.out]; omega) Heq.out wd s9 (Sl.take rfl sd 3)).mono ?_
    rintro e we ⟨rfl, ⟨nde, rfl⟩⟩
    refine ⟨⟨⟨Ld, Ad, Hd', Qd, Nd'⟩, sd.drewN nde, below_drewN ed nde⟩, ?_⟩
    try simp only [Act.put, List.setIfInBounds_toArray, List.set_cons_zero, List.set_cons_succ]
    iterate 2
      refine ⟨?_, Or.inl ⟨by first | rfl | trivial, fun w' hw' => ?_⟩, ?_⟩
      rotate_left 1
      · clear hw'
        go_simp
        all_goals (with_reducible rfl)
      try simp only [Act.put, List.setIfInBounds_toArray, List.set_cons_zero, List.set_cons_succ]
    have ee := below_drewN ed nde
    have Ne : Au ((wd.drewN nde).heap[w.heap.size + 1]? = some (.cells nd0.cells.toArray 23 (0, 0))) := ⟨Nd'⟩
    have Ae : Au ((wd.drewN nde).heap[w.heap.size + 1 + 1]? = some (.cells #[.int .i64 ((3 : Nat) : Int)] 3 (0, 0))) := ⟨Ad⟩
    have He : Au ((wd.drewN nde).heap[gh]? = some (.cells g2.cells.toArray 104 (0, 0))) := ⟨Hd'⟩
    have Qe : Au ((wd.drewN nde).heap[gq]? = some (.cells nd.cells.toArray 23 (0, 0))) := ⟨Qd⟩
    clear Ld Nd' Ad Hd' Qd sd ed s9 bd
    generalize wd.drewN nde = wz at Ne Ae He Qe ee ⊢
    simp only [Calm]
    cases eq
    · go_wp2_with fail
      refine (cno_calls _).mono ?_
      rintro e wn ⟨rfl, bn⟩
      have Nn := Au.mk (blk_below Ne.out bn (lt_of_block Ne.out))
      have en := below_then ee bn ee.size
      obtain ⟨y0, y1, y2, y3, y4, y5, y6, y7⟩ := nd_cells nd0 Nn.out
      obtain ⟨x0, x1, x2, x3, x4, x5, x6, x7⟩ := nd_free' Nn.out
      have hrn : Au (r = none) := ⟨by rw [← Hr.out]; exact by rw [hcf.out, Hnd.out, Hpl.out, Heq.out]; simp⟩
      clear bn
      unfold cgV
      unfold Nd.agg
      go_wp2_with fail
      have Nm := setNd_block Nn.out nd0
      have em := setNd_below en (g := w.heap.size + 1) (by omega) nd0
      rw [hrn.out]
      exact ret_node5 rfl Nm rfl rfl rfl rfl rfl rfl ⟨rfl, em⟩
    have hrs : Au (r = some (nd, g2.off, g2.real, 3)) := ⟨by rw [← Hr.out, hcf.out, Hnd.out, Hpl.out, Heq.out, hfit.out]; rfl⟩
    go_upto_region 20 with fail
    refine region_ord (fun w' => w'.heap[w.heap.size + 1 + 1]? = some (.cells #[.int .i64 ((3 : Nat) : Int)] 3 (0, 0)) ∧ w'.heap[gh]? = some (.cells g2.cells.toArray 104 (0, 0)) ∧ w'.heap[gq]? = some (.cells nd.cells.toArray 23 (0, 0))) [(true, 0), (true, 1), (true, 2), (true, 3), (true, 4), (true, 5), (false, 6), (true, 7), (true, 8), (true, 9), (true, 10)] hmx (by kernel_rfl) ⟨Ae.out, He.out, Qe.out⟩ ?_
    simp only [ordL, List.getElem?_toArray, List.getElem?_cons_succ, List.getElem?_cons_zero]
    iterate 6
      refine ⟨?_, Or.inl ⟨by first | rfl | trivial, fun w' hw' => ?_⟩, ?_⟩
      rotate_left 1
      · obtain ⟨q2, q3, q4⟩ := hw'
        obtain ⟨k0, k1, k2, k3, k4, k5, k6, k7, k8, k9, k10⟩ := hd_cells g2 q3
        obtain ⟨n0, n1, n2, n3, n4, n5, n6, n7⟩ := nd_cells nd q4
        have ca := blk_cell q2 0 rfl
        clear q2 q3 q4
        go_simp
        all_goals (with_reducible rfl)
      try simp only [Act.put, List.setIfInBounds_toArray, List.set_cons_zero, List.set_cons_succ]
    refine ⟨by first | rfl | trivial, ?_⟩
    have Ny : Au (wz.drew.heap[w.heap.size + 1]? = some (.cells nd0.cells.toArray 23 (0, 0))) := ⟨Ne.out⟩
    have Ay : Au (wz.drew.heap[w.heap.size + 1 + 1]? = some (.cells #[.int .i64 ((3 : Nat) : Int)] 3 (0, 0))) := ⟨Ae.out⟩
    have Hy : Au (wz.drew.heap[gh]? = some (.cells g2.cells.toArray 104 (0, 0))) := ⟨He.out⟩
    have Qy : Au (wz.drew.heap[gq]? = some (.cells nd.cells.toArray 23 (0, 0))) := ⟨Qe.out⟩
    have ey : Below w.heap.size w wz.drew := below_drewN ee 1
    generalize wz.drew = wy at Ny Ay Hy Qy ey ⊢
    obtain ⟨y0, y1, y2, y3, y4, y5, y6, y7⟩ := nd_cells nd0 Ny.out
    obtain ⟨x0, x1, x2, x3, x4, x5, x6, x7⟩ := nd_free' Ny.out
    have NM := Au.mk (setNd_block Ny.out nd)
    have em := setNd_below ey (g := w.heap.size + 1) (by omega) nd
    have SA := Au.mk ((setNd_other (W := wy) (g := w.heap.size + 1) (k := w.heap.size + 1 + 1) (by omega) nd).trans Ay.out)
    have SH := Au.mk ((setNd_other (W := wy) (g := w.heap.size + 1) (k := gh) (by omega) nd).trans Hy.out)
    have SQ := Au.mk ((setNd_other (W := wy) (g := w.heap.size + 1) (k := gq) (by omega) nd).trans Qy.out)
    go_simp
    refine ⟨⟨SA.out, SH.out, SQ.out⟩, ?_⟩
    try simp only [Act.put, List.setIfInBounds_toArray, List.set_cons_zero, List.set_cons_succ]
    iterate 4
      refine ⟨?_, Or.inl ⟨by first | rfl | trivial, fun w' hw' => ?_⟩, ?_⟩
      rotate_left 1
      · clear hw'
        go_simp
        all_goals (with_reducible rfl)
      try simp only [Act.put, List.setIfInBounds_toArray, List.set_cons_zero, List.set_cons_succ]
    go_wp2_with fail
    simp only [Calm]
    go_wp2_with fail
    rw [hrs.out]
    exact ret_node5 rfl NM.out rfl rfl rfl rfl rfl rfl ⟨rfl, em⟩
end Go.Proofs.YtldhcknjpmbgnaaGreatDoor.Rk
