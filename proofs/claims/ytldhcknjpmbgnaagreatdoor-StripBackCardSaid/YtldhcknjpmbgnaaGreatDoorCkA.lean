/- Check: may a record, a tape be, walked. -/
import Derived.Test.YtldhcknjpmbgnaaGreatDoorKndS
import Derived.Test.YtldhcknjpmbgnaaGreatDoorMrkS
namespace Go.Proofs.YtldhcknjpmbgnaaGreatDoor.Rk
open Go.RowKit Go.Shelf
set_option linter.unusedVariables false
set_option linter.unusedSimpArgs false
set_option maxRecDepth 100000

theorem factor_calls (n : Nat) {r : Bool} (hr : (decide (1 ≤ n) && decide (n ≤ 20)) = r) (w : World) : Calls Tryz.prog 107 #[.int .i64 (n : Int)] w fun e w' => e = .returned (.bool r) ∧ w = w' := by
  obtain ⟨x, A1⟩ := au (decide (1 ≤ n))
  obtain ⟨y, B1⟩ := au (decide (n ≤ 20))
  rw [A1.out, B1.out] at hr
  have a1 : decide ((1 : Int) ≤ (n : Int)) = x := by rw [← A1.out, decide_eq_decide]; omega
  have b1 : decide ((n : Int) ≤ 20) = y := by rw [← B1.out, decide_eq_decide]; omega
  have Hr := Au.mk hr
  clear hr
  cases x <;> cases y
  all_goals
    go_enter Tryz.func107, Tryz.ntmps107
    go_wp2_with fail
    go_ret
    exact ⟨ret_bool (by rw [← Hr.out]; rfl), rfl⟩
theorem recMay_calls (x : List UInt8) {n : Nat} (hn : x.length = n) (hle : n ≤ 9223372036854775807) {r : Bool} (hr : recMay x = r) {A : Option Addr} {c : Nat} (w : World) : Calls Tryz.prog 64 #[.slice A n c] w fun e w' => e = .returned (.bool r) ∧ w = w' := by
  unfold recMay at hr
  rw [hn] at hr
  obtain ⟨k, K1⟩ := au (n / 512)
  obtain ⟨p, P1⟩ := au (n % 512 == 0)
  obtain ⟨q, Q1⟩ := au (decide (1 ≤ n / 512) && decide (n / 512 ≤ 20))
  rw [P1.out, Q1.out] at hr
  rw [K1.out] at Q1
  have p1 : ((n : Int) % 512 == 0) = p := by
    rw [← P1.out, Bool.eq_iff_iff, beq_iff_eq, beq_iff_eq]; omega
  have p2 : (n : Int) / 512 = (k : Int) := by have := K1.out; omega
  have Hr := Au.mk hr
  clear hr
  cases p
  · go_enter Tryz.func64, Tryz.ntmps64
    go_wp2_with fail
    go_ret
    exact ⟨ret_bool (by rw [← Hr.out]; rfl), rfl⟩
  · go_enter Tryz.func64, Tryz.ntmps64
    go_wp2_with fail
    refine (factor_calls k Q1.out _).mono ?_
    rintro e w1 ⟨rfl, rfl⟩
    go_wp2_with fail
    go_ret
    exact ⟨ret_bool (by rw [← Hr.out]; rfl), rfl⟩
theorem tbad_calls (x : List UInt8) {n : Nat} (hn : x.length = n) (hle : n ≤ 9223372036854775807) {r : Bool} (hr : recMay x = r) {A : Option Addr} {c : Nat} (w : World) : Calls Tryz.prog 63 #[.slice A n c] w fun e w' => e = .returned (.bool (!r)) ∧ w = w' := by
  go_enter Tryz.func63, Tryz.ntmps63
  go_wp2_with fail
  refine (recMay_calls x hn hle hr _).mono ?_
  rintro e w1 ⟨rfl, rfl⟩
  go_wp2_with fail
  go_ret
  exact ⟨rfl, rfl⟩
def idxR (xs : List (List UInt8)) : Int := match xs.findIdx? (fun x => !recMay x) with | some j => (j : Int) | none => -1
theorem idxR_none {xs : List (List UInt8)} (h : ∀ x ∈ xs, recMay x = true) : idxR xs = -1 := by
  unfold idxR
  rw [List.findIdx?_eq_none_iff.2 (fun x hx => by rw [h x hx]; rfl)]
theorem idxR_some {xs : List (List UInt8)} {k : Nat} {x : List UInt8} (hk : xs[k]? = some x) (hx : recMay x = false) (h : ∀ y ∈ xs.take k, recMay y = true) : idxR xs = (k : Int) := by
  unfold idxR
  obtain ⟨hlt, he⟩ := List.getElem?_eq_some_iff.1 hk
  have : xs.findIdx? (fun x => !recMay x) = some k := by
    rw [List.findIdx?_eq_some_iff_getElem]
    refine ⟨hlt, by rw [he, hx]; rfl, fun j hj => ?_⟩
    have hm : xs[j] ∈ xs.take k := by
      rw [List.mem_take_iff_getElem]
      exact ⟨j, by omega, rfl⟩
    rw [h _ hm]; simp
  rw [this]
theorem idxR_all (xs : List (List UInt8)) : decide (0 ≤ idxR xs) = !xs.all recMay := by
  cases h : xs.all recMay with
  | true => rw [idxR_none (List.all_eq_true.1 h)]; rfl
  | false =>
    unfold idxR
    cases hf : xs.findIdx? (fun x => !recMay x) with
    | none =>
      rw [List.findIdx?_eq_none_iff] at hf
      have : xs.all recMay = true := List.all_eq_true.2 (fun x hx => by have := hf x hx; simpa using this)
      rw [this] at h; cases h
    | some j => simp
theorem indexR_calls (xs : List (List UInt8)) {n : Nat} (hn : xs.length = n) {r : Int} (hr : idxR xs = r) {A : Option Addr} {c : Nat} {F : Nat → Prop} (w : World) (ha : Sl (Kd.slice Kd.byte) w F A c xs) :
    Calls Tryz.prog 108 #[.slice A n c, .func (.func 63) #[] #[]] w fun e w' => e = .returned (.int .i64 r) ∧ w = w' := by
  subst hn
  have Hr := Au.mk hr
  have hle := ha.le
  clear hr
  go_enter Tryz.func108, Tryz.ntmps108
  go_wp2_with fail
  go_loop [8] (fun j => ∃ k : Nat, k ≤ xs.length ∧ j = .int .i64 k ∧ Au (∀ y ∈ xs.take k, recMay y = true)) (fun j => xs.length - (intOf j).toNat)
  case atStart => exact ⟨0, Nat.zero_le _, rfl, ⟨fun y hy => by simp at hy⟩⟩
  case round =>
    obtain ⟨k, hk, rfl, H0⟩ := hrel
    by_cases hlt : k < xs.length
    · obtain ⟨x, hx⟩ : ∃ x, xs[k]? = some x := ⟨_, List.getElem?_eq_getElem hlt⟩
      obtain ⟨b, o, A', c', rfl, ck, sx⟩ := ha.slice_at hx
      have Hx := Au.mk hx
      have hxl := sx.le
      clear hx sx
      obtain ⟨d, Hd⟩ := au (recMay x)
      cases d
      · have hr2 : r = (k : Int) := by rw [← Hr.out]; exact idxR_some Hx.out Hd.out H0.out
        subst hr2
        go_wp2_with (go_at_call 63; refine (tbad_calls x rfl hxl Hd.out _).mono ?_; rintro e w' ⟨rfl, rfl⟩)
        go_ret
        exact ⟨rfl, rfl⟩
      · go_wp2_with (go_at_call 63; refine (tbad_calls x rfl hxl Hd.out _).mono ?_; rintro e w' ⟨rfl, rfl⟩)
        go_round
        case rel =>
          refine ⟨k + 1, by omega, by go_num, ⟨fun y hy => ?_⟩⟩
          rw [take_snocX Hx.out] at hy
          rcases List.mem_append.1 hy with hy | hy
          · exact H0.out y hy
          · rw [List.mem_singleton.1 hy]; exact Hd.out
        case measure => simp [intOf]; omega
    · have hr2 : r = -1 := by
        have := H0.out
        rw [show k = xs.length by omega, List.take_length] at this
        rw [← Hr.out, idxR_none this]
      subst hr2
      go_wp2_with fail
      go_ret
      exact ⟨rfl, rfl⟩
theorem containsR_calls (xs : List (List UInt8)) {n : Nat} (hn : xs.length = n) {r : Bool} (hr : xs.all recMay = r) {A : Option Addr} {c : Nat} {F : Nat → Prop} (w : World) (ha : Sl (Kd.slice Kd.byte) w F A c xs) :
    Calls Tryz.prog 65 #[.slice A n c, .func (.func 63) #[] #[]] w fun e w' => e = .returned (.bool (!r)) ∧ w = w' := by
  obtain ⟨j, J1⟩ := au (idxR xs)
  have h := idxR_all xs
  rw [J1.out, hr] at h
  have Hc := Au.mk (indexR_calls xs hn J1.out w ha)
  clear hr
  go_enter Tryz.func65, Tryz.ntmps65
  go_wp2_with fail
  refine Hc.out.mono ?_
  rintro e w1 ⟨rfl, rfl⟩
  go_wp2_with fail
  go_ret
  exact ⟨rfl, rfl⟩
/-- A tape as a value. -/
theorem tpmay_calls (t : Tp) (hR : R64 t.cap) {n : Nat} (hn : t.recs.length = n) {r : Bool} (hr : tapeMay t = r) {A : Option Addr} {c : Nat} {F : Nat → Prop} (w : World) (ha : Sl (Kd.slice Kd.byte) w F A c t.recs) :
    Calls Tryz.prog 40 #[.agg #[.int .i64 t.cap, .slice A n c, .bool t.mark]] w fun e w' => e = .returned (.bool r) ∧ Below w.heap.size w w' := by
  have hle := ha.le
  rw [hn] at hle
  have hb0 := (Below.refl w.heap.size w).alloc (Nat.le_refl _) (.cells #[.int .i64 t.cap, .slice A n c, .bool t.mark] 38)
  have B0 : (w.alloc (.cells #[.int .i64 t.cap, .slice A n c, .bool t.mark] 38)).heap[w.heap.size]? = some (.cells #[.int .i64 t.cap, .slice A n c, .bool t.mark] 38 (0, 0)) := heap_alloc_new _ _
  have f0 := blk_cell B0 0 rfl
  have f1 := blk_cell B0 1 rfl
  unfold tapeMay at hr
  rw [hn] at hr
  obtain ⟨x, X1⟩ := au (decide (0 ≤ t.cap))
  obtain ⟨y, Y1⟩ := au (decide (t.cap ≤ 200))
  obtain ⟨z, Z1⟩ := au (decide ((n : Int) ≤ t.cap))
  obtain ⟨u, U1⟩ := au (t.recs.all recMay)
  rw [X1.out, Y1.out, Z1.out, U1.out] at hr
  have x1 := X1.out
  have y1 := Y1.out
  have z1 := Z1.out
  have Hc := Au.mk (containsR_calls t.recs hn U1.out _ (ha.alloc (.cells #[.int .i64 t.cap, .slice A n c, .bool t.mark] 38)))
  have Hr := Au.mk hr
  clear hr ha B0 hR
  cases x
  · go_enter Tryz.func40, Tryz.ntmps40
    go_wp2_with fail
    go_ret
    exact ⟨ret_bool (by rw [← Hr.out]; rfl), hb0⟩
  cases y
  · go_enter Tryz.func40, Tryz.ntmps40
    go_wp2_with fail
    go_ret
    exact ⟨ret_bool (by rw [← Hr.out]; rfl), hb0⟩
  cases z
  · go_enter Tryz.func40, Tryz.ntmps40
    go_wp2_with fail
    go_ret
    exact ⟨ret_bool (by rw [← Hr.out]; rfl), hb0⟩
  go_enter Tryz.func40, Tryz.ntmps40
  go_wp2_with fail
  refine Hc.out.mono ?_
  rintro e w1 ⟨rfl, rfl⟩
  go_wp2_with fail
  go_ret
  refine ⟨ret_bool ?_, hb0⟩
  rw [← Hr.out]
  simp
end Go.Proofs.YtldhcknjpmbgnaaGreatDoor.Rk
