/- Layer 13: right, the order of rows, walked. -/
import Derived.Test.YtbelhdnbmkemjaaQuota01
import Derived.Test.YtbelhdnbmkemjaaDedupMath
namespace Go.Proofs.Ytbelhdnbmkemjaa
open Go.RowKit

/-! ### Numbers compared -/
def cmpOf (a b : Int) : Int := if a < b then -1 else if b < a then 1 else 0
def orOf (x y : Int) : Int := if x = 0 then y else x
theorem orOf_z (y : Int) : orOf 0 y = y := rfl
theorem orOf_n (x y : Int) (h : ¬ x = 0) : orOf x y = x := if_neg h
def ordOf (a b : Row) : Int := orOf (cmpOf a.p b.p) (cmpOf a.q b.q)
theorem cmpOf_ways (a b : Int) : (decide (a < b) = true ∧ cmpOf a b = -1) ∨ (decide (a < b) = false ∧ decide (b < a) = true ∧ cmpOf a b = 1) ∨ (decide (a < b) = false ∧ decide (b < a) = false ∧ cmpOf a b = 0) := by
  unfold cmpOf
  simp only [decide_eq_true_eq, decide_eq_false_iff_not]
  split <;> (try split) <;> omega
theorem ord_key {a b : Row} (ha : rightB a.p a.q = true) (hb : rightB b.p b.q = true) : (ordOf a b < 0 ↔ a.key < b.key) ∧ (ordOf a b = 0 ↔ a.key = b.key) := by
  unfold rightB at ha hb
  simp only [decide_eq_true_eq] at ha hb
  unfold ordOf orOf cmpOf Row.key
  constructor <;> (repeat' split) <;> omega
theorem ord_bounds (a b : Row) : -1 ≤ ordOf a b ∧ ordOf a b ≤ 1 := by
  unfold ordOf orOf cmpOf
  repeat' split
  all_goals omega

theorem right_ways (p q : Int) :
    (decide (0 ≤ p) = false ∧ rightB p q = false) ∨
    ((decide (0 ≤ p) = true ∧ decide (p ≤ 63) = false) ∧ rightB p q = false) ∨
    ((decide (0 ≤ p) = true ∧ decide (p ≤ 63) = true ∧ decide (0 ≤ q) = false) ∧ rightB p q = false) ∨
    ((decide (0 ≤ p) = true ∧ decide (p ≤ 63) = true ∧ decide (0 ≤ q) = true ∧ decide (q < 8) = false ∧ decide (q ≤ 7) = false) ∧ rightB p q = false) ∨
    ((decide (0 ≤ p) = true ∧ decide (p ≤ 63) = true ∧ decide (0 ≤ q) = true ∧ decide (q < 8) = true ∧ decide (q ≤ 7) = true) ∧ rightB p q = true) := by
  unfold rightB
  simp only [decide_eq_true_eq, decide_eq_false_iff_not]
  omega

set_option maxHeartbeats 1000000 in
theorem right_calls (p q : Int) (w : World) : Calls Try.prog 19 #[.int .i64 p, .int .i64 q] w fun e w' => e = .returned (.bool (rightB p q)) ∧ w' = w := by
  have hway := right_ways p q
  generalize rightB p q = g at *
  rcases hway with ⟨k1, rfl⟩ | ⟨⟨k1, k2⟩, rfl⟩ | ⟨⟨k1, k2, k3⟩, rfl⟩ | ⟨⟨k1, k2, k3, k4, k5⟩, rfl⟩ | ⟨⟨k1, k2, k3, k4, k5⟩, rfl⟩
  all_goals
    go_enter Try.func19, Try.ntmps19
    go_wp2_with fail
    go_ret
    exact ⟨rfl, rfl⟩

set_option maxHeartbeats 1000000 in
theorem rright_calls (p q : Int) (w : World) : Calls Try.prog 17 #[.int .i64 p, .int .i64 q] w fun e w' => e = .returned (.bool (rightB p q)) ∧ w' = w := by
  have hway := right_ways p q
  generalize rightB p q = g at *
  rcases hway with ⟨k1, rfl⟩ | ⟨⟨k1, k2⟩, rfl⟩ | ⟨⟨k1, k2, k3⟩, rfl⟩ | ⟨⟨k1, k2, k3, k4, k5⟩, rfl⟩ | ⟨⟨k1, k2, k3, k4, k5⟩, rfl⟩
  all_goals
    go_enter Try.func17, Try.ntmps17
    go_wp2_with fail
    go_ret
    exact ⟨rfl, rfl⟩

theorem nan_calls (a : Int) (w : World) : Calls Try.prog 29 #[.int .i64 a] w fun e w' => e = .returned (.bool false) ∧ w' = w := by
  go_enter Try.func29, Try.ntmps29
  go_wp2_with fail
  go_ret
  exact ⟨by simp, rfl⟩

set_option maxHeartbeats 1000000 in
theorem cmp_calls (a b : Int) (w : World) : Calls Try.prog 26 #[.int .i64 a, .int .i64 b] w fun e w' => e = .returned (.int .i64 (cmpOf a b)) ∧ w' = w := by
  rcases cmpOf_ways a b with ⟨k1, hc⟩ | ⟨k1, k2, hc⟩ | ⟨k1, k2, hc⟩
  all_goals
    rw [hc]
    clear hc
    go_enter Try.func26, Try.ntmps26
    go_wp2_with fail
    refine (nan_calls _ _).mono ?_
    rintro e w' ⟨rfl, rfl⟩
    go_wp2_with fail
    refine (nan_calls _ _).mono ?_
    rintro e w' ⟨rfl, rfl⟩
    go_wp2_with fail
    go_ret
    exact ⟨rfl, rfl⟩

set_option maxHeartbeats 1000000 in
theorem or_calls (b : Nat) (x y : Int) (w : World) (c0 : w.cell? ⟨b, 0, none⟩ = some (.int .i64 x)) (c1 : w.cell? ⟨b, 1, none⟩ = some (.int .i64 y)) :
    Calls Try.prog 25 #[.slice (some ⟨b, 0, none⟩) 2 2] w fun e w' => e = .returned (.int .i64 (orOf x y)) ∧ w' = w := by
  go_enter Try.func25, Try.ntmps25
  go_wp2_with fail
  go_loop [5, 8] (fun _ i => ∃ k : Nat, k ≤ 2 ∧ i = .int .i64 k ∧ (0 < k → x = 0) ∧ (1 < k → y = 0)) (fun _ i => 2 - (intOf i).toNat)
  case atStart => exact ⟨0, by omega, rfl, fun h => by omega, fun h => by omega⟩
  case round =>
    obtain ⟨k, hk, rfl, hx, hy⟩ := hrel
    rcases (show k = 0 ∨ k = 1 ∨ k = 2 by omega) with rfl | rfl | rfl
    · clear hx hy
      by_cases h0 : x = 0
      · subst h0
        go_wp2_with fail
        go_round
        case rel => exact ⟨1, by omega, rfl, by simp, by simp⟩
        case measure => simp [intOf]
      · have k0 := beq_eq_false_iff_ne.2 h0
        have H0 := Lib.hid h0
        clear h0
        go_wp2_with fail
        go_ret
        exact ⟨by rw [orOf_n _ _ H0.out]; rfl, rfl⟩
    · obtain rfl := hx (by omega)
      clear hx hy
      by_cases h0 : y = 0
      · subst h0
        go_wp2_with fail
        go_round
        case rel => exact ⟨2, by omega, rfl, by simp, by simp⟩
        case measure => simp [intOf]
      · have k0 := beq_eq_false_iff_ne.2 h0
        clear h0
        go_wp2_with fail
        go_ret
        exact ⟨by rw [orOf_z]; rfl, rfl⟩
    · obtain rfl := hx (by omega)
      obtain rfl := hy (by omega)
      clear hx hy
      go_wp2_with fail
      go_ret
      exact ⟨by rw [orOf_z]; rfl, rfl⟩

set_option maxHeartbeats 1000000 in
theorem order_calls (x y : Row) (w : World) : Calls Try.prog 22 #[.agg #[.int .i64 x.p, .int .i64 x.q, .int .i64 x.l], .agg #[.int .i64 y.p, .int .i64 y.q, .int .i64 y.l]] w fun e w' => e = .returned (.int .i64 (ordOf x y)) ∧ Below w.heap.size w w' := by
  obtain ⟨x0, x1, x2⟩ := x
  obtain ⟨y0, y1, y2⟩ := y
  unfold ordOf
  simp only
  go_enter Try.func22, Try.ntmps22
  go_wp2_with fail
  obtain ⟨W, hW⟩ : ∃ W, W = (w.alloc (.cells #[.int .i64 x0, .int .i64 x1, .int .i64 x2] 42)).alloc (.cells #[.int .i64 y0, .int .i64 y1, .int .i64 y2] 42) := ⟨_, rfl⟩
  have a0 : W.cell? ⟨w.heap.size, 0, none⟩ = some (.int .i64 x0) := by rw [hW, World.cell?_alloc_past _ _ _ (by simp), World.cell?_alloc_at _ _ _ _ rfl]; rfl
  have a1 : W.cell? ⟨w.heap.size, 1, none⟩ = some (.int .i64 x1) := by rw [hW, World.cell?_alloc_past _ _ _ (by simp), World.cell?_alloc_at _ _ _ _ rfl]; rfl
  have b0 : W.cell? ⟨w.heap.size + 1, 0, none⟩ = some (.int .i64 y0) := by rw [hW, World.cell?_alloc_at _ _ _ _ (by simp)]; rfl
  have b1 : W.cell? ⟨w.heap.size + 1, 1, none⟩ = some (.int .i64 y1) := by rw [hW, World.cell?_alloc_at _ _ _ _ (by simp)]; rfl
  have hb : Below w.heap.size w W := by rw [hW]; exact ((Below.refl _ _).alloc (Nat.le_refl _) _).alloc (by simp) _
  have HB := Lib.hid hb
  rw [← hW]
  clear hb hW
  refine region_m [(0, false), (1, false), (2, false), (3, false), (5, false), (6, false), (7, false), (8, false), (4, true), (9, true)] 10 (fun V => V.cell? ⟨w.heap.size, 0, none⟩ = some (.int .i64 x0) ∧ V.cell? ⟨w.heap.size, 1, none⟩ = some (.int .i64 x1) ∧ V.cell? ⟨w.heap.size + 1, 0, none⟩ = some (.int .i64 y0) ∧ V.cell? ⟨w.heap.size + 1, 1, none⟩ = some (.int .i64 y1)) (by kernel_rfl) (by kernel_rfl) ⟨a0, a1, b0, b1⟩ ?_
  iterate 8
    refine m_take (v := ?_) rfl rfl ?_ ?_
    rotate_left
    · intro W hW
      go_simp
      with_reducible rfl
    simp only [Act.put, List.setIfInBounds_toArray, List.set_cons_zero, List.set_cons_succ]
  refine m_loud rfl (fun K hK => ?_)
  have HK := Lib.hid hK
  clear hK
  go_simp
  refine (cmp_calls _ _ _).mono ?_
  rintro e w1 ⟨rfl, rfl⟩
  refine HK.out _ _ ⟨a0, a1, b0, b1⟩ ?_
  clear HK
  refine m_loud rfl (fun K hK => ?_)
  have HK := Lib.hid hK
  clear hK
  go_simp
  refine (cmp_calls _ _ _).mono ?_
  rintro e w1 ⟨rfl, rfl⟩
  refine HK.out _ _ ⟨a0, a1, b0, b1⟩ ?_
  clear HK
  refine m_done ?_
  simp only [List.drop_succ_cons, List.drop_zero]
  go_wp2_with fail
  refine (or_calls W.heap.size (cmpOf x0 y0) (cmpOf x1 y1) _ (by rw [World.cell?_drew, World.cell?_alloc_at _ _ _ _ rfl]; rfl) (by rw [World.cell?_drew, World.cell?_alloc_at _ _ _ _ rfl]; rfl)).mono ?_
  rintro e w' ⟨rfl, rfl⟩
  go_wp2_with fail
  simp only [NP]
  go_wp2_with fail
  go_ret
  refine ⟨rfl, ?_⟩
  exact (HB.out.alloc HB.out.size _).drew
end Go.Proofs.Ytbelhdnbmkemjaa
