/- Layers 9, 13, 15: Good, Last, Look walked. -/
import Derived.Test.YtbelhdnbmkemjaaFlat
import Derived.Test.YtbelhdnbmkemjaaBase
import Derived.Test.YtbelhdnbmkemjaaQuotaMath
namespace Go.Proofs.Ytbelhdnbmkemjaa
open Go.RowKit

def Row.cells (r : Row) : List Value := [.int .i64 r.p, .int .i64 r.q, .int .i64 r.l]
def Rec.cells (r : Rec) : List Value := [.int .i64 r.p, .int .i64 r.s, .int .i64 r.q, .string r.key, .int .u32 r.val]
theorem row3 (r : Row) : (Row.cells r).length = 3 := rfl
theorem rec5 (r : Rec) : (Rec.cells r).length = 5 := rfl

/-- A whole number within its kind's bounds. -/
def I64 (n : Int) : Prop := -9223372036854775808 ≤ n ∧ n ≤ 9223372036854775807
def Row.ok (r : Row) : Prop := I64 r.p ∧ I64 r.q ∧ I64 r.l
def Rec.ok (r : Rec) : Prop := I64 r.p ∧ I64 r.s ∧ I64 r.q ∧ r.key.size ≤ 9223372036854775807
theorem lastOf_ok (rs : List Row) (p q : Int) (h : ∀ r ∈ rs, r.ok) : I64 (lastOf rs p q) := by
  unfold lastOf
  split
  · rename_i r hr; exact (h r (List.mem_of_find?_eq_some hr)).2.2
  · exact ⟨by omega, by omega⟩

def Rows (w : World) (v : Value) (rs : List Row) : Prop := Rd w 3 v rs.length (flatF Row.cells rs)
def Recs (w : World) (v : Value) (rs : List Rec) : Prop := Rd w 5 v rs.length (flatF Rec.cells rs)

theorem row_at {w : World} {a : Option Addr} {n cap : Nat} {rs : List Row} (h : Rows w (.slice a n cap) rs) (i : Nat) (hi : i < rs.length) :
    ∃ b o, a = some ⟨b, o, none⟩ ∧ w.cell? ⟨b, o + i * 3, none⟩ = some (.int .i64 rs[i].p) ∧ w.cell? ⟨b, o + i * 3 + 1, none⟩ = some (.int .i64 rs[i].q) ∧ w.cell? ⟨b, o + i * 3 + 2, none⟩ = some (.int .i64 rs[i].l) := by
  obtain ⟨b, o, e, hc⟩ := rdF_at row3 h i hi
  exact ⟨b, o, e, hc 0 _ (by omega) rfl, hc 1 _ (by omega) rfl, hc 2 _ (by omega) rfl⟩
theorem rec_at {w : World} {a : Option Addr} {n cap : Nat} {rs : List Rec} (h : Recs w (.slice a n cap) rs) (i : Nat) (hi : i < rs.length) :
    ∃ b o, a = some ⟨b, o, none⟩ ∧ w.cell? ⟨b, o + i * 5, none⟩ = some (.int .i64 rs[i].p) ∧ w.cell? ⟨b, o + i * 5 + 1, none⟩ = some (.int .i64 rs[i].s) ∧ w.cell? ⟨b, o + i * 5 + 2, none⟩ = some (.int .i64 rs[i].q) ∧
      w.cell? ⟨b, o + i * 5 + 3, none⟩ = some (.string rs[i].key) ∧ w.cell? ⟨b, o + i * 5 + 4, none⟩ = some (.int .u32 rs[i].val) := by
  obtain ⟨b, o, e, hc⟩ := rdF_at rec5 h i hi
  exact ⟨b, o, e, hc 0 _ (by omega) rfl, hc 1 _ (by omega) rfl, hc 2 _ (by omega) rfl, hc 3 _ (by omega) rfl, hc 4 _ (by omega) rfl⟩

set_option maxHeartbeats 800000 in
theorem last_calls (v : Value) (rs : List Row) (p q : Int) (w : World) (hv : Rows w v rs) :
    Calls Try.prog 10 #[v, .int .i64 p, .int .i64 q] w fun e w' => e = .returned (.int .i64 (lastOf rs p q)) ∧ Below w.heap.size w w' := by
  have HV := Lib.hid hv
  obtain ⟨a, cap, rfl, hle, hcap⟩ := Rd.slice hv
  clear hv
  go_enter Try.func10, Try.ntmps10
  go_wp2_with fail
  go_loopw [8, 11] (fun _ i wr => ∃ k : Nat, k ≤ rs.length ∧ i = .int .i64 k ∧ lastOf (rs.drop k) p q = lastOf rs p q ∧ Below w.heap.size w wr) (fun _ i _ => rs.length - (intOf i).toNat)
  case atStart => exact ⟨0, by omega, rfl, by simp, Below.refl _ _⟩
  case round =>
    obtain ⟨k, hk, rfl, hl, hb⟩ := hrel
    have HB := Lib.hid hb
    by_cases hlt : k < rs.length
    · obtain ⟨b, o, rfl, c0, c1, c2⟩ := row_at HV.out k hlt
      have d0 := cell_later hb c0
      have d1 := cell_later hb c1
      have d2 := cell_later hb c2
      rw [List.drop_eq_getElem_cons hlt] at hl
      have HB2 := Lib.hid (hb.alloc hb.size (.cells #[.int .i64 rs[k].p, .int .i64 rs[k].q, .int .i64 rs[k].l] 42))
      generalize rs[k] = R at *
      clear hb c0 c1 c2
      by_cases hm : R.p = p ∧ R.q = q
      · obtain ⟨rfl, rfl⟩ := hm
        rw [lastOf_hit] at hl
        have HL := Lib.hid hl
        clear hl
        go_wp2_with fail
        go_ret
        exact ⟨by rw [HL.out]; rfl, HB2.out⟩
      · rw [lastOf_miss _ _ _ _ hm] at hl
        have HL := Lib.hid hl
        have hway : (R.p == p) = false ∨ ((R.p == p) = true ∧ (R.q == q) = false) := by
          by_cases h1 : R.p = p
          · exact .inr ⟨beq_iff_eq.2 h1, beq_eq_false_iff_ne.2 fun h2 => hm ⟨h1, h2⟩⟩
          · exact .inl (beq_eq_false_iff_ne.2 h1)
        clear hl hm
        rcases hway with h1 | ⟨h1, h2⟩
        all_goals
          go_wp2_with fail
          go_roundw
          case rel => exact ⟨k + 1, by omega, by go_num, HL.out, HB2.out⟩
          case measure => simp [intOf]; omega
    · obtain rfl : k = rs.length := by omega
      rw [List.drop_length, lastOf_nil] at hl
      have HL := Lib.hid hl
      clear hl hb
      go_wp2_with fail
      go_ret
      exact ⟨by rw [HL.out]; rfl, HB.out⟩

set_option maxHeartbeats 800000 in
theorem rlast_calls (v : Value) (rs : List Row) (p q : Int) (w : World) (hv : Rows w v rs) :
    Calls Try.prog 13 #[v, .int .i64 p, .int .i64 q] w fun e w' => e = .returned (.int .i64 (lastOf rs p q)) ∧ w' = w := by
  have HV := Lib.hid hv
  obtain ⟨a, cap, rfl, hle, hcap⟩ := Rd.slice hv
  clear hv
  go_enter Try.func13, Try.ntmps13
  go_wp2_with fail
  go_loop [7] (fun i => ∃ k : Nat, k ≤ rs.length ∧ i = .int .i64 k ∧ lastOf (rs.drop k) p q = lastOf rs p q) (fun i => rs.length - (intOf i).toNat)
  case atStart => exact ⟨0, by omega, rfl, by simp⟩
  case round =>
    obtain ⟨k, hk, rfl, hl⟩ := hrel
    by_cases hlt : k < rs.length
    · obtain ⟨b, o, rfl, c0, c1, c2⟩ := row_at HV.out k hlt
      rw [List.drop_eq_getElem_cons hlt] at hl
      generalize rs[k] = R at *
      by_cases hm : R.p = p ∧ R.q = q
      · obtain ⟨rfl, rfl⟩ := hm
        rw [lastOf_hit] at hl
        have HL := Lib.hid hl
        clear hl
        go_wp2_with fail
        go_ret
        exact ⟨by rw [HL.out]; rfl, rfl⟩
      · rw [lastOf_miss _ _ _ _ hm] at hl
        have HL := Lib.hid hl
        have hway : (R.p == p) = false ∨ ((R.p == p) = true ∧ (R.q == q) = false) := by
          by_cases h1 : R.p = p
          · exact .inr ⟨beq_iff_eq.2 h1, beq_eq_false_iff_ne.2 fun h2 => hm ⟨h1, h2⟩⟩
          · exact .inl (beq_eq_false_iff_ne.2 h1)
        clear hl hm
        rcases hway with h1 | ⟨h1, h2⟩
        all_goals
          go_wp2_with fail
          go_round
          case rel => exact ⟨k + 1, by omega, by go_num, HL.out⟩
          case measure => simp [intOf]; omega
    · obtain rfl : k = rs.length := by omega
      rw [List.drop_length, lastOf_nil] at hl
      have HL := Lib.hid hl
      clear hl
      go_wp2_with fail
      go_ret
      exact ⟨by rw [HL.out]; rfl, rfl⟩

/-- The ways through Look. -/
theorem look_ways (l s : Int) (hl : I64 l) (hs : I64 s) :
    (((l == 9223372036854775807) = true ∧ (s == l) = true) ∧ (if l = 9223372036854775807 ∧ s = 9223372036854775807 then (4 : Int) else if s ≤ l then 2 else if s = l + 1 then 1 else 3) = 4) ∨
    (((l == 9223372036854775807) = false ∨ ((l == 9223372036854775807) = true ∧ (s == l) = false)) ∧ s ≤ l ∧ (if l = 9223372036854775807 ∧ s = 9223372036854775807 then (4 : Int) else if s ≤ l then 2 else if s = l + 1 then 1 else 3) = 2) ∨
    ((l == 9223372036854775807) = false ∧ ¬ s ≤ l ∧ l + 1 ≤ 9223372036854775807 ∧ (s == l + 1) = true ∧ (s - 1 == l) = true ∧ (if l = 9223372036854775807 ∧ s = 9223372036854775807 then (4 : Int) else if s ≤ l then 2 else if s = l + 1 then 1 else 3) = 1) ∨
    ((l == 9223372036854775807) = false ∧ ¬ s ≤ l ∧ l + 1 ≤ 9223372036854775807 ∧ (s == l + 1) = false ∧ (s - 1 == l) = false ∧ (if l = 9223372036854775807 ∧ s = 9223372036854775807 then (4 : Int) else if s ≤ l then 2 else if s = l + 1 then 1 else 3) = 3) := by
  unfold I64 at hl hs
  simp only [beq_iff_eq, beq_eq_false_iff_ne]
  by_cases h1 : l = 9223372036854775807 ∧ s = 9223372036854775807
  · left; exact ⟨⟨h1.1, by omega⟩, if_pos h1⟩
  rw [if_neg h1]
  by_cases h2 : s ≤ l
  · right; left; exact ⟨by omega, h2, if_pos h2⟩
  rw [if_neg h2]
  by_cases h3 : s = l + 1
  · right; right; left; exact ⟨by omega, h2, by omega, h3, by omega, if_pos h3⟩
  · right; right; right; exact ⟨by omega, h2, by omega, h3, by omega, if_neg h3⟩

set_option maxHeartbeats 800000 in
theorem look_calls (v : Value) (rs : List Row) (p q s : Int) (w : World) (hv : Rows w v rs) (hr : ∀ r ∈ rs, r.ok) (hs : I64 s) :
    Calls Try.prog 11 #[v, .int .i64 p, .int .i64 q, .int .i64 s] w fun e w' => e = .returned (.int .i64 (lookOf rs p q s)) ∧ Below w.heap.size w w' := by
  have HC := Lib.hid (last_calls v rs p q w hv)
  have hlk := lastOf_ok rs p q hr
  have hway := look_ways (lastOf rs p q) s hlk hs
  unfold lookOf
  generalize lastOf rs p q = l at *
  obtain ⟨a, cap, rfl, -, -⟩ := Rd.slice hv
  unfold I64 at hlk hs
  obtain ⟨hl1, hl2⟩ := hlk
  obtain ⟨hs1, hs2⟩ := hs
  clear hv hr
  rcases hway with ⟨⟨k1, k2⟩, hc⟩ | ⟨k1 | ⟨k1, k2⟩, k3, hc⟩ | ⟨k1, k3, k4, k5, -, hc⟩ | ⟨k1, k3, k4, k5, -, hc⟩
  all_goals
    rw [hc]
    clear hc
    go_enter Try.func11, Try.ntmps11
    go_wp2_with fail
    refine HC.out.mono ?_
    rintro e w' ⟨rfl, hb⟩
    have HB := Lib.hid hb
    clear hb
    go_wp2_with fail
    go_ret
    exact ⟨rfl, HB.out⟩

set_option maxHeartbeats 800000 in
theorem rlook_calls (v : Value) (rs : List Row) (p q s : Int) (w : World) (hv : Rows w v rs) (hr : ∀ r ∈ rs, r.ok) (hs : I64 s) :
    Calls Try.prog 14 #[v, .int .i64 p, .int .i64 q, .int .i64 s] w fun e w' => e = .returned (.int .i64 (lookOf rs p q s)) ∧ w' = w := by
  have HC := Lib.hid (rlast_calls v rs p q w hv)
  have hlk := lastOf_ok rs p q hr
  have hway := look_ways (lastOf rs p q) s hlk hs
  unfold lookOf
  generalize lastOf rs p q = l at *
  obtain ⟨a, cap, rfl, -, -⟩ := Rd.slice hv
  unfold I64 at hlk hs
  obtain ⟨hl1, hl2⟩ := hlk
  obtain ⟨hs1, hs2⟩ := hs
  clear hv hr
  rcases hway with ⟨⟨k1, k2⟩, hc⟩ | ⟨k1 | ⟨k1, k2⟩, k3, hc⟩ | ⟨k1, k3, k4, -, k5, hc⟩ | ⟨k1, k3, k4, -, k5, hc⟩
  · have k2' : (s == 9223372036854775807) = true := by rw [beq_iff_eq] at *; omega
    rw [hc]
    clear hc k2
    go_enter Try.func14, Try.ntmps14
    go_wp2_with fail
    refine HC.out.mono ?_
    rintro e w' ⟨rfl, rfl⟩
    go_wp2_with fail
    go_ret
    exact ⟨rfl, rfl⟩
  · rw [hc]
    clear hc
    go_enter Try.func14, Try.ntmps14
    go_wp2_with fail
    refine HC.out.mono ?_
    rintro e w' ⟨rfl, rfl⟩
    go_wp2_with fail
    go_ret
    exact ⟨rfl, rfl⟩
  · have k2' : (s == 9223372036854775807) = false := by rw [beq_eq_false_iff_ne] at *; rw [beq_iff_eq] at k1; omega
    rw [hc]
    clear hc k2
    go_enter Try.func14, Try.ntmps14
    go_wp2_with fail
    refine HC.out.mono ?_
    rintro e w' ⟨rfl, rfl⟩
    go_wp2_with fail
    go_ret
    exact ⟨rfl, rfl⟩
  all_goals
    have k6 : -9223372036854775808 ≤ s - 1 := by omega
    rw [hc]
    clear hc
    go_enter Try.func14, Try.ntmps14
    go_wp2_with fail
    refine HC.out.mono ?_
    rintro e w' ⟨rfl, rfl⟩
    go_wp2_with fail
    go_ret
    exact ⟨rfl, rfl⟩
end Go.Proofs.Ytbelhdnbmkemjaa
