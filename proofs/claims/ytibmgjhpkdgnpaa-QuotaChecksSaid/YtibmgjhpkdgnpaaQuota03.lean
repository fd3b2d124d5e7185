/- Layer 15: count, its predicates, Of walked. -/
import Derived.Test.YtibmgjhpkdgnpaaQuota02
namespace Go.Proofs.Ytibmgjhpkdgnpaa
open Go.RowKit Go.Shelf

/-- A function value that asks p of a record, in whatever world comes of w. -/
def Asks (w : World) (g : Nat) (lb : Array Value) (p : Rec → Bool) : Prop :=
  ∀ (r : Rec) (W : World), Below w.heap.size w W → Calls Try.prog g (#[.agg #[.int .i64 r.p, .int .i64 r.s, .int .i64 r.q, .string r.key, .int .u32 r.val]] ++ lb) W fun e W' => e = .returned (.bool (p r)) ∧ Below W.heap.size W W'

set_option maxHeartbeats 800000 in
theorem count_calls (v : Value) (rs : List Rec) (g : Nat) (lb : Array Value) (p : Rec → Bool) (w : World) (eg : ∀ args w, (callFunc g args).run Try.prog w = .ok (.enter g args) w) (hv : Recs w v rs) (hp : Asks w g lb p) :
    Calls Try.prog 14 #[v, .func (.func g) #[] lb] w fun e w' => e = .returned (.int .i64 ((rs.filter p).length : Nat)) ∧ Below w.heap.size w w' := by
  have HV := Lib.hid hv
  have HP := Lib.hid hp
  obtain ⟨a, cap, rfl, hle, hcap⟩ := Rd.slice hv
  clear hv hp
  go_enter Try.func14, Try.ntmps14
  go_wp2_with fail
  go_loopw [5, 7, 10] (fun n _ i wr => ∃ k : Nat, k ≤ rs.length ∧ i = .int .i64 k ∧ n = .int .i64 (((rs.take k).filter p).length : Nat) ∧ Below w.heap.size w wr) (fun _ _ i _ => rs.length - (intOf i).toNat)
  case atStart => exact ⟨0, by omega, rfl, by simp, Below.refl _ _⟩
  case round =>
    obtain ⟨k, hk, rfl, rfl, hb⟩ := hrel
    have HB := Lib.hid hb
    have hcnt : ((rs.take k).filter p).length ≤ k := by
      have h1 := List.length_filter_le p (rs.take k)
      have h2 : (rs.take k).length ≤ k := by simp; omega
      omega
    by_cases hlt : k < rs.length
    · obtain ⟨b, o, rfl, c0, c1, c2, c3, c4⟩ := rec_at HV.out k hlt
      have d0 := cell_later hb c0
      have d1 := cell_later hb c1
      have d2 := cell_later hb c2
      have d3 := cell_later hb c3
      have d4 := cell_later hb c4
      have hnx : (rs.take (k + 1)).filter p = (rs.take k).filter p ++ [rs[k]].filter p := by rw [List.take_succ_eq_append_getElem hlt, List.filter_append]
      have HNX := Lib.hid hnx
      clear hnx
      generalize rs[k] = R at *
      generalize (rs.take k).filter p = L at *
      have HB2 := Lib.hid (hb.alloc hb.size (.cells #[.int .i64 R.p, .int .i64 R.s, .int .i64 R.q, .string R.key, .int .u32 R.val] 33))
      clear hb c0 c1 c2 c3 c4
      go_wp2_with fail
      refine (HP.out R _ HB2.out).mono ?_
      rintro e w1 ⟨rfl, hb1⟩
      have HB3 := Lib.hid (HB2.out.trans (hb1.mono HB2.out.size))
      clear hb1
      cases hpr : p R with
      | true =>
        have HN := Lib.hid (show [R].filter p = [R] by simp [hpr])
        clear hpr
        go_wp2_with fail
        go_roundw
        case rel => exact ⟨k + 1, by omega, by go_num, by rw [HNX.out, HN.out, List.length_append]; rfl, HB3.out⟩
        case measure => simp [intOf]; omega
      | false =>
        have HN := Lib.hid (show [R].filter p = [] by simp [hpr])
        clear hpr
        go_wp2_with fail
        go_roundw
        case rel => exact ⟨k + 1, by omega, by go_num, by rw [HNX.out, HN.out, List.append_nil], HB3.out⟩
        case measure => simp [intOf]; omega
    · obtain rfl : k = rs.length := by omega
      clear hb
      have ht : rs.take rs.length = rs := List.take_length
      have HT := Lib.hid ht
      clear ht
      go_wp2_with fail
      go_ret
      exact ⟨by rw [HT.out]; rfl, HB.out⟩

/-- The captured record's box. -/
structure RecBox (w : World) (b : Nat) (r : Rec) : Prop where
  c0 : w.cell? ⟨b, 0, none⟩ = some (.int .i64 r.p)
  c1 : w.cell? ⟨b, 1, none⟩ = some (.int .i64 r.s)
  c2 : w.cell? ⟨b, 2, none⟩ = some (.int .i64 r.q)
  c3 : w.cell? ⟨b, 3, none⟩ = some (.string r.key)
  c4 : w.cell? ⟨b, 4, none⟩ = some (.int .u32 r.val)
theorem RecBox.below {w w' : World} {b : Nat} {r : Rec} (h : RecBox w b r) (hb : Below w.heap.size w w') : RecBox w' b r :=
  ⟨cell_later hb h.c0, cell_later hb h.c1, cell_later hb h.c2, cell_later hb h.c3, cell_later hb h.c4⟩

theorem of1_asks (w : World) (b : Nat) (n : Int) (hc : w.cell? ⟨b, 0, none⟩ = some (.int .i64 n)) : Asks w 21 #[.pointer (some ⟨b, 0, none⟩)] (fun o => o.p == n) := by
  intro r W hW
  have hc' := cell_later hW hc
  have hal := (Below.refl W.heap.size W).alloc (Nat.le_refl _) (.cells #[.int .i64 r.p, .int .i64 r.s, .int .i64 r.q, .string r.key, .int .u32 r.val] 33)
  have HAL := Lib.hid hal
  have hc2' := cell_later hal hc'
  clear hal hc hW hc'
  simp only [List.append_toArray, List.cons_append, List.nil_append]
  go_enter Try.func21, Try.ntmps21
  go_wp2
  go_ret
  exact ⟨rfl, HAL.out⟩

theorem chk2_asks (w : World) (b : Nat) (x : Rec) (hc : RecBox w b x) : Asks w 17 #[.pointer (some ⟨b, 0, none⟩)] (fun o => o.p == x.p) := by
  intro r W hW
  have hc' := cell_later hW hc.c0
  have hal := (Below.refl W.heap.size W).alloc (Nat.le_refl _) (.cells #[.int .i64 r.p, .int .i64 r.s, .int .i64 r.q, .string r.key, .int .u32 r.val] 33)
  have HAL := Lib.hid hal
  have hc2' := cell_later hal hc'
  clear hal hc hW hc'
  simp only [List.append_toArray, List.cons_append, List.nil_append]
  go_enter Try.func17, Try.ntmps17
  go_wp2
  go_ret
  exact ⟨rfl, HAL.out⟩

theorem chk11_asks (w : World) (b sb : Nat) (x : Rec) (n : Int) (hc : RecBox w b x) (hs : w.cell? ⟨sb, 0, none⟩ = some (.int .i64 n)) :
    Asks w 15 #[.pointer (some ⟨b, 0, none⟩), .pointer (some ⟨sb, 0, none⟩)] (fun o => o.p == x.p && o.q == x.q && o.s == n) := by
  intro r W hW
  have c0 := cell_later hW hc.c0
  have c2 := cell_later hW hc.c2
  have cs := cell_later hW hs
  have hal := (Below.refl W.heap.size W).alloc (Nat.le_refl _) (.cells #[.int .i64 r.p, .int .i64 r.s, .int .i64 r.q, .string r.key, .int .u32 r.val] 33)
  have HAL := Lib.hid hal
  have c0' := cell_later hal c0
  have c2' := cell_later hal c2
  have cs' := cell_later hal cs
  clear hal hc hW hs c0 c2 cs
  simp only [List.append_toArray, List.cons_append, List.nil_append]
  cases h1 : (r.p == x.p) with
  | false =>
    go_enter Try.func15, Try.ntmps15
    go_wp2
    go_ret
    exact ⟨rfl, HAL.out⟩
  | true =>
    cases h2 : (r.q == x.q) with
    | false =>
      go_enter Try.func15, Try.ntmps15
      go_wp2
      go_ret
      exact ⟨rfl, HAL.out⟩
    | true =>
      go_enter Try.func15, Try.ntmps15
      go_wp2
      go_ret
      exact ⟨rfl, HAL.out⟩
end Go.Proofs.Ytibmgjhpkdgnpaa
