/- Layer 13: Clone, IndexFunc and its closure, BinarySearchFunc, walked. -/
import Derived.Test.YtbelhdnbmkemjaaDedup03
import Derived.Test.YtbelhdnbmkemjaaCopy
namespace Go.Proofs.Ytbelhdnbmkemjaa
open Go.RowKit Go.Shelf

theorem tyRows : STy Try.prog 22 42 (.agg #[.int .i64 0, .int .i64 0, .int .i64 0]) 3 24 := .of Try.underlying22 (by kernel_rfl) rfl (by omega)

theorem rows_one (rs : List Row) : ∀ u ∈ flatF Row.cells rs, u.oneCell' = true := by
  intro u hu
  obtain ⟨r, -, hu⟩ := List.mem_flatMap.1 hu
  simp only [Row.cells, List.mem_cons, List.not_mem_nil, or_false] at hu
  rcases hu with rfl | rfl | rfl <;> rfl

set_option maxHeartbeats 400000 in
theorem cloneR_calls (v : Value) (n : Nat) (cs : List Value) (w : World) (hv : Rd w 3 v n cs) (h1 : ∀ u ∈ cs, u.oneCell' = true) (hl : n ≤ 1000000) :
    Calls Try.prog 18 #[v] w fun e w' => ∃ v', e = .returned v' ∧ w'.ownsRow w.heap.size 42 3 v' n cs ∧ Below w.heap.size w w' := by
  have HV := Lib.hid hv
  have H1 := Lib.hid h1
  obtain ⟨a, c, rfl, hn, hle, hc, h3⟩ := hv
  clear h1
  cases a with
  | none =>
    have h0 : n = 0 := by
      rcases h3 with h3 | ⟨b, o, h, -⟩
      · omega
      · cases h
    subst h0
    have hx : cs = [] := List.eq_nil_of_length_eq_zero (by omega)
    subst hx
    clear h3 hn
    have hnil := fun (w : World) => Lib.run_eql_slice_nil (P := Try.prog) w 22 42 none 0 c 0 0 Try.underlying22
    go_enter Try.func18, Try.ntmps18
    go_wp2
    go_ret
    exact ⟨_, rfl, World.ownsRow_nil _ _ _ _, Below.refl _ _⟩
  | some x =>
    clear h3 hn
    have hnil := fun (w : World) => Lib.run_eql_slice_nil (P := Try.prog) w 22 42 (some x) n c 0 0 Try.underlying22
    have hlit := World.ownsRow_lit (base := w.heap.size) (size := 3) (e := 42) w #[] 0 (Nat.le_refl _) (by unfold maxLen; omega) (by simp)
    have hal := (Below.refl w.heap.size w).alloc (Nat.le_refl _) (.cells #[] 42)
    have HR := Lib.hid (HV.out.below hal (Nat.le_refl _))
    have HLIT := Lib.hid hlit
    have HAL := Lib.hid hal
    clear hlit hal
    go_enter Try.func18, Try.ntmps18
    go_wp2_with (at_builtin; go_loud (refine app_list tyRows HLIT.out HR.out H1.out (by omega) (by omega) HAL.out.size rfl rfl rfl rfl ?_; intro v3 w3 hm3 hb3 hn3; obtain ⟨ga, gc, rfl⟩ := own_slice hm3))
    go_ret
    refine ⟨_, rfl, ?_, ?_⟩
    · simpa using hm3
    · exact HAL.out.grown hb3 HAL.out.size (fun j e => (World.ownsRow.lt HLIT.out j e).1)

/-- A function value that asks p of a row, in whatever world comes of w. -/
def AsksR (w : World) (g : Nat) (lb : Array Value) (p : Row → Bool) : Prop :=
  ∀ (r : Row) (W : World), Below w.heap.size w W → Calls Try.prog g (#[.agg #[.int .i64 r.p, .int .i64 r.q, .int .i64 r.l]] ++ lb) W fun e W' => e = .returned (.bool (p r)) ∧ Below W.heap.size W W'

set_option maxHeartbeats 800000 in
theorem idxR_calls (v : Value) (rs : List Row) (g : Nat) (lb : Array Value) (p : Row → Bool) (w : World) (eg : ∀ args w, (callFunc g args).run Try.prog w = .ok (.enter g args) w) (hv : Rows w v rs) (hp : AsksR w g lb p) :
    Calls Try.prog 20 #[v, .func (.func g) #[] lb] w fun e w' => ((∃ i : Nat, ∃ h : i < rs.length, p rs[i] = true ∧ e = .returned (.int .i64 i)) ∨ ((∀ r ∈ rs, p r = false) ∧ e = .returned (.int .i64 (-1)))) ∧ Below w.heap.size w w' := by
  have HV := Lib.hid hv
  have HP := Lib.hid hp
  obtain ⟨a, cap, rfl, hle, hcap⟩ := Rd.slice hv
  clear hv hp
  go_enter Try.func20, Try.ntmps20
  go_wp2_with fail
  go_loopw [5, 8] (fun _ i wr => ∃ k : Nat, k ≤ rs.length ∧ i = .int .i64 k ∧ (∀ r ∈ rs.take k, p r = false) ∧ Below w.heap.size w wr) (fun _ i _ => rs.length - (intOf i).toNat)
  case atStart => exact ⟨0, by omega, rfl, by simp, Below.refl _ _⟩
  case round =>
    obtain ⟨k, hk, rfl, hno, hb⟩ := hrel
    have HB := Lib.hid hb
    have HNO := Lib.hid hno
    clear hno
    by_cases hlt : k < rs.length
    · obtain ⟨b, o, rfl, c0, c1, c2⟩ := row_at HV.out k hlt
      have d0 := cell_later hb c0
      have d1 := cell_later hb c1
      have d2 := cell_later hb c2
      have hnx : rs.take (k + 1) = rs.take k ++ [rs[k]] := List.take_succ_eq_append_getElem hlt
      have HNX := Lib.hid hnx
      have HE := Lib.hid (show ∃ R, R = rs[k] from ⟨_, rfl⟩)
      clear hnx hb c0 c1 c2
      generalize hR : rs[k] = R at *
      have HR := Lib.hid hR
      clear hR HE
      go_wp2_with fail
      refine (HP.out R _ HB.out).mono ?_
      rintro e w1 ⟨rfl, hb1⟩
      have HB3 := Lib.hid (HB.out.trans (hb1.mono HB.out.size))
      clear hb1
      cases hpr : p R with
      | true =>
        have HPR := Lib.hid hpr
        clear hpr
        go_wp2_with fail
        go_ret
        exact ⟨.inl ⟨k, hlt, by rw [HR.out]; exact HPR.out, rfl⟩, HB3.out⟩
      | false =>
        have HPR := Lib.hid hpr
        clear hpr
        go_wp2_with fail
        go_roundw
        case rel =>
          refine ⟨k + 1, by omega, by go_num, fun r hr => ?_, HB3.out⟩
          rw [HNX.out] at hr
          rcases List.mem_append.1 hr with hr | hr
          · exact HNO.out r hr
          · rw [List.mem_singleton.1 hr]; exact HPR.out
        case measure => simp [intOf]; omega
    · obtain rfl : k = rs.length := by omega
      clear hb
      go_wp2_with fail
      go_ret
      refine ⟨.inr ⟨fun r hr => HNO.out r (by rw [List.take_length]; exact hr), rfl⟩, HB.out⟩

theorem take1_asks (w : World) (b : Nat) (x : Row) (c0 : w.cell? ⟨b, 0, none⟩ = some (.int .i64 x.p)) (c1 : w.cell? ⟨b, 1, none⟩ = some (.int .i64 x.q)) (c2 : w.cell? ⟨b, 2, none⟩ = some (.int .i64 x.l)) :
    AsksR w 21 #[.pointer (some ⟨b, 0, none⟩)] (fun r => ordOf r x == 0) := by
  intro r W hW
  have hal := (Below.refl W.heap.size W).alloc (Nat.le_refl _) (.cells #[.int .i64 r.p, .int .i64 r.q, .int .i64 r.l] 42)
  have d0 := cell_later hal (cell_later hW c0)
  have d1 := cell_later hal (cell_later hW c1)
  have d2 := cell_later hal (cell_later hW c2)
  have HAL := Lib.hid hal
  clear hal hW c0 c1 c2
  simp only [List.append_toArray, List.cons_append, List.nil_append]
  go_enter Try.func21, Try.ntmps21
  go_wp2_with fail
  refine (order_calls r x _).mono ?_
  rintro e w1 ⟨rfl, hb1⟩
  have HB1 := Lib.hid hb1
  clear hb1
  go_wp2_with fail
  go_ret
  exact ⟨rfl, HAL.out.trans (HB1.out.mono HAL.out.size)⟩
end Go.Proofs.Ytbelhdnbmkemjaa
