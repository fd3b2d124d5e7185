/- Layer 5: slices.IndexFunc and DeleteFunc over messages, walked. -/
import Derived.Test.YtpmkepmnldkccaaMail14
namespace Go.Proofs.Ytpmkepmnldkccaa
open Go.RowKit Go.Shelf

theorem lose1_calls (b : Nat) (n : Int) (e : Ent) (W : World) (hb : W.cell? ⟨b, 0, none⟩ = some (.int .i64 n)) (hv : e.dv.oneCell' = true) :
    Calls Try.prog 33 #[.agg #[.int .i64 e.f, .int .i64 e.t, e.dv], .pointer (some ⟨b, 0, none⟩)] W fun r W' => r = .returned (.bool (!stays n e)) ∧ Below W.heap.size W W' := by
  have hal := (Below.refl W.heap.size W).alloc (Nat.le_refl _) (.cells #[.int .i64 e.f, .int .i64 e.t, e.dv] 32)
  have hb2 := cell_later hal hb
  have HAL := Lib.hid hal
  have hway := stays_ways n e
  obtain ⟨f, t, dv, xs⟩ := e
  simp only at hv hway hal hb2 HAL ⊢
  clear hal hb
  generalize stays n ⟨f, t, dv, xs⟩ = st at *
  rcases hway with ⟨k1, rfl⟩ | ⟨k1, k2, rfl⟩ | ⟨k1, k2, rfl⟩
  all_goals
    go_enter Try.func33, Try.ntmps33
    go_wp2_with fail
    go_ret
    exact ⟨rfl, HAL.out⟩

set_option maxHeartbeats 800000 in
theorem idxM_calls (es : List Ent) (v : Value) (base b : Nat) (n : Int) (w : World) (eg : ∀ args w, (callFunc 33 args).run Try.prog w = .ok (.enter 33 args) w) (hown : w.ownsRow base 32 3 v es.length (flat es)) (hd : ∀ e ∈ es, e.dv.oneCell' = true) (hb : w.cell? ⟨b, 0, none⟩ = some (.int .i64 n)) (hn : es.length ≤ 1000000) :
    Calls Try.prog 36 #[v, .func (.func 33) #[] #[.pointer (some ⟨b, 0, none⟩)]] w fun e w' => ((∃ i : Nat, ∃ h : i < es.length, stays n es[i] = false ∧ (∀ r ∈ es.take i, stays n r = true) ∧ e = .returned (.int .i64 i)) ∨ ((∀ r ∈ es, stays n r = true) ∧ e = .returned (.int .i64 (-1)))) ∧ Below w.heap.size w w' := by
  have HO := Lib.hid hown
  have HD := Lib.hid hd
  have HBX := Lib.hid hb
  obtain ⟨va, vc, rfl⟩ := own_slice hown
  clear hown hd hb
  go_enter Try.func36, Try.ntmps36
  go_wp2_with fail
  go_loopw [5, 8] (fun _ i wr => ∃ k : Nat, k ≤ es.length ∧ i = .int .i64 k ∧ (∀ r ∈ es.take k, stays n r = true) ∧ Below w.heap.size w wr) (fun _ i _ => es.length - (intOf i).toNat)
  case atStart => exact ⟨0, by omega, rfl, by simp, Below.refl _ _⟩
  case round =>
    obtain ⟨k, hk, rfl, hno, hb⟩ := hrel
    have HB := Lib.hid hb
    have HNO := Lib.hid hno
    clear hno
    by_cases hlt : k < es.length
    · obtain ⟨g, c', hv, c0, c1, c2⟩ := own_at HO.out k hlt
      simp only [Value.slice.injEq, true_and] at hv
      obtain ⟨rfl, rfl⟩ := hv
      have d0 := cell_later hb c0
      have d1 := cell_later hb c1
      have d2 := cell_later hb c2
      have hbx := cell_later hb HBX.out
      have hone := HD.out es[k] (List.getElem_mem _)
      have hnx : es.take (k + 1) = es.take k ++ [es[k]] := List.take_succ_eq_append_getElem hlt
      have HNX := Lib.hid hnx
      clear hnx hb c0 c1 c2
      generalize hR : es[k] = R at *
      have HR := Lib.hid hR
      clear hR
      go_wp2_with fail
      refine (lose1_calls b n R _ hbx hone).mono ?_
      rintro e w1 ⟨rfl, hb1⟩
      have HB3 := Lib.hid (HB.out.trans (hb1.mono HB.out.size))
      clear hb1
      cases hpr : stays n R with
      | false =>
        have HPR := Lib.hid hpr
        clear hpr
        go_wp2_with fail
        go_ret
        exact ⟨.inl ⟨k, hlt, by rw [HR.out]; exact HPR.out, HNO.out, rfl⟩, HB3.out⟩
      | true =>
        have HPR := Lib.hid hpr
        clear hpr
        go_wp2_with fail
        go_roundw
        case rel =>
          refine ⟨k + 1, by omega, by go_num, fun r hr => ?_, HB3.out⟩
          rw [HNX.out] at hr
          rcases List.mem_append.1 hr with hr | hr
          · exact HNO.out r hr
          · rw [List.mem_singleton.1 hr]; exact HPR.out
        case measure => simp [intOf]; omega
    · obtain rfl : k = es.length := by omega
      clear hb
      go_wp2_with fail
      go_ret
      refine ⟨.inr ⟨fun r hr => HNO.out r (by rw [List.take_length]; exact hr), rfl⟩, HB.out⟩
end Go.Proofs.Ytpmkepmnldkccaa
