/- Layer 13: DedupTakes walked. -/
import Derived.Test.YtbelhdnbmkemjaaDedup10
namespace Go.Proofs.Ytbelhdnbmkemjaa
open Go.RowKit Go.Shelf

theorem look_one {rs : List Row} {p q s : Int} (h : lookOf rs p q s = 1) : s = lastOf rs p q + 1 := by
  unfold lookOf at h
  split at h
  · cases h
  · split at h
    · cases h
    · split at h
      · assumption
      · cases h
theorem last_ge {rs : List Row} (h : ∀ r ∈ rs, 0 ≤ r.l) (p q : Int) : -1 ≤ lastOf rs p q := by
  induction rs with
  | nil => show (-1 : Int) ≤ -1; omega
  | cons r rs ih =>
    by_cases e : r.p = p ∧ r.q = q
    · obtain ⟨rfl, rfl⟩ := e
      rw [lastOf_hit]
      have := h r (by simp)
      omega
    · rw [lastOf_miss _ _ _ _ e]
      exact ih (fun x hx => h x (by simp [hx]))
theorem table_take {rs : List Row} (h : Table rs) (p q s : Int) : Table (takeRows rs p q s) := by
  unfold takeRows
  split
  · rename_i hc
    have := look_one hc.2
    have := last_ge (fun r hr => (h.2 r hr).2) p q
    exact table_put h p q s hc.1 (by omega)
  · exact h
theorem ok_take {rs : List Row} (h : ∀ r ∈ rs, r.ok) (p q s : Int) (hp : I64 p) (hq : I64 q) (hs : I64 s) : ∀ r ∈ takeRows rs p q s, r.ok := by
  unfold takeRows
  split
  · intro r hr
    rcases mem_putRowAt hr with rfl | hr
    · exact ⟨hp, hq, hs⟩
    · exact h r hr
  · exact h

set_option maxHeartbeats 2000000 in
theorem takes_core (v : Value) (rs : List Row) (p q s : Int) (w : World) (hv : Rows w v rs) (hok : ∀ r ∈ rs, r.ok) (hs : I64 s) :
    Calls Try.prog 5 #[v, .agg #[.int .i64 p, .int .i64 q], .int .i64 s] w fun e w' => e = .returned (.bool true) ∧ Below w.heap.size w w' := by
  obtain ⟨X, hX⟩ : ∃ X, X = w.alloc (.cells #[.int .i64 p, .int .i64 q] 23) := ⟨_, rfl⟩
  have hbX : Below w.heap.size w X := by rw [hX]; exact (Below.refl _ _).alloc (Nat.le_refl _) _
  have x0 : X.cell? ⟨w.heap.size, 0, none⟩ = some (.int .i64 p) := by rw [hX, World.cell?_alloc_at _ _ _ _ rfl]; rfl
  have x1 : X.cell? ⟨w.heap.size, 1, none⟩ = some (.int .i64 q) := by rw [hX, World.cell?_alloc_at _ _ _ _ rfl]; rfl
  have HV := Lib.hid hv
  have HOK := Lib.hid hok
  have HS := Lib.hid hs
  have HBX := Lib.hid hbX
  obtain ⟨a, cap, rfl, -, -⟩ := Rd.slice hv
  clear hv hok hs hbX
  go_enter Try.func5, Try.ntmps5
  go_wp2_with fail
  rw [← hX]
  clear hX
  refine (known_calls _).mono ?_
  rintro e w1 ⟨rfl, hb1⟩
  have HB1 := Lib.hid (HBX.out.trans (hb1.mono HBX.out.size))
  have y0 := cell_later hb1 x0
  have y1 := cell_later hb1 x1
  clear hb1 x0 x1
  go_wp2_with fail
  refine (rdgood_calls _ rs _ (HV.out.below HB1.out (Nat.le_refl _))).mono ?_
  rintro e w2 ⟨rfl, hb2⟩
  have HB2 := Lib.hid (HB1.out.trans (hb2.mono HB1.out.size))
  have z0 := cell_later hb2 y0
  have z1 := cell_later hb2 y1
  clear hb2 y0 y1
  cases hg : goodRows rs with
  | false =>
    clear hg
    go_wp2_with fail
    go_ret
    exact ⟨rfl, HB2.out⟩
  | true =>
    have HT := Lib.hid ((table_good rs).1 hg)
    clear hg
    go_wp2_with fail
    refine (take_calls _ rs p q s _ (HV.out.below HB2.out (Nat.le_refl _)) HT.out HOK.out HS.out).mono ?_
    rintro e w3 ⟨v3, rfl, ho3, hb3⟩
    have HB3 := Lib.hid (HB2.out.trans (hb3.mono HB2.out.size))
    have y0 := cell_later hb3 z0
    have y1 := cell_later hb3 z1
    have HR3 := Lib.hid (Rows.of_own ho3)
    have HTT := Lib.hid (table_take HT.out p q s)
    obtain ⟨a3, c3, rfl⟩ := own_slice ho3
    clear hb3 z0 z1 ho3
    go_wp2_with fail
    refine (rtake_calls _ rs p q s _ (HV.out.below HB3.out (Nat.le_refl _)) HT.out HOK.out HS.out).mono ?_
    rintro e w4 ⟨v4, rfl, ho4, hb4⟩
    have HB4 := Lib.hid (HB3.out.trans (hb4.mono HB3.out.size))
    have HR4 := Lib.hid (HR3.out.below hb4 (Nat.le_refl _))
    have HQ4 := Lib.hid (Rows.of_own ho4)
    obtain ⟨a4, c4, rfl⟩ := own_slice ho4
    clear hb4 y0 y1 ho4
    generalize takeCode rs p q s = C
    generalize takeRows rs p q s = T at *
    go_wp2_with fail
    refine (rsame_calls _ _ T _ HR4.out HQ4.out).mono ?_
    rintro e w5 ⟨rfl, hb5⟩
    have HB5 := Lib.hid (HB4.out.trans (hb5.mono HB4.out.size))
    have HR5 := Lib.hid (HR4.out.below hb5 (Nat.le_refl _))
    clear hb5
    go_wp2_with fail
    refine (dgood_calls _ T _ HR5.out).mono ?_
    rintro e w6 ⟨rfl, hb6⟩
    rw [(table_good T).2 HTT.out]
    have HB6 := Lib.hid (HB5.out.trans (hb6.mono HB5.out.size))
    clear hb6
    go_wp2_with fail
    go_ret
    exact ⟨rfl, HB6.out⟩
end Go.Proofs.Ytbelhdnbmkemjaa
