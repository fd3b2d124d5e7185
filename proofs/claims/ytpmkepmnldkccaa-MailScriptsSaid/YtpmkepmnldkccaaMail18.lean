/- Layer 5: Spoil walked. -/
import Derived.Test.YtpmkepmnldkccaaMail17
namespace Go.Proofs.Ytpmkepmnldkccaa
open Go.RowKit Go.Shelf

theorem bvs_set (xs : List UInt8) (i : Nat) (b : UInt8) : bvs (xs.set i b) = (bvs xs).set i (byteV b) := by
  unfold bvs
  rw [List.map_set]

/-- A message stored anew in its place, and a byte of it turned. -/
theorem Post.turn {w2 : World} {w0 pb : Nat} {N : Int} {g rc d dc i at_ : Nat} {es : List Ent} {f t : Int} {xs : List UInt8} (b : UInt8) (h : Post w2 pb N (.slice (some ⟨g, 0, none⟩) es.length rc) es) (hi : i < es.length)
    (hold : ∀ e ∈ es, ∀ k, e.dv.ownBlock = some k → k < w0) (hg : g < w0) (hd : w0 ≤ d) (hm : Mine w2 (pb + 1) (.slice (some ⟨d, 0, none⟩) xs.length dc) xs) (hsm : xs.length ≤ 65536) :
    Post ((((w2.setCell ⟨g, i * 3, none⟩ (.int .i64 f)).setCell ⟨g, i * 3 + 1, none⟩ (.int .i64 t)).setCell ⟨g, i * 3 + 2, none⟩ (.slice (some ⟨d, 0, none⟩) xs.length dc)).setCell ⟨d, at_, none⟩ (byteV b)) pb N (.slice (some ⟨g, 0, none⟩) es.length rc)
      (es.set i ⟨f, t, .slice (some ⟨d, 0, none⟩) xs.length dc, xs.set at_ b⟩) := by
  have hgb := World.ownsRow.lt h.own g rfl
  have hdb := World.ownsRow.lt hm d rfl
  have o1 := World.ownsRow.stored h.own (i * 3) (.int .i64 f)
  have o2 := World.ownsRow.stored o1.1 (i * 3 + 1) (.int .i64 t)
  have o3 := World.ownsRow.stored o2.1 (i * 3 + 2) (.slice (some ⟨d, 0, none⟩) xs.length dc)
  have on3 : Only (fun j => j = g) w2 (((w2.setCell ⟨g, i * 3, none⟩ (.int .i64 f)).setCell ⟨g, i * 3 + 1, none⟩ (.int .i64 t)).setCell ⟨g, i * 3 + 2, none⟩ (.slice (some ⟨d, 0, none⟩) xs.length dc)) :=
    (((Only.refl (fun j => j = g) w2).setCell ⟨g, i * 3, none⟩ (.int .i64 f) (.inl rfl)).setCell ⟨g, i * 3 + 1, none⟩ (.int .i64 t) (.inl rfl)).setCell ⟨g, i * 3 + 2, none⟩ (.slice (some ⟨d, 0, none⟩) xs.length dc) (.inl rfl)
  have on4 := (on3.weak (T := fun j => j = g ∨ j = d) (fun _ _ h => .inl h)).setCell ⟨d, at_, none⟩ (byteV b) (.inl (.inr rfl))
  have hm3 := ownsRow_only hm on3 (fun k hk e => by simp only [Value.ownBlock, Option.some.injEq] at hk; omega)
  have hm4 := (World.ownsRow.stored hm3 at_ (byteV b)).1
  refine ⟨on4.cell (by omega) h.c0, on4.cell (by omega) h.c1, (on4.frozen h.lt (by omega)).trans h.fz, ?_, fun e he => ?_, fun e he => ?_⟩
  · rw [List.length_set, flat_set es i hi]
    exact ownsRow_only o3.1 ((Only.refl (fun j => j = d) _).setCell ⟨d, at_, none⟩ (byteV b) (.inl rfl)) (fun k hk e => by simp only [Value.ownBlock, Option.some.injEq] at hk; omega)
  · rcases List.mem_or_eq_of_mem_set he with he | rfl
    · refine ownsRow_only (h.data e he) on4 (fun k hk e2 => ?_)
      rcases e2 with e2 | e2
      · subst e2
        exact own_apart h.own (h.data e he) (by decide) k rfl hk
      · have := hold e he k hk
        omega
    · unfold Mine
      simp only [List.length_set]
      rw [bvs_set]
      exact hm4
  · rcases List.mem_or_eq_of_mem_set he with he | rfl
    · exact h.small e he
    · simp only [List.length_set]
      exact hsm

theorem spoil_none (pb n c : Nat) (a : Option Addr) (i at_ t : Int) (w : World) (hc : w.cell? ⟨pb, 1, none⟩ = some (.slice a n c)) (hi : i < 0 ∨ (n : Int) ≤ i) :
    Calls Try.prog 17 #[.pointer (some ⟨pb, 0, none⟩), .int .i64 i, .int .i64 at_, .int .u8 t] w fun e w' => e = .returned (.int .i64 7) ∧ w' = w := by
  go_enter Try.func17, Try.ntmps17
  go_wp2_with (go_at_call 28; refine (there_no pb n c a i _ hc hi).mono ?_; rintro e w' ⟨rfl, rfl⟩)
  go_ret
  exact ⟨rfl, rfl⟩

theorem spoil_range (pb : Nat) (N : Int) (rv : Value) (es : List Ent) (i : Nat) (at_ t : Int) (w : World) (hp : Post w pb N rv es) (hi : i < es.length) (ha : at_ < 0 ∨ (es[i].data.length : Int) ≤ at_) :
    Calls Try.prog 17 #[.pointer (some ⟨pb, 0, none⟩), .int .i64 i, .int .i64 at_, .int .u8 t] w fun e w' => e = .returned (.int .i64 8) ∧ w' = w := by
  have c1 := hp.c1
  obtain ⟨rb, rc, rfl, x0, x1, x2⟩ := own_at hp.own i hi
  obtain ⟨da, dc, hdv⟩ := (hp.data es[i] (List.getElem_mem _)).slice
  rw [hdv] at x2
  clear hp hdv
  generalize es[i].data.length = L at *
  rcases ha with h | h
  · go_enter Try.func17, Try.ntmps17
    go_wp2_with fail
    refine (there_yes pb es.length rc _ i _ c1 hi).mono ?_
    rintro e w' ⟨rfl, rfl⟩
    go_wp2_with fail
    go_ret
    exact ⟨rfl, rfl⟩
  · have g1 : ¬ at_ < 0 := by omega
    go_enter Try.func17, Try.ntmps17
    go_wp2_with fail
    refine (there_yes pb es.length rc _ i _ c1 hi).mono ?_
    rintro e w' ⟨rfl, rfl⟩
    go_wp2_with fail
    go_ret
    exact ⟨rfl, rfl⟩
end Go.Proofs.Ytpmkepmnldkccaa
