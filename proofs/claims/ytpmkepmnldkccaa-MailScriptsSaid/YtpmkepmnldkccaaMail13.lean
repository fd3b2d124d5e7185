/- Layer 5: the document's Take and Twice of no message, Take walked. -/
import Derived.Test.YtpmkepmnldkccaaMail12
namespace Go.Proofs.Ytpmkepmnldkccaa
open Go.RowKit

theorem rtwice_no (pb n c : Nat) (a : Option Addr) (i : Int) (w : World) (hc : w.cell? ⟨pb, 1, none⟩ = some (.slice a n c)) (hi : i < 0 ∨ (n : Int) ≤ i) :
    Calls Try.prog 16 #[.pointer (some ⟨pb, 0, none⟩), .int .i64 i] w fun e w' => e = .returned (.int .i64 7) ∧ w' = w := by
  rcases hi with h | h
  · go_enter Try.func16, Try.ntmps16
    go_wp2_with fail
    go_ret
    exact ⟨rfl, rfl⟩
  · have g1 : ¬ i < 0 := by omega
    go_enter Try.func16, Try.ntmps16
    go_wp2_with fail
    go_ret
    exact ⟨rfl, rfl⟩

theorem rtake_no (pb n c : Nat) (a : Option Addr) (i : Int) (w : World) (hc : w.cell? ⟨pb, 1, none⟩ = some (.slice a n c)) (hi : i < 0 ∨ (n : Int) ≤ i) :
    Calls Try.prog 15 #[.pointer (some ⟨pb, 0, none⟩), .int .i64 i] w fun e w' => e = .returned (.tuple #[.agg #[.int .i64 0, .int .i64 0, .slice none 0 0], .int .i64 7]) ∧ Below w.heap.size w w' := by
  have hal := (Below.refl w.heap.size w).alloc (Nat.le_refl _) (.cells #[.int .i64 0, .int .i64 0, .slice none 0 0] 32)
  have d1 := cell_later hal hc
  have HAL := Lib.hid hal
  clear hal hc
  rcases hi with h | h
  · go_enter Try.func15, Try.ntmps15
    go_wp2_with fail
    exact bodyPost_ret (v := .tuple #[.agg #[.int .i64 0, .int .i64 0, .slice none 0 0], .int .i64 7]) (by simp [results, Try.results15, go_sem]) rfl ⟨rfl, HAL.out⟩
  · have g1 : ¬ i < 0 := by omega
    go_enter Try.func15, Try.ntmps15
    go_wp2_with fail
    exact bodyPost_ret (v := .tuple #[.agg #[.int .i64 0, .int .i64 0, .slice none 0 0], .int .i64 7]) (by simp [results, Try.results15, go_sem]) rfl ⟨rfl, HAL.out⟩

/-- The messages ahead of k, without number i. -/
def leftTo (es : List Ent) (i k : Nat) : List Ent := (es.take k).eraseIdx i
theorem leftTo_zero (es : List Ent) (i : Nat) : leftTo es i 0 = [] := by simp [leftTo]
theorem leftTo_end (es : List Ent) (i : Nat) : leftTo es i es.length = es.eraseIdx i := by simp [leftTo]
theorem leftTo_hit (es : List Ent) (k : Nat) (hk : k < es.length) : leftTo es k (k + 1) = leftTo es k k := by
  unfold leftTo
  have h : es.take (k + 1) = es.take k ++ [es[k]] := List.take_succ_eq_append_getElem hk
  have hl : (es.take k).length = k := by rw [List.length_take]; omega
  rw [h, List.eraseIdx_append_of_length_le (by omega), hl, Nat.sub_self]
  simp [List.eraseIdx_of_length_le (show (es.take k).length ≤ k by omega)]
theorem leftTo_miss (es : List Ent) (i k : Nat) (hk : k < es.length) (h : k ≠ i) : leftTo es i (k + 1) = leftTo es i k ++ [es[k]] := by
  unfold leftTo
  have h1 : es.take (k + 1) = es.take k ++ [es[k]] := List.take_succ_eq_append_getElem hk
  have hl : (es.take k).length = k := by rw [List.length_take]; omega
  rw [h1]
  rcases Nat.lt_or_ge i k with h2 | h2
  · rw [List.eraseIdx_append_of_lt_length (by omega)]
  · rw [List.eraseIdx_append_of_length_le (by omega), List.eraseIdx_of_length_le (show (es.take k).length ≤ i by omega), List.eraseIdx_of_length_le (by simp; omega)]
theorem leftTo_length (es : List Ent) (i k : Nat) : (leftTo es i k).length ≤ es.length := by
  unfold leftTo
  have h1 := List.length_eraseIdx_le (es.take k) i
  have h2 : (es.take k).length ≤ es.length := by rw [List.length_take]; omega
  omega

/-- A row of messages that grows, behind what was there. -/
structure LeftAt (X wr : World) (v : Value) (xs : List Ent) : Prop where
  own : wr.ownsRow X.heap.size 32 3 v xs.length (flat xs)
  below : Below X.heap.size X wr
theorem LeftAt.grow {X wr w1 w2 : World} {v v2 : Value} {xs : List Ent} {r : Ent} (h : LeftAt X wr v xs) (h1 : w1 = wr.alloc (.cells #[.int .i64 r.f, .int .i64 r.t, r.dv] 32)) (ho : w2.ownsRow X.heap.size 32 3 v2 (xs.length + 1) (flat xs ++ [.int .i64 r.f, .int .i64 r.t, r.dv])) (hg : w1.grownBy w2 v.ownBlock) : LeftAt X w2 v2 (xs ++ [r]) := by
  refine ⟨?_, ?_⟩
  · rw [flat_append, flat_one, List.length_append]; exact ho
  · have hb1 : Below X.heap.size X w1 := by rw [h1]; exact h.below.alloc h.below.size _
    exact hb1.grown hg hb1.size (fun j e => (World.ownsRow.lt h.own j e).1)
theorem LeftAt.room {X wr : World} {v : Value} {xs : List Ent} (h : LeftAt X wr v xs) (o : Obj) : X.heap.size ≤ (wr.alloc o).heap.size := (h.below.alloc h.below.size o).size

set_option maxHeartbeats 2000000 in
set_option maxRecDepth 100000 in
theorem rtake_yes (pb : Nat) (N : Int) (rv : Value) (es : List Ent) (i : Nat) (w : World) (hp : Post w pb N rv es) (hi : i < es.length) (hn : es.length ≤ 100000) :
    Calls Try.prog 15 #[.pointer (some ⟨pb, 0, none⟩), .int .i64 i] w fun e w' => e = .returned (.tuple #[.agg #[.int .i64 es[i].f, .int .i64 es[i].t, es[i].dv], .int .i64 0]) ∧
      ∃ rv', Post w' pb N rv' (es.eraseIdx i) ∧ (∀ g, rv'.ownBlock = some g → w.heap.size ≤ g) ∧ Mine w' (pb + 1) es[i].dv es[i].data ∧ Only (fun j => j = pb) w w' := by
  have HP := Lib.hid hp
  have hlt := hp.lt
  have c1 := hp.c1
  obtain ⟨rb, rc, rfl, x0, x1, x2⟩ := own_at hp.own i hi
  have hal := (Below.refl w.heap.size w).alloc (Nat.le_refl _) (.cells #[.int .i64 0, .int .i64 0, .slice none 0 0] 32)
  have d1 := cell_later hal c1
  have y0 := cell_later hal x0
  have y1 := cell_later hal x1
  have y2 := cell_later hal x2
  obtain ⟨da, dc, hdv⟩ := (hp.data es[i] (List.getElem_mem _)).slice
  have hdb : ∀ (W : World), Post W pb N (.slice (some ⟨rb, 0, none⟩) es.length rc) es → Mine W (pb + 1) (.slice da es[i].data.length dc) es[i].data := fun W h => by rw [← hdv]; exact h.data es[i] (List.getElem_mem _)
  have HDB := Lib.hid hdb
  rw [hdv] at y2 ⊢
  clear hdb
  generalize es[i].f = f at *
  generalize es[i].t = t at *
  generalize hL : es[i].data.length = L at *
  have HRD := Lib.hid hp.own
  have HDAT := Lib.hid hp.reads
  clear hal c1 x0 x1 x2 hp hdv hL
  have g1 : ¬ (i : Int) < 0 := by omega
  have g2 : ¬ (es.length : Int) ≤ i := by omega
  obtain ⟨X, hX⟩ : ∃ X, X = (w.alloc (.cells #[.int .i64 0, .int .i64 0, .slice none 0 0] 32)).alloc (.cells #[.int .i64 f, .int .i64 t, .slice da L dc] 32) := ⟨_, rfl⟩
  obtain ⟨hXs, ⟨p0, p1, p2⟩, ⟨q0, q1, q2⟩, pz, hbX⟩ := two_boxes w _ _ _ _ _ _ _ X hX
  have HB := Lib.hid (And.intro (And.intro p0 (And.intro p1 p2)) (And.intro (And.intro q0 (And.intro q1 q2)) (And.intro pz hbX)))
  clear p0 p1 p2 q0 q1 q2 pz hbX
  go_enter Try.func15, Try.ntmps15
  go_wp2_with fail
  rw [← hX]
  clear hX y0 y1 y2 d1
  go_loopw [7, 8] (fun lv kv wr => ∃ k : Nat, k ≤ es.length ∧ kv = .int .i64 k ∧ LeftAt X wr lv (leftTo es i k)) (fun _ kv _ => es.length - (intOf kv).toNat)
  case atStart => exact ⟨0, by omega, rfl, by rw [leftTo_zero]; exact ⟨World.ownsRow_nil _ _ _ _, Below.refl _ _⟩⟩
  case round =>
    obtain ⟨k, hk, rfl, hl⟩ := hrel
    have hll := leftTo_length es i k
    obtain ⟨la, lc, rfl⟩ := own_slice hl.own
    have HL := Lib.hid hl
    have hbr := HB.out.2.2.2.trans (hl.below.mono (by omega))
    have HBR := Lib.hid hbr
    have r1 := cell_later hbr HP.out.c1
    clear hl hbr
    by_cases hlt2 : k < es.length
    · obtain ⟨rb', rc', e', z0, z1, z2⟩ := own_at HRD.out k hlt2
      simp only [Value.slice.injEq, Option.some.injEq, Addr.mk.injEq, and_true, true_and] at e'
      obtain ⟨rfl, rfl⟩ := e'
      have z0 := cell_later HBR.out z0
      have z1 := cell_later HBR.out z1
      have z2 := cell_later HBR.out z2
      obtain ⟨ka, kc, hkv, -⟩ := HDAT.out es[k] (List.getElem_mem _)
      by_cases hki : k = i
      · subst hki
        have hst := leftTo_hit es k hlt2
        have HST := Lib.hid hst
        clear hst z0 z1 z2 hkv
        generalize hLT : leftTo es k k = LT at *
        clear hLT
        go_wp2_with fail
        go_roundw
        case rel => exact ⟨k + 1, by omega, by go_num, by rw [HST.out]; exact HL.out⟩
        case measure => simp [intOf]; omega
      · have hst := leftTo_miss es i k hlt2 hki
        have HST := Lib.hid hst
        have hne : ((k : Int) == (i : Int)) = false := beq_eq_false_iff_ne.2 (by omega)
        have HGR := Lib.hid (fun (w1 w2 : World) (v2 : Value) => LeftAt.grow (X := X) (w1 := w1) (w2 := w2) (v2 := v2) (r := es[k]) HL.out)
        rw [hkv] at z2 HGR
        clear hst hkv
        generalize es[k].f = kf at *
        generalize es[k].t = kt at *
        generalize es[k].data.length = kL at *
        generalize hLT : leftTo es i k = LT at *
        clear hLT
        go_wp2_with (at_builtin; go_loud (refine app_list tyMails (HL.out.own.alloc _) (Rd.lit (n := 1) rfl (by omega)) (by simp [Value.oneCell']) (by omega) (by omega) (HL.out.room _) rfl rfl rfl rfl ?_; intro v4 w4 hm4 hb4 hn4; obtain ⟨gb, gd, rfl⟩ := own_slice hm4))
        go_roundw
        case rel => exact ⟨k + 1, by omega, by go_num, by
          have h5 := HGR.out _ _ _ rfl hm4 hb4
          rw [HST.out]
          exact h5⟩
        case measure => simp [intOf]; omega
    · obtain rfl : k = es.length := by omega
      have hbl := HL.out.below
      have p0 := cell_later hbl HB.out.1.1
      have p1 := cell_later hbl HB.out.1.2.1
      have p2 := cell_later hbl HB.out.1.2.2
      have q0 := cell_later hbl HB.out.2.1.1
      have q1 := cell_later hbl HB.out.2.1.2.1
      have q2 := cell_later hbl HB.out.2.1.2.2
      have pz : ∀ o, wr.frozen? ⟨w.heap.size, o, none⟩ = false := fun o => (World.frozen?_of_block (a := ⟨w.heap.size, o, none⟩) (hbl.block w.heap.size (by omega))).trans (HB.out.2.2.1 o)
      have HP3 := Lib.hid (HP.out.below HBR.out)
      have rz := HP3.out.fz
      have HON := Lib.hid (Only.of_below (S := fun j => j = pb) HBR.out)
      have hend := leftTo_end es i
      rw [hend] at HL ⊢
      have hel : (es.eraseIdx i).length = es.length - 1 := by rw [List.length_eraseIdx, if_pos hi]
      have HSW := Lib.hid (HP3.out.swap (fun e he => List.mem_of_mem_eraseIdx he) (ownsRow_mono HL.out.own (by omega)))
      have HLA := Lib.hid (fun k hk => (World.ownsRow.lt HL.out.own k hk).1)
      have hbs := HBR.out.size
      clear hbl hend
      generalize (es.eraseIdx i).length = M at *
      clear hel
      go_wp2_with fail
      have hpf := HSW.out.only ((((Only.refl (fun j => j = w.heap.size) _).setCell ⟨w.heap.size, 0, none⟩ (.int .i64 f) (.inl rfl)).setCell ⟨w.heap.size, 1, none⟩ (.int .i64 t) (.inl rfl)).setCell ⟨w.heap.size, 2, none⟩ (.slice da L dc) (.inl rfl)) (by omega) (fun k hk e => by have := HLA.out k hk; omega) (fun x hx k hk e => by
        have := (World.ownsRow.lt (HP.out.data x (List.mem_of_mem_eraseIdx hx)) k hk).2
        omega)
      have hmb : ∀ k, (Value.slice da L dc).ownBlock = some k → k < w.heap.size := fun k hk => (World.ownsRow.lt (HDB.out _ HP.out) k hk).2
      exact bodyPost_ret (v := .tuple #[.agg #[.int .i64 f, .int .i64 t, .slice da L dc], .int .i64 0]) (by simp [results, Try.results15, go_sem, p0, p1, p2]) rfl
        ⟨rfl, _, hpf, fun k hk => by have := HLA.out k hk; omega, ((((HDB.out _ HP3.out).set _ _ (by simp)).set' _ _ hmb).set' _ _ hmb).set' _ _ hmb, (((HON.out.setCell ⟨pb, 1, none⟩ _ (.inl rfl)).setCell ⟨w.heap.size, 0, none⟩ _ (.inr (Nat.le_refl _))).setCell ⟨w.heap.size, 1, none⟩ _ (.inr (Nat.le_refl _))).setCell ⟨w.heap.size, 2, none⟩ _ (.inr (Nat.le_refl _))⟩
end Go.Proofs.Ytpmkepmnldkccaa
