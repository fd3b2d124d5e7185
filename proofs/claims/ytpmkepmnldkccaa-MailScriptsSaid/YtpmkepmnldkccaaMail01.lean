/- Layer 5: rows of messages; Clone and Delete walked. -/
import Derived.Test.YtpmkepmnldkccaaBase
namespace Go.Proofs.Ytpmkepmnldkccaa
open Go.RowKit

theorem tyMails : STy Try.prog 22 32 (.agg #[.int .i64 0, .int .i64 0, .slice none 0 0]) 3 40 := .of Try.underlying22 (by kernel_rfl) rfl (by omega)

theorem grown_drew {w w' : World} {r : Option Nat} (h : w.drew.grownBy w' r) : w.grownBy w' r := ⟨h.os, h.tape, h.output, h.size, h.block⟩

/-! ### clear of what lies behind an owned row -/
theorem own_setCells_past {base g n cap sz : Nat} {e : TypeId} {xs : List Value} : ∀ (vs : List Value) (o : Nat) (w : World), w.ownsRow base e sz (.slice (some ⟨g, 0, none⟩) n cap) n xs → xs.length ≤ o →
    (w.setCells g o vs).ownsRow base e sz (.slice (some ⟨g, 0, none⟩) n cap) n xs ∧ w.grownBy (w.setCells g o vs) (some g)
  | [], _, _, h, _ => ⟨h, ⟨rfl, rfl, rfl, Nat.le_refl _, fun _ _ _ => rfl⟩⟩
  | v :: r, o, w, h, ho => by
    have h1 := World.ownsRow.stored h o v
    rw [List.set_eq_of_length_le ho] at h1
    have h2 := own_setCells_past r (o + 1) _ h1.1 (by omega)
    exact ⟨h2.1, h1.2.trans h2.2⟩

theorem own_there {w : World} {base g n cap sz : Nat} {e : TypeId} {xs : List Value} (h : w.ownsRow base e sz (.slice (some ⟨g, 0, none⟩) n cap) n xs) (j : Nat) (hj : j < cap * sz) : (w.cell? ⟨g, j, none⟩).isSome = true := by
  rcases h.2 with ⟨h', _⟩ | ⟨g', cap', cur, h', _, hg, _, _, hcs, _⟩
  · simp at h'
  · simp only [Value.slice.injEq, Option.some.injEq, Addr.mk.injEq, and_true, true_and] at h'
    obtain ⟨rfl, rfl⟩ := h'
    simp only [World.cell?, hg]
    simp [hcs, hj]

theorem run_clear_tail {P : Program} {w : World} {t e ty : TypeId} {z : Value} {sz bytes base g n m c cap : Nat} {xs : List Value} (T : STy P t e z sz bytes) (hv : ∀ w, (zeroValue e).run P w = .ok z w) (h1 : ∀ u ∈ z.cells.toList, u.oneCell' = true)
    (hown : w.ownsRow base e sz (.slice (some ⟨g, 0, none⟩) n cap) n xs) (hm : n + m ≤ cap) (hm0 : 0 < m) :
    ∃ w', (Builtin.clear_ #[t] ty #[.slice (some ⟨g, n * sz, none⟩) m c]).run P w = .ok (.tuple #[]) w' ∧ w'.ownsRow base e sz (.slice (some ⟨g, 0, none⟩) n cap) n xs ∧ w.grownBy w' (some g) := by
  have hl : (Builtin.zeroCells z.cells m).toList.length = m * sz := by simp [Builtin.zeroCells, T.hz]
  have hz1 : ∀ u ∈ (Builtin.zeroCells z.cells m).toList, u.oneCell' = true := by
    intro u hu
    simp only [Builtin.zeroCells, Array.toList_map, Array.toList_range, List.mem_map, List.mem_range] at hu
    obtain ⟨i, hi, rfl⟩ := hu
    have hpos := T.pos
    have hzs := T.hz
    have hlt : i % z.cells.size < z.cells.size := Nat.mod_lt _ (by omega)
    rw [getElem!_pos z.cells _ hlt]
    exact h1 _ (by simp)
  have hle : n * sz + m * sz ≤ cap * sz := by rw [← Nat.add_mul]; exact Nat.mul_le_mul_right _ hm
  have hst := run_storeCells_cells (P := P) g (n * sz) (Builtin.zeroCells z.cells m).toList 0 w (fun j hj => own_there hown _ (by omega)) (fun j _ => World.ownsRow.frozenAt hown _) hz1
  have hp := own_setCells_past (Builtin.zeroCells z.cells m).toList (n * sz) w hown (by rw [hown.1]; exact Nat.le_refl _)
  obtain ⟨m', rfl⟩ : ∃ m', m = m' + 1 := ⟨m - 1, by omega⟩
  refine ⟨_, ?_, hp.1, hp.2⟩
  simp only [Nat.add_zero] at hst
  simp [Builtin.clear_, run_underlying T.ht, hv, hst]

/-! ### Messages -/
structure Ent where
  f : Int
  t : Int
  dv : Value
  data : List UInt8
def Ent.cells (e : Ent) : List Value := [.int .i64 e.f, .int .i64 e.t, e.dv]
def flat (es : List Ent) : List Value := es.flatMap Ent.cells
theorem flat_length (es : List Ent) : (flat es).length = es.length * 3 := by
  induction es with
  | nil => rfl
  | cons e es ih => simp only [flat, List.flatMap_cons, List.length_append, List.length_cons] at ih ⊢; simp only [Ent.cells, List.length_cons, List.length_nil]; omega
theorem flat_append (a b : List Ent) : flat (a ++ b) = flat a ++ flat b := by simp [flat]
theorem flat_one (e : Ent) : flat [e] = [.int .i64 e.f, .int .i64 e.t, e.dv] := by simp [flat, Ent.cells]
theorem flat_take (es : List Ent) (k : Nat) (hk : k ≤ es.length) : (flat es).take (k * 3) = flat (es.take k) := by
  have h1 := flat_append (es.take k) (es.drop k)
  rw [List.take_append_drop] at h1
  have h : (flat (es.take k)).length = k * 3 := by rw [flat_length, List.length_take, Nat.min_eq_left hk]
  rw [h1, ← h, List.take_left]
theorem flat_drop (es : List Ent) (k : Nat) (hk : k ≤ es.length) : (flat es).drop (k * 3) = flat (es.drop k) := by
  have h1 := flat_append (es.take k) (es.drop k)
  rw [List.take_append_drop] at h1
  have h : (flat (es.take k)).length = k * 3 := by rw [flat_length, List.length_take, Nat.min_eq_left hk]
  rw [h1, ← h, List.drop_left]
theorem flat_get (es : List Ent) (k : Nat) (hk : k < es.length) : (flat es)[k * 3]? = some (.int .i64 es[k].f) ∧ (flat es)[k * 3 + 1]? = some (.int .i64 es[k].t) ∧ (flat es)[k * 3 + 2]? = some es[k].dv := by
  have hd := flat_drop es k (by omega)
  rw [List.drop_eq_getElem_cons hk] at hd
  have e0 : ∀ j, (flat es)[k * 3 + j]? = ((flat es).drop (k * 3))[j]? := fun j => by rw [List.getElem?_drop]
  refine ⟨?_, ?_, ?_⟩
  · have := e0 0; rw [Nat.add_zero] at this; rw [this, hd]; rfl
  · rw [e0 1, hd]; rfl
  · rw [e0 2, hd]; rfl

/-- The data is read in w, each by a slice of one cell. -/
def Reads (w : World) (es : List Ent) : Prop := ∀ e ∈ es, Bytes w e.dv e.data
theorem Reads.one {w : World} {es : List Ent} (h : Reads w es) : ∀ u ∈ flat es, u.oneCell' = true := by
  intro u hu
  obtain ⟨e, he, hu⟩ := List.mem_flatMap.1 hu
  obtain ⟨a, c, hv, -⟩ := h e he
  simp only [Ent.cells, List.mem_cons, List.not_mem_nil, or_false] at hu
  rcases hu with rfl | rfl | rfl
  · rfl
  · rfl
  · rw [hv]; rfl

set_option maxHeartbeats 400000 in
theorem cloneB_calls (v : Value) (xs : List UInt8) (w : World) (hv : Bytes w v xs) (hl : xs.length ≤ 140737488351232) :
    Calls Try.prog 35 #[v] w fun e w' => ∃ v', e = .returned v' ∧ Mine w' w.heap.size v' xs ∧ Below w.heap.size w w' := by
  have HV := Lib.hid hv
  obtain ⟨a, c, rfl, hle, -, h3⟩ := hv
  cases a with
  | none =>
    have h0 : xs.length = 0 := by
      rcases h3 with h3 | ⟨b, o, h, -⟩
      · omega
      · cases h
    have hx : xs = [] := List.eq_nil_of_length_eq_zero h0
    subst hx
    clear h0 h3
    have hnil := fun (w : World) => Lib.run_eql_slice_nil (P := Try.prog) w 30 5 none 0 c 0 0 Try.underlying30
    go_enter Try.func35, Try.ntmps35
    go_wp2
    go_ret
    exact ⟨_, rfl, Mine.nil _ _, Below.refl _ _⟩
  | some x =>
    clear h3
    have hnil := fun (w : World) => Lib.run_eql_slice_nil (P := Try.prog) w 30 5 (some x) xs.length c 0 0 Try.underlying30
    have hlit := Mine.lit w w.heap.size 0 #[] [] (Nat.le_refl _) (by omega) rfl rfl
    have hal := (Below.refl w.heap.size w).alloc (Nat.le_refl _) (.cells #[] 5)
    have HR := Lib.hid (HV.out.below hal (Nat.le_refl _))
    have HLIT := Lib.hid hlit
    have HAL := Lib.hid hal
    clear hlit hal
    go_enter Try.func35, Try.ntmps35
    go_wp2_with (at_builtin; go_loud (refine app_mine HLIT.out HR.out HAL.out HAL.out.size (by simp; omega) rfl rfl rfl rfl ?_; intro v3 w3 hm3 hb3; obtain ⟨ga, gc, rfl⟩ := hm3.slice))
    go_ret
    exact ⟨_, rfl, hm3, hb3⟩

set_option maxHeartbeats 400000 in
theorem cloneL_calls (v : Value) (n : Nat) (cs : List Value) (w : World) (hv : Rd w 3 v n cs) (h1 : ∀ u ∈ cs, u.oneCell' = true) (hl : n ≤ 1000000) :
    Calls Try.prog 30 #[v] w fun e w' => ∃ v', e = .returned v' ∧ w'.ownsRow w.heap.size 32 3 v' n cs ∧ Below w.heap.size w w' := by
  have HV := Lib.hid hv
  have H1 := Lib.hid h1
  obtain ⟨a, c, rfl, hn, hle, hc, h3⟩ := hv
  clear h1
  cases a with
  | none =>
    have h0 : n = 0 := by
      rcases h3 with h3 | ⟨b, o, h, -⟩
      · omega
      · cases h
    subst h0
    have hx : cs = [] := List.eq_nil_of_length_eq_zero (by omega)
    subst hx
    clear h3 hn
    have hnil := fun (w : World) => Lib.run_eql_slice_nil (P := Try.prog) w 22 32 none 0 c 0 0 Try.underlying22
    go_enter Try.func30, Try.ntmps30
    go_wp2
    go_ret
    exact ⟨_, rfl, World.ownsRow_nil _ _ _ _, Below.refl _ _⟩
  | some x =>
    clear h3 hn
    have hnil := fun (w : World) => Lib.run_eql_slice_nil (P := Try.prog) w 22 32 (some x) n c 0 0 Try.underlying22
    have hlit := World.ownsRow_lit (base := w.heap.size) (size := 3) (e := 32) w #[] 0 (Nat.le_refl _) (by unfold maxLen; omega) (by simp)
    have hal := (Below.refl w.heap.size w).alloc (Nat.le_refl _) (.cells #[] 32)
    have HR := Lib.hid (HV.out.below hal (Nat.le_refl _))
    have HLIT := Lib.hid hlit
    have HAL := Lib.hid hal
    clear hlit hal
    go_enter Try.func30, Try.ntmps30
    go_wp2_with (at_builtin; go_loud (refine app_list tyMails HLIT.out HR.out H1.out (by omega) (by omega) HAL.out.size rfl rfl rfl rfl ?_; intro v3 w3 hm3 hb3 hn3; obtain ⟨ga, gc, rfl⟩ := own_slice hm3))
    go_ret
    refine ⟨_, rfl, ?_, ?_⟩
    · simpa using hm3
    · exact HAL.out.grown hb3 HAL.out.size (fun j e => (World.ownsRow.lt HLIT.out j e).1)


set_option maxHeartbeats 400000 in
theorem own_calls (f t : Int) (dv : Value) (xs : List UInt8) (w : World) (hv : Bytes w dv xs) (hl : xs.length ≤ 140737488351232) :
    Calls Try.prog 27 #[.agg #[.int .i64 f, .int .i64 t, dv]] w fun e w' => ∃ dv', e = .returned (.agg #[.int .i64 f, .int .i64 t, dv']) ∧ Mine w' w.heap.size dv' xs ∧ Below w.heap.size w w' := by
  have HV := Lib.hid hv
  obtain ⟨a, c, rfl, -⟩ := hv
  have hal := ((Below.refl w.heap.size w).alloc (Nat.le_refl _) (.cells #[.int .i64 f, .int .i64 t, .slice a xs.length c] 32)).alloc (by simp) (.cells #[.int .i64 0, .int .i64 0, .slice none 0 0] 32)
  have HAL := Lib.hid hal
  have HB := Lib.hid (HV.out.below hal (Nat.le_refl _))
  clear hal
  go_enter Try.func27, Try.ntmps27
  go_wp2_with fail
  refine (cloneB_calls _ xs _ HB.out hl).mono ?_
  rintro e w1 ⟨v1, rfl, hm, hb⟩
  obtain ⟨W, hW⟩ : ∃ W, W = (w.alloc (.cells #[.int .i64 f, .int .i64 t, .slice a xs.length c] 32)).alloc (.cells #[.int .i64 0, .int .i64 0, .slice none 0 0] 32) := ⟨_, rfl⟩
  have hWs : W.heap.size = w.heap.size + 2 := by rw [hW]; simp
  have q0 : W.cell? ⟨w.heap.size, 0, none⟩ = some (.int .i64 f) := by rw [hW, World.cell?_alloc_past _ _ _ (by simp), World.cell?_alloc_at _ _ _ _ rfl]; rfl
  have q1 : W.cell? ⟨w.heap.size, 1, none⟩ = some (.int .i64 t) := by rw [hW, World.cell?_alloc_past _ _ _ (by simp), World.cell?_alloc_at _ _ _ _ rfl]; rfl
  have q2 : W.cell? ⟨w.heap.size, 2, none⟩ = some (.slice a xs.length c) := by rw [hW, World.cell?_alloc_past _ _ _ (by simp), World.cell?_alloc_at _ _ _ _ rfl]; rfl
  have p0 : W.cell? ⟨w.heap.size + 1, 0, none⟩ = some (.int .i64 0) := by rw [hW, World.cell?_alloc_at _ _ _ _ (by simp)]; rfl
  have p1 : W.cell? ⟨w.heap.size + 1, 1, none⟩ = some (.int .i64 0) := by rw [hW, World.cell?_alloc_at _ _ _ _ (by simp)]; rfl
  have p2 : W.cell? ⟨w.heap.size + 1, 2, none⟩ = some (.slice none 0 0) := by rw [hW, World.cell?_alloc_at _ _ _ _ (by simp)]; rfl
  have z0 : ∀ o, W.frozen? ⟨w.heap.size, o, none⟩ = false := fun o => by rw [hW, World.frozen?_alloc_past _ _ _ (by simp), World.frozen?_alloc_at _ _ _ _ rfl]
  have z1 : ∀ o, W.frozen? ⟨w.heap.size + 1, o, none⟩ = false := fun o => by rw [hW, World.frozen?_alloc_at _ _ _ _ (by simp)]
  rw [← hW] at hb hm
  have HBW := Lib.hid (by have h := HAL.out; rw [← hW] at h; exact h.trans (hb.mono (by omega)))
  have hs1 : w.heap.size + 2 ≤ w1.heap.size := by have := hb.size; omega
  have q0' := cell_later hb q0
  have q1' := cell_later hb q1
  have q2' := cell_later hb q2
  have p0' := cell_later hb p0
  have p1' := cell_later hb p1
  have p2' := cell_later hb p2
  have z0' : ∀ o, w1.frozen? ⟨w.heap.size, o, none⟩ = false := fun o => (World.frozen?_of_block (a := ⟨w.heap.size, o, none⟩) (hb.block w.heap.size (by omega))).trans (z0 o)
  have z1' : ∀ o, w1.frozen? ⟨w.heap.size + 1, o, none⟩ = false := fun o => (World.frozen?_of_block (a := ⟨w.heap.size + 1, o, none⟩) (hb.block (w.heap.size + 1) (by omega))).trans (z1 o)
  have HM := Lib.hid hm
  have HWS := Lib.hid hWs
  obtain ⟨va, vc, rfl⟩ := hm.slice
  clear HAL HB hb hm hW q0 q1 q2 p0 p1 p2 z0 z1 hWs HV
  go_wp2_with fail
  have hws := HWS.out
  refine bodyPost_ret (v := .agg #[.int .i64 f, .int .i64 t, .slice va xs.length vc]) (by simp [results, Try.results27, go_sem, p0', p1', p2']) rfl ⟨_, rfl, ?_, ?_⟩
  · exact ((((HM.out.set _ _ (by simp; omega)).set _ _ (by simp; omega)).set _ _ (by simp; omega)).set _ _ (by simp; omega)).mono (by omega)
  · exact (((HBW.out.setCell (by simp) _).setCell (by simp) _).setCell (by simp) _).setCell (by simp) _

set_option maxHeartbeats 800000 in
theorem del_calls (g cap m i base : Nat) (cs : List Value) (w : World) (hown : w.ownsRow base 32 3 (.slice (some ⟨g, 0, none⟩) (m + 1) cap) (m + 1) cs) (h1 : ∀ u ∈ cs, u.oneCell' = true) (hi : i ≤ m) (hn : m ≤ 1000000) :
    Calls Try.prog 29 #[.slice (some ⟨g, 0, none⟩) (m + 1) cap, .int .i64 i, .int .i64 ((i : Int) + 1)] w fun e w' => e = .returned (.slice (some ⟨g, 0, none⟩) m cap) ∧
      w'.ownsRow base 32 3 (.slice (some ⟨g, 0, none⟩) m cap) m (cs.take (i * 3) ++ cs.drop ((i + 1) * 3)) ∧ w.grownBy w' (some g) := by
  obtain ⟨g', cap', hgc, -, -, hnc, hcm⟩ := own_succ hown
  simp only [Value.slice.injEq, Option.some.injEq, Addr.mk.injEq, and_true, true_and] at hgc
  obtain ⟨rfl, rfl⟩ := hgc
  have HO := Lib.hid hown
  have H1 := Lib.hid h1
  clear h1
  have hb1 : (i : Int) + 1 ≤ (m : Int) + 1 := by omega
  have hb2 : (m : Int) + 1 ≤ cap := by omega
  have hb3 : (i : Int) ≤ cap := by omega
  have hb4 : i ≤ cap := by omega
  have hb5 : (0 : Int) ≤ (i : Int) + 1 := by omega
  have hb6 : ¬ cap = m := by omega
  have hb7 : (m : Int) ≤ (m : Int) + 1 := by omega
  obtain ⟨i0, hi0, e1, e2, e3⟩ := tyMails.hi
  have hcl : cs.length = (m + 1) * 3 := hown.1
  have hpre := own_prefix (n := i) (m := m + 1 - i) (xs := cs.take (i * 3)) (ys := cs.drop (i * 3)) (by rw [List.take_append_drop, Nat.add_sub_cancel' (by omega)]; exact hown) (by rw [List.length_take]; omega)
  have hdl : (cs.drop ((i + 1) * 3)).length = (m - i) * 3 := by rw [List.length_drop]; omega
  have hd1 : ∀ u ∈ cs.drop ((i + 1) * 3), u.oneCell' = true := fun u hu => H1.out u (List.mem_of_mem_drop hu)
  have hsum : i + (m - i) = m := by omega
  have happ : ∀ (o : Nat), (m = i ∨ o = (i + 1) * 3) → ∃ w1, (Builtin.append_ #[22, 22] 22 #[.slice (some ⟨g, 0, none⟩) i cap, .slice (some ⟨g, o, none⟩) (m - i) (cap - (i + 1))]).run Try.prog w.drew = .ok (.slice (some ⟨g, 0, none⟩) m cap) w1 ∧
      w1.ownsRow base 32 3 (.slice (some ⟨g, 0, none⟩) m cap) m (cs.take (i * 3) ++ cs.drop ((i + 1) * 3)) ∧ w.drew.grownBy w1 (some g) := by
    intro o ho
    have h := run_append_fits (P := Try.prog) (w := w.drew) (ty := 22) base 22 32 i0 3 tyMails.ht hi0 e2 g i cap (cs.take (i * 3)) hpre
      ⟨g, o, none⟩ (m - i) (cap - (i + 1)) (cs.drop ((i + 1) * 3)) hdl (fun j u hj => by
        have hlt : j < (cs.drop ((i + 1) * 3)).length := (List.getElem?_eq_some_iff.1 hj).1
        rw [List.getElem?_drop] at hj
        have := World.ownsRow.cells hown rfl _ _ hj
        rw [add_off] at this ⊢
        rcases ho with ho | ho
        · omega
        · rw [ho]; rwa [Nat.zero_add] at this) hd1 (by omega)
    rw [hsum] at h
    exact h
  have hclr : ∀ w1 : World, w1.ownsRow base 32 3 (.slice (some ⟨g, 0, none⟩) m cap) m (cs.take (i * 3) ++ cs.drop ((i + 1) * 3)) → ∃ w2, (∀ ty, (Builtin.clear_ #[22] ty #[.slice (some ⟨g, m * 3, none⟩) 1 (cap - m)]).run Try.prog w1 = .ok (.tuple #[]) w2) ∧
      w2.ownsRow base 32 3 (.slice (some ⟨g, 0, none⟩) m cap) m (cs.take (i * 3) ++ cs.drop ((i + 1) * 3)) ∧ w1.grownBy w2 (some g) := by
    intro w1 ho
    obtain ⟨w2, h1, h2, h3⟩ := run_clear_tail (P := Try.prog) (t := 22) (ty := 0) (m := 1) (c := cap - m) tyMails (fun w => by kernel_rfl) (by simp [Value.cells, Value.oneCell']) ho (by omega) (by omega)
    exact ⟨w2, fun ty => h1, h2, h3⟩
  have HAPP := Lib.hid happ
  have HCLR := Lib.hid hclr
  clear hpre hdl hd1 hsum happ hclr hcl hown e1 e2 e3 hi0
  rcases (show (cap = i + 1 ∧ m = i) ∨ (¬ cap = i + 1 ∧ i + 1 < cap) from by omega) with ⟨hc1, hc2⟩ | ⟨hc1, hc2⟩
  · subst hc1 hc2
    have hb8 : (m : Int) ≤ (m : Int) + 1 := by omega
    obtain ⟨w1, hrun, ho1, hg1⟩ := HAPP.out 0 (.inl rfl)
    obtain ⟨w2, hrun2, ho2, hg2⟩ := HCLR.out w1 ho1
    simp only [Nat.sub_self, show m + 1 - m = 1 from by omega] at hrun hrun2
    have HR := Lib.hid hrun
    have HR2 := Lib.hid hrun2
    have HO2 := Lib.hid (And.intro ho2 (World.grownBy.trans (grown_drew hg1) hg2))
    clear hrun hrun2 ho1 hg1 ho2 hg2
    go_enter Try.func29, Try.ntmps29
    go_wp2_with fail
    refine region_m [(0, false), (1, false), (2, false), (3, false), (4, false), (5, false)] 6 (fun _ => True) (by kernel_rfl) (by kernel_rfl) trivial ?_
    iterate 6
      refine m_take (v := ?_) rfl rfl ?_ ?_
      rotate_left
      · intro W hW
        go_simp
        with_reducible rfl
      simp only [Act.put, List.setIfInBounds_toArray, List.set_cons_zero, List.set_cons_succ]
    refine m_done ?_
    simp only [List.drop_succ_cons, List.drop_zero]
    refine list_value rfl (exec_app rfl rfl rfl HR.out) ?_
    have hrun2 := HR2.out
    go_wp2_with fail
    simp only [NP]
    go_wp2_with fail
    go_ret
    exact ⟨rfl, HO2.out⟩
  · have g3 : (i : Int) + 1 ≤ cap := by omega
    obtain ⟨w1, hrun, ho1, hg1⟩ := HAPP.out ((i + 1) * 3) (.inr rfl)
    obtain ⟨w2, hrun2, ho2, hg2⟩ := HCLR.out w1 ho1
    have HR := Lib.hid hrun
    have HR2 := Lib.hid hrun2
    have HO2 := Lib.hid (And.intro ho2 (World.grownBy.trans (grown_drew hg1) hg2))
    clear hrun hrun2 ho1 hg1 ho2 hg2
    go_enter Try.func29, Try.ntmps29
    go_wp2_with fail
    refine region_m [(0, false), (1, false), (2, false), (3, false), (4, false), (5, false)] 6 (fun _ => True) (by kernel_rfl) (by kernel_rfl) trivial ?_
    iterate 6
      refine m_take (v := ?_) rfl rfl ?_ ?_
      rotate_left
      · intro W hW
        go_simp
        with_reducible rfl
      simp only [Act.put, List.setIfInBounds_toArray, List.set_cons_zero, List.set_cons_succ]
    refine m_done ?_
    simp only [List.drop_succ_cons, List.drop_zero]
    refine list_value rfl (exec_app rfl rfl rfl HR.out) ?_
    have hrun2 := HR2.out
    go_wp2_with fail
    simp only [NP]
    go_wp2_with fail
    go_ret
    exact ⟨rfl, HO2.out⟩
end Go.Proofs.Ytpmkepmnldkccaa
