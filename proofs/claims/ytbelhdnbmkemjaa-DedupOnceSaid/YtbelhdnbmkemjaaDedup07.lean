/- Layer 13: slices.Insert of one row where there is no room, walked; Insert as a whole. -/
import Derived.Test.YtbelhdnbmkemjaaDedup06
namespace Go.Proofs.Ytbelhdnbmkemjaa
open Go.RowKit Go.Shelf

set_option maxHeartbeats 2000000 in
theorem ins_grow (base n vb i g cap : Nat) (cs xs : List Value) (w : World) (hown : w.ownsRow base 42 3 (.slice (some ⟨g, 0, none⟩) n cap) n cs) (h1 : ∀ u ∈ cs, u.oneCell' = true) (hx : Lit3 w vb xs) (hn : n ≤ 1000000) (hi : i < n) (hroom : cap < n + 1) (hnc : n ≤ cap) (hbase : base ≤ w.heap.size) (hg : g < w.heap.size) :
    Calls Try.prog 24 #[.slice (some ⟨g, 0, none⟩) n cap, .int .i64 i, .slice (some ⟨vb, 0, none⟩) 1 1] w fun e w' => ∃ v', e = .returned v' ∧ w'.ownsRow base 42 3 v' (n + 1) (cs.take (i * 3) ++ xs ++ cs.drop (i * 3)) ∧ Only (fun j => some g = some j) w w' := by
  obtain rfl : cap = n := by omega
  clear hnc hroom
  have hcl : cs.length = cap * 3 := hown.1
  have hcells := World.ownsRow.cells hown rfl
  obtain ⟨c, w1, zs, hzl, hc1, hc2, hrun, ho1, hb1⟩ := run_app_zeros (ty := 22) (tn := 3) (kn := .i64) (k := cap + 1 - i) tyRows Try.underlying3 hown (by omega : i ≤ cap) (by omega) (by omega) (by omega) (by omega)
  have hsum : i + (cap + 1 - i) = cap + 1 := by omega
  have hkk : (cap : Int) + 1 - (i : Int) = ((cap + 1 - i : Nat) : Int) := by omega
  rw [hsum] at hrun ho1 hc1
  rw [← hkk] at hrun
  obtain ⟨G, hG⟩ : ∃ G, G = w.heap.size := ⟨_, rfl⟩
  rw [← hG] at hrun ho1
  have hxl : xs.length = 3 := by obtain ⟨a, c, -, h, -⟩ := hx.rd; omega
  have hdl : (cs.drop (i * 3)).length = (cap - i) * 3 := by rw [List.length_drop, hcl]; omega
  obtain ⟨ho2, hg2⟩ := own_write xs (i * 3) w1 _ ho1
  have ho2 : (w1.setCells G (i * 3) xs).drew.ownsRow G 42 3 (.slice (some ⟨G, 0, none⟩) (cap + 1) c) (cap + 1) (writeL (cs.take (i * 3) ++ zs) (i * 3) xs) := ho2
  obtain ⟨ho3, hg3⟩ := own_write (cs.drop (i * 3)) ((i + 1) * 3) (w1.setCells G (i * 3) xs).drew _ ho2
  have he : writeL (writeL (cs.take (i * 3) ++ zs) (i * 3) xs) ((i + 1) * 3) (cs.drop (i * 3)) = cs.take (i * 3) ++ xs ++ cs.drop (i * 3) := by
    have htl : (cs.take (i * 3)).length = i * 3 := by rw [List.length_take]; omega
    have hal : (cs.take (i * 3) ++ zs).length = (cap + 1) * 3 := by rw [List.length_append]; omega
    rw [writeL_eq xs _ _ (by omega), List.take_left' htl, writeL_eq _ _ _ (by simp; omega)]
    have e2 : (cs.take (i * 3) ++ xs).length = (i + 1) * 3 := by rw [List.length_append]; omega
    obtain ⟨D, hD⟩ : ∃ D, D = (cs.take (i * 3) ++ zs).drop (i * 3 + xs.length) := ⟨_, rfl⟩
    have hDl : D.length = (cap - i) * 3 := by rw [hD, List.length_drop, hal]; omega
    have e3 : (cs.take (i * 3) ++ xs ++ D).drop ((i + 1) * 3 + (cs.drop (i * 3)).length) = [] := List.drop_eq_nil_of_le (by rw [List.length_append, e2]; omega)
    rw [← hD, List.take_left' e2, e3, List.append_nil]
  rw [he] at ho3
  have hGg : g ≠ G := by omega
  have hGv : vb ≠ G := by have := hx.lt; omega
  have hcp1 : ∀ ty dc, (Builtin.copy_ #[22, 22] ty #[.slice (some ⟨G, i * 3, none⟩) (cap + 1 - i) dc, .slice (some ⟨vb, 0, none⟩) 1 1]).run Try.prog w1 = .ok (goInt ((1 : Nat) : Int)) (w1.setCells G (i * 3) xs) := fun ty dc =>
    run_copy_k (b := G) (o := i * 3) (dLen := cap + 1 - i) (dCap := dc) (a := ⟨vb, 0, none⟩) (sLen := 1) (sCap := 1) (n := 1) _ tyRows (by simp only [Nat.min_def]; split <;> omega) (by omega) (fun j u hj => by
        obtain ⟨a, c, e, -, -, -, h⟩ := hx.rd
        simp only [Value.slice.injEq] at e
        obtain ⟨rfl, -, rfl⟩ := e
        rcases h with h | ⟨b', o', e, h⟩
        · omega
        · simp only [Option.some.injEq, Addr.mk.injEq, and_true] at e
          obtain ⟨rfl, rfl⟩ := e
          rw [add_off]
          exact cell_later hb1 (h j u hj)) (fun j hj => own_there' ho1 _ (by omega)) (fun j _ => World.ownsRow.frozenAt ho1 _) hx.one
  have hcp2 : ∀ ty dc sc, (Builtin.copy_ #[22, 22] ty #[.slice (some ⟨G, (i + 1) * 3, none⟩) (cap - i) dc, .slice (some ⟨g, i * 3, none⟩) (cap - i) sc]).run Try.prog (w1.setCells G (i * 3) xs).drew = .ok (goInt ((cap - i : Nat) : Int)) ((w1.setCells G (i * 3) xs).drew.setCells G ((i + 1) * 3) (cs.drop (i * 3))) := fun ty dc sc =>
    run_copy_k (b := G) (o := (i + 1) * 3) (dLen := cap - i) (dCap := dc) (a := ⟨g, i * 3, none⟩) (sLen := cap - i) (sCap := sc) (n := cap - i) _ tyRows (by simp only [Nat.min_def]; split <;> omega) hdl (fun j u hj => by
        rw [List.getElem?_drop] at hj
        have := hcells _ _ hj
        rw [add_off, Nat.zero_add] at this
        rw [add_off, World.cell?_drew, World.cell?_setCells_out _ _ _ _ _ (fun h _ => absurd h hGg)]
        exact cell_later hb1 this) (fun j hj => own_there' ho2 _ (by omega)) (fun j _ => World.ownsRow.frozenAt ho2 _) (fun u hu => h1 u (List.mem_of_mem_drop hu))
  have hfin : Only (fun j => some g = some j) w ((w1.setCells G (i * 3) xs).drew.setCells G ((i + 1) * 3) (cs.drop (i * 3))) := by
    refine ((Only.of_below hb1).trans (Only.of_grown hg2).drew (fun j hj e => ?_)).trans (Only.of_grown hg3) (fun j hj e => ?_)
    · simp only [Option.some.injEq] at e; omega
    · simp only [Option.some.injEq] at e; omega
  subst hG
  have HF := Lib.hid (And.intro (ownsRow_mono ho3 hbase) hfin)
  have HRUN := Lib.hid hrun
  have HCP1 := Lib.hid hcp1
  have HCP2 := Lib.hid hcp2
  have hc1 : cap < c := by omega
  clear ho1 ho2 ho3 hg2 hg3 he hfin hcp1 hcp2 hcells hrun hb1 hzl hdl hsum hkk hown hx h1
  have hb2 : ¬ cap = i := by omega
  have hb3 : ¬ c = i := by omega
  have hb3' : ¬ c = i + 1 := by omega
  have hb4 : ¬ (i : Int) = (cap : Int) := by omega
  have hb5 : (cap : Int) < (cap : Int) + 1 := by omega
  have hb6 : (i : Int) ≤ (cap : Int) := by omega
  have hb9 : (i : Int) ≤ (cap : Int) + 1 := by omega
  have hw1 : IntKind.i64.wrap ((i : Int) + 1) = (i : Int) + 1 := by rw [IntKind.wrap_i64]; omega
  have hb7 : (0 : Int) ≤ (i : Int) + 1 := by omega
  have hb8 : (i : Int) + 1 ≤ (cap : Int) + 1 := by omega
  have htn : ((i : Int) + 1).toNat = i + 1 := by omega
  go_enter Try.func24, Try.ntmps24
  go_wp2_with (at_builtin; refine list_value rfl (exec_appz rfl rfl rfl HRUN.out) ?_)
  rw [HCP1.out]
  go_wp2_with fail
  refine region_m [(0, false), (1, false), (2, false), (3, false), (4, false), (5, false), (6, false), (7, false)] 8 (fun V => True) (by kernel_rfl) (by kernel_rfl) trivial ?_
  iterate 8
    refine m_take (v := ?_) rfl rfl ?_ ?_
    rotate_left
    · intro W hW
      go_simp
      with_reducible rfl
    simp only [Act.put, List.setIfInBounds_toArray, List.set_cons_zero, List.set_cons_succ]
  refine m_done ?_
  simp only [List.drop_succ_cons, List.drop_zero]
  refine list_value rfl (exec_copy rfl rfl rfl (HCP2.out _ _ _)) ?_
  go_wp2_with fail
  simp only [NP]
  go_wp2_with fail
  go_ret
  exact ⟨_, rfl, HF.out.1, HF.out.2⟩

theorem own_heap {w : World} {base g n cap sz : Nat} {e : TypeId} {xs : List Value} (h : w.ownsRow base e sz (.slice (some ⟨g, 0, none⟩) n cap) n xs) : g < w.heap.size := by
  rcases h.2 with ⟨h', _⟩ | ⟨g', cap', cur, h', _, hg, _, _, hcs, _⟩
  · simp at h'
  · simp only [Value.slice.injEq, Option.some.injEq, Addr.mk.injEq, and_true, true_and] at h'
    obtain ⟨rfl, rfl⟩ := h'
    exact (Array.getElem?_eq_some_iff.mp hg).1

/-- slices.Insert of one row at place i of an owned row. -/
theorem insert_calls (base n vb i : Nat) (v : Value) (cs xs : List Value) (w : World) (hown : w.ownsRow base 42 3 v n cs) (h1 : ∀ u ∈ cs, u.oneCell' = true) (hx : Lit3 w vb xs) (hne : ∀ j, v.ownBlock = some j → vb ≠ j) (hn : n ≤ 1000000) (hi : i ≤ n) (hbase : base ≤ w.heap.size) :
    Calls Try.prog 24 #[v, .int .i64 i, .slice (some ⟨vb, 0, none⟩) 1 1] w fun e w' => ∃ v', e = .returned v' ∧ w'.ownsRow base 42 3 v' (n + 1) (cs.take (i * 3) ++ xs ++ cs.drop (i * 3)) ∧ Only (fun j => v.ownBlock = some j) w w' := by
  have hcl : cs.length = n * 3 := hown.1
  rcases Nat.lt_or_ge i n with hlt | hge
  · rcases hown.2 with ⟨rfl, hz⟩ | ⟨g, cap, cur, rfl, -, -, hnc, hcm, -⟩
    · omega
    · have hg := own_heap hown
      have hcm : cap ≤ 9223372036854775807 := by unfold maxLen at hcm; omega
      have hob : (Value.slice (some ⟨g, 0, none⟩) n cap).ownBlock = some g := rfl
      rcases Nat.lt_or_ge cap (n + 1) with hc | hc
      · exact ins_grow base n vb i g cap cs xs w hown h1 hx hn hlt hc hnc hbase hg
      · exact ins_shift base n vb i g cap cs xs w hown h1 hx (hne g hob) hn hlt hc hcm
  · obtain rfl : i = n := by omega
    rw [List.take_of_length_le (by omega), List.drop_eq_nil_of_le (by omega), List.append_nil]
    exact ins_end base i vb v cs xs w hown hx hn hbase
end Go.Proofs.Ytbelhdnbmkemjaa
