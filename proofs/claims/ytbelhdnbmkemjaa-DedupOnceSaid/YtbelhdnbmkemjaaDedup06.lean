/- Layer 13: slices.Insert of one row, walked. -/
import Derived.Test.YtbelhdnbmkemjaaDedup05
namespace Go.Proofs.Ytbelhdnbmkemjaa
open Go.RowKit Go.Shelf

/-- The block of the variadic argument. -/
structure Lit3 (w : World) (b : Nat) (xs : List Value) : Prop where
  rd : Rd w 3 (.slice (some ⟨b, 0, none⟩) 1 1) 1 xs
  sh : w.shape? b = some (42, 3)
  fz : ∀ o, w.frozen? ⟨b, o, none⟩ = false
  one : ∀ u ∈ xs, u.oneCell' = true
  lt : b < w.heap.size

set_option maxHeartbeats 800000 in
theorem ins_end (base n vb : Nat) (v : Value) (cs xs : List Value) (w : World) (hown : w.ownsRow base 42 3 v n cs) (hx : Lit3 w vb xs) (hn : n ≤ 1000000) (hbase : base ≤ w.heap.size) :
    Calls Try.prog 24 #[v, .int .i64 n, .slice (some ⟨vb, 0, none⟩) 1 1] w fun e w' => ∃ v', e = .returned v' ∧ w'.ownsRow base 42 3 v' (n + 1) (cs ++ xs) ∧ Only (fun j => v.ownBlock = some j) w w' := by
  have HO := Lib.hid hown
  have HX := Lib.hid hx
  have HBS := Lib.hid hbase
  clear hx hbase
  rcases hown.2 with ⟨rfl, rfl⟩ | ⟨g, cap, cur, rfl, -, -, hnc, hcm, -⟩
  · clear hown
    go_enter Try.func24, Try.ntmps24
    go_wp2_with (at_builtin; go_loud (refine app_list tyRows HO.out HX.out.rd HX.out.one (by omega) (by omega) HBS.out rfl rfl rfl rfl ?_; intro v3 w3 hm3 hb3 hn3; obtain ⟨ga, gc, rfl⟩ := own_slice hm3))
    go_ret
    exact ⟨_, rfl, hm3, Only.of_grown hb3⟩
  · have hcm : cap ≤ 9223372036854775807 := by unfold maxLen at hcm; omega
    clear hown
    go_enter Try.func24, Try.ntmps24
    go_wp2_with (at_builtin; go_loud (refine app_list tyRows HO.out HX.out.rd HX.out.one (by omega) (by omega) HBS.out rfl rfl rfl rfl ?_; intro v3 w3 hm3 hb3 hn3; obtain ⟨ga, gc, rfl⟩ := own_slice hm3))
    all_goals
      go_ret
      exact ⟨_, rfl, hm3, Only.of_grown hb3⟩

set_option maxHeartbeats 2000000 in
theorem ins_shift (base n vb i g cap : Nat) (cs xs : List Value) (w : World) (hown : w.ownsRow base 42 3 (.slice (some ⟨g, 0, none⟩) n cap) n cs) (h1 : ∀ u ∈ cs, u.oneCell' = true) (hx : Lit3 w vb xs) (hne : vb ≠ g) (hn : n ≤ 1000000) (hi : i < n) (hroom : n + 1 ≤ cap) (hcap : cap ≤ 9223372036854775807) :
    Calls Try.prog 24 #[.slice (some ⟨g, 0, none⟩) n cap, .int .i64 i, .slice (some ⟨vb, 0, none⟩) 1 1] w fun e w' => ∃ v', e = .returned v' ∧ w'.ownsRow base 42 3 v' (n + 1) (cs.take (i * 3) ++ xs ++ cs.drop (i * 3)) ∧ Only (fun j => some g = some j) w w' := by
  have hcl : cs.length = n * 3 := hown.1
  obtain ⟨tl, htl, hown1⟩ := own_extend (m := 1) hown hroom
  have hsh := own_shape hown
  have hsp := own_there' hown
  have hfz : ∀ o, w.frozen? ⟨g, o, none⟩ = false := fun o => World.ownsRow.frozenAt hown o
  have hcells := World.ownsRow.cells hown rfl
  have hov : ∀ lb cb, (callFunc 27 #[.slice (some ⟨vb, 0, none⟩) 1 1, .slice (some ⟨g, (i + 1) * 3, none⟩) lb cb]).run Try.prog w = .ok (.value (.bool false)) w := fun lb cb => by
    rw [run_callFunc_extern Try.func27 (by kernel_rfl) (by kernel_rfl) (by kernel_rfl) (e := Extern.SlicesOverlaps.overlaps #[22, 22] #[4]) (by kernel_rfl),
      Lib.run_overlaps_apart w 22 4 42 Try.underlying22 3 (fun w => by kernel_rfl) ⟨vb, 0, none⟩ ⟨g, (i + 1) * 3, none⟩ 1 1 lb cb hne 42 42 3 (cap * 3) hx.sh hsh (by omega) (hx.fz 0) (hx.fz 3)]
    rfl
  have hdl : (cs.drop (i * 3)).length = (n - i) * 3 := by rw [List.length_drop, hcl]; omega
  have hcp1 : ∀ ty dc sc, (Builtin.copy_ #[22, 22] ty #[.slice (some ⟨g, (i + 1) * 3, none⟩) (n - i) dc, .slice (some ⟨g, i * 3, none⟩) (n + 1 - i) sc]).run Try.prog w.drew = .ok (goInt ((n - i : Nat) : Int)) (w.drew.setCells g ((i + 1) * 3) (cs.drop (i * 3))) := fun ty dc sc =>
    run_copy_k (b := g) (o := (i + 1) * 3) (dLen := n - i) (dCap := dc) (a := ⟨g, i * 3, none⟩) (sLen := n + 1 - i) (sCap := sc) (n := n - i) w.drew tyRows (by simp only [Nat.min_def]; split <;> omega) hdl (fun j u hj => by
        rw [List.getElem?_drop] at hj
        have := hcells _ _ hj
        rw [add_off] at this ⊢
        rw [Nat.zero_add] at this
        exact this) (fun j hj => hsp _ (by omega)) (fun j _ => hfz _) (fun u hu => h1 u (List.mem_of_mem_drop hu))
  have hxl : xs.length = 3 := by obtain ⟨a, c, -, h, -⟩ := hx.rd; omega
  have hown1 : w.drew.ownsRow base 42 3 (.slice (some ⟨g, 0, none⟩) (n + 1) cap) (n + 1) (cs ++ tl) := hown1
  obtain ⟨ho2, hg2⟩ := own_write (cs.drop (i * 3)) ((i + 1) * 3) w.drew _ hown1
  obtain ⟨ho3, hg3⟩ := own_write xs (i * 3) (w.drew.setCells g ((i + 1) * 3) (cs.drop (i * 3))) _ ho2
  have he : writeL (writeL (cs ++ tl) ((i + 1) * 3) (cs.drop (i * 3))) (i * 3) xs = cs.take (i * 3) ++ xs ++ cs.drop (i * 3) := by
    have hal : (cs ++ tl).length = (n + 1) * 3 := by rw [List.length_append]; omega
    rw [writeL_eq (cs.drop (i * 3)) _ _ (by omega), writeL_eq _ _ _ (by simp; omega)]
    have e1 : (cs ++ tl).drop ((i + 1) * 3 + (cs.drop (i * 3)).length) = [] := List.drop_eq_nil_of_le (by omega)
    have e2 : ((cs ++ tl).take ((i + 1) * 3)).length = (i + 1) * 3 := by rw [List.length_take]; omega
    rw [e1, List.append_nil, List.take_append_of_le_length (by omega), List.take_take, Nat.min_eq_left (by omega), List.take_append_of_le_length (by omega), List.drop_left' (by omega)]
  rw [he] at ho3
  have hcp2 : ∀ ty dc, (Builtin.copy_ #[22, 22] ty #[.slice (some ⟨g, i * 3, none⟩) (n + 1 - i) dc, .slice (some ⟨vb, 0, none⟩) 1 1]).run Try.prog (w.drew.setCells g ((i + 1) * 3) (cs.drop (i * 3))) = .ok (goInt ((1 : Nat) : Int)) ((w.drew.setCells g ((i + 1) * 3) (cs.drop (i * 3))).setCells g (i * 3) xs) := fun ty dc =>
    run_copy_k (b := g) (o := i * 3) (dLen := n + 1 - i) (dCap := dc) (a := ⟨vb, 0, none⟩) (sLen := 1) (sCap := 1) (n := 1) _ tyRows (by simp only [Nat.min_def]; split <;> omega) (by omega) (fun j u hj => by
        obtain ⟨a, c, e, -, -, -, h⟩ := hx.rd
        simp only [Value.slice.injEq] at e
        obtain ⟨rfl, -, rfl⟩ := e
        rcases h with h | ⟨b', o', e, h⟩
        · omega
        · simp only [Option.some.injEq, Addr.mk.injEq, and_true] at e
          obtain ⟨rfl, rfl⟩ := e
          rw [add_off, World.cell?_setCells_out _ _ _ _ _ (fun h _ => absurd h hne)]
          exact h j u hj) (fun j hj => own_there' ho2 _ (by omega)) (fun j _ => World.ownsRow.frozenAt ho2 _) hx.one
  have HCP2 := Lib.hid hcp2
  have HO3 := Lib.hid (And.intro ho3 ((Only.of_grown (w := w) (⟨hg2.os, hg2.tape, hg2.output, hg2.size, hg2.block⟩ : w.grownBy _ (some g))).trans (Only.of_grown hg3) (fun j _ h => h)))
  clear hcp2 ho3 hg3 ho2 hg2 he hown1 hcells hfz hsp hdl htl
  have hb2 : ¬ cap = i := by omega
  have hb3 : ¬ cap = i + 1 := by omega
  have hb4 : ¬ (i : Int) = (n : Int) := by omega
  have hb5 : (n : Int) + 1 ≤ (cap : Int) := by omega
  have hb6 : (i : Int) ≤ (n : Int) + 1 := by omega
  have hw1 : IntKind.i64.wrap ((i : Int) + 1) = (i : Int) + 1 := by rw [IntKind.wrap_i64]; omega
  have hb7 : (0 : Int) ≤ (i : Int) + 1 := by omega
  have hb8 : (i : Int) + 1 ≤ (n : Int) + 1 := by omega
  have htn : ((i : Int) + 1).toNat = i + 1 := by omega
  have HCP := Lib.hid hcp1
  clear hcp1
  go_enter Try.func24, Try.ntmps24
  go_wp2_with (simp only [hov])
  refine region_m [(0, false), (1, false), (2, false), (3, false), (4, false), (5, false), (6, false), (7, false)] 8 (fun V => True) (by kernel_rfl) (by kernel_rfl) trivial ?_
  iterate 8
    refine m_take (v := ?_) rfl rfl ?_ ?_
    rotate_left
    · intro W hW
      go_simp
      with_reducible rfl
    simp only [Act.put, List.setIfInBounds_toArray, List.set_cons_zero, List.set_cons_succ]
  refine m_done ?_
  simp only [List.drop_succ_cons, List.drop_zero]
  refine list_value rfl (exec_copy rfl rfl rfl (HCP.out _ _ _)) ?_
  go_wp2_with fail
  simp only [NP]
  have hcp2 := HCP2.out
  go_wp2_with fail
  go_ret
  exact ⟨_, rfl, HO3.out.1, HO3.out.2⟩
end Go.Proofs.Ytbelhdnbmkemjaa
