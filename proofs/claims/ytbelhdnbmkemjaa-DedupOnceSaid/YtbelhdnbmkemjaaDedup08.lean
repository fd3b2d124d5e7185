/- Layer 13: Take walked. -/
import Derived.Test.YtbelhdnbmkemjaaDedup07
import Derived.Test.YtbelhdnbmkemjaaDedupMath2
namespace Go.Proofs.Ytbelhdnbmkemjaa
open Go.RowKit Go.Shelf

theorem enter_of {P : Program} {f : Nat} {fn : Func} {c : Code} (hf : P.funcs[f]? = some fn) (hname : (fn.name == "runtime.NumGoroutine") = false) (hb : fn.body = some c) (args : Array Value) (w : World) :
    (callFunc f args).run P w = .ok (.enter f args) w := by
  have h1 : fn.name ≠ "runtime.NumGoroutine" := by simpa using hname
  simp [callFunc, hf, h1, hb]

theorem lit3_alloc (w : World) (r : Row) : Lit3 (w.alloc (.cells #[.int .i64 r.p, .int .i64 r.q, .int .i64 r.l] 42)) w.heap.size (Row.cells r) := by
  refine ⟨Rd.lit (n := 1) rfl (by omega), ?_, fun o => ?_, fun u hu => ?_, ?_⟩
  · unfold World.shape?
    rw [heap_alloc_new]
    rfl
  · unfold World.frozen?
    rw [heap_alloc_new]
    simp
  · simp only [Row.cells, List.mem_cons, List.not_mem_nil, or_false] at hu
    rcases hu with rfl | rfl | rfl <;> rfl
  · show _ < (w.heap.push _).size
    simp

set_option maxHeartbeats 2000000 in
theorem take_calls (v : Value) (rs : List Row) (p q s : Int) (w : World) (hv : Rows w v rs) (ht : Table rs) (hok : ∀ r ∈ rs, r.ok) (hs : I64 s) :
    Calls Try.prog 9 #[v, .int .i64 p, .int .i64 q, .int .i64 s] w fun e w' => ∃ v', e = .returned (.tuple #[v', .int .i64 (takeCode rs p q s)]) ∧
      w'.ownsRow w.heap.size 42 3 v' (takeRows rs p q s).length (flatF Row.cells (takeRows rs p q s)) ∧ Below w.heap.size w w' := by
  have hlen := table_len ht
  have HCL := Lib.hid (cloneR_calls v rs.length (flatF Row.cells rs) w hv (rows_one rs) (by omega))
  have HV := Lib.hid hv
  have HT := Lib.hid ht
  have HOK := Lib.hid hok
  have HS := Lib.hid hs
  obtain ⟨a, cap, rfl, -, -⟩ := Rd.slice hv
  clear hv ht hok hs
  go_enter Try.func9, Try.ntmps9
  go_wp2_with fail
  refine HCL.out.mono ?_
  rintro e w1 ⟨v1, rfl, ho1, hb1⟩
  obtain ⟨a1, c1, rfl⟩ := own_slice ho1
  have HO1 := Lib.hid ho1
  have HB1 := Lib.hid hb1
  clear ho1 hb1
  go_wp2_with fail
  refine (right_calls p q _).mono ?_
  rintro e w2 ⟨rfl, rfl⟩
  cases hrt : rightB p q with
  | false =>
    have HR := Lib.hid hrt
    clear hrt
    go_wp2_with fail
    have hc : takeCode rs p q s = 0 := if_neg (by rw [HR.out]; simp)
    have hr : takeRows rs p q s = rs := if_neg (fun h => by rw [HR.out] at h; cases h.1)
    rw [hc, hr]
    exact bodyPost_ret (v := .tuple #[_, .int .i64 0]) (by simp [results, Try.results9, go_sem]) rfl ⟨_, rfl, HO1.out, HB1.out⟩
  | true =>
    have HR := Lib.hid hrt
    clear hrt
    go_wp2_with fail
    refine (look_calls (.slice a rs.length cap) rs p q s _ (HV.out.below HB1.out (Nat.le_refl _)) HOK.out HS.out).mono ?_
    rintro e w3 ⟨rfl, hb3⟩
    have HB3 := Lib.hid (HB1.out.trans (hb3.mono HB1.out.size))
    have HO3 := Lib.hid (ownsRow_below HO1.out hb3 (Nat.le_refl _))
    clear hb3
    by_cases hlk : lookOf rs p q s = 1
    · have HLK := Lib.hid hlk
      rw [hlk]
      clear hlk
      go_wp2_with fail
      obtain ⟨X, hX⟩ : ∃ X, X = w3.alloc (.cells #[.int .i64 p, .int .i64 q, .int .i64 s] 42) := ⟨_, rfl⟩
      have hbX : Below w3.heap.size w3 X := by rw [hX]; exact (Below.refl _ _).alloc (Nat.le_refl _) _
      have x0 : X.cell? ⟨w3.heap.size, 0, none⟩ = some (.int .i64 p) := by rw [hX, World.cell?_alloc_at _ _ _ _ rfl]; rfl
      have x1 : X.cell? ⟨w3.heap.size, 1, none⟩ = some (.int .i64 q) := by rw [hX, World.cell?_alloc_at _ _ _ _ rfl]; rfl
      have x2 : X.cell? ⟨w3.heap.size, 2, none⟩ = some (.int .i64 s) := by rw [hX, World.cell?_alloc_at _ _ _ _ rfl]; rfl
      have HX := Lib.hid (And.intro x0 (And.intro x1 x2))
      have hox := ownsRow_below HO3.out hbX (Nat.le_refl _)
      have hidx := idxR_calls (.slice a1 rs.length c1) rs 21 #[.pointer (some ⟨w3.heap.size, 0, none⟩)] _ X (fun args w => enter_of Try.func21 (by kernel_rfl) rfl args w) (Rd.of_own hox) (take1_asks X w3.heap.size ⟨p, q, s⟩ x0 x1 x2)
      have HBX := Lib.hid (HB3.out.trans (hbX.mono HB3.out.size))
      have HOX := Lib.hid hox
      rw [← hX]
      clear hX hbX x0 x1 x2 hox
      refine hidx.mono ?_
      rintro e w4 ⟨hr, hb4⟩
      have HB4 := Lib.hid hb4
      clear hb4
      rcases hr with ⟨i, hi, hp, rfl⟩ | ⟨hno, rfl⟩
      · have HP := Lib.hid hp
        clear hp hidx
        have ho4 := ownsRow_below HOX.out HB4.out (Nat.le_refl _)
        obtain ⟨m, hm⟩ : ∃ m, rs.length = m + 1 := ⟨rs.length - 1, by omega⟩
        have ho4' := ho4
        rw [hm] at ho4'
        obtain ⟨g, cg, hv1, hg1, hg2, hg3, hg4⟩ := own_succ ho4'
        rw [← hm] at hv1
        simp only [Value.slice.injEq, true_and] at hv1
        obtain ⟨rfl, rfl⟩ := hv1
        have hce := World.ownsRow.cells ho4 rfl (i * 3 + 2) _ (flatF_get row3 rs i 2 hi (by omega))
        rw [add_off, Nat.zero_add] at hce
        have hfz := World.ownsRow.frozenAt ho4 (i * 3 + 2)
        have hst := World.ownsRow.stored ho4 (i * 3 + 2) (.int .i64 s)
        have HST := Lib.hid hst
        have HG := Lib.hid hg1
        clear ho4 ho4' hm hg1 hst
        have hcc : ((Row.cells rs[i])[2]? : Option Value) = some (.int .i64 rs[i].l) := rfl
        dsimp only at hce
        clear hcc
        go_wp2_with fail
        have hri := HT.out.2 rs[i] (List.getElem_mem hi)
        have hk := (ord_key (b := ⟨p, q, s⟩) hri.1 HR.out).2.1 (by simpa using HP.out)
        have hpq := key_inj (b := ⟨p, q, s⟩) hri.1 HR.out hk
        have hc : takeCode rs p q s = 1 := (if_pos HR.out).trans HLK.out
        have hr : takeRows rs p q s = rs.set i ⟨p, q, s⟩ := (if_pos ⟨HR.out, HLK.out⟩).trans (put_eq ⟨p, q, s⟩ rs i hi HT.out.1 hk)
        rw [hc, hr, List.length_set, flat_set rs i hi ⟨p, q, s⟩ hpq.1 hpq.2]
        exact bodyPost_ret (v := .tuple #[.slice (some ⟨g, 0, none⟩) rs.length c1, .int .i64 1]) (by simp [results, Try.results9, go_sem]) rfl ⟨_, rfl, HST.out.1, (HBX.out.trans (HB4.out.mono HBX.out.size)).setCell HG.out _⟩
      · have HNO := Lib.hid hno
        clear hno hidx
        have x0 := cell_later HB4.out HX.out.1
        have x1 := cell_later HB4.out HX.out.2.1
        have x2 := cell_later HB4.out HX.out.2.2
        go_wp2_with fail
        have ho4 := ownsRow_below HOX.out HB4.out (Nat.le_refl _)
        obtain ⟨c, hcn, hlo, hhi⟩ := cut_at (Row.key ⟨p, q, s⟩) rs HT.out.1
        have hord : ∀ k, ∀ h : k < rs.length, (ordOf rs[k] ⟨p, q, s⟩ < 0 ↔ rs[k].key < Row.key ⟨p, q, s⟩) ∧ (ordOf rs[k] ⟨p, q, s⟩ = 0 ↔ rs[k].key = Row.key ⟨p, q, s⟩) := fun k h => ord_key (b := ⟨p, q, s⟩) (HT.out.2 rs[k] (List.getElem_mem h)).1 HR.out
        have hne : ∀ k, ∀ h : k < rs.length, ¬ rs[k].key = Row.key ⟨p, q, s⟩ := fun k h e => by
          have h1 := HNO.out rs[k] (List.getElem_mem h)
          rw [(hord k h).2.2 e] at h1
          simp at h1
        have hput := put_new ⟨p, q, s⟩ rs c hcn hlo (fun k h hk => by have h1 := hhi k h hk; have h2 := hne k h; omega)
        have HPUT := Lib.hid hput
        refine (bsR_calls (.slice a1 rs.length c1) rs ⟨p, q, s⟩ c _ (Rd.of_own ho4) hcn (by omega) (fun k h hk => (hord k h).1.2 (hlo k h hk)) (fun k h hk => by have h1 := hhi k h hk; have h2 := (hord k h).1; omega)).mono ?_
        rintro e w5 ⟨⟨f, rfl⟩, hb5⟩
        have HB5 := Lib.hid (HB4.out.trans (hb5.mono HB4.out.size))
        have y0 := cell_later hb5 x0
        have y1 := cell_later hb5 x1
        have y2 := cell_later hb5 x2
        clear x0 x1 x2 hb5 hord hne hput hlo hhi ho4
        go_wp2_with fail
        obtain ⟨Y, hY⟩ : ∃ Y, Y = w5.alloc (.cells #[.int .i64 p, .int .i64 q, .int .i64 s] 42) := ⟨_, rfl⟩
        have hbY : Below w5.heap.size w5 Y := by rw [hY]; exact (Below.refl _ _).alloc (Nat.le_refl _) _
        have hoY := ownsRow_below (ownsRow_below HOX.out HB5.out (Nat.le_refl _)) hbY (Nat.le_refl _)
        have hx : Lit3 Y w5.heap.size (Row.cells ⟨p, q, s⟩) := by rw [hY]; exact lit3_alloc w5 ⟨p, q, s⟩
        have hlt := World.ownsRow.lt (ownsRow_below HOX.out HB5.out (Nat.le_refl _))
        have hbe := (HBX.out.trans (HB5.out.mono HBX.out.size)).trans (hbY.mono ((HBX.out.trans (HB5.out.mono HBX.out.size)).size))
        have HBE := Lib.hid hbe
        rw [← hY]
        refine (insert_calls w.heap.size rs.length w5.heap.size c (.slice a1 rs.length c1) (flatF Row.cells rs) (Row.cells ⟨p, q, s⟩) Y hoY (rows_one rs) hx (fun j hj => by have := (hlt j hj).2; omega) (by omega) hcn hbe.size).mono ?_
        rintro e w6 ⟨v6, rfl, ho6, hf6⟩
        have HO6 := Lib.hid ho6
        have HB6 := Lib.hid (hbe.trans (hf6.below hbe.size (fun j hj e => by have := (hlt j e).1; omega)))
        obtain ⟨a6, c6, rfl⟩ := own_slice ho6
        clear hbe ho6 hf6 hlt hx hoY hbY hY y0 y1 y2
        go_wp2_with fail
        have hc : takeCode rs p q s = 1 := (if_pos HR.out).trans HLK.out
        have hr : takeRows rs p q s = rs.take c ++ ⟨p, q, s⟩ :: rs.drop c := (if_pos ⟨HR.out, HLK.out⟩).trans HPUT.out
        have ho := HO6.out
        rw [flatF_take row3 rs c hcn, flatF_drop row3 rs c hcn] at ho
        have hfl : flatF Row.cells (rs.take c ++ ⟨p, q, s⟩ :: rs.drop c) = flatF Row.cells (rs.take c) ++ Row.cells ⟨p, q, s⟩ ++ flatF Row.cells (rs.drop c) := by
          rw [flatF_append, List.append_assoc]; rfl
        have hll : (rs.take c ++ (⟨p, q, s⟩ : Row) :: rs.drop c).length = rs.length + 1 := by
          rw [List.length_append, List.length_take, List.length_cons, List.length_drop]; omega
        rw [hc, hr, hfl, hll]
        exact bodyPost_ret (v := .tuple #[.slice a6 (rs.length + 1) c6, .int .i64 1]) (by simp [results, Try.results9, go_sem]) rfl ⟨_, rfl, ho, HB6.out⟩
    · have hc : takeCode rs p q s = lookOf rs p q s := if_pos HR.out
      have hr : takeRows rs p q s = rs := if_neg (fun h => hlk h.2)
      go_wp2_with fail
      rw [hc, hr]
      exact bodyPost_ret (v := .tuple #[_, .int .i64 _]) (by simp [results, Try.results9, go_sem]) rfl ⟨_, rfl, HO3.out, HB3.out⟩
end Go.Proofs.Ytbelhdnbmkemjaa
