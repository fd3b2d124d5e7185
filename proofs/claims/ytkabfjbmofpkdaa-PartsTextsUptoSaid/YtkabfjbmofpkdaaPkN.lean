/- Walks and plain laws of the chapter, laid together; each part says what it proves. -/
import Derived.Laws.EntriesVeiled
import Derived.Test.YtkabfjbmofpkdaaPkC
import Derived.Test.YtkabfjbmofpkdaaPkD
import Derived.Test.YtkabfjbmofpkdaaPkK
/- Layer 14: the numbers of a text, walked. -/
namespace Go.Proofs.Ytkabfjbmofpkdaa
open Go.RowKit Go.Shelf
set_option linter.unusedVariables false
set_option linter.unusedSimpArgs false
set_option maxRecDepth 100000

theorem tyIntsT : STy Try.prog 54 3 (.int .i64 0) 1 8 := .of Try.underlying54 (by kernel_rfl) rfl (by omega)
/-- The numbers among items. -/
def numsOf (l : List Itc) : List Int := (l.filter (fun i => decide (i.k = 0))).map Itc.n
theorem numsOf_snoc (l : List Itc) (j : Nat) (h : j < l.length) : numsOf (l.take (j + 1)) = numsOf (l.take j) ++ (if l[j].k = 0 then [l[j].n] else []) := by
  unfold numsOf
  rw [List.take_succ_eq_append_getElem h, List.filter_append, List.map_append]
  by_cases hk : l[j].k = 0
  · simp [hk]
  · simp [hk]
theorem numsOf_yes (l : List Itc) (j : Nat) (h : j < l.length) (hk : l[j].k = 0) : numsOf (l.take (j + 1)) = numsOf (l.take j) ++ [l[j].n] := by rw [numsOf_snoc l j h, if_pos hk]
theorem numsOf_no (l : List Itc) (j : Nat) (h : j < l.length) (hk : ¬ l[j].k = 0) : numsOf (l.take (j + 1)) = numsOf (l.take j) := by rw [numsOf_snoc l j h, if_neg hk, List.append_nil]
theorem numsOf_len (l : List Itc) : (numsOf l).length ≤ l.length := by
  unfold numsOf
  rw [List.length_map]
  exact List.length_filter_le _ _
theorem intsB_iff (l : List Itc) (n : Nat) : intsB l n = (decide ((numsOf l).length = n) && decide (l.length = n)) := by
  unfold intsB numsOf
  rw [Bool.eq_iff_iff]
  simp only [Bool.and_eq_true, decide_eq_true_eq, List.length_map, List.all_eq_true]
  constructor
  · rintro ⟨h1, h2⟩
    refine ⟨?_, h2⟩
    rw [List.filter_eq_self.2 (fun a ha => decide_eq_true (h1 a ha))]
    exact h2
  · rintro ⟨h1, h2⟩
    refine ⟨fun x hx => ?_, h2⟩
    have := List.length_filter_eq_length_iff.1 (h1.trans h2.symm) x hx
    simpa using this
theorem intsB_nums {l : List Itc} {n : Nat} (h : intsB l n = true) : numsOf l = l.map Itc.n := by
  unfold intsB at h
  simp only [Bool.and_eq_true, decide_eq_true_eq, List.all_eq_true] at h
  unfold numsOf
  rw [List.filter_eq_self.2 (fun a ha => decide_eq_true (h.1 a ha))]
/-- All but the first of a row that is read. -/
theorem rd_rest {w : World} {b off n cap sz : Nat} {x cs : List Value} (h : Rd w sz (.slice (some ⟨b, off, none⟩) (n + 1) cap) (n + 1) (x ++ cs)) (hx : x.length = sz) : Rd w sz (.slice (some ⟨b, off + sz, none⟩) n (cap - 1)) n cs ∧ n + 1 ≤ cap := by
  obtain ⟨a', cap', hv, h0, h1, h2, h3⟩ := h
  simp only [Value.slice.injEq, true_and] at hv
  obtain ⟨rfl, rfl⟩ := hv
  rcases h3 with h3 | ⟨b', off', hb, hc⟩
  · omega
  · simp only [Option.some.injEq, Addr.mk.injEq, and_true] at hb
    obtain ⟨rfl, rfl⟩ := hb
    rw [List.length_append, Nat.succ_mul] at h0
    refine ⟨⟨_, _, rfl, by omega, by omega, by omega, .inr ⟨b, off + sz, rfl, fun j u hj => ?_⟩⟩, h1⟩
    have := hc (sz + j) u (by rw [List.getElem?_append_right (by omega), show sz + j - x.length = j by omega]; exact hj)
    rwa [← Nat.add_assoc] at this

theorem rest_at {w : World} {a : Option Addr} {n cap : Nat} {xs : List Iv} {rest : List Itc} (h : Rd w 4 (.slice a n cap) rest.length (flatF Iv.cells xs)) (hx : xs.map Iv.c = rest) (hs : ∀ x ∈ xs, ∃ a n c, x.v = .slice a n c) (i : Nat) (hi : i < rest.length) :
    ∃ b o, a = some ⟨b, o, none⟩ ∧ w.cell? ⟨b, o + i * 4, none⟩ = some (.int .i64 rest[i].k) ∧ w.cell? ⟨b, o + i * 4 + 1, none⟩ = some (.int .i64 rest[i].n) ∧ w.cell? ⟨b, o + i * 4 + 2, none⟩ = some (.string rest[i].s) ∧ ∃ la ln lc, w.cell? ⟨b, o + i * 4 + 3, none⟩ = some (.slice la ln lc) := by
  subst hx
  rw [List.length_map] at hi h
  obtain ⟨b, o, rfl, he⟩ := rdF_at (k := 4) iv4 h i hi
  have e := List.getElem_map Iv.c (l := xs) (i := i) (h := by simpa using hi)
  rw [e]
  obtain ⟨la, ln, lc, hlv⟩ := hs _ (List.getElem_mem (by omega : i < xs.length))
  exact ⟨b, o, rfl, he 0 _ (by omega) rfl, he 1 _ (by omega) rfl, he 2 _ (by omega) rfl, la, ln, lc, by rw [← hlv]; exact he 3 _ (by omega) rfl⟩
set_option maxHeartbeats 4000000 in
theorem pints_calls (P : Nat → Prop) (d : Nat) (v : Value) (h : Itc) (rest : List Itc) (n : Nat) (w : World) (hr : ItR P (d + 1) w v (h :: rest)) (hn : n ≤ 1000) (hl : rest.length ≤ 65536) :
    Calls Try.prog 53 #[v, .int .i64 n] w fun e w' => ∃ ov ns, e = .returned (.tuple #[ov, .bool (intsB rest n)]) ∧ w'.ownsRow w.heap.size 3 1 ov ns.length (ints ns) ∧ (intsB rest n = true → ns = rest.map Itc.n) ∧ Below w.heap.size w w' := by
  obtain ⟨xs, hxs, hrd, -, hch⟩ := hr
  obtain ⟨x0, xr, rfl⟩ : ∃ x0 xr, xs = x0 :: xr := by
    cases xs with
    | nil => simp at hxs
    | cons x0 xr => exact ⟨x0, xr, rfl⟩
  simp only [List.map_cons, List.cons.injEq] at hxs
  obtain ⟨-, hxs⟩ := hxs
  have hxl : xr.length = rest.length := by rw [← hxs]; simp
  obtain ⟨a, c, rfl, hc1, hc2⟩ := Rd.slice hrd
  rw [List.length_cons, hxl] at hrd hc1 ⊢
  have hrd' := hrd
  obtain ⟨a', c', hv, -, -, -, h3⟩ := hrd'
  simp only [Value.slice.injEq, true_and] at hv
  obtain ⟨rfl, rfl⟩ := hv
  rcases h3 with h3 | ⟨b, off, rfl, -⟩
  · omega
  obtain ⟨hrt, hcc⟩ := rd_rest (x := Iv.cells x0) (cs := flatF Iv.cells xr) hrd rfl
  have HSH := Lib.hid (show ∀ x ∈ xr, ∃ a n c, x.v = .slice a n c from fun x hx => by obtain ⟨a, c, h, -⟩ := (hch x (List.mem_cons_of_mem _ hx)).slice; exact ⟨_, _, _, h⟩)
  have HXS := Lib.hid hxs
  clear hch
  have i2 : IntKind.i64.wrap ((n : Int) + 1) = (n : Int) + 1 := by rw [IntKind.wrap_i64]; omega
  have i3 : wrap64 ((n : Int) + 1) = (n : Int) + 1 := by unfold wrap64; omega
  by_cases hv1 : c = 1
  · obtain rfl : rest = [] := List.length_eq_zero_iff.1 (by omega)
    have HRT := Lib.hid (show Rd w 4 (.slice (some ⟨b, off, none⟩) 0 0) ([] : List Itc).length (flatF Iv.cells xr) from ⟨some ⟨b, off, none⟩, 0, rfl, by rw [flatF_length iv4, hxl], Nat.le_refl _, by omega, .inl rfl⟩)
    clear hrt hrd hxs hxl
    generalize hrest : ([] : List Itc) = rest at *
    have hr0 : rest.length = 0 := by rw [← hrest]; rfl
    clear hrest
    go_enter Try.func53, Try.ntmps53
    go_wp2_with fail
    go_loopw [6, 8, 12] (fun ov _ iv wr => ov = .slice none 0 0 ∧ iv = .int .i64 0 ∧ wr = w) (fun _ _ _ _ => 0)
    case atStart => exact ⟨rfl, rfl, rfl⟩
    case round =>
      obtain ⟨rfl, rfl, rfl⟩ := hrel
      have hn0 := numsOf_len rest
      obtain ⟨r1, hr1⟩ : ∃ r1, ((0 : Int) == (n : Int)) = r1 := ⟨_, rfl⟩
      obtain ⟨r2, hr2⟩ : ∃ r2, ((1 : Int) == ((n : Int) + 1)) = r2 := ⟨_, rfl⟩
      have HR := Lib.hid (show intsB rest n = (r1 && r2) by
        rw [intsB_iff, ← hr1, ← hr2]
        have a1 : decide ((numsOf rest).length = n) = ((0 : Int) == (n : Int)) := by rw [Bool.eq_iff_iff]; simp; omega
        have a2 : decide (rest.length = n) = ((1 : Int) == ((n : Int) + 1)) := by rw [Bool.eq_iff_iff]; simp; omega
        rw [a1, a2])
      have HRN := Lib.hid (List.length_eq_zero_iff.1 hr0)
      cases r1 <;> cases r2
      all_goals
        go_wp2_with fail
        go_ret2
        exact ⟨_, [], by rw [HR.out]; rfl, World.ownsRow_nil _ _ _ _, fun _ => by rw [HRN.out]; rfl, Below.refl _ _⟩
  · have HRT := Lib.hid hrt
    have hw1 : 0 < c - 1 := by omega
    clear hrt hrd hxs hxl
    go_enter Try.func53, Try.ntmps53
    go_wp2_with fail
    go_loopw [6, 8, 12] (fun ov _ iv wr => ∃ (j : Nat) (oa : Option Addr) (oc : Nat), j ≤ rest.length ∧ iv = .int .i64 j ∧ ov = .slice oa (numsOf (rest.take j)).length oc ∧ wr.ownsRow w.heap.size 3 1 ov (numsOf (rest.take j)).length (ints (numsOf (rest.take j))) ∧ Below w.heap.size w wr) (fun _ _ iv _ => rest.length - (intOf iv).toNat)
    case atStart => exact ⟨0, none, 0, by omega, rfl, rfl, World.ownsRow_nil _ _ _ _, Below.refl _ _⟩
    case round =>
      obtain ⟨j, oa, oc, hj, rfl, rfl, hrow, hb⟩ := hrel
      have HROW := Lib.hid hrow
      have HB := Lib.hid hb
      have hlen := Nat.le_trans (numsOf_len (rest.take j)) (by rw [List.length_take]; omega : (rest.take j).length ≤ rest.length)
      clear hrow hb
      by_cases hlt : j < rest.length
      · obtain ⟨ib, io, hio, c0, c1, c2, c3⟩ := rest_at (HRT.out.below HB.out (Nat.le_refl _)) HXS.out HSH.out j hlt
        simp only [Option.some.injEq, Addr.mk.injEq, and_true] at hio
        obtain ⟨rfl, rfl⟩ := hio
        have HSY := Lib.hid (numsOf_yes rest j hlt)
        have HSX := Lib.hid (numsOf_no rest j hlt)
        generalize rest[j] = x at *
        obtain ⟨xk, xn, xs', xl⟩ := x
        simp only [Itc.k, Itc.n, Itc.s, Itc.l] at c0 c1 c2 c3
        obtain ⟨la, ln, lc, c3⟩ := c3
        have hal := below_alloc wr (.cells #[.int .i64 xk, .int .i64 xn, .string xs', .slice la ln lc] 100)
        have HROW1 := Lib.hid (ownsRow_below HROW.out hal (Nat.le_refl _))
        have HB1 := Lib.hid (HB.out.trans (hal.mono HB.out.size))
        have hsb := HB1.out.size
        generalize hns : numsOf (rest.take j) = ns at *
        clear hns hal
        by_cases hk : xk = 0
        · have e1 : (xk == 0) = true := beq_iff_eq.2 hk
          have HSN := Lib.hid (show numsOf (rest.take (j + 1)) = ns ++ [xn] from HSY.out hk)
          have hlit := Rd.lit (w := wr.alloc (.cells #[.int .i64 xk, .int .i64 xn, .string xs', .slice la ln lc] 100)) (cs := #[.int .i64 xn]) (e := 3) (n := 1) (sz := 1) rfl (by omega)
          rw [World.size_alloc] at hlit
          have HLIT := Lib.hid hlit
          clear hlit
          have hal := below_alloc (wr.alloc (.cells #[.int .i64 xk, .int .i64 xn, .string xs', .slice la ln lc] 100)) (.cells #[.int .i64 xn] 3)
          have HROW2 := Lib.hid (ownsRow_below HROW1.out hal (Nat.le_refl _))
          have HB2 := Lib.hid (HB1.out.trans (hal.mono hsb))
          have hsb2 := HB2.out.size
          clear hal hk
          go_wp2_with (at_builtin; go_loud (refine app_list tyIntsT HROW2.out HLIT.out (by simp [Value.oneCell']) (by omega) (by omega) hsb2 rfl rfl rfl rfl ?_; intro v5 w5 hm5 hg5 hn5; obtain ⟨oa5, oc5, rfl⟩ := own_slice hm5; have HM5 := Lib.hid hm5; have HG5 := Lib.hid hg5; clear hm5 hg5 hn5))
          have HB5 := Lib.hid (HB2.out.trans ((Below.refl w.heap.size _).grown HG5.out hsb2 (fun j e => (World.ownsRow.lt HROW2.out j e).1)))
          have hl5 : (ns ++ [xn]).length = ns.length + 1 := by simp
          go_roundw
          case rel =>
            refine ⟨j + 1, oa5, oc5, by omega, by go_num, by rw [HSN.out, hl5], ?_, HB5.out⟩
            rw [HSN.out, hl5]
            have e : ints (ns ++ [xn]) = ints ns ++ [.int .i64 xn] := by simp [ints]
            rw [e]
            exact HM5.out
          case measure => simp [intOf]; omega
        · have e1 : (xk == 0) = false := beq_eq_false_iff_ne.2 hk
          have HSN := Lib.hid (show numsOf (rest.take (j + 1)) = ns from HSX.out hk)
          clear hk
          go_wp2_with fail
          go_roundw
          case rel => exact ⟨j + 1, oa, oc, by omega, by go_num, by rw [HSN.out], by rw [HSN.out]; exact HROW1.out, HB1.out⟩
          case measure => simp [intOf]; omega
      · obtain rfl : j = rest.length := by omega
        rw [List.take_length] at HROW ⊢
        have hiff := intsB_iff rest n
        have HIFF := Lib.hid hiff
        generalize hns : numsOf rest = ns at *
        have HNS := Lib.hid hns
        clear hns hiff
        have hnl : ns.length ≤ rest.length := by rw [← HNS.out]; exact numsOf_len rest
        obtain ⟨r1, hr1⟩ : ∃ r1, ((ns.length : Int) == (n : Int)) = r1 := ⟨_, rfl⟩
        obtain ⟨r2, hr2⟩ : ∃ r2, (((rest.length : Int) + 1) == ((n : Int) + 1)) = r2 := ⟨_, rfl⟩
        have HR := Lib.hid (show intsB rest n = (r1 && r2) by
          rw [HIFF.out, ← hr1, ← hr2]
          have a1 : decide (ns.length = n) = ((ns.length : Int) == (n : Int)) := by rw [Bool.eq_iff_iff]; simp; omega
          have a2 : decide (rest.length = n) = (((rest.length : Int) + 1) == ((n : Int) + 1)) := by rw [Bool.eq_iff_iff]; simp; omega
          rw [a1, a2])
        have HNUM := Lib.hid (fun h : intsB rest n = true => (HNS.out.symm.trans (intsB_nums h)))
        cases r1 <;> cases r2
        all_goals
          go_wp2_with fail
          go_ret2
          exact ⟨_, ns, by rw [HR.out]; rfl, HROW.out, HNUM.out, HB.out⟩
end Go.Proofs.Ytkabfjbmofpkdaa

/- Layer 14: the records of a text, walked. -/
namespace Go.Proofs.Ytkabfjbmofpkdaa
open Go.RowKit Go.Shelf
set_option linter.unusedVariables false
set_option linter.unusedSimpArgs false
set_option maxRecDepth 100000

theorem listB_len {l : List Itc} (h : l.length ≠ 3) : listB l = false := by
  unfold listB
  split
  · simp at h
  · rfl
theorem listB_three {l : List Itc} (h : l.length = 3) : listB l = ((decide (l[1].k = 0) && decide (l[2].k = 2)) && l[2].l.all recB) := by
  match l, h with
  | [_, _, _], _ => rfl
theorem getD_three {l : List Itc} (h : l.length = 3) : (l.getD 2 zI) = l[2] ∧ nth l 1 = l[1].n := by
  match l, h with
  | [_, _, _], _ => exact ⟨rfl, rfl⟩
theorem all_take {l : List Itc} {j : Nat} (h : j < l.length) : (l.take (j + 1)).all recB = ((l.take j).all recB && recB l[j]) := by
  rw [List.take_succ_eq_append_getElem h, List.all_append]; simp
theorem all_no {l : List Itc} {j : Nat} (h : j < l.length) (hb : recB l[j] = false) : l.all recB = false := by
  rw [← Bool.not_eq_true, List.all_eq_true]
  intro ha
  rw [ha _ (List.getElem_mem h)] at hb
  cases hb
/-- The records so far. -/
structure LR (w wr : World) (m : List Itc) (rv : Value) (j : Nat) (rs : List Rec) : Prop where
  eq : rs = (m.take j).map recV
  all : (m.take j).all recB = true
  row : wr.ownsRow w.heap.size 33 5 rv rs.length (flatF Rec.cells rs)
  b : Below w.heap.size w wr
set_option maxHeartbeats 8000000 in
theorem plread_calls (hD : EDec) (P : Nat → Prop) (v : Value) (l : List Itc) (w : World) (hr : ItR P 9 w v l) (hP : ∀ j, P j → j < w.heap.size) (hwf : ∀ i ∈ l, wfI 65536 8 i) :
    Calls Try.prog 55 #[v] w fun e w' => ∃ rv rs ep, e = .returned (.tuple #[rv, .int .i64 ep, .bool (listB l)]) ∧ w'.ownsRow w.heap.size 33 5 rv rs.length (flatF Rec.cells rs) ∧ (listB l = true → rs = (l.getD 2 zI).l.map recV ∧ ep = nth l 1) ∧ Below w.heap.size w w' := by
  obtain ⟨a, c, rfl, hc1, hc2⟩ := hr.slice
  have HR := Lib.hid hr
  have HBB := Lib.hid (Below.refl w.heap.size w)
  clear hr
  by_cases hl : l.length = 3
  · have e0 : ((l.length : Int) != 3) = false := by simp [hl]
    obtain ⟨b, o, l1v, rfl, a0, a1, a2, a3, -, -⟩ := iv_at HR.out 1 (by omega)
    obtain ⟨b', o', l2v, hbo, b0, b1, b2, b3, hch, -⟩ := iv_at HR.out 2 (by omega)
    simp only [Option.some.injEq, Addr.mk.injEq, and_true] at hbo
    obtain ⟨rfl, rfl⟩ := hbo
    have HL := Lib.hid (listB_three hl)
    have HG := Lib.hid (getD_three hl)
    have hw2 := hwf l[2] (List.getElem_mem _)
    have hl65 := wfI_len hw2
    have HW2 := Lib.hid (wfI_l hw2)
    obtain ⟨xa, xc, rfl, hx1, hx2⟩ := hch.slice
    have HCH := Lib.hid hch
    clear hch hwf hw2
    rw [show o + 1 * 4 = o + 4 by omega] at a0 a1 a2 a3
    rw [show o + 2 * 4 = o + 8 by omega] at b0 b1 b2 b3
    have hc3 : 2 < c := by omega
    generalize l[1] = i1 at *
    generalize l[2] = i2 at *
    obtain ⟨k1, n1, s1, m1⟩ := i1
    obtain ⟨k2, n2, s2, m2⟩ := i2
    simp only [Itc.k, Itc.n, Itc.s, Itc.l] at a0 a1 a2 a3 b0 b1 b2 b3 hl65 hx1 HW2 HCH HL HG
    by_cases hk1 : k1 = 0
    · have e1 : (k1 != 0) = false := by simp [hk1]
      by_cases hk2 : k2 = 2
      · have e2 : (k2 != 2) = false := by simp [hk2]
        have HLA := Lib.hid (show listB l = m2.all recB by
          rw [HL.out]
          show ((decide (k1 = 0) && decide (k2 = 2)) && m2.all recB) = _
          rw [decide_eq_true hk1, decide_eq_true hk2]; rfl)
        have HGN := Lib.hid (show (l.getD 2 zI).l = m2 ∧ nth l 1 = n1 by rw [HG.out.1, HG.out.2]; exact ⟨rfl, rfl⟩)
        rw [HLA.out, HGN.out.1, HGN.out.2]
        have HK := Lib.hid (And.intro hk1 hk2)
        clear hk1 hk2 HL HG HLA HGN HBB
        go_enter Try.func55, Try.ntmps55
        go_wp2_with fail
        go_loopw [2, 3, 4, 5, 7, 8, 9, 32] (fun _ _ _ rv _ _ _ iv wr => ∃ (j : Nat) (rs : List Rec), j ≤ m2.length ∧ iv = .int .i64 j ∧ LR w wr m2 rv j rs) (fun _ _ _ _ _ _ _ iv _ => m2.length - (intOf iv).toNat)
        case atStart => exact ⟨0, [], by omega, rfl, rfl, rfl, World.ownsRow_nil _ _ _ _, Below.refl _ _⟩
        case round =>
          obtain ⟨j, rs, hj, rfl, ⟨hrs, hall, hrow, hb⟩⟩ := hrel
          have hrl : rs.length ≤ 65536 := by rw [hrs]; simp; omega
          have HRS := Lib.hid hrs
          have HALL := Lib.hid hall
          have HROW := Lib.hid hrow
          have HBB := Lib.hid hb
          obtain ⟨na, nc, rfl⟩ := own_slice hrow
          clear hrs hall hrow hb
          by_cases hlt : j < m2.length
          · obtain ⟨ib, io, iv, rfl, d0, d1, d2, d3, hch3, -⟩ := iv_at (ItR.below HBB.out hP HCH.out) j hlt
            have HAT := Lib.hid (all_take hlt)
            have HNO := Lib.hid (all_no hlt)
            have HTK := Lib.hid (List.take_succ_eq_append_getElem hlt)
            have hws := wfI_s (HW2.out m2[j] (List.getElem_mem _))
            generalize m2[j] = x at *
            obtain ⟨ya, yc, rfl, -, -⟩ := hch3.slice
            obtain ⟨xk, xn, xs, xl⟩ := x
            simp only [Itc.k, Itc.n, Itc.s, Itc.l] at d0 d1 d2 d3 hws
            clear hch3
            have hal := below_alloc wr (.cells #[.int .i64 xk, .int .i64 xn, .string xs, .slice ya xl.length yc] 100)
            have hsb := HBB.out.size
            have HB1 := Lib.hid (HBB.out.trans (hal.mono hsb))
            have HRO1 := Lib.hid (ownsRow_below HROW.out hal (Nat.le_refl _))
            clear hal
            go_upto_region 7 with fail
            obtain ⟨ub, hub⟩ : ∃ ub, ub = wr.heap.size := ⟨_, rfl⟩
            obtain ⟨U1, hU1⟩ : ∃ U1, U1 = wr.alloc (.cells #[.int .i64 xk, .int .i64 xn, .string xs, .slice ya xl.length yc] 100) := ⟨_, rfl⟩
            have m0 : U1.cell? ⟨ub, 0, none⟩ = some (.int .i64 xk) := by rw [hU1, hub]; exact box_self 0 _ rfl
            have m2' : U1.cell? ⟨ub, 2, none⟩ = some (.string xs) := by rw [hU1, hub]; exact box_self 2 _ rfl
            rw [← hU1] at HB1 HRO1 ⊢
            rw [← hub]
            clear hU1 hub d0 d1 d2 d3
            go_wp2_with fail
            refine (hD xs U1 (by omega)).mono ?_
            rintro e w2 ⟨E, cd, rfl, hres, hb2⟩
            have m0 := cell_later hb2 m0
            have HB2 := Lib.hid (HB1.out.trans (hb2.mono HB1.out.size))
            have HRO2 := Lib.hid (ownsRow_below HRO1.out hb2 (Nat.le_refl _))
            obtain ⟨ga, gc, hgv⟩ := own_slice hres.1.ops
            have HCASE := Lib.hid (show (recB (.mk xk xn xs xl) = true → E.r = recV (.mk xk xn xs xl)) ∧ recB (.mk xk xn xs xl) = (!((xk != 1) || (cd != 0) || (E.k != 1))) from by
              have h2 := hres.2
              unfold recB recV
              show ((decide (xk = 1) && (match entD xs with | some E => decide (E.k = 1) | none => false)) = true → E.r = match entD xs with | some E => E.r | none => zR) ∧ (decide (xk = 1) && (match entD xs with | some E => decide (E.k = 1) | none => false)) = _
              cases hx : entD xs with
              | none =>
                rw [hx] at h2
                obtain ⟨rfl, -⟩ := h2
                simp
              | some Y =>
                rw [hx] at h2
                obtain ⟨rfl, hs⟩ := h2
                refine ⟨fun _ => hs.r, ?_⟩
                show (decide (xk = 1) && decide (Y.k = 1)) = _
                rw [← hs.k, Bool.eq_iff_iff]
                simp)
            obtain ⟨ek, ⟨er1, er2, er3, er4, er5⟩, egv, eos, en⟩ := E
            simp only at hgv
            subst hgv
            clear hres hb2 m2'
            have m0 := cell_later (below_alloc w2 (.cells #[.int .i64 ek, .int .i64 er1, .int .i64 er2, .int .i64 er3, .string er4, .int .u32 er5, .slice ga eos.length gc, .int .i64 en] 35)) m0
            obtain ⟨r1, hr1⟩ : ∃ r1, (xk != 1) = r1 := ⟨_, rfl⟩
            obtain ⟨r2, hr2⟩ : ∃ r2, (cd != 0) = r2 := ⟨_, rfl⟩
            obtain ⟨r3, hr3⟩ : ∃ r3, (ek != 1) = r3 := ⟨_, rfl⟩
            have HC2 := Lib.hid (show recB (.mk xk xn xs xl) = !((r1 || r2) || r3) by rw [← hr1, ← hr2, ← hr3]; exact HCASE.out.2)
            by_cases hbad : ((r1 || r2) || r3) = true
            · have HBAD := Lib.hid (show m2.all recB = false from HNO.out (by rw [HC2.out, hbad]; rfl))
              have HBB := Lib.hid (HB2.out.trans ((below_alloc w2 (.cells #[.int .i64 ek, .int .i64 er1, .int .i64 er2, .int .i64 er3, .string er4, .int .u32 er5, .slice ga eos.length gc, .int .i64 en] 35)).mono HB2.out.size))
              clear HCASE HC2
              simp only [Ent.cells]
              cases r1 <;> cases r2 <;> cases r3
              all_goals first
                | (exfalso; revert hbad; decide)
                | skip
              all_goals
                clear hbad
                go_wp2_with fail
                go_ret3
                exact ⟨_, [], 0, by rw [HBAD.out]; rfl, World.ownsRow_nil _ _ _ _, (fun h => by rw [HBAD.out] at h; cases h), HBB.out⟩
            · have hgood : recB (.mk xk xn xs xl) = true := by rw [HC2.out]; simpa using hbad
              have HRV := Lib.hid (HCASE.out.1 hgood)
              have HGD := Lib.hid hgood
              obtain ⟨rfl, rfl, rfl⟩ : r1 = false ∧ r2 = false ∧ r3 = false := by simpa [and_assoc] using hbad
              have halE := below_alloc w2 (.cells #[.int .i64 ek, .int .i64 er1, .int .i64 er2, .int .i64 er3, .string er4, .int .u32 er5, .slice ga eos.length gc, .int .i64 en] 35)
              have HB3 := Lib.hid (HB2.out.trans (halE.mono HB2.out.size))
              have HRO3 := Lib.hid (ownsRow_below HRO2.out halE (Nat.le_refl _))
              have hs3 := HB3.out.size
              have hlit := Rd.lit (w := w2.alloc (.cells #[.int .i64 ek, .int .i64 er1, .int .i64 er2, .int .i64 er3, .string er4, .int .u32 er5, .slice ga eos.length gc, .int .i64 en] 35)) (cs := #[.int .i64 er1, .int .i64 er2, .int .i64 er3, .string er4, .int .u32 er5]) (e := 33) (n := 1) (sz := 5) rfl (by omega)
              rw [World.size_alloc] at hlit
              have HLIT := Lib.hid hlit
              have hal4 := below_alloc (w2.alloc (.cells #[.int .i64 ek, .int .i64 er1, .int .i64 er2, .int .i64 er3, .string er4, .int .u32 er5, .slice ga eos.length gc, .int .i64 en] 35)) (.cells #[.int .i64 er1, .int .i64 er2, .int .i64 er3, .string er4, .int .u32 er5] 33)
              have HB4 := Lib.hid (HB3.out.trans (hal4.mono hs3))
              have HRO4 := Lib.hid (ownsRow_below HRO3.out hal4 (Nat.le_refl _))
              have hs4 := HB4.out.size
              clear hbad hgood HCASE HC2 halE hlit hal4 hs3
              simp only [Ent.cells]
              go_upto_region 11 with (at_builtin; go_loud (refine app_list tyRecs HRO4.out HLIT.out (by simp [Value.oneCell']) (by omega) (by omega) hs4 rfl rfl rfl rfl ?_; intro v5 w5 hm5 hg5 hn5; obtain ⟨na5, nc5, rfl⟩ := own_slice hm5; have HM5 := Lib.hid hm5; have HG5 := Lib.hid hg5; clear hm5 hg5 hn5))
              have HB5 := Lib.hid (HB4.out.trans ((Below.refl w.heap.size _).grown HG5.out hs4 (fun j e => (World.ownsRow.lt HRO4.out j e).1)))
              go_wp2_with fail
              go_roundw
              case rel =>
                refine ⟨_, _, _, _, _, _, _, _, ⟨j + 1, by omega, by go_num, rs ++ [⟨er1, er2, er3, er4, er5⟩], ?_, by rw [HAT.out, HALL.out, HGD.out]; rfl, ?_, HB5.out⟩, rfl, rfl, rfl, rfl, rfl, rfl, rfl, rfl⟩
                · rw [HTK.out, List.map_append, ← HRS.out]
                  show _ = rs ++ [recV (.mk xk xn xs xl)]
                  rw [← HRV.out]
                · have h := HM5.out
                  have e : flatF Rec.cells (rs ++ [⟨er1, er2, er3, er4, er5⟩]) = flatF Rec.cells rs ++ [.int .i64 er1, .int .i64 er2, .int .i64 er3, .string er4, .int .u32 er5] := by simp [flatF, Rec.cells]
                  rw [e, List.length_append]
                  exact h
              case measure => simp [intOf]; omega
          · obtain rfl : j = m2.length := by omega
            rw [List.take_length] at HRS HALL
            have z0 := cell_later HBB.out a1
            clear hlt
            go_upto_region 12 with fail
            refine region_m [(0, false), (1, false), (2, false), (3, false), (4, false), (5, false), (6, false), (7, false)] 8 (fun V => V.cell? ⟨b, o + 4 + 1, none⟩ = some (.int .i64 n1)) (by kernel_rfl) (by kernel_rfl) z0 ?_
            have hdr := (Below.refl wr.heap.size wr).drew
            have HRO := Lib.hid (ownsRow_below HROW.out hdr (Nat.le_refl _))
            have HBD := Lib.hid HBB.out.drew
            clear hdr
            generalize wr.drew = V0 at *
            iterate 8
              first
              | (refine m_take (v := ?_) rfl rfl ?_ ?_
                 rotate_left
                 · intro W hW
                   go_simp
                   with_reducible rfl
                 simp only [Act.put, List.setIfInBounds_toArray, List.set_cons_zero, List.set_cons_succ])
              | (refine m_skip rfl rfl ?_
                 simp only [Act.put, List.setIfInBounds_toArray, List.set_cons_zero, List.set_cons_succ])
            refine m_done ?_
            simp only [List.drop_succ_cons, List.drop_zero]
            go_wp2_with fail
            simp only [NP]
            go_wp2_with fail
            go_ret3
            exact ⟨_, rs, n1, by rw [HALL.out]; rfl, HRO.out, fun _ => ⟨HRS.out, rfl⟩, HBD.out⟩
      · have e2 : (k2 != 2) = true := by simp [hk2]
        have HBAD := Lib.hid (show listB l = false by
          rw [HL.out]
          show ((decide (k1 = 0) && decide (k2 = 2)) && m2.all recB) = _
          rw [decide_eq_false hk2]; simp)
        rw [HBAD.out]
        clear hk1 hk2 HL HG
        go_enter Try.func55, Try.ntmps55
        go_wp2_with fail
        go_ret3
        exact ⟨_, [], 0, rfl, World.ownsRow_nil _ _ _ _, fun h => (by cases h), HBB.out⟩
    · have e1 : (k1 != 0) = true := by simp [hk1]
      have HBAD := Lib.hid (show listB l = false by
        rw [HL.out]
        show ((decide (k1 = 0) && decide (k2 = 2)) && m2.all recB) = _
        rw [decide_eq_false hk1]; simp)
      rw [HBAD.out]
      clear hk1 HL HG
      go_enter Try.func55, Try.ntmps55
      go_wp2_with fail
      go_ret3
      exact ⟨_, [], 0, rfl, World.ownsRow_nil _ _ _ _, fun h => (by cases h), HBB.out⟩
  · have e0 : ((l.length : Int) != 3) = true := by simp; omega
    have HBAD := Lib.hid (listB_len hl)
    rw [HBAD.out]
    clear hl
    go_enter Try.func55, Try.ntmps55
    go_wp2_with fail
    go_ret3
    exact ⟨_, [], 0, rfl, World.ownsRow_nil _ _ _ _, fun h => (by cases h), HBB.out⟩
end Go.Proofs.Ytkabfjbmofpkdaa

/- Layer 14: the texts of a ledger: the closure add, walked. -/
namespace Go.Proofs.Ytkabfjbmofpkdaa
open Go.RowKit Go.Shelf
set_option linter.unusedVariables false
set_option linter.unusedSimpArgs false
set_option maxRecDepth 100000

theorem tyStrs : STy Try.prog 69 9 (.string nos) 1 16 := .of Try.underlying69 (by kernel_rfl) rfl (by omega)
def strs (ts : List ByteArray) : List Value := ts.map Value.string
theorem strs_len (ts : List ByteArray) : (strs ts).length = ts.length := by simp [strs]
/-- The box of the texts so far. -/
structure OutB (w : World) (B ob : Nat) (sv : Value) (ts : List ByteArray) : Prop where
  c : w.cell? ⟨ob, 0, none⟩ = some sv
  f : w.frozen? ⟨ob, 0, none⟩ = false
  lt : ob < B
  hB : B ≤ w.heap.size
  row : w.ownsRow B 9 1 sv ts.length (strs ts)
theorem OutB.below {w w' : World} {B ob : Nat} {sv : Value} {ts : List ByteArray} (h : OutB w B ob sv ts) (hb : Below w.heap.size w w') : OutB w' B ob sv ts :=
  ⟨cell_later hb h.c, (World.frozen?_of_block (a := ⟨ob, 0, none⟩) (hb.block ob (by have := h.lt; have := h.hB; omega))).trans h.f, h.lt, Nat.le_trans h.hB hb.size, ownsRow_below h.row hb (Nat.le_refl _)⟩
theorem OutB.weak {w w' : World} {B ob : Nat} {sv : Value} {ts : List ByteArray} (h : OutB w B ob sv ts) (ho : Only (fun j => j = ob ∨ sv.ownBlock = some j) w w') : Only (fun j => j = ob ∨ B ≤ j) w w' :=
  ho.weak (fun j _ e => e.elim .inl (fun e => .inr (World.ownsRow.lt h.row j e).1))
theorem its_cons {w : World} {base d : Nat} {v : Value} (x : Iv) (xs : List Iv) (h : w.ownsRow base 100 4 v (1 + xs.length) (Iv.cells x ++ flatF Iv.cells xs)) (hx : x.v = .slice none 0 0 ∧ x.c.l = []) (hc : ∀ y ∈ xs, Its w d y.v y.c.l) : Its w (d + 1) v (x.c :: xs.map Iv.c) := by
  rw [Nat.add_comm] at h
  refine ⟨x :: xs, rfl, Rd.of_own (n := (x :: xs).length) h, fun a n c e hn => (World.ownsRow.lt h a.block (by rw [e]; rfl)).2, fun y hy => ?_⟩
  rcases List.mem_cons.1 hy with rfl | hy
  · rw [hx.1, hx.2]
    exact ItR.nil _ _ _
  · exact hc y hy
set_option maxHeartbeats 4000000 in
theorem padd_calls (k : Int) (v : Value) (is : List Itc) (B ob : Nat) (sv : Value) (ts : List ByteArray) (w : World) (h : Its w 8 v is) (hok : ∀ i ∈ iI k :: is, okI 8 i) (hsum : ((iI k :: is).map (szI 8)).sum ≤ 4096) (hlen : (enc (iI k :: is)).length ≤ 65536) (hil : is.length ≤ 4096)
    (hO : OutB w B ob sv ts) (hts : ts.length ≤ 1000000000) :
    Calls Try.prog 45 #[.int .i64 k, v, .pointer (some ⟨ob, 0, none⟩)] w fun e w' => e = .returned (.tuple #[]) ∧ ∃ sv', OutB w' B ob sv' (ts ++ [encB (iI k :: is)]) ∧ Only (fun j => j = ob ∨ sv.ownBlock = some j) w w' := by
  obtain ⟨va, vc, rfl, hvl, hvc⟩ := h.slice
  obtain ⟨xs, hxs, hrd, -, hch⟩ := h
  have hxl : xs.length = is.length := by rw [← hxs]; simp
  have HRD := Lib.hid (show Rd w 4 (.slice va is.length vc) is.length (flatF Iv.cells xs) by rw [← hxl]; rw [hxl]; rw [← hxl] at hrd ⊢; exact hrd)
  have HCH := Lib.hid hch
  have HXS := Lib.hid hxs
  have HO := Lib.hid hO
  have H1 := Lib.hid (flat_iv_one hch)
  obtain ⟨sa, sc, rfl⟩ := own_slice hO.row
  have HEN := Lib.hid (fun v w h => wencode_calls v (iI k :: is) w h hok hsum hlen)
  have HE := Lib.hid (show encB (iI k :: is) = bstr (enc (iI k :: is)) from rfl)
  rw [HE.out]
  generalize enc (iI k :: is) = bs at *
  clear hrd hch hxs hO hok hsum HE
  go_enter Try.func45, Try.ntmps45
  go_wp2_with fail
  refine (wint_calls k _).mono ?_
  rintro e w1 ⟨rfl, hb1⟩
  have ho := World.ownsRow_lit (base := w.heap.size) (size := 4) (e := 100) w1 #[.int .i64 0, .int .i64 k, .string nos, .slice none 0 0] 1 hb1.size (by unfold maxLen; omega) (by simp)
  have hal := below_alloc w1 (.cells #[.int .i64 0, .int .i64 k, .string nos, .slice none 0 0] 100)
  have HB2 := Lib.hid (hb1.trans (hal.mono hb1.size))
  have HOW := Lib.hid ho
  have HR2 := Lib.hid (Rd.below HRD.out HB2.out (Nat.le_refl _))
  have hs2 := HB2.out.size
  have hs1 := hb1.size
  clear hb1 hal ho
  go_wp2_with (at_builtin; go_loud (refine app_list tyItems HOW.out HR2.out H1.out (by omega) (by omega) (by omega) rfl rfl rfl rfl ?_; intro v3 w3 hm3 hg3 hn3; have HM3 := Lib.hid hm3; have HG3 := Lib.hid hg3; clear hm3 hg3 hn3))
  have HB3 := Lib.hid (HB2.out.trans ((Below.refl w.heap.size _).grown HG3.out (by omega) (fun j e => (World.ownsRow.lt HOW.out j e).1)))
  have HIT := Lib.hid (its_cons (d := 7) ⟨iI k, .slice none 0 0⟩ xs (by have := HM3.out; rw [hxl]; exact this) ⟨rfl, rfl⟩ (fun y hy => (ItR.below HB3.out (fun j hj => hj) (HCH.out y hy)).mono (fun j hj => Nat.lt_of_lt_of_le hj HB3.out.size)))
  have HEC := Lib.hid (HEN.out v3 w3 (by have := HIT.out; rw [HXS.out] at this; exact this))
  clear HEN HM3 HG3
  go_wp2_with fail
  refine HEC.out.mono ?_
  rintro e w4 ⟨bv, rfl, ho, hb⟩
  have hal := below_alloc w4 (.cells #[.string (bstr bs)] 9)
  have hs := run_bytes_str (P := Try.prog) (src := 96) (e := 5) (dst := 9) Try.underlying96 Try.underlying5 Try.underlying9 (Bytes.of_own ho)
  obtain ⟨ba, bc, rfl⟩ := own_slice ho
  have HB4 := Lib.hid (HB3.out.trans (hb.mono HB3.out.size))
  have HO4 := Lib.hid (HO.out.below HB4.out)
  have y0 := HO4.out.c
  have HO5 := Lib.hid (HO4.out.below hal)
  have HB5 := Lib.hid (HB4.out.trans (hal.mono HB4.out.size))
  have HLIT := Lib.hid (Rd.lit (w := w4) (cs := #[.string (bstr bs)]) (e := 9) (n := 1) (sz := 1) rfl (by omega))
  have hB := HO5.out.hB
  clear ho hb hal
  have HNE := Lib.hid (show ∀ j, (Value.slice sa ts.length sc).ownBlock = some j → B ≤ j from fun j e => (World.ownsRow.lt HO5.out.row j e).1)
  have hlt := HO5.out.lt
  have hx : some ob ≠ (Value.slice sa ts.length sc).ownBlock := fun e => by have := HNE.out ob e.symm; omega
  have HX := Lib.hid hx
  clear hx
  go_wp2_with (at_builtin; go_loud (refine app_list tyStrs HO5.out.row HLIT.out (by simp [Value.oneCell']) (by omega) (by omega) hB rfl rfl rfl rfl ?_; intro v6 w6 hm6 hg6 hn6; obtain ⟨sa6, sc6, rfl⟩ := own_slice hm6; have HM6 := Lib.hid hm6; have HG6 := Lib.hid hg6; have y6 := hg6.cell HO5.out.c HX.out; have f6 : w6.frozen? ⟨ob, 0, none⟩ = false := (World.frozen?_of_block (a := ⟨ob, 0, none⟩) (hg6.block ob (by omega) HX.out)).trans HO5.out.f; clear hm6 hg6 hn6))
  have hon : Only (fun j => j = ob) w6 (w6.setCell ⟨ob, 0, none⟩ (.slice sa6 (ts.length + 1) sc6)) := (Only.refl _ _).setCell _ _ (.inl rfl)
  have hs5 := HB5.out.size
  have hs6 := HG6.out.size
  have ho6 : Only (fun j => j = ob ∨ (Value.slice sa ts.length sc).ownBlock = some j) w w6 := ((Only.of_below (S := fun j => j = ob ∨ (Value.slice sa ts.length sc).ownBlock = some j) HB5.out).trans (Only.of_grown HG6.out) (fun j _ e => .inr e))
  refine bodyPost_end (results_none rfl _ _ _) rfl ?_
  refine ⟨rfl, .slice sa6 (ts.length + 1) sc6, ⟨?_, ?_, hlt, ?_, ?_⟩, ho6.trans hon (fun j _ e => .inl e)⟩
  · exact cell_set_same _ y6
  · rw [World.frozen?_setCell]; exact f6
  · have := hon.size; omega
  · have h := ownsRow_only HM6.out hon (fun g hg e => by have := (World.ownsRow.lt HM6.out g hg).1; omega)
    rw [List.length_append]
    have e : strs (ts ++ [bstr bs]) = strs ts ++ [.string (bstr bs)] := by simp [strs]
    rw [e]
    exact h
end Go.Proofs.Ytkabfjbmofpkdaa

/- Layer 14: the texts of a ledger: the closure list, walked. -/
namespace Go.Proofs.Ytkabfjbmofpkdaa
open Go.RowKit Go.Shelf
set_option linter.unusedVariables false
set_option linter.unusedSimpArgs false
set_option maxRecDepth 100000

set_option maxHeartbeats 8000000 in
theorem plist_calls (k ep : Int) (rv : Value) (rs : List Rec) (B ob fb : Nat) (sv : Value) (ts : List ByteArray) (w : World) (hr : Recs w rv rs) (hk : I64 k) (he : I64 ep) (hl : rs.length ≤ 512) (hg : ∀ r ∈ rs, goodRec r = true ∧ r.ok ∧ U32 r.val)
    (hO : OutB w B ob sv ts) (hts : ts.length ≤ 1000000000) (hfb : fb < B ∧ fb ≠ ob) (hfn : w.cell? ⟨fb, 0, none⟩ = some (.func (.func 45) #[] #[.pointer (some ⟨ob, 0, none⟩)])) (eg : ∀ args w, (callFunc 45 args).run Try.prog w = .ok (.enter 45 args) w) :
    Calls Try.prog 50 #[.int .i64 k, .int .i64 ep, rv, .pointer (some ⟨fb, 0, none⟩)] w fun e w' => e = .returned (.tuple #[]) ∧ ∃ sv', OutB w' B ob sv' (ts ++ [encB (listE k ep rs)]) ∧ Only (fun j => j = ob ∨ B ≤ j) w w' := by
  have HADD := Lib.hid (fun v w' h hO' => padd_calls k v [iI ep, iL (rs.map fun r => iT (encB (recE r)))] B ob sv ts w' h (listE_ok (k := k) (ep := ep) hk he (fun r hr => key_le (hg r hr).1)) (listE_sum (k := k) (ep := ep) hl) (by have := listE_len (k := k) (ep := ep) hl (fun r hr => key_le (hg r hr).1); exact Nat.le_trans this (by omega)) (by simp) hO' hts)
  have HR := Lib.hid hr
  have HG := Lib.hid hg
  have HO := Lib.hid hO
  have HLE := Lib.hid (show listE k ep rs = iI k :: [iI ep, iL (rs.map fun r => iT (encB (recE r)))] from rfl)
  rw [HLE.out]
  generalize encB (iI k :: [iI ep, iL (rs.map fun r => iT (encB (recE r)))]) = tx at *
  obtain ⟨ra, rc, rfl, hrc1, hrc2⟩ := Rd.slice hr
  have hob := hO.lt
  have hBs := hO.hB
  obtain ⟨hfb1, hfb2⟩ := hfb
  clear hr hg hO hk he
  go_enter Try.func50, Try.ntmps50
  go_wp2_with fail
  go_loopw [7, 9, 10, 11, 14] (fun lv _ _ _ iv wr => ∃ (j : Nat) (xs : List Iv), j ≤ rs.length ∧ iv = .int .i64 j ∧ xs.map Iv.c = (rs.take j).map (fun r => iT (encB (recE r))) ∧ IRow wr w.heap.size 6 lv xs ∧ Below w.heap.size w wr) (fun _ _ _ _ iv _ => rs.length - (intOf iv).toNat)
  case atStart => exact ⟨0, [], by omega, rfl, rfl, IRow.nil _ _ _, Below.refl _ _⟩
  case round =>
    obtain ⟨j, xs, hj, rfl, hxs, hrow, hb⟩ := hrel
    have HROW := Lib.hid hrow
    have HXS := Lib.hid hxs
    have HB := Lib.hid hb
    have hxl : xs.length = j := by have := congrArg List.length hxs; simp at this; omega
    have hx5 : xs.length ≤ 512 := by omega
    obtain ⟨la, lc, rfl⟩ := own_slice hrow.own
    have hsb := hb.size
    clear hrow hxs hb hxl
    by_cases hlt : j < rs.length
    · obtain ⟨b, o, rfl, c0, c1, c2, c3, c4⟩ := rec_at (Rd.below HR.out HB.out (Nat.le_refl _)) j hlt
      have HGR := Lib.hid (HG.out rs[j] (List.getElem_mem _))
      have HTK := Lib.hid (List.take_succ_eq_append_getElem hlt)
      generalize rs[j] = R at *
      obtain ⟨rp, rsq, rq, key, val⟩ := R
      simp only at c0 c1 c2 c3 c4
      have hal := below_alloc wr (.cells #[.int .i64 rp, .int .i64 rsq, .int .i64 rq, .string key, .int .u32 val] 33)
      have HAL := Lib.hid hal
      have HR1 := Lib.hid (HROW.out.below hal)
      clear hal
      go_wp2_with fail
      refine (encRec_calls ⟨rp, rsq, rq, key, val⟩ _ HGR.out.1 HGR.out.2.1 HGR.out.2.2).mono ?_
      rintro e w2 ⟨rfl, hb2⟩
      have HR2 := Lib.hid (HR1.out.below hb2)
      have HB2 := Lib.hid ((HB.out.trans (HAL.out.mono hsb)).trans (hb2.mono (by have := HAL.out.size; omega)))
      generalize hTX : encB (recE ⟨rp, rsq, rq, key, val⟩) = tr at *
      have HTX := Lib.hid hTX
      clear hb2 hTX
      go_wp2_with fail
      refine (wtext_calls tr _).mono ?_
      rintro e w3 ⟨rfl, hb3⟩
      have HR3 := Lib.hid ((HR2.out.below hb3).below (below_alloc w3 (.cells #[.int .i64 1, .int .i64 0, .string tr, .slice none 0 0] 100)))
      have HB3 := Lib.hid ((HB2.out.trans (hb3.mono HB2.out.size)).trans ((below_alloc w3 (.cells #[.int .i64 1, .int .i64 0, .string tr, .slice none 0 0] 100)).mono (Nat.le_trans HB2.out.size hb3.size)))
      have HLIT := Lib.hid (Rd.lit (w := w3) (cs := #[.int .i64 1, .int .i64 0, .string tr, .slice none 0 0]) (e := 100) (n := 1) (sz := 4) rfl (by omega))
      have hs3 := HB3.out.size
      clear hb3
      go_upto_region 6 with (at_builtin; go_loud (refine app_keep tyItems HR3.out.own HLIT.out (by simp [Value.oneCell']) (by omega) (by omega) (by omega) hs3 rfl rfl rfl rfl ?_; intro g gcap w5 h2 h3 h4 h5; have H2 := Lib.hid h2; have H4 := Lib.hid h4; have H5 := Lib.hid h5; clear h2 h3 h4 h5))
      have HR5 := Lib.hid (HR3.out.keep ⟨iT tr, .slice none 0 0⟩ (ItR.nil _ _ _) H2.out H4.out H5.out)
      have HB5 := Lib.hid (HB3.out.trans ((Below.refl w.heap.size _).grown H4.out hs3 (fun j e => (World.ownsRow.lt HR3.out.own j e).1)))
      clear H2 H4 H5
      go_wp2_with fail
      go_roundw
      case rel => exact ⟨j + 1, xs ++ [⟨iT tr, .slice none 0 0⟩], by omega, by go_num, by rw [List.map_append, HXS.out, HTK.out, List.map_append]; show _ = _ ++ [iT (encB (recE ⟨rp, rsq, rq, key, val⟩))]; rw [HTX.out]; rfl, HR5.out, HB5.out⟩
      case measure => simp [intOf]; omega
    · obtain rfl : j = rs.length := by omega
      rw [List.take_length] at HXS
      have HLI := Lib.hid HROW.out.its
      have f0 := cell_later HB.out hfn
      have hO5 := HO.out.below HB.out
      have HO5 := Lib.hid hO5
      clear HROW hO5
      go_upto_region 7 with fail
      refine region_m [(0, false), (1, false), (2, false), (4, false), (3, true), (5, true), (6, true), (7, true)] 8 (fun V => V.cell? ⟨fb, 0, none⟩ = some (.func (.func 45) #[] #[.pointer (some ⟨ob, 0, none⟩)])) (by kernel_rfl) (by kernel_rfl) f0 ?_
      have hdr := (Below.refl wr.heap.size wr).drew
      have f0 := cell_later hdr f0
      have HO5 := Lib.hid (HO5.out.below hdr)
      have HLI := Lib.hid ((ItR.below hdr (fun j hj => hj.2) HLI.out).mono (Q := fun j => w.heap.size ≤ j ∧ j < wr.drew.heap.size) (fun j hj => ⟨hj.1, Nat.lt_of_lt_of_le hj.2 hdr.size⟩))
      have HB := Lib.hid HB.out.drew
      clear hdr
      generalize wr.drew = V0 at *
      iterate 4
        first
        | (refine m_take (v := ?_) rfl rfl ?_ ?_
           rotate_left
           · intro W hW
             go_simp
             with_reducible rfl
           simp only [Act.put, List.setIfInBounds_toArray, List.set_cons_zero, List.set_cons_succ])
        | (refine m_skip rfl rfl ?_
           simp only [Act.put, List.setIfInBounds_toArray, List.set_cons_zero, List.set_cons_succ])
      refine m_loud rfl (fun K hK => ?_)
      have HK := Lib.hid hK
      clear hK
      go_simp
      refine (wint_calls ep _).mono ?_
      rintro e w6 ⟨rfl, hb⟩
      have f0 := cell_later hb f0
      have HB6 := Lib.hid hb
      clear hb
      refine HK.out _ _ f0 ?_
      clear HK
      refine m_loud rfl (fun K hK => ?_)
      have HK := Lib.hid hK
      clear hK
      go_simp
      refine (wlistP_calls _ 7 _ _ _ (ItR.below HB6.out (fun j hj => hj.2) HLI.out) (fun j hj => by have := HB6.out.size; omega) (by simp; omega)).mono ?_
      rintro e w7 ⟨lv, rfl, hlv, hb⟩
      obtain ⟨a2, n2, c2, rfl⟩ : ∃ a n c, lv = .slice a n c := by obtain ⟨a, c, h, -⟩ := hlv.slice; exact ⟨_, _, _, h⟩
      have f0 := cell_later hb f0
      have HLV := Lib.hid hlv
      have HB7 := Lib.hid (HB6.out.trans (hb.mono HB6.out.size))
      clear hb hlv
      refine HK.out _ _ f0 ?_
      clear HK
      have hz7 := HB7.out.size
      have hz0 := HB.out.size
      have HLST := Lib.hid (its_lit (P := fun j => j < w7.heap.size) w7 7 [⟨iI ep, .slice none 0 0⟩, ⟨iL (rs.map fun r => iT (encB (recE r))), .slice a2 n2 c2⟩] (fun j hj => hj) (fun x hx => by
        simp only [List.mem_cons, List.not_mem_nil, or_false] at hx
        rcases hx with rfl | rfl
        · exact ItR.nil _ _ _
        · have h1 := HLV.out
          rw [HXS.out] at h1
          exact h1.mono (fun j hj => by omega)) (by simp))
      have hal := below_alloc w7 (.cells #[.int .i64 0, .int .i64 ep, .string nos, .slice none 0 0, .int .i64 2, .int .i64 0, .string nos, .slice a2 n2 c2] 100)
      have f0 := cell_later hal f0
      have HB8 := Lib.hid (HB7.out.trans (hal.mono hz7))
      clear hal
      refine m_loud rfl (fun K hK => ?_)
      have HK := Lib.hid hK
      clear hK
      go_simp
      refine HK.out _ _ f0 ?_
      clear HK
      have hzx : (w7.alloc (.cells #[.int .i64 0, .int .i64 ep, .string nos, .slice none 0 0, .int .i64 2, .int .i64 0, .string nos, .slice a2 n2 c2] 100)).heap.size = w7.heap.size + 1 := by simp
      obtain ⟨W8, hW8⟩ : ∃ W8, W8 = w7.alloc (.cells #[.int .i64 0, .int .i64 ep, .string nos, .slice none 0 0, .int .i64 2, .int .i64 0, .string nos, .slice a2 n2 c2] 100) := ⟨_, rfl⟩
      rw [← hW8] at f0 HB8 hzx ⊢
      have HLS2 := Lib.hid (show Its W8 8 (.slice (some ⟨w7.heap.size, 0, none⟩) 2 2) [iI ep, iL (rs.map fun r => iT (encB (recE r)))] from by
        have h1 := HLST.out
        rw [hW8]
        exact h1.mono (fun j hj => by rw [World.size_alloc]; omega))
      have HO8 := Lib.hid (HO5.out.below HB8.out)
      clear hW8 HLST
      refine m_loud rfl (fun K hK => ?_)
      have HK := Lib.hid hK
      clear hK
      go_simp
      refine (HADD.out _ _ HLS2.out HO8.out).mono ?_
      rintro e w9 ⟨rfl, sv', hO9, hon⟩
      have hon := HO8.out.weak hon
      have f0 : w9.cell? ⟨fb, 0, none⟩ = _ := hon.cell (b := fb) (fun e => by omega) f0
      have HO9 := Lib.hid hO9
      have HON := Lib.hid hon
      clear hO9 hon
      refine HK.out _ _ f0 ?_
      clear HK
      refine m_done ?_
      simp only [List.drop_succ_cons, List.drop_zero]
      go_wp2_with fail
      simp only [NP]
      go_wp2_with fail
      refine bodyPost_end (results_none rfl _ _ _) rfl ?_
      have hz8 := HB8.out.size
      exact ⟨rfl, sv', HO9.out, ((Only.of_below (S := fun j => j = ob ∨ B ≤ j) (HB.out.trans (HB8.out.mono hz0))).trans HON.out (fun j _ e => e))⟩
end Go.Proofs.Ytkabfjbmofpkdaa

/- Layer 14: what stands while a ledger's texts are written. -/
namespace Go.Proofs.Ytkabfjbmofpkdaa
open Go.RowKit Go.Shelf
set_option linter.unusedVariables false
set_option linter.unusedSimpArgs false
set_option maxRecDepth 100000

theorem idx_cnt (C : Nat → Int) (j : Nat) (hj : j < 8) : ∀ V, (Instr.index 23 (.agg #[.int .i64 (C 0), .int .i64 (C 1), .int .i64 (C 2), .int .i64 (C 3), .int .i64 (C 4), .int .i64 (C 5), .int .i64 (C 6), .int .i64 (C 7)]) (.int .i64 (j : Int))).run Try.prog V = .ok (.int .i64 (C j)) V := by
  intro V
  rcases (show j = 0 ∨ j = 1 ∨ j = 2 ∨ j = 3 ∨ j = 4 ∨ j = 5 ∨ j = 6 ∨ j = 7 by omega) with rfl | rfl | rfl | rfl | rfl | rfl | rfl | rfl
  all_goals kernel_rfl
/-- The texts' box, the ledger's box and add's box. -/
structure ESt (w V : World) (L : Led) (ob : Nat) (sv : Value) (ts : List ByteArray) : Prop where
  lt : w.heap.size < ob
  out : OutB V (ob + 2) ob sv ts
  box : BoxL V w.heap.size L
  fn : V.cell? ⟨ob + 1, 0, none⟩ = some (.func (.func 45) #[] #[.pointer (some ⟨ob, 0, none⟩)])
  b : Below w.heap.size w V
theorem ESt.later {w V V' : World} {L : Led} {ob : Nat} {sv : Value} {ts : List ByteArray} (h : ESt w V L ob sv ts) (hb : Below V.heap.size V V') : ESt w V' L ob sv ts :=
  ⟨h.lt, h.out.below hb, h.box.later hb, cell_later hb h.fn, h.b.trans (hb.mono h.b.size)⟩
theorem ESt.add {w V V' : World} {L : Led} {ob : Nat} {sv sv' : Value} {ts ts' : List ByteArray} (h : ESt w V L ob sv ts) (hO : OutB V' (ob + 2) ob sv' ts') (ho : Only (fun j => j = ob ∨ ob + 2 ≤ j) V V') : ESt w V' L ob sv' ts' := by
  have h1 := h.lt
  refine ⟨h.lt, hO, fun j v hj => ho.cell (fun e => by omega) (h.box j v hj), ho.cell (fun e => by omega) h.fn, h.b.trans (ho.below (by have := h.b.size; omega) (fun j hj e => by omega))⟩
theorem padd_ints (k : Int) (ns : List Int) (h : ∀ n ∈ k :: ns, I64 n) (hl : ns.length ≤ 50) : (∀ i ∈ iI k :: ns.map iI, okI 8 i) ∧ ((iI k :: ns.map iI).map (szI 8)).sum ≤ 4096 ∧ (enc (iI k :: ns.map iI)).length ≤ 65536 ∧ (ns.map iI).length ≤ 4096 := by
  have e : iI k :: ns.map iI = (k :: ns).map iI := rfl
  have h2 := sum_le (szI 8) 1 ((k :: ns).map iI) (fun i hi => by obtain ⟨n, -, rfl⟩ := List.mem_map.1 hi; exact Nat.le_refl _)
  rw [List.length_map, List.length_cons] at h2
  have h1 := ints_len 7 (k :: ns)
  rw [List.length_cons] at h1
  have h3 : (enc ((k :: ns).map iI)).length ≤ (ns.length + 1) * 12 := h1
  rw [e]
  exact ⟨ints_ok h, by omega, by omega, by simp; omega⟩
/-- What a ledger in form is. -/
structure Led.Fine (L : Led) : Prop where
  opn : L.opn.length ≤ 512 ∧ ∀ r ∈ L.opn, goodRec r = true ∧ r.ok ∧ U32 r.val
  bats : ∀ b ∈ L.bats, I64 b.ep ∧ b.recs.length ≤ 512 ∧ ∀ r ∈ b.recs, goodRec r = true ∧ r.ok ∧ U32 r.val
  ops : L.dep = true → L.ops.length ≤ 16 ∧ ∀ o ∈ L.ops, o.ins.length ≤ 2
theorem fine_of {L : Led} (hg : L.good = true) (hok : L.Ok) (hv : ∀ r ∈ L.all, U32 r.val) : L.Fine := by
  have hgi := (good_iff L).1 hg
  have hall : ∀ r ∈ L.all, goodRec r = true := by
    unfold Led.good at hg
    simp only [Bool.and_eq_true] at hg
    exact fun r hr => List.all_eq_true.1 hg.1.2 r hr
  refine ⟨⟨hgi.1.2.1.1, fun r hr => ?_⟩, fun b hb => ⟨(hok.bats b hb).1, ?_, fun r hr => ?_⟩, fun hd => ?_⟩
  · have : r ∈ L.all := List.mem_append.2 (.inr hr)
    exact ⟨hall r this, hok.opn r hr, hv r this⟩
  · obtain ⟨i, hi, rfl⟩ := List.getElem_of_mem hb
    by_cases h5 : L.bats[i].recs.length ≤ 512
    · exact h5
    · have := no_epochs i hi (fun h => h5 h.1)
      rw [hg] at this; cases this
  · have : r ∈ L.all := List.mem_append.2 (.inl (List.mem_flatMap.2 ⟨b, hb, hr⟩))
    exact ⟨hall r this, (hok.bats b hb).2 r hr, hv r this⟩
  · have hck : checkOk L.ops = true := by
      cases h : checkOk L.ops with
      | true => rfl
      | false => have := no_graph hd h; rw [hg] at this; cases this
    unfold checkOk at hck
    simp only [Bool.and_eq_true, decide_eq_true_eq] at hck
    refine ⟨hck.1.2, fun o ho => ?_⟩
    obtain ⟨i, hi, rfl⟩ := List.getElem_of_mem ho
    have h2 := List.all_eq_true.1 hck.2 i (by simp; exact hi)
    simp only [List.getElem?_eq_getElem hi] at h2
    unfold Opr.right at h2
    simp only [Bool.and_eq_true, decide_eq_true_eq] at h2
    rw [h2.1.1.2]
    unfold wantOf
    split
    · omega
    · split <;> omega
theorem textsOf_len {L : Led} (hg : L.Fine) : ∀ t ∈ textsOf L, t.size ≤ 60000 := by
  intro t ht
  unfold textsOf at ht
  simp only [List.mem_cons, List.mem_append, List.mem_map] at ht
  rcases ht with rfl | ((ht | ⟨r, -, rfl⟩) | ⟨b, hb, rfl⟩) | ht
  · rw [encB_size, headE_eq]
    have := ints_len 7 (headN L)
    exact Nat.le_trans this (by simp [headN])
  · split at ht
    · rename_i hd
      rw [List.mem_singleton] at ht
      subst ht
      rw [encB_size]
      have := graphE_len (hg.ops hd).1 (hg.ops hd).2
      omega
    · cases ht
  · rw [encB_size, rowE_eq]
    have := ints_len 7 (rowN r)
    exact Nat.le_trans this (by simp [rowN])
  · rw [encB_size]
    obtain ⟨-, h2, h3⟩ := hg.bats b hb
    have := listE_len (k := 2) (ep := b.ep) h2 (fun r hr => key_le (h3 r hr).1)
    omega
  · have ht : t = encB (listE 3 0 L.opn) := by simpa using ht
    subst ht
    rw [encB_size]
    have := listE_len (k := 3) (ep := 0) hg.opn.1 (fun r hr => key_le (hg.opn.2 r hr).1)
    omega
end Go.Proofs.Ytkabfjbmofpkdaa

/- Layer 14: what stands while a ledger is read of its texts. -/
namespace Go.Proofs.Ytkabfjbmofpkdaa
open Go.RowKit Go.Shelf
set_option linter.unusedVariables false
set_option linter.unusedSimpArgs false
set_option maxRecDepth 100000

/-- A ledger whose rows all are the call's own. -/
structure LO (w : World) (base : Nat) (L : Led) : Prop where
  rows : w.ownsRow base 92 3 L.rv L.rows.length (flatF Row.cells L.rows)
  opn : w.ownsRow base 33 5 L.ov L.opn.length (flatF Rec.cells L.opn)
  bats : w.ownsRow base 67 2 L.bv L.bats.length (flatF Bt.cells L.bats)
  recs : ∀ b ∈ L.bats, w.ownsRow base 33 5 b.rv b.recs.length (flatF Rec.cells b.recs)
  ops : w.ownsRow base 90 7 L.gv L.ops.length (flatF Opr.cells L.ops)
  ins : ∀ o ∈ L.ops, w.ownsRow base 3 1 o.iv o.ins.length (ints o.ins)
theorem LO.zero (w : World) (base : Nat) : LO w base zeroL := ⟨World.ownsRow_nil _ _ _ _, World.ownsRow_nil _ _ _ _, World.ownsRow_nil _ _ _ _, fun b hb => (List.not_mem_nil hb).elim, World.ownsRow_nil _ _ _ _, fun o ho => (List.not_mem_nil ho).elim⟩
theorem LO.reads {w : World} {base : Nat} {L : Led} (h : LO w base L) : LedR w L :=
  ⟨Rd.of_own h.rows, Rd.of_own h.opn, ⟨Rd.of_own h.bats, fun b hb => Rd.of_own (h.recs b hb)⟩, ⟨Rd.of_own h.ops, fun o ho => Rd.of_own (h.ins o ho)⟩⟩
theorem LO.only {S : Nat → Prop} {w w' : World} {base : Nat} {L : Led} (h : LO w base L) (ho : Only S w w') (hS : ∀ j, base ≤ j → j < w.heap.size → ¬ S j) : LO w' base L :=
  have go : ∀ {e : TypeId} {sz n : Nat} {v : Value} {xs : List Value}, w.ownsRow base e sz v n xs → w'.ownsRow base e sz v n xs := fun hr => ownsRow_only hr ho (fun g hg => hS g (World.ownsRow.lt hr g hg).1 (World.ownsRow.lt hr g hg).2)
  ⟨go h.rows, go h.opn, go h.bats, fun b hb => go (h.recs b hb), go h.ops, fun o ho => go (h.ins o ho)⟩
theorem LO.below {w w' : World} {base : Nat} {L : Led} (h : LO w base L) (hb : Below w.heap.size w w') : LO w' base L :=
  h.only (Only.of_below (S := fun _ => False) hb) (fun _ _ _ h => h)
/-- The ledger's box and the result's. -/
structure LS (w wr : World) (L : Led) : Prop where
  res : wr.there w.heap.size 0 16
  box : wr.ownsRow (w.heap.size + 1) 30 16 (.slice (some ⟨w.heap.size + 1, 0, none⟩) 1 1) 1 L.cells
  own : LO wr (w.heap.size + 2) L
  b : Below w.heap.size w wr
theorem LS.lt {w wr : World} {L : Led} (h : LS w wr L) : w.heap.size + 1 < wr.heap.size := (World.ownsRow.lt h.box (w.heap.size + 1) rfl).2
theorem LS.later {w wr wr' : World} {L : Led} (h : LS w wr L) (hb : Below wr.heap.size wr wr') : LS w wr' L :=
  ⟨there_only h.res (Only.of_below (S := fun _ => False) hb) (by have := h.lt; omega) (fun h => h), ownsRow_below h.box hb (Nat.le_refl _), h.own.below hb, h.b.trans (hb.mono h.b.size)⟩
theorem LS.cell {w wr : World} {L : Led} (h : LS w wr L) (j : Nat) (v : Value) (hj : L.cells[j]? = some v) : wr.cell? ⟨w.heap.size + 1, j, none⟩ = some v := by
  have := World.ownsRow.cells h.box (g := w.heap.size + 1) rfl j v hj
  rwa [add_off, Nat.zero_add] at this
theorem LS.frz {w wr : World} {L : Led} (h : LS w wr L) (j : Nat) : wr.frozen? ⟨w.heap.size + 1, j, none⟩ = false := World.ownsRow.frozenAt h.box j
theorem LS.range {w wr : World} {L : Led} (h : LS w wr L) : wr.rangeAt (w.heap.size + 1) 0 L.cells := fun j v hj => by rw [Nat.zero_add]; exact h.cell j v hj
theorem LS.there {w wr : World} {L : Led} (h : LS w wr L) (o n : Nat) (hn : o + n ≤ 16) : wr.there (w.heap.size + 1) o n := fun j hj => by
  obtain ⟨u, hu⟩ : ∃ u, L.cells[o + j]? = some u := ⟨_, List.getElem?_eq_getElem (by show o + j < 16; omega)⟩
  exact ⟨by rw [h.cell _ _ hu]; rfl, h.frz _⟩
/-- Only the box changes. -/
theorem LS.put {w wr wr' : World} {L L' : Led} (h : LS w wr L) (ho : Only (fun j => j = w.heap.size + 1) wr wr') (hb : wr'.ownsRow (w.heap.size + 1) 30 16 (.slice (some ⟨w.heap.size + 1, 0, none⟩) 1 1) 1 L'.cells) (hL : LO wr' (w.heap.size + 2) L') : LS w wr' L' :=
  ⟨there_only h.res ho (by have := h.lt; omega) (by omega), hb, hL, h.b.trans (ho.below h.b.size (fun j hj e => by omega))⟩
theorem LS.set {w wr : World} {L L' : Led} (h : LS w wr L) (j : Nat) (v : Value) (hc : L'.cells = L.cells.set j v) (hL : LO wr (w.heap.size + 2) L') : LS w (wr.setCell ⟨w.heap.size + 1, j, none⟩ v) L' := by
  have hs := World.ownsRow.stored h.box j v
  rw [← hc] at hs
  have ho : Only (fun j => j = w.heap.size + 1) wr (wr.setCell ⟨w.heap.size + 1, j, none⟩ v) := (Only.refl _ _).setCell _ _ (.inl rfl)
  exact h.put ho hs.1 (hL.only ho (fun j h1 h2 e => by omega))
theorem LS.setC {w wr : World} {L : Led} (h : LS w wr L) (C : Nat → Int) : LS w (wr.setCells (w.heap.size + 1) 1 [.int .i64 (C 0), .int .i64 (C 1), .int .i64 (C 2), .int .i64 (C 3), .int .i64 (C 4), .int .i64 (C 5), .int .i64 (C 6), .int .i64 (C 7)]) { L with C := C } := by
  obtain ⟨xs', h1, h2, h3, h4⟩ := own_setCells [.int .i64 (C 0), .int .i64 (C 1), .int .i64 (C 2), .int .i64 (C 3), .int .i64 (C 4), .int .i64 (C 5), .int .i64 (C 6), .int .i64 (C 7)] wr L.cells 1 h.box
  have e : xs' = Led.cells { L with C := C } := by
    refine List.ext_getElem? fun j => ?_
    by_cases hj : j < 1 ∨ 9 ≤ j
    · rw [h3 j hj]
      rcases (show j = 0 ∨ j = 9 ∨ j = 10 ∨ j = 11 ∨ j = 12 ∨ j = 13 ∨ j = 14 ∨ j = 15 ∨ 16 ≤ j by omega) with rfl | rfl | rfl | rfl | rfl | rfl | rfl | rfl | hj
      all_goals first | rfl | rw [List.getElem?_eq_none (by show 16 ≤ j; exact hj), List.getElem?_eq_none (by show 16 ≤ j; exact hj)]
    · obtain ⟨i, rfl⟩ : ∃ i, j = 1 + i := ⟨j - 1, by omega⟩
      rw [h4 i (by show i < 8; omega) (by show 1 + 8 ≤ 16; omega)]
      rcases (show i = 0 ∨ i = 1 ∨ i = 2 ∨ i = 3 ∨ i = 4 ∨ i = 5 ∨ i = 6 ∨ i = 7 by omega) with rfl | rfl | rfl | rfl | rfl | rfl | rfl | rfl <;> rfl
  subst e
  have ho := onlyC wr (w.heap.size + 1) [.int .i64 (C 0), .int .i64 (C 1), .int .i64 (C 2), .int .i64 (C 3), .int .i64 (C 4), .int .i64 (C 5), .int .i64 (C 6), .int .i64 (C 7)] 1
  exact h.put ho h1 ((h.own.only ho (fun j h1 h2 e => by omega)) |> fun k => ⟨k.rows, k.opn, k.bats, k.recs, k.ops, k.ins⟩)
/-- One more row. -/
theorem LS.pushRow {w V W V' : World} {g m : Nat} {L : Led} (h : LS w V L) (r : Row) (h2 : W.ownsRow (w.heap.size + 2) 92 3 (.slice (some ⟨g, 0, none⟩) (L.rows.length + 1) m) (L.rows.length + 1) (flatF Row.cells L.rows ++ Row.cells r)) (hg : V.grownBy W L.rv.ownBlock)
    (hV : V' = W.setCell ⟨w.heap.size + 1, 0, none⟩ (.slice (some ⟨g, 0, none⟩) (L.rows.length + 1) m)) : LS w V' { L with rv := .slice (some ⟨g, 0, none⟩) (L.rows.length + 1) m, rows := L.rows ++ [r] } := by
  have ho : Only (fun j => L.rv.ownBlock = some j) V W := Only.of_grown hg
  have hlt : ∀ j, L.rv.ownBlock = some j → w.heap.size + 2 ≤ j := fun j e => (World.ownsRow.lt h.own.rows j e).1
  have hz := h.lt
  have hbox : W.ownsRow (w.heap.size + 1) 30 16 (.slice (some ⟨w.heap.size + 1, 0, none⟩) 1 1) 1 L.cells := own_otherT h.own.rows h.box (by decide) hg
  have hst := World.ownsRow.stored hbox 0 (.slice (some ⟨g, 0, none⟩) (L.rows.length + 1) m)
  rw [← hV] at hst
  have ho2 : Only (fun j => j = w.heap.size + 1) W V' := by rw [hV]; exact (Only.refl _ _).setCell _ _ (.inl rfl)
  have k2 : ∀ {e : TypeId} {sz n : Nat} {v : Value} {xs : List Value}, W.ownsRow (w.heap.size + 2) e sz v n xs → V'.ownsRow (w.heap.size + 2) e sz v n xs := fun hr => ownsRow_only hr ho2 (fun g' hg' e => by have := (World.ownsRow.lt hr g' hg').1; omega)
  refine ⟨there_only (there_only h.res ho (by omega) (fun e => by have := hlt _ e; omega)) ho2 (by have := ho.size; omega) (by omega), hst.1, ⟨?_, k2 (own_otherT h.own.rows h.own.opn (by decide) hg), k2 (own_otherT h.own.rows h.own.bats (by decide) hg), fun b hb => k2 (own_otherT h.own.rows (h.own.recs b hb) (by decide) hg), k2 (own_otherT h.own.rows h.own.ops (by decide) hg), fun o hin => k2 (own_otherT h.own.rows (h.own.ins o hin) (by decide) hg)⟩, (h.b.trans (ho.below h.b.size (fun j hj e => by have := hlt _ e; omega))).trans (ho2.below (by have := ho.size; have := h.b.size; omega) (fun j hj e => by omega))⟩
  have e1 : flatF Row.cells (L.rows ++ [r]) = flatF Row.cells L.rows ++ Row.cells r := by simp [flatF]
  show V'.ownsRow (w.heap.size + 2) 92 3 _ (L.rows ++ [r]).length (flatF Row.cells (L.rows ++ [r]))
  rw [e1, List.length_append]
  exact k2 h2
/-- One more batch. -/
theorem LS.pushBt {w V W V' : World} {g m : Nat} {L : Led} (h : LS w V L) (b : Bt) (hr : V.ownsRow (w.heap.size + 2) 33 5 b.rv b.recs.length (flatF Rec.cells b.recs)) (h2 : W.ownsRow (w.heap.size + 2) 67 2 (.slice (some ⟨g, 0, none⟩) (L.bats.length + 1) m) (L.bats.length + 1) (flatF Bt.cells L.bats ++ Bt.cells b)) (hg : V.grownBy W L.bv.ownBlock)
    (hV : V' = W.setCell ⟨w.heap.size + 1, 10, none⟩ (.slice (some ⟨g, 0, none⟩) (L.bats.length + 1) m)) : LS w V' { L with bv := .slice (some ⟨g, 0, none⟩) (L.bats.length + 1) m, bats := L.bats ++ [b] } := by
  have ho : Only (fun j => L.bv.ownBlock = some j) V W := Only.of_grown hg
  have hlt : ∀ j, L.bv.ownBlock = some j → w.heap.size + 2 ≤ j := fun j e => (World.ownsRow.lt h.own.bats j e).1
  have hz := h.lt
  have hbox : W.ownsRow (w.heap.size + 1) 30 16 (.slice (some ⟨w.heap.size + 1, 0, none⟩) 1 1) 1 L.cells := own_otherT h.own.bats h.box (by decide) hg
  have hst := World.ownsRow.stored hbox 10 (.slice (some ⟨g, 0, none⟩) (L.bats.length + 1) m)
  rw [← hV] at hst
  have ho2 : Only (fun j => j = w.heap.size + 1) W V' := by rw [hV]; exact (Only.refl _ _).setCell _ _ (.inl rfl)
  have k2 : ∀ {e : TypeId} {sz n : Nat} {v : Value} {xs : List Value}, W.ownsRow (w.heap.size + 2) e sz v n xs → V'.ownsRow (w.heap.size + 2) e sz v n xs := fun hr => ownsRow_only hr ho2 (fun g' hg' e => by have := (World.ownsRow.lt hr g' hg').1; omega)
  refine ⟨there_only (there_only h.res ho (by omega) (fun e => by have := hlt _ e; omega)) ho2 (by have := ho.size; omega) (by omega), hst.1, ⟨k2 (own_otherT h.own.bats h.own.rows (by decide) hg), k2 (own_otherT h.own.bats h.own.opn (by decide) hg), ?_, fun x hx => ?_, k2 (own_otherT h.own.bats h.own.ops (by decide) hg), fun o hin => k2 (own_otherT h.own.bats (h.own.ins o hin) (by decide) hg)⟩, (h.b.trans (ho.below h.b.size (fun j hj e => by have := hlt _ e; omega))).trans (ho2.below (by have := ho.size; have := h.b.size; omega) (fun j hj e => by omega))⟩
  · have e1 : flatF Bt.cells (L.bats ++ [b]) = flatF Bt.cells L.bats ++ Bt.cells b := by simp [flatF]
    show V'.ownsRow (w.heap.size + 2) 67 2 _ (L.bats ++ [b]).length (flatF Bt.cells (L.bats ++ [b]))
    rw [e1, List.length_append]
    exact k2 h2
  · have hx' : V.ownsRow (w.heap.size + 2) 33 5 x.rv x.recs.length (flatF Rec.cells x.recs) := by
      rcases List.mem_append.1 hx with hx | hx
      · exact h.own.recs x hx
      · rw [List.mem_singleton] at hx
        subst hx
        exact hr
    exact k2 (own_otherT h.own.bats hx' (by decide) hg)
/-- How far the texts were read. -/
structure LI (ss : List ByteArray) (k : Nat) (whole : Bool) (L : Led) : Prop where
  wh : whole = (decide (0 < ss.length) && (foldTo ss k).isSome)
  same : ∀ M, foldTo ss k = some M → SameL M L
  len : L.rows.length ≤ k ∧ L.bats.length ≤ k
theorem LI.zero (ss : List ByteArray) : LI ss 0 (decide (0 < ss.length)) zeroL := ⟨by show _ = (_ && true); rw [Bool.and_true], fun M h => by have e : zeroL = M := Option.some.inj h; subst e; exact SameL.refl _, Nat.le_refl _, Nat.le_refl _⟩
/-- A text that may not stand there. -/
theorem LI.bad {ss : List ByteArray} {k : Nat} {whole : Bool} {L : Led} {t : ByteArray} (h : LI ss k whole L) (ht : ss[k]? = some t) (hb : ∀ M, stepT M (k == 0) t = none) : ledD ss = none := by
  have hk := (List.getElem?_eq_some_iff.1 ht).1
  refine ledD_none (k := k + 1) ?_ hk
  cases hf : foldTo ss k with
  | none => exact foldTo_none hf
  | some M => rw [foldTo_succ hf ht]; exact hb M
/-- A text that was read. -/
theorem LI.next {ss : List ByteArray} {k : Nat} {whole ok : Bool} {L L' : Led} {t : ByteArray} {l : List Itc} (h : LI ss k whole L) (ht : ss[k]? = some t) (hd : decB t = some l) (ho : okD (k == 0) l = true) (hln : L'.rows.length ≤ k + 1 ∧ L'.bats.length ≤ k + 1)
    (hok : ok = false → ∀ M, actD M l = none) (hyes : ok = true → ∀ M, SameL M L → ∃ M', actD M l = some M' ∧ SameL M' L') : LI ss (k + 1) (whole && ok) L' := by
  have hst : ∀ M, stepT M (k == 0) t = actD M l := fun M => by unfold stepT; rw [hd]; exact if_pos ho
  have hk := (List.getElem?_eq_some_iff.1 ht).1
  cases hf : foldTo ss k with
  | none =>
    have h1 := foldTo_none hf
    refine ⟨?_, (fun M hM => by rw [h1] at hM; cases hM), hln⟩
    rw [h1, h.wh, hf]; simp
  | some M =>
    have h1 := foldTo_succ hf ht
    rw [hst] at h1
    cases ok with
    | false =>
      have h2 := hok rfl M
      rw [h2] at h1
      refine ⟨?_, (fun M hM => by rw [h1] at hM; cases hM), hln⟩
      rw [h1]; simp
    | true =>
      obtain ⟨M', h2, h3⟩ := hyes rfl M (h.same M hf)
      rw [h2] at h1
      refine ⟨?_, fun N hN => ?_, hln⟩
      · rw [h1, h.wh, hf]; simp
      · rw [h1] at hN
        have e : M' = N := Option.some.inj hN
        subst e; exact h3
theorem ledD_some {ss : List ByteArray} {M : Led} (h : ledD ss = some M) : foldTo ss ss.length = some M ∧ 0 < ss.length ∧ M.good = true := by
  unfold ledD at h
  split at h
  · cases h
  · split at h
    · cases h
    · rename_i N hN
      split at h
      · rename_i hg
        have e : N = M := Option.some.inj h
        subst e
        exact ⟨hN, by omega, hg⟩
      · cases h
/-- Decode of texts answers so. -/
def PDec : Prop := ∀ (sv : Value) (ss : List ByteArray) (w : World), Rd w 1 sv ss.length (strs ss) → (∀ t ∈ ss, t.size ≤ 9223372036854775807) → ss.length ≤ 10000000 → (∀ M, foldTo ss ss.length = some M → M.Small) →
  Calls Try.prog 27 #[sv] w fun e w' => ∃ L cd, e = .returned (.tuple #[.agg L.cells.toArray, .int .i64 cd]) ∧ LO w' w.heap.size L ∧ Below w.heap.size w w' ∧ ((cd = 0 ∧ ∃ M, ledD ss = some M ∧ SameL M L) ∨ (cd = 3 ∧ ledD ss = none ∧ L = zeroL))
end Go.Proofs.Ytkabfjbmofpkdaa

/- Layer 14: Encode of a ledger, walked. -/
namespace Go.Proofs.Ytkabfjbmofpkdaa
open Go.RowKit Go.Shelf
set_option linter.unusedVariables false
set_option linter.unusedSimpArgs false
set_option maxRecDepth 100000

theorem penc_bad (L : Led) (w : World) (hL : LedR w L) (hok : L.Ok) (hsm : L.Small) (hg : L.good = false) :
    Calls Try.prog 26 #[.agg L.cells.toArray] w fun e w' => e = .returned (.tuple #[.slice none 0 0, .int .i64 3]) ∧ Below w.heap.size w w' := by
  obtain ⟨X, hX⟩ : ∃ X, X = w.alloc (.cells L.cells.toArray 30) := ⟨_, rfl⟩
  have hbX : Below w.heap.size w X := by rw [hX]; exact below_alloc _ _
  have hXS : X.heap.size = w.heap.size + 1 := by rw [hX]; simp
  have HBL := Lib.hid (show BoxL X w.heap.size L by rw [hX]; exact boxL_self w L 30)
  have HRG := Lib.hid HBL.out.range
  have HL := Lib.hid (hL.below hbX (Nat.le_refl _))
  have HOK := Lib.hid hok
  have HSM := Lib.hid hsm
  have HG := Lib.hid hg
  have HBX := Lib.hid hbX
  have HX := Lib.hid hX
  clear hX hbX hL hok hsm hg
  go_enter Try.func26, Try.ntmps26
  go_upto_region 1 with fail
  rw [← HX.out]
  go_wp2_with (first | (refine wpList_load_mid rfl 30 _ rfl (w.heap.size) 0 rfl (Led.cells L) _ (by exact HRG.out) Try.underlying30 rfl (by show _ = some 16; kernel_rfl) ?_) | (refine wp_load_mid 30 _ rfl (w.heap.size) 0 rfl (Led.cells L) _ (by exact HRG.out) Try.underlying30 rfl (by show _ = some 16; kernel_rfl) ?_) | (refine list_loadk rfl rfl (b := w.heap.size) (off := 0) rfl (cs := Led.cells L) Try.underlying30 rfl (by show _ = some 16; kernel_rfl) (by exact HRG.out) ?_))
  refine (pGood_calls L X HL.out HOK.out HSM.out).mono ?_
  rintro e w2 ⟨rfl, hb2⟩
  rw [HG.out]
  have HB2 := Lib.hid (HBX.out.trans (hb2.mono (by omega)))
  clear hb2
  go_wp2_with fail
  go_ret2
  exact ⟨rfl, HB2.out⟩

theorem headN_ok {L : Led} (h : L.Ok) : ∀ n ∈ 0 :: (headN L).tail, I64 n := by
  intro n hn
  simp only [headN, List.tail_cons, List.mem_cons, List.not_mem_nil, or_false] at hn
  rcases hn with rfl | rfl | rfl | rfl | rfl | rfl | rfl | rfl | rfl | rfl | rfl | rfl | rfl
  · unfold I64; omega
  · exact h.nums.1
  · exact h.nums.2.1
  · exact h.nums.2.2
  · unfold I64; split <;> omega
  all_goals exact h.C _ (by omega)
theorem ESt.grown_nil {w V V' : World} {L : Led} {ob : Nat} {v : Value} (h : ESt w V L ob (.slice none 0 0) []) (hg : V.grownBy V' v.ownBlock) (hv : ∀ g, v.ownBlock = some g → ob + 2 ≤ g) : ESt w V' L ob (.slice none 0 0) [] := by
  have ho : Only (fun j => v.ownBlock = some j) V V' := Only.of_grown hg
  have h1 := h.lt
  have h2 := h.out.hB
  refine ⟨h.lt, ⟨ho.cell (fun e => by have := hv _ e; omega) h.out.c, (ho.frozen (by omega) (fun e => by have := hv _ e; omega)).trans h.out.f, h.out.lt, Nat.le_trans h2 ho.size, World.ownsRow_nil _ _ _ _⟩, fun j x hj => ho.cell (fun e => by have := hv _ e; omega) (h.box j x hj), ho.cell (fun e => by have := hv _ e; omega) h.fn, h.b.trans (ho.below (by have := h.b.size; omega) (fun j hj e => by have := hv _ e; omega))⟩
set_option maxHeartbeats 16000000 in
theorem penc_good (L : Led) (w : World) (hL : LedR w L) (hok : L.Ok) (hsm : L.Small) (hg : L.good = true) (hf : L.Fine) :
    Calls Try.prog 26 #[.agg L.cells.toArray] w fun e w' => ∃ sv, e = .returned (.tuple #[sv, .int .i64 0]) ∧ w'.ownsRow w.heap.size 9 1 sv (textsOf L).length (strs (textsOf L)) ∧ Below w.heap.size w w' := by
  obtain ⟨X, hX⟩ : ∃ X, X = w.alloc (.cells L.cells.toArray 30) := ⟨_, rfl⟩
  have hbX : Below w.heap.size w X := by rw [hX]; exact below_alloc _ _
  have hXS : X.heap.size = w.heap.size + 1 := by rw [hX]; simp
  have HBL := Lib.hid (show BoxL X w.heap.size L by rw [hX]; exact boxL_self w L 30)
  have HRG := Lib.hid HBL.out.range
  have HL0 := Lib.hid hL
  have HL := Lib.hid (hL.below hbX (Nat.le_refl _))
  have HOK := Lib.hid hok
  have HSM := Lib.hid hsm
  have HG := Lib.hid hg
  have HF := Lib.hid hf
  have HBX := Lib.hid hbX
  have HX := Lib.hid hX
  obtain ⟨ra, rc, hrv, hrc1, -⟩ := Rd.slice hL.rows
  obtain ⟨oa, oc, hov, -, -⟩ := Rd.slice hL.opn
  obtain ⟨ba, bc, hbv, hbc1, -⟩ := hL.bats.row.slice
  obtain ⟨ga, gc, hgv, -, -⟩ := hL.ops.row.slice
  have hrn := hsm.rows
  have hbn := hsm.bats
  have HV := Lib.hid (And.intro hrv (And.intro hov (And.intro hbv hgv)))
  have eg1 := fun args w => enter_of Try.func45 (by kernel_rfl) rfl args w
  have eg2 := fun args w => enter_of Try.func50 (by kernel_rfl) rfl args w
  clear hX hbX hL hok hsm hg hf hrv hov hbv hgv
  go_enter Try.func26, Try.ntmps26
  go_upto_region 1 with fail
  rw [← HX.out]
  go_wp2_with (first | (refine wpList_load_mid rfl 30 _ rfl (w.heap.size) 0 rfl (Led.cells L) _ (by exact HRG.out) Try.underlying30 rfl (by show _ = some 16; kernel_rfl) ?_) | (refine wp_load_mid 30 _ rfl (w.heap.size) 0 rfl (Led.cells L) _ (by exact HRG.out) Try.underlying30 rfl (by show _ = some 16; kernel_rfl) ?_) | (refine list_loadk rfl rfl (b := w.heap.size) (off := 0) rfl (cs := Led.cells L) Try.underlying30 rfl (by show _ = some 16; kernel_rfl) (by exact HRG.out) ?_))
  refine (pGood_calls L X HL.out HOK.out HSM.out).mono ?_
  rintro e w2 ⟨rfl, hb2⟩
  rw [HG.out]
  have HB2 := Lib.hid (HBX.out.trans (hb2.mono (by omega)))
  have HBL2 := Lib.hid (HBL.out.later hb2)
  have hs2 := hb2.size
  clear hb2
  go_upto_region 5 with fail
  obtain ⟨ob, hob⟩ : ∃ ob, ob = w2.heap.size := ⟨_, rfl⟩
  obtain ⟨V, hV⟩ : ∃ V, V = (w2.alloc (.cells #[.slice none 0 0] 69)).alloc (.cells #[.func (.func 45) #[] #[.pointer (some ⟨w2.heap.size, 0, none⟩)]] 102) := ⟨_, rfl⟩
  rw [← hV]
  have hst : ESt w V L ob (.slice none 0 0) [] := by
    have hb : Below w2.heap.size w2 V := by rw [hV]; exact below_box (below_alloc _ _) _
    have hz : V.heap.size = ob + 2 := by rw [hV, hob]; simp
    refine ⟨by omega, ⟨?_, ?_, by omega, by omega, World.ownsRow_nil _ _ _ _⟩, HBL2.out.later hb, ?_, HB2.out.trans (hb.mono (by omega))⟩
    · rw [hV, hob]; exact cell_later (below_alloc _ _) (box_self 0 _ rfl)
    · rw [hV, hob]; exact box_frozen (below_alloc _ _) 0
    · rw [hV, hob]
      have := box_self (w := w2.alloc (.cells #[.slice none 0 0] 69)) (cs := #[.func (.func 45) #[] #[.pointer (some ⟨w2.heap.size, 0, none⟩)]]) (e := 102) 0 _ rfl
      rwa [World.size_alloc] at this
  rw [← hob]
  clear hV hob HBL2 HB2 hs2
  cases hd : L.dep with
  | true =>
    have c13 := hst.box 13 _ rfl
    rw [hd] at c13
    go_upto_region 8 with fail
    refine region_m [(0, false), (1, false), (3, false), (4, false), (6, false), (7, false), (9, false), (2, true), (5, true), (8, true), (10, true), (11, true), (12, false)] 13 (fun V => V.cell? ⟨w.heap.size, 11, none⟩ = some (.int .i64 L.sealed) ∧ V.cell? ⟨w.heap.size, 12, none⟩ = some (.int .i64 L.decided) ∧ V.cell? ⟨w.heap.size, 15, none⟩ = some (.int .i64 L.keep)) (by kernel_rfl) (by kernel_rfl) ⟨hst.box 11 _ rfl, hst.box 12 _ rfl, hst.box 15 _ rfl⟩ ?_
    have hst := hst.later (Below.refl V.heap.size V).drew
    clear c13
    generalize V.drew = V0 at *
    iterate 7
      first
      | (refine m_take (v := ?_) rfl rfl ?_ ?_
         rotate_left
         · intro W hW
           go_simp
           with_reducible rfl
         simp only [Act.put, List.setIfInBounds_toArray, List.set_cons_zero, List.set_cons_succ])
      | (refine m_skip rfl rfl ?_
         simp only [Act.put, List.setIfInBounds_toArray, List.set_cons_zero, List.set_cons_succ])
    refine m_loud rfl (fun K hK => ?_)
    have HK := Lib.hid hK
    clear hK
    go_simp
    refine (wint_calls L.sealed _).mono ?_
    rintro e w3 ⟨rfl, hb⟩
    have hst := hst.later hb
    clear hb
    refine HK.out _ _ ⟨hst.box 11 _ rfl, hst.box 12 _ rfl, hst.box 15 _ rfl⟩ ?_
    clear HK
    refine m_loud rfl (fun K hK => ?_)
    have HK := Lib.hid hK
    clear hK
    go_simp
    refine (wint_calls L.decided _).mono ?_
    rintro e w4 ⟨rfl, hb⟩
    have hst := hst.later hb
    clear hb
    refine HK.out _ _ ⟨hst.box 11 _ rfl, hst.box 12 _ rfl, hst.box 15 _ rfl⟩ ?_
    clear HK
    refine m_loud rfl (fun K hK => ?_)
    have HK := Lib.hid hK
    clear hK
    go_simp
    refine (wint_calls L.keep _).mono ?_
    rintro e w5 ⟨rfl, hb⟩
    have hst := hst.later hb
    clear hb
    refine HK.out _ _ ⟨hst.box 11 _ rfl, hst.box 12 _ rfl, hst.box 15 _ rfl⟩ ?_
    clear HK
    refine m_loud rfl (fun K hK => ?_)
    have HK := Lib.hid hK
    clear hK
    go_simp
    refine (wint_calls 1 _).mono ?_
    rintro e w6 ⟨rfl, hb⟩
    have hst := hst.later hb
    clear hb
    refine HK.out _ _ ⟨hst.box 11 _ rfl, hst.box 12 _ rfl, hst.box 15 _ rfl⟩ ?_
    clear HK
    have hlt := hst.lt
    have hoz := hst.out.hB
    have ho := World.ownsRow_lit (base := ob + 2) (size := 4) (e := 100) w6 #[.int .i64 0, .int .i64 L.sealed, .string nos, .slice none 0 0, .int .i64 0, .int .i64 L.decided, .string nos, .slice none 0 0, .int .i64 0, .int .i64 L.keep, .string nos, .slice none 0 0, .int .i64 0, .int .i64 1, .string nos, .slice none 0 0] 4 hoz (by unfold maxLen; omega) (by simp)
    have hst := hst.later (below_alloc w6 (.cells #[.int .i64 0, .int .i64 L.sealed, .string nos, .slice none 0 0, .int .i64 0, .int .i64 L.decided, .string nos, .slice none 0 0, .int .i64 0, .int .i64 L.keep, .string nos, .slice none 0 0, .int .i64 0, .int .i64 1, .string nos, .slice none 0 0] 100))
    refine m_loud rfl (fun K hK => ?_)
    have HK := Lib.hid hK
    clear hK
    go_simp
    refine HK.out _ _ ⟨hst.box 11 _ rfl, hst.box 12 _ rfl, hst.box 15 _ rfl⟩ ?_
    clear HK
    obtain ⟨W7, hW7⟩ : ∃ W7, W7 = w6.alloc (.cells #[.int .i64 0, .int .i64 L.sealed, .string nos, .slice none 0 0, .int .i64 0, .int .i64 L.decided, .string nos, .slice none 0 0, .int .i64 0, .int .i64 L.keep, .string nos, .slice none 0 0, .int .i64 0, .int .i64 1, .string nos, .slice none 0 0] 100) := ⟨_, rfl⟩
    rw [← hW7] at hst ho ⊢
    clear hW7
    have HR7 := Lib.hid (show IRow W7 (ob + 2) 7 (.slice (some ⟨w6.heap.size, 0, none⟩) 4 4) [⟨iI L.sealed, .slice none 0 0⟩, ⟨iI L.decided, .slice none 0 0⟩, ⟨iI L.keep, .slice none 0 0⟩, ⟨iI 1, .slice none 0 0⟩] from ⟨ho, fun x hx => by
      simp only [List.mem_cons, List.not_mem_nil, or_false] at hx
      rcases hx with rfl | rfl | rfl | rfl <;> exact ItR.nil _ _ _⟩)
    have HST := Lib.hid hst
    have c1 := hst.box 1 _ rfl
    have c2 := hst.box 2 _ rfl
    have c3 := hst.box 3 _ rfl
    have c4 := hst.box 4 _ rfl
    have c5 := hst.box 5 _ rfl
    have c6 := hst.box 6 _ rfl
    have c7 := hst.box 7 _ rfl
    have c8 := hst.box 8 _ rfl
    clear ho hst
    iterate 1
      first
      | (refine m_take (v := ?_) rfl rfl ?_ ?_
         rotate_left
         · intro W hW
           go_simp
           with_reducible rfl
         simp only [Act.put, List.setIfInBounds_toArray, List.set_cons_zero, List.set_cons_succ])
      | (refine m_skip rfl rfl ?_
         simp only [Act.put, List.setIfInBounds_toArray, List.set_cons_zero, List.set_cons_succ])
    refine m_done ?_
    simp only [List.drop_succ_cons, List.drop_zero]
    go_wp2_with fail
    simp only [NP]
    go_wp2_with fail
    go_loopw [7, 9, 37] (fun lv _ jv wr => ∃ (j : Nat) (xs : List Iv), j ≤ 8 ∧ jv = .int .i64 j ∧ xs.map Iv.c = [iI L.sealed, iI L.decided, iI L.keep, iI 1] ++ (List.range j).map (fun i => iI (L.C i)) ∧ IRow wr (ob + 2) 7 lv xs ∧ ESt w wr L ob (.slice none 0 0) []) (fun _ _ jv _ => 8 - (intOf jv).toNat)
    case atStart => exact ⟨0, _, by omega, rfl, rfl, HR7.out, HST.out⟩
    case round =>
      obtain ⟨j, xs, hj, rfl, hxs, hrow, hst⟩ := hrel
      have HROW := Lib.hid hrow
      have HXS := Lib.hid hxs
      have HST := Lib.hid hst
      have hxl : xs.length = j + 4 := by have := congrArg List.length hxs; simp at this; omega
      have hx12 : xs.length ≤ 12 := by omega
      obtain ⟨la, lc, rfl⟩ := own_slice hrow.own
      clear hrow hxs hxl
      by_cases hj8 : j < 8
      · have hix := idx_cnt L.C j hj8
        clear hst c1 c2 c3 c4 c5 c6 c7 c8
        go_wp2_with fail
        refine (wint_calls (L.C j) _).mono ?_
        rintro e w8 ⟨rfl, hb⟩
        have hal := below_alloc w8 (.cells #[.int .i64 0, .int .i64 (L.C j), .string nos, .slice none 0 0] 100)
        have HR8 := Lib.hid ((HROW.out.below hb).below hal)
        have HS8 := Lib.hid ((HST.out.later hb).later hal)
        have HLIT := Lib.hid (Rd.lit (w := w8) (cs := #[.int .i64 0, .int .i64 (L.C j), .string nos, .slice none 0 0]) (e := 100) (n := 1) (sz := 4) rfl (by omega))
        have hoz8 := HS8.out.out.hB
        clear hb hal
        go_upto_region 13 with (at_builtin; go_loud (refine app_keep tyItems HR8.out.own HLIT.out (by simp [Value.oneCell']) (by omega) (by omega) (by omega) hoz8 rfl rfl rfl rfl ?_; intro g gcap w9 h2 h3 h4 h5; have H2 := Lib.hid h2; have H4 := Lib.hid h4; have H5 := Lib.hid h5; clear h2 h3 h4 h5))
        have HR9 := Lib.hid (HR8.out.keep ⟨iI (L.C j), .slice none 0 0⟩ (ItR.nil _ _ _) H2.out H4.out H5.out)
        have HS9 := Lib.hid (HS8.out.grown_nil H4.out (fun g e => (World.ownsRow.lt HR8.out.own g e).1))
        clear H2 H4 H5
        go_wp2_with fail
        go_roundw
        case rel => exact ⟨j + 1, _, by omega, by go_num, by rw [List.map_append, HXS.out, List.range_succ, List.map_append, ← List.append_assoc]; rfl, HR9.out, HS9.out⟩
        case measure => simp [intOf]; omega
      · obtain rfl : j = 8 := by omega
        have hee : xs.map Iv.c = (headN L).tail.map iI := by
          rw [HXS.out]
          show _ = [iI L.sealed, iI L.decided, iI L.keep, iI (if L.dep then 1 else 0), iI (L.C 0), iI (L.C 1), iI (L.C 2), iI (L.C 3), iI (L.C 4), iI (L.C 5), iI (L.C 6), iI (L.C 7)]
          rw [hd]
          rfl
        have hits := HROW.out.its.mono (Q := fun j => j < wr.heap.size) (fun j hj => hj.2)
        rw [hee] at hits
        have HITS := Lib.hid hits
        have f0 := HST.out.fn
        have hpi := padd_ints 0 (headN L).tail (headN_ok HOK.out) (by simp [headN])
        have HPI := Lib.hid hpi
        clear hee hits hst hpi c1 c2 c3 c4 c5 c6 c7 c8 HROW HXS HR7
        go_wp2_with fail
        refine (padd_calls 0 _ ((headN L).tail.map iI) (ob + 2) ob (.slice none 0 0) [] wr HITS.out HPI.out.1 HPI.out.2.1 HPI.out.2.2.1 HPI.out.2.2.2 HST.out.out (by simp)).mono ?_
        rintro e w10 ⟨rfl, sv, hO, hon⟩
        have hst : ESt w w10 L ob sv [encB (headE L)] := HST.out.add hO (HST.out.out.weak hon)
        clear hO hon f0 HPI HITS HST
        have c13 := hst.box 13 _ rfl
        have c14 := hst.box 14 _ rfl
        rw [hd] at c13
        rw [HV.out.2.2.2] at c14
        go_wp2_with fail
        refine (encDep_calls (.slice ga L.ops.length gc) L.ops w10 (by have := (HL0.out.below hst.b (Nat.le_refl _)).ops; rwa [HV.out.2.2.2] at this) HOK.out.ops (HF.out.ops hd).1 (HF.out.ops hd).2).mono ?_
        rintro e w11 ⟨rfl, hb⟩
        have hst := hst.later hb
        have HST := Lib.hid hst
        have f0 := hst.fn
        generalize hTX : encB (depE L.ops) = tg at *
        have HTX := Lib.hid hTX
        clear hb c13 c14 hst hTX
        go_upto_region 17 with fail
        refine region_m [(0, false), (1, false), (2, true), (3, true), (4, true)] 5 (fun V => V.cell? ⟨ob + 1, 0, none⟩ = some (.func (.func 45) #[] #[.pointer (some ⟨ob, 0, none⟩)])) (by kernel_rfl) (by kernel_rfl) f0 ?_
        have hst := HST.out.later (Below.refl w11.heap.size w11).drew
        generalize w11.drew = V11 at *
        iterate 2
          first
          | (refine m_take (v := ?_) rfl rfl ?_ ?_
             rotate_left
             · intro W hW
               go_simp
               with_reducible rfl
             simp only [Act.put, List.setIfInBounds_toArray, List.set_cons_zero, List.set_cons_succ])
          | (refine m_skip rfl rfl ?_
             simp only [Act.put, List.setIfInBounds_toArray, List.set_cons_zero, List.set_cons_succ])
        refine m_loud rfl (fun K hK => ?_)
        have HK := Lib.hid hK
        clear hK
        go_simp
        refine (wtext_calls tg _).mono ?_
        rintro e w12 ⟨rfl, hb⟩
        have hst := hst.later hb
        clear hb
        refine HK.out _ _ hst.fn ?_
        clear HK
        have hst := hst.later (below_alloc w12 (.cells #[.int .i64 1, .int .i64 0, .string tg, .slice none 0 0] 100))
        have hlit := its_lit (P := fun j => j < w12.heap.size) w12 7 [⟨iT tg, .slice none 0 0⟩] (fun j hj => hj) (fun x hx => by
          rw [List.mem_singleton] at hx
          subst hx
          exact ItR.nil _ _ _) (by simp)
        have HLS := Lib.hid (show Its (w12.alloc (.cells #[.int .i64 1, .int .i64 0, .string tg, .slice none 0 0] 100)) 8 (.slice (some ⟨w12.heap.size, 0, none⟩) 1 1) [iT tg] from hlit.mono (fun j hj => by rw [World.size_alloc]; omega))
        clear hlit
        refine m_loud rfl (fun K hK => ?_)
        have HK := Lib.hid hK
        clear hK
        go_simp
        refine HK.out _ _ hst.fn ?_
        clear HK
        generalize (w12.alloc (.cells #[.int .i64 1, .int .i64 0, .string tg, .slice none 0 0] 100)) = W13 at *
        refine m_loud rfl (fun K hK => ?_)
        have HK := Lib.hid hK
        clear hK
        go_simp
        refine (padd_calls 4 _ [iT tg] (ob + 2) ob sv [encB (headE L)] W13 HLS.out (by rw [← HTX.out]; exact graphE_ok (HF.out.ops hd).1 (HF.out.ops hd).2) (by show 1 + (1 + 0) ≤ 4096; omega) (by rw [← HTX.out]; have := graphE_len (HF.out.ops hd).1 (HF.out.ops hd).2; exact Nat.le_trans this (by omega)) (by simp) hst.out (by simp)).mono ?_
        rintro e w14 ⟨rfl, sv, hO, hon⟩
        have hst : ESt w w14 L ob sv [encB (headE L), encB (graphE L.ops)] := by
          have := hst.add hO (hst.out.weak hon)
          rw [← HTX.out] at this
          exact this
        clear hO hon
        refine HK.out _ _ hst.fn ?_
        clear HK
        refine m_done ?_
        simp only [List.drop_succ_cons, List.drop_zero]
        have HPRE := Lib.hid (show textsOf L = [encB (headE L), encB (graphE L.ops)] ++ (L.rows.map fun r => encB (rowE r)) ++ (L.bats.map fun b => encB (listE 2 b.ep b.recs)) ++ [encB (listE 3 0 L.opn)] from by
          unfold textsOf
          rw [if_pos hd]
          rfl)
        generalize hPL : [encB (headE L), encB (graphE L.ops)] = PRE at *
        have hpl : PRE.length ≤ 2 := by rw [← hPL]; simp
        clear hPL HTX HLS f0 HST
        go_wp2_with fail
        simp only [NP]
        have c0 := hst.box 0 _ rfl
        rw [HV.out.1] at c0
        have HST := Lib.hid hst
        clear hst
        go_wp2_with fail
        go_loopw [13, 66] (fun _ iv wr => ∃ (j : Nat) (sv' : Value), j ≤ L.rows.length ∧ iv = .int .i64 j ∧ ESt w wr L ob sv' (PRE ++ (L.rows.take j).map (fun r => encB (rowE r)))) (fun _ iv _ => L.rows.length - (intOf iv).toNat)
        case atStart => exact ⟨0, sv, by omega, rfl, by simpa using HST.out⟩
        case round =>
          clear HST c0
          obtain ⟨j, sv', hj, rfl, hst⟩ := hrel
          have HST := Lib.hid hst
          by_cases hjl : j < L.rows.length
          · obtain ⟨rb, ro, rfl, d0, d1, d2⟩ := row_at (by have := (HL0.out.below hst.b (Nat.le_refl _)).rows; rwa [HV.out.1] at this) j hjl
            have HRK := Lib.hid (HOK.out.rows L.rows[j] (List.getElem_mem _))
            have HTK := Lib.hid (List.take_succ_eq_append_getElem hjl)
            generalize L.rows[j] = R at *
            obtain ⟨rp, rq, rl⟩ := R
            simp only at d0 d1 d2
            clear hst
            go_upto_region 21 with fail
            obtain ⟨W1, hW1⟩ : ∃ W1, W1 = wr.alloc (.cells #[.int .i64 rp, .int .i64 rq, .int .i64 rl] 92) := ⟨_, rfl⟩
            have hal : Below wr.heap.size wr W1 := by rw [hW1]; exact below_alloc _ _
            have k0 : W1.cell? ⟨wr.heap.size, 0, none⟩ = some (.int .i64 rp) := by rw [hW1]; exact box_self 0 _ rfl
            have k1 : W1.cell? ⟨wr.heap.size, 1, none⟩ = some (.int .i64 rq) := by rw [hW1]; exact box_self 1 _ rfl
            have k2 : W1.cell? ⟨wr.heap.size, 2, none⟩ = some (.int .i64 rl) := by rw [hW1]; exact box_self 2 _ rfl
            have hst := HST.out.later hal
            have hlt := hst.lt
            have hoz := HST.out.out.hB
            have HNB := Lib.hid (show ∀ g, sv'.ownBlock = some g → g < wr.heap.size from fun g e => (World.ownsRow.lt HST.out.out.row g e).2)
            rw [← hW1]
            clear hW1 d0 d1 d2 hal
            refine region_m [(0, false), (1, false), (2, false), (4, false), (5, false), (7, false), (8, false), (3, true), (6, true), (9, true), (10, true), (11, true)] 12 (fun V => V.cell? ⟨ob + 1, 0, none⟩ = some (.func (.func 45) #[] #[.pointer (some ⟨ob, 0, none⟩)]) ∧ V.cell? ⟨wr.heap.size, 0, none⟩ = some (.int .i64 rp) ∧ V.cell? ⟨wr.heap.size, 1, none⟩ = some (.int .i64 rq) ∧ V.cell? ⟨wr.heap.size, 2, none⟩ = some (.int .i64 rl)) (by kernel_rfl) (by kernel_rfl) ⟨hst.fn, k0, k1, k2⟩ ?_
            have hdr := (Below.refl W1.heap.size W1).drew
            have hst := hst.later hdr
            have k0 := cell_later hdr k0
            have k1 := cell_later hdr k1
            have k2 := cell_later hdr k2
            have hsz := hdr.size
            clear hdr
            generalize W1.drew = V1 at *
            iterate 7
              first
              | (refine m_take (v := ?_) rfl rfl ?_ ?_
                 rotate_left
                 · intro W hW
                   go_simp
                   with_reducible rfl
                 simp only [Act.put, List.setIfInBounds_toArray, List.set_cons_zero, List.set_cons_succ])
              | (refine m_skip rfl rfl ?_
                 simp only [Act.put, List.setIfInBounds_toArray, List.set_cons_zero, List.set_cons_succ])
            refine m_loud rfl (fun K hK => ?_)
            have HK := Lib.hid hK
            clear hK
            go_simp
            refine (wint_calls rp _).mono ?_
            rintro e w2 ⟨rfl, hb⟩
            have hst := hst.later hb
            have k0 := cell_later hb k0
            have k1 := cell_later hb k1
            have k2 := cell_later hb k2
            have hsz := Nat.le_trans hsz hb.size
            clear hb
            refine HK.out _ _ ⟨hst.fn, k0, k1, k2⟩ ?_
            clear HK
            refine m_loud rfl (fun K hK => ?_)
            have HK := Lib.hid hK
            clear hK
            go_simp
            refine (wint_calls rq _).mono ?_
            rintro e w3 ⟨rfl, hb⟩
            have hst := hst.later hb
            have k0 := cell_later hb k0
            have k1 := cell_later hb k1
            have k2 := cell_later hb k2
            have hsz := Nat.le_trans hsz hb.size
            clear hb
            refine HK.out _ _ ⟨hst.fn, k0, k1, k2⟩ ?_
            clear HK
            refine m_loud rfl (fun K hK => ?_)
            have HK := Lib.hid hK
            clear hK
            go_simp
            refine (wint_calls rl _).mono ?_
            rintro e w4 ⟨rfl, hb⟩
            have hst := hst.later hb
            have k0 := cell_later hb k0
            have k1 := cell_later hb k1
            have k2 := cell_later hb k2
            have hsz := Nat.le_trans hsz hb.size
            clear hb
            refine HK.out _ _ ⟨hst.fn, k0, k1, k2⟩ ?_
            clear HK
            have hal := below_alloc w4 (.cells #[.int .i64 0, .int .i64 rp, .string nos, .slice none 0 0, .int .i64 0, .int .i64 rq, .string nos, .slice none 0 0, .int .i64 0, .int .i64 rl, .string nos, .slice none 0 0] 100)
            have hst := hst.later hal
            have k0 := cell_later hal k0
            have k1 := cell_later hal k1
            have k2 := cell_later hal k2
            have hlit := its_lit (P := fun j => j < w4.heap.size) w4 7 [⟨iI rp, .slice none 0 0⟩, ⟨iI rq, .slice none 0 0⟩, ⟨iI rl, .slice none 0 0⟩] (fun j hj => hj) (fun x hx => by
              simp only [List.mem_cons, List.not_mem_nil, or_false] at hx
              rcases hx with rfl | rfl | rfl <;> exact ItR.nil _ _ _) (by simp)
            have HLS := Lib.hid (show Its (w4.alloc (.cells #[.int .i64 0, .int .i64 rp, .string nos, .slice none 0 0, .int .i64 0, .int .i64 rq, .string nos, .slice none 0 0, .int .i64 0, .int .i64 rl, .string nos, .slice none 0 0] 100)) 8 (.slice (some ⟨w4.heap.size, 0, none⟩) 3 3) [iI rp, iI rq, iI rl] from hlit.mono (fun j hj => by rw [World.size_alloc]; omega))
            clear hlit hal
            refine m_loud rfl (fun K hK => ?_)
            have HK := Lib.hid hK
            clear hK
            go_simp
            refine HK.out _ _ ⟨hst.fn, k0, k1, k2⟩ ?_
            clear HK
            generalize (w4.alloc (.cells #[.int .i64 0, .int .i64 rp, .string nos, .slice none 0 0, .int .i64 0, .int .i64 rq, .string nos, .slice none 0 0, .int .i64 0, .int .i64 rl, .string nos, .slice none 0 0] 100)) = W5 at *
            have hpi := padd_ints 1 [rp, rq, rl] (fun n hn => by
              simp only [List.mem_cons, List.not_mem_nil, or_false] at hn
              rcases hn with rfl | rfl | rfl | rfl
              · unfold I64; omega
              · exact HRK.out.1
              · exact HRK.out.2.1
              · exact HRK.out.2.2) (by simp)
            have HPI := Lib.hid hpi
            clear hpi
            refine m_loud rfl (fun K hK => ?_)
            have HK := Lib.hid hK
            clear hK
            go_simp
            refine (padd_calls 1 _ [iI rp, iI rq, iI rl] (ob + 2) ob sv' _ W5 HLS.out HPI.out.1 HPI.out.2.1 HPI.out.2.2.1 HPI.out.2.2.2 hst.out (by simp; omega)).mono ?_
            rintro e w6 ⟨rfl, sv6, hO, hon⟩
            have hne : ¬ (wr.heap.size = ob ∨ sv'.ownBlock = some wr.heap.size) := fun e => by
              rcases e with e | e
              · omega
              · have := HNB.out _ e; omega
            have k0 := hon.cell (b := wr.heap.size) hne k0
            have k1 := hon.cell (b := wr.heap.size) hne k1
            have k2 := hon.cell (b := wr.heap.size) hne k2
            have hst := hst.add hO (hst.out.weak hon)
            have HS6 := Lib.hid hst
            clear hO hon hne
            refine HK.out _ _ ⟨hst.fn, k0, k1, k2⟩ ?_
            clear HK
            clear k0 k1 k2 hst
            refine m_done ?_
            simp only [List.drop_succ_cons, List.drop_zero]
            go_wp2_with fail
            simp only [NP]
            go_wp2_with fail
            go_roundw
            case rel => exact ⟨j + 1, sv6, by omega, by go_num, by rw [HTK.out, List.map_append, ← List.append_assoc]; exact HS6.out⟩
            case measure => simp [intOf]; omega
          · obtain rfl : j = L.rows.length := by omega
            rw [List.take_length] at HST
            have hpr : (PRE ++ L.rows.map (fun r => encB (rowE r))).length ≤ 1200000 := by simp; omega
            generalize hPR : PRE ++ L.rows.map (fun r => encB (rowE r)) = PR at *
            have c10 := HST.out.box 10 _ rfl
            rw [HV.out.2.2.1] at c10
            clear hst hPR
            go_wp2_with fail
            go_loopw [16, 87] (fun _ iv wr => ∃ (j : Nat) (sv' : Value), j ≤ L.bats.length ∧ iv = .int .i64 j ∧ ESt w wr L ob sv' (PR ++ (L.bats.take j).map (fun b => encB (listE 2 b.ep b.recs)))) (fun _ iv _ => L.bats.length - (intOf iv).toNat)
            case atStart => exact ⟨0, sv', by omega, rfl, by simpa using HST.out⟩
            case round =>
              clear HST c10
              obtain ⟨j, sv', hj, rfl, hst⟩ := hrel
              have HST := Lib.hid hst
              have hlt := hst.lt
              by_cases hjl : j < L.bats.length
              · have hbr := (HL0.out.below hst.b (Nat.le_refl _)).bats
                rw [HV.out.2.2.1] at hbr
                obtain ⟨bb, bo, rfl, d0, d1⟩ := bt_at hbr j hjl
                have hrr := hbr.recs L.bats[j] (List.getElem_mem _)
                have HRR := Lib.hid hrr
                have HFB := Lib.hid (HF.out.bats L.bats[j] (List.getElem_mem _))
                have HTK := Lib.hid (List.take_succ_eq_append_getElem hjl)
                generalize L.bats[j] = R at *
                obtain ⟨ep, brv, recs⟩ := R
                simp only at d0 d1 hrr HRR HFB
                obtain ⟨xa, xc, rfl, -, -⟩ := Rd.slice hrr
                have hst1 := hst.later (below_alloc wr (.cells #[.int .i64 ep, .slice xa recs.length xc] 67))
                have HS1 := Lib.hid hst1
                have HR1 := Lib.hid (Rd.below HRR.out (below_alloc wr (.cells #[.int .i64 ep, .slice xa recs.length xc] 67)) (Nat.le_refl _))
                clear hst hbr hrr hst1
                go_wp2_with fail
                refine (plist_calls 2 ep _ recs (ob + 2) ob (ob + 1) sv' _ _ HR1.out (by unfold I64; omega) HFB.out.1 HFB.out.2.1 HFB.out.2.2 HS1.out.out (by simp; omega) (by omega) HS1.out.fn eg1).mono ?_
                rintro e w6 ⟨rfl, sv6, hO, hon⟩
                have HS6 := Lib.hid (HS1.out.add hO hon)
                clear hO hon
                go_wp2_with fail
                go_roundw
                case rel => exact ⟨j + 1, sv6, by omega, by go_num, by rw [HTK.out, List.map_append, ← List.append_assoc]; exact HS6.out⟩
                case measure => simp [intOf]; omega
              · obtain rfl : j = L.bats.length := by omega
                rw [List.take_length] at HST
                have c9 := HST.out.box 9 _ rfl
                rw [HV.out.2.1] at c9
                have hro := (HL0.out.below HST.out.b (Nat.le_refl _)).opn
                rw [HV.out.2.1] at hro
                have HRO := Lib.hid hro
                clear hst hro
                go_wp2_with fail
                refine (plist_calls 3 0 _ L.opn (ob + 2) ob (ob + 1) sv' _ wr HRO.out (by unfold I64; omega) (by unfold I64; omega) HF.out.opn.1 HF.out.opn.2 HST.out.out (by simp; omega) (by omega) HST.out.fn eg1).mono ?_
                rintro e w7 ⟨rfl, sv7, hO, hon⟩
                have HS7 := Lib.hid (HST.out.add hO hon)
                have c := hO.c
                obtain ⟨ya, yc, rfl⟩ := own_slice hO.row
                clear hO hon c9
                go_wp2_with fail
                go_ret2
                refine ⟨_, rfl, ?_, HS7.out.b⟩
                rw [HPRE.out]
                have hrw := ownsRow_mono HS7.out.out.row (show w.heap.size ≤ ob + 2 by omega)
                have hlen : (PR ++ L.bats.map (fun b => encB (listE 2 b.ep b.recs)) ++ [encB (listE 3 0 L.opn)]).length = PR.length + (L.bats.length + 1) := by simp
                rw [hlen] at hrw ⊢
                exact hrw
  | false =>
    have c13 := hst.box 13 _ rfl
    rw [hd] at c13
    go_upto_region 8 with fail
    refine region_m [(0, false), (1, false), (3, false), (4, false), (6, false), (7, false), (9, false), (2, true), (5, true), (8, true), (10, true), (11, true), (12, false)] 13 (fun V => V.cell? ⟨w.heap.size, 11, none⟩ = some (.int .i64 L.sealed) ∧ V.cell? ⟨w.heap.size, 12, none⟩ = some (.int .i64 L.decided) ∧ V.cell? ⟨w.heap.size, 15, none⟩ = some (.int .i64 L.keep)) (by kernel_rfl) (by kernel_rfl) ⟨hst.box 11 _ rfl, hst.box 12 _ rfl, hst.box 15 _ rfl⟩ ?_
    have hst := hst.later (Below.refl V.heap.size V).drew
    clear c13
    generalize V.drew = V0 at *
    iterate 7
      first
      | (refine m_take (v := ?_) rfl rfl ?_ ?_
         rotate_left
         · intro W hW
           go_simp
           with_reducible rfl
         simp only [Act.put, List.setIfInBounds_toArray, List.set_cons_zero, List.set_cons_succ])
      | (refine m_skip rfl rfl ?_
         simp only [Act.put, List.setIfInBounds_toArray, List.set_cons_zero, List.set_cons_succ])
    refine m_loud rfl (fun K hK => ?_)
    have HK := Lib.hid hK
    clear hK
    go_simp
    refine (wint_calls L.sealed _).mono ?_
    rintro e w3 ⟨rfl, hb⟩
    have hst := hst.later hb
    clear hb
    refine HK.out _ _ ⟨hst.box 11 _ rfl, hst.box 12 _ rfl, hst.box 15 _ rfl⟩ ?_
    clear HK
    refine m_loud rfl (fun K hK => ?_)
    have HK := Lib.hid hK
    clear hK
    go_simp
    refine (wint_calls L.decided _).mono ?_
    rintro e w4 ⟨rfl, hb⟩
    have hst := hst.later hb
    clear hb
    refine HK.out _ _ ⟨hst.box 11 _ rfl, hst.box 12 _ rfl, hst.box 15 _ rfl⟩ ?_
    clear HK
    refine m_loud rfl (fun K hK => ?_)
    have HK := Lib.hid hK
    clear hK
    go_simp
    refine (wint_calls L.keep _).mono ?_
    rintro e w5 ⟨rfl, hb⟩
    have hst := hst.later hb
    clear hb
    refine HK.out _ _ ⟨hst.box 11 _ rfl, hst.box 12 _ rfl, hst.box 15 _ rfl⟩ ?_
    clear HK
    refine m_loud rfl (fun K hK => ?_)
    have HK := Lib.hid hK
    clear hK
    go_simp
    refine (wint_calls 0 _).mono ?_
    rintro e w6 ⟨rfl, hb⟩
    have hst := hst.later hb
    clear hb
    refine HK.out _ _ ⟨hst.box 11 _ rfl, hst.box 12 _ rfl, hst.box 15 _ rfl⟩ ?_
    clear HK
    have hlt := hst.lt
    have hoz := hst.out.hB
    have ho := World.ownsRow_lit (base := ob + 2) (size := 4) (e := 100) w6 #[.int .i64 0, .int .i64 L.sealed, .string nos, .slice none 0 0, .int .i64 0, .int .i64 L.decided, .string nos, .slice none 0 0, .int .i64 0, .int .i64 L.keep, .string nos, .slice none 0 0, .int .i64 0, .int .i64 0, .string nos, .slice none 0 0] 4 hoz (by unfold maxLen; omega) (by simp)
    have hst := hst.later (below_alloc w6 (.cells #[.int .i64 0, .int .i64 L.sealed, .string nos, .slice none 0 0, .int .i64 0, .int .i64 L.decided, .string nos, .slice none 0 0, .int .i64 0, .int .i64 L.keep, .string nos, .slice none 0 0, .int .i64 0, .int .i64 0, .string nos, .slice none 0 0] 100))
    refine m_loud rfl (fun K hK => ?_)
    have HK := Lib.hid hK
    clear hK
    go_simp
    refine HK.out _ _ ⟨hst.box 11 _ rfl, hst.box 12 _ rfl, hst.box 15 _ rfl⟩ ?_
    clear HK
    obtain ⟨W7, hW7⟩ : ∃ W7, W7 = w6.alloc (.cells #[.int .i64 0, .int .i64 L.sealed, .string nos, .slice none 0 0, .int .i64 0, .int .i64 L.decided, .string nos, .slice none 0 0, .int .i64 0, .int .i64 L.keep, .string nos, .slice none 0 0, .int .i64 0, .int .i64 0, .string nos, .slice none 0 0] 100) := ⟨_, rfl⟩
    rw [← hW7] at hst ho ⊢
    clear hW7
    have HR7 := Lib.hid (show IRow W7 (ob + 2) 7 (.slice (some ⟨w6.heap.size, 0, none⟩) 4 4) [⟨iI L.sealed, .slice none 0 0⟩, ⟨iI L.decided, .slice none 0 0⟩, ⟨iI L.keep, .slice none 0 0⟩, ⟨iI 0, .slice none 0 0⟩] from ⟨ho, fun x hx => by
      simp only [List.mem_cons, List.not_mem_nil, or_false] at hx
      rcases hx with rfl | rfl | rfl | rfl <;> exact ItR.nil _ _ _⟩)
    have HST := Lib.hid hst
    have c1 := hst.box 1 _ rfl
    have c2 := hst.box 2 _ rfl
    have c3 := hst.box 3 _ rfl
    have c4 := hst.box 4 _ rfl
    have c5 := hst.box 5 _ rfl
    have c6 := hst.box 6 _ rfl
    have c7 := hst.box 7 _ rfl
    have c8 := hst.box 8 _ rfl
    clear ho hst
    iterate 1
      first
      | (refine m_take (v := ?_) rfl rfl ?_ ?_
         rotate_left
         · intro W hW
           go_simp
           with_reducible rfl
         simp only [Act.put, List.setIfInBounds_toArray, List.set_cons_zero, List.set_cons_succ])
      | (refine m_skip rfl rfl ?_
         simp only [Act.put, List.setIfInBounds_toArray, List.set_cons_zero, List.set_cons_succ])
    refine m_done ?_
    simp only [List.drop_succ_cons, List.drop_zero]
    go_wp2_with fail
    simp only [NP]
    go_wp2_with fail
    go_loopw [7, 9, 37] (fun lv _ jv wr => ∃ (j : Nat) (xs : List Iv), j ≤ 8 ∧ jv = .int .i64 j ∧ xs.map Iv.c = [iI L.sealed, iI L.decided, iI L.keep, iI 0] ++ (List.range j).map (fun i => iI (L.C i)) ∧ IRow wr (ob + 2) 7 lv xs ∧ ESt w wr L ob (.slice none 0 0) []) (fun _ _ jv _ => 8 - (intOf jv).toNat)
    case atStart => exact ⟨0, _, by omega, rfl, rfl, HR7.out, HST.out⟩
    case round =>
      obtain ⟨j, xs, hj, rfl, hxs, hrow, hst⟩ := hrel
      have HROW := Lib.hid hrow
      have HXS := Lib.hid hxs
      have HST := Lib.hid hst
      have hxl : xs.length = j + 4 := by have := congrArg List.length hxs; simp at this; omega
      have hx12 : xs.length ≤ 12 := by omega
      obtain ⟨la, lc, rfl⟩ := own_slice hrow.own
      clear hrow hxs hxl
      by_cases hj8 : j < 8
      · have hix := idx_cnt L.C j hj8
        clear hst c1 c2 c3 c4 c5 c6 c7 c8
        go_wp2_with fail
        refine (wint_calls (L.C j) _).mono ?_
        rintro e w8 ⟨rfl, hb⟩
        have hal := below_alloc w8 (.cells #[.int .i64 0, .int .i64 (L.C j), .string nos, .slice none 0 0] 100)
        have HR8 := Lib.hid ((HROW.out.below hb).below hal)
        have HS8 := Lib.hid ((HST.out.later hb).later hal)
        have HLIT := Lib.hid (Rd.lit (w := w8) (cs := #[.int .i64 0, .int .i64 (L.C j), .string nos, .slice none 0 0]) (e := 100) (n := 1) (sz := 4) rfl (by omega))
        have hoz8 := HS8.out.out.hB
        clear hb hal
        go_upto_region 13 with (at_builtin; go_loud (refine app_keep tyItems HR8.out.own HLIT.out (by simp [Value.oneCell']) (by omega) (by omega) (by omega) hoz8 rfl rfl rfl rfl ?_; intro g gcap w9 h2 h3 h4 h5; have H2 := Lib.hid h2; have H4 := Lib.hid h4; have H5 := Lib.hid h5; clear h2 h3 h4 h5))
        have HR9 := Lib.hid (HR8.out.keep ⟨iI (L.C j), .slice none 0 0⟩ (ItR.nil _ _ _) H2.out H4.out H5.out)
        have HS9 := Lib.hid (HS8.out.grown_nil H4.out (fun g e => (World.ownsRow.lt HR8.out.own g e).1))
        clear H2 H4 H5
        go_wp2_with fail
        go_roundw
        case rel => exact ⟨j + 1, _, by omega, by go_num, by rw [List.map_append, HXS.out, List.range_succ, List.map_append, ← List.append_assoc]; rfl, HR9.out, HS9.out⟩
        case measure => simp [intOf]; omega
      · obtain rfl : j = 8 := by omega
        have hee : xs.map Iv.c = (headN L).tail.map iI := by
          rw [HXS.out]
          show _ = [iI L.sealed, iI L.decided, iI L.keep, iI (if L.dep then 1 else 0), iI (L.C 0), iI (L.C 1), iI (L.C 2), iI (L.C 3), iI (L.C 4), iI (L.C 5), iI (L.C 6), iI (L.C 7)]
          rw [hd]
          rfl
        have hits := HROW.out.its.mono (Q := fun j => j < wr.heap.size) (fun j hj => hj.2)
        rw [hee] at hits
        have HITS := Lib.hid hits
        have f0 := HST.out.fn
        have hpi := padd_ints 0 (headN L).tail (headN_ok HOK.out) (by simp [headN])
        have HPI := Lib.hid hpi
        clear hee hits hst hpi c1 c2 c3 c4 c5 c6 c7 c8 HROW HXS HR7
        go_wp2_with fail
        refine (padd_calls 0 _ ((headN L).tail.map iI) (ob + 2) ob (.slice none 0 0) [] wr HITS.out HPI.out.1 HPI.out.2.1 HPI.out.2.2.1 HPI.out.2.2.2 HST.out.out (by simp)).mono ?_
        rintro e w10 ⟨rfl, sv, hO, hon⟩
        have hst : ESt w w10 L ob sv [encB (headE L)] := HST.out.add hO (HST.out.out.weak hon)
        clear hO hon f0 HPI HITS HST
        have c13 := hst.box 13 _ rfl
        rw [hd] at c13
        have HPRE := Lib.hid (show textsOf L = [encB (headE L)] ++ (L.rows.map fun r => encB (rowE r)) ++ (L.bats.map fun b => encB (listE 2 b.ep b.recs)) ++ [encB (listE 3 0 L.opn)] from by
          unfold textsOf
          rw [if_neg (by rw [hd]; simp)]
          rfl)
        generalize hPL : [encB (headE L)] = PRE at *
        have hpl : PRE.length ≤ 2 := by rw [← hPL]; simp
        clear hPL
        have c0 := hst.box 0 _ rfl
        rw [HV.out.1] at c0
        have HST := Lib.hid hst
        clear hst
        go_wp2_with fail
        go_loopw [13, 66] (fun _ iv wr => ∃ (j : Nat) (sv' : Value), j ≤ L.rows.length ∧ iv = .int .i64 j ∧ ESt w wr L ob sv' (PRE ++ (L.rows.take j).map (fun r => encB (rowE r)))) (fun _ iv _ => L.rows.length - (intOf iv).toNat)
        case atStart => exact ⟨0, sv, by omega, rfl, by simpa using HST.out⟩
        case round =>
          clear HST c0
          obtain ⟨j, sv', hj, rfl, hst⟩ := hrel
          have HST := Lib.hid hst
          by_cases hjl : j < L.rows.length
          · obtain ⟨rb, ro, rfl, d0, d1, d2⟩ := row_at (by have := (HL0.out.below hst.b (Nat.le_refl _)).rows; rwa [HV.out.1] at this) j hjl
            have HRK := Lib.hid (HOK.out.rows L.rows[j] (List.getElem_mem _))
            have HTK := Lib.hid (List.take_succ_eq_append_getElem hjl)
            generalize L.rows[j] = R at *
            obtain ⟨rp, rq, rl⟩ := R
            simp only at d0 d1 d2
            clear hst
            go_upto_region 21 with fail
            obtain ⟨W1, hW1⟩ : ∃ W1, W1 = wr.alloc (.cells #[.int .i64 rp, .int .i64 rq, .int .i64 rl] 92) := ⟨_, rfl⟩
            have hal : Below wr.heap.size wr W1 := by rw [hW1]; exact below_alloc _ _
            have k0 : W1.cell? ⟨wr.heap.size, 0, none⟩ = some (.int .i64 rp) := by rw [hW1]; exact box_self 0 _ rfl
            have k1 : W1.cell? ⟨wr.heap.size, 1, none⟩ = some (.int .i64 rq) := by rw [hW1]; exact box_self 1 _ rfl
            have k2 : W1.cell? ⟨wr.heap.size, 2, none⟩ = some (.int .i64 rl) := by rw [hW1]; exact box_self 2 _ rfl
            have hst := HST.out.later hal
            have hlt := hst.lt
            have hoz := HST.out.out.hB
            have HNB := Lib.hid (show ∀ g, sv'.ownBlock = some g → g < wr.heap.size from fun g e => (World.ownsRow.lt HST.out.out.row g e).2)
            rw [← hW1]
            clear hW1 d0 d1 d2 hal
            refine region_m [(0, false), (1, false), (2, false), (4, false), (5, false), (7, false), (8, false), (3, true), (6, true), (9, true), (10, true), (11, true)] 12 (fun V => V.cell? ⟨ob + 1, 0, none⟩ = some (.func (.func 45) #[] #[.pointer (some ⟨ob, 0, none⟩)]) ∧ V.cell? ⟨wr.heap.size, 0, none⟩ = some (.int .i64 rp) ∧ V.cell? ⟨wr.heap.size, 1, none⟩ = some (.int .i64 rq) ∧ V.cell? ⟨wr.heap.size, 2, none⟩ = some (.int .i64 rl)) (by kernel_rfl) (by kernel_rfl) ⟨hst.fn, k0, k1, k2⟩ ?_
            have hdr := (Below.refl W1.heap.size W1).drew
            have hst := hst.later hdr
            have k0 := cell_later hdr k0
            have k1 := cell_later hdr k1
            have k2 := cell_later hdr k2
            have hsz := hdr.size
            clear hdr
            generalize W1.drew = V1 at *
            iterate 7
              first
              | (refine m_take (v := ?_) rfl rfl ?_ ?_
                 rotate_left
                 · intro W hW
                   go_simp
                   with_reducible rfl
                 simp only [Act.put, List.setIfInBounds_toArray, List.set_cons_zero, List.set_cons_succ])
              | (refine m_skip rfl rfl ?_
                 simp only [Act.put, List.setIfInBounds_toArray, List.set_cons_zero, List.set_cons_succ])
            refine m_loud rfl (fun K hK => ?_)
            have HK := Lib.hid hK
            clear hK
            go_simp
            refine (wint_calls rp _).mono ?_
            rintro e w2 ⟨rfl, hb⟩
            have hst := hst.later hb
            have k0 := cell_later hb k0
            have k1 := cell_later hb k1
            have k2 := cell_later hb k2
            have hsz := Nat.le_trans hsz hb.size
            clear hb
            refine HK.out _ _ ⟨hst.fn, k0, k1, k2⟩ ?_
            clear HK
            refine m_loud rfl (fun K hK => ?_)
            have HK := Lib.hid hK
            clear hK
            go_simp
            refine (wint_calls rq _).mono ?_
            rintro e w3 ⟨rfl, hb⟩
            have hst := hst.later hb
            have k0 := cell_later hb k0
            have k1 := cell_later hb k1
            have k2 := cell_later hb k2
            have hsz := Nat.le_trans hsz hb.size
            clear hb
            refine HK.out _ _ ⟨hst.fn, k0, k1, k2⟩ ?_
            clear HK
            refine m_loud rfl (fun K hK => ?_)
            have HK := Lib.hid hK
            clear hK
            go_simp
            refine (wint_calls rl _).mono ?_
            rintro e w4 ⟨rfl, hb⟩
            have hst := hst.later hb
            have k0 := cell_later hb k0
            have k1 := cell_later hb k1
            have k2 := cell_later hb k2
            have hsz := Nat.le_trans hsz hb.size
            clear hb
            refine HK.out _ _ ⟨hst.fn, k0, k1, k2⟩ ?_
            clear HK
            have hal := below_alloc w4 (.cells #[.int .i64 0, .int .i64 rp, .string nos, .slice none 0 0, .int .i64 0, .int .i64 rq, .string nos, .slice none 0 0, .int .i64 0, .int .i64 rl, .string nos, .slice none 0 0] 100)
            have hst := hst.later hal
            have k0 := cell_later hal k0
            have k1 := cell_later hal k1
            have k2 := cell_later hal k2
            have hlit := its_lit (P := fun j => j < w4.heap.size) w4 7 [⟨iI rp, .slice none 0 0⟩, ⟨iI rq, .slice none 0 0⟩, ⟨iI rl, .slice none 0 0⟩] (fun j hj => hj) (fun x hx => by
              simp only [List.mem_cons, List.not_mem_nil, or_false] at hx
              rcases hx with rfl | rfl | rfl <;> exact ItR.nil _ _ _) (by simp)
            have HLS := Lib.hid (show Its (w4.alloc (.cells #[.int .i64 0, .int .i64 rp, .string nos, .slice none 0 0, .int .i64 0, .int .i64 rq, .string nos, .slice none 0 0, .int .i64 0, .int .i64 rl, .string nos, .slice none 0 0] 100)) 8 (.slice (some ⟨w4.heap.size, 0, none⟩) 3 3) [iI rp, iI rq, iI rl] from hlit.mono (fun j hj => by rw [World.size_alloc]; omega))
            clear hlit hal
            refine m_loud rfl (fun K hK => ?_)
            have HK := Lib.hid hK
            clear hK
            go_simp
            refine HK.out _ _ ⟨hst.fn, k0, k1, k2⟩ ?_
            clear HK
            generalize (w4.alloc (.cells #[.int .i64 0, .int .i64 rp, .string nos, .slice none 0 0, .int .i64 0, .int .i64 rq, .string nos, .slice none 0 0, .int .i64 0, .int .i64 rl, .string nos, .slice none 0 0] 100)) = W5 at *
            have hpi := padd_ints 1 [rp, rq, rl] (fun n hn => by
              simp only [List.mem_cons, List.not_mem_nil, or_false] at hn
              rcases hn with rfl | rfl | rfl | rfl
              · unfold I64; omega
              · exact HRK.out.1
              · exact HRK.out.2.1
              · exact HRK.out.2.2) (by simp)
            have HPI := Lib.hid hpi
            clear hpi
            refine m_loud rfl (fun K hK => ?_)
            have HK := Lib.hid hK
            clear hK
            go_simp
            refine (padd_calls 1 _ [iI rp, iI rq, iI rl] (ob + 2) ob sv' _ W5 HLS.out HPI.out.1 HPI.out.2.1 HPI.out.2.2.1 HPI.out.2.2.2 hst.out (by simp; omega)).mono ?_
            rintro e w6 ⟨rfl, sv6, hO, hon⟩
            have hne : ¬ (wr.heap.size = ob ∨ sv'.ownBlock = some wr.heap.size) := fun e => by
              rcases e with e | e
              · omega
              · have := HNB.out _ e; omega
            have k0 := hon.cell (b := wr.heap.size) hne k0
            have k1 := hon.cell (b := wr.heap.size) hne k1
            have k2 := hon.cell (b := wr.heap.size) hne k2
            have hst := hst.add hO (hst.out.weak hon)
            have HS6 := Lib.hid hst
            clear hO hon hne
            refine HK.out _ _ ⟨hst.fn, k0, k1, k2⟩ ?_
            clear HK
            clear k0 k1 k2 hst
            refine m_done ?_
            simp only [List.drop_succ_cons, List.drop_zero]
            go_wp2_with fail
            simp only [NP]
            go_wp2_with fail
            go_roundw
            case rel => exact ⟨j + 1, sv6, by omega, by go_num, by rw [HTK.out, List.map_append, ← List.append_assoc]; exact HS6.out⟩
            case measure => simp [intOf]; omega
          · obtain rfl : j = L.rows.length := by omega
            rw [List.take_length] at HST
            have hpr : (PRE ++ L.rows.map (fun r => encB (rowE r))).length ≤ 1200000 := by simp; omega
            generalize hPR : PRE ++ L.rows.map (fun r => encB (rowE r)) = PR at *
            have c10 := HST.out.box 10 _ rfl
            rw [HV.out.2.2.1] at c10
            clear hst hPR
            go_wp2_with fail
            go_loopw [16, 87] (fun _ iv wr => ∃ (j : Nat) (sv' : Value), j ≤ L.bats.length ∧ iv = .int .i64 j ∧ ESt w wr L ob sv' (PR ++ (L.bats.take j).map (fun b => encB (listE 2 b.ep b.recs)))) (fun _ iv _ => L.bats.length - (intOf iv).toNat)
            case atStart => exact ⟨0, sv', by omega, rfl, by simpa using HST.out⟩
            case round =>
              clear HST c10
              obtain ⟨j, sv', hj, rfl, hst⟩ := hrel
              have HST := Lib.hid hst
              have hlt := hst.lt
              by_cases hjl : j < L.bats.length
              · have hbr := (HL0.out.below hst.b (Nat.le_refl _)).bats
                rw [HV.out.2.2.1] at hbr
                obtain ⟨bb, bo, rfl, d0, d1⟩ := bt_at hbr j hjl
                have hrr := hbr.recs L.bats[j] (List.getElem_mem _)
                have HRR := Lib.hid hrr
                have HFB := Lib.hid (HF.out.bats L.bats[j] (List.getElem_mem _))
                have HTK := Lib.hid (List.take_succ_eq_append_getElem hjl)
                generalize L.bats[j] = R at *
                obtain ⟨ep, brv, recs⟩ := R
                simp only at d0 d1 hrr HRR HFB
                obtain ⟨xa, xc, rfl, -, -⟩ := Rd.slice hrr
                have hst1 := hst.later (below_alloc wr (.cells #[.int .i64 ep, .slice xa recs.length xc] 67))
                have HS1 := Lib.hid hst1
                have HR1 := Lib.hid (Rd.below HRR.out (below_alloc wr (.cells #[.int .i64 ep, .slice xa recs.length xc] 67)) (Nat.le_refl _))
                clear hst hbr hrr hst1
                go_wp2_with fail
                refine (plist_calls 2 ep _ recs (ob + 2) ob (ob + 1) sv' _ _ HR1.out (by unfold I64; omega) HFB.out.1 HFB.out.2.1 HFB.out.2.2 HS1.out.out (by simp; omega) (by omega) HS1.out.fn eg1).mono ?_
                rintro e w6 ⟨rfl, sv6, hO, hon⟩
                have HS6 := Lib.hid (HS1.out.add hO hon)
                clear hO hon
                go_wp2_with fail
                go_roundw
                case rel => exact ⟨j + 1, sv6, by omega, by go_num, by rw [HTK.out, List.map_append, ← List.append_assoc]; exact HS6.out⟩
                case measure => simp [intOf]; omega
              · obtain rfl : j = L.bats.length := by omega
                rw [List.take_length] at HST
                have c9 := HST.out.box 9 _ rfl
                rw [HV.out.2.1] at c9
                have hro := (HL0.out.below HST.out.b (Nat.le_refl _)).opn
                rw [HV.out.2.1] at hro
                have HRO := Lib.hid hro
                clear hst hro
                go_wp2_with fail
                refine (plist_calls 3 0 _ L.opn (ob + 2) ob (ob + 1) sv' _ wr HRO.out (by unfold I64; omega) (by unfold I64; omega) HF.out.opn.1 HF.out.opn.2 HST.out.out (by simp; omega) (by omega) HST.out.fn eg1).mono ?_
                rintro e w7 ⟨rfl, sv7, hO, hon⟩
                have HS7 := Lib.hid (HST.out.add hO hon)
                have c := hO.c
                obtain ⟨ya, yc, rfl⟩ := own_slice hO.row
                clear hO hon c9
                go_wp2_with fail
                go_ret2
                refine ⟨_, rfl, ?_, HS7.out.b⟩
                rw [HPRE.out]
                have hrw := ownsRow_mono HS7.out.out.row (show w.heap.size ≤ ob + 2 by omega)
                have hlen : (PR ++ L.bats.map (fun b => encB (listE 2 b.ep b.recs)) ++ [encB (listE 3 0 L.opn)]).length = PR.length + (L.bats.length + 1) := by simp
                rw [hlen] at hrw ⊢
                exact hrw
end Go.Proofs.Ytkabfjbmofpkdaa
