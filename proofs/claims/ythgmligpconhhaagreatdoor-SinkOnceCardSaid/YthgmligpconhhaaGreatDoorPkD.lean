/- Walks and plain laws of the chapter, laid together; each part says what it proves. -/
import Derived.Shelf.SlSortCmp.Whole1
import Derived.Shelf.Small.Wraps
import Derived.Shelf.Strconv.Atoi
import Derived.Shelf.Strconv.ErrVarAll
import Derived.Lib.AtoiAllCases
import Derived.Test.YthgmligpconhhaaGreatDoorPkA
import Derived.Test.YthgmligpconhhaaGreatDoorPkB
import Derived.Test.YthgmligpconhhaaGreatDoorPkC
/- Layer 6: slices.SortFunc at the segments: by their first numbers. -/
namespace Go.Proofs.YthgmligpconhhaaGreatDoor
open Go.RowKit Go.Shelf Go.Sort
set_option linter.unusedVariables false
set_option linter.unusedSimpArgs false
set_option maxRecDepth 100000
attribute [local go_sem] Oper.semAt_some

/-! ### Rows of one cell an element, sorted; no program -/
theorem heap_sortedF {α : Type} [Inhabited α] {enc : α → Value} {w : World} {g n : Nat} {os : Array Obj} {cur : Array Value} {e : TypeId} {fr : Nat × Nat} (d : Array α) (hb : w.heap[g]? = some (.cells cur e fr)) :
    (grow (putRow enc (Sort.ahead w n) g 0 d) os).heap[g]? = some (.cells (putCells enc 0 d cur) e fr) := by
  have hg : g < w.heap.size := (Array.getElem?_eq_some_iff.1 hb).1
  rw [heap_grow_old _ _ (by simpa using hg)]
  simp [putRow, mapBlock, Sort.ahead, Array.getElem?_modify, hb, onCells]
theorem grownBy_sortedF {α : Type} [Inhabited α] {enc : α → Value} {w : World} {g n : Nat} {os : Array Obj} (d : Array α) : w.grownBy (grow (putRow enc (Sort.ahead w n) g 0 d) os) (some g) := by
  refine ⟨rfl, rfl, rfl, by simp, fun k hk hne => ?_⟩
  rw [heap_grow_old _ _ (by simpa using hk)]
  have : g ≠ k := fun e => hne (by rw [e])
  simp [putRow, mapBlock, Sort.ahead, Array.getElem?_modify, this]
theorem take_putCellsF {α : Type} [Inhabited α] {enc : α → Value} (cur : Array Value) (ts : List α) (h : ts.length ≤ cur.size) : (putCells enc 0 ts.toArray cur).toList.take ts.length = ts.map enc := by
  apply List.ext_getElem?
  intro j
  by_cases hj : j < ts.length
  · rw [List.getElem?_take_of_lt hj, Array.getElem?_toList]
    simp [putCells, hj, show j < cur.size by omega]
  · rw [List.getElem?_take_eq_none (by omega), List.getElem?_eq_none (by simp; omega)]
theorem ownsRow_sortedF {α : Type} [Inhabited α] {enc : α → Value} {w : World} {base g cap n m : Nat} {e : TypeId} {os : Array Obj} {cur : Array Value} {ts : List α} (hl : ts.length = m) (hbase : base ≤ g) (hb : w.heap[g]? = some (.cells cur e (0, 0)))
    (h1 : m ≤ cap) (h2 : cap ≤ maxLen) (h3 : cur.size = cap * 1) :
    (grow (putRow enc (Sort.ahead w n) g 0 ts.toArray) os).ownsRow base e 1 (.slice (some ⟨g, 0, none⟩) m cap) m (ts.map enc) :=
  ⟨by simp [hl], .inr ⟨g, cap, _, rfl, hbase, heap_sortedF _ hb, h1, h2, by simp [putCells, h3], by rw [Nat.mul_one, ← hl]; exact take_putCellsF cur ts (by omega)⟩⟩
theorem holds_of_blockF {α : Type} [Inhabited α] {enc : α → Value} {w : World} {g : Nat} {cur : Array Value} {e : TypeId} {ss : List α} (hb : w.heap[g]? = some (.cells cur e (0, 0))) (ht : cur.toList.take ss.length = ss.map enc) : Holds enc w g 0 ss.toArray := by
  intro j hj
  have hj' : j < ss.length := by simpa using hj
  refine ⟨?_, by simp [World.frozen?, hb]⟩
  have h1 : (cur.toList.take ss.length)[j]? = (ss.map enc)[j]? := by rw [ht]
  rw [List.getElem?_take_of_lt hj'] at h1
  simp only [World.cell?, hb, Nat.zero_add]
  simp only [Option.isSome_none, Bool.false_eq_true, if_false]
  rw [← Array.getElem?_toList, h1]
  simp [hj']

/-! ### The closure -/
set_option maxHeartbeats 1000000 in
theorem open1_calls (a b : Nat) (x y : Int) (w : World) (ha : w.cell? ⟨a, 0, none⟩ = some (.int .i64 x)) (hb : w.cell? ⟨b, 0, none⟩ = some (.int .i64 y)) :
    Calls Tryz.prog 37 #[.pointer (some ⟨a, 0, none⟩), .pointer (some ⟨b, 0, none⟩)] w fun e w' => e = .returned (.int .i64 (if x < y then -1 else 1)) ∧ ∃ q, w' = w.drewN q := by
  by_cases hlt : x < y
  · have d1 : decide (x < y) = true := decide_eq_true hlt
    rw [if_pos hlt]
    go_enter Tryz.func37, Tryz.ntmps37
    go_upto_region 1 with fail
    refine region_m [(0, false), (1, false), (2, false), (3, false), (4, false), (5, false), (6, false), (7, false), (8, false)] 9 (fun X => X.cell? ⟨a, 0, none⟩ = some (.int .i64 x) ∧ X.cell? ⟨b, 0, none⟩ = some (.int .i64 y)) (by kernel_rfl) (by kernel_rfl) ⟨ha, hb⟩ ?_
    iterate 9
      first
      | (refine m_take (v := ?_) rfl rfl ?_ ?_
         rotate_left
         · intro W hW
           go_simp
           with_reducible rfl
         simp only [Act.put, List.setIfInBounds_toArray, List.set_cons_zero, List.set_cons_succ])
      | (refine m_skip rfl rfl ?_
         simp only [Act.put, List.setIfInBounds_toArray, List.set_cons_zero, List.set_cons_succ])
    refine m_done ?_
    simp only [List.drop_succ_cons, List.drop_zero]
    go_wp2_with fail
    try simp only [NP]
    go_wp2_with fail
    go_ret
    exact ⟨rfl, 1, rfl⟩
  · have d1 : decide (x < y) = false := decide_eq_false hlt
    rw [if_neg hlt]
    go_enter Tryz.func37, Tryz.ntmps37
    go_upto_region 1 with fail
    refine region_m [(0, false), (1, false), (2, false), (3, false), (4, false), (5, false), (6, false), (7, false), (8, false)] 9 (fun X => X.cell? ⟨a, 0, none⟩ = some (.int .i64 x) ∧ X.cell? ⟨b, 0, none⟩ = some (.int .i64 y)) (by kernel_rfl) (by kernel_rfl) ⟨ha, hb⟩ ?_
    iterate 9
      first
      | (refine m_take (v := ?_) rfl rfl ?_ ?_
         rotate_left
         · intro W hW
           go_simp
           with_reducible rfl
         simp only [Act.put, List.setIfInBounds_toArray, List.set_cons_zero, List.set_cons_succ])
      | (refine m_skip rfl rfl ?_
         simp only [Act.put, List.setIfInBounds_toArray, List.set_cons_zero, List.set_cons_succ])
    refine m_done ?_
    simp only [List.drop_succ_cons, List.drop_zero]
    go_wp2_with fail
    try simp only [NP]
    go_wp2_with fail
    go_ret
    exact ⟨rfl, 1, rfl⟩

/-! ### The sort -/
theorem perm_whole {α : Type} [Inhabited α] {d d' : Array α} {n : Nat} (h : PermIn 0 n d d') (h1 : d.size = n) : d'.toList.Perm d.toList := by
  subst h1
  have h2 := h.2.2
  rw [Array.extract_size] at h2
  rw [← h.1, Array.extract_size] at h2
  exact h2
theorem segsort_calls (base g cap : Nat) (ps : List (Nat × Nat)) (w : World) (hr : w.ownsRow base 94 1 (.slice (some ⟨g, 0, none⟩) ps.length cap) ps.length (ps.map fun p => .pointer (some ⟨p.1, 0, none⟩)))
    (hc : ∀ p ∈ ps, p.1 ≠ g ∧ w.cell? ⟨p.1, 0, none⟩ = some (.int .i64 p.2)) (h0 : 0 < ps.length) (hsz : ps.length ≤ 1000000) :
    Calls Tryz.prog 36 #[.slice (some ⟨g, 0, none⟩) ps.length cap, .func (.func 37) #[] #[]] w fun e w' =>
      (∃ v, e = .returned v) ∧ ∃ qs : List (Nat × Nat), qs.Perm ps ∧ qs.Pairwise (fun p q => p.2 ≤ q.2) ∧ w'.ownsRow base 94 1 (.slice (some ⟨g, 0, none⟩) ps.length cap) ps.length (qs.map fun p => .pointer (some ⟨p.1, 0, none⟩)) ∧ w.grownBy w' (some g) := by
  · haveI : Inhabited (Fin ps.length) := ⟨⟨0, h0⟩⟩
    rcases hr.2 with ⟨hn, -⟩ | ⟨g', cap', cur, hv', hb, hh, h1, h2, h3, h4⟩
    · cases hn
    simp only [Value.slice.injEq, Option.some.injEq, Addr.mk.injEq, and_true, true_and] at hv'
    obtain ⟨rfl, rfl⟩ := hv'
    obtain ⟨en, hen⟩ : ∃ en : Fin ps.length → Value, en = fun i => .pointer (some ⟨ps[i].1, 0, none⟩) := ⟨_, rfl⟩
    obtain ⟨cf, hcf⟩ : ∃ cf : Fin ps.length → Fin ps.length → Int, cf = fun i j => if ((ps[i].2 : Int) < (ps[j].2 : Int)) then -1 else 1 := ⟨_, rfl⟩
    have hlt : ∀ i j, ltOf cf i j = decide (ps[i].2 < ps[j].2) := fun i j => by
      unfold ltOf
      rw [hcf]
      simp only
      by_cases h : ps[i].2 < ps[j].2
      · have hp : (ps[i].2 : Int) < (ps[j].2 : Int) := by omega
        simp only [if_pos hp]
        rw [decide_eq_true h]; rfl
      · have hp : ¬ (ps[i].2 : Int) < (ps[j].2 : Int) := by omega
        simp only [if_neg hp]
        rw [decide_eq_false h]; rfl
    have hswo : SWO (ltOf cf) := ⟨fun x => by rw [hlt]; simp, fun x y z h k => by rw [hlt] at *; simp only [decide_eq_true_eq] at *; omega, fun x y z h k => by rw [hlt] at *; simp only [decide_eq_false_iff_not] at *; omega⟩
    have hmap : (List.finRange ps.length).map en = ps.map fun p => .pointer (some ⟨p.1, 0, none⟩) := by
      rw [hen]
      apply List.ext_getElem
      · simp
      · intro i h1 h2
        simp
    have hlen : (List.finRange ps.length).length = ps.length := List.length_finRange
    have hHo : Holds en w g 0 (List.finRange ps.length).toArray := holds_of_blockF hh (by rw [hlen, hmap]; simpa using h4)
    have hcmp : CmpLays1 Tryz.prog 37 #[] en cf g 0 (List.finRange ps.length).toArray.size w := by
      intro m os dk hdk x y
      have hx := hc ps[x] (List.getElem_mem _)
      have hy := hc ps[y] (List.getElem_mem _)
      have hcell : ∀ a, a ≠ g → ∀ v, w.cell? ⟨a, 0, none⟩ = some v → (sortWorld en w g 0 m dk os).cell? ⟨a, 0, none⟩ = some v := fun a ha v hv => by
        have hal := World.block_lt_of_cell? w _ hv
        rw [← hv]
        exact World.cell?_of_block (a := ⟨a, 0, none⟩) ((grownBy_sortedF (enc := en) (n := m) (os := os) dk).block a hal (fun e => ha (Option.some.inj e)))
      have h := open1_calls ps[x].1 ps[y].1 ps[x].2 ps[y].2 (sortWorld en w g 0 m dk os) (hcell _ hx.1 _ hx.2) (hcell _ hy.1 _ hy.2)
      rw [hen, hcf]
      rw [hen] at h
      exact h.mono fun e w' ⟨he, q, hq⟩ => ⟨he, q, #[], by rw [hq, grow_empty]⟩
    have hcl := Any.slices_SortFunc Tryz.laysSortF en (fun x => by rw [hen]; rfl) cf hswo 37 #[] g 0 cap (List.finRange ps.length).toArray w (enters_of Tryz.func37 (by kernel_rfl) rfl) hcmp hHo (Array.getElem?_eq_some_iff.1 hh).1 (by simp; omega)
    have hds : (List.finRange ps.length).toArray.size = ps.length := by simp
    rw [hds] at hcl
    refine (show Calls Tryz.prog 36 #[.slice (some ⟨g, 0, none⟩) ps.length cap, .func (.func 37) #[] #[]] w _ from hcl).mono ?_
    rintro e w' ⟨rfl, d', n, os, hperm, hsort, rfl⟩
    have hd' : d'.size = ps.length := hperm.1.trans hds
    have hpl : d'.toList.Perm (List.finRange ps.length) := by
      have := perm_whole hperm hds
      simpa using this
    have hmp : (List.finRange ps.length).map (fun i => ps[i]) = ps := by
      apply List.ext_getElem
      · simp
      · intro i h1 h2
        simp
    refine ⟨⟨_, rfl⟩, d'.toList.map (fun i => ps[i]), ?_, ?_, ?_, grownBy_sortedF (enc := en) (n := n) (os := os) d'⟩
    · have := hpl.map (fun i => ps[i])
      rwa [hmp] at this
    · rw [List.pairwise_map, List.pairwise_iff_getElem]
      intro i j hi hj hij
      rw [Array.length_toList] at hi hj
      have := hsort i j (Nat.zero_le _) hij (by omega)
      rw [hlt, getElem!_pos d' j (by omega), getElem!_pos d' i (by omega), decide_eq_false_iff_not] at this
      rw [Array.getElem_toList, Array.getElem_toList]
      omega
    · have := ownsRow_sortedF (enc := en) (n := n) (os := os) (ts := d'.toList) (m := ps.length) (by rw [Array.length_toList, hd']) hb hh h1 h2 h3
      rw [Array.toArray_toList] at this
      rw [List.map_map]
      have e : (fun p : Nat × Nat => Value.pointer (some ⟨p.1, 0, none⟩)) ∘ (fun i : Fin ps.length => ps[i]) = en := by rw [hen]; rfl
      rw [e]
      exact this
end Go.Proofs.YthgmligpconhhaaGreatDoor

/- Layer 6: base (the number in a file's name), walked at the names of numbers below 100. -/
namespace Go.Proofs.YthgmligpconhhaaGreatDoor
open Go.RowKit Go.Shelf
set_option linter.unusedVariables false
set_option linter.unusedSimpArgs false
set_option maxRecDepth 100000

/-- base answers n, here and in every world behind. -/
def BaseAt (nm f : ByteArray) (n : Nat) (w : World) : Prop := ∀ W, Below w.heap.size w W → Calls Tryz.prog 33 #[.string nm, .string f] W fun e W' => e = .returned (.int .i64 n) ∧ Below W.heap.size W W'
theorem BaseAt.below {nm f : ByteArray} {n : Nat} {w w' : World} (h : BaseAt nm f n w) (hb : Below w.heap.size w w') : BaseAt nm f n w' := fun W hW => h W (hb.trans (hW.mono hb.size))

theorem atoi_dec {n : Nat} (hn : n < 100) : Lib.atoi (Lib.decDigits n) = some (n : Int) ∧ (Lib.decDigits n).length ≤ 18 := by
  have h1 : ∀ k : Fin 10, Lib.atoi [UInt8.ofNat (48 + k.val)] = some (k.val : Int) := by decide
  have h2 : ∀ k : Fin 10, ∀ j : Fin 10, k.val ≠ 0 → Lib.atoi ([UInt8.ofNat (48 + k.val)] ++ [UInt8.ofNat (48 + j.val)]) = some ((10 * k.val + j.val : Nat) : Int) := by decide +kernel
  by_cases h : n < 10
  · rw [Lib.decDigits_one h]
    exact ⟨h1 ⟨n, h⟩, by simp⟩
  · have e : Lib.decDigits n = [UInt8.ofNat (48 + n / 10)] ++ [UInt8.ofNat (48 + n % 10)] := by
      rw [Lib.decDigits, dif_neg h, Lib.decDigits_one (by omega)]
    rw [e]
    have := h2 ⟨n / 10, by omega⟩ ⟨n % 10, by omega⟩ (by simp only; omega)
    simp only at this
    rw [show 10 * (n / 10) + n % 10 = n by omega] at this
    exact ⟨this, by simp⟩
theorem fnm_prefix (nm : ByteArray) (n : Nat) : Lib.hasPrefix (fnm nm n).data.toList (nm ++ ⟨#[45]⟩ : ByteArray).data.toList = true ∧ (⟨(Lib.trimPrefix (fnm nm n).data.toList (nm ++ ⟨#[45]⟩ : ByteArray).data.toList).toArray⟩ : ByteArray) = istr n := by
  have e1 : (nm ++ ⟨#[45]⟩ : ByteArray).data.toList = nm.data.toList ++ [45] := by simp [ByteArray.data_append]
  rw [fnm_list, e1]
  have hp : Lib.hasPrefix (nm.data.toList ++ [45] ++ Lib.decDigits n) (nm.data.toList ++ [45]) = true := by
    simp [Lib.hasPrefix]
  refine ⟨hp, ?_⟩
  unfold Lib.trimPrefix
  rw [if_pos hp, List.drop_left]
  rfl

set_option maxHeartbeats 1000000 in
theorem sbase_small (nm : ByteArray) (n : Nat) (hn : n < 100) (hs : nm.size ≤ 1000000) (w : World) : BaseAt nm (fnm nm n) n w := by
  intro W _
  obtain ⟨hpre, htrim⟩ := fnm_prefix nm n
  obtain ⟨hat, hal⟩ := atoi_dec hn
  have HPRE := Lib.hid hpre
  have HTRIM := Lib.hid htrim
  have HAT := Lib.hid hat
  have HAL := Lib.hid hal
  have d1 : decide ((n : Int) < 0) = false := decide_eq_false (by omega)
  have d2 : decide ((4611686018427387904 : Int) < (n : Int)) = false := decide_eq_false (by omega)
  have hn0 : ¬ (n : Int) < 0 := by omega
  have hn1 : ¬ (4611686018427387904 : Int) < (n : Int) := by omega
  clear hpre htrim hat hal
  go_enter Tryz.func33, Tryz.ntmps33
  go_wp2_with fail
  refine (Any.strings_CutPrefix Tryz.lays103 _ _ _).mono ?_
  rintro e w1 ⟨rfl, rfl⟩
  rw [HPRE.out, HTRIM.out]
  go_wp2_with fail
  refine (Any.strconv_Atoi Tryz.lays172 (istr n) n (by show (Lib.decDigits n).toArray.size ≤ 18; rw [List.size_toArray]; exact HAL.out) (by simpa [istr] using HAT.out) _).mono ?_
  rintro e w2 ⟨rfl, t, hw2⟩
  have HB2 := Lib.hid (show Below w1.heap.size w1 w2 from by
    rw [hw2]
    exact ⟨rfl, rfl, rfl, by rw [Lib.bytesWorld_size]; omega, fun j hj => Lib.bytesWorld_at_old w1 _ t j hj⟩)
  clear hw2
  go_wp2_with fail
  refine (itoa_small hn w2 w2 (Below.refl _ _)).mono ?_
  rintro e w3 ⟨rfl, hb3⟩
  have HB3 := Lib.hid (HB2.out.trans (hb3.mono HB2.out.size))
  clear hb3
  go_wp2_with fail
  go_ret
  exact ⟨rfl, HB3.out⟩
end Go.Proofs.YthgmligpconhhaaGreatDoor

/- Layer 6: what Open makes of files; no call walked. -/
namespace Go.Proofs.YthgmligpconhhaaGreatDoor
open Go.RowKit Go.Shelf
set_option linter.unusedVariables false
set_option linter.unusedSimpArgs false
set_option maxRecDepth 100000

/-! ### Lists -/
theorem perm_map_ex {α β : Type} {f : α → β} : ∀ {l : List α} {m : List β}, m.Perm (l.map f) → ∃ l' : List α, l'.Perm l ∧ l'.map f = m := by
  intro l m h
  generalize hk : l.map f = k at h
  induction h generalizing l with
  | nil =>
    have : l = [] := by simpa using hk
    subst this
    exact ⟨[], List.Perm.refl _, rfl⟩
  | cons x _ ih =>
    cases l with
    | nil => simp at hk
    | cons a l =>
      simp only [List.map_cons, List.cons.injEq] at hk
      obtain ⟨l', h1, h2⟩ := ih hk.2
      exact ⟨a :: l', h1.cons a, by rw [List.map_cons, h2, hk.1]⟩
  | swap x y r =>
    match l, hk with
    | a :: b :: l, hk =>
      simp only [List.map_cons, List.cons.injEq] at hk
      obtain ⟨h1, h2, h3⟩ := hk
      exact ⟨b :: a :: l, List.Perm.swap _ _ _, by rw [List.map_cons, List.map_cons, h1, h2, h3]⟩
    | [], hk => simp at hk
    | [a], hk => simp at hk
  | trans _ _ ih1 ih2 =>
    obtain ⟨l2, h3, h4⟩ := ih2 hk
    obtain ⟨l1, h1, h2⟩ := ih1 h4
    exact ⟨l1, h1.trans h3, h2⟩
theorem pairwise_of_apart {α : Type} {R : α → α → Prop} {l : List α} (h : ∀ (i j : Nat) (s t : α), l[i]? = some s → l[j]? = some t → i ≠ j → R s t) : l.Pairwise R := by
  rw [List.pairwise_iff_getElem]
  intro i j hi hj hij
  exact h i j _ _ (List.getElem?_eq_getElem hi) (List.getElem?_eq_getElem hj) (by omega)
theorem apart_of_pairwise {α : Type} {R : α → α → Prop} (hs : ∀ s t, R s t → R t s) {l : List α} (h : l.Pairwise R) : ∀ (i j : Nat) (s t : α), l[i]? = some s → l[j]? = some t → i ≠ j → R s t := by
  intro i j s t hi hj hij
  rw [List.pairwise_iff_getElem] at h
  obtain ⟨hil, rfl⟩ := List.getElem?_eq_some_iff.1 hi
  obtain ⟨hjl, rfl⟩ := List.getElem?_eq_some_iff.1 hj
  rcases Nat.lt_or_gt_of_ne hij with hlt | hgt
  · exact h i j hil hjl hlt
  · exact hs _ _ (h j i hjl hil hgt)
theorem mget_of_mem {α : Type} : ∀ {m : List (ByteArray × α)} {k : ByteArray} {v : α}, (m.map (·.1)).Nodup → (k, v) ∈ m → mget m k = some v := by
  intro m k v hn hm
  cases hg : mget m k with
  | none =>
    rw [mget_none] at hg
    exact absurd (List.mem_map.2 ⟨_, hm, rfl⟩) hg
  | some u =>
    have h2 := mget_mem hg
    have hp : m.Pairwise (fun a b => a.1 ≠ b.1) := by
      have := hn
      unfold List.Nodup at this
      rwa [List.pairwise_map] at this
    by_cases e : u = v
    · rw [e]
    · exfalso
      obtain ⟨i, hi⟩ := List.getElem?_of_mem hm
      obtain ⟨j, hj⟩ := List.getElem?_of_mem h2
      have hij : i ≠ j := fun e2 => by
        subst e2
        rw [hi] at hj
        simp only [Option.some.injEq, Prod.mk.injEq, true_and] at hj
        exact e hj.symm
      exact apart_of_pairwise (R := fun a b : ByteArray × α => a.1 ≠ b.1) (fun s t h => h.symm) hp i j _ _ hi hj hij rfl

/-! ### A file as a segment -/
structure PS where
  base : Nat
  ents : List (List UInt8)
  size : Nat
  dirty : Bool
def Seg.ps (s : Seg) : PS := ⟨s.base, s.evs.map Prod.snd, s.size, s.dirty⟩
/-- How many whole frames stand at the front. -/
def cntF (xs : List UInt8) : Nat := ((List.range (xs.length + 1)).find? (fun n => decide ((Fr.FrM.next xs (Fr.FrM.pos xs n)).2.2 ≠ 0))).getD 0
theorem cntF_is (xs : List UInt8) : Fr.FrM.Count xs (cntF xs) := by
  obtain ⟨n, hn⟩ := Fr.FrM.count_exists xs
  have hl := Fr.FrM.pos_le xs n hn.1
  have hf : (List.range (xs.length + 1)).find? (fun n => decide ((Fr.FrM.next xs (Fr.FrM.pos xs n)).2.2 ≠ 0)) = some n := by
    refine find_at _ _ n n ?_ (by simpa using hn.2) (fun i y hi hy => ?_)
    · rw [List.getElem?_range (by omega)]
    · rw [List.getElem?_range (by omega)] at hy
      simp only [Option.some.injEq] at hy
      subst hy
      simpa using hn.1 i hi
  unfold cntF
  rw [hf]
  exact hn
def psOf (n : Nat) (xs : List UInt8) : PS := ⟨n, Fr.FrM.pays xs (cntF xs), Fr.FrM.pos xs (cntF xs), decide (Fr.FrM.pos xs (cntF xs) < xs.length)⟩
/-- What base answers of a name. -/
def bInt (o : Option Nat) : Int := match o with | some n => n | none => -1
def BaseIs (nm f : ByteArray) (o : Option Nat) (w : World) : Prop := ∀ W, Below w.heap.size w W → Calls Tryz.prog 33 #[.string nm, .string f] W fun e W' => e = .returned (.int .i64 (bInt o)) ∧ Below W.heap.size W W'
theorem BaseAt.is {nm f : ByteArray} {n : Nat} {w : World} (h : BaseAt nm f n w) : BaseIs nm f (some n) w := h
/-- The segments of files. -/
def segF (bs : ByteArray → Option Nat) (fs : Files) : List PS := fs.filterMap (fun f => (bs f.1).map fun n => psOf n f.2.2)

/-! ### A segment that was made of a file -/
theorem segAt_new {w : World} {B b n e : Nat} {ev : Value} {xs : List UInt8} {d : Bool} (hbox : w.ownsRow B 96 4 (.slice (some ⟨b, 0, none⟩) 1 1) 1 [.int .i64 n, ev, .int .i64 e, .bool d]) {base : Nat} {pss : List (List UInt8)} (hB : B ≤ base) (hl : Fr.MineL w base ev pss) :
    ∃ s : Seg, s.b = b ∧ s.ev = ev ∧ s.ps = ⟨n, pss, e, d⟩ ∧ SegAt w B s := by
  obtain ⟨vs, h1, h2⟩ := hl
  have hlen : vs.length = pss.length := by have := h1.1; omega
  have e1 : (vs.zip pss).map Prod.fst = vs := List.map_fst_zip (by omega)
  have e2 : (vs.zip pss).map Prod.snd = pss := List.map_snd_zip (by omega)
  refine ⟨⟨b, n, ev, vs.zip pss, e, d⟩, rfl, rfl, by show PS.mk _ _ _ _ = _; rw [e2], ⟨hbox, ?_, fun x hx => ?_⟩⟩
  · show w.ownsRow B 63 1 ev (vs.zip pss).length ((vs.zip pss).map Prod.fst)
    rw [e1, List.length_zip, hlen, Nat.min_self]
    exact ownsRow_mono h1 hB
  · obtain ⟨i, hi⟩ := List.getElem?_of_mem hx
    obtain ⟨u, y⟩ := x
    have hz := List.getElem?_zip_eq_some.1 hi
    exact Txt.of_mine (h2 i u y hz.1 hz.2)

/-! ### The segments, sorted -/
theorem LT.sorted {w0 w w' : World} {B l g cap : Nat} {L0 L : Lg} {D0 D : Dk} {ss : List Seg} (h : LT w0 w B l L0 D0 L D) (hv : L.sv = .slice (some ⟨g, 0, none⟩) L.segs.length cap) (hp : ss.Perm L.segs) (hr : w'.ownsRow B 94 1 L.sv L.segs.length (ss.map Seg.ptr)) (hg : w.grownBy w' (some g)) :
    LT w0 w' B l L0 D0 { L with segs := ss } D := by
  have hlog := h.is.log
  have ho : Only (fun j => j = g) w w' := (Only.of_grown hg).weak (fun j _ e => (Option.some.inj e).symm)
  have hgb : L.sv.ownBlock = some g := by rw [hv]; rfl
  have hgt := own_ty hlog.row hgb
  have hfoot : ∀ j, j = g → L.foot l j := fun j e => .inr (.inl (by rw [e]; exact hgb))
  have hlen : ss.length = L.segs.length := hp.length_eq
  refine h.trans (LT.log h.is (ho.weak (fun j _ e => hfoot j e)) ?_ rfl ?_)
  · refine ⟨ownsRow_only hlog.box ho (fun j hj e => ?_), ?_, fun s hs => (hlog.segs s (hp.subset hs)).only ho (fun j e hf => ?_) (fun j e hu => ?_), ?_⟩
    · simp only [Value.ownBlock, Option.some.injEq] at hj
      subst hj e
      exact absurd (hgt.eq (own_ty hlog.box rfl)) (by decide)
    · show w'.ownsRow B 94 1 L.sv ss.length (ss.map Seg.ptr)
      rw [hlen]
      exact hr
    · subst e
      rcases (hlog.segs s (hp.subset hs)).foot_ty hf with hf | hf
      · exact absurd (hf.eq hgt) (by decide)
      · exact absurd (hf.eq hgt) (by decide)
    · subst e
      exact absurd (hgt.eq (show TyAt w j 5 from hu)) (by decide)
    · have h1 := pairwise_of_apart (R := fun s t : Seg => ∀ b, s.foot b → ¬ t.foot b) hlog.apart
      have h2 := hp.symm.pairwise h1 (fun {s t} h b hb hc => h b hc hb)
      exact apart_of_pairwise (R := fun s t : Seg => ∀ b, s.foot b → ¬ t.foot b) (fun s t h b hb hc => h b hc hb) h2
  · rintro j (e | e | ⟨s, hs, e⟩)
    · exact .inl (.inl e)
    · exact .inl (.inr (.inl e))
    · exact .inl (.inr (.inr ⟨s, hp.subset hs, e⟩))
/-- Sorted by distinct numbers: there is one such list. -/
theorem ps_unique {A T : List PS} (hp : A.Perm T) (ha : A.Pairwise (fun p q => p.base ≤ q.base)) (ht : T.Pairwise (fun p q => p.base < q.base)) : A = T := by
  refine List.Perm.eq_of_pairwise (le := fun p q => p.base ≤ q.base) ?_ ha (ht.imp (fun h => Nat.le_of_lt h)) hp
  intro a b ha hb h1 h2
  have ha' := hp.subset ha
  obtain ⟨i, hi⟩ := List.getElem?_of_mem ha'
  obtain ⟨j, hj⟩ := List.getElem?_of_mem hb
  by_cases hij : i = j
  · subst hij
    rw [hi] at hj
    simpa using hj
  · have := apart_of_pairwise (R := fun p q : PS => p.base ≠ q.base) (fun s t h => h.symm) (ht.imp (fun h => Nat.ne_of_lt h)) i j a b hi hj hij
    omega
end Go.Proofs.YthgmligpconhhaaGreatDoor

/- Layer 6: Open on files that are whole and go on, walked. -/
namespace Go.Proofs.YthgmligpconhhaaGreatDoor
open Go.RowKit Go.Shelf Go.Sort
set_option linter.unusedVariables false
set_option linter.unusedSimpArgs false
set_option maxRecDepth 100000
attribute [local go_sem] Oper.semAt_some

/-- What Open is asked of: the disk, what base answers of its names, how great its files are. -/
structure OpenIn (w : World) (B d : Nat) (D : Dk) (nm : ByteArray) (room : Int) (bs : ByteArray → Option Nat) : Prop where
  disk : DiskAt w B d D
  nmr : rightNm nm.data.toList = true
  room : 1 ≤ room ∧ room ≤ 1048576
  base : ∀ f ∈ D.now, BaseIs nm f.1 (bs f.1) w
  small : ∀ f ∈ D.now, ∀ n, bs f.1 = some n → n ≤ 4611686018427387904
  len : ∀ f ∈ D.now, f.2.2.length ≤ 1099511627776
  cnt : D.now.length ≤ 100000

/-- The row of the segments is new. -/
theorem LT.sv_ge {w0 w : World} {B l d : Nat} {nm : ByteArray} {room : Int} {D : Dk} {L : Lg} (h : LT w0 w B l (newL d nm room) D L D) {W : Nat} (hl : W ≤ l) (hW : W ≤ w0.heap.size) {k : Nat} (hk : L.sv.ownBlock = some k) : W ≤ k := by
  rcases h.foot k (.inl (.inr (.inl hk))) with ((e | e | ⟨s, hs, e⟩) | e) | e
  · omega
  · cases e
  · cases hs
  · rw [show (newL d nm room).d = L.d from h.d.symm] at e
    exact absurd e (foot_apart h.is.log h.is.disk (.inr (.inl hk)))
  · omega
/-- The log's segments, sorted. -/
theorem ssort_calls (w0 w : World) (B l : Nat) (L0 L : Lg) (D0 D : Dk) (h : LT w0 w B l L0 D0 L D) {v : Value} (hv : L.sv = v) (hnil : L.segs = [] → L.sv = .slice none 0 0) {i : Nat} (hn : L.segs.length ≤ i) (hi : i ≤ 100000) :
    Calls Tryz.prog 36 #[v, .func (.func 37) #[] #[]] w fun e w' => (∃ v, e = .returned v) ∧ ∃ ss : List Seg, ss.Perm L.segs ∧ (ss.map Seg.ps).Pairwise (fun p q => p.base ≤ q.base) ∧ LT w0 w' B l L0 D0 { L with segs := ss } D ∧ ∀ W0 : Nat, (∀ k, v.ownBlock = some k → W0 ≤ k) → W0 ≤ w.heap.size → Below W0 w w' := by
  subst hv
  by_cases h0 : L.segs = []
  · have hs := sortf_nil w (.func (.func 37) #[] #[])
    rw [← hnil h0] at hs
    refine hs.mono ?_
    rintro e w' ⟨hv, rfl⟩
    exact ⟨hv, [], by rw [h0], List.Pairwise.nil, by rw [← h0]; exact h, fun _ _ _ => Below.refl _ _⟩
  · have hlog := h.is.log
    have hpos := List.length_pos_iff.2 h0
    obtain ⟨g, cap, hsv, -⟩ := hlog.ptr 0 hpos
    have hrow := hlog.row
    rw [hsv] at hrow
    have hcs := segsort_calls B g cap (L.segs.map fun s => (s.b, s.base)) w (by rw [List.length_map, List.map_map]; exact hrow) (fun p hp => by
      obtain ⟨s, hs, rfl⟩ := List.mem_map.1 hp
      refine ⟨fun e => ?_, (hlog.segs s hs).at.1⟩
      simp only at e
      subst e
      exact absurd ((own_ty (hlog.segs s hs).box (j := s.b) rfl).eq (own_ty hrow (j := s.b) rfl)) (by decide)) (by rw [List.length_map]; exact hpos) (by rw [List.length_map]; omega)
    rw [List.length_map, ← hsv] at hcs
    refine hcs.mono ?_
    rintro e w' ⟨hv, qs, hqp, hqo, hqr, hqg⟩
    obtain ⟨ss, hsp, rfl⟩ := perm_map_ex hqp
    refine ⟨hv, ss, hsp, ?_, LT.sorted h hsv hsp (by rw [List.map_map] at hqr; exact hqr) hqg, fun W0 hk hW => ?_⟩
    · rw [List.pairwise_map] at hqo ⊢
      exact hqo
    · exact (Only.of_grown hqg).below hW (fun j hj e => by
        have := hk j (by rw [hsv]; exact e)
        omega)
set_option maxHeartbeats 4000000 in
theorem lopen_good (d B : Nat) (D : Dk) (nm : ByteArray) (room : Int) (bs : ByteArray → Option Nat) (T : List PS) (w : World) (h : OpenIn w B d D nm room bs)
    (hT : T.Perm (segF bs D.now)) (hord : T.Pairwise (fun p q => p.base < q.base)) (hchain : ∀ (i : Nat) (p q : PS), T[i]? = some p → T[i + 1]? = some q → q.base = p.base + p.ents.length) (hclean : ∀ p ∈ T, p.dirty = false) (hbd : ∀ p ∈ T, p.base + p.ents.length ≤ 4611686018427387904) :
    Calls Tryz.prog 18 #[.pointer (some ⟨d, 0, none⟩), .string nm, .int .i64 room] w fun e w' => ∃ (l : Nat) (L : Lg), e = .returned (.tuple #[.pointer (some ⟨l, 0, none⟩), .int .i64 0]) ∧ w.heap.size ≤ l ∧ LD w' B l L D ∧ Only (D.foot d) w w' ∧ (∀ j, ldFoot l L D j → D.foot d j ∨ w.heap.size ≤ j) ∧
      L.d = d ∧ L.name = nm ∧ L.room = room ∧ L.broken = false ∧ L.segs.map Seg.ps = T := by
  have HI := Lib.hid h
  clear h
  have hns := rightNm_size HI.out.nmr
  have HR := Lib.hid (lright_calls nm w (by omega))
  have d1 : decide (room < 1) = false := decide_eq_false (by have := HI.out.room; omega)
  have d2 : decide (1048576 < room) = false := decide_eq_false (by have := HI.out.room; omega)
  go_enter Tryz.func18, Tryz.ntmps18
  go_wp2_with fail
  refine HR.out.mono ?_
  rintro e w1 ⟨rfl, hb1⟩
  rw [HI.out.nmr]
  obtain ⟨U, hU⟩ : ∃ U, U = w1.alloc (.cells #[.pointer (some ⟨d, 0, none⟩), .string nm, .int .i64 room, .slice none 0 0, .bool false] 86) := ⟨_, rfl⟩
  have hal := below_alloc w1 (.cells #[.pointer (some ⟨d, 0, none⟩), .string nm, .int .i64 room, .slice none 0 0, .bool false] 86)
  have hsz := hb1.size
  have hBw : B ≤ w.heap.size := by have := HI.out.disk.foot_lt (.inl rfl : D.foot d d); omega
  have HBU := Lib.hid (show Below w.heap.size w U by rw [hU]; exact hb1.trans (hal.mono hsz))
  have HLU := Lib.hid (show LD U B w1.heap.size (newL d nm room) D from by
    refine ⟨?_, HI.out.disk.below HBU.out⟩
    rw [hU]
    refine ⟨World.ownsRow_lit w1 _ 1 (by omega) (by unfold maxLen; omega) rfl, World.ownsRow_nil _ _ _ _, (fun s hs => by cases hs), (fun i j s t hs => by simp [newL] at hs)⟩)
  have HLW := Lib.hid (show w.heap.size ≤ w1.heap.size ∧ w1.heap.size < U.heap.size from ⟨hsz, by rw [hU]; simp⟩)
  clear hb1 hal hsz
  go_upto_region 6 with fail
  rw [← hU]
  clear hU HR
  generalize w1.heap.size = l at *
  go_wp2_with fail
  refine (dnames_calls d B D U HLU.out.disk (by have := HI.out.cnt; omega)).mono ?_
  rintro e w2 ⟨nv, ns, rfl, hns2, hrow2, hb2⟩
  obtain ⟨fs, hfp, hfm⟩ := perm_map_ex (f := fun f : ByteArray × (Value × List UInt8) => f.1.data.toList) (l := D.now) (m := ns) (by rw [hns2]; exact List.mergeSort_perm _ _)
  have hnl : ns.length = fs.length := by rw [← hfm, List.length_map]
  have hfl : fs.length ≤ 100000 := by rw [hfp.length_eq]; exact HI.out.cnt
  have HFP := Lib.hid hfp
  have HFM := Lib.hid hfm
  rw [hnl] at hrow2
  have HROW := Lib.hid hrow2
  obtain ⟨na, nc, rfl⟩ := own_slice hrow2
  have HB2 := Lib.hid hb2
  have HT2 := Lib.hid (LT.of_below HLU.out hb2)
  clear hns2 hfm hfp hrow2 hb2 hnl
  go_wp2_with fail
  -- the loop over the names: fs, the files in the names' order
  go_loopw [10, 11, 12, 13, 14, 15, 44] (fun _ _ _ _ _ _ iv wr => ∃ (i : Nat) (sv : Value) (ss : List Seg), i ≤ fs.length ∧ ss.length ≤ i ∧ iv = .int .i64 i ∧ LT U wr B l (newL d nm room) D ⟨d, nm, room, sv, ss, false⟩ D ∧ Below w.heap.size w wr ∧ wr.ownsRow U.heap.size 9 1 (.slice na fs.length nc) fs.length (ns.map encStr) ∧ ss.map Seg.ps = segF bs (fs.take i) ∧ (ss = [] → sv = .slice none 0 0)) (fun _ _ _ _ _ _ iv _ => fs.length - (intOf iv).toNat)
  case atStart => exact ⟨0, _, [], by omega, by simp, rfl, HT2.out, HBU.out.trans (HB2.out.mono HBU.out.size), HROW.out, rfl, fun _ => rfl⟩
  case round =>
    clear HT2 HROW HB2
    obtain ⟨i, sv, ss, hi, hsl, rfl, hlt, hbw, hrow, hss, hnl⟩ := hrel
    have HNL := Lib.hid hnl
    clear hnl
    have HT := Lib.hid hlt
    have HBW := Lib.hid hbw
    have HROW := Lib.hid hrow
    have HSS := Lib.hid hss
    clear hlt hbw hss
    by_cases hil : i < fs.length
    · obtain ⟨f, hf⟩ : ∃ f, fs[i]? = some f := ⟨_, List.getElem?_eq_getElem hil⟩
      have hfD : f ∈ D.now := HFP.out.subset (List.mem_of_getElem? hf)
      have hfo : fileOf D.now f.1 = f.2.2 := by
        unfold fileOf
        rw [mget_of_mem (v := f.2) HI.out.disk.know (by exact hfD)]
        rfl
      have HTK := Lib.hid (show segF bs (fs.take (i + 1)) = segF bs (fs.take i) ++ segF bs [f] from by
        rw [List.take_succ_eq_append_getElem hil]
        have e : fs[i] = f := (List.getElem?_eq_some_iff.1 hf).2
        rw [e]
        exact List.filterMap_append)
      have hxl := HI.out.len f hfD
      have hnm := HI.out.small f hfD
      have HBA := Lib.hid (HI.out.base f hfD)
      have hcell : (ns.map encStr)[i]? = some (.string f.1) := by
        rw [← HFM.out, List.map_map, List.getElem?_map, hf]
        exact congrArg some (encStr_name f.1)
      rcases hrow.2 with ⟨_, h0⟩ | ⟨ng, ncap, ncur, hvv, hbg, hng, hnn, hmm, -⟩
      · omega
      simp only [Value.slice.injEq] at hvv
      obtain ⟨rfl, -, rfl⟩ := hvv
      have hcl := World.ownsRow.cells hrow (g := ng) rfl i _ hcell
      rw [add_off, Nat.zero_add] at hcl
      obtain ⟨fn, fv, xs⟩ := f
      simp only at hcl hfo hxl hnm HBA
      have hic : i < nc := by omega
      clear hrow hng hmm hf hfD hcell hbg
      go_wp2_with fail
      refine (HBA.out wr HBW.out).mono ?_
      rintro e w3 ⟨rfl, hb3⟩
      have HT := Lib.hid (HT.out.below hb3)
      have HBW := Lib.hid (HBW.out.trans (hb3.mono HBW.out.size))
      have HROW := Lib.hid (ownsRow_below HROW.out hb3 (Nat.le_refl _))
      clear hb3 hcl
      cases hbo : bs fn with
      | none =>
        have HNX := Lib.hid (show ss.map Seg.ps = segF bs (fs.take (i + 1)) from by
          rw [HTK.out, ← HSS.out]
          simp [segF, hbo])
        simp only [bInt]
        clear hbo HTK HSS hnm
        go_wp2_with fail
        go_roundw
        case rel => exact ⟨i + 1, sv, ss, by omega, by omega, by go_num, HT.out, HBW.out, HROW.out, HNX.out, HNL.out⟩
        case measure => simp [intOf]; omega
      | some n =>
        have hn62 := hnm n hbo
        have HNX := Lib.hid (show segF bs (fs.take (i + 1)) = ss.map Seg.ps ++ [psOf n xs] from by
          rw [HTK.out, ← HSS.out]
          simp [segF, hbo])
        simp only [bInt]
        have dn : decide ((0 : Int) ≤ (n : Int)) = true := decide_eq_true (by omega)
        clear hbo HTK HSS hnm
        go_wp2_with fail
        refine (dread_calls d B D fn w3 HT.out.is.disk (by rw [hfo]; exact hxl)).mono ?_
        rintro e w4 ⟨v, rfl, hm4, hb4⟩
        rw [hfo] at hm4
        have HT := Lib.hid (HT.out.below hb4)
        have HBW := Lib.hid (HBW.out.trans (hb4.mono HBW.out.size))
        have HROW := Lib.hid (ownsRow_below HROW.out hb4 (Nat.le_refl _))
        have HM := Lib.hid hm4
        obtain ⟨va, vc, rfl⟩ := hm4.slice
        have HS4 := Lib.hid HT.out.only.size
        have HF4 := Lib.hid (fun j (hj : Lg.foot l ⟨d, nm, room, sv, ss, false⟩ j) => (HT.out.is.log.foot_lt hj).2)
        clear hb4 hm4
        go_wp2_with fail
        refine (Fr.cut_calls _ xs (cntF xs) w4 HM.out.bytes hxl (cntF_is xs)).mono ?_
        rintro e w5 ⟨lv, rfl, hl5, hb5⟩
        have HT := Lib.hid (HT.out.below hb5)
        have HBW := Lib.hid (HBW.out.trans (hb5.mono HBW.out.size))
        have HROW := Lib.hid (ownsRow_below HROW.out hb5 (Nat.le_refl _))
        have HF5 := Lib.hid (And.intro HS4.out (And.intro HF4.out hb5.size))
        obtain ⟨la, lc, rfl⟩ := hl5.slice'
        rw [Fr.FrM.pays_length] at hl5 ⊢
        have HL5 := Lib.hid hl5
        clear hb5 hl5
        have c3 := HT.out.is.log.at.2.2.2.1
        obtain ⟨ra, rc, hrv⟩ := own_slice HT.out.is.log.row
        simp only at c3 hrv
        rw [hrv] at c3
        have hpl := Fr.FrM.pos_le xs (cntF xs) (cntF_is xs).1
        obtain ⟨po, hpo⟩ : ∃ po, po = Fr.FrM.pos xs (cntF xs) := ⟨_, rfl⟩
        obtain ⟨cn, hcn⟩ : ∃ cn, cn = cntF xs := ⟨_, rfl⟩
        have HPS := Lib.hid (show psOf n xs = ⟨n, Fr.FrM.pays xs cn, po, decide (po < xs.length)⟩ from by unfold psOf; rw [hpo, hcn])
        rw [← hpo] at hpl ⊢
        rw [← hcn] at HL5 hpl ⊢
        have HRV := Lib.hid hrv
        have hpol : po ≤ xs.length := hpl.2
        clear hrv hpo hcn hpl
        obtain ⟨W6, hW6⟩ : ∃ W6, W6 = w5.alloc (.cells #[.int .i64 n, .slice la cn lc, .int .i64 po, .bool (decide (po < xs.length))] 96) := ⟨_, rfl⟩
        have hal6 : Below w5.heap.size w5 W6 := by rw [hW6]; exact below_alloc w5 _
        have hs6 : W6.heap.size = w5.heap.size + 1 := by rw [hW6]; simp
        have HB5 := Lib.hid (show B ≤ w5.heap.size from by have := HT.out.is.log.foot_lt (j := l) (.inl rfl); omega)
        obtain ⟨sg, hsb, hsev, hsps, hsat⟩ := segAt_new (w := W6) (B := B) (b := w5.heap.size) (n := n) (e := po) (ev := .slice la cn lc) (xs := xs) (d := decide (po < xs.length)) (by rw [hW6]; exact World.ownsRow_lit w5 _ 1 HB5.out (by unfold maxLen; omega) rfl) (base := w4.heap.size) (pss := Fr.FrM.pays xs cn) (by have := HS4.out; have := HLW.out; omega) (HL5.out.below hal6 (Nat.le_refl _))
        obtain ⟨W7, hW7⟩ : ∃ W7, W7 = W6.alloc (.cells #[.pointer (some ⟨w5.heap.size, 0, none⟩)] 94) := ⟨_, rfl⟩
        have hal7 : Below W6.heap.size W6 W7 := by rw [hW7]; exact below_alloc W6 _
        have HT7 := Lib.hid ((HT.out.below hal6).below hal7)
        have SG7 := Lib.hid (hsat.below hal7)
        have HSG := Lib.hid (And.intro hsb (And.intro hsev hsps))
        have HBW := Lib.hid ((HBW.out.trans (hal6.mono HBW.out.size)).trans (hal7.mono (by have := HBW.out.size; omega)))
        have HROW := Lib.hid (ownsRow_below (ownsRow_below HROW.out hal6 (Nat.le_refl _)) hal7 (Nat.le_refl _))
        have HOW := Lib.hid (show W7.ownsRow B 94 1 (.slice ra ss.length rc) ss.length (ss.map Seg.ptr) from by have := HT7.out.is.log.row; rwa [HRV.out] at this)
        have HLIT := Lib.hid (show Rd W7 1 (.slice (some ⟨w5.heap.size + 1, 0, none⟩) 1 1) 1 [.pointer (some ⟨w5.heap.size, 0, none⟩)] by rw [hW7, ← hs6]; exact Rd.lit (w := W6) (cs := #[.pointer (some ⟨w5.heap.size, 0, none⟩)]) (e := 94) (n := 1) (sz := 1) rfl (by omega))
        have HZ := Lib.hid (show B ≤ W7.heap.size by have := HT7.out.is.log.foot_lt (j := l) (.inl rfl); omega)
        have HW := Lib.hid (And.intro hW6 hW7)
        rw [hW7, hW6] at HOW HLIT HZ HT7 SG7 HBW HROW
        have hss5 : ss.length ≤ 100000 := by omega
        clear hal6 hal7 hsat hsb hsev hsps hW6 hW7 hs6
        go_upto_region 14 with (at_builtin; go_loud (refine app_keep tySegs HOW.out HLIT.out (by simp [Value.oneCell']) (by omega) (by omega) (by omega) HZ.out rfl rfl rfl rfl ?_; intro g gcap w8 h2 h3 h4 h5; have hbx := ownsRow_only HT7.out.is.log.box (Only.of_grown h4) (fun j hj e => by (simp only [Value.ownBlock, Option.some.injEq] at hj; subst hj; exact absurd ((own_ty HOW.out e).eq (own_ty HT7.out.is.log.box (j := l) rfl)) (by decide))); have l3 : w8.cell? ⟨l, 3, none⟩ = some (.slice ra ss.length rc) := (by have e := World.ownsRow.cells hbx (g := l) rfl 3 _ rfl; rw [add_off, Nat.zero_add] at e; rw [← HRV.out]; exact e); have z3 : w8.frozen? ⟨l, 3, none⟩ = false := World.ownsRow.frozenAt hbx 3; have Q2 := Lib.hid h2; have Q4 := Lib.hid h4; have Q5 := Lib.hid h5; clear h2 h3 h4 h5 hbx))
        have HSVB := Lib.hid (show ∀ k, (Value.slice ra ss.length rc).ownBlock = some k → w.heap.size ≤ k from fun k hk => by
          have hk : sv.ownBlock = some k := by rw [HRV.out]; exact hk
          rcases HT7.out.foot k (.inl (.inr (.inl hk))) with ((e | e | ⟨s, hs, e⟩) | e) | e
          · have := HLW.out; omega
          · cases e
          · cases hs
          · exact absurd e (foot_apart HT7.out.is.log HT7.out.is.disk (.inr (.inl hk)))
          · have := HLW.out; omega)
        have ho8 : Only (fun j => j = l ∨ (Value.slice ra ss.length rc).ownBlock = some j) _ (w8.setCell ⟨l, 3, none⟩ (.slice (some ⟨g, 0, none⟩) (ss.length + 1) gcap)) := ((Only.of_grown Q4.out).weak (T := fun j => j = l ∨ (Value.slice ra ss.length rc).ownBlock = some j) (fun j _ e => .inr e)).setCell ⟨l, 3, none⟩ _ (.inl (.inl rfl))
        have HRO := Lib.hid (ownsRow_only HROW.out ho8 (fun j hj e => by
          rcases e with e | e
          · subst e
            exact absurd ((own_ty HROW.out hj).eq (own_ty HT7.out.is.log.box (j := j) rfl)) (by decide)
          · exact absurd ((own_ty HROW.out hj).eq (own_ty HOW.out e)) (by decide)))
        have HBO := Lib.hid (HBW.out.trans (ho8.below (B := w.heap.size) HBW.out.size (fun j hj e => by
          rcases e with e | e
          · have := HLW.out; omega
          · have := HSVB.out j e; omega)))
        have HA := Lib.hid (LT.addSeg HT7.out SG7.out (fun j hj => by
          have h1 := HF5.out
          rcases hj with e | e
          · rw [HSG.out.1] at e; omega
          · rw [HSG.out.2.1] at e
            obtain ⟨vs, hvs, -⟩ := HL5.out
            have := (World.ownsRow.lt hvs j e).1
            omega) (fun j hj hf => by
          have h1 := HF5.out
          have h2 := HF5.out.2.1 j (by
            rcases hf with e | e | e
            · exact .inl e
            · exact .inr (.inl e)
            · exact .inr (.inr e))
          rcases hj with e | e
          · rw [HSG.out.1] at e; omega
          · rw [HSG.out.2.1] at e
            obtain ⟨vs, hvs, -⟩ := HL5.out
            have := (World.ownsRow.lt hvs j e).1
            omega) (sv2 := .slice (some ⟨g, 0, none⟩) (ss.length + 1) gcap) (by rw [show sg.ptr = Value.pointer (some ⟨w5.heap.size, 0, none⟩) by unfold Seg.ptr; rw [HSG.out.1]]; exact Q2.out) (by show World.grownBy _ _ sv.ownBlock; rw [HRV.out]; exact Q4.out) (fun j e => by
          simp only [Value.ownBlock, Option.some.injEq] at e
          subst e
          rcases Q5.out with ⟨k, c, e, -⟩ | e
          · refine .inl ?_
            show sv.ownBlock = _
            rw [HRV.out, e]; rfl
          · exact .inr e))
        have HFI := Lib.hid (show (ss ++ [sg]).map Seg.ps = segF bs (fs.take (i + 1)) by rw [HNX.out, List.map_append, List.map_singleton, HSG.out.2.2, HPS.out])
        have HLE := Lib.hid (show (ss ++ [sg]).length ≤ i + 1 by rw [List.length_append, List.length_singleton]; omega)
        clear ho8 l3 z3 HSVB HPS HSG HNX
        go_wp2_with fail
        go_roundw
        case rel => exact ⟨i + 1, _, ss ++ [sg], by omega, HLE.out, by go_num, HA.out, HBO.out, HRO.out, HFI.out, fun h => by simp at h⟩
        case measure => simp [intOf]; omega
    · obtain rfl : i = fs.length := by omega
      have HPS := Lib.hid (show ss.map Seg.ps = segF bs fs by rw [HSS.out, List.take_length])
      obtain ⟨ra, rc, hrv⟩ := own_slice HT.out.is.log.row
      simp only at hrv
      have c3 := HT.out.is.log.at.2.2.2.1
      simp only at c3
      rw [hrv] at c3
      have HSO := Lib.hid (ssort_calls U wr B l _ _ D D HT.out (v := .slice ra ss.length rc) hrv HNL.out hsl hfl)
      have HRV := Lib.hid hrv
      have HSV := Lib.hid (fun k (hk : (Value.slice ra ss.length rc).ownBlock = some k) => HT.out.sv_ge (W := w.heap.size) (by have := HLW.out; omega) (by have := HLW.out; omega) (k := k) (by show sv.ownBlock = _; rw [hrv]; exact hk))
      have hsl := hsl
      clear hrow hi HSS HROW HNL hrv
      go_wp2_with fail
      refine HSO.out.mono ?_
      rintro e w6 ⟨⟨rv, rfl⟩, qs, hqp, hqo, hlt6, hb6⟩
      have HT := Lib.hid hlt6
      have HBW := Lib.hid (HBW.out.trans (hb6 w.heap.size HSV.out HBW.out.size))
      have hql : qs.length = ss.length := hqp.length_eq
      have HQP := Lib.hid (hqp.map Seg.ps)
      have HQO := Lib.hid hqo
      have HLN := Lib.hid hql
      have c3 := HT.out.is.log.at.2.2.2.1
      simp only at c3
      rw [HRV.out, ← hql] at c3
      have hqn : qs.length ≤ 100000 := by omega
      clear hlt6 hb6 hqp hqo HSO hsl hql
      go_wp2_with fail
      have hTq : qs.map Seg.ps = T := ps_unique ((HQP.out.trans (by rw [HPS.out]; exact HFP.out.filterMap _)).trans hT.symm) HQO.out hord
      have HCL := Lib.hid (show ∀ s ∈ qs, s.dirty = false ∧ s.base + s.evs.length ≤ 4611686018427387904 from fun s hs => by
        have hm : s.ps ∈ T := by rw [← hTq]; exact List.mem_map.2 ⟨s, hs, rfl⟩
        have h1 := hclean _ hm
        have h2 := hbd _ hm
        simp only [Seg.ps, List.length_map] at h1 h2
        exact ⟨h1, h2⟩)
      have HCH := Lib.hid (show ∀ (i : Nat) (s t : Seg), qs[i]? = some s → qs[i + 1]? = some t → t.base = s.base + s.evs.length from fun i s t hs ht => by
        have := hchain i s.ps t.ps (by rw [← hTq, List.getElem?_map, hs]; rfl) (by rw [← hTq, List.getElem?_map, ht]; rfl)
        simpa [Seg.ps] using this)
      have HTQ := Lib.hid hTq
      clear HQP HQO HPS HSV hTq
      go_loopw [16, 17, 18, 98] (fun kv _ _ iv wr2 => ∃ i : Nat, i ≤ qs.length ∧ kv = .int .i64 qs.length ∧ iv = .int .i64 i ∧ LT U wr2 B l (newL d nm room) D ⟨d, nm, room, sv, qs, false⟩ D ∧ Below w.heap.size w wr2) (fun _ _ _ iv _ => qs.length - (intOf iv).toNat)
      case atStart => exact ⟨0, by omega, rfl, rfl, HT.out, HBW.out⟩
      case round =>
        clear HT HBW c3
        obtain ⟨i, hi, rfl, rfl, hlt, hbw⟩ := hrel
        have HT := Lib.hid hlt
        have HBW := Lib.hid hbw
        clear hlt hbw
        by_cases hil : i < qs.length
        · obtain ⟨sb, scap, hsv2, hle, hcm, hcell⟩ := HT.out.is.log.ptr i hil
          simp only at hsv2 hle hcell
          have hv3 := HRV.out.symm.trans hsv2
          simp only [Value.slice.injEq] at hv3
          obtain ⟨rfl, -, rfl⟩ := hv3
          obtain ⟨s, hs⟩ : ∃ s, qs[i]? = some s := ⟨_, List.getElem?_eq_getElem hil⟩
          have hse : qs[i] = s := (List.getElem?_eq_some_iff.1 hs).2
          rw [hse] at hcell
          have hic : i < rc := by omega
          have SG := Lib.hid (HT.out.is.log.segs s (List.mem_of_getElem? hs))
          have hcl := HCL.out s (List.mem_of_getElem? hs)
          have HS := Lib.hid hs
          obtain ⟨zb, zbase, zev, zevs, zsz, zd⟩ := s
          obtain ⟨rfl, -⟩ := hcl
          obtain ⟨s0, -, -, s3⟩ := SG.out.at
          simp only at s0 s3 hcell
          clear hs hse hsv2 hle hcm
          by_cases hi0 : i = 0
          · subst hi0
            go_upto_region 20 with fail
            refine region_m [(0, false), (1, false), (2, false), (3, false), (4, false), (5, false), (6, false), (7, false), (8, false), (9, false), (10, false), (11, false), (12, false), (13, false), (14, false), (15, false), (16, false), (17, false)] 18 (fun X => True) (by kernel_rfl) (by kernel_rfl) trivial ?_
            iterate 18
              first
              | (refine m_take (v := ?_) rfl rfl ?_ ?_
                 rotate_left
                 · intro W hW
                   go_simp
                   with_reducible rfl
                 simp only [Act.put, List.setIfInBounds_toArray, List.set_cons_zero, List.set_cons_succ])
              | (refine m_skip rfl rfl ?_
                 simp only [Act.put, List.setIfInBounds_toArray, List.set_cons_zero, List.set_cons_succ])
            refine m_done ?_
            simp only [List.drop_succ_cons, List.drop_zero]
            have HT := Lib.hid (HT.out.below ((Below.refl _ _).drew))
            have HBW := Lib.hid (HBW.out.drew)
            have s3 := cell_later ((Below.refl wr.heap.size wr).drew) s3
            go_wp2_with fail
            try simp only [NP]
            go_wp2_with fail
            go_roundw
            case rel => exact ⟨0 + 1, by omega, rfl, by go_num, HT.out, HBW.out⟩
            case measure => simp [intOf]; omega
          · have hip : 0 < i := by omega
            have d0 : decide ((0 : Int) < (i : Int)) = true := decide_eq_true (by omega)
            obtain ⟨i', rfl⟩ : ∃ i', i = i' + 1 := ⟨i - 1, by omega⟩
            obtain ⟨p, hp⟩ : ∃ p, qs[i']? = some p := ⟨_, List.getElem?_eq_getElem (by omega)⟩
            have PG := Lib.hid (HT.out.is.log.segs p (List.mem_of_getElem? hp))
            have hpb := (HCL.out p (List.mem_of_getElem? hp)).2
            have hch := HCH.out i' p _ hp HS.out
            obtain ⟨sb2, scap2, hsv3, -, -, hcell2⟩ := HT.out.is.log.ptr i' (by simp only; omega)
            have hv4 := HRV.out.symm.trans hsv3
            simp only [Value.slice.injEq, Option.some.injEq, Addr.mk.injEq, and_true] at hv4
            obtain ⟨rfl, -, rfl⟩ := hv4
            have hpe : qs[i'] = p := (List.getElem?_eq_some_iff.1 hp).2
            simp only at hcell2
            rw [hpe] at hcell2
            obtain ⟨pa, pc, hpv⟩ := own_slice PG.out.row
            obtain ⟨p0, p1, -, -⟩ := PG.out.at
            rw [hpv] at p1
            obtain ⟨pb, pbase, pev, pevs, psz, pd⟩ := p
            simp only at hpb hch hcell2 p0 p1
            clear hsv3 hpe hp hpv hi0
            have Q1 := Lib.hid (And.intro (i64w (n := (i' : Int)) (by omega) (by omega)) (w64 (n := (i' : Int)) (by omega) (by omega)))
            have l3 := HT.out.is.log.at.2.2.2.1
            simp only at l3
            rw [HRV.out, ← HLN.out] at l3
            have hne : ((zbase : Int) != ((pbase + pevs.length : Nat) : Int)) = false := by
              rw [bne_eq_false_iff_eq]; omega
            have hiq : i' < qs.length := by omega
            have hic2 : i' < rc := by omega
            clear hch
            go_upto_region 20 with fail
            refine region_m [(0, false), (1, false), (2, false), (3, false), (4, false), (5, false), (6, false), (7, false), (8, false), (9, false), (10, false), (11, false), (12, false), (13, false), (14, false), (15, true), (16, false), (17, false)] 18 (fun X => X.cell? ⟨zb, 0, none⟩ = some (.int .i64 zbase) ∧ X.cell? ⟨l, 3, none⟩ = some (.slice (some ⟨sb, 0, none⟩) qs.length rc) ∧ X.cell? ⟨sb, i', none⟩ = some (.pointer (some ⟨pb, 0, none⟩))) (by kernel_rfl) (by kernel_rfl) ⟨s0, l3, hcell2⟩ ?_
            obtain ⟨qa, qb⟩ := Q1.out
            iterate 15
              first
              | (refine m_take (v := ?_) rfl rfl ?_ ?_
                 rotate_left
                 · intro W hW
                   go_simp
                   with_reducible rfl
                 simp only [Act.put, List.setIfInBounds_toArray, List.set_cons_zero, List.set_cons_succ])
              | (refine m_skip rfl rfl ?_
                 simp only [Act.put, List.setIfInBounds_toArray, List.set_cons_zero, List.set_cons_succ])
            clear qa qb
            refine m_loud rfl (fun K hK => ?_)
            have HK := Lib.hid hK
            clear hK
            go_simp
            refine (snext_calls pb pbase (.slice pa pevs.length pc) pevs.length wr.drew p0 p1 ⟨_, _, rfl⟩ (by omega)).mono ?_
            rintro e w7 ⟨rfl, hb7⟩
            have hb7 : Below wr.heap.size wr w7 := ((Below.refl wr.heap.size wr).drew).trans hb7
            have HT := Lib.hid (HT.out.below hb7)
            have HBW := Lib.hid (HBW.out.trans (hb7.mono HBW.out.size))
            refine HK.out _ _ ⟨cell_later hb7 s0, cell_later hb7 l3, cell_later hb7 hcell2⟩ ?_
            clear HK
            have s3 := cell_later hb7 s3
            clear hb7
            iterate 2
              first
              | (refine m_take (v := ?_) rfl rfl ?_ ?_
                 rotate_left
                 · intro W hW
                   go_simp
                   with_reducible rfl
                 simp only [Act.put, List.setIfInBounds_toArray, List.set_cons_zero, List.set_cons_succ])
              | (refine m_skip rfl rfl ?_
                 simp only [Act.put, List.setIfInBounds_toArray, List.set_cons_zero, List.set_cons_succ])
            refine m_done ?_
            simp only [List.drop_succ_cons, List.drop_zero]
            go_wp2_with fail
            try simp only [NP]
            go_wp2_with fail
            go_roundw
            case rel => exact ⟨i' + 1 + 1, by omega, rfl, by go_num, HT.out, HBW.out⟩
            case measure => simp [intOf]; omega
        · obtain rfl : i = qs.length := by omega
          have l3 := HT.out.is.log.at.2.2.2.1
          simp only at l3
          rw [HRV.out, ← HLN.out] at l3
          clear hil hi
          go_wp2_with fail
          go_loopw [19] (fun _ wr2 => wr2 = wr) (fun _ _ => 0)
          case atStart => exact rfl
          case round =>
            subst hrel
            have HFIN := Lib.hid (show Only (D.foot d) w wr ∧ ∀ j, ldFoot l ⟨d, nm, room, sv, qs, false⟩ D j → D.foot d j ∨ w.heap.size ≤ j from by
              have hl := HLW.out
              refine ⟨Only.of_below HBW.out, fun j hj => ?_⟩
              rcases HT.out.foot j hj with ((e | e | ⟨s, hs, e⟩) | e) | e
              · right; omega
              · cases e
              · cases hs
              · exact .inl e
              · right; omega)
            by_cases hq0 : qs = []
            · subst hq0
              go_wp2_with fail
              go_ret2
              exact ⟨l, _, rfl, HLW.out.1, HT.out.is, HFIN.out.1, HFIN.out.2, rfl, rfl, rfl, rfl, HTQ.out⟩
            · obtain ⟨m, hm⟩ : ∃ m, qs.length = m + 1 := ⟨qs.length - 1, by have := List.length_pos_iff.2 hq0; omega⟩
              obtain ⟨sb, scap, hsv2, hle, -, hcell⟩ := HT.out.is.log.ptr m (by simp only; omega)
              have hv3 := HRV.out.symm.trans hsv2
              simp only [Value.slice.injEq] at hv3
              obtain ⟨rfl, -, rfl⟩ := hv3
              obtain ⟨s, hs⟩ : ∃ s, qs[m]? = some s := ⟨_, List.getElem?_eq_getElem (by omega)⟩
              have hse : qs[m] = s := (List.getElem?_eq_some_iff.1 hs).2
              simp only at hcell hle
              rw [hse] at hcell
              have SG := HT.out.is.log.segs s (List.mem_of_getElem? hs)
              have hcl := (HCL.out s (List.mem_of_getElem? hs)).1
              obtain ⟨-, -, -, s3⟩ := SG.at
              rw [hcl] at s3
              have hmc : m < rc := by omega
              have hml : m ≤ 100000 := by omega
              have d0 : decide ((0 : Int) < (m : Int) + 1) = true := decide_eq_true (by omega)
              have b1 : (m : Int) < (m : Int) + 1 := by omega
              have Q1 := Lib.hid (And.intro (i64w (n := (m : Int)) (by omega) (by omega)) (w64 (n := (m : Int)) (by omega) (by omega)))
              rw [hm] at l3
              clear hse hs hcl SG hsv2 hle hq0
              go_wp2_with fail
              go_ret2
              exact ⟨l, _, rfl, HLW.out.1, HT.out.is, HFIN.out.1, HFIN.out.2, rfl, rfl, rfl, rfl, HTQ.out⟩
end Go.Proofs.YthgmligpconhhaaGreatDoor

/- Layer 6: a log whose entries are durable, and what Open makes of its files; no call walked. -/
namespace Go.Proofs.YthgmligpconhhaaGreatDoor
open Go.RowKit Go.Shelf
set_option linter.unusedVariables false
set_option linter.unusedSimpArgs false
set_option maxRecDepth 100000

/-! ### Frames, one behind the other -/
theorem cntF_row {ps : List (List UInt8)} (hp : ∀ p ∈ ps, p.length ≤ 65536) : cntF (Fr.FrM.rowOf ps) = ps.length ∧ Fr.FrM.pays (Fr.FrM.rowOf ps) ps.length = ps ∧ Fr.FrM.pos (Fr.FrM.rowOf ps) ps.length = (Fr.FrM.rowOf ps).length := by
  obtain ⟨h1, h2, h3⟩ := Fr.FrM.row_count ps (Fr.FrM.rowOf ps).length ps.length (Fr.FrM.rowOf ps) (by rw [List.take_length]) (Nat.le_refl _) hp (Nat.le_refl _) (Fr.FrM.endAt_le ps _) (.inl rfl)
  refine ⟨Fr.FrM.Count.unique (cntF_is _) h1, by rw [h3, List.take_length], ?_⟩
  rw [h2 _ (Nat.le_refl _), Fr.FrM.endAt_all]
theorem psOf_row {ps : List (List UInt8)} (hp : ∀ p ∈ ps, p.length ≤ 65536) (n : Nat) : psOf n (Fr.FrM.rowOf ps) = ⟨n, ps, (Fr.FrM.rowOf ps).length, false⟩ := by
  obtain ⟨h1, h2, h3⟩ := cntF_row hp
  unfold psOf
  rw [h1, h2, h3, decide_eq_false (Nat.lt_irrefl _)]

/-! ### Durable -/
structure GS (L : Lg) (D : Dk) : Prop where
  txt : ∀ s ∈ L.segs, fileOf D.now (fnm L.name s.base) = Fr.FrM.rowOf (s.evs.map Prod.snd)
  onl : ∀ nm, (mget D.now nm).isSome = true → ∃ s ∈ L.segs, nm = fnm L.name s.base
  cl : ∀ s ∈ L.segs, s.dirty = false
  dur : ∀ nm, (mget D.dur nm).map Prod.snd = (mget D.now nm).map Prod.snd
  chg : D.chg = []
/-- One segment is not durable. -/
structure GA (L : Lg) (D : Dk) : Prop where
  txt : ∀ s ∈ L.segs, fileOf D.now (fnm L.name s.base) = Fr.FrM.rowOf (s.evs.map Prod.snd)
  onl : ∀ nm, (mget D.now nm).isSome = true → ∃ s ∈ L.segs, nm = fnm L.name s.base
  one : ∃ b, (∃ s ∈ L.segs, s.base = b ∧ s.dirty = true) ∧ (∀ s ∈ L.segs, s.dirty = true → s.base = b) ∧ (∀ nm, nm ≠ fnm L.name b → (mget D.dur nm).map Prod.snd = (mget D.now nm).map Prod.snd) ∧ ∀ c ∈ D.chg, c.nm = fnm L.name b
theorem GS.new (d : Nat) (nm : ByteArray) (room rm : Int) (n : Nat) : GS (newL d nm rm) (newD room n) :=
  ⟨(fun s hs => by cases hs), (fun nm h => by simp [newD, mget] at h), (fun s hs => by cases hs), fun nm => rfl, rfl⟩
theorem GS.app {L L' : Lg} {D D' : Dk} {E : List (List UInt8)} {ys : List UInt8} (h : GS L D) (hg : GL L D 0 E) (ha : AppStay L D ys L' D' ∨ AppFresh L D ys L' D') : GA L' D' := by
  rcases ha with ⟨i, s, nv, dv, cv, ev, v, hl, hs, hsz, rfl, rfl⟩ | ⟨Ls, Ds, b, nv, dv, cv, sv, ev, v, hfr, rfl, rfl⟩
  · have hsm := List.mem_of_getElem? hs
    have hil := (List.getElem?_eq_some_iff.1 hs).1
    have hbase : ∀ (j : Nat) (t : Seg), L.segs[j]? = some t → j ≠ i → t.base ≠ s.base := fun j t ht hj => hg.dif j i t s ht hs hj
    have hfn : ∀ t : Seg, t.base ≠ s.base → fnm L.name t.base ≠ fnm L.name s.base := fun t ht e => ht (fnm_inj e)
    obtain ⟨s', hs'⟩ : ∃ s' : Seg, s' = { s with ev := ev, evs := s.evs ++ [(v, ys)], size := s.size + (12 + ys.length), dirty := true } := ⟨_, rfl⟩
    rw [← hs']
    have hsb : s'.base = s.base := by rw [hs']
    have hmem : ∀ t ∈ L.segs.set i s', (t = s') ∨ (t ∈ L.segs ∧ t.base ≠ s.base) := fun t ht => by
      obtain ⟨j, hj⟩ := List.getElem?_of_mem ht
      by_cases hji : j = i
      · subst hji
        rw [List.getElem?_set_self hil] at hj
        simp only [Option.some.injEq] at hj
        exact .inl hj.symm
      · rw [List.getElem?_set_ne (fun e => hji e.symm)] at hj
        exact .inr ⟨List.mem_of_getElem? hj, hbase j t hj hji⟩
    have hlen : (fileOf D.now (fnm L.name s.base)).length = s.size := (hg.file s hsm).2
    refine ⟨fun t ht => ?_, fun nm hn => ?_, s.base, ⟨s', List.mem_of_getElem? (List.getElem?_set_self hil), hsb, by rw [hs']⟩, fun t ht hd => ?_, fun nm hn => ?_, fun c hc => ?_⟩
    · show fileOf (mput D.now (fnm L.name s.base) (nv, wrt (fileOf D.now (fnm L.name s.base)) (Fr.FrM.frameOf ys) s.size)) (fnm L.name t.base) = _
      rcases hmem t ht with rfl | ⟨htm, hb⟩
      · rw [hsb, fileOf_put_same, ← hlen, wrt_end, h.txt s hsm, hs']
        simp only [List.map_append, List.map_cons, List.map_nil]
        rw [Fr.FrM.rowOf_append, Fr.FrM.rowOf_one]
      · rw [fileOf_put_other (hfn t hb)]
        exact h.txt t htm
    · by_cases e : nm = fnm L.name s.base
      · exact ⟨s', List.mem_of_getElem? (List.getElem?_set_self hil), by rw [hsb]; exact e⟩
      · have hn : (mget (mput D.now (fnm L.name s.base) (nv, wrt (fileOf D.now (fnm L.name s.base)) (Fr.FrM.frameOf ys) s.size)) nm).isSome = true := hn
        rw [mget_put_other e] at hn
        obtain ⟨t, ht, rfl⟩ := h.onl nm hn
        obtain ⟨j, hj⟩ := List.getElem?_of_mem ht
        have hji : j ≠ i := fun e2 => by
          subst e2
          rw [hs] at hj
          simp only [Option.some.injEq] at hj
          exact e (by rw [hj])
        exact ⟨t, List.mem_of_getElem? (by show (L.segs.set i s')[j]? = _; rw [List.getElem?_set_ne (fun e => hji e.symm)]; exact hj), rfl⟩
    · rcases hmem t ht with rfl | ⟨htm, hb⟩
      · exact hsb
      · rw [h.cl t htm] at hd; cases hd
    · show (mget D.dur nm).map Prod.snd = (mget (mput D.now (fnm L.name s.base) (nv, wrt (fileOf D.now (fnm L.name s.base)) (Fr.FrM.frameOf ys) s.size)) nm).map Prod.snd
      rw [mget_put_other hn]
      exact h.dur nm
    · have hc : c ∈ D.chg ++ [⟨0, fnm L.name s.base, (s.size : Int), dv, Fr.FrM.frameOf ys⟩] := hc
      rw [h.chg, List.nil_append, List.mem_singleton] at hc
      rw [hc]
  · have hLs : Ls = L ∧ Ds = D := by
      rcases hfr with ⟨-, h1, h2⟩ | ⟨i, s, hl, hs, -, ⟨-, h1, h2⟩ | ⟨hd, -⟩⟩
      · exact ⟨h1, h2⟩
      · exact ⟨h1, h2⟩
      · rw [h.cl s (List.mem_of_getElem? hs)] at hd; cases hd
    obtain ⟨rfl, rfl⟩ := hLs
    have hnx := hg.next
    rw [Nat.zero_add] at hnx
    have hbl : ∀ t ∈ Ls.segs, t.base ≠ nextOf Ls := fun t ht => by
      have := hg.mem t ht
      omega
    have hnone : mget Ds.now (fnm Ls.name (nextOf Ls)) = none := by
      cases hm : mget Ds.now (fnm Ls.name (nextOf Ls)) with
      | none => rfl
      | some p =>
        obtain ⟨t, ht, e⟩ := h.onl _ (by rw [hm]; rfl)
        exact absurd (fnm_inj e).symm (hbl t ht)
    have hfo : fileOf Ds.now (fnm Ls.name (nextOf Ls)) = [] := fileOf_none hnone
    have hwr : wrt ([] : List UInt8) (Fr.FrM.frameOf ys) 0 = Fr.FrM.frameOf ys := by have := wrt_end [] (Fr.FrM.frameOf ys); simpa using this
    refine ⟨fun t ht => ?_, fun nm hn => ?_, nextOf Ls, ⟨_, List.mem_append_right _ (List.mem_singleton_self _), rfl, rfl⟩, fun t ht hd => ?_, fun nm hn => ?_, fun c hc => ?_⟩
    · show fileOf (mput Ds.now (fnm Ls.name (nextOf Ls)) (nv, wrt (fileOf Ds.now (fnm Ls.name (nextOf Ls))) (Fr.FrM.frameOf ys) 0)) (fnm Ls.name t.base) = _
      rcases List.mem_append.1 ht with ht | ht
      · rw [fileOf_put_other (fun e => hbl t ht (fnm_inj e))]
        exact h.txt t ht
      · rw [List.mem_singleton.1 ht]
        simp only [List.map_cons, List.map_nil]
        rw [fileOf_put_same, hfo, hwr, Fr.FrM.rowOf_one]
    · by_cases e : nm = fnm Ls.name (nextOf Ls)
      · exact ⟨_, List.mem_append_right _ (List.mem_singleton_self _), e⟩
      · have hn : (mget (mput Ds.now (fnm Ls.name (nextOf Ls)) (nv, wrt (fileOf Ds.now (fnm Ls.name (nextOf Ls))) (Fr.FrM.frameOf ys) 0)) nm).isSome = true := hn
        rw [mget_put_other e] at hn
        obtain ⟨t, ht, rfl⟩ := h.onl nm hn
        exact ⟨t, List.mem_append_left _ ht, rfl⟩
    · rcases List.mem_append.1 ht with ht | ht
      · rw [h.cl t ht] at hd; cases hd
      · rw [List.mem_singleton.1 ht]
    · show (mget Ds.dur nm).map Prod.snd = (mget (mput Ds.now (fnm Ls.name (nextOf Ls)) (nv, wrt (fileOf Ds.now (fnm Ls.name (nextOf Ls))) (Fr.FrM.frameOf ys) 0)) nm).map Prod.snd
      rw [mget_put_other hn]
      exact h.dur nm
    · have hc : c ∈ Ds.chg ++ [⟨0, fnm Ls.name (nextOf Ls), ((0 : Nat) : Int), dv, Fr.FrM.frameOf ys⟩] := hc
      rw [h.chg, List.nil_append, List.mem_singleton] at hc
      rw [hc]
theorem Sy.dur {L : Lg} {D : Dk} {b : Nat} (h1 : ∀ s ∈ L.segs, s.dirty = true → s.base = b) (h2 : ∀ nm, nm ≠ fnm L.name b → (mget D.dur nm).map Prod.snd = (mget D.now nm).map Prod.snd) (h3 : ∀ c ∈ D.chg, c.nm = fnm L.name b) (h4 : (mget D.now (fnm L.name b)).isSome = true) {k : Nat} {D' : Dk} (h : Sy L D k D') :
    D'.now = D.now ∧ (∀ nm, nm ≠ fnm L.name b → (mget D'.dur nm).map Prod.snd = (mget D.now nm).map Prod.snd) ∧ (∀ c ∈ D'.chg, c.nm = fnm L.name b) ∧ ((∃ j s, j < k ∧ L.segs[j]? = some s ∧ s.dirty = true) → D'.chg = [] ∧ ∀ nm, (mget D'.dur nm).map Prod.snd = (mget D.now nm).map Prod.snd) := by
  induction h with
  | zero => exact ⟨rfl, h2, h3, fun ⟨j, s, hj, _⟩ => by omega⟩
  | @skip k D' s hs hk hd ih =>
    obtain ⟨i1, i2, i3, i4⟩ := ih
    refine ⟨i1, i2, i3, fun ⟨j, t, hj, ht, htd⟩ => i4 ⟨j, t, ?_, ht, htd⟩⟩
    by_cases e : j = k
    · subst e
      rw [hk] at ht
      simp only [Option.some.injEq] at ht
      subst ht
      rw [hd] at htd; cases htd
    · omega
  | @sync k D' s cv v hs hk hd ih =>
    obtain ⟨i1, i2, i3, i4⟩ := ih
    have hb := h1 s (List.mem_of_getElem? hk) hd
    subst hb
    have hc : (syD D' (fnm L.name s.base) cv v).chg = [] := by
      show D'.chg.filter (fun c => !isNm (fnm L.name s.base) c) = []
      rw [List.filter_eq_nil_iff]
      intro c hc
      have := i3 c hc
      simp [isNm, this]
    have hdu : ∀ nm, (mget (syD D' (fnm L.name s.base) cv v).dur nm).map Prod.snd = (mget D.now nm).map Prod.snd := by
      intro nm
      show (mget (match mget D'.now (fnm L.name s.base) with | some f => mput D'.dur (fnm L.name s.base) (v, f.2) | none => mdel D'.dur (fnm L.name s.base)) nm).map Prod.snd = _
      rw [i1]
      cases hm : mget D.now (fnm L.name s.base) with
      | none => rw [hm] at h4; cases h4
      | some f =>
        simp only
        by_cases e : nm = fnm L.name s.base
        · subst e
          rw [mget_put_same, hm]
          rfl
        · rw [mget_put_other e]
          exact i2 nm e
    exact ⟨i1, fun nm _ => hdu nm, (fun c hcc => by rw [hc] at hcc; cases hcc), fun _ => ⟨hc, hdu⟩⟩
theorem GA.sync {L : Lg} {D D' : Dk} {E : List (List UInt8)} (h : GA L D) (hg : GL L D 0 E) (hs : Sy L D L.segs.length D') : GS { L with segs := clean L.segs.length L.segs } D' := by
  obtain ⟨b, ⟨s0, hs0, hb0, hd0⟩, h1, h2, h3⟩ := h.one
  obtain ⟨j, hj⟩ := List.getElem?_of_mem hs0
  obtain ⟨i1, -, -, i4⟩ := Sy.dur h1 h2 h3 (by rw [← hb0]; exact (hg.file s0 hs0).1) hs
  obtain ⟨i5, i6⟩ := i4 ⟨j, s0, (List.getElem?_eq_some_iff.1 hj).1, hj, hd0⟩
  have hcl : clean L.segs.length L.segs = L.segs.map (fun s => { s with dirty := false }) := by
    unfold clean
    rw [List.take_length, List.drop_length, List.append_nil]
  refine ⟨fun s hsm => ?_, fun nm hn => ?_, fun s hsm => ?_, fun nm => by rw [i6 nm, i1], i5⟩
  · have hsm : s ∈ clean L.segs.length L.segs := hsm
    rw [hcl] at hsm
    obtain ⟨t, ht, rfl⟩ := List.mem_map.1 hsm
    rw [i1]
    exact h.txt t ht
  · rw [i1] at hn
    obtain ⟨t, ht, e⟩ := h.onl nm hn
    exact ⟨{ t with dirty := false }, by show _ ∈ clean L.segs.length L.segs; rw [hcl]; exact List.mem_map.2 ⟨t, ht, rfl⟩, e⟩
  · have hsm : s ∈ clean L.segs.length L.segs := hsm
    rw [hcl] at hsm
    obtain ⟨t, ht, rfl⟩ := List.mem_map.1 hsm
    rfl
end Go.Proofs.YthgmligpconhhaaGreatDoor

/- Layer 6: a durable log, opened again; no call walked. -/
namespace Go.Proofs.YthgmligpconhhaaGreatDoor
open Go.RowKit Go.Shelf
set_option linter.unusedVariables false
set_option linter.unusedSimpArgs false
set_option maxRecDepth 100000

theorem fileOf_mem {m : Files} (hn : (m.map (·.1)).Nodup) {f : ByteArray × (Value × List UInt8)} (hf : f ∈ m) : fileOf m f.1 = f.2.2 := by
  unfold fileOf
  rw [mget_of_mem (v := f.2) hn (by exact hf)]
  rfl
theorem keys_perm {a : Files} {l : List ByteArray} (ha : (a.map (·.1)).Nodup) (hl : l.Nodup) (h : ∀ k, (mget a k).isSome = true ↔ k ∈ l) : (a.map (·.1)).Perm l :=
  (List.perm_ext_iff_of_nodup ha hl).2 (fun k => by rw [← mget_some (m := a), h k])
theorem used_map {a : Files} (ha : (a.map (·.1)).Nodup) : usedOf a = ((a.map (·.1)).map fun k => (fileOf a k).length).sum := by
  unfold usedOf
  rw [List.map_map]
  congr 1
  apply List.map_congr_left
  intro f hf
  show f.2.2.length = (fileOf a f.1).length
  rw [fileOf_mem ha hf]
theorem files_used {a b : Files} (ha : (a.map (·.1)).Nodup) (hb : (b.map (·.1)).Nodup) (h : ∀ nm, (mget a nm).map Prod.snd = (mget b nm).map Prod.snd) : usedOf a = usedOf b := by
  have hp : (a.map (·.1)).Perm (b.map (·.1)) := keys_perm ha hb (fun k => by
    rw [← mget_some (m := b)]
    have := congrArg Option.isSome (h k)
    simp only [Option.isSome_map] at this
    rw [this])
  rw [used_map ha, used_map hb]
  have e : ∀ k, fileOf a k = fileOf b k := fun k => by unfold fileOf; rw [h k]
  rw [show (fun k => (fileOf a k).length) = fun k => (fileOf b k).length from funext fun k => by rw [e k]]
  exact (hp.map _).sum_nat
theorem fm_congr {α β : Type} {f g : α → Option β} : ∀ {l : List α}, (∀ a ∈ l, f a = g a) → l.filterMap f = l.filterMap g
  | [], _ => rfl
  | a :: l, h => by
    rw [List.filterMap_cons, List.filterMap_cons, h a List.mem_cons_self, fm_congr (fun b hb => h b (List.mem_cons_of_mem _ hb))]
/-- The number in a name. -/
def bsOf (N : ByteArray) (f : ByteArray) : Option Nat := (List.range 100).find? (fun n => decide (fnm N n = f))
theorem bsOf_at (N : ByteArray) {n : Nat} (hn : n < 100) : bsOf N (fnm N n) = some n := by
  unfold bsOf
  refine find_at _ _ n n (by rw [List.getElem?_range hn]) (by simp) (fun i y hi hy => ?_)
  rw [List.getElem?_range (by omega)] at hy
  simp only [Option.some.injEq] at hy
  subst hy
  rw [decide_eq_false_iff_not]
  intro e
  have := fnm_inj e
  omega
theorem segs_files {N : ByteArray} {l : List Seg} {F : Files} (hF : (F.map (·.1)).Nodup) (h1 : ∀ s ∈ l, (mget F (fnm N s.base)).isSome = true ∧ fileOf F (fnm N s.base) = Fr.FrM.rowOf (s.evs.map Prod.snd)) (h2 : ∀ nm, (mget F nm).isSome = true → ∃ s ∈ l, nm = fnm N s.base)
    (hb : l.Pairwise (fun s t => s.base < t.base)) (hs : ∀ s ∈ l, ∀ x ∈ s.evs, x.2.length ≤ 65536) (hn : ∀ s ∈ l, s.base < 100) (hz : ∀ s ∈ l, s.size = (Fr.FrM.rowOf (s.evs.map Prod.snd)).length ∧ s.dirty = false) : (l.map Seg.ps).Perm (segF (bsOf N) F) := by
  have hB : (l.map fun s => fnm N s.base).Nodup := by
    unfold List.Nodup
    rw [List.pairwise_map]
    exact hb.imp (fun h e => by have := fnm_inj e; omega)
  have hp : (F.map (·.1)).Perm (l.map fun s => fnm N s.base) := keys_perm hF hB (fun k => ⟨fun h => by
    obtain ⟨s, hs, e⟩ := h2 k h
    exact List.mem_map.2 ⟨s, hs, e.symm⟩, fun h => by
    obtain ⟨s, hs, e⟩ := List.mem_map.1 h
    rw [← e]
    exact (h1 s hs).1⟩)
  have e1 : segF (bsOf N) F = (F.map (·.1)).filterMap (fun k => (bsOf N k).map fun n => psOf n (fileOf F k)) := by
    unfold segF
    rw [List.filterMap_map]
    apply fm_congr
    intro f hf
    show (bsOf N f.1).map (fun n => psOf n f.2.2) = (bsOf N f.1).map fun n => psOf n (fileOf F f.1)
    rw [fileOf_mem hF hf]
  have e2 : (l.map fun s => fnm N s.base).filterMap (fun k => (bsOf N k).map fun n => psOf n (fileOf F k)) = l.map Seg.ps := by
    rw [List.filterMap_map, ← List.filterMap_eq_map]
    apply fm_congr
    intro s hsm
    show (bsOf N (fnm N s.base)).map (fun n => psOf n (fileOf F (fnm N s.base))) = some s.ps
    rw [bsOf_at N (hn s hsm), (h1 s hsm).2]
    show some (psOf s.base (Fr.FrM.rowOf (s.evs.map Prod.snd))) = some s.ps
    rw [psOf_row (fun p hp => by
      obtain ⟨x, hx, rfl⟩ := List.mem_map.1 hp
      exact hs s hsm x hx)]
    unfold Seg.ps
    rw [(hz s hsm).1, (hz s hsm).2]
  rw [e1, ← e2]
  exact (hp.symm).filterMap _
/-! ### Chains -/
theorem chain_ord : ∀ {f : Nat} {l : List Seg}, chainFrom f l → l.Pairwise (fun s t => s.base < t.base)
  | f, [], _ => List.Pairwise.nil
  | f, s :: r, h => by
    obtain ⟨h1, h2, h3⟩ := h
    have hp := List.length_pos_iff.2 h2
    exact List.Pairwise.cons (fun t ht => by have := (chain_mem h3 t ht).1; omega) (chain_ord h3)
theorem chain_step : ∀ {f : Nat} {l : List Seg}, chainFrom f l → ∀ (i : Nat) (s t : Seg), l[i]? = some s → l[i + 1]? = some t → t.base = s.base + s.evs.length
  | f, [], _, i, s, t, hs, _ => by simp at hs
  | f, a :: r, h, 0, s, t, hs, ht => by
    obtain ⟨h1, h2, h3⟩ := h
    simp only [List.getElem?_cons_zero, Option.some.injEq] at hs
    subst hs
    rw [List.getElem?_cons_succ] at ht
    cases r with
    | nil => simp at ht
    | cons b r =>
      simp only [List.getElem?_cons_zero, Option.some.injEq] at ht
      subst ht
      rw [h3.1, h1]
  | f, a :: r, h, i + 1, s, t, hs, ht => by
    rw [List.getElem?_cons_succ] at hs ht
    exact chain_step h.2.2 i s t hs ht
theorem ps_eq {s t : Seg} (h : s.ps = t.ps) : s.base = t.base ∧ s.evs.map Prod.snd = t.evs.map Prod.snd ∧ s.size = t.size ∧ s.dirty = t.dirty := by
  unfold Seg.ps at h
  simp only [PS.mk.injEq] at h
  exact h
theorem chain_ps : ∀ {f : Nat} {l l' : List Seg}, l'.map Seg.ps = l.map Seg.ps → chainFrom f l → chainFrom f l'
  | f, [], l', h, _ => by
    have : l' = [] := by simpa using h
    subst this
    trivial
  | f, s :: r, [], h, _ => by simp at h
  | f, s :: r, s' :: r', h, hc => by
    simp only [List.map_cons, List.cons.injEq] at h
    obtain ⟨e1, e2, -, -⟩ := ps_eq h.1
    have el : s'.evs.length = s.evs.length := by have := congrArg List.length e2; simpa using this
    obtain ⟨h1, h2, h3⟩ := hc
    refine ⟨by rw [e1]; exact h1, fun e => h2 (List.eq_nil_of_length_eq_zero (by rw [← el, e]; rfl)), ?_⟩
    rw [el]
    exact chain_ps h.2 h3
theorem ents_ps {l l' : List Seg} (h : l'.map Seg.ps = l.map Seg.ps) : entsOf l' = entsOf l := by
  have e : ∀ l : List Seg, entsOf l = (l.map Seg.ps).flatMap PS.ents := fun l => by
    rw [List.flatMap_map]
    rfl
  rw [e l, e l', h]
theorem mem_ps {l l' : List Seg} (h : l'.map Seg.ps = l.map Seg.ps) {s : Seg} (hs : s ∈ l') : ∃ t ∈ l, s.base = t.base ∧ s.evs.map Prod.snd = t.evs.map Prod.snd ∧ s.size = t.size ∧ s.dirty = t.dirty := by
  have : s.ps ∈ l.map Seg.ps := by rw [← h]; exact List.mem_map.2 ⟨s, hs, rfl⟩
  obtain ⟨t, ht, e⟩ := List.mem_map.1 this
  exact ⟨t, ht, ps_eq e.symm⟩
/-! ### Behind a crash -/
theorem GS.same {L : Lg} {D : Dk} (h : GS L D) (nm : ByteArray) : (mget D.dur nm).isSome = (mget D.now nm).isSome ∧ fileOf D.dur nm = fileOf D.now nm := by
  have := h.dur nm
  refine ⟨?_, ?_⟩
  · have := congrArg Option.isSome this
    simpa only [Option.isSome_map] using this
  · unfold fileOf
    rw [this]
/-- What Open asks of the files behind a crash. -/
theorem GS.open_ {L : Lg} {D : Dk} {E : List (List UInt8)} (h : GS L D) (hg : GL L D 0 E) (hn : E.length ≤ 90) (hd : (D.dur.map (·.1)).Nodup) (nb : Nat) :
    (L.segs.map Seg.ps).Perm (segF (bsOf L.name) (crD D nb).now) ∧ (L.segs.map Seg.ps).Pairwise (fun p q => p.base < q.base) ∧ (∀ (i : Nat) (p q : PS), (L.segs.map Seg.ps)[i]? = some p → (L.segs.map Seg.ps)[i + 1]? = some q → q.base = p.base + p.ents.length) ∧ (∀ p ∈ L.segs.map Seg.ps, p.dirty = false) ∧ ∀ p ∈ L.segs.map Seg.ps, p.base + p.ents.length ≤ 4611686018427387904 := by
  have hz : ∀ s ∈ L.segs, s.size = (Fr.FrM.rowOf (s.evs.map Prod.snd)).length ∧ s.dirty = false := fun s hs => ⟨by rw [← h.txt s hs]; exact (hg.file s hs).2.symm, h.cl s hs⟩
  refine ⟨segs_files hd (fun s hs => ?_) (fun nm hnm => ?_) (chain_ord hg.chain) hg.small (fun s hs => by have := hg.mem s hs; omega) hz, ?_, fun i p q hp hq => ?_, fun p hp => ?_, fun p hp => ?_⟩
  · show (mget D.dur (fnm L.name s.base)).isSome = true ∧ fileOf D.dur (fnm L.name s.base) = _
    obtain ⟨e1, e2⟩ := h.same (fnm L.name s.base)
    exact ⟨by rw [e1]; exact (hg.file s hs).1, by rw [e2]; exact h.txt s hs⟩
  · have hnm : (mget D.dur nm).isSome = true := hnm
    rw [(h.same nm).1] at hnm
    exact h.onl nm hnm
  · rw [List.pairwise_map]
    exact chain_ord hg.chain
  · rw [List.getElem?_map] at hp hq
    cases hs : L.segs[i]? with
    | none => rw [hs] at hp; simp at hp
    | some s =>
      cases ht : L.segs[i + 1]? with
      | none => rw [ht] at hq; simp at hq
      | some t =>
        rw [hs] at hp
        rw [ht] at hq
        simp only [Option.map_some, Option.some.injEq] at hp hq
        subst hp hq
        have := chain_step hg.chain i s t hs ht
        simpa [Seg.ps] using this
  · obtain ⟨s, hs, rfl⟩ := List.mem_map.1 hp
    exact h.cl s hs
  · obtain ⟨s, hs, rfl⟩ := List.mem_map.1 hp
    have := hg.mem s hs
    simp only [Seg.ps, List.length_map]
    omega
theorem GS.again {L L' : Lg} {D : Dk} {E : List (List UInt8)} (h : GS L D) (hg : GL L D 0 E) (hk : (D.now.map (·.1)).Nodup) (hd : (D.dur.map (·.1)).Nodup) (nb : Nat) (hn : L'.name = L.name) (hb : L'.broken = false) (hr : L'.room = L.room) (hps : L'.segs.map Seg.ps = L.segs.map Seg.ps) :
    GL L' (crD D nb) 0 E ∧ GS L' (crD D nb) ∧ Dom L' (crD D nb) := by
  have hfile : ∀ nm, (mget (crD D nb).now nm).isSome = (mget D.now nm).isSome ∧ fileOf (crD D nb).now nm = fileOf D.now nm := fun nm => h.same nm
  have honl : ∀ nm, (mget (crD D nb).now nm).isSome = true → ∃ s ∈ L'.segs, nm = fnm L'.name s.base := fun nm hnm => by
    rw [(hfile nm).1] at hnm
    obtain ⟨t, ht, rfl⟩ := h.onl nm hnm
    obtain ⟨s, hs, e, -⟩ := mem_ps hps.symm ht
    exact ⟨s, hs, by rw [hn, e]⟩
  have hlen : L'.segs.length = L.segs.length := by have := congrArg List.length hps; simpa using this
  refine ⟨⟨hb, rfl, by rw [hn]; exact hg.nm, fun _ => rfl, chain_ps hps hg.chain, by rw [ents_ps hps]; exact hg.ents, by rw [hr]; exact hg.room, fun s hs => ?_, ?_, ?_, fun s hs x hx => ?_⟩, ⟨fun s hs => ?_, honl, fun s hs => ?_, fun nm => rfl, rfl⟩, fun b hbs => ?_⟩
  · obtain ⟨t, ht, e1, -, e3, -⟩ := mem_ps hps hs
    rw [(hfile _).1, (hfile _).2, hn, e1, e3]
    exact hg.file t ht
  · show usedOf D.dur ≤ _
    rw [files_used hd hk h.dur]
    exact hg.used
  · show 0 + L'.segs.length ≤ _
    have := hg.cost
    omega
  · obtain ⟨t, ht, -, e2, -, -⟩ := mem_ps hps hs
    have : x.2 ∈ t.evs.map Prod.snd := by rw [← e2]; exact List.mem_map.2 ⟨x, hx, rfl⟩
    obtain ⟨y, hy, e⟩ := List.mem_map.1 this
    rw [← e]
    exact hg.small t ht y hy
  · obtain ⟨t, ht, e1, e2, -, -⟩ := mem_ps hps hs
    rw [(hfile _).2, hn, e1, e2]
    exact h.txt t ht
  · obtain ⟨t, ht, -, -, -, e4⟩ := mem_ps hps hs
    rw [e4]
    exact h.cl t ht
  · obtain ⟨s, hs, e⟩ := honl _ hbs
    exact ⟨s, hs, (fnm_inj e).symm⟩
end Go.Proofs.YthgmligpconhhaaGreatDoor

/- Layer 6: shorten, walked. -/
namespace Go.Proofs.YthgmligpconhhaaGreatDoor
open Go.RowKit Go.Shelf
set_option linter.unusedVariables false
set_option linter.unusedSimpArgs false
set_option maxRecDepth 100000

theorem ct_ok {D : Dk} {name : ByteArray} {n m : Nat} (h1 : D.fails = false) (h2 : rightNm name.data.toList = true) (hn : n < 9223372036854775808) (h : (mget D.now (fnm name n)).isSome = true) (hl : m ≤ (fileOf D.now (fnm name n)).length) : ctE D (fnm name n) m = 0 := by
  unfold ctE
  have hr : rdyE D (fnm name n) m = 0 := rdy_ok (m := m) h1 h2 hn
  rw [hr, if_neg (by simp), if_neg (by intro h3; rw [Option.isNone_iff_eq_none] at h3; rw [h3] at h; cases h), if_neg (by omega)]
set_option maxHeartbeats 4000000 in
theorem lshort_calls (B l i : Nat) (L : Lg) (D : Dk) (s : Seg) (w : World) (h : LD w B l L D) (hs : L.segs[i]? = some s) (hnf : D.fails = false) (hnm : rightNm L.name.data.toList = true) (hba : s.base ≤ 4611686018427387904) (hfi : (mget D.now (fnm L.name s.base)).isSome = true) (hsz : s.size ≤ (fileOf D.now (fnm L.name s.base)).length) (hfl : (fileOf D.now (fnm L.name s.base)).length ≤ 1099511627776) (hch : D.chg.length ≤ 900000) (hit : ∀ W, Only (fun j => B ≤ j) w W → ItoaAt s.base W) :
    Calls Tryz.prog 40 #[.pointer (some ⟨l, 0, none⟩), .pointer (some ⟨s.b, 0, none⟩)] w fun e w' => e = .returned (.int .i64 0) ∧ ∃ v cv cv2 v2, LT w w' B l L D { L with segs := L.segs.set i { s with dirty := false } } (syD (ctD D (fnm L.name s.base) s.size v cv) (fnm L.name s.base) cv2 v2) := by
  have HD := Lib.hid h
  have HIT := Lib.hid hit
  have HNM := Lib.hid hnm
  have HNF := Lib.hid hnf
  have HFI := Lib.hid (And.intro hfi (And.intro hsz hfl))
  have HGS := Lib.hid hs
  obtain ⟨c0, c1, -, c3, -⟩ := h.log.at
  obtain ⟨s0, -, s2, -⟩ := (h.log.segs s (List.mem_of_getElem? hs)).at
  obtain ⟨qb, qbase, qev, qevs, qsz, qd⟩ := s
  simp only at hba HIT HFI s0 s2 hsz hfl
  clear h hit hnm hnf hfi hs
  go_enter Tryz.func40, Tryz.ntmps40
  go_upto_region 1 with fail
  refine region_m [(0, false), (1, false), (2, false), (3, false), (4, false), (5, false), (7, false), (8, false), (9, false), (10, false), (6, true), (11, true)] 12 (fun X => X.cell? ⟨l, 0, none⟩ = some (.pointer (some ⟨L.d, 0, none⟩)) ∧ X.cell? ⟨qb, 2, none⟩ = some (.int .i64 qsz)) (by kernel_rfl) (by kernel_rfl) ⟨c0, s2⟩ ?_
  iterate 10
    first
    | (refine m_take (v := ?_) rfl rfl ?_ ?_
       rotate_left
       · intro W hW
         go_simp
         with_reducible rfl
       simp only [Act.put, List.setIfInBounds_toArray, List.set_cons_zero, List.set_cons_succ])
    | (refine m_skip rfl rfl ?_
       simp only [Act.put, List.setIfInBounds_toArray, List.set_cons_zero, List.set_cons_succ])
  refine m_loud rfl (fun K hK => ?_)
  have HK := Lib.hid hK
  clear hK
  go_simp
  refine (sfile_calls l qb L.name qbase w.drew c1 s0 (HIT.out _ (Only.refl _ _).drew) (by have := rightNm_size HNM.out; omega) (by omega)).mono ?_
  rintro e w1 ⟨rfl, hb1⟩
  have hb1 : Below w.heap.size w w1 := ((Below.refl w.heap.size w).drew).trans hb1
  have HD1 := Lib.hid (HD.out.below hb1)
  have HB1 := Lib.hid hb1
  refine HK.out _ _ ⟨cell_later hb1 c0, cell_later hb1 s2⟩ ?_
  clear HK
  clear hb1 c0 c1 c3 s0 s2
  refine m_loud rfl (fun K hK => ?_)
  have HK := Lib.hid hK
  clear hK
  go_simp
  refine (dcut_calls L.d B D (fnm L.name qbase) qsz w1 HD1.out.disk (by rw [fnm_size]; have := rightNm_size HNM.out; have := istr_size qbase (by omega); omega) (by omega) (by omega) (by omega)).mono ?_
  rintro e w2 ⟨er, rfl, her, hpost⟩
  rw [ct_ok HNF.out HNM.out (by omega) HFI.out.1 hsz] at her
  subst her
  obtain ⟨hne, -⟩ | ⟨-, v, cv, ht⟩ := hpost
  · exact absurd rfl hne
  have HT2 := Lib.hid ((LT.of_below HD.out HB1.out).trans (LT.disk HD1.out ht))
  have c0 := HT2.out.is.log.at.1
  have SG2 := HT2.out.is.log.segs _ (List.mem_of_getElem? HGS.out)
  obtain ⟨s0, -, s2, s3⟩ := SG2.at
  have z3 := SG2.frz 3
  simp only at s0 s2 s3 z3
  refine HK.out _ _ ⟨c0, s2⟩ ?_
  clear HK
  clear ht SG2
  refine m_done ?_
  simp only [List.drop_succ_cons, List.drop_zero]
  go_upto_region 5 with fail
  try simp only [NP]
  go_upto_region 5 with fail
  obtain ⟨D2, hD2⟩ : ∃ D2, D2 = ctD D (fnm L.name qbase) qsz v cv := ⟨_, rfl⟩
  have HD2 := Lib.hid hD2
  obtain ⟨W3, hW3⟩ : ∃ W3, W3 = w2.setCell ⟨qb, 3, none⟩ (.bool false) := ⟨_, rfl⟩
  have HT3 := Lib.hid (show LT w W3 B l L D { L with segs := L.segs.set i ⟨qb, qbase, qev, qevs, qsz, false⟩ } D2 by rw [hW3, hD2]; exact HT2.out.trans (LT.setDirty HT2.out.is HGS.out false))
  rw [← hW3]
  have hil := (List.getElem?_eq_some_iff.1 HGS.out).1
  have SG3 := HT3.out.is.log.segs _ (List.mem_of_getElem? (List.getElem?_set_self hil))
  have s0 := SG3.at.1
  have c0 := HT3.out.is.log.at.1
  have c1 := HT3.out.is.log.at.2.1
  simp only at s0 c0 c1
  clear hW3 hD2 HT2 SG3 s2 s3 z3
  refine region_m [(0, false), (1, false), (2, false), (3, false), (4, false), (5, false), (6, true), (7, true)] 8 (fun X => X.cell? ⟨l, 0, none⟩ = some (.pointer (some ⟨L.d, 0, none⟩))) (by kernel_rfl) (by kernel_rfl) c0 ?_
  iterate 6
    first
    | (refine m_take (v := ?_) rfl rfl ?_ ?_
       rotate_left
       · intro W hW
         go_simp
         with_reducible rfl
       simp only [Act.put, List.setIfInBounds_toArray, List.set_cons_zero, List.set_cons_succ])
    | (refine m_skip rfl rfl ?_
       simp only [Act.put, List.setIfInBounds_toArray, List.set_cons_zero, List.set_cons_succ])
  refine m_loud rfl (fun K hK => ?_)
  have HK := Lib.hid hK
  clear hK
  go_simp
  refine (sfile_calls l qb L.name qbase W3.drew c1 s0 (HIT.out _ (HT3.out.only.weak (fun j _ e => (HD.out.foot_lt e).1)).drew) (by have := rightNm_size HNM.out; omega) (by omega)).mono ?_
  rintro e w4 ⟨rfl, hb4⟩
  have hb4 : Below W3.heap.size W3 w4 := ((Below.refl W3.heap.size W3).drew).trans hb4
  have HT4 := Lib.hid (HT3.out.below hb4)
  refine HK.out _ _ (cell_later hb4 c0) ?_
  clear HK
  clear hb4 c0 c1 s0 HT3
  refine m_loud rfl (fun K hK => ?_)
  have HK := Lib.hid hK
  clear hK
  go_simp
  have hfo : (mget D2.now (fnm L.name qbase)).isSome = true ∧ (fileOf D2.now (fnm L.name qbase)).length ≤ 1099511627776 := by
    rw [HD2.out]
    refine ⟨?_, ?_⟩
    · show (mget (mput D.now (fnm L.name qbase) (v, (fileOf D.now (fnm L.name qbase)).take qsz)) (fnm L.name qbase)).isSome = true
      rw [mget_put_same]; rfl
    · have : fileOf (ctD D (fnm L.name qbase) qsz v cv).now (fnm L.name qbase) = (fileOf D.now (fnm L.name qbase)).take qsz := by
        unfold fileOf
        rw [show (ctD D (fnm L.name qbase) qsz v cv).now = mput D.now (fnm L.name qbase) (v, (fileOf D.now (fnm L.name qbase)).take qsz) from rfl, mget_put_same]
        rfl
      rw [this, List.length_take]
      omega
  refine (dsync_calls L.d B D2 (fnm L.name qbase) w4 HT4.out.is.disk (by rw [fnm_size]; have := rightNm_size HNM.out; have := istr_size qbase (by omega); omega) hfo.2 (by rw [HD2.out]; show (D.chg ++ [_]).length ≤ _; rw [List.length_append]; simp; omega)).mono ?_
  rintro e w5 ⟨er, rfl, her, hpost⟩
  rw [sy_ok (by rw [HD2.out]; exact HNF.out) HNM.out (by omega) hfo.1] at her
  subst her
  obtain ⟨hne, -⟩ | ⟨-, cv2, v2, ht⟩ := hpost
  · exact absurd rfl hne
  have HT5 := Lib.hid (HT4.out.trans (LT.disk HT4.out.is ht))
  refine HK.out _ _ HT5.out.is.log.at.1 ?_
  clear HK
  clear ht hfo
  refine m_done ?_
  simp only [List.drop_succ_cons, List.drop_zero]
  go_wp2_with fail
  try simp only [NP]
  go_wp2_with fail
  go_ret
  exact ⟨rfl, v, cv, cv2, v2, by have := HT5.out; rw [HD2.out] at this; exact this⟩
end Go.Proofs.YthgmligpconhhaaGreatDoor

/- Layer 6: what Open does to a durable disk; no call walked. -/
namespace Go.Proofs.YthgmligpconhhaaGreatDoor
open Go.RowKit Go.Shelf
set_option linter.unusedVariables false
set_option linter.unusedSimpArgs false
set_option maxRecDepth 100000

/-! ### How many segments are kept -/
def keepGo : Option Nat → List PS → Nat
  | _, [] => 0
  | p, s :: r => if (p.isSome && p != some s.base) = true then 0 else if s.dirty = true then 1 else 1 + keepGo (some (s.base + s.ents.length)) r
def keepOf (T : List PS) : Nat := keepGo none T
/-- The number behind the segment before a place. -/
def prevOf (T : List PS) (i : Nat) : Option Nat := if i = 0 then none else (T[i - 1]?).map (fun p => p.base + p.ents.length)
theorem keepGo_le : ∀ (p : Option Nat) (T : List PS), keepGo p T ≤ T.length
  | _, [] => by simp [keepGo]
  | p, s :: r => by
    unfold keepGo
    split
    · omega
    · split
      · simp
      · have := keepGo_le (some (s.base + s.ents.length)) r
        simp only [List.length_cons]
        omega
theorem keep_end {T : List PS} {i : Nat} (h : keepOf T = i + keepGo (prevOf T i) (T.drop i)) (hi : T.length ≤ i) : keepOf T = i := by
  rw [h, List.drop_eq_nil_of_le hi]; simp [keepGo]
theorem keep_break {T : List PS} {i : Nat} {s p : PS} (h : keepOf T = i + 1 + keepGo (prevOf T (i + 1)) (T.drop (i + 1))) (hp : T[i]? = some p) (hs : T[i + 1]? = some s) (hne : s.base ≠ p.base + p.ents.length) : keepOf T = i + 1 := by
  have hl := (List.getElem?_eq_some_iff.1 hs).1
  have he : T[i + 1] = s := (List.getElem?_eq_some_iff.1 hs).2
  rw [h, List.drop_eq_getElem_cons hl, he]
  have hpv : prevOf T (i + 1) = some (p.base + p.ents.length) := by unfold prevOf; rw [if_neg (by omega), Nat.add_sub_cancel, hp]; rfl
  rw [hpv]
  unfold keepGo
  rw [if_pos (by
    simp only [Option.isSome_some, Bool.true_and]
    rw [bne_iff_ne]
    intro e
    simp only [Option.some.injEq] at e
    exact hne e.symm)]
/-- The segment goes on behind the one before it. -/
def goesOn (T : List PS) (i : Nat) (s : PS) : Prop := i = 0 ∨ prevOf T i = some s.base
theorem keep_dirty {T : List PS} {i : Nat} {s : PS} (h : keepOf T = i + keepGo (prevOf T i) (T.drop i)) (hs : T[i]? = some s) (hg : goesOn T i s) (hd : s.dirty = true) : keepOf T = i + 1 := by
  have hl := (List.getElem?_eq_some_iff.1 hs).1
  have he : T[i] = s := (List.getElem?_eq_some_iff.1 hs).2
  rw [h, List.drop_eq_getElem_cons hl, he]
  unfold keepGo
  rw [if_neg (by
    rcases hg with rfl | hg
    · simp [prevOf]
    · rw [hg]; simp), if_pos hd]
theorem keep_step {T : List PS} {i : Nat} {s : PS} (h : keepOf T = i + keepGo (prevOf T i) (T.drop i)) (hs : T[i]? = some s) (hg : goesOn T i s) (hd : s.dirty = false) : keepOf T = i + 1 + keepGo (prevOf T (i + 1)) (T.drop (i + 1)) := by
  have hl := (List.getElem?_eq_some_iff.1 hs).1
  have he : T[i] = s := (List.getElem?_eq_some_iff.1 hs).2
  have hpv : prevOf T (i + 1) = some (s.base + s.ents.length) := by unfold prevOf; rw [if_neg (by omega), Nat.add_sub_cancel, hs]; rfl
  rw [h, List.drop_eq_getElem_cons hl, he, hpv]
  conv => lhs; unfold keepGo
  rw [if_neg (by
    rcases hg with rfl | hg
    · simp [prevOf]
    · rw [hg]; simp), if_neg (by rw [hd]; simp)]
  omega

/-! ### The files, as one sees them -/
def fv (D : Dk) (x : ByteArray) : Option (List UInt8) := (mget D.now x).map Prod.snd
structure Durable (D : Dk) : Prop where
  chg : D.chg = []
  dur : ∀ x, (mget D.dur x).map Prod.snd = fv D x
theorem drop_view {w : World} {B d : Nat} {D : Dk} (hd : DiskAt w B d D) (h : Durable D) (nm : ByteArray) (cv cv2 v : Value) :
    Durable (syD (rmD D nm cv) nm cv2 v) ∧ (∀ x, fv (syD (rmD D nm cv) nm cv2 v) x = if x = nm then none else fv D x) := by
  have hnow : (syD (rmD D nm cv) nm cv2 v).now = mdel D.now nm := rfl
  have hno : mget (mdel D.now nm) nm = none := mget_del_same _ _ hd.know
  have hf : ∀ x, fv (syD (rmD D nm cv) nm cv2 v) x = if x = nm then none else fv D x := fun x => by
    unfold fv
    rw [hnow]
    by_cases e : x = nm
    · subst e
      rw [hno, if_pos rfl]; rfl
    · rw [mget_del_other e, if_neg e]
  refine ⟨⟨?_, fun x => ?_⟩, hf⟩
  · show (rmD D nm cv).chg.filter (fun c => !isNm nm c) = []
    have : (rmD D nm cv).chg = D.chg ++ [_] := rfl
    rw [this, h.chg, List.nil_append, List.filter_eq_nil_iff]
    intro c hc
    rw [List.mem_singleton.1 hc]
    simp [isNm]
  · rw [hf x]
    show (mget (match mget (mdel D.now nm) nm with | some f => mput D.dur nm (v, f.2) | none => mdel D.dur nm) x).map Prod.snd = _
    rw [hno]
    simp only
    by_cases e : x = nm
    · subst e
      rw [if_pos rfl, mget_del_same _ _ hd.kdur]; rfl
    · rw [if_neg e, mget_del_other e]
      exact h.dur x
theorem cut_view {D : Dk} (h : Durable D) {nm : ByteArray} {bs : List UInt8} (hb : fv D nm = some bs) (n : Nat) (v cv cv2 v2 : Value) :
    Durable (syD (ctD D nm n v cv) nm cv2 v2) ∧ (∀ x, fv (syD (ctD D nm n v cv) nm cv2 v2) x = if x = nm then some (bs.take n) else fv D x) := by
  have hfo : fileOf D.now nm = bs := by
    unfold fileOf
    unfold fv at hb
    rw [hb]; rfl
  have hnow : (syD (ctD D nm n v cv) nm cv2 v2).now = mput D.now nm (v, bs.take n) := by
    show mput D.now nm (v, (fileOf D.now nm).take n) = _
    rw [hfo]
  have hf : ∀ x, fv (syD (ctD D nm n v cv) nm cv2 v2) x = if x = nm then some (bs.take n) else fv D x := fun x => by
    unfold fv
    rw [hnow]
    by_cases e : x = nm
    · subst e
      rw [mget_put_same, if_pos rfl]; rfl
    · rw [mget_put_other e, if_neg e]
  refine ⟨⟨?_, fun x => ?_⟩, hf⟩
  · show (ctD D nm n v cv).chg.filter (fun c => !isNm nm c) = []
    have : (ctD D nm n v cv).chg = D.chg ++ [_] := rfl
    rw [this, h.chg, List.nil_append, List.filter_eq_nil_iff]
    intro c hc
    rw [List.mem_singleton.1 hc]
    simp [isNm]
  · rw [hf x]
    show (mget (match mget (mput D.now nm (v, (fileOf D.now nm).take n)) nm with | some f => mput D.dur nm (v2, f.2) | none => mdel D.dur nm) x).map Prod.snd = _
    rw [mget_put_same, hfo]
    simp only
    by_cases e : x = nm
    · subst e
      rw [if_pos rfl, mget_put_same]; rfl
    · rw [if_neg e, mget_put_other e]
      exact h.dur x
end Go.Proofs.YthgmligpconhhaaGreatDoor

/- Layer 6: base (the number in a file's name) at every name, over the variables that are laid. -/
namespace Go.Proofs.YthgmligpconhhaaGreatDoor
open Go.RowKit Go.Shelf
set_option linter.unusedVariables false
set_option linter.unusedSimpArgs false
set_option maxRecDepth 100000

/-- The library's variables, as they are laid. -/
structure VarsIn (w : World) : Prop where
  syn : ∃ tp p, w.cell? ⟨0, 0, none⟩ = some (.iface tp p)
  rng : ∃ tp p, w.cell? ⟨1, 0, none⟩ = some (.iface tp p)
  tab : ∃ e x, w.heap[2]? = some (.cells (Lib.pow10Tab.map fun z => Value.int .u64 z).toArray e x)
theorem VarsIn.below {w w' : World} {B : Nat} (h : VarsIn w) (hb : Below B w w') (hB : 5 ≤ B) : VarsIn w' := by
  obtain ⟨⟨a, b, h1⟩, ⟨c, d, h2⟩, ⟨e, x, h3⟩⟩ := h
  exact ⟨⟨a, b, (World.cell?_of_block (a := ⟨0, 0, none⟩) (hb.block 0 (by omega))).trans h1⟩, ⟨c, d, (World.cell?_of_block (a := ⟨1, 0, none⟩) (hb.block 1 (by omega))).trans h2⟩, ⟨e, x, (hb.block 2 (by omega)).trans h3⟩⟩
theorem VarsIn.tabIs {w : World} (h : VarsIn w) {nm : String} (hn : Tryz.prog.globalNamed nm = some 2) : Lib.TabIs Tryz.prog w nm .u64 Lib.pow10Tab := by
  obtain ⟨-, -, ⟨e, x, h3⟩⟩ := h
  unfold Lib.TabIs World.var?
  rw [hn]
  simp only [Option.bind_some, h3]
theorem itoa_all (n : Int) (h0 : -9223372036854775808 ≤ n) (h1 : n ≤ 9223372036854775807) (w : World) (hv : VarsIn w) : Calls Tryz.prog 55 #[.int .i64 n] w fun e W' => e = .returned (.string ⟨(Lib.itoa n).toArray⟩) ∧ Below w.heap.size w W' := by
  refine (Any.strconv_Itoa Tryz.laysItoa n h0 h1 w (hv.tabIs (by kernel_rfl))).mono ?_
  rintro e w' ⟨rfl, k, os, rfl⟩
  refine ⟨rfl, ?_⟩
  exact ⟨rfl, rfl, rfl, by simp [Sort.grow], fun j hj => by rw [Sort.heap_grow_old _ _ (by simpa using hj)]; rfl⟩
theorem ItoaAt.all {n : Nat} (hn : n < 9223372036854775808) {w : World} (hv : VarsIn w) (hw : 5 ≤ w.heap.size) : ItoaAt n w := by
  intro W hW
  refine (itoa_all (n : Int) (by omega) (by omega) W (hv.below hW hw)).mono ?_
  rintro e W' ⟨rfl, hb⟩
  refine ⟨?_, hb⟩
  unfold istr Lib.itoa
  rw [if_neg (by omega), Int.toNat_natCast]

/-- The number in a name. -/
def numOf (ds : List UInt8) : Option Nat :=
  match Lib.atoiAll ds with
  | .ok v => if 0 ≤ v ∧ v ≤ 4611686018427387904 ∧ Lib.itoa v = ds then some v.toNat else none
  | _ => none
def baseOf (nm f : ByteArray) : Option Nat :=
  if Lib.hasPrefix f.data.toList (nm ++ ⟨#[45]⟩ : ByteArray).data.toList = true then numOf (Lib.trimPrefix f.data.toList (nm ++ ⟨#[45]⟩ : ByteArray).data.toList) else none
theorem numOf_some {ds : List UInt8} {n : Nat} (h : numOf ds = some n) : n ≤ 4611686018427387904 ∧ Lib.decDigits n = ds := by
  unfold numOf at h
  split at h
  · split at h
    · rename_i v _ hc
      simp only [Option.some.injEq] at h
      refine ⟨by omega, ?_⟩
      rw [← h, ← hc.2.2]
      unfold Lib.itoa
      rw [if_neg (by omega)]
    · cases h
  · cases h
theorem baseOf_some {nm f : ByteArray} {n : Nat} (h : baseOf nm f = some n) : n ≤ 4611686018427387904 ∧ f = fnm nm n := by
  unfold baseOf at h
  split at h
  · rename_i hp
    obtain ⟨h1, h2⟩ := numOf_some h
    refine ⟨h1, ?_⟩
    unfold Lib.trimPrefix at h2
    rw [if_pos hp] at h2
    have e1 : (nm ++ ⟨#[45]⟩ : ByteArray).data.toList = nm.data.toList ++ [45] := by simp [ByteArray.data_append]
    rw [e1] at hp h2
    have hpp : nm.data.toList ++ [45] <+: f.data.toList := by simpa [Lib.hasPrefix] using hp
    obtain ⟨r, hr⟩ := hpp
    rw [← hr, List.drop_left] at h2
    have : f.data.toList = (fnm nm n).data.toList := by rw [fnm_list, h2, hr]
    cases f with
    | mk fd =>
      cases hx : fnm nm n with
      | mk gd =>
        rw [hx] at this
        simp only at this
        rw [Array.toList_inj.1 this]
  · cases h
theorem parse_snoc : ∀ (l : List UInt8) (acc u : Nat) (b : UInt8), Lib.parseUint10 acc l = .ok u → 48 ≤ b.toNat ∧ b.toNat ≤ 57 → u < 1844674407370955162 → u * 10 + (b.toNat - 48) < 18446744073709551616 → Lib.parseUint10 acc (l ++ [b]) = .ok (u * 10 + (b.toNat - 48))
  | [], acc, u, b, h, hb, h1, h2 => by
    simp only [Lib.parseUint10, Lib.NumEnd.ok.injEq] at h
    subst h
    simp only [List.nil_append, Lib.parseUint10]
    rw [if_pos hb, if_neg (by omega), if_neg (by omega)]
  | c :: r, acc, u, b, h, hb, h1, h2 => by
    simp only [Lib.parseUint10] at h
    simp only [List.cons_append, Lib.parseUint10]
    split at h
    · rename_i hc
      rw [if_pos hc]
      split at h
      · cases h
      · rename_i h3
        rw [if_neg h3]
        split at h
        · cases h
        · rename_i h4
          rw [if_neg h4]
          exact parse_snoc r _ u b h hb h1 h2
    · cases h
theorem digit_of (k : Nat) (hk : k < 10) : 48 ≤ (UInt8.ofNat (48 + k)).toNat ∧ (UInt8.ofNat (48 + k)).toNat ≤ 57 ∧ (UInt8.ofNat (48 + k)).toNat - 48 = k := by
  have : ∀ k : Fin 10, 48 ≤ (UInt8.ofNat (48 + k.val)).toNat ∧ (UInt8.ofNat (48 + k.val)).toNat ≤ 57 ∧ (UInt8.ofNat (48 + k.val)).toNat - 48 = k.val := by decide
  exact this ⟨k, hk⟩
theorem parse_digits (n : Nat) (hn : n < 18446744073709551616) : Lib.parseUint10 0 (Lib.decDigits n) = .ok n ∧ ∃ c r, Lib.decDigits n = c :: r ∧ 48 ≤ c.toNat := by
  induction n using Nat.strongRecOn with
  | _ n ih =>
    by_cases h : n < 10
    · rw [Lib.decDigits_one h]
      obtain ⟨h1, h2, h3⟩ := digit_of n h
      refine ⟨?_, _, _, rfl, h1⟩
      simp only [Lib.parseUint10]
      rw [if_pos ⟨h1, h2⟩, if_neg (by omega), if_neg (by omega), h3, Nat.zero_mul, Nat.zero_add]
    · obtain ⟨e1, c, r, e2, e3⟩ := ih (n / 10) (by omega) (by omega)
      obtain ⟨h1, h2, h3⟩ := digit_of (n % 10) (by omega)
      rw [Lib.decDigits, dif_neg h]
      refine ⟨?_, c, r ++ [UInt8.ofNat (48 + n % 10)], by rw [e2]; rfl, e3⟩
      rw [parse_snoc _ 0 (n / 10) _ e1 ⟨h1, h2⟩ (by omega) (by rw [h3]; omega), h3]
      congr 1
      omega
theorem atoi_digits {n : Nat} (hn : n < 9223372036854775808) : Lib.atoiAll (Lib.decDigits n) = .ok (n : Int) := by
  obtain ⟨h1, c, r, h2, h3⟩ := parse_digits n (by omega)
  rw [h2] at h1 ⊢
  rw [Lib.atoiAll_plain c r (by omega) (by omega)]
  unfold Lib.parseMag
  rw [if_neg (by simp), h1]
  unfold Lib.signless
  simp only
  rw [if_neg (by omega)]
theorem baseOf_fnm (nm : ByteArray) {n : Nat} (hn : n ≤ 4611686018427387904) : baseOf nm (fnm nm n) = some n := by
  obtain ⟨h1, h2⟩ := fnm_prefix nm n
  have h3 : Lib.trimPrefix (fnm nm n).data.toList (nm ++ ⟨#[45]⟩ : ByteArray).data.toList = Lib.decDigits n := by
    have := congrArg (fun x : ByteArray => x.data.toList) h2
    simpa [istr] using this
  unfold baseOf
  rw [if_pos h1, h3]
  unfold numOf
  rw [atoi_digits (by omega)]
  simp only
  rw [if_pos ⟨by omega, by omega, by unfold Lib.itoa; rw [if_neg (by omega), Int.toNat_natCast]⟩, Int.toNat_natCast]

/-! ### The call -/
set_option maxHeartbeats 2000000 in
theorem sbase_calls (nm f : ByteArray) (hs : nm.size ≤ 1000000) (hf : f.size ≤ 1000000) (w : World) (hv : VarsIn w) (hw : 5 ≤ w.heap.size) :
    Calls Tryz.prog 33 #[.string nm, .string f] w fun e w' => e = .returned (.int .i64 (bInt (baseOf nm f))) ∧ Below w.heap.size w w' := by
  obtain ⟨pf, hpf⟩ : ∃ pf, pf = Lib.trimPrefix f.data.toList (nm ++ ⟨#[45]⟩ : ByteArray).data.toList := ⟨_, rfl⟩
  have hsz : (⟨pf.toArray⟩ : ByteArray).size ≤ 1000000 := by
    show pf.toArray.size ≤ 1000000
    rw [List.size_toArray, hpf]
    unfold Lib.trimPrefix
    have hfl : f.data.toList.length = f.size := by rw [Array.length_toList]; rfl
    split
    · rw [List.length_drop]; omega
    · omega
  have HV := Lib.hid hv
  have HPF := Lib.hid hpf
  obtain ⟨ok, hok⟩ : ∃ ok, ok = Lib.hasPrefix f.data.toList (nm ++ ⟨#[45]⟩ : ByteArray).data.toList := ⟨_, rfl⟩
  have HOK := Lib.hid hok
  go_enter Tryz.func33, Tryz.ntmps33
  go_wp2_with fail
  refine (Any.strings_CutPrefix Tryz.lays103 _ _ _).mono ?_
  rintro e w1 ⟨rfl, rfl⟩
  rw [← HPF.out, ← HOK.out]
  clear hpf hv hok
  go_wp2_with fail
  cases ha : Lib.atoiAll pf with
  | ok v =>
    have hb := Lib.atoiAll_bounds ha
    refine (Any.strconv_Atoi_ok Tryz.laysAtoi ⟨pf.toArray⟩ (by omega) v (by exact ha) w1).mono ?_
    rintro e w2 ⟨rfl, hw2⟩
    have hbx : Below w1.heap.size w1 w2 := by
      rcases hw2 with rfl | ⟨t, rfl⟩
      · exact Below.refl _ _
      · exact Lib.bytesWorld_below w1 _ t
    have HBX := Lib.hid hbx
    have HAT := Lib.hid ha
    clear hbx ha hw2
    by_cases hg : ok = true ∧ 0 ≤ v ∧ v ≤ 4611686018427387904
    · obtain ⟨rfl, hg1, hg2⟩ := hg
      have d1 : decide (v < 0) = false := decide_eq_false (by omega)
      have d2 : decide ((4611686018427387904 : Int) < v) = false := decide_eq_false (by omega)
      have n1 : ¬ v < 0 := by omega
      have n2 : ¬ (4611686018427387904 : Int) < v := by omega
      go_wp2_with fail
      refine (itoa_all v (by omega) (by omega) w2 (HV.out.below HBX.out (by omega))).mono ?_
      rintro e w3 ⟨rfl, hb3⟩
      have HB3 := Lib.hid (HBX.out.trans (hb3.mono HBX.out.size))
      clear hb3
      by_cases hit : Lib.itoa v = pf
      · rw [hit]
        have HNO := Lib.hid (show (Ending.returned (Value.int .i64 v)) = Ending.returned (.int .i64 (bInt (baseOf nm f))) from by
          unfold baseOf numOf
          rw [← HPF.out, ← HOK.out, if_pos rfl, HAT.out]
          simp only
          rw [if_pos ⟨hg1, hg2, hit⟩]
          simp only [bInt]
          rw [Int.toNat_of_nonneg hg1])
        go_wp2_with fail
        go_ret
        exact ⟨HNO.out, HB3.out⟩
      · have HNO := Lib.hid (show (Ending.returned (Value.int .i64 (-1))) = Ending.returned (.int .i64 (bInt (baseOf nm f))) from by
          unfold baseOf numOf
          rw [← HPF.out, ← HOK.out, if_pos rfl, HAT.out]
          simp only
          rw [if_neg (fun h => hit h.2.2)]
          rfl)
        have hne : (Lib.itoa v == pf) = false := by simpa using hit
        go_wp2_with fail
        go_ret
        exact ⟨HNO.out, HB3.out⟩
    · have HNO := Lib.hid (show (Ending.returned (Value.int .i64 (-1))) = Ending.returned (.int .i64 (bInt (baseOf nm f))) from by
        unfold baseOf numOf
        rw [← HPF.out, ← HOK.out, HAT.out]
        simp only
        by_cases h1 : ok = true
        · rw [if_pos h1, if_neg (fun h => hg ⟨h1, h.1, h.2.1⟩)]; rfl
        · rw [if_neg h1]; rfl)
      cases ok with
      | false =>
        go_wp2_with fail
        go_ret
        exact ⟨HNO.out, HBX.out⟩
      | true =>
        by_cases h1 : v < 0
        · have d1 : decide (v < 0) = true := decide_eq_true h1
          go_wp2_with fail
          go_ret
          exact ⟨HNO.out, HBX.out⟩
        · have d1 : decide (v < 0) = false := decide_eq_false h1
          have h2 : (4611686018427387904 : Int) < v := Int.lt_of_not_ge (fun h => hg ⟨rfl, by omega, h⟩)
          have d2 : decide ((4611686018427387904 : Int) < v) = true := decide_eq_true h2
          clear hg
          go_wp2_with fail
          go_ret
          exact ⟨HNO.out, HBX.out⟩
  | «syntax» =>
    obtain ⟨tp, p, hc⟩ := HV.out.syn
    have HNO := Lib.hid (show (Ending.returned (Value.int .i64 (-1))) = Ending.returned (.int .i64 (bInt (baseOf nm f))) from by
      unfold baseOf numOf
      rw [← HPF.out, ha]
      simp [bInt])
    refine (Any.strconv_Atoi_syntax Tryz.laysAtoi ⟨pf.toArray⟩ (by omega) (by exact ha) (.iface tp p) w1 hc (.inr ⟨_, _, rfl⟩)).mono ?_
    rintro e w2 ⟨N, rfl, -, -, hbx⟩
    -- behind Atoi, which failed: base answers -1
    have HBX := Lib.hid hbx
    clear hbx
    cases ok with
    | false =>
      go_wp2_with fail
      go_ret
      exact ⟨HNO.out, HBX.out⟩
    | true =>
      go_wp2_with fail
      go_ret
      exact ⟨HNO.out, HBX.out⟩
  | range =>
    obtain ⟨tp, p, hc⟩ := HV.out.rng
    have HNO := Lib.hid (show (Ending.returned (Value.int .i64 (-1))) = Ending.returned (.int .i64 (bInt (baseOf nm f))) from by
      unfold baseOf numOf
      rw [← HPF.out, ha]
      simp [bInt])
    refine (Any.strconv_Atoi_range Tryz.laysAtoi ⟨pf.toArray⟩ (by omega) (by exact ha) (.iface tp p) w1 hc (.inr ⟨_, _, rfl⟩)).mono ?_
    rintro e w2 ⟨N, rfl, -, -, hbx⟩
    -- behind Atoi, which failed: base answers -1
    have HBX := Lib.hid hbx
    clear hbx
    cases ok with
    | false =>
      go_wp2_with fail
      go_ret
      exact ⟨HNO.out, HBX.out⟩
    | true =>
      go_wp2_with fail
      go_ret
      exact ⟨HNO.out, HBX.out⟩
end Go.Proofs.YthgmligpconhhaaGreatDoor

/- Layer 6: Open on a durable disk, whatever files it holds, walked. -/
namespace Go.Proofs.YthgmligpconhhaaGreatDoor
open Go.RowKit Go.Shelf Go.Sort
set_option linter.unusedVariables false
set_option linter.unusedSimpArgs false
set_option maxRecDepth 100000
attribute [local go_sem] Oper.semAt_some

theorem VarsIn.only {w w' : World} {B : Nat} (h : VarsIn w) (ho : Only (fun j => B ≤ j) w w') (hB : 5 ≤ B) (hw : B ≤ w.heap.size) : VarsIn w' := h.below (ho.below (B := B) hw (fun j hj e => by omega)) hB

/-! ### What a file gives -/
theorem segF_file {D : Dk} {nm : ByteArray} {bs : ByteArray → Option Nat} (hk : (D.now.map (·.1)).Nodup) (hb : ∀ f ∈ D.now, ∀ n, bs f.1 = some n → f.1 = fnm nm n) {p : PS} (hp : p ∈ segF bs D.now) : ∃ f ∈ D.now, f.1 = fnm nm p.base ∧ bs f.1 = some p.base ∧ p = psOf p.base f.2.2 ∧ fv D (fnm nm p.base) = some f.2.2 := by
  unfold segF at hp
  rw [List.mem_filterMap] at hp
  obtain ⟨f, hf, hfp⟩ := hp
  cases hbf : bs f.1 with
  | none => rw [hbf] at hfp; cases hfp
  | some n =>
    rw [hbf] at hfp
    simp only [Option.map_some, Option.some.injEq] at hfp
    have hpb : p.base = n := by rw [← hfp]; rfl
    have hfn := hb f hf n hbf
    refine ⟨f, hf, by rw [hpb]; exact hfn, by rw [hpb, ← hbf], by rw [hpb, hfp], ?_⟩
    unfold fv
    rw [hpb, ← hfn, mget_of_mem (v := f.2) hk (by exact hf)]
    rfl
theorem segF_ne {D : Dk} {nm : ByteArray} {bs : ByteArray → Option Nat} (hk : (D.now.map (·.1)).Nodup) (hb : ∀ f ∈ D.now, ∀ n, bs f.1 = some n → f.1 = fnm nm n) : (segF bs D.now).Pairwise (fun p q => p.base ≠ q.base) := by
  unfold segF
  rw [List.pairwise_filterMap]
  have hk2 : D.now.Pairwise (fun a b => a.1 ≠ b.1) := by
    unfold List.Nodup at hk
    rwa [List.pairwise_map] at hk
  refine List.Pairwise.imp_of_mem ?_ hk2
  intro f g hf hg hne p hp q hq e
  cases h1 : bs f.1 with
  | none => rw [h1] at hp; cases hp
  | some n =>
    cases h2 : bs g.1 with
    | none => rw [h2] at hq; cases hq
    | some m =>
      rw [h1] at hp
      rw [h2] at hq
      simp only [Option.map_some, Option.some.injEq] at hp hq
      have e1 : p.base = n := by rw [← hp]; rfl
      have e2 : q.base = m := by rw [← hq]; rfl
      exact hne (by rw [hb f hf n h1, hb g hg m h2, ← e1, ← e2, e])
def cleanP (p : PS) : PS := { p with dirty := false }
/-- The disk behind Open. -/
structure AfterOpen (nm : ByteArray) (T : List PS) (K : Nat) (D D' : Dk) : Prop where
  dur : Durable D'
  room : D'.room = D.room
  fails : D'.fails = D.fails
  gone : ∀ p ∈ T.drop K, fv D' (fnm nm p.base) = none
  kept : ∀ p ∈ T.take K, fv D' (fnm nm p.base) = (fv D (fnm nm p.base)).map (List.take p.size)
  rest : ∀ x, (∀ p ∈ T, x ≠ fnm nm p.base) → fv D' x = fv D x
/-- While segments are dropped. -/
structure DropIn (nm : ByteArray) (T : List PS) (j : Nat) (D D' : Dk) : Prop where
  dur : Durable D'
  room : D'.room = D.room
  fails : D'.fails = D.fails
  gone : ∀ p ∈ T.drop j, fv D' (fnm nm p.base) = none
  rest : ∀ x, (∀ p ∈ T.drop j, x ≠ fnm nm p.base) → fv D' x = fv D x
theorem take_erase {α : Type} {l : List α} {j : Nat} (hj : j < l.length) : (l.take (j + 1)).eraseIdx j = l.take j := by
  rw [List.take_succ_eq_append_getElem hj, List.eraseIdx_append_of_length_le (by rw [List.length_take]; omega)]
  have : j - (l.take j).length = 0 := by rw [List.length_take]; omega
  rw [this]
  simp
theorem DropIn.more {w : World} {B d : Nat} {nm : ByteArray} {T : List PS} {j : Nat} {D D' : Dk} {p : PS} (h : DropIn nm T (j + 1) D D') (hd : DiskAt w B d D') (hp : T[j]? = some p) (cv cv2 v : Value) : DropIn nm T j D (syD (rmD D' (fnm nm p.base) cv) (fnm nm p.base) cv2 v) := by
  obtain ⟨h1, h2⟩ := drop_view hd h.dur (fnm nm p.base) cv cv2 v
  have hl := (List.getElem?_eq_some_iff.1 hp).1
  have he : T[j] = p := (List.getElem?_eq_some_iff.1 hp).2
  have hdr : T.drop j = p :: T.drop (j + 1) := by rw [List.drop_eq_getElem_cons hl, he]
  refine ⟨h1, h.room, h.fails, fun q hq => ?_, fun x hx => ?_⟩
  · rw [h2]
    split
    · rfl
    · rw [hdr] at hq
      rcases List.mem_cons.1 hq with rfl | hq
      · rename_i hne; exact absurd rfl hne
      · exact h.gone q hq
  · rw [h2, if_neg (hx p (by rw [hdr]; exact List.mem_cons_self))]
    exact h.rest x (fun q hq => hx q (by rw [hdr]; exact List.mem_cons_of_mem _ hq))
end Go.Proofs.YthgmligpconhhaaGreatDoor
