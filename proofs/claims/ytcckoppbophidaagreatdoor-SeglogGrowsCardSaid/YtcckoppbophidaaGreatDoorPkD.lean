/- Walks and plain laws of the chapter, laid together; each part says what it proves. -/
import Derived.Shelf.SlSortCmp.Whole1
import Derived.Shelf.Small.Wraps
import Derived.Shelf.Strconv.Atoi
import Derived.Test.YtcckoppbophidaaGreatDoorPkA
import Derived.Test.YtcckoppbophidaaGreatDoorPkB
import Derived.Test.YtcckoppbophidaaGreatDoorPkC
/- Layer 6: slices.SortFunc at the segments: by their first numbers. -/
namespace Go.Proofs.YtcckoppbophidaaGreatDoor
open Go.RowKit Go.Shelf Go.Sort
set_option linter.unusedVariables false
set_option linter.unusedSimpArgs false
set_option maxRecDepth 100000
attribute [local go_sem] Oper.semAt_some

/-! ### Rows of one cell an element, sorted; no program -/
theorem heap_sortedF {α : Type} [Inhabited α] {enc : α → Value} {w : World} {g n : Nat} {os : Array Obj} {cur : Array Value} {e : TypeId} {fr : Nat × Nat} (d : Array α) (hb : w.heap[g]? = some (.cells cur e fr)) :
    (grow (putRow enc (Sort.ahead w n) g 0 d) os).heap[g]? = some (.cells (putCells enc 0 d cur) e fr) := by
  have hg : g < w.heap.size := (Array.getElem?_eq_some_iff.1 hb).1
  rw [heap_grow_old _ _ (by simpa using hg)]
  simp [putRow, mapBlock, Sort.ahead, Array.getElem?_modify, hb, onCells]
theorem grownBy_sortedF {α : Type} [Inhabited α] {enc : α → Value} {w : World} {g n : Nat} {os : Array Obj} (d : Array α) : w.grownBy (grow (putRow enc (Sort.ahead w n) g 0 d) os) (some g) := by
  refine ⟨rfl, rfl, rfl, by simp, fun k hk hne => ?_⟩
  rw [heap_grow_old _ _ (by simpa using hk)]
  have : g ≠ k := fun e => hne (by rw [e])
  simp [putRow, mapBlock, Sort.ahead, Array.getElem?_modify, this]
theorem take_putCellsF {α : Type} [Inhabited α] {enc : α → Value} (cur : Array Value) (ts : List α) (h : ts.length ≤ cur.size) : (putCells enc 0 ts.toArray cur).toList.take ts.length = ts.map enc := by
  apply List.ext_getElem?
  intro j
  by_cases hj : j < ts.length
  · rw [List.getElem?_take_of_lt hj, Array.getElem?_toList]
    simp [putCells, hj, show j < cur.size by omega]
  · rw [List.getElem?_take_eq_none (by omega), List.getElem?_eq_none (by simp; omega)]
theorem ownsRow_sortedF {α : Type} [Inhabited α] {enc : α → Value} {w : World} {base g cap n m : Nat} {e : TypeId} {os : Array Obj} {cur : Array Value} {ts : List α} (hl : ts.length = m) (hbase : base ≤ g) (hb : w.heap[g]? = some (.cells cur e (0, 0)))
    (h1 : m ≤ cap) (h2 : cap ≤ maxLen) (h3 : cur.size = cap * 1) :
    (grow (putRow enc (Sort.ahead w n) g 0 ts.toArray) os).ownsRow base e 1 (.slice (some ⟨g, 0, none⟩) m cap) m (ts.map enc) :=
  ⟨by simp [hl], .inr ⟨g, cap, _, rfl, hbase, heap_sortedF _ hb, h1, h2, by simp [putCells, h3], by rw [Nat.mul_one, ← hl]; exact take_putCellsF cur ts (by omega)⟩⟩
theorem holds_of_blockF {α : Type} [Inhabited α] {enc : α → Value} {w : World} {g : Nat} {cur : Array Value} {e : TypeId} {ss : List α} (hb : w.heap[g]? = some (.cells cur e (0, 0))) (ht : cur.toList.take ss.length = ss.map enc) : Holds enc w g 0 ss.toArray := by
  intro j hj
  have hj' : j < ss.length := by simpa using hj
  refine ⟨?_, by simp [World.frozen?, hb]⟩
  have h1 : (cur.toList.take ss.length)[j]? = (ss.map enc)[j]? := by rw [ht]
  rw [List.getElem?_take_of_lt hj'] at h1
  simp only [World.cell?, hb, Nat.zero_add]
  simp only [Option.isSome_none, Bool.false_eq_true, if_false]
  rw [← Array.getElem?_toList, h1]
  simp [hj']

/-! ### The closure -/
set_option maxHeartbeats 1000000 in
theorem open1_calls (a b : Nat) (x y : Int) (w : World) (ha : w.cell? ⟨a, 0, none⟩ = some (.int .i64 x)) (hb : w.cell? ⟨b, 0, none⟩ = some (.int .i64 y)) :
    Calls Tryz.prog 31 #[.pointer (some ⟨a, 0, none⟩), .pointer (some ⟨b, 0, none⟩)] w fun e w' => e = .returned (.int .i64 (if x < y then -1 else 1)) ∧ ∃ q, w' = w.drewN q := by
  by_cases hlt : x < y
  · have d1 : decide (x < y) = true := decide_eq_true hlt
    rw [if_pos hlt]
    go_enter Tryz.func31, Tryz.ntmps31
    go_upto_region 1 with fail
    refine region_m [(0, false), (1, false), (2, false), (3, false), (4, false), (5, false), (6, false), (7, false), (8, false)] 9 (fun X => X.cell? ⟨a, 0, none⟩ = some (.int .i64 x) ∧ X.cell? ⟨b, 0, none⟩ = some (.int .i64 y)) (by kernel_rfl) (by kernel_rfl) ⟨ha, hb⟩ ?_
    iterate 9
      first
      | (refine m_take (v := ?_) rfl rfl ?_ ?_
         rotate_left
         · intro W hW
           go_simp
           with_reducible rfl
         simp only [Act.put, List.setIfInBounds_toArray, List.set_cons_zero, List.set_cons_succ])
      | (refine m_skip rfl rfl ?_
         simp only [Act.put, List.setIfInBounds_toArray, List.set_cons_zero, List.set_cons_succ])
    refine m_done ?_
    simp only [List.drop_succ_cons, List.drop_zero]
    go_wp2_with fail
    try simp only [NP]
    go_wp2_with fail
    go_ret
    exact ⟨rfl, 1, rfl⟩
  · have d1 : decide (x < y) = false := decide_eq_false hlt
    rw [if_neg hlt]
    go_enter Tryz.func31, Tryz.ntmps31
    go_upto_region 1 with fail
    refine region_m [(0, false), (1, false), (2, false), (3, false), (4, false), (5, false), (6, false), (7, false), (8, false)] 9 (fun X => X.cell? ⟨a, 0, none⟩ = some (.int .i64 x) ∧ X.cell? ⟨b, 0, none⟩ = some (.int .i64 y)) (by kernel_rfl) (by kernel_rfl) ⟨ha, hb⟩ ?_
    iterate 9
      first
      | (refine m_take (v := ?_) rfl rfl ?_ ?_
         rotate_left
         · intro W hW
           go_simp
           with_reducible rfl
         simp only [Act.put, List.setIfInBounds_toArray, List.set_cons_zero, List.set_cons_succ])
      | (refine m_skip rfl rfl ?_
         simp only [Act.put, List.setIfInBounds_toArray, List.set_cons_zero, List.set_cons_succ])
    refine m_done ?_
    simp only [List.drop_succ_cons, List.drop_zero]
    go_wp2_with fail
    try simp only [NP]
    go_wp2_with fail
    go_ret
    exact ⟨rfl, 1, rfl⟩

/-! ### The sort -/
theorem perm_whole {α : Type} [Inhabited α] {d d' : Array α} {n : Nat} (h : PermIn 0 n d d') (h1 : d.size = n) : d'.toList.Perm d.toList := by
  subst h1
  have h2 := h.2.2
  rw [Array.extract_size] at h2
  rw [← h.1, Array.extract_size] at h2
  exact h2
theorem segsort_calls (base g cap : Nat) (ps : List (Nat × Nat)) (w : World) (hr : w.ownsRow base 72 1 (.slice (some ⟨g, 0, none⟩) ps.length cap) ps.length (ps.map fun p => .pointer (some ⟨p.1, 0, none⟩)))
    (hc : ∀ p ∈ ps, p.1 ≠ g ∧ w.cell? ⟨p.1, 0, none⟩ = some (.int .i64 p.2)) (h0 : 0 < ps.length) (hsz : ps.length ≤ 1000000) :
    Calls Tryz.prog 30 #[.slice (some ⟨g, 0, none⟩) ps.length cap, .func (.func 31) #[] #[]] w fun e w' =>
      (∃ v, e = .returned v) ∧ ∃ qs : List (Nat × Nat), qs.Perm ps ∧ qs.Pairwise (fun p q => p.2 ≤ q.2) ∧ w'.ownsRow base 72 1 (.slice (some ⟨g, 0, none⟩) ps.length cap) ps.length (qs.map fun p => .pointer (some ⟨p.1, 0, none⟩)) ∧ w.grownBy w' (some g) := by
  · haveI : Inhabited (Fin ps.length) := ⟨⟨0, h0⟩⟩
    rcases hr.2 with ⟨hn, -⟩ | ⟨g', cap', cur, hv', hb, hh, h1, h2, h3, h4⟩
    · cases hn
    simp only [Value.slice.injEq, Option.some.injEq, Addr.mk.injEq, and_true, true_and] at hv'
    obtain ⟨rfl, rfl⟩ := hv'
    obtain ⟨en, hen⟩ : ∃ en : Fin ps.length → Value, en = fun i => .pointer (some ⟨ps[i].1, 0, none⟩) := ⟨_, rfl⟩
    obtain ⟨cf, hcf⟩ : ∃ cf : Fin ps.length → Fin ps.length → Int, cf = fun i j => if ((ps[i].2 : Int) < (ps[j].2 : Int)) then -1 else 1 := ⟨_, rfl⟩
    have hlt : ∀ i j, ltOf cf i j = decide (ps[i].2 < ps[j].2) := fun i j => by
      unfold ltOf
      rw [hcf]
      simp only
      by_cases h : ps[i].2 < ps[j].2
      · have hp : (ps[i].2 : Int) < (ps[j].2 : Int) := by omega
        simp only [if_pos hp]
        rw [decide_eq_true h]; rfl
      · have hp : ¬ (ps[i].2 : Int) < (ps[j].2 : Int) := by omega
        simp only [if_neg hp]
        rw [decide_eq_false h]; rfl
    have hswo : SWO (ltOf cf) := ⟨fun x => by rw [hlt]; simp, fun x y z h k => by rw [hlt] at *; simp only [decide_eq_true_eq] at *; omega, fun x y z h k => by rw [hlt] at *; simp only [decide_eq_false_iff_not] at *; omega⟩
    have hmap : (List.finRange ps.length).map en = ps.map fun p => .pointer (some ⟨p.1, 0, none⟩) := by
      rw [hen]
      apply List.ext_getElem
      · simp
      · intro i h1 h2
        simp
    have hlen : (List.finRange ps.length).length = ps.length := List.length_finRange
    have hHo : Holds en w g 0 (List.finRange ps.length).toArray := holds_of_blockF hh (by rw [hlen, hmap]; simpa using h4)
    have hcmp : CmpLays1 Tryz.prog 31 #[] en cf g 0 (List.finRange ps.length).toArray.size w := by
      intro m os dk hdk x y
      have hx := hc ps[x] (List.getElem_mem _)
      have hy := hc ps[y] (List.getElem_mem _)
      have hcell : ∀ a, a ≠ g → ∀ v, w.cell? ⟨a, 0, none⟩ = some v → (sortWorld en w g 0 m dk os).cell? ⟨a, 0, none⟩ = some v := fun a ha v hv => by
        have hal := World.block_lt_of_cell? w _ hv
        rw [← hv]
        exact World.cell?_of_block (a := ⟨a, 0, none⟩) ((grownBy_sortedF (enc := en) (n := m) (os := os) dk).block a hal (fun e => ha (Option.some.inj e)))
      have h := open1_calls ps[x].1 ps[y].1 ps[x].2 ps[y].2 (sortWorld en w g 0 m dk os) (hcell _ hx.1 _ hx.2) (hcell _ hy.1 _ hy.2)
      rw [hen, hcf]
      rw [hen] at h
      exact h.mono fun e w' ⟨he, q, hq⟩ => ⟨he, q, #[], by rw [hq, grow_empty]⟩
    have hcl := Any.slices_SortFunc Tryz.laysSortF en (fun x => by rw [hen]; rfl) cf hswo 31 #[] g 0 cap (List.finRange ps.length).toArray w (enters_of Tryz.func31 (by kernel_rfl) rfl) hcmp hHo (Array.getElem?_eq_some_iff.1 hh).1 (by simp; omega)
    have hds : (List.finRange ps.length).toArray.size = ps.length := by simp
    rw [hds] at hcl
    refine (show Calls Tryz.prog 30 #[.slice (some ⟨g, 0, none⟩) ps.length cap, .func (.func 31) #[] #[]] w _ from hcl).mono ?_
    rintro e w' ⟨rfl, d', n, os, hperm, hsort, rfl⟩
    have hd' : d'.size = ps.length := hperm.1.trans hds
    have hpl : d'.toList.Perm (List.finRange ps.length) := by
      have := perm_whole hperm hds
      simpa using this
    have hmp : (List.finRange ps.length).map (fun i => ps[i]) = ps := by
      apply List.ext_getElem
      · simp
      · intro i h1 h2
        simp
    refine ⟨⟨_, rfl⟩, d'.toList.map (fun i => ps[i]), ?_, ?_, ?_, grownBy_sortedF (enc := en) (n := n) (os := os) d'⟩
    · have := hpl.map (fun i => ps[i])
      rwa [hmp] at this
    · rw [List.pairwise_map, List.pairwise_iff_getElem]
      intro i j hi hj hij
      rw [Array.length_toList] at hi hj
      have := hsort i j (Nat.zero_le _) hij (by omega)
      rw [hlt, getElem!_pos d' j (by omega), getElem!_pos d' i (by omega), decide_eq_false_iff_not] at this
      rw [Array.getElem_toList, Array.getElem_toList]
      omega
    · have := ownsRow_sortedF (enc := en) (n := n) (os := os) (ts := d'.toList) (m := ps.length) (by rw [Array.length_toList, hd']) hb hh h1 h2 h3
      rw [Array.toArray_toList] at this
      rw [List.map_map]
      have e : (fun p : Nat × Nat => Value.pointer (some ⟨p.1, 0, none⟩)) ∘ (fun i : Fin ps.length => ps[i]) = en := by rw [hen]; rfl
      rw [e]
      exact this
end Go.Proofs.YtcckoppbophidaaGreatDoor

/- Layer 6: base (the number in a file's name), walked at the names of numbers below 100. -/
namespace Go.Proofs.YtcckoppbophidaaGreatDoor
open Go.RowKit Go.Shelf
set_option linter.unusedVariables false
set_option linter.unusedSimpArgs false
set_option maxRecDepth 100000

/-- base answers n, here and in every world behind. -/
def BaseAt (nm f : ByteArray) (n : Nat) (w : World) : Prop := ∀ W, Below w.heap.size w W → Calls Tryz.prog 28 #[.string nm, .string f] W fun e W' => e = .returned (.int .i64 n) ∧ Below W.heap.size W W'
theorem BaseAt.below {nm f : ByteArray} {n : Nat} {w w' : World} (h : BaseAt nm f n w) (hb : Below w.heap.size w w') : BaseAt nm f n w' := fun W hW => h W (hb.trans (hW.mono hb.size))

theorem atoi_dec {n : Nat} (hn : n < 100) : Lib.atoi (Lib.decDigits n) = some (n : Int) ∧ (Lib.decDigits n).length ≤ 18 := by
  have h1 : ∀ k : Fin 10, Lib.atoi [UInt8.ofNat (48 + k.val)] = some (k.val : Int) := by decide
  have h2 : ∀ k : Fin 10, ∀ j : Fin 10, k.val ≠ 0 → Lib.atoi ([UInt8.ofNat (48 + k.val)] ++ [UInt8.ofNat (48 + j.val)]) = some ((10 * k.val + j.val : Nat) : Int) := by decide +kernel
  by_cases h : n < 10
  · rw [Lib.decDigits_one h]
    exact ⟨h1 ⟨n, h⟩, by simp⟩
  · have e : Lib.decDigits n = [UInt8.ofNat (48 + n / 10)] ++ [UInt8.ofNat (48 + n % 10)] := by
      rw [Lib.decDigits, dif_neg h, Lib.decDigits_one (by omega)]
    rw [e]
    have := h2 ⟨n / 10, by omega⟩ ⟨n % 10, by omega⟩ (by simp only; omega)
    simp only at this
    rw [show 10 * (n / 10) + n % 10 = n by omega] at this
    exact ⟨this, by simp⟩
theorem fnm_prefix (nm : ByteArray) (n : Nat) : Lib.hasPrefix (fnm nm n).data.toList (nm ++ ⟨#[45]⟩ : ByteArray).data.toList = true ∧ (⟨(Lib.trimPrefix (fnm nm n).data.toList (nm ++ ⟨#[45]⟩ : ByteArray).data.toList).toArray⟩ : ByteArray) = istr n := by
  have e1 : (nm ++ ⟨#[45]⟩ : ByteArray).data.toList = nm.data.toList ++ [45] := by simp [ByteArray.data_append]
  rw [fnm_list, e1]
  have hp : Lib.hasPrefix (nm.data.toList ++ [45] ++ Lib.decDigits n) (nm.data.toList ++ [45]) = true := by
    simp [Lib.hasPrefix]
  refine ⟨hp, ?_⟩
  unfold Lib.trimPrefix
  rw [if_pos hp, List.drop_left]
  rfl

set_option maxHeartbeats 1000000 in
theorem sbase_small (nm : ByteArray) (n : Nat) (hn : n < 100) (hs : nm.size ≤ 1000000) (w : World) : BaseAt nm (fnm nm n) n w := by
  intro W _
  obtain ⟨hpre, htrim⟩ := fnm_prefix nm n
  obtain ⟨hat, hal⟩ := atoi_dec hn
  have HPRE := Lib.hid hpre
  have HTRIM := Lib.hid htrim
  have HAT := Lib.hid hat
  have HAL := Lib.hid hal
  have d1 : decide ((n : Int) < 0) = false := decide_eq_false (by omega)
  have d2 : decide ((4611686018427387904 : Int) < (n : Int)) = false := decide_eq_false (by omega)
  have hn0 : ¬ (n : Int) < 0 := by omega
  have hn1 : ¬ (4611686018427387904 : Int) < (n : Int) := by omega
  clear hpre htrim hat hal
  go_enter Tryz.func28, Tryz.ntmps28
  go_wp2_with fail
  refine (Any.strings_CutPrefix Tryz.lays103 _ _ _).mono ?_
  rintro e w1 ⟨rfl, rfl⟩
  rw [HPRE.out, HTRIM.out]
  go_wp2_with fail
  refine (Any.strconv_Atoi Tryz.lays172 (istr n) n (by show (Lib.decDigits n).toArray.size ≤ 18; rw [List.size_toArray]; exact HAL.out) (by simpa [istr] using HAT.out) _).mono ?_
  rintro e w2 ⟨rfl, t, hw2⟩
  have HB2 := Lib.hid (show Below w1.heap.size w1 w2 from by
    rw [hw2]
    exact ⟨rfl, rfl, rfl, by rw [Lib.bytesWorld_size]; omega, fun j hj => Lib.bytesWorld_at_old w1 _ t j hj⟩)
  clear hw2
  go_wp2_with fail
  refine (itoa_small hn w2 w2 (Below.refl _ _)).mono ?_
  rintro e w3 ⟨rfl, hb3⟩
  have HB3 := Lib.hid (HB2.out.trans (hb3.mono HB2.out.size))
  clear hb3
  go_wp2_with fail
  go_ret
  exact ⟨rfl, HB3.out⟩
end Go.Proofs.YtcckoppbophidaaGreatDoor

/- Layer 6: what Open makes of files; no call walked. -/
namespace Go.Proofs.YtcckoppbophidaaGreatDoor
open Go.RowKit Go.Shelf
set_option linter.unusedVariables false
set_option linter.unusedSimpArgs false
set_option maxRecDepth 100000

/-! ### Lists -/
theorem perm_map_ex {α β : Type} {f : α → β} : ∀ {l : List α} {m : List β}, m.Perm (l.map f) → ∃ l' : List α, l'.Perm l ∧ l'.map f = m := by
  intro l m h
  generalize hk : l.map f = k at h
  induction h generalizing l with
  | nil =>
    have : l = [] := by simpa using hk
    subst this
    exact ⟨[], List.Perm.refl _, rfl⟩
  | cons x _ ih =>
    cases l with
    | nil => simp at hk
    | cons a l =>
      simp only [List.map_cons, List.cons.injEq] at hk
      obtain ⟨l', h1, h2⟩ := ih hk.2
      exact ⟨a :: l', h1.cons a, by rw [List.map_cons, h2, hk.1]⟩
  | swap x y r =>
    match l, hk with
    | a :: b :: l, hk =>
      simp only [List.map_cons, List.cons.injEq] at hk
      obtain ⟨h1, h2, h3⟩ := hk
      exact ⟨b :: a :: l, List.Perm.swap _ _ _, by rw [List.map_cons, List.map_cons, h1, h2, h3]⟩
    | [], hk => simp at hk
    | [a], hk => simp at hk
  | trans _ _ ih1 ih2 =>
    obtain ⟨l2, h3, h4⟩ := ih2 hk
    obtain ⟨l1, h1, h2⟩ := ih1 h4
    exact ⟨l1, h1.trans h3, h2⟩
theorem pairwise_of_apart {α : Type} {R : α → α → Prop} {l : List α} (h : ∀ (i j : Nat) (s t : α), l[i]? = some s → l[j]? = some t → i ≠ j → R s t) : l.Pairwise R := by
  rw [List.pairwise_iff_getElem]
  intro i j hi hj hij
  exact h i j _ _ (List.getElem?_eq_getElem hi) (List.getElem?_eq_getElem hj) (by omega)
theorem apart_of_pairwise {α : Type} {R : α → α → Prop} (hs : ∀ s t, R s t → R t s) {l : List α} (h : l.Pairwise R) : ∀ (i j : Nat) (s t : α), l[i]? = some s → l[j]? = some t → i ≠ j → R s t := by
  intro i j s t hi hj hij
  rw [List.pairwise_iff_getElem] at h
  obtain ⟨hil, rfl⟩ := List.getElem?_eq_some_iff.1 hi
  obtain ⟨hjl, rfl⟩ := List.getElem?_eq_some_iff.1 hj
  rcases Nat.lt_or_gt_of_ne hij with hlt | hgt
  · exact h i j hil hjl hlt
  · exact hs _ _ (h j i hjl hil hgt)
theorem mget_of_mem {α : Type} : ∀ {m : List (ByteArray × α)} {k : ByteArray} {v : α}, (m.map (·.1)).Nodup → (k, v) ∈ m → mget m k = some v := by
  intro m k v hn hm
  cases hg : mget m k with
  | none =>
    rw [mget_none] at hg
    exact absurd (List.mem_map.2 ⟨_, hm, rfl⟩) hg
  | some u =>
    have h2 := mget_mem hg
    have hp : m.Pairwise (fun a b => a.1 ≠ b.1) := by
      have := hn
      unfold List.Nodup at this
      rwa [List.pairwise_map] at this
    by_cases e : u = v
    · rw [e]
    · exfalso
      obtain ⟨i, hi⟩ := List.getElem?_of_mem hm
      obtain ⟨j, hj⟩ := List.getElem?_of_mem h2
      have hij : i ≠ j := fun e2 => by
        subst e2
        rw [hi] at hj
        simp only [Option.some.injEq, Prod.mk.injEq, true_and] at hj
        exact e hj.symm
      exact apart_of_pairwise (R := fun a b : ByteArray × α => a.1 ≠ b.1) (fun s t h => h.symm) hp i j _ _ hi hj hij rfl

/-! ### A file as a segment -/
structure PS where
  base : Nat
  ents : List (List UInt8)
  size : Nat
  dirty : Bool
def Seg.ps (s : Seg) : PS := ⟨s.base, s.evs.map Prod.snd, s.size, s.dirty⟩
/-- How many whole frames stand at the front. -/
def cntF (xs : List UInt8) : Nat := ((List.range (xs.length + 1)).find? (fun n => decide ((Fr.FrM.next xs (Fr.FrM.pos xs n)).2.2 ≠ 0))).getD 0
theorem cntF_is (xs : List UInt8) : Fr.FrM.Count xs (cntF xs) := by
  obtain ⟨n, hn⟩ := Fr.FrM.count_exists xs
  have hl := Fr.FrM.pos_le xs n hn.1
  have hf : (List.range (xs.length + 1)).find? (fun n => decide ((Fr.FrM.next xs (Fr.FrM.pos xs n)).2.2 ≠ 0)) = some n := by
    refine find_at _ _ n n ?_ (by simpa using hn.2) (fun i y hi hy => ?_)
    · rw [List.getElem?_range (by omega)]
    · rw [List.getElem?_range (by omega)] at hy
      simp only [Option.some.injEq] at hy
      subst hy
      simpa using hn.1 i hi
  unfold cntF
  rw [hf]
  exact hn
def psOf (n : Nat) (xs : List UInt8) : PS := ⟨n, Fr.FrM.pays xs (cntF xs), Fr.FrM.pos xs (cntF xs), decide (Fr.FrM.pos xs (cntF xs) < xs.length)⟩
/-- What base answers of a name. -/
def bInt (o : Option Nat) : Int := match o with | some n => n | none => -1
def BaseIs (nm f : ByteArray) (o : Option Nat) (w : World) : Prop := ∀ W, Below w.heap.size w W → Calls Tryz.prog 28 #[.string nm, .string f] W fun e W' => e = .returned (.int .i64 (bInt o)) ∧ Below W.heap.size W W'
theorem BaseAt.is {nm f : ByteArray} {n : Nat} {w : World} (h : BaseAt nm f n w) : BaseIs nm f (some n) w := h
/-- The segments of files. -/
def segF (bs : ByteArray → Option Nat) (fs : Files) : List PS := fs.filterMap (fun f => (bs f.1).map fun n => psOf n f.2.2)

/-! ### A segment that was made of a file -/
theorem segAt_new {w : World} {B b n e : Nat} {ev : Value} {xs : List UInt8} {d : Bool} (hbox : w.ownsRow B 74 4 (.slice (some ⟨b, 0, none⟩) 1 1) 1 [.int .i64 n, ev, .int .i64 e, .bool d]) {base : Nat} {pss : List (List UInt8)} (hB : B ≤ base) (hl : Fr.MineL w base ev pss) :
    ∃ s : Seg, s.b = b ∧ s.ev = ev ∧ s.ps = ⟨n, pss, e, d⟩ ∧ SegAt w B s := by
  obtain ⟨vs, h1, h2⟩ := hl
  have hlen : vs.length = pss.length := by have := h1.1; omega
  have e1 : (vs.zip pss).map Prod.fst = vs := List.map_fst_zip (by omega)
  have e2 : (vs.zip pss).map Prod.snd = pss := List.map_snd_zip (by omega)
  refine ⟨⟨b, n, ev, vs.zip pss, e, d⟩, rfl, rfl, by show PS.mk _ _ _ _ = _; rw [e2], ⟨hbox, ?_, fun x hx => ?_⟩⟩
  · show w.ownsRow B 34 1 ev (vs.zip pss).length ((vs.zip pss).map Prod.fst)
    rw [e1, List.length_zip, hlen, Nat.min_self]
    exact ownsRow_mono h1 hB
  · obtain ⟨i, hi⟩ := List.getElem?_of_mem hx
    obtain ⟨u, y⟩ := x
    have hz := List.getElem?_zip_eq_some.1 hi
    exact Txt.of_mine (h2 i u y hz.1 hz.2)

/-! ### The segments, sorted -/
theorem LT.sorted {w0 w w' : World} {B l g cap : Nat} {L0 L : Lg} {D0 D : Dk} {ss : List Seg} (h : LT w0 w B l L0 D0 L D) (hv : L.sv = .slice (some ⟨g, 0, none⟩) L.segs.length cap) (hp : ss.Perm L.segs) (hr : w'.ownsRow B 72 1 L.sv L.segs.length (ss.map Seg.ptr)) (hg : w.grownBy w' (some g)) :
    LT w0 w' B l L0 D0 { L with segs := ss } D := by
  have hlog := h.is.log
  have ho : Only (fun j => j = g) w w' := (Only.of_grown hg).weak (fun j _ e => (Option.some.inj e).symm)
  have hgb : L.sv.ownBlock = some g := by rw [hv]; rfl
  have hgt := own_ty hlog.row hgb
  have hfoot : ∀ j, j = g → L.foot l j := fun j e => .inr (.inl (by rw [e]; exact hgb))
  have hlen : ss.length = L.segs.length := hp.length_eq
  refine h.trans (LT.log h.is (ho.weak (fun j _ e => hfoot j e)) ?_ rfl ?_)
  · refine ⟨ownsRow_only hlog.box ho (fun j hj e => ?_), ?_, fun s hs => (hlog.segs s (hp.subset hs)).only ho (fun j e hf => ?_) (fun j e hu => ?_), ?_⟩
    · simp only [Value.ownBlock, Option.some.injEq] at hj
      subst hj e
      exact absurd (hgt.eq (own_ty hlog.box rfl)) (by decide)
    · show w'.ownsRow B 72 1 L.sv ss.length (ss.map Seg.ptr)
      rw [hlen]
      exact hr
    · subst e
      rcases (hlog.segs s (hp.subset hs)).foot_ty hf with hf | hf
      · exact absurd (hf.eq hgt) (by decide)
      · exact absurd (hf.eq hgt) (by decide)
    · subst e
      exact absurd (hgt.eq (show TyAt w j 5 from hu)) (by decide)
    · have h1 := pairwise_of_apart (R := fun s t : Seg => ∀ b, s.foot b → ¬ t.foot b) hlog.apart
      have h2 := hp.symm.pairwise h1 (fun {s t} h b hb hc => h b hc hb)
      exact apart_of_pairwise (R := fun s t : Seg => ∀ b, s.foot b → ¬ t.foot b) (fun s t h b hb hc => h b hc hb) h2
  · rintro j (e | e | ⟨s, hs, e⟩)
    · exact .inl (.inl e)
    · exact .inl (.inr (.inl e))
    · exact .inl (.inr (.inr ⟨s, hp.subset hs, e⟩))
/-- Sorted by distinct numbers: there is one such list. -/
theorem ps_unique {A T : List PS} (hp : A.Perm T) (ha : A.Pairwise (fun p q => p.base ≤ q.base)) (ht : T.Pairwise (fun p q => p.base < q.base)) : A = T := by
  refine List.Perm.eq_of_pairwise (le := fun p q => p.base ≤ q.base) ?_ ha (ht.imp (fun h => Nat.le_of_lt h)) hp
  intro a b ha hb h1 h2
  have ha' := hp.subset ha
  obtain ⟨i, hi⟩ := List.getElem?_of_mem ha'
  obtain ⟨j, hj⟩ := List.getElem?_of_mem hb
  by_cases hij : i = j
  · subst hij
    rw [hi] at hj
    simpa using hj
  · have := apart_of_pairwise (R := fun p q : PS => p.base ≠ q.base) (fun s t h => h.symm) (ht.imp (fun h => Nat.ne_of_lt h)) i j a b hi hj hij
    omega
end Go.Proofs.YtcckoppbophidaaGreatDoor

/- Layer 6: Open on files that are whole and go on, walked. -/
namespace Go.Proofs.YtcckoppbophidaaGreatDoor
open Go.RowKit Go.Shelf Go.Sort
set_option linter.unusedVariables false
set_option linter.unusedSimpArgs false
set_option maxRecDepth 100000
attribute [local go_sem] Oper.semAt_some

/-- What Open is asked of: the disk, what base answers of its names, how great its files are. -/
structure OpenIn (w : World) (B d : Nat) (D : Dk) (nm : ByteArray) (room : Int) (bs : ByteArray → Option Nat) : Prop where
  disk : DiskAt w B d D
  nmr : rightNm nm.data.toList = true
  room : 1 ≤ room ∧ room ≤ 1048576
  base : ∀ f ∈ D.now, BaseIs nm f.1 (bs f.1) w
  small : ∀ f ∈ D.now, ∀ n, bs f.1 = some n → n ≤ 4611686018427387904
  len : ∀ f ∈ D.now, f.2.2.length ≤ 1099511627776
  cnt : D.now.length ≤ 100000

/-- The row of the segments is new. -/
theorem LT.sv_ge {w0 w : World} {B l d : Nat} {nm : ByteArray} {room : Int} {D : Dk} {L : Lg} (h : LT w0 w B l (newL d nm room) D L D) {W : Nat} (hl : W ≤ l) (hW : W ≤ w0.heap.size) {k : Nat} (hk : L.sv.ownBlock = some k) : W ≤ k := by
  rcases h.foot k (.inl (.inr (.inl hk))) with ((e | e | ⟨s, hs, e⟩) | e) | e
  · omega
  · cases e
  · cases hs
  · rw [show (newL d nm room).d = L.d from h.d.symm] at e
    exact absurd e (foot_apart h.is.log h.is.disk (.inr (.inl hk)))
  · omega
/-- The log's segments, sorted. -/
theorem ssort_calls (w0 w : World) (B l : Nat) (L0 L : Lg) (D0 D : Dk) (h : LT w0 w B l L0 D0 L D) {v : Value} (hv : L.sv = v) (hnil : L.segs = [] → L.sv = .slice none 0 0) {i : Nat} (hn : L.segs.length ≤ i) (hi : i ≤ 100000) :
    Calls Tryz.prog 30 #[v, .func (.func 31) #[] #[]] w fun e w' => (∃ v, e = .returned v) ∧ ∃ ss : List Seg, ss.Perm L.segs ∧ (ss.map Seg.ps).Pairwise (fun p q => p.base ≤ q.base) ∧ LT w0 w' B l L0 D0 { L with segs := ss } D ∧ ∀ W0 : Nat, (∀ k, v.ownBlock = some k → W0 ≤ k) → W0 ≤ w.heap.size → Below W0 w w' := by
  subst hv
  by_cases h0 : L.segs = []
  · have hs := sortf_nil w (.func (.func 31) #[] #[])
    rw [← hnil h0] at hs
    refine hs.mono ?_
    rintro e w' ⟨hv, rfl⟩
    exact ⟨hv, [], by rw [h0], List.Pairwise.nil, by rw [← h0]; exact h, fun _ _ _ => Below.refl _ _⟩
  · have hlog := h.is.log
    have hpos := List.length_pos_iff.2 h0
    obtain ⟨g, cap, hsv, -⟩ := hlog.ptr 0 hpos
    have hrow := hlog.row
    rw [hsv] at hrow
    have hcs := segsort_calls B g cap (L.segs.map fun s => (s.b, s.base)) w (by rw [List.length_map, List.map_map]; exact hrow) (fun p hp => by
      obtain ⟨s, hs, rfl⟩ := List.mem_map.1 hp
      refine ⟨fun e => ?_, (hlog.segs s hs).at.1⟩
      simp only at e
      subst e
      exact absurd ((own_ty (hlog.segs s hs).box (j := s.b) rfl).eq (own_ty hrow (j := s.b) rfl)) (by decide)) (by rw [List.length_map]; exact hpos) (by rw [List.length_map]; omega)
    rw [List.length_map, ← hsv] at hcs
    refine hcs.mono ?_
    rintro e w' ⟨hv, qs, hqp, hqo, hqr, hqg⟩
    obtain ⟨ss, hsp, rfl⟩ := perm_map_ex hqp
    refine ⟨hv, ss, hsp, ?_, LT.sorted h hsv hsp (by rw [List.map_map] at hqr; exact hqr) hqg, fun W0 hk hW => ?_⟩
    · rw [List.pairwise_map] at hqo ⊢
      exact hqo
    · exact (Only.of_grown hqg).below hW (fun j hj e => by
        have := hk j (by rw [hsv]; exact e)
        omega)
set_option maxHeartbeats 4000000 in
theorem lopen_good (d B : Nat) (D : Dk) (nm : ByteArray) (room : Int) (bs : ByteArray → Option Nat) (T : List PS) (w : World) (h : OpenIn w B d D nm room bs)
    (hT : T.Perm (segF bs D.now)) (hord : T.Pairwise (fun p q => p.base < q.base)) (hchain : ∀ (i : Nat) (p q : PS), T[i]? = some p → T[i + 1]? = some q → q.base = p.base + p.ents.length) (hclean : ∀ p ∈ T, p.dirty = false) (hbd : ∀ p ∈ T, p.base + p.ents.length ≤ 4611686018427387904) :
    Calls Tryz.prog 9 #[.pointer (some ⟨d, 0, none⟩), .string nm, .int .i64 room] w fun e w' => ∃ (l : Nat) (L : Lg), e = .returned (.tuple #[.pointer (some ⟨l, 0, none⟩), .int .i64 0]) ∧ w.heap.size ≤ l ∧ LD w' B l L D ∧ Only (D.foot d) w w' ∧ (∀ j, ldFoot l L D j → D.foot d j ∨ w.heap.size ≤ j) ∧
      L.d = d ∧ L.name = nm ∧ L.room = room ∧ L.broken = false ∧ L.segs.map Seg.ps = T := by
  have HI := Lib.hid h
  clear h
  have hns := rightNm_size HI.out.nmr
  have HR := Lib.hid (lright_calls nm w (by omega))
  have d1 : decide (room < 1) = false := decide_eq_false (by have := HI.out.room; omega)
  have d2 : decide (1048576 < room) = false := decide_eq_false (by have := HI.out.room; omega)
  go_enter Tryz.func9, Tryz.ntmps9
  go_wp2_with fail
  refine HR.out.mono ?_
  rintro e w1 ⟨rfl, hb1⟩
  rw [HI.out.nmr]
  obtain ⟨U, hU⟩ : ∃ U, U = w1.alloc (.cells #[.pointer (some ⟨d, 0, none⟩), .string nm, .int .i64 room, .slice none 0 0, .bool false] 66) := ⟨_, rfl⟩
  have hal := below_alloc w1 (.cells #[.pointer (some ⟨d, 0, none⟩), .string nm, .int .i64 room, .slice none 0 0, .bool false] 66)
  have hsz := hb1.size
  have hBw : B ≤ w.heap.size := by have := HI.out.disk.foot_lt (.inl rfl : D.foot d d); omega
  have HBU := Lib.hid (show Below w.heap.size w U by rw [hU]; exact hb1.trans (hal.mono hsz))
  have HLU := Lib.hid (show LD U B w1.heap.size (newL d nm room) D from by
    refine ⟨?_, HI.out.disk.below HBU.out⟩
    rw [hU]
    refine ⟨World.ownsRow_lit w1 _ 1 (by omega) (by unfold maxLen; omega) rfl, World.ownsRow_nil _ _ _ _, (fun s hs => by cases hs), (fun i j s t hs => by simp [newL] at hs)⟩)
  have HLW := Lib.hid (show w.heap.size ≤ w1.heap.size ∧ w1.heap.size < U.heap.size from ⟨hsz, by rw [hU]; simp⟩)
  clear hb1 hal hsz
  go_upto_region 6 with fail
  rw [← hU]
  clear hU HR
  generalize w1.heap.size = l at *
  go_wp2_with fail
  refine (dnames_calls d B D U HLU.out.disk (by have := HI.out.cnt; omega)).mono ?_
  rintro e w2 ⟨nv, ns, rfl, hns2, hrow2, hb2⟩
  obtain ⟨fs, hfp, hfm⟩ := perm_map_ex (f := fun f : ByteArray × (Value × List UInt8) => f.1.data.toList) (l := D.now) (m := ns) (by rw [hns2]; exact List.mergeSort_perm _ _)
  have hnl : ns.length = fs.length := by rw [← hfm, List.length_map]
  have hfl : fs.length ≤ 100000 := by rw [hfp.length_eq]; exact HI.out.cnt
  have HFP := Lib.hid hfp
  have HFM := Lib.hid hfm
  rw [hnl] at hrow2
  have HROW := Lib.hid hrow2
  obtain ⟨na, nc, rfl⟩ := own_slice hrow2
  have HB2 := Lib.hid hb2
  have HT2 := Lib.hid (LT.of_below HLU.out hb2)
  clear hns2 hfm hfp hrow2 hb2 hnl
  go_wp2_with fail
  -- the loop over the names: fs, the files in the names' order
  go_loopw [10, 11, 12, 13, 14, 15, 44] (fun _ _ _ _ _ _ iv wr => ∃ (i : Nat) (sv : Value) (ss : List Seg), i ≤ fs.length ∧ ss.length ≤ i ∧ iv = .int .i64 i ∧ LT U wr B l (newL d nm room) D ⟨d, nm, room, sv, ss, false⟩ D ∧ Below w.heap.size w wr ∧ wr.ownsRow U.heap.size 9 1 (.slice na fs.length nc) fs.length (ns.map encStr) ∧ ss.map Seg.ps = segF bs (fs.take i) ∧ (ss = [] → sv = .slice none 0 0)) (fun _ _ _ _ _ _ iv _ => fs.length - (intOf iv).toNat)
  case atStart => exact ⟨0, _, [], by omega, by simp, rfl, HT2.out, HBU.out.trans (HB2.out.mono HBU.out.size), HROW.out, rfl, fun _ => rfl⟩
  case round =>
    clear HT2 HROW HB2
    obtain ⟨i, sv, ss, hi, hsl, rfl, hlt, hbw, hrow, hss, hnl⟩ := hrel
    have HNL := Lib.hid hnl
    clear hnl
    have HT := Lib.hid hlt
    have HBW := Lib.hid hbw
    have HROW := Lib.hid hrow
    have HSS := Lib.hid hss
    clear hlt hbw hss
    by_cases hil : i < fs.length
    · obtain ⟨f, hf⟩ : ∃ f, fs[i]? = some f := ⟨_, List.getElem?_eq_getElem hil⟩
      have hfD : f ∈ D.now := HFP.out.subset (List.mem_of_getElem? hf)
      have hfo : fileOf D.now f.1 = f.2.2 := by
        unfold fileOf
        rw [mget_of_mem (v := f.2) HI.out.disk.know (by exact hfD)]
        rfl
      have HTK := Lib.hid (show segF bs (fs.take (i + 1)) = segF bs (fs.take i) ++ segF bs [f] from by
        rw [List.take_succ_eq_append_getElem hil]
        have e : fs[i] = f := (List.getElem?_eq_some_iff.1 hf).2
        rw [e]
        exact List.filterMap_append)
      have hxl := HI.out.len f hfD
      have hnm := HI.out.small f hfD
      have HBA := Lib.hid (HI.out.base f hfD)
      have hcell : (ns.map encStr)[i]? = some (.string f.1) := by
        rw [← HFM.out, List.map_map, List.getElem?_map, hf]
        exact congrArg some (encStr_name f.1)
      rcases hrow.2 with ⟨_, h0⟩ | ⟨ng, ncap, ncur, hvv, hbg, hng, hnn, hmm, -⟩
      · omega
      simp only [Value.slice.injEq] at hvv
      obtain ⟨rfl, -, rfl⟩ := hvv
      have hcl := World.ownsRow.cells hrow (g := ng) rfl i _ hcell
      rw [add_off, Nat.zero_add] at hcl
      obtain ⟨fn, fv, xs⟩ := f
      simp only at hcl hfo hxl hnm HBA
      have hic : i < nc := by omega
      clear hrow hng hmm hf hfD hcell hbg
      go_wp2_with fail
      refine (HBA.out wr HBW.out).mono ?_
      rintro e w3 ⟨rfl, hb3⟩
      have HT := Lib.hid (HT.out.below hb3)
      have HBW := Lib.hid (HBW.out.trans (hb3.mono HBW.out.size))
      have HROW := Lib.hid (ownsRow_below HROW.out hb3 (Nat.le_refl _))
      clear hb3 hcl
      cases hbo : bs fn with
      | none =>
        have HNX := Lib.hid (show ss.map Seg.ps = segF bs (fs.take (i + 1)) from by
          rw [HTK.out, ← HSS.out]
          simp [segF, hbo])
        simp only [bInt]
        clear hbo HTK HSS hnm
        go_wp2_with fail
        go_roundw
        case rel => exact ⟨i + 1, sv, ss, by omega, by omega, by go_num, HT.out, HBW.out, HROW.out, HNX.out, HNL.out⟩
        case measure => simp [intOf]; omega
      | some n =>
        have hn62 := hnm n hbo
        have HNX := Lib.hid (show segF bs (fs.take (i + 1)) = ss.map Seg.ps ++ [psOf n xs] from by
          rw [HTK.out, ← HSS.out]
          simp [segF, hbo])
        simp only [bInt]
        have dn : decide ((0 : Int) ≤ (n : Int)) = true := decide_eq_true (by omega)
        clear hbo HTK HSS hnm
        go_wp2_with fail
        refine (dread_calls d B D fn w3 HT.out.is.disk (by rw [hfo]; exact hxl)).mono ?_
        rintro e w4 ⟨v, rfl, hm4, hb4⟩
        rw [hfo] at hm4
        have HT := Lib.hid (HT.out.below hb4)
        have HBW := Lib.hid (HBW.out.trans (hb4.mono HBW.out.size))
        have HROW := Lib.hid (ownsRow_below HROW.out hb4 (Nat.le_refl _))
        have HM := Lib.hid hm4
        obtain ⟨va, vc, rfl⟩ := hm4.slice
        have HS4 := Lib.hid HT.out.only.size
        have HF4 := Lib.hid (fun j (hj : Lg.foot l ⟨d, nm, room, sv, ss, false⟩ j) => (HT.out.is.log.foot_lt hj).2)
        clear hb4 hm4
        go_wp2_with fail
        refine (Fr.cut_calls _ xs (cntF xs) w4 HM.out.bytes hxl (cntF_is xs)).mono ?_
        rintro e w5 ⟨lv, rfl, hl5, hb5⟩
        have HT := Lib.hid (HT.out.below hb5)
        have HBW := Lib.hid (HBW.out.trans (hb5.mono HBW.out.size))
        have HROW := Lib.hid (ownsRow_below HROW.out hb5 (Nat.le_refl _))
        have HF5 := Lib.hid (And.intro HS4.out (And.intro HF4.out hb5.size))
        obtain ⟨la, lc, rfl⟩ := hl5.slice'
        rw [Fr.FrM.pays_length] at hl5 ⊢
        have HL5 := Lib.hid hl5
        clear hb5 hl5
        have c3 := HT.out.is.log.at.2.2.2.1
        obtain ⟨ra, rc, hrv⟩ := own_slice HT.out.is.log.row
        simp only at c3 hrv
        rw [hrv] at c3
        have hpl := Fr.FrM.pos_le xs (cntF xs) (cntF_is xs).1
        obtain ⟨po, hpo⟩ : ∃ po, po = Fr.FrM.pos xs (cntF xs) := ⟨_, rfl⟩
        obtain ⟨cn, hcn⟩ : ∃ cn, cn = cntF xs := ⟨_, rfl⟩
        have HPS := Lib.hid (show psOf n xs = ⟨n, Fr.FrM.pays xs cn, po, decide (po < xs.length)⟩ from by unfold psOf; rw [hpo, hcn])
        rw [← hpo] at hpl ⊢
        rw [← hcn] at HL5 hpl ⊢
        have HRV := Lib.hid hrv
        have hpol : po ≤ xs.length := hpl.2
        clear hrv hpo hcn hpl
        obtain ⟨W6, hW6⟩ : ∃ W6, W6 = w5.alloc (.cells #[.int .i64 n, .slice la cn lc, .int .i64 po, .bool (decide (po < xs.length))] 74) := ⟨_, rfl⟩
        have hal6 : Below w5.heap.size w5 W6 := by rw [hW6]; exact below_alloc w5 _
        have hs6 : W6.heap.size = w5.heap.size + 1 := by rw [hW6]; simp
        have HB5 := Lib.hid (show B ≤ w5.heap.size from by have := HT.out.is.log.foot_lt (j := l) (.inl rfl); omega)
        obtain ⟨sg, hsb, hsev, hsps, hsat⟩ := segAt_new (w := W6) (B := B) (b := w5.heap.size) (n := n) (e := po) (ev := .slice la cn lc) (xs := xs) (d := decide (po < xs.length)) (by rw [hW6]; exact World.ownsRow_lit w5 _ 1 HB5.out (by unfold maxLen; omega) rfl) (base := w4.heap.size) (pss := Fr.FrM.pays xs cn) (by have := HS4.out; have := HLW.out; omega) (HL5.out.below hal6 (Nat.le_refl _))
        obtain ⟨W7, hW7⟩ : ∃ W7, W7 = W6.alloc (.cells #[.pointer (some ⟨w5.heap.size, 0, none⟩)] 72) := ⟨_, rfl⟩
        have hal7 : Below W6.heap.size W6 W7 := by rw [hW7]; exact below_alloc W6 _
        have HT7 := Lib.hid ((HT.out.below hal6).below hal7)
        have SG7 := Lib.hid (hsat.below hal7)
        have HSG := Lib.hid (And.intro hsb (And.intro hsev hsps))
        have HBW := Lib.hid ((HBW.out.trans (hal6.mono HBW.out.size)).trans (hal7.mono (by have := HBW.out.size; omega)))
        have HROW := Lib.hid (ownsRow_below (ownsRow_below HROW.out hal6 (Nat.le_refl _)) hal7 (Nat.le_refl _))
        have HOW := Lib.hid (show W7.ownsRow B 72 1 (.slice ra ss.length rc) ss.length (ss.map Seg.ptr) from by have := HT7.out.is.log.row; rwa [HRV.out] at this)
        have HLIT := Lib.hid (show Rd W7 1 (.slice (some ⟨w5.heap.size + 1, 0, none⟩) 1 1) 1 [.pointer (some ⟨w5.heap.size, 0, none⟩)] by rw [hW7, ← hs6]; exact Rd.lit (w := W6) (cs := #[.pointer (some ⟨w5.heap.size, 0, none⟩)]) (e := 72) (n := 1) (sz := 1) rfl (by omega))
        have HZ := Lib.hid (show B ≤ W7.heap.size by have := HT7.out.is.log.foot_lt (j := l) (.inl rfl); omega)
        have HW := Lib.hid (And.intro hW6 hW7)
        rw [hW7, hW6] at HOW HLIT HZ HT7 SG7 HBW HROW
        have hss5 : ss.length ≤ 100000 := by omega
        clear hal6 hal7 hsat hsb hsev hsps hW6 hW7 hs6
        go_upto_region 14 with (at_builtin; go_loud (refine app_keep tySegs HOW.out HLIT.out (by simp [Value.oneCell']) (by omega) (by omega) (by omega) HZ.out rfl rfl rfl rfl ?_; intro g gcap w8 h2 h3 h4 h5; have hbx := ownsRow_only HT7.out.is.log.box (Only.of_grown h4) (fun j hj e => by (simp only [Value.ownBlock, Option.some.injEq] at hj; subst hj; exact absurd ((own_ty HOW.out e).eq (own_ty HT7.out.is.log.box (j := l) rfl)) (by decide))); have l3 : w8.cell? ⟨l, 3, none⟩ = some (.slice ra ss.length rc) := (by have e := World.ownsRow.cells hbx (g := l) rfl 3 _ rfl; rw [add_off, Nat.zero_add] at e; rw [← HRV.out]; exact e); have z3 : w8.frozen? ⟨l, 3, none⟩ = false := World.ownsRow.frozenAt hbx 3; have Q2 := Lib.hid h2; have Q4 := Lib.hid h4; have Q5 := Lib.hid h5; clear h2 h3 h4 h5 hbx))
        have HSVB := Lib.hid (show ∀ k, (Value.slice ra ss.length rc).ownBlock = some k → w.heap.size ≤ k from fun k hk => by
          have hk : sv.ownBlock = some k := by rw [HRV.out]; exact hk
          rcases HT7.out.foot k (.inl (.inr (.inl hk))) with ((e | e | ⟨s, hs, e⟩) | e) | e
          · have := HLW.out; omega
          · cases e
          · cases hs
          · exact absurd e (foot_apart HT7.out.is.log HT7.out.is.disk (.inr (.inl hk)))
          · have := HLW.out; omega)
        have ho8 : Only (fun j => j = l ∨ (Value.slice ra ss.length rc).ownBlock = some j) _ (w8.setCell ⟨l, 3, none⟩ (.slice (some ⟨g, 0, none⟩) (ss.length + 1) gcap)) := ((Only.of_grown Q4.out).weak (T := fun j => j = l ∨ (Value.slice ra ss.length rc).ownBlock = some j) (fun j _ e => .inr e)).setCell ⟨l, 3, none⟩ _ (.inl (.inl rfl))
        have HRO := Lib.hid (ownsRow_only HROW.out ho8 (fun j hj e => by
          rcases e with e | e
          · subst e
            exact absurd ((own_ty HROW.out hj).eq (own_ty HT7.out.is.log.box (j := j) rfl)) (by decide)
          · exact absurd ((own_ty HROW.out hj).eq (own_ty HOW.out e)) (by decide)))
        have HBO := Lib.hid (HBW.out.trans (ho8.below (B := w.heap.size) HBW.out.size (fun j hj e => by
          rcases e with e | e
          · have := HLW.out; omega
          · have := HSVB.out j e; omega)))
        have HA := Lib.hid (LT.addSeg HT7.out SG7.out (fun j hj => by
          have h1 := HF5.out
          rcases hj with e | e
          · rw [HSG.out.1] at e; omega
          · rw [HSG.out.2.1] at e
            obtain ⟨vs, hvs, -⟩ := HL5.out
            have := (World.ownsRow.lt hvs j e).1
            omega) (fun j hj hf => by
          have h1 := HF5.out
          have h2 := HF5.out.2.1 j (by
            rcases hf with e | e | e
            · exact .inl e
            · exact .inr (.inl e)
            · exact .inr (.inr e))
          rcases hj with e | e
          · rw [HSG.out.1] at e; omega
          · rw [HSG.out.2.1] at e
            obtain ⟨vs, hvs, -⟩ := HL5.out
            have := (World.ownsRow.lt hvs j e).1
            omega) (sv2 := .slice (some ⟨g, 0, none⟩) (ss.length + 1) gcap) (by rw [show sg.ptr = Value.pointer (some ⟨w5.heap.size, 0, none⟩) by unfold Seg.ptr; rw [HSG.out.1]]; exact Q2.out) (by show World.grownBy _ _ sv.ownBlock; rw [HRV.out]; exact Q4.out) (fun j e => by
          simp only [Value.ownBlock, Option.some.injEq] at e
          subst e
          rcases Q5.out with ⟨k, c, e, -⟩ | e
          · refine .inl ?_
            show sv.ownBlock = _
            rw [HRV.out, e]; rfl
          · exact .inr e))
        have HFI := Lib.hid (show (ss ++ [sg]).map Seg.ps = segF bs (fs.take (i + 1)) by rw [HNX.out, List.map_append, List.map_singleton, HSG.out.2.2, HPS.out])
        have HLE := Lib.hid (show (ss ++ [sg]).length ≤ i + 1 by rw [List.length_append, List.length_singleton]; omega)
        clear ho8 l3 z3 HSVB HPS HSG HNX
        go_wp2_with fail
        go_roundw
        case rel => exact ⟨i + 1, _, ss ++ [sg], by omega, HLE.out, by go_num, HA.out, HBO.out, HRO.out, HFI.out, fun h => by simp at h⟩
        case measure => simp [intOf]; omega
    · obtain rfl : i = fs.length := by omega
      have HPS := Lib.hid (show ss.map Seg.ps = segF bs fs by rw [HSS.out, List.take_length])
      obtain ⟨ra, rc, hrv⟩ := own_slice HT.out.is.log.row
      simp only at hrv
      have c3 := HT.out.is.log.at.2.2.2.1
      simp only at c3
      rw [hrv] at c3
      have HSO := Lib.hid (ssort_calls U wr B l _ _ D D HT.out (v := .slice ra ss.length rc) hrv HNL.out hsl hfl)
      have HRV := Lib.hid hrv
      have HSV := Lib.hid (fun k (hk : (Value.slice ra ss.length rc).ownBlock = some k) => HT.out.sv_ge (W := w.heap.size) (by have := HLW.out; omega) (by have := HLW.out; omega) (k := k) (by show sv.ownBlock = _; rw [hrv]; exact hk))
      have hsl := hsl
      clear hrow hi HSS HROW HNL hrv
      go_wp2_with fail
      refine HSO.out.mono ?_
      rintro e w6 ⟨⟨rv, rfl⟩, qs, hqp, hqo, hlt6, hb6⟩
      have HT := Lib.hid hlt6
      have HBW := Lib.hid (HBW.out.trans (hb6 w.heap.size HSV.out HBW.out.size))
      have hql : qs.length = ss.length := hqp.length_eq
      have HQP := Lib.hid (hqp.map Seg.ps)
      have HQO := Lib.hid hqo
      have HLN := Lib.hid hql
      have c3 := HT.out.is.log.at.2.2.2.1
      simp only at c3
      rw [HRV.out, ← hql] at c3
      have hqn : qs.length ≤ 100000 := by omega
      clear hlt6 hb6 hqp hqo HSO hsl hql
      go_wp2_with fail
      have hTq : qs.map Seg.ps = T := ps_unique ((HQP.out.trans (by rw [HPS.out]; exact HFP.out.filterMap _)).trans hT.symm) HQO.out hord
      have HCL := Lib.hid (show ∀ s ∈ qs, s.dirty = false ∧ s.base + s.evs.length ≤ 4611686018427387904 from fun s hs => by
        have hm : s.ps ∈ T := by rw [← hTq]; exact List.mem_map.2 ⟨s, hs, rfl⟩
        have h1 := hclean _ hm
        have h2 := hbd _ hm
        simp only [Seg.ps, List.length_map] at h1 h2
        exact ⟨h1, h2⟩)
      have HCH := Lib.hid (show ∀ (i : Nat) (s t : Seg), qs[i]? = some s → qs[i + 1]? = some t → t.base = s.base + s.evs.length from fun i s t hs ht => by
        have := hchain i s.ps t.ps (by rw [← hTq, List.getElem?_map, hs]; rfl) (by rw [← hTq, List.getElem?_map, ht]; rfl)
        simpa [Seg.ps] using this)
      have HTQ := Lib.hid hTq
      clear HQP HQO HPS HSV hTq
      go_loopw [16, 17, 18, 98] (fun kv _ _ iv wr2 => ∃ i : Nat, i ≤ qs.length ∧ kv = .int .i64 qs.length ∧ iv = .int .i64 i ∧ LT U wr2 B l (newL d nm room) D ⟨d, nm, room, sv, qs, false⟩ D ∧ Below w.heap.size w wr2) (fun _ _ _ iv _ => qs.length - (intOf iv).toNat)
      case atStart => exact ⟨0, by omega, rfl, rfl, HT.out, HBW.out⟩
      case round =>
        clear HT HBW c3
        obtain ⟨i, hi, rfl, rfl, hlt, hbw⟩ := hrel
        have HT := Lib.hid hlt
        have HBW := Lib.hid hbw
        clear hlt hbw
        by_cases hil : i < qs.length
        · obtain ⟨sb, scap, hsv2, hle, hcm, hcell⟩ := HT.out.is.log.ptr i hil
          simp only at hsv2 hle hcell
          have hv3 := HRV.out.symm.trans hsv2
          simp only [Value.slice.injEq] at hv3
          obtain ⟨rfl, -, rfl⟩ := hv3
          obtain ⟨s, hs⟩ : ∃ s, qs[i]? = some s := ⟨_, List.getElem?_eq_getElem hil⟩
          have hse : qs[i] = s := (List.getElem?_eq_some_iff.1 hs).2
          rw [hse] at hcell
          have hic : i < rc := by omega
          have SG := Lib.hid (HT.out.is.log.segs s (List.mem_of_getElem? hs))
          have hcl := HCL.out s (List.mem_of_getElem? hs)
          have HS := Lib.hid hs
          obtain ⟨zb, zbase, zev, zevs, zsz, zd⟩ := s
          obtain ⟨rfl, -⟩ := hcl
          obtain ⟨s0, -, -, s3⟩ := SG.out.at
          simp only at s0 s3 hcell
          clear hs hse hsv2 hle hcm
          by_cases hi0 : i = 0
          · subst hi0
            go_upto_region 20 with fail
            refine region_m [(0, false), (1, false), (2, false), (3, false), (4, false), (5, false), (6, false), (7, false), (8, false), (9, false), (10, false), (11, false), (12, false), (13, false), (14, false), (15, false), (16, false), (17, false)] 18 (fun X => True) (by kernel_rfl) (by kernel_rfl) trivial ?_
            iterate 18
              first
              | (refine m_take (v := ?_) rfl rfl ?_ ?_
                 rotate_left
                 · intro W hW
                   go_simp
                   with_reducible rfl
                 simp only [Act.put, List.setIfInBounds_toArray, List.set_cons_zero, List.set_cons_succ])
              | (refine m_skip rfl rfl ?_
                 simp only [Act.put, List.setIfInBounds_toArray, List.set_cons_zero, List.set_cons_succ])
            refine m_done ?_
            simp only [List.drop_succ_cons, List.drop_zero]
            have HT := Lib.hid (HT.out.below ((Below.refl _ _).drew))
            have HBW := Lib.hid (HBW.out.drew)
            have s3 := cell_later ((Below.refl wr.heap.size wr).drew) s3
            go_wp2_with fail
            try simp only [NP]
            go_wp2_with fail
            go_roundw
            case rel => exact ⟨0 + 1, by omega, rfl, by go_num, HT.out, HBW.out⟩
            case measure => simp [intOf]; omega
          · have hip : 0 < i := by omega
            have d0 : decide ((0 : Int) < (i : Int)) = true := decide_eq_true (by omega)
            obtain ⟨i', rfl⟩ : ∃ i', i = i' + 1 := ⟨i - 1, by omega⟩
            obtain ⟨p, hp⟩ : ∃ p, qs[i']? = some p := ⟨_, List.getElem?_eq_getElem (by omega)⟩
            have PG := Lib.hid (HT.out.is.log.segs p (List.mem_of_getElem? hp))
            have hpb := (HCL.out p (List.mem_of_getElem? hp)).2
            have hch := HCH.out i' p _ hp HS.out
            obtain ⟨sb2, scap2, hsv3, -, -, hcell2⟩ := HT.out.is.log.ptr i' (by simp only; omega)
            have hv4 := HRV.out.symm.trans hsv3
            simp only [Value.slice.injEq, Option.some.injEq, Addr.mk.injEq, and_true] at hv4
            obtain ⟨rfl, -, rfl⟩ := hv4
            have hpe : qs[i'] = p := (List.getElem?_eq_some_iff.1 hp).2
            simp only at hcell2
            rw [hpe] at hcell2
            obtain ⟨pa, pc, hpv⟩ := own_slice PG.out.row
            obtain ⟨p0, p1, -, -⟩ := PG.out.at
            rw [hpv] at p1
            obtain ⟨pb, pbase, pev, pevs, psz, pd⟩ := p
            simp only at hpb hch hcell2 p0 p1
            clear hsv3 hpe hp hpv hi0
            have Q1 := Lib.hid (And.intro (i64w (n := (i' : Int)) (by omega) (by omega)) (w64 (n := (i' : Int)) (by omega) (by omega)))
            have l3 := HT.out.is.log.at.2.2.2.1
            simp only at l3
            rw [HRV.out, ← HLN.out] at l3
            have hne : ((zbase : Int) != ((pbase + pevs.length : Nat) : Int)) = false := by
              rw [bne_eq_false_iff_eq]; omega
            have hiq : i' < qs.length := by omega
            have hic2 : i' < rc := by omega
            clear hch
            go_upto_region 20 with fail
            refine region_m [(0, false), (1, false), (2, false), (3, false), (4, false), (5, false), (6, false), (7, false), (8, false), (9, false), (10, false), (11, false), (12, false), (13, false), (14, false), (15, true), (16, false), (17, false)] 18 (fun X => X.cell? ⟨zb, 0, none⟩ = some (.int .i64 zbase) ∧ X.cell? ⟨l, 3, none⟩ = some (.slice (some ⟨sb, 0, none⟩) qs.length rc) ∧ X.cell? ⟨sb, i', none⟩ = some (.pointer (some ⟨pb, 0, none⟩))) (by kernel_rfl) (by kernel_rfl) ⟨s0, l3, hcell2⟩ ?_
            obtain ⟨qa, qb⟩ := Q1.out
            iterate 15
              first
              | (refine m_take (v := ?_) rfl rfl ?_ ?_
                 rotate_left
                 · intro W hW
                   go_simp
                   with_reducible rfl
                 simp only [Act.put, List.setIfInBounds_toArray, List.set_cons_zero, List.set_cons_succ])
              | (refine m_skip rfl rfl ?_
                 simp only [Act.put, List.setIfInBounds_toArray, List.set_cons_zero, List.set_cons_succ])
            clear qa qb
            refine m_loud rfl (fun K hK => ?_)
            have HK := Lib.hid hK
            clear hK
            go_simp
            refine (snext_calls pb pbase (.slice pa pevs.length pc) pevs.length wr.drew p0 p1 ⟨_, _, rfl⟩ hpb).mono ?_
            rintro e w7 ⟨rfl, hb7⟩
            have hb7 : Below wr.heap.size wr w7 := ((Below.refl wr.heap.size wr).drew).trans hb7
            have HT := Lib.hid (HT.out.below hb7)
            have HBW := Lib.hid (HBW.out.trans (hb7.mono HBW.out.size))
            refine HK.out _ _ ⟨cell_later hb7 s0, cell_later hb7 l3, cell_later hb7 hcell2⟩ ?_
            clear HK
            have s3 := cell_later hb7 s3
            clear hb7
            iterate 2
              first
              | (refine m_take (v := ?_) rfl rfl ?_ ?_
                 rotate_left
                 · intro W hW
                   go_simp
                   with_reducible rfl
                 simp only [Act.put, List.setIfInBounds_toArray, List.set_cons_zero, List.set_cons_succ])
              | (refine m_skip rfl rfl ?_
                 simp only [Act.put, List.setIfInBounds_toArray, List.set_cons_zero, List.set_cons_succ])
            refine m_done ?_
            simp only [List.drop_succ_cons, List.drop_zero]
            go_wp2_with fail
            try simp only [NP]
            go_wp2_with fail
            go_roundw
            case rel => exact ⟨i' + 1 + 1, by omega, rfl, by go_num, HT.out, HBW.out⟩
            case measure => simp [intOf]; omega
        · obtain rfl : i = qs.length := by omega
          have l3 := HT.out.is.log.at.2.2.2.1
          simp only at l3
          rw [HRV.out, ← HLN.out] at l3
          clear hil hi
          go_wp2_with fail
          go_loopw [19] (fun _ wr2 => wr2 = wr) (fun _ _ => 0)
          case atStart => exact rfl
          case round =>
            subst hrel
            have HFIN := Lib.hid (show Only (D.foot d) w wr ∧ ∀ j, ldFoot l ⟨d, nm, room, sv, qs, false⟩ D j → D.foot d j ∨ w.heap.size ≤ j from by
              have hl := HLW.out
              refine ⟨Only.of_below HBW.out, fun j hj => ?_⟩
              rcases HT.out.foot j hj with ((e | e | ⟨s, hs, e⟩) | e) | e
              · right; omega
              · cases e
              · cases hs
              · exact .inl e
              · right; omega)
            by_cases hq0 : qs = []
            · subst hq0
              go_wp2_with fail
              go_ret2
              exact ⟨l, _, rfl, HLW.out.1, HT.out.is, HFIN.out.1, HFIN.out.2, rfl, rfl, rfl, rfl, HTQ.out⟩
            · obtain ⟨m, hm⟩ : ∃ m, qs.length = m + 1 := ⟨qs.length - 1, by have := List.length_pos_iff.2 hq0; omega⟩
              obtain ⟨sb, scap, hsv2, hle, -, hcell⟩ := HT.out.is.log.ptr m (by simp only; omega)
              have hv3 := HRV.out.symm.trans hsv2
              simp only [Value.slice.injEq] at hv3
              obtain ⟨rfl, -, rfl⟩ := hv3
              obtain ⟨s, hs⟩ : ∃ s, qs[m]? = some s := ⟨_, List.getElem?_eq_getElem (by omega)⟩
              have hse : qs[m] = s := (List.getElem?_eq_some_iff.1 hs).2
              simp only at hcell hle
              rw [hse] at hcell
              have SG := HT.out.is.log.segs s (List.mem_of_getElem? hs)
              have hcl := (HCL.out s (List.mem_of_getElem? hs)).1
              obtain ⟨-, -, -, s3⟩ := SG.at
              rw [hcl] at s3
              have hmc : m < rc := by omega
              have hml : m ≤ 100000 := by omega
              have d0 : decide ((0 : Int) < (m : Int) + 1) = true := decide_eq_true (by omega)
              have b1 : (m : Int) < (m : Int) + 1 := by omega
              have Q1 := Lib.hid (And.intro (i64w (n := (m : Int)) (by omega) (by omega)) (w64 (n := (m : Int)) (by omega) (by omega)))
              rw [hm] at l3
              clear hse hs hcl SG hsv2 hle hq0
              go_wp2_with fail
              go_ret2
              exact ⟨l, _, rfl, HLW.out.1, HT.out.is, HFIN.out.1, HFIN.out.2, rfl, rfl, rfl, rfl, HTQ.out⟩
end Go.Proofs.YtcckoppbophidaaGreatDoor

/- Layer 6: a log whose entries are durable, and what Open makes of its files; no call walked. -/
namespace Go.Proofs.YtcckoppbophidaaGreatDoor
open Go.RowKit Go.Shelf
set_option linter.unusedVariables false
set_option linter.unusedSimpArgs false
set_option maxRecDepth 100000

/-! ### Frames, one behind the other -/
theorem cntF_row {ps : List (List UInt8)} (hp : ∀ p ∈ ps, p.length ≤ 65536) : cntF (Fr.FrM.rowOf ps) = ps.length ∧ Fr.FrM.pays (Fr.FrM.rowOf ps) ps.length = ps ∧ Fr.FrM.pos (Fr.FrM.rowOf ps) ps.length = (Fr.FrM.rowOf ps).length := by
  obtain ⟨h1, h2, h3⟩ := Fr.FrM.row_count ps (Fr.FrM.rowOf ps).length ps.length (Fr.FrM.rowOf ps) (by rw [List.take_length]) (Nat.le_refl _) hp (Nat.le_refl _) (Fr.FrM.endAt_le ps _) (.inl rfl)
  refine ⟨Fr.FrM.Count.unique (cntF_is _) h1, by rw [h3, List.take_length], ?_⟩
  rw [h2 _ (Nat.le_refl _), Fr.FrM.endAt_all]
theorem psOf_row {ps : List (List UInt8)} (hp : ∀ p ∈ ps, p.length ≤ 65536) (n : Nat) : psOf n (Fr.FrM.rowOf ps) = ⟨n, ps, (Fr.FrM.rowOf ps).length, false⟩ := by
  obtain ⟨h1, h2, h3⟩ := cntF_row hp
  unfold psOf
  rw [h1, h2, h3, decide_eq_false (Nat.lt_irrefl _)]

/-! ### Durable -/
structure GS (L : Lg) (D : Dk) : Prop where
  txt : ∀ s ∈ L.segs, fileOf D.now (fnm L.name s.base) = Fr.FrM.rowOf (s.evs.map Prod.snd)
  onl : ∀ nm, (mget D.now nm).isSome = true → ∃ s ∈ L.segs, nm = fnm L.name s.base
  cl : ∀ s ∈ L.segs, s.dirty = false
  dur : ∀ nm, (mget D.dur nm).map Prod.snd = (mget D.now nm).map Prod.snd
  chg : D.chg = []
/-- One segment is not durable. -/
structure GA (L : Lg) (D : Dk) : Prop where
  txt : ∀ s ∈ L.segs, fileOf D.now (fnm L.name s.base) = Fr.FrM.rowOf (s.evs.map Prod.snd)
  onl : ∀ nm, (mget D.now nm).isSome = true → ∃ s ∈ L.segs, nm = fnm L.name s.base
  one : ∃ b, (∃ s ∈ L.segs, s.base = b ∧ s.dirty = true) ∧ (∀ s ∈ L.segs, s.dirty = true → s.base = b) ∧ (∀ nm, nm ≠ fnm L.name b → (mget D.dur nm).map Prod.snd = (mget D.now nm).map Prod.snd) ∧ ∀ c ∈ D.chg, c.nm = fnm L.name b
theorem GS.new (d : Nat) (nm : ByteArray) (room rm : Int) (n : Nat) : GS (newL d nm rm) (newD room n) :=
  ⟨(fun s hs => by cases hs), (fun nm h => by simp [newD, mget] at h), (fun s hs => by cases hs), fun nm => rfl, rfl⟩
theorem GS.app {L L' : Lg} {D D' : Dk} {E : List (List UInt8)} {ys : List UInt8} (h : GS L D) (hg : GL L D 0 E) (ha : AppStay L D ys L' D' ∨ AppFresh L D ys L' D') : GA L' D' := by
  rcases ha with ⟨i, s, nv, dv, cv, ev, v, hl, hs, hsz, rfl, rfl⟩ | ⟨Ls, Ds, b, nv, dv, cv, sv, ev, v, hfr, rfl, rfl⟩
  · have hsm := List.mem_of_getElem? hs
    have hil := (List.getElem?_eq_some_iff.1 hs).1
    have hbase : ∀ (j : Nat) (t : Seg), L.segs[j]? = some t → j ≠ i → t.base ≠ s.base := fun j t ht hj => hg.dif j i t s ht hs hj
    have hfn : ∀ t : Seg, t.base ≠ s.base → fnm L.name t.base ≠ fnm L.name s.base := fun t ht e => ht (fnm_inj e)
    obtain ⟨s', hs'⟩ : ∃ s' : Seg, s' = { s with ev := ev, evs := s.evs ++ [(v, ys)], size := s.size + (12 + ys.length), dirty := true } := ⟨_, rfl⟩
    rw [← hs']
    have hsb : s'.base = s.base := by rw [hs']
    have hmem : ∀ t ∈ L.segs.set i s', (t = s') ∨ (t ∈ L.segs ∧ t.base ≠ s.base) := fun t ht => by
      obtain ⟨j, hj⟩ := List.getElem?_of_mem ht
      by_cases hji : j = i
      · subst hji
        rw [List.getElem?_set_self hil] at hj
        simp only [Option.some.injEq] at hj
        exact .inl hj.symm
      · rw [List.getElem?_set_ne (fun e => hji e.symm)] at hj
        exact .inr ⟨List.mem_of_getElem? hj, hbase j t hj hji⟩
    have hlen : (fileOf D.now (fnm L.name s.base)).length = s.size := (hg.file s hsm).2
    refine ⟨fun t ht => ?_, fun nm hn => ?_, s.base, ⟨s', List.mem_of_getElem? (List.getElem?_set_self hil), hsb, by rw [hs']⟩, fun t ht hd => ?_, fun nm hn => ?_, fun c hc => ?_⟩
    · show fileOf (mput D.now (fnm L.name s.base) (nv, wrt (fileOf D.now (fnm L.name s.base)) (Fr.FrM.frameOf ys) s.size)) (fnm L.name t.base) = _
      rcases hmem t ht with rfl | ⟨htm, hb⟩
      · rw [hsb, fileOf_put_same, ← hlen, wrt_end, h.txt s hsm, hs']
        simp only [List.map_append, List.map_cons, List.map_nil]
        rw [Fr.FrM.rowOf_append, Fr.FrM.rowOf_one]
      · rw [fileOf_put_other (hfn t hb)]
        exact h.txt t htm
    · by_cases e : nm = fnm L.name s.base
      · exact ⟨s', List.mem_of_getElem? (List.getElem?_set_self hil), by rw [hsb]; exact e⟩
      · have hn : (mget (mput D.now (fnm L.name s.base) (nv, wrt (fileOf D.now (fnm L.name s.base)) (Fr.FrM.frameOf ys) s.size)) nm).isSome = true := hn
        rw [mget_put_other e] at hn
        obtain ⟨t, ht, rfl⟩ := h.onl nm hn
        obtain ⟨j, hj⟩ := List.getElem?_of_mem ht
        have hji : j ≠ i := fun e2 => by
          subst e2
          rw [hs] at hj
          simp only [Option.some.injEq] at hj
          exact e (by rw [hj])
        exact ⟨t, List.mem_of_getElem? (by show (L.segs.set i s')[j]? = _; rw [List.getElem?_set_ne (fun e => hji e.symm)]; exact hj), rfl⟩
    · rcases hmem t ht with rfl | ⟨htm, hb⟩
      · exact hsb
      · rw [h.cl t htm] at hd; cases hd
    · show (mget D.dur nm).map Prod.snd = (mget (mput D.now (fnm L.name s.base) (nv, wrt (fileOf D.now (fnm L.name s.base)) (Fr.FrM.frameOf ys) s.size)) nm).map Prod.snd
      rw [mget_put_other hn]
      exact h.dur nm
    · have hc : c ∈ D.chg ++ [⟨0, fnm L.name s.base, (s.size : Int), dv, Fr.FrM.frameOf ys⟩] := hc
      rw [h.chg, List.nil_append, List.mem_singleton] at hc
      rw [hc]
  · have hLs : Ls = L ∧ Ds = D := by
      rcases hfr with ⟨-, h1, h2⟩ | ⟨i, s, hl, hs, -, ⟨-, h1, h2⟩ | ⟨hd, -⟩⟩
      · exact ⟨h1, h2⟩
      · exact ⟨h1, h2⟩
      · rw [h.cl s (List.mem_of_getElem? hs)] at hd; cases hd
    obtain ⟨rfl, rfl⟩ := hLs
    have hnx := hg.next
    rw [Nat.zero_add] at hnx
    have hbl : ∀ t ∈ Ls.segs, t.base ≠ nextOf Ls := fun t ht => by
      have := hg.mem t ht
      omega
    have hnone : mget Ds.now (fnm Ls.name (nextOf Ls)) = none := by
      cases hm : mget Ds.now (fnm Ls.name (nextOf Ls)) with
      | none => rfl
      | some p =>
        obtain ⟨t, ht, e⟩ := h.onl _ (by rw [hm]; rfl)
        exact absurd (fnm_inj e).symm (hbl t ht)
    have hfo : fileOf Ds.now (fnm Ls.name (nextOf Ls)) = [] := fileOf_none hnone
    have hwr : wrt ([] : List UInt8) (Fr.FrM.frameOf ys) 0 = Fr.FrM.frameOf ys := by have := wrt_end [] (Fr.FrM.frameOf ys); simpa using this
    refine ⟨fun t ht => ?_, fun nm hn => ?_, nextOf Ls, ⟨_, List.mem_append_right _ (List.mem_singleton_self _), rfl, rfl⟩, fun t ht hd => ?_, fun nm hn => ?_, fun c hc => ?_⟩
    · show fileOf (mput Ds.now (fnm Ls.name (nextOf Ls)) (nv, wrt (fileOf Ds.now (fnm Ls.name (nextOf Ls))) (Fr.FrM.frameOf ys) 0)) (fnm Ls.name t.base) = _
      rcases List.mem_append.1 ht with ht | ht
      · rw [fileOf_put_other (fun e => hbl t ht (fnm_inj e))]
        exact h.txt t ht
      · rw [List.mem_singleton.1 ht]
        simp only [List.map_cons, List.map_nil]
        rw [fileOf_put_same, hfo, hwr, Fr.FrM.rowOf_one]
    · by_cases e : nm = fnm Ls.name (nextOf Ls)
      · exact ⟨_, List.mem_append_right _ (List.mem_singleton_self _), e⟩
      · have hn : (mget (mput Ds.now (fnm Ls.name (nextOf Ls)) (nv, wrt (fileOf Ds.now (fnm Ls.name (nextOf Ls))) (Fr.FrM.frameOf ys) 0)) nm).isSome = true := hn
        rw [mget_put_other e] at hn
        obtain ⟨t, ht, rfl⟩ := h.onl nm hn
        exact ⟨t, List.mem_append_left _ ht, rfl⟩
    · rcases List.mem_append.1 ht with ht | ht
      · rw [h.cl t ht] at hd; cases hd
      · rw [List.mem_singleton.1 ht]
    · show (mget Ds.dur nm).map Prod.snd = (mget (mput Ds.now (fnm Ls.name (nextOf Ls)) (nv, wrt (fileOf Ds.now (fnm Ls.name (nextOf Ls))) (Fr.FrM.frameOf ys) 0)) nm).map Prod.snd
      rw [mget_put_other hn]
      exact h.dur nm
    · have hc : c ∈ Ds.chg ++ [⟨0, fnm Ls.name (nextOf Ls), ((0 : Nat) : Int), dv, Fr.FrM.frameOf ys⟩] := hc
      rw [h.chg, List.nil_append, List.mem_singleton] at hc
      rw [hc]
theorem Sy.dur {L : Lg} {D : Dk} {b : Nat} (h1 : ∀ s ∈ L.segs, s.dirty = true → s.base = b) (h2 : ∀ nm, nm ≠ fnm L.name b → (mget D.dur nm).map Prod.snd = (mget D.now nm).map Prod.snd) (h3 : ∀ c ∈ D.chg, c.nm = fnm L.name b) (h4 : (mget D.now (fnm L.name b)).isSome = true) {k : Nat} {D' : Dk} (h : Sy L D k D') :
    D'.now = D.now ∧ (∀ nm, nm ≠ fnm L.name b → (mget D'.dur nm).map Prod.snd = (mget D.now nm).map Prod.snd) ∧ (∀ c ∈ D'.chg, c.nm = fnm L.name b) ∧ ((∃ j s, j < k ∧ L.segs[j]? = some s ∧ s.dirty = true) → D'.chg = [] ∧ ∀ nm, (mget D'.dur nm).map Prod.snd = (mget D.now nm).map Prod.snd) := by
  induction h with
  | zero => exact ⟨rfl, h2, h3, fun ⟨j, s, hj, _⟩ => by omega⟩
  | @skip k D' s hs hk hd ih =>
    obtain ⟨i1, i2, i3, i4⟩ := ih
    refine ⟨i1, i2, i3, fun ⟨j, t, hj, ht, htd⟩ => i4 ⟨j, t, ?_, ht, htd⟩⟩
    by_cases e : j = k
    · subst e
      rw [hk] at ht
      simp only [Option.some.injEq] at ht
      subst ht
      rw [hd] at htd; cases htd
    · omega
  | @sync k D' s cv v hs hk hd ih =>
    obtain ⟨i1, i2, i3, i4⟩ := ih
    have hb := h1 s (List.mem_of_getElem? hk) hd
    subst hb
    have hc : (syD D' (fnm L.name s.base) cv v).chg = [] := by
      show D'.chg.filter (fun c => !isNm (fnm L.name s.base) c) = []
      rw [List.filter_eq_nil_iff]
      intro c hc
      have := i3 c hc
      simp [isNm, this]
    have hdu : ∀ nm, (mget (syD D' (fnm L.name s.base) cv v).dur nm).map Prod.snd = (mget D.now nm).map Prod.snd := by
      intro nm
      show (mget (match mget D'.now (fnm L.name s.base) with | some f => mput D'.dur (fnm L.name s.base) (v, f.2) | none => mdel D'.dur (fnm L.name s.base)) nm).map Prod.snd = _
      rw [i1]
      cases hm : mget D.now (fnm L.name s.base) with
      | none => rw [hm] at h4; cases h4
      | some f =>
        simp only
        by_cases e : nm = fnm L.name s.base
        · subst e
          rw [mget_put_same, hm]
          rfl
        · rw [mget_put_other e]
          exact i2 nm e
    exact ⟨i1, fun nm _ => hdu nm, (fun c hcc => by rw [hc] at hcc; cases hcc), fun _ => ⟨hc, hdu⟩⟩
theorem GA.sync {L : Lg} {D D' : Dk} {E : List (List UInt8)} (h : GA L D) (hg : GL L D 0 E) (hs : Sy L D L.segs.length D') : GS { L with segs := clean L.segs.length L.segs } D' := by
  obtain ⟨b, ⟨s0, hs0, hb0, hd0⟩, h1, h2, h3⟩ := h.one
  obtain ⟨j, hj⟩ := List.getElem?_of_mem hs0
  obtain ⟨i1, -, -, i4⟩ := Sy.dur h1 h2 h3 (by rw [← hb0]; exact (hg.file s0 hs0).1) hs
  obtain ⟨i5, i6⟩ := i4 ⟨j, s0, (List.getElem?_eq_some_iff.1 hj).1, hj, hd0⟩
  have hcl : clean L.segs.length L.segs = L.segs.map (fun s => { s with dirty := false }) := by
    unfold clean
    rw [List.take_length, List.drop_length, List.append_nil]
  refine ⟨fun s hsm => ?_, fun nm hn => ?_, fun s hsm => ?_, fun nm => by rw [i6 nm, i1], i5⟩
  · have hsm : s ∈ clean L.segs.length L.segs := hsm
    rw [hcl] at hsm
    obtain ⟨t, ht, rfl⟩ := List.mem_map.1 hsm
    rw [i1]
    exact h.txt t ht
  · rw [i1] at hn
    obtain ⟨t, ht, e⟩ := h.onl nm hn
    exact ⟨{ t with dirty := false }, by show _ ∈ clean L.segs.length L.segs; rw [hcl]; exact List.mem_map.2 ⟨t, ht, rfl⟩, e⟩
  · have hsm : s ∈ clean L.segs.length L.segs := hsm
    rw [hcl] at hsm
    obtain ⟨t, ht, rfl⟩ := List.mem_map.1 hsm
    rfl
end Go.Proofs.YtcckoppbophidaaGreatDoor

/- Layer 6: a durable log, opened again; no call walked. -/
namespace Go.Proofs.YtcckoppbophidaaGreatDoor
open Go.RowKit Go.Shelf
set_option linter.unusedVariables false
set_option linter.unusedSimpArgs false
set_option maxRecDepth 100000

theorem fileOf_mem {m : Files} (hn : (m.map (·.1)).Nodup) {f : ByteArray × (Value × List UInt8)} (hf : f ∈ m) : fileOf m f.1 = f.2.2 := by
  unfold fileOf
  rw [mget_of_mem (v := f.2) hn (by exact hf)]
  rfl
theorem keys_perm {a : Files} {l : List ByteArray} (ha : (a.map (·.1)).Nodup) (hl : l.Nodup) (h : ∀ k, (mget a k).isSome = true ↔ k ∈ l) : (a.map (·.1)).Perm l :=
  (List.perm_ext_iff_of_nodup ha hl).2 (fun k => by rw [← mget_some (m := a), h k])
theorem used_map {a : Files} (ha : (a.map (·.1)).Nodup) : usedOf a = ((a.map (·.1)).map fun k => (fileOf a k).length).sum := by
  unfold usedOf
  rw [List.map_map]
  congr 1
  apply List.map_congr_left
  intro f hf
  show f.2.2.length = (fileOf a f.1).length
  rw [fileOf_mem ha hf]
theorem files_used {a b : Files} (ha : (a.map (·.1)).Nodup) (hb : (b.map (·.1)).Nodup) (h : ∀ nm, (mget a nm).map Prod.snd = (mget b nm).map Prod.snd) : usedOf a = usedOf b := by
  have hp : (a.map (·.1)).Perm (b.map (·.1)) := keys_perm ha hb (fun k => by
    rw [← mget_some (m := b)]
    have := congrArg Option.isSome (h k)
    simp only [Option.isSome_map] at this
    rw [this])
  rw [used_map ha, used_map hb]
  have e : ∀ k, fileOf a k = fileOf b k := fun k => by unfold fileOf; rw [h k]
  rw [show (fun k => (fileOf a k).length) = fun k => (fileOf b k).length from funext fun k => by rw [e k]]
  exact (hp.map _).sum_nat
theorem fm_congr {α β : Type} {f g : α → Option β} : ∀ {l : List α}, (∀ a ∈ l, f a = g a) → l.filterMap f = l.filterMap g
  | [], _ => rfl
  | a :: l, h => by
    rw [List.filterMap_cons, List.filterMap_cons, h a List.mem_cons_self, fm_congr (fun b hb => h b (List.mem_cons_of_mem _ hb))]
/-- The number in a name. -/
def bsOf (N : ByteArray) (f : ByteArray) : Option Nat := (List.range 100).find? (fun n => decide (fnm N n = f))
theorem bsOf_at (N : ByteArray) {n : Nat} (hn : n < 100) : bsOf N (fnm N n) = some n := by
  unfold bsOf
  refine find_at _ _ n n (by rw [List.getElem?_range hn]) (by simp) (fun i y hi hy => ?_)
  rw [List.getElem?_range (by omega)] at hy
  simp only [Option.some.injEq] at hy
  subst hy
  rw [decide_eq_false_iff_not]
  intro e
  have := fnm_inj e
  omega
theorem segs_files {N : ByteArray} {l : List Seg} {F : Files} (hF : (F.map (·.1)).Nodup) (h1 : ∀ s ∈ l, (mget F (fnm N s.base)).isSome = true ∧ fileOf F (fnm N s.base) = Fr.FrM.rowOf (s.evs.map Prod.snd)) (h2 : ∀ nm, (mget F nm).isSome = true → ∃ s ∈ l, nm = fnm N s.base)
    (hb : l.Pairwise (fun s t => s.base < t.base)) (hs : ∀ s ∈ l, ∀ x ∈ s.evs, x.2.length ≤ 65536) (hn : ∀ s ∈ l, s.base < 100) (hz : ∀ s ∈ l, s.size = (Fr.FrM.rowOf (s.evs.map Prod.snd)).length ∧ s.dirty = false) : (l.map Seg.ps).Perm (segF (bsOf N) F) := by
  have hB : (l.map fun s => fnm N s.base).Nodup := by
    unfold List.Nodup
    rw [List.pairwise_map]
    exact hb.imp (fun h e => by have := fnm_inj e; omega)
  have hp : (F.map (·.1)).Perm (l.map fun s => fnm N s.base) := keys_perm hF hB (fun k => ⟨fun h => by
    obtain ⟨s, hs, e⟩ := h2 k h
    exact List.mem_map.2 ⟨s, hs, e.symm⟩, fun h => by
    obtain ⟨s, hs, e⟩ := List.mem_map.1 h
    rw [← e]
    exact (h1 s hs).1⟩)
  have e1 : segF (bsOf N) F = (F.map (·.1)).filterMap (fun k => (bsOf N k).map fun n => psOf n (fileOf F k)) := by
    unfold segF
    rw [List.filterMap_map]
    apply fm_congr
    intro f hf
    show (bsOf N f.1).map (fun n => psOf n f.2.2) = (bsOf N f.1).map fun n => psOf n (fileOf F f.1)
    rw [fileOf_mem hF hf]
  have e2 : (l.map fun s => fnm N s.base).filterMap (fun k => (bsOf N k).map fun n => psOf n (fileOf F k)) = l.map Seg.ps := by
    rw [List.filterMap_map, ← List.filterMap_eq_map]
    apply fm_congr
    intro s hsm
    show (bsOf N (fnm N s.base)).map (fun n => psOf n (fileOf F (fnm N s.base))) = some s.ps
    rw [bsOf_at N (hn s hsm), (h1 s hsm).2]
    show some (psOf s.base (Fr.FrM.rowOf (s.evs.map Prod.snd))) = some s.ps
    rw [psOf_row (fun p hp => by
      obtain ⟨x, hx, rfl⟩ := List.mem_map.1 hp
      exact hs s hsm x hx)]
    unfold Seg.ps
    rw [(hz s hsm).1, (hz s hsm).2]
  rw [e1, ← e2]
  exact (hp.symm).filterMap _
/-! ### Chains -/
theorem chain_ord : ∀ {f : Nat} {l : List Seg}, chainFrom f l → l.Pairwise (fun s t => s.base < t.base)
  | f, [], _ => List.Pairwise.nil
  | f, s :: r, h => by
    obtain ⟨h1, h2, h3⟩ := h
    have hp := List.length_pos_iff.2 h2
    exact List.Pairwise.cons (fun t ht => by have := (chain_mem h3 t ht).1; omega) (chain_ord h3)
theorem chain_step : ∀ {f : Nat} {l : List Seg}, chainFrom f l → ∀ (i : Nat) (s t : Seg), l[i]? = some s → l[i + 1]? = some t → t.base = s.base + s.evs.length
  | f, [], _, i, s, t, hs, _ => by simp at hs
  | f, a :: r, h, 0, s, t, hs, ht => by
    obtain ⟨h1, h2, h3⟩ := h
    simp only [List.getElem?_cons_zero, Option.some.injEq] at hs
    subst hs
    rw [List.getElem?_cons_succ] at ht
    cases r with
    | nil => simp at ht
    | cons b r =>
      simp only [List.getElem?_cons_zero, Option.some.injEq] at ht
      subst ht
      rw [h3.1, h1]
  | f, a :: r, h, i + 1, s, t, hs, ht => by
    rw [List.getElem?_cons_succ] at hs ht
    exact chain_step h.2.2 i s t hs ht
theorem ps_eq {s t : Seg} (h : s.ps = t.ps) : s.base = t.base ∧ s.evs.map Prod.snd = t.evs.map Prod.snd ∧ s.size = t.size ∧ s.dirty = t.dirty := by
  unfold Seg.ps at h
  simp only [PS.mk.injEq] at h
  exact h
theorem chain_ps : ∀ {f : Nat} {l l' : List Seg}, l'.map Seg.ps = l.map Seg.ps → chainFrom f l → chainFrom f l'
  | f, [], l', h, _ => by
    have : l' = [] := by simpa using h
    subst this
    trivial
  | f, s :: r, [], h, _ => by simp at h
  | f, s :: r, s' :: r', h, hc => by
    simp only [List.map_cons, List.cons.injEq] at h
    obtain ⟨e1, e2, -, -⟩ := ps_eq h.1
    have el : s'.evs.length = s.evs.length := by have := congrArg List.length e2; simpa using this
    obtain ⟨h1, h2, h3⟩ := hc
    refine ⟨by rw [e1]; exact h1, fun e => h2 (List.eq_nil_of_length_eq_zero (by rw [← el, e]; rfl)), ?_⟩
    rw [el]
    exact chain_ps h.2 h3
theorem ents_ps {l l' : List Seg} (h : l'.map Seg.ps = l.map Seg.ps) : entsOf l' = entsOf l := by
  have e : ∀ l : List Seg, entsOf l = (l.map Seg.ps).flatMap PS.ents := fun l => by
    rw [List.flatMap_map]
    rfl
  rw [e l, e l', h]
theorem mem_ps {l l' : List Seg} (h : l'.map Seg.ps = l.map Seg.ps) {s : Seg} (hs : s ∈ l') : ∃ t ∈ l, s.base = t.base ∧ s.evs.map Prod.snd = t.evs.map Prod.snd ∧ s.size = t.size ∧ s.dirty = t.dirty := by
  have : s.ps ∈ l.map Seg.ps := by rw [← h]; exact List.mem_map.2 ⟨s, hs, rfl⟩
  obtain ⟨t, ht, e⟩ := List.mem_map.1 this
  exact ⟨t, ht, ps_eq e.symm⟩
/-! ### Behind a crash -/
theorem GS.same {L : Lg} {D : Dk} (h : GS L D) (nm : ByteArray) : (mget D.dur nm).isSome = (mget D.now nm).isSome ∧ fileOf D.dur nm = fileOf D.now nm := by
  have := h.dur nm
  refine ⟨?_, ?_⟩
  · have := congrArg Option.isSome this
    simpa only [Option.isSome_map] using this
  · unfold fileOf
    rw [this]
/-- What Open asks of the files behind a crash. -/
theorem GS.open_ {L : Lg} {D : Dk} {E : List (List UInt8)} (h : GS L D) (hg : GL L D 0 E) (hn : E.length ≤ 90) (hd : (D.dur.map (·.1)).Nodup) (nb : Nat) :
    (L.segs.map Seg.ps).Perm (segF (bsOf L.name) (crD D nb).now) ∧ (L.segs.map Seg.ps).Pairwise (fun p q => p.base < q.base) ∧ (∀ (i : Nat) (p q : PS), (L.segs.map Seg.ps)[i]? = some p → (L.segs.map Seg.ps)[i + 1]? = some q → q.base = p.base + p.ents.length) ∧ (∀ p ∈ L.segs.map Seg.ps, p.dirty = false) ∧ ∀ p ∈ L.segs.map Seg.ps, p.base + p.ents.length ≤ 4611686018427387904 := by
  have hz : ∀ s ∈ L.segs, s.size = (Fr.FrM.rowOf (s.evs.map Prod.snd)).length ∧ s.dirty = false := fun s hs => ⟨by rw [← h.txt s hs]; exact (hg.file s hs).2.symm, h.cl s hs⟩
  refine ⟨segs_files hd (fun s hs => ?_) (fun nm hnm => ?_) (chain_ord hg.chain) hg.small (fun s hs => by have := hg.mem s hs; omega) hz, ?_, fun i p q hp hq => ?_, fun p hp => ?_, fun p hp => ?_⟩
  · show (mget D.dur (fnm L.name s.base)).isSome = true ∧ fileOf D.dur (fnm L.name s.base) = _
    obtain ⟨e1, e2⟩ := h.same (fnm L.name s.base)
    exact ⟨by rw [e1]; exact (hg.file s hs).1, by rw [e2]; exact h.txt s hs⟩
  · have hnm : (mget D.dur nm).isSome = true := hnm
    rw [(h.same nm).1] at hnm
    exact h.onl nm hnm
  · rw [List.pairwise_map]
    exact chain_ord hg.chain
  · rw [List.getElem?_map] at hp hq
    cases hs : L.segs[i]? with
    | none => rw [hs] at hp; simp at hp
    | some s =>
      cases ht : L.segs[i + 1]? with
      | none => rw [ht] at hq; simp at hq
      | some t =>
        rw [hs] at hp
        rw [ht] at hq
        simp only [Option.map_some, Option.some.injEq] at hp hq
        subst hp hq
        have := chain_step hg.chain i s t hs ht
        simpa [Seg.ps] using this
  · obtain ⟨s, hs, rfl⟩ := List.mem_map.1 hp
    exact h.cl s hs
  · obtain ⟨s, hs, rfl⟩ := List.mem_map.1 hp
    have := hg.mem s hs
    simp only [Seg.ps, List.length_map]
    omega
theorem GS.again {L L' : Lg} {D : Dk} {E : List (List UInt8)} (h : GS L D) (hg : GL L D 0 E) (hk : (D.now.map (·.1)).Nodup) (hd : (D.dur.map (·.1)).Nodup) (nb : Nat) (hn : L'.name = L.name) (hb : L'.broken = false) (hr : L'.room = L.room) (hps : L'.segs.map Seg.ps = L.segs.map Seg.ps) :
    GL L' (crD D nb) 0 E ∧ GS L' (crD D nb) ∧ Dom L' (crD D nb) := by
  have hfile : ∀ nm, (mget (crD D nb).now nm).isSome = (mget D.now nm).isSome ∧ fileOf (crD D nb).now nm = fileOf D.now nm := fun nm => h.same nm
  have honl : ∀ nm, (mget (crD D nb).now nm).isSome = true → ∃ s ∈ L'.segs, nm = fnm L'.name s.base := fun nm hnm => by
    rw [(hfile nm).1] at hnm
    obtain ⟨t, ht, rfl⟩ := h.onl nm hnm
    obtain ⟨s, hs, e, -⟩ := mem_ps hps.symm ht
    exact ⟨s, hs, by rw [hn, e]⟩
  have hlen : L'.segs.length = L.segs.length := by have := congrArg List.length hps; simpa using this
  refine ⟨⟨hb, rfl, by rw [hn]; exact hg.nm, fun _ => rfl, chain_ps hps hg.chain, by rw [ents_ps hps]; exact hg.ents, by rw [hr]; exact hg.room, fun s hs => ?_, ?_, ?_, fun s hs x hx => ?_⟩, ⟨fun s hs => ?_, honl, fun s hs => ?_, fun nm => rfl, rfl⟩, fun b hbs => ?_⟩
  · obtain ⟨t, ht, e1, -, e3, -⟩ := mem_ps hps hs
    rw [(hfile _).1, (hfile _).2, hn, e1, e3]
    exact hg.file t ht
  · show usedOf D.dur ≤ _
    rw [files_used hd hk h.dur]
    exact hg.used
  · show 0 + L'.segs.length ≤ _
    have := hg.cost
    omega
  · obtain ⟨t, ht, -, e2, -, -⟩ := mem_ps hps hs
    have : x.2 ∈ t.evs.map Prod.snd := by rw [← e2]; exact List.mem_map.2 ⟨x, hx, rfl⟩
    obtain ⟨y, hy, e⟩ := List.mem_map.1 this
    rw [← e]
    exact hg.small t ht y hy
  · obtain ⟨t, ht, e1, e2, -, -⟩ := mem_ps hps hs
    rw [(hfile _).2, hn, e1, e2]
    exact h.txt t ht
  · obtain ⟨t, ht, -, -, -, e4⟩ := mem_ps hps hs
    rw [e4]
    exact h.cl t ht
  · obtain ⟨s, hs, e⟩ := honl _ hbs
    exact ⟨s, hs, (fnm_inj e).symm⟩
end Go.Proofs.YtcckoppbophidaaGreatDoor

/- Layer 6: a durable log and what is kept beside it; no law walked. -/
namespace Go.Proofs.YtcckoppbophidaaGreatDoor
open Go.RowKit Go.Shelf
set_option linter.unusedVariables false
set_option linter.unusedSimpArgs false
set_option maxRecDepth 100000

theorem DiskAt.foot_ty2 {w : World} {B d : Nat} {D : Dk} (h : DiskAt w B d D) {j : Nat} (hj : D.foot d j) {e : TypeId} (h1 : 62 ≠ e) (h2 : 87 ≠ e) : ¬ TyAt w j e := by
  intro ht
  rcases hj with rfl | rfl | rfl | hj
  · exact h1 ((own_ty h.box rfl).eq ht)
  · exact h.nowM.notTy ht
  · exact h.durM.notTy ht
  · exact h2 ((own_ty h.row hj).eq ht)
theorem kc_foot {w : World} {B l kc : Nat} {L : Lg} {D : Dk} {cs : Array Value} (h : LD w B l L D) (hk : w.heap[kc]? = some (.cells cs 22)) : ¬ ldFoot l L D kc := by
  have ht : TyAt w kc 22 := ⟨cs, _, hk⟩
  rintro (hf | hf)
  · obtain ⟨e, he, hte⟩ := h.log.foot_ty hf
    have := hte.eq ht
    subst this
    rcases he with he | he | he | he <;> exact absurd he (by decide)
  · exact h.disk.foot_ty2 hf (by decide) (by decide) ht
/-- The cell of what is kept, and that of the answer. -/
structure KC (w : World) (B R kc : Nat) (kv : Value) : Prop where
  kcl : w.heap[kc]? = some (.cells #[kv] 22)
  rcl : w.cell? ⟨R, 0, none⟩ = some (.bool false)
  rfz : w.frozen? ⟨R, 0, none⟩ = false
  rb : R < B
theorem KC.only {S : Nat → Prop} {w w' : World} {B R kc : Nat} {kv : Value} (h : KC w B R kc kv) (ho : Only S w w') (hk : ¬ S kc) (hB : ∀ j, S j → B ≤ j) : KC w' B R kc kv := by
  have hR : ¬ S R := fun e => by have := hB R e; have := h.rb; omega
  exact ⟨(ho.block kc (Array.getElem?_eq_some_iff.1 h.kcl).1 hk).trans h.kcl, ho.cell hR h.rcl, (ho.frozen (World.block_lt_of_cell? w _ h.rcl) hR).trans h.rfz, h.rb⟩
theorem KC.below {w w' : World} {B R kc : Nat} {kv : Value} (h : KC w B R kc kv) (hb : Below w.heap.size w w') : KC w' B R kc kv :=
  ⟨(hb.block kc (Array.getElem?_eq_some_iff.1 h.kcl).1).trans h.kcl, cell_later hb h.rcl, (World.frozen?_of_block (a := ⟨R, 0, none⟩) (hb.block R (World.block_lt_of_cell? w _ h.rcl))).trans h.rfz, h.rb⟩
theorem KC.lt {w w' : World} {B R kc l : Nat} {kv : Value} {L L' : Lg} {D D' : Dk} (h : KC w B R kc kv) (hl : LD w B l L D) (ht : LT w w' B l L D L' D') : KC w' B R kc kv :=
  h.only ht.only (kc_foot hl h.kcl) (fun j hj => (hl.foot_lt hj).1)
theorem KC.cell {w : World} {B R kc : Nat} {kv : Value} (h : KC w B R kc kv) : w.cell? ⟨kc, 0, none⟩ = some kv ∧ w.frozen? ⟨kc, 0, none⟩ = false := by
  refine ⟨?_, ?_⟩
  · simp only [World.cell?, h.kcl]; rfl
  · simp only [World.frozen?, h.kcl]; simp
theorem HK.sync {w wr w' : World} {B l : Nat} {L : Lg} {D D' : Dk} {kv : Value} {KP : List (Value × List UInt8)} (h : HK w wr B l L D kv KP) (hs : Sy L D L.segs.length D') (ht : LT wr w' B l L D { L with segs := clean L.segs.length L.segs } D') : HK w w' B l { L with segs := clean L.segs.length L.segs } D' kv KP := by
  obtain ⟨h1, h2, h3⟩ := h.step ht
  obtain ⟨e1, e2, -, -⟩ := hs.same
  exact ⟨ht.is, h.gl.sync hs, h.dom.like rfl (clean_map _ _) e1, e2.trans h.room, h1, h2, h.txt, h.sm, h3, h.lo⟩
theorem HK.again {w wr w' : World} {B l l' : Nat} {L L' : Lg} {D D' : Dk} {kv : Value} {KP : List (Value × List UInt8)} (h : HK w wr B l L D kv KP) (ho : Only (D.foot L.d) wr w') (hld : LD w' B l' L' D') (hfo : ∀ j, ldFoot l' L' D' j → D.foot L.d j ∨ wr.heap.size ≤ j) (hg : GL L' D' 0 (KP.map Prod.snd)) (hd : Dom L' D') (hr : D'.room = D.room) : HK w w' B l' L' D' kv KP := by
  refine ⟨hld, hg, hd, hr.trans h.room, ownsRow_only h.row ho (fun g hg hf => h.ap g hg (.inr hf)), fun j hj hf => ?_, h.txt, h.sm, h.b.trans (ho.below h.b.size (fun j hj e => by have := (h.ld.disk.foot_lt e).1; have := h.lo; omega)), h.lo⟩
  have hlt := (World.ownsRow.lt h.row j hj).2
  exact (hfo j hf).elim (fun e => h.ap j hj (.inr e)) (fun e => by omega)
/-- A store into the cell of what is kept. -/
theorem HK.store {w wr : World} {B R l kc : Nat} {L : Lg} {D : Dk} {kv u : Value} {KP : List (Value × List UInt8)} (h : HK w wr B l L D kv KP) (hk : wr.heap[kc]? = some (.cells #[u] 22)) (hb : B ≤ kc) (hr : wr.cell? ⟨R, 0, none⟩ = some (.bool false)) (hf : wr.frozen? ⟨R, 0, none⟩ = false) (hR : R < B) : HK w (wr.setCell ⟨kc, 0, none⟩ kv) B l L D kv KP ∧ KC (wr.setCell ⟨kc, 0, none⟩ kv) B R kc kv := by
  have hc : wr.cell? ⟨kc, 0, none⟩ = some u := by simp only [World.cell?, hk]; rfl
  have ho : Only (fun j => j = kc) wr (wr.setCell ⟨kc, 0, none⟩ kv) := (Only.refl _ _).setCell ⟨kc, 0, none⟩ kv (.inl rfl)
  have ht : TyAt wr kc 22 := ⟨_, _, hk⟩
  have hnf := kc_foot h.ld hk
  have hhp : (wr.setCell ⟨kc, 0, none⟩ kv).heap[kc]? = some (.cells #[kv] 22) := by
    have hl := (Array.getElem?_eq_some_iff.1 hk).1
    simp only [World.setCell, Array.getElem?_modify, hk]
    simp
  refine ⟨⟨h.ld.only ho (fun j e => by subst e; exact hnf) (fun j e hu => by subst e; exact absurd (ht.eq (show TyAt wr j 5 from hu)) (by decide)), h.gl, h.dom, h.room, ownsRow_only h.row ho (fun g hg e => by subst e; exact absurd ((own_ty h.row hg).eq ht) (by decide)), h.ap, h.txt, h.sm, h.b.setCell (by show w.heap.size ≤ kc; have := h.lo; omega) _, h.lo⟩, hhp, ?_, ?_, hR⟩
  · rw [cell_set_block _ (by omega)]; exact hr
  · rw [frozen_set]; exact hf
/-- Append to a durable log. -/
def GrowOut (w w' : World) (B l : Nat) (L : Lg) (D : Dk) (E : List (List UInt8)) (ys : List UInt8) (e : Ending) : Prop :=
  (ys.length ≤ 65536 ∧ e = .returned (.tuple #[.int .i64 (E.length : Int), .int .i64 0]) ∧ ∃ L' D', LT w w' B l L D L' D' ∧ GL L' D' 0 (E ++ [ys]) ∧ Dom L' D' ∧ D'.room = D.room ∧ L'.room = L.room ∧ L'.name = L.name ∧ GA L' D') ∨
  (65536 < ys.length ∧ e = .returned (.tuple #[.int .i64 0, .int .i64 2]) ∧ Below w.heap.size w w')
theorem lapp3_calls (B l : Nat) (L : Lg) (D : Dk) (E : List (List UInt8)) (v : Value) (ys : List UInt8) (w : World) (h : LD w B l L D) (hg : GL L D 0 E) (hd : Dom L D) (hs : GS L D) (hn : E.length ≤ 90) (hr : ys.length ≤ 65536 → (usedOf D.now + (12 + ys.length) : Int) ≤ D.room) (hrb : D.room ≤ 1073741824)
    (hv : Bytes w v ys) (hvF : ∀ a n c, v = .slice (some a) n c → 0 < ys.length → ¬ ldFoot l L D a.block) :
    Calls Tryz.prog 10 #[.pointer (some ⟨l, 0, none⟩), v] w fun e w' => GrowOut w w' B l L D E ys e := by
  by_cases hl : ys.length ≤ 65536
  · refine (lappend_calls B l L D v ys w h (hg.aok hd (by omega) (hr hl) hrb) hv hvF (fun n W hn2 _ => itoa_small (by rw [hg.next] at hn2; omega) W) hl).mono ?_
    rintro e w' ⟨rfl, L', D', ha, hlt⟩
    obtain ⟨h1, h2, h3⟩ := hg.app hd hl ha
    obtain ⟨h4, h5, h6, h7⟩ := app_shape ha
    exact .inl ⟨hl, by rw [hg.next, Nat.zero_add], L', D', hlt, h1, h2, h3, h5, h6, hs.app hg ha⟩
  · refine (lappend_long B l L D v ys w h hg.open_ (by rw [hg.next]; omega) (by have := hg.cost; omega) hv hl).mono ?_
    rintro e w' ⟨rfl, hb⟩
    exact .inr ⟨by omega, rfl, hb⟩
/-- What Open asks of a durable disk behind a crash. -/
theorem open_in {w : World} {B d nb : Nat} {L : Lg} {D : Dk} {E : List (List UInt8)} {rm : Int} (hd : DiskAt w B d (crD D nb)) (h : GS L D) (hg : GL L D 0 E) (hn : E.length ≤ 40) (hr : 1 ≤ rm ∧ rm ≤ 1048576) : OpenIn w B d (crD D nb) L.name rm (bsOf L.name) := by
  have hdur : (D.dur.map (·.1)).Nodup := hd.kdur
  have hname : ∀ f ∈ D.dur, ∃ s ∈ L.segs, f.1 = fnm L.name s.base := fun f hf => by
    have : (mget D.dur f.1).isSome = true := mget_some.2 (List.mem_map.2 ⟨f, hf, rfl⟩)
    rw [(h.same f.1).1] at this
    exact h.onl _ this
  have hb : ∀ s ∈ L.segs, s.base < 100 := fun s hs => by have := hg.mem s hs; omega
  have hp : (D.dur.map (·.1)).Perm (L.segs.map fun s => fnm L.name s.base) := keys_perm hdur (by
    unfold List.Nodup
    rw [List.pairwise_map]
    exact (chain_ord hg.chain).imp (fun h e => by have := fnm_inj e; omega)) (fun k => by
    rw [(h.same k).1]
    constructor
    · intro hk
      obtain ⟨s, hs, e⟩ := h.onl k hk
      exact List.mem_map.2 ⟨s, hs, e.symm⟩
    · intro hk
      obtain ⟨s, hs, e⟩ := List.mem_map.1 hk
      rw [← e]
      exact (hg.file s hs).1)
  refine ⟨hd, hg.nm, hr, fun f hf => ?_, fun f hf n hn => ?_, fun f hf => ?_, ?_⟩
  · obtain ⟨s, hs, e⟩ := hname f hf
    rw [e, bsOf_at _ (hb s hs)]
    exact (sbase_small L.name s.base (hb s hs) (by have := rightNm_size hg.nm; omega) w).is
  · obtain ⟨s, hs, e⟩ := hname f hf
    rw [e, bsOf_at _ (hb s hs)] at hn
    simp only [Option.some.injEq] at hn
    have := hb s hs
    omega
  · have h1 := fileOf_mem (m := D.dur) hdur hf
    have h2 := (h.same f.1).2
    have h3 := file_le D.now f.1
    have h4 := hg.used
    rw [← h1, h2]
    omega
  · have h1 := hp.length_eq
    simp only [List.length_map] at h1
    show D.dur.length ≤ 100000
    have := hg.cost
    omega
end Go.Proofs.YtcckoppbophidaaGreatDoor

/- Layer 6: SeglogGrows, walked. -/
namespace Go.Proofs.YtcckoppbophidaaGreatDoor
open Go.RowKit Go.Shelf
set_option linter.unusedVariables false
set_option linter.unusedSimpArgs false
set_option maxRecDepth 100000
attribute [local go_sem] Oper.semAt_some

theorem mod_room (cn : Int) : ∃ rm : Int, 64 ≤ rm ∧ rm ≤ 3063 ∧ wrap64 (64 + wrap64 ((IntKind.u64.wrap cn).tmod 3000)) = rm := by
  have h0 : 0 ≤ IntKind.u64.wrap cn := by
    simp [IntKind.wrap, IntKind.bits, IntKind.signed]
    omega
  have h1 := Int.tmod_nonneg (3000 : Int) h0
  have h2 := Int.tmod_lt_of_pos (IntKind.u64.wrap cn) (show (0 : Int) < 3000 by omega)
  refine ⟨64 + (IntKind.u64.wrap cn).tmod 3000, by omega, by omega, ?_⟩
  rw [w64 (n := (IntKind.u64.wrap cn).tmod 3000) (by omega) (by omega), w64 (by omega) (by omega)]

theorem grow_enter {P : Program} {f : Nat} {fn : Func} {c : Code} (hf : P.funcs[f]? = some fn) (hname : (fn.name == "runtime.NumGoroutine") = false) (hb : fn.body = some c) (args : Array Value) (w : World) :
    (callFunc f args).run P w = .ok (.enter f args) w := by
  have h1 : fn.name ≠ "runtime.NumGoroutine" := by simpa using hname
  simp [callFunc, hf, h1, hb]
/-- The range over All(0): what stands while it goes; the cell of n lies at N. -/
def NJ (Y : World) (N m : Nat) (s : LSt) (W : World) : Prop :=
  Only (fun j => j = N) Y W ∧ (∀ p ∈ s.2, W.heap[p.1]? = some p.2 ∧ p.2.isCells = true) ∧ W.cell? ⟨N, 0, none⟩ = some (.int .i64 s.1) ∧ W.frozen? ⟨N, 0, none⟩ = false ∧ s.1 ≤ m
theorem NJ.calm {Y W W' : World} {N m : Nat} {s : LSt} (h : NJ Y N m s W) (hc : Calm Y.heap.size W W') : NJ Y N m s W' := by
  obtain ⟨h1, h2, h3, h4, h5⟩ := h
  exact ⟨⟨hc.os.trans h1.os, hc.tape.trans h1.tape, hc.output.trans h1.output, Nat.le_trans h1.size hc.size, fun k hk hs => (hc.block k hk).trans (h1.block k hk hs)⟩, fun p hp => ⟨hc.cells _ _ (h2 p hp).1 (h2 p hp).2, (h2 p hp).2⟩, hc.cell h3, (hc.frozen h3).trans h4, h5⟩
theorem NJ.put {Y W W2 : World} {N m : Nat} {s s' : LSt} (hN : N < Y.heap.size) (h : NJ Y N m s W) (h2 : s'.1 = s.1 + 1) (hm : s.1 < m) (h3 : ∃ c o, s'.2 = [(c, o)] ∧ W.heap[c]? = some o ∧ o.isCells = true ∧ Y.heap.size ≤ c) (hc : Calm Y.heap.size W W2) : NJ Y N m s' (W2.drew.setCell ⟨N, 0, none⟩ (.int .i64 ((s.1 : Int) + 1))) := by
  obtain ⟨k1, -, k3, k4, -⟩ := h.calm hc
  obtain ⟨c, o, e, ho, hco, hcb⟩ := h3
  refine ⟨k1.drew.setCell ⟨N, 0, none⟩ _ (.inl rfl), fun p hp => ?_, ?_, by rw [frozen_set]; exact k4, by omega⟩
  · rw [e] at hp
    obtain rfl := List.mem_singleton.1 hp
    refine ⟨?_, hco⟩
    rw [heap_setCell_other _ ⟨N, 0, none⟩ c _ (by simp; omega)]
    exact hc.cells _ _ ho hco
  · rw [cell_set_same _ (show W2.drew.cell? ⟨N, 0, none⟩ = _ from k3), h2]
    push_cast
    rfl
set_option maxHeartbeats 8000000 in
theorem grows_calls (v0 : Value) (rm0 : Int) (v2 : Value) (xss : List (List UInt8)) (w : World) (h0 : SliceOf Bytes w v0 xss) (h2 : ∃ a n c, v2 = .slice a n c) :
    Calls Tryz.prog 6 #[v0, .int .i64 rm0, v2] w fun e w' => e = .returned (.bool true) ∧ Below w.heap.size w w' := by
  have H0 := Lib.hid h0
  obtain ⟨a0, c0, rfl, n0⟩ : ∃ a c, v0 = .slice a xss.length c ∧ c ≤ 9223372036854775807 ∧ xss.length ≤ c := by
    obtain ⟨vs, ⟨a, c, h, -, h2, h3, -⟩, -⟩ := h0
    exact ⟨a, c, h, h3, h2⟩
  obtain ⟨pa, pn, pc, rfl⟩ := h2
  clear h0
  refine (callsIn_wide (n := 0)).1 ?_
  refine callsIn_of_wp_marks Tryz.func6 rfl trivial ?_
  simp only [Tryz.ntmps6, List.size_toArray, List.length_cons, List.length_nil, Nat.reduceAdd, Nat.reduceSub, Array.replicate_succ, Array.replicate_zero, List.push_toArray, List.append_toArray, List.nil_append, List.cons_append]
  gi_wp2_with (gi_at_call 7; refine (callsIn_wide.2 (known_calls _)).mono ?_; rintro e w1 ⟨rfl, hb1⟩; have HB1 := Lib.hid hb1; clear hb1)
  gi_wp2_with (gi_at_call 8; refine (callsIn_wide.2 (dnew_calls 268435456 w1 (by omega) (by omega))).mono ?_; rintro e w2 ⟨rfl, hd2, hb2⟩; have HD2 := Lib.hid hd2; have HB2 := Lib.hid hb2; clear hd2 hb2)
  obtain ⟨rm, hrm1, hrm2, hrm⟩ := mod_room rm0
  rw [hrm]
  clear hrm
  refine (callsIn_wide.2 (lopen_new (w1.heap.size + 2) w1.heap.size (newD 268435456 w1.heap.size) ⟨#[108, 111, 103]⟩ rm w2 HD2.out rfl HB2.out.size lognm (by omega))).mono ?_
  rintro e w3 ⟨l, rfl, hl, hlog, hb3⟩
  have hwb : Below w.heap.size w w1 := ((Below.refl _ w).alloc (Nat.le_refl _) (.cells #[.bool false] 4)).trans (HB1.out.mono (by simp))
  have hRB : w.heap.size < w1.heap.size := by have := HB1.out.size; simp at this; omega
  obtain ⟨kc, hkc⟩ : ∃ kc, kc = w3.heap.size := ⟨_, rfl⟩
  have hs23 : w1.heap.size ≤ w3.heap.size := by have := HB2.out.size; have := hb3.size; omega
  have hal := below_alloc w3 (.cells #[.slice none 0 0] 22)
  have hr1 : w1.cell? ⟨w.heap.size, 0, none⟩ = some (.bool false) := cell_later HB1.out (box_self (w := w) (cs := #[.bool false]) (e := 4) 0 _ rfl)
  have hz1 : w1.frozen? ⟨w.heap.size, 0, none⟩ = false := box_frozen HB1.out 0
  have hb13 : Below w1.heap.size w1 (w3.alloc (.cells #[.slice none 0 0] 22)) := (HB2.out.trans (hb3.mono HB2.out.size)).trans (hal.mono hs23)
  have HK0 := Lib.hid (show HK w (w3.alloc (.cells #[.slice none 0 0] 22)) w1.heap.size l (newL (w1.heap.size + 2) ⟨#[108, 111, 103]⟩ rm) (newD 268435456 w1.heap.size) (.slice none 0 0) [] from by
    obtain ⟨hg0, hdm0⟩ := GL.new (w1.heap.size + 2) ⟨#[108, 111, 103]⟩ 268435456 rm w1.heap.size lognm (by omega)
    exact ⟨(show LD w3 w1.heap.size l _ _ from ⟨hlog, HD2.out.below hb3⟩).below hal, hg0, hdm0, rfl, World.ownsRow_nil _ _ _ _, (fun j hj => by cases hj), (fun x hx => by cases hx), (fun x hx => by cases hx), hwb.trans (hb13.mono hwb.size), hwb.size⟩)
  have KC0 := Lib.hid (show KC (w3.alloc (.cells #[.slice none 0 0] 22)) w1.heap.size w.heap.size kc (.slice none 0 0) from
    ⟨by rw [hkc]; exact World.alloc_heap_new w3 _, cell_later hb13 hr1, (World.frozen?_of_block (a := ⟨w.heap.size, 0, none⟩) (hb13.block _ hRB)).trans hz1, hRB⟩)
  have GS0 := Lib.hid (GS.new (w1.heap.size + 2) ⟨#[108, 111, 103]⟩ 268435456 rm w1.heap.size)
  have hkB : w1.heap.size ≤ kc := by rw [hkc]; exact hs23
  clear hlog hb3 hal hr1 hz1 hb13 hwb hl hs23
  gi_wp2_with fail
  obtain ⟨d, hd⟩ : ∃ d, d = w1.heap.size + 2 := ⟨_, rfl⟩
  rw [← hd] at HK0 GS0 ⊢
  have HDE := Lib.hid hd
  rw [← hkc]
  clear hd hkc HD2 HB2 HB1
  generalize w1.heap.size = B at *
  obtain ⟨R, hR⟩ : ∃ R, R = w.heap.size := ⟨_, rfl⟩
  have HRE := Lib.hid hR
  rw [← hR] at KC0 hRB ⊢
  clear hR
  gi_loopw [9, 12, 13, 14] (fun lv iv _ _ wr => ∃ (i l : Nat) (L : Lg) (D : Dk) (kv : Value) (KP : List (Value × List UInt8)), i ≤ xss.length ∧ KP.length ≤ i ∧ i ≤ 40 ∧ iv = .int .i64 i ∧ lv = .pointer (some ⟨l, 0, none⟩) ∧ HK w wr B l L D kv KP ∧ KC wr B R kc kv ∧ GS L D ∧ L.name = ⟨#[108, 111, 103]⟩ ∧ L.room = rm ∧ L.d = d) (fun _ iv _ _ _ => 40 - (intOf iv).toNat)
  case atStart => exact ⟨0, l, _, _, _, [], by omega, by simp, by omega, rfl, rfl, HK0.out, KC0.out, GS0.out, rfl, rfl, rfl⟩
  case round =>
    clear HK0 KC0 GS0
    obtain ⟨i, l, L, D, kv, KP, hi, hki, hi40, rfl, rfl, hhk, hkc, hgs, hnm, hrm, hLd⟩ := hrel
    have HH := Lib.hid hhk
    have HC := Lib.hid hkc
    have HG := Lib.hid hgs
    have HE := Lib.hid (And.intro hnm (And.intro hrm hLd))
    obtain ⟨ka, kcp, hkv⟩ := own_slice hhk.row
    subst hkv
    clear hhk hkc hgs hnm hrm hLd
    by_cases hlt : i < xss.length ∧ i < 40
    · obtain ⟨hl1, hl2⟩ := hlt
      have d1 : decide ((i : Int) < (xss.length : Int)) = true := decide_eq_true (by omega)
      have d2 : decide ((i : Int) < 40) = true := decide_eq_true (by omega)
      obtain ⟨-, -, -, eb, eo, ev, rfl, hcell, hby⟩ := H0.out.get i hl1
      obtain ⟨ys, hys⟩ : ∃ ys, xss[i] = ys := ⟨_, rfl⟩
      rw [hys] at hby
      obtain ⟨va, vc, rfl⟩ : ∃ a c, ev = .slice a ys.length c := by obtain ⟨a, c, h, -⟩ := hby; exact ⟨a, c, h⟩
      have HBY := Lib.hid hby
      have HCELL := Lib.hid hcell
      have cw : wr.cell? ⟨eb, eo + i, none⟩ = some (.slice va ys.length vc) := cell_later HH.out.b hcell
      have hic : i < c0 := by omega
      clear hys hby hcell
      gi_wp2_with fail
      refine (callsIn_wide.2 (lapp3_calls B l L D (KP.map Prod.snd) _ ys wr HH.out.ld HH.out.gl HH.out.dom HG.out (by rw [List.length_map]; omega) (fun hy => by
          rw [HH.out.room]
          have := HH.out.gl.used
          rw [List.length_map] at this
          omega) (by rw [HH.out.room]; omega) (HBY.out.below HH.out.b (Nat.le_refl _)) (fun a n c e h0 hf => by
          have h1 := HBY.out.lt a n c e h0
          have h2 := (HH.out.ld.foot_lt hf).1
          have h3 := HH.out.lo
          omega))).mono ?_
      rintro e w4 (⟨hy, rfl, L', D', hlt', hg', hd', hr', hm', hn', hga⟩ | ⟨hy, rfl, hb⟩)
      · have HST := Lib.hid (HH.out.step hlt')
        have HC4 := Lib.hid (HC.out.lt HH.out.ld hlt')
        have cw4 : w4.cell? ⟨eb, eo + i, none⟩ = some (.slice va ys.length vc) := cell_later HST.out.2.2 HCELL.out
        have HLT := Lib.hid hlt'
        have HG' := Lib.hid hg'
        have HD' := Lib.hid hd'
        have HR' := Lib.hid hr'
        have HGA := Lib.hid hga
        have HE' := Lib.hid (show L'.name = ⟨#[108, 111, 103]⟩ ∧ L'.room = rm ∧ L'.d = d from ⟨hn'.trans HE.out.1, hm'.trans HE.out.2.1, hlt'.d.trans HE.out.2.2⟩)
        have ck4 := HC4.out.cell.1
        rw [List.length_map]
        clear hlt' hg' hd' hr' hm' hn' hga cw
        gi_wp2_with fail
        refine region_mi [(0, false), (1, false), (2, false), (3, false), (4, false), (5, true), (6, true)] 7 (fun X => X.cell? ⟨kc, 0, none⟩ = some (.slice ka KP.length kcp) ∧ X.cell? ⟨eb, eo + i, none⟩ = some (.slice va ys.length vc)) (by kernel_rfl) (by kernel_rfl) ⟨ck4, cw4⟩ ?_
        iterate 5
          first
          | (refine m_take (v := ?_) rfl rfl ?_ ?_
             rotate_left
             · intro W hW
               go_simp
               with_reducible rfl
             simp only [Act.put, List.setIfInBounds_toArray, List.set_cons_zero, List.set_cons_succ])
          | (refine m_skip rfl rfl ?_
             simp only [Act.put, List.setIfInBounds_toArray, List.set_cons_zero, List.set_cons_succ])
        refine m_loud rfl (fun K hK => ?_)
        have HK := Lib.hid hK
        clear hK
        go_simp
        obtain ⟨W5, hW5⟩ : ∃ W5, W5 = (w4.alloc (.cells #[.slice va ys.length vc] 34)).drew := ⟨_, rfl⟩
        have hal5 : Below w4.heap.size w4 W5 := by rw [hW5]; exact (below_alloc w4 _).drew
        have HLT5 := Lib.hid (HLT.out.below hal5)
        have HOW := Lib.hid (show W5.ownsRow B 34 1 (.slice ka KP.length kcp) KP.length (KP.map Prod.fst) from ownsRow_below HST.out.1 hal5 (Nat.le_refl _))
        have HC5 := Lib.hid (HC4.out.below hal5)
        have HLIT := Lib.hid (show Rd W5 1 (.slice (some ⟨w4.heap.size, 0, none⟩) 1 1) 1 [.slice va ys.length vc] by rw [hW5]; exact (Rd.lit (w := w4) (cs := #[.slice va ys.length vc]) (e := 34) (n := 1) (sz := 1) rfl (by omega)).below ((Below.refl _ _).drew) (Nat.le_refl _))
        have HZ := Lib.hid (show B ≤ W5.heap.size by have := HLT.out.is.log.foot_lt (j := l) (.inl rfl); have := hal5.size; omega)
        have HB5 := Lib.hid (HST.out.2.2.trans (hal5.mono HST.out.2.2.size))
        rw [← hW5]
        have cw5 := cell_later hal5 cw4
        have ck5 := cell_later hal5 ck4
        refine HK.out _ _ ⟨ck5, cw5⟩ ?_
        clear HK
        clear hW5 hal5 cw4 ck4 cw5 ck5
        refine m_app tyBytesL (base := B) (n := KP.length) (v := .slice ka KP.length kcp) (xs := KP.map Prod.fst) HOW.out HLIT.out (by simp [Value.oneCell']) (by omega) (by omega) (by omega) HZ.out rfl rfl rfl rfl rfl ?_
        intro g gcap w6 ho6 hold6 hg6 hgc6
        have hon6 := Only.of_grown hg6
        have HC6 := Lib.hid (HC5.out.only hon6 (fun e => by
          have h1 := own_ty HOW.out e
          exact absurd (h1.eq (show TyAt W5 kc 22 from ⟨_, _, HC5.out.kcl⟩)) (by decide)) (fun j e => (World.ownsRow.lt HOW.out j e).1))
        have HB6 := Lib.hid (HB5.out.trans (hon6.below HB5.out.size (fun j hj e => by have h1 := (World.ownsRow.lt HOW.out j e).1; have h2 := HH.out.lo; omega)))
        have HN := Lib.hid (HH.out.keep HLT5.out HG'.out HD'.out HR'.out hy HBY.out (by have := ho6; exact this) hg6 (fun j e => by
          simp only [Value.ownBlock, Option.some.injEq] at e
          subst e
          rcases hgc6 with ⟨k, c, e, -⟩ | e
          · exact .inl (by rw [e]; rfl)
          · exact .inr e))
        have hkB2 := hkB
        have HS := Lib.hid (HN.out.store HC6.out.kcl hkB HC6.out.rcl HC6.out.rfz hRB)
        have ck6 := HC6.out.cell.1
        have zk6 := HC6.out.cell.2
        have cw6 := cell_later HB6.out HCELL.out
        refine ⟨⟨ck6, cw6⟩, ?_⟩
        clear ho6 hold6 hg6 hgc6 hon6 hkB2 cw6
        refine m_done ?_
        simp only [List.drop_succ_cons, List.drop_zero]
        obtain ⟨KP2, hKP2⟩ : ∃ KP2, KP2 = KP ++ [(Value.slice va ys.length vc, ys)] := ⟨_, rfl⟩
        obtain ⟨W7, hW7⟩ : ∃ W7, W7 = w6.setCell ⟨kc, 0, none⟩ (.slice (some ⟨g, 0, none⟩) (KP.length + 1) gcap) := ⟨_, rfl⟩
        rw [← hKP2, ← hW7] at HS
        have hl2 : KP2.length = KP.length + 1 := by rw [hKP2, List.length_append, List.length_singleton]
        have HL2 := Lib.hid hl2
        have HW7 := Lib.hid hW7
        have hk2 : KP2.length ≤ i + 1 := by omega
        have hks : (KP2.map Prod.snd).length ≤ 41 := by rw [List.length_map]; omega
        clear hKP2 hW7 hl2 HN HC6 HB6 HOW HLIT HZ HB5 HC5 HLT5 HLT HST HC4 HG' HD' HR'
        go_wp2_with fail
        try simp only [NP]
        gi_wp2_with fail
        rw [← HW7.out]
        refine (callsIn_wide.2 (lsync_calls B l L' D' W7 HS.out.1.ld (HS.out.1.gl.sok (by omega)) (fun s hs W _ => itoa_small (by have := HS.out.1.gl.mem s hs; omega) W))).mono ?_
        rintro e w8 ⟨rfl, D3, hsy, hlt3⟩
        have HG3 := Lib.hid (HGA.out.sync HS.out.1.gl hsy)
        have HH3 := Lib.hid (HS.out.1.sync hsy hlt3)
        have HC3 := Lib.hid (HS.out.2.lt HS.out.1.ld hlt3)
        obtain ⟨L3, hL3⟩ : ∃ L3, L3 = { L' with segs := clean L'.segs.length L'.segs } := ⟨_, rfl⟩
        have HE3 := Lib.hid (show L3.name = ⟨#[108, 111, 103]⟩ ∧ L3.room = rm ∧ L3.d = d by rw [hL3]; exact HE'.out)
        rw [← hL3] at HG3 HH3
        clear hsy hlt3 hL3 HS HGA HW7 ck6 zk6
        cases hb5 : ((i : Int) % 5 == 4) with
        | false =>
          gi_wp2_with fail
          refine ⟨⟨i + 1, l, L3, D3, _, KP2, by omega, hk2, by omega, by go_num, rfl, HH3.out, HC3.out, HG3.out, HE3.out.1, HE3.out.2.1, HE3.out.2.2⟩, by simp [intOf]; omega⟩
        | true =>
          gi_wp2_with fail
          refine (callsIn_wide.2 (dcrash_calls d B D3 pa pn pc w8 (by have := HH3.out.ld.disk; rw [HE3.out.2.2] at this; exact this) HG3.out.chg)).mono ?_
          rintro e w9 ⟨rfl, nb, hnb, hturn⟩
          have HT9 := Lib.hid hturn
          have HDN := Lib.hid (And.intro HH3.out.ld.disk.know HH3.out.ld.disk.kdur)
          clear hturn
          gi_wp2_with fail
          have hop := HG3.out.open_ HH3.out.gl (by omega) HDN.out.2 nb
          have hoi := open_in HT9.out.is HG3.out HH3.out.gl (by rw [List.length_map]; omega) (rm := rm) (by omega)
          rw [HE3.out.1] at hop hoi
          refine (callsIn_wide.2 (lopen_good d B (crD D3 nb) ⟨#[108, 111, 103]⟩ rm (bsOf ⟨#[108, 111, 103]⟩) (L3.segs.map Seg.ps) w9 hoi hop.1 hop.2.1 hop.2.2.1 hop.2.2.2.1 hop.2.2.2.2)).mono ?_
          rintro e w10 ⟨l4, L4, rfl, hl4, hld4, hon4, hfo4, hLd4, hLn4, hLr4, hLb4, hps4⟩
          obtain ⟨hg4, hgs4, hdm4⟩ := HG3.out.again HH3.out.gl HDN.out.1 HDN.out.2 nb (hLn4.trans HE3.out.1.symm) hLb4 (hLr4.trans HE3.out.2.1.symm) hps4
          have ho : Only (D3.foot L3.d) w8 w10 := by
            rw [HE3.out.2.2]
            exact HT9.out.only.trans hon4 (fun j hj hf => (HT9.out.foot j hf).resolve_right (by omega))
          have hk4 := HH3.out.again ho hld4 (fun j hj => by
            rw [HE3.out.2.2]
            rcases hfo4 j hj with e | e
            · exact HT9.out.foot j e
            · exact .inr (Nat.le_trans HT9.out.only.size e)) hg4 hdm4 rfl
          have hc4 := HC3.out.only ho (fun e => kc_foot HH3.out.ld HC3.out.kcl (.inr e)) (fun j e => (HH3.out.ld.disk.foot_lt e).1)
          have hnx4 : nextOf L4 = KP.length + 1 := by rw [hk4.gl.next, Nat.zero_add, List.length_map]; exact HL2.out
          have hfi4 : firstOf L4 = 0 := hk4.gl.first
          have hsl4 : L4.segs.length ≤ 1000000 := by have := hk4.gl.cost; rw [List.length_map] at this; omega
          have HE4 := Lib.hid (show L4.name = ⟨#[108, 111, 103]⟩ ∧ L4.room = rm ∧ L4.d = d from ⟨hLn4, hLr4, hLd4⟩)
          have HH4 := Lib.hid hk4
          have HC4 := Lib.hid hc4
          have HG4 := Lib.hid hgs4
          have hkp : KP.length ≤ 40 := by omega
          have HNE := Lib.hid (lnext_calls B l4 L4 w10.drew (hk4.ld.log.below ((Below.refl _ _).drew)) (by rw [hnx4]; omega) hsl4)
          rw [hnx4] at HNE
          have ck := hc4.cell.1
          have HFI := Lib.hid hfi4
          clear hop hoi hld4 hon4 hfo4 hLd4 hLn4 hLr4 hLb4 hps4 hg4 hgs4 hdm4 ho hk4 hc4 hnx4 hfi4 HT9 HDN HH3 HC3 HG3 HE3
          gi_wp2_with fail
          refine region_mi [(0, false), (1, false), (2, false), (3, false), (5, false), (6, false), (4, true), (7, false), (8, false), (9, false), (10, false), (11, true), (12, false), (13, false)] 14 (fun X => X.cell? ⟨kc, 0, none⟩ = some (.slice (some ⟨g, 0, none⟩) (KP.length + 1) gcap)) (by kernel_rfl) (by kernel_rfl) ck ?_
          iterate 6
            first
            | (refine m_take (v := ?_) rfl rfl ?_ ?_
               rotate_left
               · intro W hW
                 go_simp
                 with_reducible rfl
               simp only [Act.put, List.setIfInBounds_toArray, List.set_cons_zero, List.set_cons_succ])
            | (refine m_skip rfl rfl ?_
               simp only [Act.put, List.setIfInBounds_toArray, List.set_cons_zero, List.set_cons_succ])
          refine m_loud rfl (fun K hK => ?_)
          have HK := Lib.hid hK
          clear hK
          go_simp
          refine HNE.out.mono ?_
          rintro e w11 ⟨rfl, hb11⟩
          have hb11 : Below w10.heap.size w10 w11 := ((Below.refl w10.heap.size w10).drew).trans hb11
          have HH5 := Lib.hid (HH4.out.below hb11)
          have HC5 := Lib.hid (HC4.out.below hb11)
          have HF5 := Lib.hid (lfirst_calls B l4 L4 w11 HH5.out.ld.log)
          rw [HFI.out] at HF5
          refine HK.out _ _ HC5.out.cell.1 ?_
          clear HK
          clear hb11 HNE
          iterate 4
            first
            | (refine m_take (v := ?_) rfl rfl ?_ ?_
               rotate_left
               · intro W hW
                 go_simp
                 with_reducible rfl
               simp only [Act.put, List.setIfInBounds_toArray, List.set_cons_zero, List.set_cons_succ])
            | (refine m_skip rfl rfl ?_
               simp only [Act.put, List.setIfInBounds_toArray, List.set_cons_zero, List.set_cons_succ])
          refine m_loud rfl (fun K hK => ?_)
          have HK := Lib.hid hK
          clear hK
          go_simp
          refine HF5.out.mono ?_
          rintro e w12 ⟨rfl, rfl⟩
          refine HK.out _ _ HC5.out.cell.1 ?_
          clear HK
          iterate 2
            first
            | (refine m_take (v := ?_) rfl rfl ?_ ?_
               rotate_left
               · intro W hW
                 go_simp
                 with_reducible rfl
               simp only [Act.put, List.setIfInBounds_toArray, List.set_cons_zero, List.set_cons_succ])
            | (refine m_skip rfl rfl ?_
               simp only [Act.put, List.setIfInBounds_toArray, List.set_cons_zero, List.set_cons_succ])
          refine m_done ?_
          simp only [List.drop_succ_cons, List.drop_zero]
          clear HF5 HH4 HC4 ck
          go_wp2_with fail
          try simp only [NP]
          gi_wp2_with fail
          refine ⟨⟨i + 1, l4, L4, _, _, KP2, by omega, hk2, by omega, by go_num, rfl, HH5.out, HC5.out, HG4.out, HE4.out.1, HE4.out.2.1, HE4.out.2.2⟩, by simp [intOf]; omega⟩
      · have HN := Lib.hid (HH.out.below hb)
        have HCN := Lib.hid (HC.out.below hb)
        clear hb cw
        gi_wp2_with fail
        refine ⟨⟨i + 1, l, L, D, _, KP, by omega, by omega, by omega, by go_num, rfl, HN.out, HCN.out, HG.out, HE.out.1, HE.out.2.1, HE.out.2.2⟩, by simp [intOf]; omega⟩
    · rcases (show (¬ i < xss.length) ∨ (i < xss.length ∧ ¬ i < 40) from by omega) with hn1 | ⟨hn1, hn2⟩
      · have d1 : decide ((i : Int) < (xss.length : Int)) = false := decide_eq_false (by omega)
        clear hlt
        -- behind the appends, in the world wr
        gi_wp2_with (gi_at_call 18; refine (lall_calls (some ⟨l, 0, none⟩) 0 _).mono ?_; rintro e w4 ⟨rfl, rfl⟩)
        obtain ⟨Y, hY⟩ : ∃ Y, Y = ((wr.alloc (.cells #[.int .i64 0] 3)).alloc (.cells #[.pointer (some ⟨l, 0, none⟩)] 29)).alloc (.cells #[.int .i64 0] 3) := ⟨_, rfl⟩
        obtain ⟨N, hN⟩ : ∃ N, N = wr.heap.size := ⟨_, rfl⟩
        have hYs : Y.heap.size = N + 3 := by rw [hY, hN]; simp
        have hbY : Below wr.heap.size wr Y := by rw [hY]; exact (((Below.refl _ _).alloc (Nat.le_refl _) _).alloc (by simp) _).alloc (by simp; omega) _
        have hyn : Y.cell? ⟨N, 0, none⟩ = some (.int .i64 (0 : Nat)) ∧ Y.frozen? ⟨N, 0, none⟩ = false := by
          rw [hY, hN]
          refine ⟨?_, ?_⟩
          · rw [World.cell?_alloc_past _ _ _ (by simp; omega), World.cell?_alloc_past _ _ _ (by simp), World.cell?_alloc_at _ _ _ _ rfl]; rfl
          · rw [World.frozen?_alloc_past _ _ _ (by simp; omega), World.frozen?_alloc_past _ _ _ (by simp), World.frozen?_alloc_at _ _ _ _ rfl]
        have hyl : Y.cell? ⟨N + 1, 0, none⟩ = some (.pointer (some ⟨l, 0, none⟩)) := by
          rw [hY, hN, World.cell?_alloc_past _ _ _ (by simp), World.cell?_alloc_at _ _ _ _ (by simp)]; rfl
        have hyf : Y.cell? ⟨N + 1 + 1, 0, none⟩ = some (.int .i64 (0 : Nat)) := by
          rw [hY, hN, World.cell?_alloc_at _ _ _ _ (by simp)]; rfl
        have hNu : ¬ IsU8 Y N := by
          rintro ⟨cs, x, hx⟩
          rw [hY, hN, Below.heap_alloc _ _ _ (by simp; omega), Below.heap_alloc _ _ _ (by simp), World.alloc_heap_new] at hx
          simp only [Option.some.injEq, Obj.cells.injEq] at hx
          exact absurd hx.2.1 (by decide)
        rw [← hY, ← hN]
        have HHY := Lib.hid (HH.out.below hbY)
        have HCY := Lib.hid (HC.out.below hbY)
        have hfoot : ∀ j, ldFoot l L D j → j < N := fun j hj => by rw [hN]; exact (HH.out.ld.foot_lt hj).2
        have hkcN : kc < N := by rw [hN]; exact (Array.getElem?_eq_some_iff.1 HC.out.kcl).1
        have hRN : R < N := by omega
        have hrowN : ∀ j, (Value.slice ka KP.length kcp).ownBlock = some j → j < N := fun j hj => by rw [hN]; exact (World.ownsRow.lt HH.out.row j hj).2
        have HFT := Lib.hid (And.intro hfoot (And.intro hrowN hNu))
        have HYL := Lib.hid (And.intro hyl hyf)
        have hrel0 : NJ Y N KP.length (0, []) Y := ⟨Only.refl _ _, (fun p hp => by cases hp), hyn.1, hyn.2, Nat.zero_le _⟩
        have hwN : w.heap.size ≤ N := by rw [hN]; exact HH.out.b.size
        clear hY hbY hyn hyl hyf hNu hfoot hrowN hN HH HC
        refine range_w (gf := 40) (lb := #[.pointer (some ⟨N + 1, 0, none⟩), .pointer (some ⟨N + 1 + 1, 0, none⟩)]) rfl (fun args w => grow_enter Tryz.func40 (by kernel_rfl) rfl args w)
          (fun s W => NJ Y N KP.length s W) (fun _ _ => False) (LStep 0 (KP.map Prod.snd) Y.heap.size) (fun s => KP.length ≤ s.1) (0, [])
          (fun s W W' hc h => h.calm hc) (fun _ _ _ _ h => h) hrel0 ?iter ?body ?done (fun _ _ _ _ h => h.elim)
        case iter =>
          intro ly J' Jx' W hm _ hJJ hc hJ0 hy
          have hgl := HHY.out.gl
          refine (lall1_iter B l (N + 1) (N + 1 + 1) 0 0 Y.heap.size ly L (KP.map Prod.snd) J' Jx' W hgl.chain hgl.ents (by rw [List.length_map]; omega) (by have := hgl.cost; rw [List.length_map] at this; omega) (by omega) (fun s hs x hx => by have := hgl.small s hs x hx; omega) hm (fun s W2 hj => ?_) hy hJ0).mono ?_
          · obtain ⟨h1, h2, -⟩ := hJJ s W2 hj
            refine ⟨HHY.out.ld.log.only h1 (fun j hj hf => ?_) (fun j hj => ?_), h1.cell (by omega) HYL.out.1, h1.cell (by omega) HYL.out.2, h1.size, fun p hp => (h2 p hp).1⟩
            · have := HFT.out.1 j (.inl hf); omega
            · subst hj; exact HFT.out.2.2
          · rintro e W' ⟨hv, (⟨s, hs, hj⟩ | hj)⟩
            · exact ⟨hv, .inl ⟨s, by simpa using hs, hj⟩⟩
            · exact ⟨hv, .inr hj⟩
        case body =>
          intro ly s args s' W hr hst hsz
          obtain ⟨-, hs1, hs2, hs3, v, rfl, hm⟩ := hst
          have hs1 : s.1 < KP.length := by rw [List.length_map] at hs1; omega
          obtain ⟨x, hx⟩ : ∃ x, KP[s.1]? = some x := ⟨_, List.getElem?_eq_getElem hs1⟩
          have hge : (KP.map Prod.snd).getD (s.1 - 0) [] = x.2 := by
            rw [Nat.sub_zero, List.getD_eq_getElem?_getD, List.getElem?_map, hx]; rfl
          rw [hge] at hm
          obtain ⟨va2, vc2, rfl⟩ := hm.slice
          have HPUT := Lib.hid (fun (W2 : World) (hc : Calm Y.heap.size W W2) => NJ.put (by omega : N < Y.heap.size) hr hs2 hs1 hs3 hc)
          have HKR := Lib.hid hr
          have HM := Lib.hid hm
          have HX := Lib.hid hx
          refine ⟨rfl, ?_⟩
          clear hr hm hs3 hrel0 hs2 hge hx
          gi_wp2_with fail
          refine ⟨KeepsOthers.refl _, fun W₂ hc => ?_⟩
          obtain ⟨k1, -, k3, k4, -⟩ := HKR.out.calm hc
          have HEND := Lib.hid (HPUT.out W₂ hc)
          have hb2 := HHY.out.b.trans (k1.below (B := w.heap.size) HHY.out.b.size (fun j hj e => by omega))
          have hrow := ownsRow_only HHY.out.row k1 (fun j hj e => by have := HFT.out.2.1 j hj; omega)
          have hck := k1.cell (b := kc) (by omega) HCY.out.cell.1
          obtain ⟨g, hg, hgc, hgm, hcg⟩ := row_cell hrow s.1 x.1 (by rw [List.getElem?_map, HX.out]; rfl)
          subst hg
          have hbx := (HHY.out.txt x (List.mem_of_getElem? HX.out)).below hb2 (Nat.le_refl _)
          have hmx := (HM.out.calm hc).bytes
          have hkc2 : s.1 < kcp := by omega
          obtain ⟨sn, hsn⟩ : ∃ sn, sn = s.1 := ⟨_, rfl⟩
          rw [← hsn] at k3 hcg hkc2 hs1 HEND ⊢
          obtain ⟨x1, x2⟩ := x
          obtain ⟨xa, xc, hxv⟩ : ∃ a c, x1 = .slice a x2.length c := by obtain ⟨a, c, h, -⟩ := hbx; exact ⟨a, c, h⟩
          simp only at hxv hcg hbx hmx HEND
          subst hxv
          have q1 := run_bytes_str (P := Tryz.prog) (src := 34) (e := 5) (dst := 9) Tryz.underlying34 Tryz.underlying5 Tryz.underlying9 (hmx.below ((Below.refl _ W₂).drew) (Nat.le_refl _))
          have q2 := run_bytes_str (P := Tryz.prog) (src := 34) (e := 5) (dst := 9) Tryz.underlying34 Tryz.underlying5 Tryz.underlying9 (hbx.below ((Below.refl _ W₂).drew) (Nat.le_refl _))
          have hne : ((bstr x2).toList == (bstr x2).toList) = true := by simp
          have hnn : ((sn : Int) != (sn : Int)) = false := by simp
          have hge : decide ((KP.length : Int) ≤ (sn : Int)) = false := decide_eq_false (by omega)
          have hgn : decide (KP.length ≤ sn) = false := decide_eq_false (by omega)
          have hngn : ¬ KP.length ≤ sn := by omega
          have hsl : sn ≤ 40 := by omega
          clear hc k1 hb2 hrow hbx hmx HPUT HKR HM HX hsn
          gi_wp2_with fail
          refine region_mi [(0, false), (1, false), (2, false), (3, false), (4, false), (5, false), (6, false), (7, false), (8, false), (9, false), (10, false), (11, false), (12, false), (13, false), (14, false), (15, false), (16, false), (17, false), (18, false)] 19 (fun X => X.cell? ⟨N, 0, none⟩ = some (.int .i64 (sn : Int)) ∧ X.cell? ⟨kc, 0, none⟩ = some (.slice (some ⟨g, 0, none⟩) KP.length kcp) ∧ X.cell? ⟨g, sn, none⟩ = some (.slice xa x2.length xc) ∧ (convert 34 9 (.slice va2 x2.length vc2)).run Tryz.prog X = .ok (.string (bstr x2)) X ∧ (convert 34 9 (.slice xa x2.length xc)).run Tryz.prog X = .ok (.string (bstr x2)) X) (by kernel_rfl) (by kernel_rfl) ⟨k3, hck, hcg, q1, q2⟩ ?_
          iterate 19
            first
            | (refine m_take (v := ?_) rfl rfl ?_ ?_
               rotate_left
               · intro W hW
                 go_simp
                 with_reducible rfl
               simp only [Act.put, List.setIfInBounds_toArray, List.set_cons_zero, List.set_cons_succ])
            | (refine m_skip rfl rfl ?_
               simp only [Act.put, List.setIfInBounds_toArray, List.set_cons_zero, List.set_cons_succ])
          refine m_done ?_
          simp only [List.drop_succ_cons, List.drop_zero]
          go_wp2_with fail
          try simp only [NP]
          gi_wp2_with fail
          exact ⟨(KeepsOthers.setCell _ _ _).trans (KeepsOthers.drew _), HEND.out⟩
        case done =>
          intro D2 s W hD hs hr hK
          obtain ⟨h1, -, h3, -, h5⟩ := hr
          have hse : s.1 = KP.length := Nat.le_antisymm h5 hs
          rw [hse] at h3
          have hkw := HCY.out.only h1 (by omega) (fun j e => by omega)
          have hck := hkw.cell.1
          have hrc := hkw.rcl
          have hrz := hkw.rfz
          have HKW := Lib.hid hkw
          have HBW := Lib.hid (HHY.out.b.trans (h1.below (B := w.heap.size) HHY.out.b.size (fun j hj e => by omega)))
          have HK2 := Lib.hid hK
          have hee : ((KP.length : Int) == (KP.length : Int)) = true := by simp
          clear h1 h5 hs hse hkw hrel0 hK
          gi_wp2_with fail
          have hwR := HRE.out
          have k2 : (W.setCell ⟨R, 0, none⟩ (.bool true)).heap[D2]? = some (.deferred (some [])) := (heap_setCell_other W ⟨R, 0, none⟩ D2 _ (by simp; omega)).trans HK2.out
          refine ⟨by simp, .inl ⟨_, _, rfl, run_takeDeferred k2, ?_⟩⟩
          have hcal := Calm.putObj (B := w.heap.size) (.deferred none) (by omega) k2 rfl
          have hcc := hcal.cell (cell_set_same (.bool true) hrc)
          refine ⟨.bool true, ?_, rfl, (HBW.out.setCell (by simp; omega) _).trans hcal.below⟩
          simp [results, Tryz.results6, go_sem, hcc]
      · clear hlt
        have d1 : decide ((i : Int) < (xss.length : Int)) = true := decide_eq_true (by omega)
        have d2 : decide ((i : Int) < 40) = false := decide_eq_false (by omega)
        -- behind the appends, in the world wr
        gi_wp2_with (gi_at_call 18; refine (lall_calls (some ⟨l, 0, none⟩) 0 _).mono ?_; rintro e w4 ⟨rfl, rfl⟩)
        obtain ⟨Y, hY⟩ : ∃ Y, Y = ((wr.alloc (.cells #[.int .i64 0] 3)).alloc (.cells #[.pointer (some ⟨l, 0, none⟩)] 29)).alloc (.cells #[.int .i64 0] 3) := ⟨_, rfl⟩
        obtain ⟨N, hN⟩ : ∃ N, N = wr.heap.size := ⟨_, rfl⟩
        have hYs : Y.heap.size = N + 3 := by rw [hY, hN]; simp
        have hbY : Below wr.heap.size wr Y := by rw [hY]; exact (((Below.refl _ _).alloc (Nat.le_refl _) _).alloc (by simp) _).alloc (by simp; omega) _
        have hyn : Y.cell? ⟨N, 0, none⟩ = some (.int .i64 (0 : Nat)) ∧ Y.frozen? ⟨N, 0, none⟩ = false := by
          rw [hY, hN]
          refine ⟨?_, ?_⟩
          · rw [World.cell?_alloc_past _ _ _ (by simp; omega), World.cell?_alloc_past _ _ _ (by simp), World.cell?_alloc_at _ _ _ _ rfl]; rfl
          · rw [World.frozen?_alloc_past _ _ _ (by simp; omega), World.frozen?_alloc_past _ _ _ (by simp), World.frozen?_alloc_at _ _ _ _ rfl]
        have hyl : Y.cell? ⟨N + 1, 0, none⟩ = some (.pointer (some ⟨l, 0, none⟩)) := by
          rw [hY, hN, World.cell?_alloc_past _ _ _ (by simp), World.cell?_alloc_at _ _ _ _ (by simp)]; rfl
        have hyf : Y.cell? ⟨N + 1 + 1, 0, none⟩ = some (.int .i64 (0 : Nat)) := by
          rw [hY, hN, World.cell?_alloc_at _ _ _ _ (by simp)]; rfl
        have hNu : ¬ IsU8 Y N := by
          rintro ⟨cs, x, hx⟩
          rw [hY, hN, Below.heap_alloc _ _ _ (by simp; omega), Below.heap_alloc _ _ _ (by simp), World.alloc_heap_new] at hx
          simp only [Option.some.injEq, Obj.cells.injEq] at hx
          exact absurd hx.2.1 (by decide)
        rw [← hY, ← hN]
        have HHY := Lib.hid (HH.out.below hbY)
        have HCY := Lib.hid (HC.out.below hbY)
        have hfoot : ∀ j, ldFoot l L D j → j < N := fun j hj => by rw [hN]; exact (HH.out.ld.foot_lt hj).2
        have hkcN : kc < N := by rw [hN]; exact (Array.getElem?_eq_some_iff.1 HC.out.kcl).1
        have hRN : R < N := by omega
        have hrowN : ∀ j, (Value.slice ka KP.length kcp).ownBlock = some j → j < N := fun j hj => by rw [hN]; exact (World.ownsRow.lt HH.out.row j hj).2
        have HFT := Lib.hid (And.intro hfoot (And.intro hrowN hNu))
        have HYL := Lib.hid (And.intro hyl hyf)
        have hrel0 : NJ Y N KP.length (0, []) Y := ⟨Only.refl _ _, (fun p hp => by cases hp), hyn.1, hyn.2, Nat.zero_le _⟩
        have hwN : w.heap.size ≤ N := by rw [hN]; exact HH.out.b.size
        clear hY hbY hyn hyl hyf hNu hfoot hrowN hN HH HC
        refine range_w (gf := 40) (lb := #[.pointer (some ⟨N + 1, 0, none⟩), .pointer (some ⟨N + 1 + 1, 0, none⟩)]) rfl (fun args w => grow_enter Tryz.func40 (by kernel_rfl) rfl args w)
          (fun s W => NJ Y N KP.length s W) (fun _ _ => False) (LStep 0 (KP.map Prod.snd) Y.heap.size) (fun s => KP.length ≤ s.1) (0, [])
          (fun s W W' hc h => h.calm hc) (fun _ _ _ _ h => h) hrel0 ?iter ?body ?done (fun _ _ _ _ h => h.elim)
        case iter =>
          intro ly J' Jx' W hm _ hJJ hc hJ0 hy
          have hgl := HHY.out.gl
          refine (lall1_iter B l (N + 1) (N + 1 + 1) 0 0 Y.heap.size ly L (KP.map Prod.snd) J' Jx' W hgl.chain hgl.ents (by rw [List.length_map]; omega) (by have := hgl.cost; rw [List.length_map] at this; omega) (by omega) (fun s hs x hx => by have := hgl.small s hs x hx; omega) hm (fun s W2 hj => ?_) hy hJ0).mono ?_
          · obtain ⟨h1, h2, -⟩ := hJJ s W2 hj
            refine ⟨HHY.out.ld.log.only h1 (fun j hj hf => ?_) (fun j hj => ?_), h1.cell (by omega) HYL.out.1, h1.cell (by omega) HYL.out.2, h1.size, fun p hp => (h2 p hp).1⟩
            · have := HFT.out.1 j (.inl hf); omega
            · subst hj; exact HFT.out.2.2
          · rintro e W' ⟨hv, (⟨s, hs, hj⟩ | hj)⟩
            · exact ⟨hv, .inl ⟨s, by simpa using hs, hj⟩⟩
            · exact ⟨hv, .inr hj⟩
        case body =>
          intro ly s args s' W hr hst hsz
          obtain ⟨-, hs1, hs2, hs3, v, rfl, hm⟩ := hst
          have hs1 : s.1 < KP.length := by rw [List.length_map] at hs1; omega
          obtain ⟨x, hx⟩ : ∃ x, KP[s.1]? = some x := ⟨_, List.getElem?_eq_getElem hs1⟩
          have hge : (KP.map Prod.snd).getD (s.1 - 0) [] = x.2 := by
            rw [Nat.sub_zero, List.getD_eq_getElem?_getD, List.getElem?_map, hx]; rfl
          rw [hge] at hm
          obtain ⟨va2, vc2, rfl⟩ := hm.slice
          have HPUT := Lib.hid (fun (W2 : World) (hc : Calm Y.heap.size W W2) => NJ.put (by omega : N < Y.heap.size) hr hs2 hs1 hs3 hc)
          have HKR := Lib.hid hr
          have HM := Lib.hid hm
          have HX := Lib.hid hx
          refine ⟨rfl, ?_⟩
          clear hr hm hs3 hrel0 hs2 hge hx
          gi_wp2_with fail
          refine ⟨KeepsOthers.refl _, fun W₂ hc => ?_⟩
          obtain ⟨k1, -, k3, k4, -⟩ := HKR.out.calm hc
          have HEND := Lib.hid (HPUT.out W₂ hc)
          have hb2 := HHY.out.b.trans (k1.below (B := w.heap.size) HHY.out.b.size (fun j hj e => by omega))
          have hrow := ownsRow_only HHY.out.row k1 (fun j hj e => by have := HFT.out.2.1 j hj; omega)
          have hck := k1.cell (b := kc) (by omega) HCY.out.cell.1
          obtain ⟨g, hg, hgc, hgm, hcg⟩ := row_cell hrow s.1 x.1 (by rw [List.getElem?_map, HX.out]; rfl)
          subst hg
          have hbx := (HHY.out.txt x (List.mem_of_getElem? HX.out)).below hb2 (Nat.le_refl _)
          have hmx := (HM.out.calm hc).bytes
          have hkc2 : s.1 < kcp := by omega
          obtain ⟨sn, hsn⟩ : ∃ sn, sn = s.1 := ⟨_, rfl⟩
          rw [← hsn] at k3 hcg hkc2 hs1 HEND ⊢
          obtain ⟨x1, x2⟩ := x
          obtain ⟨xa, xc, hxv⟩ : ∃ a c, x1 = .slice a x2.length c := by obtain ⟨a, c, h, -⟩ := hbx; exact ⟨a, c, h⟩
          simp only at hxv hcg hbx hmx HEND
          subst hxv
          have q1 := run_bytes_str (P := Tryz.prog) (src := 34) (e := 5) (dst := 9) Tryz.underlying34 Tryz.underlying5 Tryz.underlying9 (hmx.below ((Below.refl _ W₂).drew) (Nat.le_refl _))
          have q2 := run_bytes_str (P := Tryz.prog) (src := 34) (e := 5) (dst := 9) Tryz.underlying34 Tryz.underlying5 Tryz.underlying9 (hbx.below ((Below.refl _ W₂).drew) (Nat.le_refl _))
          have hne : ((bstr x2).toList == (bstr x2).toList) = true := by simp
          have hnn : ((sn : Int) != (sn : Int)) = false := by simp
          have hge : decide ((KP.length : Int) ≤ (sn : Int)) = false := decide_eq_false (by omega)
          have hgn : decide (KP.length ≤ sn) = false := decide_eq_false (by omega)
          have hngn : ¬ KP.length ≤ sn := by omega
          have hsl : sn ≤ 40 := by omega
          clear hc k1 hb2 hrow hbx hmx HPUT HKR HM HX hsn
          gi_wp2_with fail
          refine region_mi [(0, false), (1, false), (2, false), (3, false), (4, false), (5, false), (6, false), (7, false), (8, false), (9, false), (10, false), (11, false), (12, false), (13, false), (14, false), (15, false), (16, false), (17, false), (18, false)] 19 (fun X => X.cell? ⟨N, 0, none⟩ = some (.int .i64 (sn : Int)) ∧ X.cell? ⟨kc, 0, none⟩ = some (.slice (some ⟨g, 0, none⟩) KP.length kcp) ∧ X.cell? ⟨g, sn, none⟩ = some (.slice xa x2.length xc) ∧ (convert 34 9 (.slice va2 x2.length vc2)).run Tryz.prog X = .ok (.string (bstr x2)) X ∧ (convert 34 9 (.slice xa x2.length xc)).run Tryz.prog X = .ok (.string (bstr x2)) X) (by kernel_rfl) (by kernel_rfl) ⟨k3, hck, hcg, q1, q2⟩ ?_
          iterate 19
            first
            | (refine m_take (v := ?_) rfl rfl ?_ ?_
               rotate_left
               · intro W hW
                 go_simp
                 with_reducible rfl
               simp only [Act.put, List.setIfInBounds_toArray, List.set_cons_zero, List.set_cons_succ])
            | (refine m_skip rfl rfl ?_
               simp only [Act.put, List.setIfInBounds_toArray, List.set_cons_zero, List.set_cons_succ])
          refine m_done ?_
          simp only [List.drop_succ_cons, List.drop_zero]
          go_wp2_with fail
          try simp only [NP]
          gi_wp2_with fail
          exact ⟨(KeepsOthers.setCell _ _ _).trans (KeepsOthers.drew _), HEND.out⟩
        case done =>
          intro D2 s W hD hs hr hK
          obtain ⟨h1, -, h3, -, h5⟩ := hr
          have hse : s.1 = KP.length := Nat.le_antisymm h5 hs
          rw [hse] at h3
          have hkw := HCY.out.only h1 (by omega) (fun j e => by omega)
          have hck := hkw.cell.1
          have hrc := hkw.rcl
          have hrz := hkw.rfz
          have HKW := Lib.hid hkw
          have HBW := Lib.hid (HHY.out.b.trans (h1.below (B := w.heap.size) HHY.out.b.size (fun j hj e => by omega)))
          have HK2 := Lib.hid hK
          have hee : ((KP.length : Int) == (KP.length : Int)) = true := by simp
          clear h1 h5 hs hse hkw hrel0 hK
          gi_wp2_with fail
          have hwR := HRE.out
          have k2 : (W.setCell ⟨R, 0, none⟩ (.bool true)).heap[D2]? = some (.deferred (some [])) := (heap_setCell_other W ⟨R, 0, none⟩ D2 _ (by simp; omega)).trans HK2.out
          refine ⟨by simp, .inl ⟨_, _, rfl, run_takeDeferred k2, ?_⟩⟩
          have hcal := Calm.putObj (B := w.heap.size) (.deferred none) (by omega) k2 rfl
          have hcc := hcal.cell (cell_set_same (.bool true) hrc)
          refine ⟨.bool true, ?_, rfl, (HBW.out.setCell (by simp; omega) _).trans hcal.below⟩
          simp [results, Tryz.results6, go_sem, hcc]
end Go.Proofs.YtcckoppbophidaaGreatDoor
