/- Walks and plain laws of the chapter, laid together; each part says what it proves. -/
import Derived.Maps.RangeRun
import Derived.Maps.RangeWalk
import Derived.Maps.OwnOps
import Derived.Maps.OwnSet
import Derived.Lib.AppendStr
import Derived.Deep.CutRange
import Derived.Deep.CutBlock
import Derived.WalkMore
import Derived.Laws.EntriesVeiled
import Derived.Lib.ConvBytes
import Derived.Laws.AppendOwn
import Derived.WideMake
import Derived.Test.YtmafnjidhjabgaaPkA
namespace Go.Proofs.Ytmafnjidhjabgaa
open Go.RowKit
set_option linter.unusedVariables false
theorem grown_drew {w w' : World} {r : Option Nat} (h : w.drew.grownBy w' r) : w.grownBy w' r := ⟨h.os, h.tape, h.output, h.size, h.block⟩
theorem own_setCells_past {base g n cap sz : Nat} {e : TypeId} {xs : List Value} : ∀ (vs : List Value) (o : Nat) (w : World), w.ownsRow base e sz (.slice (some ⟨g, 0, none⟩) n cap) n xs → xs.length ≤ o →
  (w.setCells g o vs).ownsRow base e sz (.slice (some ⟨g, 0, none⟩) n cap) n xs ∧ w.grownBy (w.setCells g o vs) (some g)
 | [], _, _, h, _ => ⟨h, ⟨rfl, rfl, rfl, Nat.le_refl _, fun _ _ _ => rfl⟩⟩
 | v :: r, o, w, h, ho => by
  have h1 := World.ownsRow.stored h o v
  rw [List.set_eq_of_length_le ho] at h1
  have h2 := own_setCells_past r (o + 1) _ h1.1 (by omega)
  exact ⟨h2.1, h1.2.trans h2.2⟩
theorem own_there {w : World} {base g n cap sz : Nat} {e : TypeId} {xs : List Value} (h : w.ownsRow base e sz (.slice (some ⟨g, 0, none⟩) n cap) n xs) (j : Nat) (hj : j < cap * sz) : (w.cell? ⟨g, j, none⟩).isSome = true := by
 rcases h.2 with ⟨h', _⟩ | ⟨g', cap', cur, h', _, hg, _, _, hcs, _⟩
 · simp at h'
 ·
  simp only [Value.slice.injEq, Option.some.injEq, Addr.mk.injEq, and_true, true_and] at h'
  obtain ⟨rfl, rfl⟩ := h'
  simp only [World.cell?, hg]
  simp [hcs, hj]
theorem run_clear_tail {P : Program} {w : World} {t e ty : TypeId} {z : Value} {sz bytes base g n m c cap : Nat} {xs : List Value} (T : STy P t e z sz bytes) (hv : ∀ w, (zeroValue e).run P w = .ok z w) (h1 : ∀ u ∈ z.cells.toList, u.oneCell' = true)
  (hown : w.ownsRow base e sz (.slice (some ⟨g, 0, none⟩) n cap) n xs) (hm : n + m ≤ cap) (hm0 : 0 < m) :
  ∃ w', (Builtin.clear_ #[t] ty #[.slice (some ⟨g, n * sz, none⟩) m c]).run P w = .ok (.tuple #[]) w' ∧ w'.ownsRow base e sz (.slice (some ⟨g, 0, none⟩) n cap) n xs ∧ w.grownBy w' (some g) := by
 have hl : (Builtin.zeroCells z.cells m).toList.length = m * sz := by simp [Builtin.zeroCells, T.hz]
 have hz1 : ∀ u ∈ (Builtin.zeroCells z.cells m).toList, u.oneCell' = true := by
  intro u hu
  simp only [Builtin.zeroCells, Array.toList_map, Array.toList_range, List.mem_map, List.mem_range] at hu
  obtain ⟨i, hi, rfl⟩ := hu
  have hpos := T.pos
  have hzs := T.hz
  have hlt : i % z.cells.size < z.cells.size := Nat.mod_lt _ (by omega)
  rw [getElem!_pos z.cells _ hlt]
  exact h1 _ (by simp)
 have hle : n * sz + m * sz ≤ cap * sz := by rw [← Nat.add_mul]; exact Nat.mul_le_mul_right _ hm
 have hst := run_storeCells_cells (P := P) g (n * sz) (Builtin.zeroCells z.cells m).toList 0 w (fun j hj => own_there hown _ (by omega)) (fun j _ => World.ownsRow.frozenAt hown _) hz1
 have hp := own_setCells_past (Builtin.zeroCells z.cells m).toList (n * sz) w hown (by rw [hown.1]; exact Nat.le_refl _)
 obtain ⟨m', rfl⟩ : ∃ m', m = m' + 1 := ⟨m - 1, by omega⟩
 refine ⟨_, ?_, hp.1, hp.2⟩
 simp only [Nat.add_zero] at hst
 simp [Builtin.clear_, run_underlying T.ht, hv, hst]
section
variable {α : Type} {f : α → List Value} {k : Nat}
theorem writeL_flat (hk : ∀ a, (f a).length = k) : ∀ (es : List α) (i : Nat) (x : α), i < es.length → writeL (flatF f es) (i * k) (f x) = flatF f (es.set i x) := by
 intro es i x hi
 have hl := flatF_length hk es
 have hle : i * k + k ≤ es.length * k := by have := Nat.mul_le_mul_right k (show i + 1 ≤ es.length by omega); rw [Nat.add_mul] at this; omega
 rw [writeL_eq _ _ _ (by rw [hk, hl]; omega), hk, flatF_take hk es i (by omega), show i * k + k = (i + 1) * k by rw [Nat.add_mul]; omega, flatF_drop hk es (i + 1) (by omega)]
 rw [List.set_eq_take_append_cons_drop, if_pos hi, flatF_append]
 simp [flatF]
def keepTo (st : α → Bool) (es : List α) (j : Nat) : List α := (es.take j).filter st
theorem keepTo_no {st : α → Bool} {es : List α} {j : Nat} (hj : j < es.length) (hs : st es[j] = false) : keepTo st es (j + 1) = keepTo st es j := by
 unfold keepTo
 rw [List.take_succ_eq_append_getElem hj, List.filter_append]
 simp [hs]
theorem keepTo_yes {st : α → Bool} {es : List α} {j : Nat} (hj : j < es.length) (hs : st es[j] = true) : keepTo st es (j + 1) = keepTo st es j ++ [es[j]] := by
 unfold keepTo
 rw [List.take_succ_eq_append_getElem hj, List.filter_append]
 simp [hs]
theorem keepTo_end (st : α → Bool) (es : List α) : keepTo st es es.length = es.filter st := by unfold keepTo; rw [List.take_length]
structure Closed (f : α → List Value) (k : Nat) (w wr : World) (base g cap : Nat) (e : TypeId) (st : α → Bool) (es : List α) (i j : Nat) (xs : List α) : Prop where
 own : wr.ownsRow base e k (.slice (some ⟨g, 0, none⟩) es.length cap) es.length (flatF f xs)
 len : xs.length = es.length
 front : xs.take i = keepTo st es j
 back : xs.drop j = es.drop j
 ilen : i = (keepTo st es j).length
 lt : i < j
 le : j ≤ es.length
 only : Only (fun b => some g = some b) w wr
variable {w wr w' : World} {base g cap : Nat} {e : TypeId} {st : α → Bool} {es xs : List α} {i j : Nat}
theorem Closed.below (h : Closed f k w wr base g cap e st es i j xs) (hb : Below wr.heap.size wr w') : Closed f k w w' base g cap e st es i j xs :=
 ⟨ownsRow_below h.own hb (Nat.le_refl _), h.len, h.front, h.back, h.ilen, h.lt, h.le, h.only.trans (Only.of_below (S := fun _ => False) hb) (fun _ _ h => h.elim)⟩
theorem Closed.skip (h : Closed f k w wr base g cap e st es i j xs) (hj : j < es.length) (hs : st es[j] = false) : Closed f k w wr base g cap e st es i (j + 1) xs := by
 have e := keepTo_no hj hs
 refine ⟨h.own, h.len, h.front.trans e.symm, ?_, by rw [e]; exact h.ilen, by have := h.lt; omega, hj, h.only⟩
 rw [← List.drop_drop, ← List.drop_drop, h.back]
theorem Closed.keep (hk : ∀ a, (f a).length = k) (h : Closed f k w wr base g cap e st es i j xs) (hj : j < es.length) (hs : st es[j] = true) :
  Closed f k w (wr.setCells g (i * k) (f es[j])) base g cap e st es (i + 1) (j + 1) (xs.set i es[j]) := by
 have e := keepTo_yes hj hs
 have hlt := h.lt
 have hil : i < xs.length := by rw [h.len]; omega
 have o := own_write (f es[j]) (i * k) wr _ h.own
 rw [writeL_flat hk xs i _ hil] at o
 refine ⟨o.1, by rw [List.length_set]; exact h.len, ?_, ?_, ?_, by omega, hj, h.only.trans (Only.of_grown o.2) (fun _ _ h => h)⟩
 ·
  rw [e, ← h.front, List.take_set, List.take_succ_eq_append_getElem hil, List.set_append_right _ _ (by rw [List.length_take]; omega)]
  have : i - (xs.take i).length = 0 := by rw [List.length_take]; omega
  rw [this]
  rfl
 · rw [List.drop_set_of_lt (by omega), ← List.drop_drop, ← List.drop_drop, h.back]
 · rw [e, List.length_append, ← h.ilen]; rfl
theorem Closed.at (hk : ∀ a, (f a).length = k) (h : Closed f k w wr base g cap e st es i j xs) (hj : j < es.length) (r : Nat) (u : Value) (hr : r < k) (hu : (f es[j])[r]? = some u) : wr.cell? ⟨g, j * k + r, none⟩ = some u := by
 have hl := h.len
 have hx : xs[j]'(by omega) = es[j] := by
  have h1 : (xs.drop j)[0]? = (es.drop j)[0]? := by rw [h.back]
  rw [List.getElem?_drop, List.getElem?_drop, Nat.add_zero, List.getElem?_eq_getElem (by omega), List.getElem?_eq_getElem hj] at h1
  exact Option.some.inj h1
 have := World.ownsRow.cells h.own (g := g) rfl (j * k + r) u (by rw [flatF_get hk xs j r (by omega) hr, hx]; exact hu)
 rwa [add_off, Nat.zero_add] at this
theorem Closed.slot (h : Closed f k w wr base g cap e st es i j xs) (r : Nat) (hr : r < k) : ∃ u, wr.cell? ⟨g, i * k + r, none⟩ = some u := by
 have hlt := h.lt
 have hle := h.le
 have hc : es.length ≤ cap := by
  rcases h.own.2 with ⟨h', -⟩ | ⟨g', c', cur, h', -, -, hn, -⟩
  · simp at h'
  ·
   simp only [Value.slice.injEq, Option.some.injEq, Addr.mk.injEq, and_true, true_and] at h'
   rw [h'.2]; exact hn
 have hm : i * k + r < cap * k := by
  have := Nat.mul_le_mul_right k (show i + 1 ≤ cap by omega)
  rw [Nat.add_mul] at this
  omega
 have := own_there h.own (i * k + r) hm
 exact Option.isSome_iff_exists.1 this
theorem Closed.frz (h : Closed f k w wr base g cap e st es i j xs) (o : Nat) : wr.frozen? ⟨g, o, none⟩ = false := World.ownsRow.frozenAt h.own o
theorem Closed.start (hi : i < es.length) (hs : st es[i] = false) (hb : ∀ r ∈ es.take i, st r = true) (ho : wr.ownsRow base e k (.slice (some ⟨g, 0, none⟩) es.length cap) es.length (flatF f es)) (hon : Only (fun b => some g = some b) w wr) : Closed f k w wr base g cap e st es i (i + 1) es := by
 have e0 : keepTo st es i = es.take i := List.filter_eq_self.2 hb
 have e := (keepTo_no hi hs).trans e0
 refine ⟨ho, rfl, e.symm, rfl, ?_, by omega, hi, hon⟩
 rw [e, List.length_take]
 omega
theorem Closed.done {P : Program} {t : TypeId} {z : Value} {bytes : Nat} (T : STy P t e z k bytes) (hk : ∀ a, (f a).length = k) (hv : ∀ w, (zeroValue e).run P w = .ok z w) (h1 : ∀ u ∈ z.cells.toList, u.oneCell' = true) (h : Closed f k w wr base g cap e st es i es.length xs) :
  ∃ w', (∀ ty, (Builtin.clear_ #[t] ty #[.slice (some ⟨g, i * k, none⟩) (es.length - i) (cap - i)]).run P wr = .ok (.tuple #[]) w') ∧ w'.ownsRow base e k (.slice (some ⟨g, 0, none⟩) (es.filter st).length cap) (es.filter st).length (flatF f (es.filter st)) ∧ i = (es.filter st).length ∧ i < es.length ∧ es.length ≤ cap ∧ Only (fun b => some g = some b) w w' := by
 have hil := h.ilen
 have hfr := h.front
 rw [keepTo_end] at hil hfr
 have hlt := h.lt
 have hown := h.own
 have hcap : es.length ≤ cap := by
  rcases hown.2 with ⟨h', -⟩ | ⟨g', c', cur, h', -, -, hn, -⟩
  · simp at h'
  ·
   simp only [Value.slice.injEq, Option.some.injEq, Addr.mk.injEq, and_true, true_and] at h'
   rw [h'.2]; exact hn
 obtain ⟨d, hd⟩ : ∃ d, es.length = i + d := ⟨es.length - i, by omega⟩
 have hsp := hown
 rw [hd] at hsp
 have htd : flatF f xs = flatF f (xs.take i) ++ flatF f (xs.drop i) := by rw [← flatF_append, List.take_append_drop]
 rw [htd] at hsp
 have hpre := own_prefix (n := i) (m := d) hsp (by rw [flatF_length hk, List.length_take, h.len]; congr 1; omega)
 rw [hfr] at hpre
 obtain ⟨w3, hrun, ho3, hg3⟩ := run_clear_tail (P := P) (t := t) (ty := 0) (m := d) (c := cap - i) T hv h1 hpre (by omega) (by omega)
 refine ⟨w3, fun ty => ?_, by rw [← hil]; exact ho3, hil, hlt, hcap, h.only.trans (Only.of_grown hg3) (fun j _ h => h)⟩
 rw [show es.length - i = d by omega]
 exact hrun
end
end Go.Proofs.Ytmafnjidhjabgaa
namespace Go.Proofs.Ytmafnjidhjabgaa
open Go.RowKit Go.MapKept
open Go.ChangeMaps (setBlock heap_setBlock_same heap_setBlock_other)
set_option linter.unusedVariables false
def mget {α : Type} : List (ByteArray × α) → ByteArray → Option α
 | [], _ => none
 | p :: m, k => if k = p.1 then some p.2 else mget m k
def mput {α : Type} : List (ByteArray × α) → ByteArray → α → List (ByteArray × α)
 | [], k, v => [(k, v)]
 | p :: m, k, v => if k = p.1 then (k, v) :: m else p :: mput m k v
def mdel {α : Type} : List (ByteArray × α) → ByteArray → List (ByteArray × α)
 | [], _ => []
 | p :: m, k => if k = p.1 then m else p :: mdel m k
abbrev Ents := List (ByteArray × Value)
section
variable {α β : Type}
def mmap (f : α → β) (m : List (ByteArray × α)) : List (ByteArray × β) := m.map fun p => (p.1, f p.2)
theorem mget_map (f : α → β) : ∀ (m : List (ByteArray × α)) (k : ByteArray), mget (mmap f m) k = (mget m k).map f
 | [], _ => rfl
 | p :: m, k => by
  show (if k = p.1 then some (f p.2) else mget (mmap f m) k) = Option.map f (if k = p.1 then some p.2 else mget m k)
  split
  · rfl
  · exact mget_map f m k
theorem mput_map (f : α → β) (k : ByteArray) (v : α) : ∀ (m : List (ByteArray × α)), mput (mmap f m) k (f v) = mmap f (mput m k v)
 | [] => rfl
 | p :: m => by
  show (if k = p.1 then (k, f v) :: mmap f m else (p.1, f p.2) :: mput (mmap f m) k (f v)) = mmap f (if k = p.1 then (k, v) :: m else p :: mput m k v)
  split
  · rfl
  · rw [mput_map f k v m]; rfl
theorem mdel_map (f : α → β) (k : ByteArray) : ∀ (m : List (ByteArray × α)), mdel (mmap f m) k = mmap f (mdel m k)
 | [] => rfl
 | p :: m => by
  show (if k = p.1 then mmap f m else (p.1, f p.2) :: mdel (mmap f m) k) = mmap f (if k = p.1 then m else p :: mdel m k)
  split
  · rfl
  · rw [mdel_map f k m]; rfl
theorem mget_mem : ∀ {m : List (ByteArray × α)} {k : ByteArray} {v : α}, mget m k = some v → (k, v) ∈ m
 | [], _, _, h => by cases h
 | p :: m, k, v, h => by
  unfold mget at h
  split at h
  ·
   rename_i e
   subst e
   cases h
   exact List.mem_cons_self
  · exact List.mem_cons_of_mem _ (mget_mem h)
theorem mget_none {k : ByteArray} : ∀ {m : List (ByteArray × α)}, mget m k = none ↔ k ∉ m.map (·.1)
 | [] => by simp [mget]
 | p :: m => by
  unfold mget
  split
  ·
   rename_i e
   simp [e]
  ·
   rename_i e
   rw [mget_none (m := m)]
   simp [e]
theorem mget_some {k : ByteArray} {m : List (ByteArray × α)} : (mget m k).isSome = true ↔ k ∈ m.map (·.1) := by
 have h := mget_none (k := k) (m := m)
 cases e : mget m k with
 | none => simp [h.1 e]
 | some v =>
  refine ⟨fun _ => ?_, fun _ => rfl⟩
  by_cases hk : k ∈ m.map (·.1)
  · exact hk
  ·
   rw [h.2 hk] at e
   cases e
theorem mget_put_same (k : ByteArray) (v : α) : ∀ (m : List (ByteArray × α)), mget (mput m k v) k = some v
 | [] => by simp [mput, mget]
 | p :: m => by
  unfold mput
  split
  · simp [mget]
  ·
   rename_i e
   simp [mget, e, mget_put_same k v m]
theorem mget_put_other {k k' : ByteArray} (h : k' ≠ k) (v : α) : ∀ (m : List (ByteArray × α)), mget (mput m k v) k' = mget m k'
 | [] => by simp [mput, mget, h]
 | p :: m => by
  unfold mput
  split
  ·
   rename_i e
   subst e
   simp [mget, h]
  · simp only [mget, mget_put_other h v m]
theorem mput_keys {k : ByteArray} {v : α} : ∀ {m : List (ByteArray × α)}, (mput m k v).map (·.1) = if (mget m k).isSome then m.map (·.1) else m.map (·.1) ++ [k]
 | [] => rfl
 | p :: m => by
  unfold mput mget
  by_cases e : k = p.1
  · simp [e]
  ·
   rw [if_neg e, if_neg e, List.map_cons, mput_keys (m := m)]
   split <;> rfl
theorem mput_nodup {k : ByteArray} {v : α} {m : List (ByteArray × α)} (h : (m.map (·.1)).Nodup) : ((mput m k v).map (·.1)).Nodup := by
 rw [mput_keys]
 split
 · exact h
 ·
  rename_i hk
  rw [mget_some] at hk
  exact List.nodup_append.2 ⟨h, by simp, fun a ha b hb => by rw [List.mem_singleton.1 hb]; rintro rfl; exact hk ha⟩
theorem mdel_sub {k : ByteArray} : ∀ {m : List (ByteArray × α)}, (mdel m k).Sublist m
 | [] => List.Sublist.refl _
 | p :: m => by
  unfold mdel
  split
  · exact List.sublist_cons_self _ _
  · exact (mdel_sub (m := m)).cons_cons p
theorem mdel_nodup {k : ByteArray} {m : List (ByteArray × α)} (h : (m.map (·.1)).Nodup) : ((mdel m k).map (·.1)).Nodup := h.sublist (mdel_sub.map _)
theorem mget_del_same (k : ByteArray) : ∀ (m : List (ByteArray × α)), (m.map (·.1)).Nodup → mget (mdel m k) k = none
 | [], _ => rfl
 | p :: m, h => by
  unfold mdel
  simp only [List.map_cons, List.nodup_cons] at h
  split
  ·
   rename_i e
   exact mget_none.2 (by rw [e]; exact h.1)
  ·
   rename_i e
   simp [mget, e, mget_del_same k m h.2]
theorem mget_del_other {k k' : ByteArray} (h : k' ≠ k) : ∀ (m : List (ByteArray × α)), mget (mdel m k) k' = mget m k'
 | [] => rfl
 | p :: m => by
  unfold mdel
  split
  ·
   rename_i e
   subst e
   simp [mget, h]
  · simp only [mget, mget_del_other h m]
theorem mput_mem {k : ByteArray} {v : α} {p : ByteArray × α} : ∀ {m : List (ByteArray × α)}, p ∈ mput m k v → p = (k, v) ∨ p ∈ m
 | [], h => by simp only [mput, List.mem_singleton] at h; exact .inl h
 | q :: m, h => by
  unfold mput at h
  split at h
  ·
   rcases List.mem_cons.1 h with h | h
   · exact .inl h
   · exact .inr (List.mem_cons_of_mem _ h)
  ·
   rcases List.mem_cons.1 h with h | h
   · exact .inr (h ▸ List.mem_cons_self)
   ·
    rcases mput_mem h with h | h
    · exact .inl h
    · exact .inr (List.mem_cons_of_mem _ h)
end
def kvE (e : MapEntry) : Value × Value := (e.key, e.val)
def svP (p : ByteArray × Value) : Value × Value := (.string p.1, p.2)
structure MapAt (w : World) (r : Nat) (m : Ents) (es : Array MapEntry) (clock : Nat) : Prop where
 at_ : w.heap[r]? = some (.map es clock)
 eq : es.toList.map kvE = m.map svP
 st : Stamped es clock
def MapIs (w : World) (r : Nat) (m : Ents) : Prop := ∃ es clock, MapAt w r m es clock
theorem MapIs.lt {w : World} {r : Nat} {m : Ents} (h : MapIs w r m) : r < w.heap.size := by
 obtain ⟨es, c, h⟩ := h
 exact (Array.getElem?_eq_some_iff.1 h.at_).1
theorem MapIs.same {w w' : World} {r : Nat} {m : Ents} (h : MapIs w r m) (hb : w'.heap[r]? = w.heap[r]?) : MapIs w' r m := by
 obtain ⟨es, c, h⟩ := h
 exact ⟨es, c, hb.trans h.at_, h.eq, h.st⟩
theorem MapIs.only {S : Nat → Prop} {w w' : World} {r : Nat} {m : Ents} (h : MapIs w r m) (ho : Only S w w') (hS : ¬ S r) : MapIs w' r m := h.same (ho.block r h.lt hS)
theorem MapIs.below {w w' : World} {r : Nat} {m : Ents} (h : MapIs w r m) (hb : Below w.heap.size w w') : MapIs w' r m := h.same (hb.block r h.lt)
theorem MapIs.made (w : World) : MapIs (w.alloc (.map #[] 0)) w.heap.size [] := ⟨#[], 0, World.alloc_heap_new w _, by simp, stamped_empty 0⟩
theorem MapIs.cell {w : World} {r : Nat} {m : Ents} (h : MapIs w r m) (cs : Array Value) (e : TypeId) (x : Nat × Nat) : w.heap[r]? ≠ some (.cells cs e x) := by
 obtain ⟨es, c, h⟩ := h
 rw [h.at_]
 simp
theorem sameNow_str (a b : ByteArray) : Instr.sameNow .string (.string a) (.string b) = some (a == b) := rfl
theorem find_ents (k : ByteArray) : ∀ (l : List MapEntry) (m : Ents) (i : Nat), l.map kvE = m.map svP →
  ∃ r, Instr.findNow .string (.string k) l i = some r ∧
   (
    (r = none ∧ mget m k = none ∧ (∀ v, mput m k v = m ++ [(k, v)]) ∧ mdel m k = m ∧ ∀ x ∈ l, x.key ≠ .string k) ∨
    ∃ j e, r = some (i + j, e.val) ∧ l[j]? = some e ∧ e.key = .string k ∧ mget m k = some e.val ∧ (∀ v, mput m k v = m.set j (k, v)) ∧ mdel m k = m.eraseIdx j)
 | [], m, i, h => by
  have : m = [] := by cases m <;> simp_all
  subst this
  exact ⟨none, rfl, .inl ⟨rfl, rfl, fun v => rfl, rfl, by simp⟩⟩
 | e :: l, m, i, h => by
  cases m with
  | nil => simp at h
  | cons p m =>
   simp only [List.map_cons, List.cons.injEq] at h
   obtain ⟨h0, h1⟩ := h
   have hk : e.key = .string p.1 := congrArg Prod.fst h0
   have hv : e.val = p.2 := congrArg Prod.snd h0
   unfold Instr.findNow
   rw [hk, sameNow_str]
   by_cases hkp : k = p.1
   ·
     subst hkp
     have : (p.1 == p.1) = true := (bytes_beq _ _).2 rfl
     simp only [this]
     refine ⟨_, rfl, .inr ⟨0, e, by simp, rfl, hk, by simp [mget, hv], fun v => by simp [mput], by simp [mdel]⟩⟩
   ·
     have : (k == p.1) = false := by
      rw [Bool.eq_false_iff]
      exact fun h => hkp ((bytes_beq _ _).1 h)
     simp only [this]
     obtain ⟨r, hr, hc⟩ := find_ents k l m (i + 1) h1
     refine ⟨r, hr, ?_⟩
     rcases hc with ⟨rfl, g1, g2, g3, g4⟩ | ⟨j, e', rfl, g1, g2, g3, g4, g5⟩
     ·
      refine .inl ⟨rfl, by simp [mget, hkp, g1], fun v => by simp [mput, hkp, g2], by simp [mdel, hkp, g3], ?_⟩
      intro x hx
      rcases List.mem_cons.1 hx with rfl | hx
      ·
       rw [hk]
       intro e
       cases e
       exact hkp rfl
      · exact g4 x hx
     · exact .inr ⟨j + 1, e', by simp; omega, by simpa using g1, g2, by simp [mget, hkp, g3], fun v => by simp [mput, hkp, g4], by simp [mdel, hkp, g5]⟩
section
variable {P : Program} {w : World} {r : Nat} {m : Ents} {t kt et : TypeId}
theorem MapIs.look (h : MapIs w r m) (ht : P.underlying t = some (.map kt et)) (hk : P.underlying kt = some .string) {z : Value} (hz : ∀ w, (zeroValue et).run P w = .ok z w) (k : ByteArray) (c : Bool) :
  (Instr.lookup t (.map (some r)) (.string k) c).run P w = .ok (if c then .tuple #[(mget m k).getD z, .bool (mget m k).isSome] else (mget m k).getD z) w := by
 obtain ⟨es, clock, h⟩ := h
 obtain ⟨q, hf, hc⟩ := find_ents k es.toList m 0 h.eq
 have hck : (Instr.checkKey es.isEmpty 10000 kt (.string k)).run P w = .ok () w := Go.MapKept.run_checkKey (k := .string k) hk (by simp [IsKey]) _ 9999
 have hfk : (Instr.findKey kt (.string k) es.toList).run P w = .ok q w := Go.MapKept.run_findKey hk hf
 rcases hc with ⟨rfl, h1, -⟩ | ⟨j, e, rfl, -, -, h1, -⟩
 · simp [Instr.lookup, run_underlying ht, Go.MapKept.run_getObj_map h.at_, hck, hfk, Result.andThen, h1, hz]
 · simp [Instr.lookup, run_underlying ht, Go.MapKept.run_getObj_map h.at_, hck, hfk, Result.andThen, h1]
theorem setBlock_grown (hb : ∃ es clock, w.heap[r]? = some (.map es clock)) (o : Obj) : w.grownBy (setBlock w r o) (some r) := by
 obtain ⟨es, clock, hb⟩ := hb
 exact ⟨rfl, rfl, rfl, by simp [setBlock], fun i _ hi => heap_setBlock_other hb _ (fun e => hi (by rw [e]))⟩
theorem MapIs.upd (h : MapIs w r m) (ht : P.underlying t = some (.map kt et)) (hk : P.underlying kt = some .string) (k : ByteArray) (v : Value) :
  ∃ w', (Instr.mapUpdate t (.map (some r)) (.string k) v).run P w = .ok () w' ∧ MapIs w' r (mput m k v) ∧ w.grownBy w' (some r) ∧ w'.heap.size = w.heap.size := by
 obtain ⟨es, clock, h⟩ := h
 obtain ⟨q, hf, hc⟩ := find_ents k es.toList m 0 h.eq
 have hck : (Instr.checkKey false 10000 kt (.string k)).run P w = .ok () w := Go.MapKept.run_checkKey (k := .string k) hk (by simp [IsKey]) _ 9999
 have hfk : (Instr.findKey kt (.string k) es.toList).run P w = .ok q w := Go.MapKept.run_findKey hk hf
 rcases hc with ⟨rfl, -, h1, -, h2⟩ | ⟨j, e, rfl, g1, g2, -, g3, -⟩
 ·
  refine ⟨setBlock w r (.map (es.push { key := .string k, val := v, born := clock }) (clock + 1)), ?_, ⟨_, _, heap_setBlock_same h.at_ _, ?_, stamped_push h.st h2⟩, setBlock_grown ⟨_, _, h.at_⟩ _, by simp [setBlock]⟩
  · simp [Instr.mapUpdate, run_underlying ht, Go.MapKept.run_getObj_map h.at_, hck, hfk, Go.MapKept.run_setObj_map _ h.at_, Result.andThen, setBlock]
  ·
   rw [h1]
   simp [h.eq, kvE, svP]
 ·
  have g1' : es[j]? = some e := by simpa using g1
  have hks : (Instr.keyThatStays e.key (.string k)).run P w = .ok (.string k) w := by rw [g2]; exact run_keyThatStays (d := .string) (by simp [IsKey])
  refine ⟨setBlock w r (.map (es.modify j fun e => { e with key := .string k, val := v }) clock), ?_, ⟨_, _, heap_setBlock_same h.at_ _, ?_, ?_⟩, setBlock_grown ⟨_, _, h.at_⟩ _, by simp [setBlock]⟩
  · simp [Instr.mapUpdate, run_underlying ht, Go.MapKept.run_getObj_map h.at_, hck, hfk, Go.MapKept.run_setObj_map _ h.at_, Result.andThen, setBlock, g1', hks]
  ·
   rw [g3]
   have e1 : (m.set j (k, v)).map svP = (m.map svP).set j (.string k, v) := by simp [List.map_set, svP]
   rw [e1, ← h.eq]
   apply List.ext_getElem?
   intro i
   simp only [List.getElem?_map, Array.getElem?_toList, Array.getElem?_modify, List.getElem?_set, List.length_map, Array.length_toList]
   by_cases hij : j = i
   ·
    subst hij
    have hlt := (Array.getElem?_eq_some_iff.1 g1').1
    rw [g1']
    simp [kvE, hlt]
   · simp [hij]
  · exact stamped_modify h.st j _ (fun e _ => rfl) (fun e' he he' => by rw [g1'] at he'; cases he'; exact g2.symm)
theorem MapIs.del (h : MapIs w r m) (ht : P.underlying t = some (.map kt et)) (hk : P.underlying kt = some .string) (k : ByteArray) (ty : TypeId) :
  ∃ w', (Builtin.delete_ #[t, kt] ty #[.map (some r), .string k]).run P w = .ok (.tuple #[]) w' ∧ MapIs w' r (mdel m k) ∧ w.grownBy w' (some r) ∧ w'.heap.size = w.heap.size := by
 obtain ⟨es, clock, h⟩ := h
 obtain ⟨q, hf, hc⟩ := find_ents k es.toList m 0 h.eq
 have hck : (Instr.checkKey es.isEmpty 10000 kt (.string k)).run P w = .ok () w := Go.MapKept.run_checkKey (k := .string k) hk (by simp [IsKey]) _ 9999
 have hfk : (Instr.findKey kt (.string k) es.toList).run P w = .ok q w := Go.MapKept.run_findKey hk hf
 rcases hc with ⟨rfl, -, -, h1, -⟩ | ⟨j, e, rfl, g1, g2, -, -, g3⟩
 ·
  refine ⟨setBlock w r (.map es clock), ?_, ⟨_, _, heap_setBlock_same h.at_ _, by rw [h1]; exact h.eq, h.st⟩, setBlock_grown ⟨_, _, h.at_⟩ _, by simp [setBlock]⟩
  simp [Builtin.delete_, run_underlying ht, Go.MapKept.run_getObj_map h.at_, hck, hfk, Go.MapKept.run_setObj_map _ h.at_, Result.andThen, setBlock]
 ·
  refine ⟨setBlock w r (.map (es.eraseIdxIfInBounds j) clock), ?_, ⟨_, _, heap_setBlock_same h.at_ _, ?_, stamped_erase h.st j⟩, setBlock_grown ⟨_, _, h.at_⟩ _, by simp [setBlock]⟩
  · simp [Builtin.delete_, run_underlying ht, Go.MapKept.run_getObj_map h.at_, hck, hfk, Go.MapKept.run_setObj_map _ h.at_, Result.andThen, setBlock]
  ·
   rw [g3]
   have e0 : (es.eraseIdxIfInBounds j).toList = es.toList.eraseIdx j := by
    have hlt := (List.getElem?_eq_some_iff.1 g1).1
    rw [Array.length_toList] at hlt
    simp [Array.eraseIdxIfInBounds, hlt]
   rw [e0, Go.ChangeMaps.map_eraseIdx, Go.ChangeMaps.map_eraseIdx, h.eq]
theorem MapIs.len (h : MapIs w r m) (ht : P.underlying t = some (.map kt et)) (ty : TypeId) : (Builtin.len_ #[t] ty #[.map (some r)]).run P w = .ok (.int .i64 m.length) w := by
 obtain ⟨es, clock, h⟩ := h
 have : es.size = m.length := by have := congrArg List.length h.eq; simpa using this
 simp [Builtin.len_, run_underlying ht, Go.MapKept.run_getObj_map h.at_, Result.andThen, this, goInt]
def MapRng (w : World) (it r : Nat) (m left : Ents) : Prop := ∃ es clock since c0 seen, MapAt w r m es clock ∧ w.heap[it]? = some (.mapIter (some r) since seen c0) ∧ (∀ x ∈ es.toList, x.born < since) ∧ (since ≤ c0 ∧ since ≤ clock) ∧ (leftOf es seen).toList.map kvE = left.map svP
theorem MapRng.is {w : World} {it r : Nat} {m left : Ents} (h : MapRng w it r m left) : MapIs w r m := by
 obtain ⟨es, clock, since, c0, seen, h, -⟩ := h
 exact ⟨es, clock, h⟩
theorem MapRng.same {w w' : World} {it r : Nat} {m left : Ents} (h : MapRng w it r m left) (h1 : w'.heap[it]? = w.heap[it]?) (h2 : w'.heap[r]? = w.heap[r]?) : MapRng w' it r m left := by
 obtain ⟨es, clock, since, c0, seen, h, hi, g⟩ := h
 exact ⟨es, clock, since, c0, seen, ⟨h2.trans h.at_, h.eq, h.st⟩, h1.trans hi, g⟩
theorem MapRng.lt {w : World} {it r : Nat} {m left : Ents} (h : MapRng w it r m left) : it < w.heap.size := by
 obtain ⟨es, clock, since, c0, seen, h, hi, -⟩ := h
 exact (Array.getElem?_eq_some_iff.1 hi).1
theorem MapIs.range (h : MapIs w r m) (ht : P.underlying t = some (.map kt et)) :
  ∃ w', (Instr.range t (.map (some r))).run P w = .ok (.pointer (some ⟨w.heap.size, 0, none⟩)) w' ∧ MapRng w' w.heap.size r m m ∧ Below w.heap.size w w' ∧ w'.heap.size = w.heap.size + 1 := by
 have hlt := h.lt
 obtain ⟨es, clock, h⟩ := h
 refine ⟨_, run_range_map w t kt et r es clock ht h.at_, ⟨es, clock, clock, clock, #[], ⟨?_, h.eq, h.st⟩, World.alloc_heap_new w _, h.st.1, ⟨Nat.le_refl _, Nat.le_refl _⟩, ?_⟩, (Below.refl _ w).alloc (Nat.le_refl _) _, by simp⟩
 · exact (((Below.refl w.heap.size w).alloc (Nat.le_refl _) _).block r hlt).trans h.at_
 ·
  have : leftOf es #[] = es := by
   unfold leftOf
   exact Array.filter_eq_self.2 (by simp)
  rw [this]
  exact h.eq
theorem filter_born : ∀ (l : List MapEntry) (j : Nat) (e : MapEntry), (l.map (·.born)).Nodup → l[j]? = some e → l.filter (fun x => x.born != e.born) = l.eraseIdx j
 | [], _, _, _, h => by simp at h
 | x :: l, 0, e, hn, h => by
  simp only [List.getElem?_cons_zero, Option.some.injEq] at h
  subst h
  simp only [List.map_cons, List.nodup_cons] at hn
  simp only [List.filter_cons, bne_self_eq_false, Bool.false_eq_true, if_false, List.eraseIdx_zero, List.tail_cons]
  refine List.filter_eq_self.2 fun y hy => ?_
  have : y.born ≠ x.born := fun e => hn.1 (e ▸ List.mem_map_of_mem hy)
  simpa using this
 | x :: l, j + 1, e, hn, h => by
  simp only [List.getElem?_cons_succ] at h
  simp only [List.map_cons, List.nodup_cons] at hn
  have hne : x.born ≠ e.born := fun q => hn.1 (q ▸ List.mem_map_of_mem (List.mem_of_getElem? h))
  simp only [List.filter_cons, bne_iff_ne, ne_eq, hne, not_false_eq_true, if_true, List.eraseIdx_cons_succ]
  rw [filter_born l j e hn.2 h]
theorem MapRng.left_eq {it : Nat} {left : Ents} (h : MapRng w it r m left) : w.rangeLeft r it = left.length := by
 obtain ⟨es, clock, since, c0, seen, h, hi, -, -, hl⟩ := h
 have h1 := congrArg List.length hl
 simp only [List.length_map, Array.length_toList] at h1
 simp only [World.rangeLeft, h.at_, hi]
 exact h1
theorem MapRng.next {it : Nat} {left : Ents} (h : MapRng w it r m left) (ty : TypeId) :
  (left = [] ∧ (Instr.next (.pointer (some ⟨it, 0, none⟩)) false ty).run P w = .ok (.tuple #[.bool false]) w) ∨
  ∃ j p w', left[j]? = some p ∧ (Instr.next (.pointer (some ⟨it, 0, none⟩)) false ty).run P w = .ok (.tuple #[.bool true, .string p.1, p.2]) w' ∧ MapRng w' it r m (left.eraseIdx j) ∧ w.grownBy w' (some it) ∧ w'.heap.size = w.heap.size ∧
   (Instr.entry (.pointer (some ⟨it, 0, none⟩))).run P w' = .ok (.tuple #[.string p.1, p.2]) w' := by
 have hlt := h.lt
 have hri : r ≠ it := by
  obtain ⟨es, clock, since, c0, seen, h, hi, -⟩ := h
  rintro rfl
  rw [h.at_] at hi
  cases hi
 obtain ⟨es, clock, since, c0, seen, h, hi, hold, hsc, hl⟩ := h
 rcases run_next_at (P := P) w ty it r since c0 seen es clock hi h.at_ hold hsc.1 with ⟨h0, hrun⟩ | ⟨e, he, w1, hw1, hrun⟩
 ·
  left
  refine ⟨?_, hrun⟩
  have h1 := congrArg List.length hl
  simp only [List.length_map, Array.length_toList] at h1
  exact List.eq_nil_of_length_eq_zero (by omega)
 ·
  right
  obtain ⟨j, hj⟩ := List.getElem?_of_mem he
  have hj' : (left.map svP)[j]? = some (kvE e) := by rw [← hl, List.getElem?_map, hj]; rfl
  rw [List.getElem?_map] at hj'
  obtain ⟨p, hp, hpe⟩ := Option.map_eq_some_iff.1 hj'
  have hk : e.key = .string p.1 := (congrArg Prod.fst hpe).symm
  have hv : e.val = p.2 := (congrArg Prod.snd hpe).symm
  have hi1 : w1.heap[it]? = some (.mapIter (some r) since seen c0) := by rcases hw1 with rfl | rfl <;> exact hi
  have hb1 : w1.heap = w.heap := by rcases hw1 with rfl | rfl <;> rfl
  have hsame : (setBlock w1 it (.mapIter (some r) since (seen.push e.born) clock)).heap[it]? = some (.mapIter (some r) since (seen.push e.born) clock) := (heap_set hi1).1
  have hoth : ∀ i, i ≠ it → (setBlock w1 it (.mapIter (some r) since (seen.push e.born) clock)).heap[i]? = w.heap[i]? := fun i hne => ((heap_set hi1).2 i hne).trans (by rw [hb1])
  have hbr := (hoth r hri).trans h.at_
  have hem : e ∈ es.toList := by
   unfold leftOf at he
   simp only [Array.toList_filter, List.mem_filter] at he
   exact he.1
  have hbornlt := h.st.1 e hem
  refine ⟨j, p, _, hp, by rw [hrun, hk, hv], ⟨es, clock, since, clock, seen.push e.born, ⟨hbr, h.eq, h.st⟩, hsame, hold, ⟨hsc.2, hsc.2⟩, ?_⟩, ⟨?_, ?_, ?_, ?_, ?_⟩, ?_, ?_⟩
  ·
   have e1 : (leftOf es (seen.push e.born)).toList = (leftOf es seen).toList.filter (fun x => x.born != e.born) := by
    unfold leftOf
    simp only [Array.toList_filter, List.filter_filter]
    congr 1
    funext x
    simp only [Array.contains_push]
    cases h1 : seen.contains x.born <;> cases h2 : (x.born == e.born) <;> simp_all [bne]
   have hnd : ((leftOf es seen).toList.map (·.born)).Nodup := by
    unfold leftOf
    simp only [Array.toList_filter]
    exact h.st.2.1.sublist ((List.filter_sublist).map _)
   rw [e1, filter_born _ j e hnd hj, Go.ChangeMaps.map_eraseIdx, Go.ChangeMaps.map_eraseIdx, hl]
  · rcases hw1 with rfl | rfl <;> rfl
  · rcases hw1 with rfl | rfl <;> rfl
  · rcases hw1 with rfl | rfl <;> rfl
  · simp [setBlock, hb1]
  ·
   intro i _ hi'
   exact hoth i (fun e => hi' (by rw [e]))
  · simp [setBlock, hb1]
  ·
   rw [← hk, ← hv]
   exact run_entry_at _ it r since seen es clock e hsame hbr hem h.st.2.1
end
end Go.Proofs.Ytmafnjidhjabgaa
namespace Go.Proofs.Ytmafnjidhjabgaa
open Go.RowKit Go.Shelf
set_option linter.unusedVariables false
set_option linter.unusedSimpArgs false
set_option maxRecDepth 100000
theorem conv_str (s : ByteArray) (w : World) (hs' : s.size ≤ 9223372036854775807) : ∃ (w1 : World) (cap : Nat), (convert 9 46 (.string s)).run Try.prog w = .ok (.slice (some ⟨w.heap.size, 0, none⟩) s.size cap) w1 ∧ Below w.heap.size w w1 ∧ Bytes w1 (.slice (some ⟨w.heap.size, 0, none⟩) s.size cap) s.data.toList := by
 have hs : s.size ≤ maxLen := by unfold maxLen; omega
 have hl : s.data.toList.length = s.size := by rw [Array.length_toList]; rfl
 refine ⟨Lib.bytesWorld w 5 s, grownCap w s.size 0 5, Lib.run_convert_string_bytes w 9 46 5 s Try.underlying9 Try.underlying46 Try.underlying5, ?_, ?_⟩
 · exact ⟨rfl, rfl, rfl, by rw [Lib.bytesWorld_size]; omega, fun j hj => Lib.bytesWorld_at_old w 5 s j hj⟩
 ·
  refine ⟨some ⟨w.heap.size, 0, none⟩, _, by rw [hl], by rw [hl]; exact grownCap_ge _ _ _ _, by have := grownCap_le_maxLen w s.size 0 5 hs; unfold maxLen at this; omega, .inr ⟨w.heap.size, 0, rfl, fun i hi => ?_⟩⟩
  rw [hl] at hi
  rw [Nat.zero_add, Lib.bytesWorld_cell w 5 s i hi]
  unfold bt
  rw [List.getD_eq_getElem?_getD]
structure Chg where
 k : Int
 nm : ByteArray
 at_ : Int
 dv : Value
 d : List UInt8
def Chg.cells (c : Chg) : List Value := [.int .i64 c.k, .string c.nm, .int .i64 c.at_, c.dv]
theorem chg4 (c : Chg) : (Chg.cells c).length = 4 := rfl
abbrev Files := List (ByteArray × (Value × List UInt8))
def Files.ents (m : Files) : Ents := mmap Prod.fst m
structure Dk where
 room : Int
 fails : Bool
 nb : Nat
 ub : Nat
 cv : Value
 now : Files
 dur : Files
 chg : List Chg
def Dk.cells (D : Dk) : List Value := [.int .i64 D.room, .bool D.fails, .map (some D.nb), .map (some D.ub), D.cv]
def IsU8 (w : World) (j : Nat) : Prop := ∃ cs x, w.heap[j]? = some (Obj.cells cs 5 x)
def Txt (w : World) (v : Value) (xs : List UInt8) : Prop := Bytes w v xs ∧ ∀ a n c, v = .slice (some a) n c → IsU8 w a.block
theorem Txt.nil (w : World) : Txt w (.slice none 0 0) [] := ⟨Bytes.nil w, fun a n c h => by simp at h⟩
theorem Txt.only {S : Nat → Prop} {w w' : World} {v : Value} {xs : List UInt8} (h : Txt w v xs) (ho : Only S w w') (hS : ∀ j, S j → ¬ IsU8 w j) : Txt w' v xs := by
 refine ⟨h.1.only ho (fun a n c e hs => hS _ hs (h.2 a n c e)), fun a n c e => ?_⟩
 have hu := h.2 a n c e
 obtain ⟨cs, x, hc⟩ := hu
 exact ⟨cs, x, (ho.block a.block (Array.getElem?_eq_some_iff.1 hc).1 (fun hs => hS _ hs ⟨cs, x, hc⟩)).trans hc⟩
theorem Txt.below {w w' : World} {v : Value} {xs : List UInt8} (h : Txt w v xs) (hb : Below w.heap.size w w') : Txt w' v xs :=
 h.only (Only.of_below (S := fun j => w.heap.size ≤ j) hb) (fun j hj ⟨cs, x, hc⟩ => by have := (Array.getElem?_eq_some_iff.1 hc).1; omega)
theorem Txt.of_mine {w : World} {base : Nat} {v : Value} {xs : List UInt8} (h : Mine w base v xs) : Txt w v xs := by
 refine ⟨h.bytes, fun a n c e => ?_⟩
 rcases h.2 with ⟨rfl, -⟩ | ⟨g, cap, cur, rfl, -, hh, -⟩
 · simp at e
 ·
  simp only [Value.slice.injEq, Option.some.injEq] at e
  obtain ⟨rfl, -, -⟩ := e
  exact ⟨cur, _, hh⟩
theorem Txt.slice {w : World} {v : Value} {xs : List UInt8} (h : Txt w v xs) : ∃ a c, v = .slice a xs.length c := by
 obtain ⟨⟨a, c, rfl, -⟩, -⟩ := h
 exact ⟨a, c, rfl⟩
theorem Txt.one {w : World} {v : Value} {xs : List UInt8} (h : Txt w v xs) : v.oneCell' = true := by
 obtain ⟨a, c, rfl⟩ := h.slice
 rfl
structure DiskAt (w : World) (B d : Nat) (D : Dk) : Prop where
 box : w.ownsRow B 58 5 (.slice (some ⟨d, 0, none⟩) 1 1) 1 D.cells
 nowM : MapIs w D.nb D.now.ents
 durM : MapIs w D.ub D.dur.ents
 ne : D.nb ≠ D.ub
 lo : B ≤ D.nb ∧ B ≤ D.ub
 row : w.ownsRow B 96 4 D.cv D.chg.length (flatF Chg.cells D.chg)
 fnow : ∀ f ∈ D.now, Txt w f.2.1 f.2.2
 fdur : ∀ f ∈ D.dur, Txt w f.2.1 f.2.2
 fchg : ∀ c ∈ D.chg, Txt w c.dv c.d
 know : (D.now.map (·.1)).Nodup
 kdur : (D.dur.map (·.1)).Nodup
def Dk.foot (d : Nat) (D : Dk) (j : Nat) : Prop := j = d ∨ j = D.nb ∨ j = D.ub ∨ D.cv.ownBlock = some j
theorem own_notU8 {w : World} {B sz n : Nat} {e : TypeId} {v : Value} {xs : List Value} (h : w.ownsRow B e sz v n xs) (he : e ≠ 5) {j : Nat} (hj : v.ownBlock = some j) : ¬ IsU8 w j := by
 rintro ⟨cs, x, hc⟩
 rcases h.2 with ⟨rfl, -⟩ | ⟨g, cap, cur, rfl, -, hh, -⟩
 · simp [Value.ownBlock] at hj
 ·
  simp only [Value.ownBlock, Option.some.injEq] at hj
  subst hj
  rw [hh] at hc
  simp only [Option.some.injEq, Obj.cells.injEq] at hc
  exact he hc.2.1
theorem DiskAt.foot_lt {w : World} {B d : Nat} {D : Dk} (h : DiskAt w B d D) {j : Nat} (hj : D.foot d j) : B ≤ j ∧ j < w.heap.size := by
 rcases hj with rfl | rfl | rfl | hj
 · exact World.ownsRow.lt h.box _ rfl
 · exact ⟨h.lo.1, h.nowM.lt⟩
 · exact ⟨h.lo.2, h.durM.lt⟩
 · exact World.ownsRow.lt h.row _ hj
theorem MapIs.notU8 {w : World} {r : Nat} {m : Ents} (h : MapIs w r m) : ¬ IsU8 w r := fun ⟨cs, x, hc⟩ => h.cell cs _ x hc
theorem DiskAt.foot_u8 {w : World} {B d : Nat} {D : Dk} (h : DiskAt w B d D) {j : Nat} (hj : D.foot d j) : ¬ IsU8 w j := by
 rcases hj with rfl | rfl | rfl | hj
 · exact own_notU8 h.box (by decide) rfl
 · exact h.nowM.notU8
 · exact h.durM.notU8
 · exact own_notU8 h.row (by decide) hj
theorem DiskAt.only {S : Nat → Prop} {w w' : World} {B d : Nat} {D : Dk} (h : DiskAt w B d D) (ho : Only S w w') (hF : ∀ j, S j → ¬ D.foot d j) (hU : ∀ j, S j → ¬ IsU8 w j) : DiskAt w' B d D where
 box := ownsRow_only h.box ho (fun g hg hs => hF g hs (.inl (by simp only [Value.ownBlock, Option.some.injEq] at hg; exact hg.symm)))
 nowM := h.nowM.only ho (fun hs => hF _ hs (.inr (.inl rfl)))
 durM := h.durM.only ho (fun hs => hF _ hs (.inr (.inr (.inl rfl))))
 ne := h.ne
 lo := h.lo
 row := ownsRow_only h.row ho (fun g hg hs => hF g hs (.inr (.inr (.inr hg))))
 fnow := fun f hf => (h.fnow f hf).only ho hU
 fdur := fun f hf => (h.fdur f hf).only ho hU
 fchg := fun f hf => (h.fchg f hf).only ho hU
 know := h.know
 kdur := h.kdur
theorem DiskAt.below {w w' : World} {B d : Nat} {D : Dk} (h : DiskAt w B d D) (hb : Below w.heap.size w w') : DiskAt w' B d D :=
 h.only (Only.of_below (S := fun j => w.heap.size ≤ j) hb) (fun j hj hf => by have := (h.foot_lt hf).2; omega) (fun j hj ⟨cs, x, hc⟩ => by have := (Array.getElem?_eq_some_iff.1 hc).1; omega)
theorem DiskAt.cells {w : World} {B d : Nat} {D : Dk} (h : DiskAt w B d D) : w.cell? ⟨d, 0, none⟩ = some (.int .i64 D.room) ∧ w.cell? ⟨d, 1, none⟩ = some (.bool D.fails) ∧ w.cell? ⟨d, 2, none⟩ = some (.map (some D.nb)) ∧ w.cell? ⟨d, 3, none⟩ = some (.map (some D.ub)) ∧ w.cell? ⟨d, 4, none⟩ = some D.cv := by
 have e := fun j u hj => World.ownsRow.cells h.box (g := d) rfl j u hj
 simp only [add_off, Nat.zero_add] at e
 exact ⟨e 0 _ rfl, e 1 _ rfl, e 2 _ rfl, e 3 _ rfl, e 4 _ rfl⟩
theorem DiskAt.frz {w : World} {B d : Nat} {D : Dk} (h : DiskAt w B d D) (j : Nat) : w.frozen? ⟨d, j, none⟩ = false := World.ownsRow.frozenAt h.box j
def okC (c : UInt8) : Bool := (97 ≤ c && c ≤ 122) || (48 ≤ c && c ≤ 57) || c == 45
def goodNm (xs : List UInt8) : Bool := decide (1 ≤ xs.length) && decide (xs.length ≤ 32) && xs.all okC
theorem okC_int (xs : List UInt8) (k : Nat) (h : k < xs.length) : okC xs[k] = !((decide (bt xs k < 97) || decide (122 < bt xs k)) && (decide (bt xs k < 48) || decide (57 < bt xs k)) && (bt xs k != 45)) := by
 have hb : bt xs k = ((xs[k].toNat : Nat) : Int) := by unfold bt; simp [h]
 rw [hb]
 have : ∀ c : Fin 256, okC (UInt8.ofNat c.val) = !((decide ((c.val : Int) < 97) || decide (122 < (c.val : Int))) && (decide ((c.val : Int) < 48) || decide (57 < (c.val : Int))) && ((c.val : Int) != 45)) := by decide +kernel
 have h2 := this ⟨xs[k].toNat, xs[k].toNat_lt⟩
 simpa using h2
set_option maxHeartbeats 2000000 in
theorem dright_calls (s : ByteArray) (w : World) (hs : s.size ≤ 140737488355328) :
  Calls Try.prog 63 #[.string s] w fun e w' => e = .returned (.bool (goodNm s.data.toList)) ∧ Below w.heap.size w w' := by
 obtain ⟨w1, cap, hcv, hb1, hby⟩ := conv_str s w (by omega)
 have hl : s.data.toList.length = s.size := by rw [Array.length_toList]; rfl
 have HB1 := Lib.hid hb1
 have HBY := Lib.hid hby
 have HL := Lib.hid hl
 generalize hX : s.data.toList = xs at *
 have HX := Lib.hid hX
 clear hX hb1 hby hl
 by_cases hsm : 1 ≤ s.size ∧ s.size ≤ 32
 ·
  have d1 : decide ((s.size : Int) < 1) = false := decide_eq_false (by omega)
  have d2 : decide (32 < (s.size : Int)) = false := decide_eq_false (by omega)
  go_enter Try.func63, Try.ntmps63
  go_wp2_with fail
  go_loopw [4, 16] (fun _ iv wr => ∃ k : Nat, k ≤ s.size ∧ iv = .int .i64 k ∧ (xs.take k).all okC = true ∧ wr = w1) (fun _ iv _ => s.size - (intOf iv).toNat)
  case atStart => exact ⟨0, by omega, rfl, by simp, rfl⟩
  case round =>
   obtain ⟨k, hk, rfl, hall, rfl⟩ := hrel
   have HALL := Lib.hid hall
   clear hall
   by_cases hlt : k < s.size
   ·
    have hlt' : k < xs.length := by rw [HL.out]; exact hlt
    obtain ⟨a, c2, he, hle, hcap, hc⟩ := HBY.out
    simp only [Value.slice.injEq] at he
    obtain ⟨rfl, -, rfl⟩ := he
    rcases hc with hc | ⟨b, off, hab, hc⟩
    · omega
    simp only [Option.some.injEq, Addr.mk.injEq, and_true] at hab
    obtain ⟨rfl, rfl⟩ := hab
    have c0 := hc k hlt'
    rw [Nat.zero_add] at c0
    have hok := okC_int xs k hlt'
    have HNX := Lib.hid (show (xs.take (k + 1)).all okC = okC xs[k] from by
     rw [List.take_succ_eq_append_getElem hlt', List.all_append, HALL.out]; simp)
    have HNO := Lib.hid (show okC xs[k] = false → xs.all okC = false from fun h => by
     rw [Bool.eq_false_iff]; intro h2; rw [List.all_eq_true] at h2; have := h2 _ (List.getElem_mem hlt'); rw [h] at this; cases this)
    generalize bt xs k = c at *
    generalize okC xs[k] = ok at *
    obtain ⟨b1, h1⟩ : ∃ b, decide (c < 97) = b := ⟨_, rfl⟩
    obtain ⟨b2, h2⟩ : ∃ b, decide (122 < c) = b := ⟨_, rfl⟩
    obtain ⟨b3, h3⟩ : ∃ b, decide (c < 48) = b := ⟨_, rfl⟩
    obtain ⟨b4, h4⟩ : ∃ b, decide (57 < c) = b := ⟨_, rfl⟩
    obtain ⟨b5, h5⟩ : ∃ b, (c != 45) = b := ⟨_, rfl⟩
    rw [h1, h2, h3, h4, h5] at hok
    have HOK := Lib.hid hok
    clear hok hc hle hcap
    cases b1 <;> cases b2 <;> cases b3 <;> cases b4 <;> cases b5
    all_goals
     first
     | (
      have e := HOK.out
      simp only [Bool.or_true, Bool.or_false, Bool.true_and, Bool.and_true, Bool.false_and, Bool.and_false, Bool.not_true, Bool.not_false] at e
      subst e
      clear HOK
      go_wp2_with fail
      go_roundw
      case rel => exact ⟨k + 1, by omega, by go_num, HNX.out, (by trivial)⟩
      case measure => simp [intOf]; omega)
     | (
      have e := HOK.out
      simp only [Bool.or_true, Bool.or_false, Bool.true_and, Bool.and_true, Bool.false_and, Bool.and_false, Bool.not_true, Bool.not_false] at e
      subst e
      clear HOK
      go_wp2_with fail
      go_ret
      refine ⟨?_, HB1.out⟩
      unfold goodNm
      rw [HNO.out (by trivial), Bool.and_false]
      rfl)
   ·
    obtain rfl : k = s.size := by omega
    have HG := Lib.hid (show goodNm xs = true from by
     have h := HALL.out
     rw [← HL.out, List.take_length] at h
     unfold goodNm
     rw [h, HL.out, decide_eq_true hsm.1, decide_eq_true hsm.2]; rfl)
    go_wp2_with fail
    go_ret
    exact ⟨by rw [HG.out]; rfl, HB1.out⟩
 ·
  have HG := Lib.hid (show goodNm xs = false from by
   unfold goodNm
   rw [HL.out]
   by_cases h1 : 1 ≤ s.size
   · rw [decide_eq_false (show ¬ s.size ≤ 32 by omega)]; simp
   · rw [decide_eq_false h1]; simp)
  by_cases h1 : s.size < 1
  ·
   have d1 : decide ((s.size : Int) < 1) = true := decide_eq_true (by omega)
   go_enter Try.func63, Try.ntmps63
   go_wp2_with fail
   go_ret
   exact ⟨by rw [HG.out]; rfl, Below.refl _ _⟩
  ·
   have d1 : decide ((s.size : Int) < 1) = false := decide_eq_false (by omega)
   have d2 : decide (32 < (s.size : Int)) = true := decide_eq_true (by omega)
   go_enter Try.func63, Try.ntmps63
   go_wp2_with fail
   go_ret
   exact ⟨by rw [HG.out]; rfl, Below.refl _ _⟩
def rdyE (D : Dk) (nm : ByteArray) (n : Int) : Int := if D.fails then 16 else if goodNm nm.data.toList && decide (0 ≤ n) then 0 else 1
set_option maxHeartbeats 1000000 in
theorem dready_calls (d B : Nat) (D : Dk) (nm : ByteArray) (n : Int) (w : World) (h : DiskAt w B d D) (hs : nm.size ≤ 140737488355328) :
  Calls Try.prog 37 #[.pointer (some ⟨d, 0, none⟩), .string nm, .int .i64 n] w fun e w' => e = .returned (.int .i64 (rdyE D nm n)) ∧ Below w.heap.size w w' := by
 obtain ⟨-, c1, -⟩ := h.cells
 clear h
 have HE := Lib.hid (show rdyE D nm n = if D.fails then 16 else if goodNm nm.data.toList && decide (0 ≤ n) then 0 else 1 from rfl)
 generalize rdyE D nm n = r at *
 cases hf : D.fails with
 | true =>
  rw [hf] at c1 HE
  have HE := Lib.hid (show r = 16 from HE.out)
  clear hf
  go_enter Try.func37, Try.ntmps37
  go_wp2_with fail
  go_ret
  exact ⟨by rw [HE.out]; rfl, Below.refl _ _⟩
 | false =>
  rw [hf] at c1 HE
  clear hf
  have HC := Lib.hid (dright_calls nm w hs)
  go_enter Try.func37, Try.ntmps37
  go_wp2_with fail
  refine HC.out.mono ?_
  rintro e w1 ⟨rfl, hb⟩
  have HB := Lib.hid hb
  clear hb HC
  cases hg : goodNm nm.data.toList with
  | false =>
   rw [hg] at HE
   have HE := Lib.hid (show r = 1 from HE.out)
   clear hg
   go_wp2_with fail
   go_ret
   exact ⟨by rw [HE.out]; rfl, HB.out⟩
  | true =>
   rw [hg] at HE
   clear hg
   by_cases hn : n < 0
   ·
    have d1 : decide (n < 0) = true := decide_eq_true hn
    rw [show decide (0 ≤ n) = false from decide_eq_false (by omega)] at HE
    have HE := Lib.hid (show r = 1 from HE.out)
    go_wp2_with fail
    go_ret
    exact ⟨by rw [HE.out]; rfl, HB.out⟩
   ·
    have d1 : decide (n < 0) = false := decide_eq_false hn
    rw [show decide (0 ≤ n) = true from decide_eq_true (by omega)] at HE
    have HE := Lib.hid (show r = 0 from HE.out)
    go_wp2_with fail
    go_ret
    exact ⟨by rw [HE.out]; rfl, HB.out⟩
end Go.Proofs.Ytmafnjidhjabgaa
namespace Go.Proofs.Ytmafnjidhjabgaa
open Go.RowKit Go.Shelf
set_option linter.unusedVariables false
set_option linter.unusedSimpArgs false
set_option maxRecDepth 100000
set_option maxHeartbeats 400000 in
theorem cloneB_calls (v : Value) (xs : List UInt8) (w : World) (hv : Bytes w v xs) (hl : xs.length ≤ 140737488351232) :
  Calls Try.prog 40 #[v] w fun e w' => ∃ v', e = .returned v' ∧ Mine w' w.heap.size v' xs ∧ Below w.heap.size w w' := by
 have HV := Lib.hid hv
 obtain ⟨a, c, rfl, hle, -, h3⟩ := hv
 cases a with
 | none =>
  have h0 : xs.length = 0 := by
   rcases h3 with h3 | ⟨b, o, h, -⟩
   · omega
   · cases h
  have hx : xs = [] := List.eq_nil_of_length_eq_zero h0
  subst hx
  clear h0 h3
  have hnil := fun (w : World) => Lib.run_eql_slice_nil (P := Try.prog) w 46 5 none 0 c 0 0 Try.underlying46
  go_enter Try.func40, Try.ntmps40
  go_wp2
  go_ret
  exact ⟨_, rfl, Mine.nil _ _, Below.refl _ _⟩
 | some x =>
  clear h3
  have hnil := fun (w : World) => Lib.run_eql_slice_nil (P := Try.prog) w 46 5 (some x) xs.length c 0 0 Try.underlying46
  have hlit := Mine.lit w w.heap.size 0 #[] [] (Nat.le_refl _) (by omega) rfl rfl
  have hal := (Below.refl w.heap.size w).alloc (Nat.le_refl _) (.cells #[] 5)
  have HR := Lib.hid (HV.out.below hal (Nat.le_refl _))
  have HLIT := Lib.hid hlit
  have HAL := Lib.hid hal
  clear hlit hal
  go_enter Try.func40, Try.ntmps40
  go_wp2_with (at_builtin; go_loud (refine app_mine HLIT.out HR.out HAL.out HAL.out.size (by simp; omega) rfl rfl rfl rfl ?_; intro v3 w3 hm3 hb3; obtain ⟨ga, gc, rfl⟩ := hm3.slice))
  go_ret
  exact ⟨_, rfl, hm3, hb3⟩
theorem run_bcopy {w : World} {base g n cap o k oo dCap : Nat} {sv : Value} {xs : List Value} {ys : List UInt8} (hown : w.ownsRow base 5 1 (.slice (some ⟨g, 0, none⟩) n cap) n xs) (hs : Bytes w sv ys) (hok : o + k = n) (hoo : k = 0 ∨ oo = o) :
  ∃ w', (∀ ty, (Builtin.copy_ #[46, 46] ty #[.slice (some ⟨g, oo, none⟩) k dCap, sv]).run Try.prog w = .ok (goInt (Nat.min ys.length k)) w') ∧ w'.ownsRow base 5 1 (.slice (some ⟨g, 0, none⟩) n cap) n (writeL xs o (bvs (ys.take k))) ∧ w.grownBy w' (some g) := by
 have hsz : (Try.prog.info? 5).map (·.size) = some 1 := by kernel_rfl
 have same : w.grownBy w (some g) := ⟨rfl, rfl, rfl, Nat.le_refl _, fun _ _ _ => rfl⟩
 obtain ⟨a, cap', rfl, h1, h2, h3⟩ := hs
 by_cases hm : Nat.min ys.length k = 0
 ·
  have he : ys.take k = [] := by
   apply List.eq_nil_of_length_eq_zero
   rw [List.length_take, Nat.min_comm]
   exact hm
  rw [he, hm]
  exact ⟨w, fun ty => run_copy_none (P := Try.prog) w 46 46 ty 5 (some ⟨g, oo, none⟩) a k dCap ys.length cap' Try.underlying46 hsz hm, hown, same⟩
 ·
  have hk : k ≠ 0 := fun e => hm (by rw [e]; exact Nat.min_zero _)
  have hy : ys.length ≠ 0 := fun e => hm (by rw [e]; exact Nat.zero_min _)
  obtain rfl : oo = o := hoo.resolve_left hk
  rcases h3 with h3 | ⟨b, off, rfl, hc⟩
  · omega
  have hlen : (bvs (ys.take k)).length = Nat.min ys.length k := by rw [bvs_length, List.length_take]; exact Nat.min_comm _ _
  have hncap : n ≤ cap := by
   rcases hown.2 with ⟨h', -⟩ | ⟨g', c', cur, h', -, -, hn, -⟩
   · simp at h'
   ·
    simp only [Value.slice.injEq, Option.some.injEq, Addr.mk.injEq, and_true, true_and] at h'
    rw [h'.2]; exact hn
  have hrun := fun ty => run_copy_k (P := Try.prog) (ty := ty) w (dT := 46) (sT := 46) (b := g) (o := oo) (dLen := k) (dCap := dCap) (a := ⟨b, off, none⟩) (sLen := ys.length) (sCap := cap') (n := Nat.min ys.length k) (cs := bvs (ys.take k)) tyBytes rfl (by rw [hlen]; omega)
   (fun j u hj => by
    have hlt : j < (bvs (ys.take k)).length := (List.getElem?_eq_some_iff.1 hj).1
    rw [hlen] at hlt
    have hj1 : j < ys.length := Nat.lt_of_lt_of_le hlt (Nat.min_le_left _ _)
    have hj2 : j < k := Nat.lt_of_lt_of_le hlt (Nat.min_le_right _ _)
    rw [bvs_get _ _ (by rw [List.length_take]; exact Nat.lt_min.2 ⟨hj2, hj1⟩)] at hj
    have e : bt (ys.take k) j = bt ys j := by unfold bt; simp [List.getD, hj2]
    rw [e] at hj
    cases hj
    rw [add_off]
    exact hc j hj1)
   (fun j hj => own_there' hown _ (by
    rw [hlen] at hj
    have : j < k := Nat.lt_of_lt_of_le hj (Nat.min_le_right _ _)
    omega))
   (fun j _ => World.ownsRow.frozenAt hown _) (bvs_one _)
  have hw := own_write (bvs (ys.take k)) oo w xs hown
  exact ⟨_, hrun, hw.1, hw.2⟩
def wrt (xs ys : List UInt8) (at_ : Nat) : List UInt8 := xs.take at_ ++ ys ++ xs.drop (at_ + ys.length)
theorem wrt_len {xs ys : List UInt8} {at_ : Nat} (h : at_ ≤ xs.length) : (wrt xs ys at_).length = max xs.length (at_ + ys.length) := by
 unfold wrt
 simp only [List.length_append, List.length_take, List.length_drop]
 omega
theorem writeL_wrt {xs ys : List UInt8} {at_ n : Nat} (h : at_ ≤ xs.length) (hn : n = max xs.length (at_ + ys.length)) : writeL (writeL (List.replicate n (Value.int .u8 0)) 0 (bvs xs)) at_ (bvs ys) = bvs (wrt xs ys at_) := by
 have hx : xs.length ≤ n := by omega
 have hy : at_ + ys.length ≤ n := by omega
 rw [writeL_eq (bvs xs) _ 0 (by rw [bvs_length, List.length_replicate]; omega), writeL_eq (bvs ys) _ at_ (by simp only [List.length_append, List.length_take, List.length_drop, List.length_replicate, bvs_length]; omega)]
 simp only [List.take_zero, List.nil_append, Nat.zero_add, List.drop_replicate, bvs_length]
 have e1 : (bvs xs ++ List.replicate (n - xs.length) (Value.int .u8 0)).take at_ = bvs (xs.take at_) := by
  rw [List.take_append_of_le_length (by rw [bvs_length]; exact h)]
  simp [bvs, List.map_take]
 rw [e1]
 have e2 : (bvs xs ++ List.replicate (n - xs.length) (Value.int .u8 0)).drop (at_ + ys.length) = bvs (xs.drop (at_ + ys.length)) := by
  by_cases hle : at_ + ys.length ≤ xs.length
  ·
   have : n - xs.length = 0 := by omega
   rw [this, List.replicate_zero, List.append_nil]
   simp [bvs, List.map_drop]
  ·
   rw [List.drop_eq_nil_of_le (by simp only [List.length_append, List.length_replicate, bvs_length]; omega), show xs.drop (at_ + ys.length) = [] from List.drop_eq_nil_of_le (by omega)]
   rfl
 rw [e2]
 simp [wrt, bvs]
theorem make_full {P : Program} {ops : Array Oper} {rest : List Oper} {o : Oper} {a : Act} {Q : Exit → Act → World → Prop} {w : World} {x y : Operand} {t e : TypeId} {z : Value} {bytes base n : Nat} (T : STy P t e z 1 bytes) (hz1 : z.cells = #[z])
  (hgd : Region.wanted o (yielded ops a.tmps) = true) (ho : o.op = .makeSlice t x y) (hx : a.eval x = .int .i64 (n : Int)) (hy : a.eval y = .int .i64 (n : Int)) (hb : bytes * n ≤ 281474976710656) (hm : n ≤ 9223372036854775807) (hbase : base ≤ w.heap.size)
  (h : ∀ w', w'.ownsRow base e 1 (.slice (some ⟨w.heap.size, 0, none⟩) n n) n (List.replicate n z) → w.grownBy w' none → wpList P ops Q rest (a.put o.dst (.slice (some ⟨w.heap.size, 0, none⟩) n n)) w') : wpList P ops Q (o :: rest) a w := by
 obtain ⟨i, hi, hz, hsz, hby⟩ := T.hi
 obtain ⟨w', hrun, h1, h2⟩ := run_make_full (P := P) w base t e i z 1 T.ht hi hz hsz .i64 .i64 n (by rw [hby]; exact hb) (by unfold maxLen; omega) hbase
 rw [hz1, Nat.mul_one, toList_madeCells_one] at h1
 refine list_value hgd ?_ (h w' h1 h2)
 simp [execOp, ho, hx, hy, hrun, Result.andThen]
set_option maxHeartbeats 1000000 in
theorem dwritten_calls (fv dv : Value) (xs ys : List UInt8) (at_ : Nat) (w : World) (hf : Bytes w fv xs) (hd : Bytes w dv ys) (hat : at_ ≤ xs.length) (hx : xs.length ≤ 1099511627776) (hy : ys.length ≤ 1099511627776) :
  Calls Try.prog 39 #[fv, .int .i64 at_, dv] w fun e w' => ∃ v', e = .returned v' ∧ Mine w' w.heap.size v' (wrt xs ys at_) ∧ Below w.heap.size w w' := by
 obtain ⟨n, hn⟩ : ∃ n, n = max xs.length (at_ + ys.length) := ⟨_, rfl⟩
 have HN := Lib.hid hn
 have hmx : max ((xs.length : Nat) : Int) ((at_ : Int) + (ys.length : Int)) = (n : Int) := by omega
 have hmx2 : (if ((xs.length : Nat) : Int) < (at_ : Int) + (ys.length : Int) then (at_ : Int) + (ys.length : Int) else (xs.length : Int)) = (n : Int) := by split <;> omega
 have hn40 : n ≤ 3298534883328 := by omega
 have HF := Lib.hid hf
 have HD := Lib.hid hd
 obtain ⟨fa, fc, rfl, -⟩ := hf
 obtain ⟨da, dc, rfl, -⟩ := hd
 clear hn
 go_enter Try.func39, Try.ntmps39
 go_upto_region 2 with (at_make; go_loud (refine make_full (base := w.heap.size) (n := n) tyBytes rfl rfl rfl rfl rfl (by omega) (by omega) (Nat.le_refl _) ?_; intro w2 hm2 hg2))
 have hb2 : Below w.heap.size w w2 := (Below.refl _ w).grown hg2 (Nat.le_refl _) (by simp)
 obtain ⟨w3, hr3, ho3, hg3⟩ := run_bcopy (o := 0) (k := n) (oo := 0) (dCap := n) hm2 (HF.out.below hb2 (Nat.le_refl _)) (by omega) (.inr rfl)
 have hb3 : Below w.heap.size w w3 := hb2.grown hg3 hb2.size (fun k e => by simp only [Option.some.injEq] at e; omega)
 have e3 : xs.take n = xs := List.take_of_length_le (by omega)
 rw [e3] at ho3
 have HO3 := Lib.hid ho3
 have HB3 := Lib.hid hb3
 clear hm2 hg2 hb2 ho3 hg3 hb3 e3
 have e5 : ys.take (n - at_) = ys := List.take_of_length_le (by omega)
 have hfin : ∀ w5, w5.ownsRow w.heap.size 5 1 (.slice (some ⟨w.heap.size, 0, none⟩) n n) n (writeL (writeL (List.replicate n (Value.int .u8 0)) 0 (bvs xs)) at_ (bvs (ys.take (n - at_)))) → Mine w5 w.heap.size (.slice (some ⟨w.heap.size, 0, none⟩) n n) (wrt xs ys at_) := fun w5 h => by
  unfold Mine
  rw [e5, writeL_wrt hat HN.out] at h
  rw [wrt_len hat, ← HN.out]
  exact h
 have HFIN := Lib.hid hfin
 clear hfin e5
 by_cases hlt : at_ < n
 ·
  obtain ⟨w5, hr5, ho5, hg5⟩ := run_bcopy (o := at_) (k := n - at_) (oo := at_) (dCap := n - at_) HO3.out (HD.out.below HB3.out (Nat.le_refl _)) (by omega) (.inr rfl)
  have HM5 := Lib.hid (HFIN.out _ ho5)
  have HB5 := Lib.hid (HB3.out.grown hg5 HB3.out.size (fun k e => by simp only [Option.some.injEq] at e; omega))
  clear ho5 hg5
  go_wp2_with fail
  go_ret
  exact ⟨_, rfl, HM5.out, HB5.out⟩
 ·
  obtain rfl : at_ = n := by omega
  obtain ⟨w5, hr5, ho5, hg5⟩ := run_bcopy (o := at_) (k := at_ - at_) (oo := 0) (dCap := 0) HO3.out (HD.out.below HB3.out (Nat.le_refl _)) (by omega) (.inl (by omega))
  have HM5 := Lib.hid (HFIN.out _ ho5)
  have HB5 := Lib.hid (HB3.out.grown hg5 HB3.out.size (fun k e => by simp only [Option.some.injEq] at e; omega))
  clear ho5 hg5
  rw [Nat.sub_self] at hr5
  go_wp2_with fail
  go_ret
  exact ⟨_, rfl, HM5.out, HB5.out⟩
def usedOf (m : Files) : Nat := (m.map fun f => f.2.2.length).sum
theorem sum_erase : ∀ (m : Files) (j : Nat) (f : ByteArray × (Value × List UInt8)), m[j]? = some f → usedOf (m.eraseIdx j) + f.2.2.length = usedOf m
 | [], _, _, h => by simp at h
 | x :: m, 0, f, h => by
  simp only [List.getElem?_cons_zero, Option.some.injEq] at h
  subst h
  simp [usedOf]
  omega
 | x :: m, j + 1, f, h => by
  simp only [List.getElem?_cons_succ] at h
  have := sum_erase m j f h
  simp only [usedOf, List.eraseIdx_cons_succ, List.map_cons, List.sum_cons] at this ⊢
  omega
theorem ents_at {m : Files} {j : Nat} {p : ByteArray × Value} (h : m.ents[j]? = some p) : ∃ f, m[j]? = some f ∧ p = (f.1, f.2.1) := by
 unfold Files.ents mmap at h
 rw [List.getElem?_map] at h
 obtain ⟨f, hf, rfl⟩ := Option.map_eq_some_iff.1 h
 exact ⟨f, hf, rfl⟩
theorem ents_erase (m : Files) (j : Nat) : m.ents.eraseIdx j = Files.ents (m.eraseIdx j) := (Go.ChangeMaps.map_eraseIdx _ m j).symm
set_option maxHeartbeats 1000000 in
theorem dused_calls (d B : Nat) (D : Dk) (w : World) (h : DiskAt w B d D) (hsum : usedOf D.now ≤ 1152921504606846976) :
  Calls Try.prog 38 #[.pointer (some ⟨d, 0, none⟩)] w fun e w' => e = .returned (.int .i64 (usedOf D.now)) ∧ Below w.heap.size w w' := by
 obtain ⟨-, -, c2, -⟩ := h.cells
 obtain ⟨w1, hr1, hrg, hb1, hs1⟩ := h.nowM.range (P := Try.prog) (t := 55) Try.underlying55
 have HRG := Lib.hid hrg
 have HB1 := Lib.hid hb1
 have HF := Lib.hid h.fnow
 clear h hrg hb1
 go_enter Try.func38, Try.ntmps38
 go_wp2_with fail
 go_loopw [3, 5] (fun nv _ wr => ∃ (left : Files) (acc : Nat), nv = .int .i64 acc ∧ acc + usedOf left = usedOf D.now ∧ MapRng wr w.heap.size D.nb D.now.ents left.ents ∧ Below w.heap.size w wr ∧ ∀ f ∈ left, f ∈ D.now) (fun _ _ wr => wr.rangeLeft D.nb w.heap.size)
 case atStart => exact ⟨D.now, 0, rfl, by omega, HRG.out, HB1.out, fun f h => h⟩
 case round =>
  obtain ⟨left, acc, rfl, hacc, hrg, hb, hsub⟩ := hrel
  have HRG := Lib.hid hrg
  have HB := Lib.hid hb
  have HSUB := Lib.hid hsub
  have HML := Lib.hid hrg.left_eq
  clear hsub hb
  rcases hrg.next (P := Try.prog) 0 with ⟨hnil, hrun⟩ | ⟨j, p, w2, hj, hrun, hrg2, hg2, hs2, hent⟩
  ·
   have hl : left = [] := by
    cases left with
    | nil => rfl
    | cons a b => simp [Files.ents, mmap] at hnil
   subst hl
   have hrun' : ∀ ty, (Instr.next (.pointer (some ⟨w.heap.size, 0, none⟩)) false ty).run Try.prog wr = .ok (.tuple #[.bool false]) wr := fun ty => hrun
   have HACC := Lib.hid (show acc = usedOf D.now from by simpa [usedOf] using hacc)
   clear hnil hrun hrg hacc
   go_wp2_with fail
   go_ret
   exact ⟨by rw [← HACC.out]; rfl, HB.out⟩
  ·
   obtain ⟨f, hf, rfl⟩ := ents_at hj
   have hse := sum_erase left j f hf
   rw [ents_erase] at hrg2
   have HRG2 := Lib.hid hrg2
   have HB2 := Lib.hid (HB.out.grown hg2 HB.out.size (fun k e => by simp only [Option.some.injEq] at e; omega))
   have hfm := HSUB.out f (List.mem_of_getElem? hf)
   obtain ⟨fa, fc, hfv⟩ := (HF.out f hfm).slice
   obtain ⟨fn, fv, fd⟩ := f
   simp only at hfv hse hent hrun hf
   subst hfv
   have hrun' : ∀ ty, (Instr.next (.pointer (some ⟨w.heap.size, 0, none⟩)) false ty).run Try.prog wr = .ok (.tuple #[.bool true, .string fn, .slice fa fd.length fc]) w2 := fun ty => hrun
   have HNL := Lib.hid (show (Files.ents (left.eraseIdx j)).length < (Files.ents left).length from by
    have h1 := (List.getElem?_eq_some_iff.1 hf).1
    simp only [Files.ents, mmap, List.length_map]
    rw [List.length_eraseIdx_of_lt h1]
    omega)
   have HM2 := Lib.hid hrg2.left_eq
   have hsz : acc + fd.length ≤ 1152921504606846976 := by omega
   have HSE := Lib.hid (show acc + fd.length + usedOf (left.eraseIdx j) = usedOf D.now by omega)
   clear hj hrun hrg2 hg2 hs2 hf hse hacc hrg hfm
   go_wp2_with fail
   go_roundw
   case rel => exact ⟨left.eraseIdx j, acc + fd.length, by go_num, HSE.out, HRG2.out, HB2.out, fun f h => HSUB.out f ((List.eraseIdx_sublist left j).subset h)⟩
   case measure => rw [HM2.out, HML.out]; exact HNL.out
end Go.Proofs.Ytmafnjidhjabgaa
namespace Go.Proofs.Ytmafnjidhjabgaa
open Go.RowKit Go.Shelf
set_option linter.unusedVariables false
set_option linter.unusedSimpArgs false
set_option maxRecDepth 100000
theorem w64 {n : Int} (h0 : -9223372036854775808 ≤ n) (h1 : n ≤ 9223372036854775807) : wrap64 n = n := by unfold wrap64; omega
theorem i64w {n : Int} (h0 : -9223372036854775808 ≤ n) (h1 : n ≤ 9223372036854775807) : IntKind.i64.wrap n = n := by
 simp [IntKind.wrap, IntKind.bits, IntKind.signed]
 omega
abbrev nosD : ByteArray := ⟨#[]⟩
theorem tyChgs : STy Try.prog 56 96 (.agg #[.int .i64 0, .string nosD, .int .i64 0, .slice none 0 0]) 4 56 := .of Try.underlying56 (by kernel_rfl) rfl (by omega)
theorem chg_one {w : World} {l : List Chg} (h : ∀ c ∈ l, Txt w c.dv c.d) : ∀ u ∈ flatF Chg.cells l, u.oneCell' = true := by
 intro u hu
 obtain ⟨c, hc, hu⟩ := List.mem_flatMap.1 hu
 simp only [Chg.cells, List.mem_cons, List.not_mem_nil, or_false] at hu
 rcases hu with rfl | rfl | rfl | rfl
 · rfl
 · rfl
 · rfl
 · exact (h c hc).one
structure Turned (w w' : World) (B d : Nat) (D D' : Dk) : Prop where
 is : DiskAt w' B d D'
 only : Only (D.foot d) w w'
 foot : ∀ j, D'.foot d j → D.foot d j ∨ w.heap.size ≤ j
theorem Turned.refl {w : World} {B d : Nat} {D : Dk} (h : DiskAt w B d D) : Turned w w B d D D := ⟨h, Only.refl _ _, fun j hj => .inl hj⟩
theorem Turned.of_below {w w' : World} {B d : Nat} {D : Dk} (h : DiskAt w B d D) (hb : Below w.heap.size w w') : Turned w w' B d D D := ⟨h.below hb, Only.of_below hb, fun j hj => .inl hj⟩
theorem Turned.trans {w w' w'' : World} {B d : Nat} {D D' D'' : Dk} (h : Turned w w' B d D D') (k : Turned w' w'' B d D' D'') : Turned w w'' B d D D'' :=
 ⟨k.is, h.only.trans k.only (fun j hj hf => (h.foot j hf).resolve_right (by omega)), fun j hj => (k.foot j hj).elim (fun hf => h.foot j hf) (fun hs => .inr (Nat.le_trans h.only.size hs))⟩
theorem Turned.below {w w' w'' : World} {B d : Nat} {D D' : Dk} (h : Turned w w' B d D D') (hb : Below w'.heap.size w' w'') : Turned w w'' B d D D' := h.trans (Turned.of_below h.is hb)
theorem Turned.after {w0 w w' : World} {B d : Nat} {D D' : Dk} (h : Turned w w' B d D D') (hb : Below w0.heap.size w0 w) (h0 : DiskAt w0 B d D) : Turned w0 w' B d D D' := (Turned.of_below h0 hb).trans h
theorem Turned.txt {w w' : World} {B d : Nat} {D D' : Dk} (h : Turned w w' B d D D') (h0 : DiskAt w B d D) {v : Value} {xs : List UInt8} (hv : Txt w v xs) : Txt w' v xs := hv.only h.only (fun j hj => h0.foot_u8 hj)
theorem setNow {w : World} {B d : Nat} {D : Dk} {v : Value} {xs : List UInt8} (h : DiskAt w B d D) (hv : Txt w v xs) (nm : ByteArray) :
  ∃ w', (Instr.mapUpdate 55 (.map (some D.nb)) (.string nm) v).run Try.prog w = .ok () w' ∧ Turned w w' B d D { D with now := mput D.now nm (v, xs) } := by
 obtain ⟨w', hrun, hm, hg, hs⟩ := h.nowM.upd (P := Try.prog) (t := 55) Try.underlying55 Try.underlying9 nm v
 have ho : Only (fun j => j = D.nb) w w' := (Only.of_grown hg).weak (fun j _ e => (Option.some.inj e).symm)
 have hu : ∀ j, j = D.nb → ¬ IsU8 w j := fun j e => by rw [e]; exact h.nowM.notU8
 refine ⟨w', hrun, ⟨?_, ho.weak (fun j _ e => .inr (.inl e)), fun j hj => .inl hj⟩⟩
 have hbx : d ≠ D.nb := fun e => by
  rcases h.box.2 with ⟨h1, -⟩ | ⟨g, cap, cur, h1, -, hh, -⟩
  · cases h1
  ·
   simp only [Value.slice.injEq, Option.some.injEq, Addr.mk.injEq, and_true, true_and] at h1
   exact h.nowM.cell _ _ _ (by rw [← e, h1.1]; exact hh)
 refine ⟨ownsRow_only h.box ho (fun g hg e => hbx (by simp only [Value.ownBlock, Option.some.injEq] at hg; omega)), ?_, h.durM.only ho (fun e => h.ne e.symm), h.ne, h.lo,
  ownsRow_only h.row ho (fun g hg e => ?_), fun f hf => ?_, fun f hf => (h.fdur f hf).only ho hu, fun f hf => (h.fchg f hf).only ho hu, mput_nodup h.know, h.kdur⟩
 ·
  show MapIs w' D.nb (mmap Prod.fst (mput D.now nm (v, xs)))
  rw [← mput_map]
  exact hm
 ·
  subst e
  rcases h.row.2 with ⟨h1, -⟩ | ⟨g', cap, cur, h1, -, hh, -⟩
  · rw [h1] at hg; cases hg
  ·
   rw [h1] at hg
   simp only [Value.ownBlock, Option.some.injEq] at hg
   exact h.nowM.cell _ _ _ (by rw [← hg]; exact hh)
 ·
  rcases mput_mem hf with rfl | hf
  · exact hv.only ho hu
  · exact (h.fnow f hf).only ho hu
theorem DiskAt.map_ne {w : World} {B d : Nat} {D : Dk} (h : DiskAt w B d D) {sz n : Nat} {e : TypeId} {v : Value} {xs : List Value} {b : Nat} (hr : w.ownsRow b e sz v n xs) {j : Nat} (hj : v.ownBlock = some j) : j ≠ D.nb ∧ j ≠ D.ub := by
 rcases hr.2 with ⟨rfl, -⟩ | ⟨g, cap, cur, rfl, -, hh, -⟩
 · simp [Value.ownBlock] at hj
 ·
  simp only [Value.ownBlock, Option.some.injEq] at hj
  subst hj
  exact ⟨fun e => h.nowM.cell _ _ _ (by rw [← e]; exact hh), fun e => h.durM.cell _ _ _ (by rw [← e]; exact hh)⟩
theorem DiskAt.row_ne {w : World} {B d : Nat} {D : Dk} (h : DiskAt w B d D) {j : Nat} (hj : D.cv.ownBlock = some j) : j ≠ d := by
 rintro rfl
 exact own_apart h.row h.box (by decide) _ hj rfl
theorem addChg {w w2 : World} {B d : Nat} {D : Dk} {cv2 : Value} {c : Chg} (h : DiskAt w B d D) (hc : Txt w c.dv c.d) (hr : w2.ownsRow B 96 4 cv2 (D.chg.length + 1) (flatF Chg.cells D.chg ++ c.cells)) (hg : w.grownBy w2 D.cv.ownBlock)
  (hnew : ∀ j, cv2.ownBlock = some j → D.cv.ownBlock = some j ∨ w.heap.size ≤ j) :
  Turned w (w2.setCell ⟨d, 4, none⟩ cv2) B d D { D with cv := cv2, chg := D.chg ++ [c] } := by
 have ho2 : Only (fun j => D.cv.ownBlock = some j) w w2 := Only.of_grown hg
 have hd := (h.foot_lt (.inl rfl)).2
 have hb2 : w2.ownsRow B 58 5 (.slice (some ⟨d, 0, none⟩) 1 1) 1 D.cells := ownsRow_only h.box ho2 (fun g hg e => h.row_ne e (by simp only [Value.ownBlock, Option.some.injEq] at hg; exact hg.symm))
 have hst := World.ownsRow.stored hb2 4 cv2
 have ho3 : Only (fun j => j = d) w2 (w2.setCell ⟨d, 4, none⟩ cv2) := (Only.of_grown hst.2).weak (fun j _ e => (Option.some.inj e).symm)
 have ho : Only (fun j => j = d ∨ D.cv.ownBlock = some j) w (w2.setCell ⟨d, 4, none⟩ cv2) := (ho2.weak (fun j _ e => .inr e)).trans ho3 (fun j _ e => .inl e)
 have hu : ∀ j, (j = d ∨ D.cv.ownBlock = some j) → ¬ IsU8 w j := fun j e => h.foot_u8 (e.elim .inl (fun e => .inr (.inr (.inr e))))
 refine ⟨⟨hst.1, h.nowM.only ho ?_, h.durM.only ho ?_, h.ne, h.lo, ?_, fun f hf => (h.fnow f hf).only ho hu, fun f hf => (h.fdur f hf).only ho hu, fun f hf => ?_, h.know, h.kdur⟩, ho.weak (fun j _ e => e.elim .inl (fun e => .inr (.inr (.inr e)))), ?_⟩
 ·
  rintro (e | e)
  · exact (h.map_ne h.box (j := d) rfl).1 e.symm
  · exact (h.map_ne h.row e).1 rfl
 ·
  rintro (e | e)
  · exact (h.map_ne h.box (j := d) rfl).2 e.symm
  · exact (h.map_ne h.row e).2 rfl
 ·
  have := ownsRow_only hr ho3 (fun g hg e => by subst e; exact own_apart hr hb2 (by decide) _ hg rfl)
  show (w2.setCell ⟨d, 4, none⟩ cv2).ownsRow B 96 4 cv2 (D.chg ++ [c]).length (flatF Chg.cells (D.chg ++ [c]))
  rw [List.length_append, flatF_append, flatF_one]
  exact this
 ·
  rcases List.mem_append.1 hf with hf | hf
  · exact (h.fchg f hf).only ho hu
  · rw [List.mem_singleton.1 hf]; exact hc.only ho hu
 ·
  rintro j (e | e | e | e)
  · exact .inl (.inl e)
  · exact .inl (.inr (.inl e))
  · exact .inl (.inr (.inr (.inl e)))
  · exact (hnew j e).elim (fun e => .inl (.inr (.inr (.inr e)))) .inr
theorem DiskAt.drew {w : World} {B d : Nat} {D : Dk} (h : DiskAt w B d D) : DiskAt w.drew B d D := h.below ((Below.refl _ _).drew)
theorem Txt.drew {w : World} {v : Value} {xs : List UInt8} (h : Txt w v xs) : Txt w.drew v xs := h.below ((Below.refl _ _).drew)
def fileOf (m : Files) (nm : ByteArray) : List UInt8 := ((mget m nm).map Prod.snd).getD []
def wrE (D : Dk) (nm : ByteArray) (at_ : Nat) (ys : List UInt8) : Int :=
 if rdyE D nm at_ ≠ 0 then rdyE D nm at_ else if (fileOf D.now nm).length < at_ then 8
 else if 0 < (at_ : Int) + ys.length - (fileOf D.now nm).length ∧ D.room - usedOf D.now < (at_ : Int) + ys.length - (fileOf D.now nm).length then 6 else 0
theorem mget_ents (m : Files) (nm : ByteArray) : mget m.ents nm = (mget m nm).map Prod.fst := mget_map Prod.fst m nm
theorem look_txt {w : World} {m : Files} (h : ∀ f ∈ m, Txt w f.2.1 f.2.2) (nm : ByteArray) : ∃ a c, (mget m.ents nm).getD (.slice none 0 0) = .slice a (fileOf m nm).length c ∧ Txt w (.slice a (fileOf m nm).length c) (fileOf m nm) := by
 rw [mget_ents]
 unfold fileOf
 cases hm : mget m nm with
 | none => exact ⟨none, 0, rfl, Txt.nil w⟩
 | some f =>
  have ht := h _ (mget_mem hm)
  obtain ⟨a, c, hv⟩ := ht.slice
  simp only at ht hv
  exact ⟨a, c, hv, by simp only [Option.map_some, Option.getD_some]; rw [← hv]; exact ht⟩
theorem zero_bytes (w : World) : (zeroValue 46).run Try.prog w = .ok (.slice none 0 0) w := by kernel_rfl
def wrD (D : Dk) (nm : ByteArray) (at_ : Nat) (ys : List UInt8) (nv dv cv : Value) : Dk := { D with now := mput D.now nm (nv, wrt (fileOf D.now nm) ys at_), chg := D.chg ++ [⟨0, nm, at_, dv, ys⟩], cv := cv }
def WrPost (w w' : World) (B d : Nat) (D : Dk) (nm : ByteArray) (at_ : Nat) (ys : List UInt8) (er : Int) : Prop := (er ≠ 0 ∧ Turned w w' B d D D) ∨ (er = 0 ∧ ∃ nv dv cv, Turned w w' B d D (wrD D nm at_ ys nv dv cv))
set_option maxHeartbeats 4000000 in
theorem dwrite_calls (d B : Nat) (D : Dk) (nm : ByteArray) (at_ : Nat) (dv : Value) (ys : List UInt8) (w : World) (h : DiskAt w B d D) (hv : Bytes w dv ys) (hvF : ∀ a n c, dv = .slice (some a) n c → ¬ D.foot d a.block) (hs : nm.size ≤ 140737488355328) (hat : at_ ≤ 1099511627776) (hy : ys.length ≤ 1099511627776)
  (hf : (fileOf D.now nm).length ≤ 1099511627776) (hus : usedOf D.now ≤ 1152921504606846976) (hn : D.chg.length ≤ 1000000) (hr0 : 0 ≤ D.room) (hr1 : D.room ≤ 1152921504606846976) :
  Calls Try.prog 17 #[.pointer (some ⟨d, 0, none⟩), .string nm, .int .i64 at_, dv] w fun e w' => ∃ er, e = .returned (.int .i64 er) ∧ er = wrE D nm at_ ys ∧ WrPost w w' B d D nm at_ ys er := by
 have HR := Lib.hid (dready_calls d B D nm at_ w h hs)
 have HE := Lib.hid (show wrE D nm at_ ys = if rdyE D nm at_ ≠ 0 then rdyE D nm at_ else if (fileOf D.now nm).length < at_ then 8
  else if 0 < (at_ : Int) + ys.length - (fileOf D.now nm).length ∧ D.room - usedOf D.now < (at_ : Int) + ys.length - (fileOf D.now nm).length then 6 else 0 from rfl)
 have HD := Lib.hid h
 have HV := Lib.hid hv
 have HVF := Lib.hid hvF
 clear hvF
 obtain ⟨va, vc, rfl, -⟩ := hv
 obtain ⟨U, hU⟩ : ∃ U, usedOf D.now = U := ⟨_, rfl⟩
 rw [hU] at hus
 have HU := Lib.hid hU
 clear h hU
 generalize wrE D nm at_ ys = wr at *
 generalize rdyE D nm at_ = rd at *
 go_enter Try.func17, Try.ntmps17
 go_wp2_with fail
 refine HR.out.mono ?_
 rintro e w1 ⟨rfl, hb1⟩
 have HD1 := Lib.hid (HD.out.below hb1)
 have HB1 := Lib.hid hb1
 have HV1 := Lib.hid (HV.out.below hb1 (Nat.le_refl _))
 have hs1 := hb1.size
 clear hb1 HR HV
 by_cases hrd : rd = 0
 ·
  subst hrd
  have HE := Lib.hid (show wr = if (fileOf D.now nm).length < at_ then 8
   else if 0 < (at_ : Int) + ys.length - (fileOf D.now nm).length ∧ D.room - U < (at_ : Int) + ys.length - (fileOf D.now nm).length then 6 else 0 from by rw [HE.out, ← HU.out]; rfl)
  obtain ⟨c0, -, c2, -, c4⟩ := HD1.out.cells
  have hlook := HD1.out.nowM.look (P := Try.prog) (t := 55) Try.underlying55 Try.underlying9 zero_bytes nm false
  simp only [Bool.false_eq_true, if_false] at hlook
  obtain ⟨fa, fc, hlk, hft⟩ := look_txt HD1.out.fnow nm
  rw [hlk] at hlook
  have HFT := Lib.hid hft
  have HUS := Lib.hid (dused_calls d B D)
  generalize hF : fileOf D.now nm = F at *
  have HF := Lib.hid hF
  clear hft hlk hF
  by_cases h8 : F.length < at_
  ·
   have HE := Lib.hid (show wr = 8 from by rw [HE.out, if_pos h8])
   have d1 : decide ((F.length : Int) < (at_ : Int)) = true := decide_eq_true (by omega)
   go_wp2_with fail
   go_ret
   exact ⟨_, rfl, HE.out.symm, .inl ⟨by decide, Turned.of_below HD.out HB1.out⟩⟩
  ·
   have HE := Lib.hid (show wr = if 0 < (at_ : Int) + ys.length - F.length ∧ D.room - U < (at_ : Int) + ys.length - F.length then 6 else 0 from by rw [HE.out, if_neg h8])
   have d1 : decide ((F.length : Int) < (at_ : Int)) = false := decide_eq_false (by omega)
   go_upto_region 8 with fail
   obtain ⟨M, hM⟩ : ∃ M : Int, (at_ : Int) + (ys.length : Int) - (F.length : Int) = M := ⟨_, rfl⟩
   rw [hM] at HE ⊢
   have hM1 : M ≤ 4611686018427387904 := by omega
   have hM2 : -4611686018427387904 ≤ M := by omega
   have q1 := i64w (n := D.room - (U : Int)) (by omega) (by omega)
   have q2 := w64 (n := D.room - (U : Int)) (by omega) (by omega)
   by_cases hm : 0 < M
   ·
    have d2 : decide (0 < M) = true := decide_eq_true hm
    refine region_m [(0, false), (1, false), (2, false), (3, false), (4, false), (5, false), (6, false), (7, false), (8, false), (9, true), (10, false), (11, false), (12, false)] 13 (fun V => V.cell? ⟨d, 0, none⟩ = some (.int .i64 D.room)) (by kernel_rfl) (by kernel_rfl) c0 ?_
    iterate 9
     first
     | (
       refine m_take (v := ?_) rfl rfl ?_ ?_
       rotate_left
       ·
        intro W hW
        go_simp
        with_reducible rfl
       simp only [Act.put, List.setIfInBounds_toArray, List.set_cons_zero, List.set_cons_succ])
     | (
       refine m_skip rfl rfl ?_
       simp only [Act.put, List.setIfInBounds_toArray, List.set_cons_zero, List.set_cons_succ])
    refine m_loud rfl (fun K hK => ?_)
    have HK := Lib.hid hK
    clear hK
    go_simp
    refine (HUS.out _ HD1.out.drew (by rw [HU.out]; exact hus)).mono ?_
    rintro e w2 ⟨rfl, hb2⟩
    rw [HU.out]
    have hb2 : Below w1.heap.size w1 w2 := ((Below.refl w1.heap.size w1).drew).trans hb2
    have HD2 := Lib.hid (HD1.out.below hb2)
    have HB2 := Lib.hid (HB1.out.trans (hb2.mono HB1.out.size))
    have HV2 := Lib.hid (HV1.out.below hb2 (Nat.le_refl _))
    have HFT2 := Lib.hid (HFT.out.below hb2)
    have hs2 := hb2.size
    refine HK.out _ _ HD2.out.cells.1 ?_
    clear HK
    clear hb2 c0 c2 c4
    by_cases hful : D.room - U < M
    ·
     have d3 : decide (D.room - (U : Int) < M) = true := decide_eq_true hful
     have HE := Lib.hid (show wr = 6 from by rw [HE.out, if_pos ⟨hm, hful⟩])
     iterate 3
      first
      | (
        refine m_take (v := ?_) rfl rfl ?_ ?_
        rotate_left
        ·
         intro W hW
         go_simp
         with_reducible rfl
        simp only [Act.put, List.setIfInBounds_toArray, List.set_cons_zero, List.set_cons_succ])
      | (
        refine m_skip rfl rfl ?_
        simp only [Act.put, List.setIfInBounds_toArray, List.set_cons_zero, List.set_cons_succ])
     refine m_done ?_
     simp only [List.drop_succ_cons, List.drop_zero]
     go_wp2_with fail
     simp only [NP]
     go_wp2_with fail
     go_ret
     exact ⟨_, rfl, HE.out.symm, .inl ⟨by decide, Turned.of_below HD.out HB2.out⟩⟩
    ·
     have d3 : decide (D.room - (U : Int) < M) = false := decide_eq_false hful
     have HE0 := Lib.hid (show wr = 0 from by rw [HE.out, if_neg (fun h => hful h.2)])
     iterate 3
      first
      | (
        refine m_take (v := ?_) rfl rfl ?_ ?_
        rotate_left
        ·
         intro W hW
         go_simp
         with_reducible rfl
        simp only [Act.put, List.setIfInBounds_toArray, List.set_cons_zero, List.set_cons_succ])
      | (
        refine m_skip rfl rfl ?_
        simp only [Act.put, List.setIfInBounds_toArray, List.set_cons_zero, List.set_cons_succ])
     refine m_done ?_
     simp only [List.drop_succ_cons, List.drop_zero]
     generalize w2 = V at *
     have HDV := HD2
     have HBV := HB2
     have HVV := HV2
     have HFV := HFT2
     clear HD2 HB2 HV2 HFT2
     -- from region 10 on, in the world V
     have HE := Lib.hid (show wr = 0 from HE0.out)
     obtain ⟨c0, -, c2, -, c4⟩ := HDV.out.cells
     go_upto_region 10 with fail
     simp only [NP]
     go_upto_region 10 with fail
     refine region_m [(0, false), (1, false), (2, false), (3, false), (4, false), (5, false), (6, false), (7, false), (8, true)] 9 (fun X => X.cell? ⟨d, 2, none⟩ = some (.map (some D.nb))) (by kernel_rfl) (by kernel_rfl) c2 ?_
     iterate 8
      first
      | (
        refine m_take (v := ?_) rfl rfl ?_ ?_
        rotate_left
        ·
         intro W hW
         go_simp
         with_reducible rfl
        simp only [Act.put, List.setIfInBounds_toArray, List.set_cons_zero, List.set_cons_succ])
      | (
        refine m_skip rfl rfl ?_
        simp only [Act.put, List.setIfInBounds_toArray, List.set_cons_zero, List.set_cons_succ])
     refine m_loud rfl (fun K hK => ?_)
     have HK := Lib.hid hK
     clear hK
     go_simp
     refine (dwritten_calls _ _ F ys at_ _ (HFV.out.drew).1 (HVV.out.below ((Below.refl _ _).drew) (Nat.le_refl _)) (by omega) (by omega) (by omega)).mono ?_
     rintro e w4 ⟨nv, rfl, hm4, hb4⟩
     have hb4 : Below V.heap.size V w4 := ((Below.refl V.heap.size V).drew).trans hb4
     have HD4 := Lib.hid (HDV.out.below hb4)
     have HB4 := Lib.hid (HBV.out.trans (hb4.mono HBV.out.size))
     have HM4 := Lib.hid (Txt.of_mine hm4)
     have HV4 := Lib.hid (HVV.out.below hb4 (Nat.le_refl _))
     have hs4 := hb4.size
     refine HK.out _ _ HD4.out.cells.2.2.1 ?_
     clear HK
     clear hm4 hb4 c0 c2 c4
     refine m_done ?_
     simp only [List.drop_succ_cons, List.drop_zero]
     obtain ⟨w5, hr5, ht5⟩ := setNow HD4.out HM4.out nm
     have HT5 := Lib.hid ((Turned.of_below HD.out HB4.out).trans ht5)
     have HD5 := Lib.hid ht5.is
     have HON5 := Lib.hid ht5.only
     have c4 := ht5.is.cells.2.2.2.2
     have HV5 := Lib.hid (HV4.out.only ht5.only (fun a n c e hf => HVF.out a n c e hf))
     have hs5 := ht5.only.size
     clear ht5
     go_upto_region 11 with fail
     simp only [NP]
     go_upto_region 11 with fail
     refine region_m [(0, false), (1, false), (2, false), (3, false), (4, false), (5, false), (6, false), (7, false), (8, true), (9, false), (10, true), (11, true)] 12 (fun X => X.cell? ⟨d, 4, none⟩ = some D.cv) (by kernel_rfl) (by kernel_rfl) c4 ?_
     iterate 8
      first
      | (
        refine m_take (v := ?_) rfl rfl ?_ ?_
        rotate_left
        ·
         intro W hW
         go_simp
         with_reducible rfl
        simp only [Act.put, List.setIfInBounds_toArray, List.set_cons_zero, List.set_cons_succ])
      | (
        refine m_skip rfl rfl ?_
        simp only [Act.put, List.setIfInBounds_toArray, List.set_cons_zero, List.set_cons_succ])
     refine m_loud rfl (fun K hK => ?_)
     have HK := Lib.hid hK
     clear hK
     go_simp
     refine (cloneB_calls _ ys _ (HV5.out.below ((Below.refl _ _).drew) (Nat.le_refl _)) (by omega)).mono ?_
     rintro e w6 ⟨cv', rfl, hm6, hb6⟩
     have hb6 : Below w5.heap.size w5 w6 := ((Below.refl w5.heap.size w5).drew).trans hb6
     have HT6 := Lib.hid (HT5.out.below hb6)
     have HM6 := Lib.hid (Txt.of_mine hm6)
     obtain ⟨xa, xc, rfl⟩ := hm6.slice
     have c6 := HT6.out.is.cells.2.2.2.2
     have c6 : w6.cell? ⟨d, 4, none⟩ = some D.cv := c6
     refine HK.out _ _ c6 ?_
     clear HK
     clear hm6 hb6 c4
     iterate 1
      first
      | (
        refine m_take (v := ?_) rfl rfl ?_ ?_
        rotate_left
        ·
         intro W hW
         go_simp
         with_reducible rfl
        simp only [Act.put, List.setIfInBounds_toArray, List.set_cons_zero, List.set_cons_succ])
      | (
        refine m_skip rfl rfl ?_
        simp only [Act.put, List.setIfInBounds_toArray, List.set_cons_zero, List.set_cons_succ])
     refine m_loud rfl (fun K hK => ?_)
     have HK := Lib.hid hK
     clear hK
     go_simp
     have hb7 := below_alloc w6 (.cells #[.int .i64 0, .string nm, .int .i64 at_, .slice xa ys.length xc] 96)
     have HT7 := Lib.hid (HT6.out.below hb7)
     have c7 : (w6.alloc (.cells #[.int .i64 0, .string nm, .int .i64 at_, .slice xa ys.length xc] 96)).cell? ⟨d, 4, none⟩ = some D.cv := HT7.out.is.cells.2.2.2.2
     have HM7 := Lib.hid (HM6.out.below hb7)
     have HLIT := Lib.hid (Rd.lit (w := w6) (cs := #[.int .i64 0, .string nm, .int .i64 at_, .slice xa ys.length xc]) (e := 96) (n := 1) (sz := 4) rfl (by omega))
     refine HK.out _ _ c7 ?_
     clear HK
     clear hb7 c6
     have hB7 : B ≤ (w6.alloc (.cells #[.int .i64 0, .string nm, .int .i64 at_, .slice xa ys.length xc] 96)).heap.size := by have := HT7.out.is.foot_lt (.inl rfl); omega
     generalize hW7 : w6.alloc (.cells #[.int .i64 0, .string nm, .int .i64 at_, .slice xa ys.length xc] 96) = w7 at *
     have HW7 := Lib.hid hW7
     clear hW7
     refine m_app tyChgs (base := B) (n := D.chg.length) HT7.out.is.row HLIT.out (by simp [Value.oneCell']) (by omega) (by omega) (by omega) hB7 rfl rfl rfl rfl rfl ?_
     intro g cap w8 ho8 hold8 hg8 hgc8
     have ht8 := addChg (c := ⟨0, nm, at_, .slice xa ys.length xc, ys⟩) HT7.out.is HM7.out (by have := ho8; exact this) hg8 (fun j e => by
      simp only [Value.ownBlock, Option.some.injEq] at e
      subst e
      rcases hgc8 with ⟨k, c, e, -⟩ | e
      · exact .inl (by rw [show ({ D with now := mput D.now nm (nv, wrt F ys at_) } : Dk).cv = D.cv from rfl] at *; rw [e]; rfl)
      · exact .inr e)
     have HT8 := Lib.hid (HT7.out.trans ht8)
     have hrb := ownsRow_only HT7.out.is.box (Only.of_grown hg8) (fun g hg e => HT7.out.is.row_ne e (by simp only [Value.ownBlock, Option.some.injEq] at hg; exact hg.symm))
     have c8 : w8.cell? ⟨d, 4, none⟩ = some D.cv := by
      have e := fun j u hj => World.ownsRow.cells hrb (g := d) rfl j u hj
      simp only [add_off, Nat.zero_add] at e
      exact e 4 _ rfl
     have f8 : w8.frozen? ⟨d, 4, none⟩ = false := World.ownsRow.frozenAt hrb 4
     refine ⟨c8, ?_⟩
     clear ht8 ho8 hold8 hg8 hgc8 hrb c7
     refine m_done ?_
     simp only [List.drop_succ_cons, List.drop_zero]
     go_wp2_with fail
     simp only [NP]
     go_wp2_with fail
     go_ret
     exact ⟨_, rfl, HE.out.symm, .inr ⟨rfl, nv, _, _, by unfold wrD; rw [HF.out]; exact HT8.out⟩⟩
   ·
    have d2 : decide (0 < M) = false := decide_eq_false hm
    have HE0 := Lib.hid (show wr = 0 from by rw [HE.out, if_neg (fun h => hm h.1)])
    refine region_m [(0, false), (1, false), (2, false), (3, false), (4, false), (5, false), (6, false), (7, false), (8, false), (9, true), (10, false), (11, false), (12, false)] 13 (fun V => True) (by kernel_rfl) (by kernel_rfl) trivial ?_
    iterate 9
     first
     | (
       refine m_take (v := ?_) rfl rfl ?_ ?_
       rotate_left
       ·
        intro W hW
        go_simp
        with_reducible rfl
       simp only [Act.put, List.setIfInBounds_toArray, List.set_cons_zero, List.set_cons_succ])
     | (
       refine m_skip rfl rfl ?_
       simp only [Act.put, List.setIfInBounds_toArray, List.set_cons_zero, List.set_cons_succ])
    refine m_loud rfl (fun K hK => ?_)
    have HK := Lib.hid hK
    clear hK
    go_simp
    refine HK.out _ _ trivial ?_
    clear HK
    iterate 3
     first
     | (
       refine m_take (v := ?_) rfl rfl ?_ ?_
       rotate_left
       ·
        intro W hW
        go_simp
        with_reducible rfl
       simp only [Act.put, List.setIfInBounds_toArray, List.set_cons_zero, List.set_cons_succ])
     | (
       refine m_skip rfl rfl ?_
       simp only [Act.put, List.setIfInBounds_toArray, List.set_cons_zero, List.set_cons_succ])
    refine m_done ?_
    simp only [List.drop_succ_cons, List.drop_zero]
    have HDV := Lib.hid HD1.out.drew
    have HBV := Lib.hid HB1.out.drew
    have HVV := Lib.hid (HV1.out.below ((Below.refl _ _).drew) (Nat.le_refl _))
    have HFV := Lib.hid HFT.out.drew
    clear HD1 HB1 HV1 HFT
    generalize w1.drew = V at *
    -- from region 10 on, in the world V
    have HE := Lib.hid (show wr = 0 from HE0.out)
    obtain ⟨c0, -, c2, -, c4⟩ := HDV.out.cells
    go_upto_region 10 with fail
    simp only [NP]
    go_upto_region 10 with fail
    refine region_m [(0, false), (1, false), (2, false), (3, false), (4, false), (5, false), (6, false), (7, false), (8, true)] 9 (fun X => X.cell? ⟨d, 2, none⟩ = some (.map (some D.nb))) (by kernel_rfl) (by kernel_rfl) c2 ?_
    iterate 8
     first
     | (
       refine m_take (v := ?_) rfl rfl ?_ ?_
       rotate_left
       ·
        intro W hW
        go_simp
        with_reducible rfl
       simp only [Act.put, List.setIfInBounds_toArray, List.set_cons_zero, List.set_cons_succ])
     | (
       refine m_skip rfl rfl ?_
       simp only [Act.put, List.setIfInBounds_toArray, List.set_cons_zero, List.set_cons_succ])
    refine m_loud rfl (fun K hK => ?_)
    have HK := Lib.hid hK
    clear hK
    go_simp
    refine (dwritten_calls _ _ F ys at_ _ (HFV.out.drew).1 (HVV.out.below ((Below.refl _ _).drew) (Nat.le_refl _)) (by omega) (by omega) (by omega)).mono ?_
    rintro e w4 ⟨nv, rfl, hm4, hb4⟩
    have hb4 : Below V.heap.size V w4 := ((Below.refl V.heap.size V).drew).trans hb4
    have HD4 := Lib.hid (HDV.out.below hb4)
    have HB4 := Lib.hid (HBV.out.trans (hb4.mono HBV.out.size))
    have HM4 := Lib.hid (Txt.of_mine hm4)
    have HV4 := Lib.hid (HVV.out.below hb4 (Nat.le_refl _))
    have hs4 := hb4.size
    refine HK.out _ _ HD4.out.cells.2.2.1 ?_
    clear HK
    clear hm4 hb4 c0 c2 c4
    refine m_done ?_
    simp only [List.drop_succ_cons, List.drop_zero]
    obtain ⟨w5, hr5, ht5⟩ := setNow HD4.out HM4.out nm
    have HT5 := Lib.hid ((Turned.of_below HD.out HB4.out).trans ht5)
    have HD5 := Lib.hid ht5.is
    have HON5 := Lib.hid ht5.only
    have c4 := ht5.is.cells.2.2.2.2
    have HV5 := Lib.hid (HV4.out.only ht5.only (fun a n c e hf => HVF.out a n c e hf))
    have hs5 := ht5.only.size
    clear ht5
    go_upto_region 11 with fail
    simp only [NP]
    go_upto_region 11 with fail
    refine region_m [(0, false), (1, false), (2, false), (3, false), (4, false), (5, false), (6, false), (7, false), (8, true), (9, false), (10, true), (11, true)] 12 (fun X => X.cell? ⟨d, 4, none⟩ = some D.cv) (by kernel_rfl) (by kernel_rfl) c4 ?_
    iterate 8
     first
     | (
       refine m_take (v := ?_) rfl rfl ?_ ?_
       rotate_left
       ·
        intro W hW
        go_simp
        with_reducible rfl
       simp only [Act.put, List.setIfInBounds_toArray, List.set_cons_zero, List.set_cons_succ])
     | (
       refine m_skip rfl rfl ?_
       simp only [Act.put, List.setIfInBounds_toArray, List.set_cons_zero, List.set_cons_succ])
    refine m_loud rfl (fun K hK => ?_)
    have HK := Lib.hid hK
    clear hK
    go_simp
    refine (cloneB_calls _ ys _ (HV5.out.below ((Below.refl _ _).drew) (Nat.le_refl _)) (by omega)).mono ?_
    rintro e w6 ⟨cv', rfl, hm6, hb6⟩
    have hb6 : Below w5.heap.size w5 w6 := ((Below.refl w5.heap.size w5).drew).trans hb6
    have HT6 := Lib.hid (HT5.out.below hb6)
    have HM6 := Lib.hid (Txt.of_mine hm6)
    obtain ⟨xa, xc, rfl⟩ := hm6.slice
    have c6 := HT6.out.is.cells.2.2.2.2
    have c6 : w6.cell? ⟨d, 4, none⟩ = some D.cv := c6
    refine HK.out _ _ c6 ?_
    clear HK
    clear hm6 hb6 c4
    iterate 1
     first
     | (
       refine m_take (v := ?_) rfl rfl ?_ ?_
       rotate_left
       ·
        intro W hW
        go_simp
        with_reducible rfl
       simp only [Act.put, List.setIfInBounds_toArray, List.set_cons_zero, List.set_cons_succ])
     | (
       refine m_skip rfl rfl ?_
       simp only [Act.put, List.setIfInBounds_toArray, List.set_cons_zero, List.set_cons_succ])
    refine m_loud rfl (fun K hK => ?_)
    have HK := Lib.hid hK
    clear hK
    go_simp
    have hb7 := below_alloc w6 (.cells #[.int .i64 0, .string nm, .int .i64 at_, .slice xa ys.length xc] 96)
    have HT7 := Lib.hid (HT6.out.below hb7)
    have c7 : (w6.alloc (.cells #[.int .i64 0, .string nm, .int .i64 at_, .slice xa ys.length xc] 96)).cell? ⟨d, 4, none⟩ = some D.cv := HT7.out.is.cells.2.2.2.2
    have HM7 := Lib.hid (HM6.out.below hb7)
    have HLIT := Lib.hid (Rd.lit (w := w6) (cs := #[.int .i64 0, .string nm, .int .i64 at_, .slice xa ys.length xc]) (e := 96) (n := 1) (sz := 4) rfl (by omega))
    refine HK.out _ _ c7 ?_
    clear HK
    clear hb7 c6
    have hB7 : B ≤ (w6.alloc (.cells #[.int .i64 0, .string nm, .int .i64 at_, .slice xa ys.length xc] 96)).heap.size := by have := HT7.out.is.foot_lt (.inl rfl); omega
    generalize hW7 : w6.alloc (.cells #[.int .i64 0, .string nm, .int .i64 at_, .slice xa ys.length xc] 96) = w7 at *
    have HW7 := Lib.hid hW7
    clear hW7
    refine m_app tyChgs (base := B) (n := D.chg.length) HT7.out.is.row HLIT.out (by simp [Value.oneCell']) (by omega) (by omega) (by omega) hB7 rfl rfl rfl rfl rfl ?_
    intro g cap w8 ho8 hold8 hg8 hgc8
    have ht8 := addChg (c := ⟨0, nm, at_, .slice xa ys.length xc, ys⟩) HT7.out.is HM7.out (by have := ho8; exact this) hg8 (fun j e => by
     simp only [Value.ownBlock, Option.some.injEq] at e
     subst e
     rcases hgc8 with ⟨k, c, e, -⟩ | e
     · exact .inl (by rw [show ({ D with now := mput D.now nm (nv, wrt F ys at_) } : Dk).cv = D.cv from rfl] at *; rw [e]; rfl)
     · exact .inr e)
    have HT8 := Lib.hid (HT7.out.trans ht8)
    have hrb := ownsRow_only HT7.out.is.box (Only.of_grown hg8) (fun g hg e => HT7.out.is.row_ne e (by simp only [Value.ownBlock, Option.some.injEq] at hg; exact hg.symm))
    have c8 : w8.cell? ⟨d, 4, none⟩ = some D.cv := by
     have e := fun j u hj => World.ownsRow.cells hrb (g := d) rfl j u hj
     simp only [add_off, Nat.zero_add] at e
     exact e 4 _ rfl
    have f8 : w8.frozen? ⟨d, 4, none⟩ = false := World.ownsRow.frozenAt hrb 4
    refine ⟨c8, ?_⟩
    clear ht8 ho8 hold8 hg8 hgc8 hrb c7
    refine m_done ?_
    simp only [List.drop_succ_cons, List.drop_zero]
    go_wp2_with fail
    simp only [NP]
    go_wp2_with fail
    go_ret
    exact ⟨_, rfl, HE.out.symm, .inr ⟨rfl, nv, _, _, by unfold wrD; rw [HF.out]; exact HT8.out⟩⟩
 ·
  have e1 : (rd != 0) = true := by simp [hrd]
  have HE := Lib.hid (show wr = rd from by rw [HE.out, if_pos hrd])
  go_wp2_with fail
  go_ret
  exact ⟨_, rfl, HE.out.symm, .inl ⟨hrd, Turned.of_below HD.out HB1.out⟩⟩
end Go.Proofs.Ytmafnjidhjabgaa
namespace Go.Proofs.Ytmafnjidhjabgaa
open Go.RowKit Go.Shelf
set_option linter.unusedVariables false
set_option linter.unusedSimpArgs false
set_option maxRecDepth 100000
def isNm (nm : ByteArray) (c : Chg) : Bool := c.nm.toList == nm.toList
def ChgOk (c : Chg) : Prop := ∃ a l m, c.dv = .slice a l m
set_option maxHeartbeats 400000 in
theorem cloneC_calls (v : Value) (n : Nat) (cs : List Value) (w : World) (hv : Rd w 4 v n cs) (h1 : ∀ u ∈ cs, u.oneCell' = true) (hl : n ≤ 2000000) :
  Calls Try.prog 78 #[v] w fun e w' => ∃ v', e = .returned v' ∧ w'.ownsRow w.heap.size 96 4 v' n cs ∧ Below w.heap.size w w' := by
 have HV := Lib.hid hv
 have H1 := Lib.hid h1
 obtain ⟨a, c, rfl, hn, hle, hc, h3⟩ := hv
 clear h1
 cases a with
 | none =>
  have h0 : n = 0 := by
   rcases h3 with h3 | ⟨b, o, h, -⟩
   · omega
   · cases h
  subst h0
  have hx : cs = [] := List.eq_nil_of_length_eq_zero (by omega)
  subst hx
  clear h3 hn
  have hnil := fun (w : World) => Lib.run_eql_slice_nil (P := Try.prog) w 56 96 none 0 c 0 0 Try.underlying56
  go_enter Try.func78, Try.ntmps78
  go_wp2
  go_ret
  exact ⟨_, rfl, World.ownsRow_nil _ _ _ _, Below.refl _ _⟩
 | some x =>
  clear h3 hn
  have hnil := fun (w : World) => Lib.run_eql_slice_nil (P := Try.prog) w 56 96 (some x) n c 0 0 Try.underlying56
  have hlit := World.ownsRow_lit (base := w.heap.size) (size := 4) (e := 96) w #[] 0 (Nat.le_refl _) (by unfold maxLen; omega) (by simp)
  have hal := (Below.refl w.heap.size w).alloc (Nat.le_refl _) (.cells #[] 96)
  have HR := Lib.hid (HV.out.below hal (Nat.le_refl _))
  have HLIT := Lib.hid hlit
  have HAL := Lib.hid hal
  clear hlit hal
  go_enter Try.func78, Try.ntmps78
  go_wp2_with (at_builtin; go_loud (refine app_list tyChgs HLIT.out HR.out H1.out (by omega) (by omega) HAL.out.size rfl rfl rfl rfl ?_; intro v3 w3 hm3 hb3 hn3; obtain ⟨ga, gc, rfl⟩ := own_slice hm3))
  go_ret
  refine ⟨_, rfl, ?_, ?_⟩
  · simpa using hm3
  · exact HAL.out.grown hb3 HAL.out.size (fun j e => (World.ownsRow.lt HLIT.out j e).1)
set_option maxHeartbeats 400000 in
theorem named_calls (b : Nat) (nm : ByteArray) (c : Chg) (w : World) (hb : w.cell? ⟨b, 0, none⟩ = some (.string nm)) (hd : c.dv.oneCell' = true) :
  Calls Try.prog 75 #[.agg #[.int .i64 c.k, .string c.nm, .int .i64 c.at_, c.dv], .pointer (some ⟨b, 0, none⟩)] w fun e w' => e = .returned (.bool (isNm nm c)) ∧ Below w.heap.size w w' := by
 have hal := below_alloc w (.cells #[.int .i64 c.k, .string c.nm, .int .i64 c.at_, c.dv] 96)
 have d0 := cell_later hal hb
 have HAL := Lib.hid hal
 clear hal hb
 go_enter Try.func75, Try.ntmps75
 go_wp2_with fail
 go_ret
 exact ⟨rfl, HAL.out⟩
theorem chg_at {w : World} {a : Option Addr} {n cap : Nat} {es : List Chg} (h : Rd w 4 (.slice a n cap) es.length (flatF Chg.cells es)) (i : Nat) (hi : i < es.length) :
  ∃ b o, a = some ⟨b, o, none⟩ ∧ w.cell? ⟨b, o + i * 4, none⟩ = some (.int .i64 es[i].k) ∧ w.cell? ⟨b, o + i * 4 + 1, none⟩ = some (.string es[i].nm) ∧ w.cell? ⟨b, o + i * 4 + 2, none⟩ = some (.int .i64 es[i].at_) ∧ w.cell? ⟨b, o + i * 4 + 3, none⟩ = some es[i].dv := by
 obtain ⟨b, o, rfl, he⟩ := rdF_at (k := 4) chg4 h i hi
 exact ⟨b, o, rfl, he 0 _ (by omega) rfl, he 1 _ (by omega) rfl, he 2 _ (by omega) rfl, he 3 _ (by omega) rfl⟩
set_option maxHeartbeats 1000000 in
theorem idxC_calls (v : Value) (es : List Chg) (b : Nat) (nm : ByteArray) (w : World) (eg : ∀ args w, (callFunc 75 args).run Try.prog w = .ok (.enter 75 args) w) (hv : Rd w 4 v es.length (flatF Chg.cells es)) (hok : ∀ c ∈ es, ChgOk c) (hb : w.cell? ⟨b, 0, none⟩ = some (.string nm)) (hn : es.length ≤ 2000000) :
  Calls Try.prog 94 #[v, .func (.func 75) #[] #[.pointer (some ⟨b, 0, none⟩)]] w fun e w' => ((∃ i : Nat, ∃ h : i < es.length, isNm nm es[i] = true ∧ (∀ r ∈ es.take i, isNm nm r = false) ∧ e = .returned (.int .i64 i)) ∨ ((∀ r ∈ es, isNm nm r = false) ∧ e = .returned (.int .i64 (-1)))) ∧ Below w.heap.size w w' := by
 have HV := Lib.hid hv
 have HOK := Lib.hid hok
 have HBX := Lib.hid hb
 obtain ⟨a, cap, rfl, hle, hcap⟩ := Rd.slice hv
 clear hv hok hb
 go_enter Try.func94, Try.ntmps94
 go_wp2_with fail
 go_loopw [5, 8] (fun _ i wr => ∃ k : Nat, k ≤ es.length ∧ i = .int .i64 k ∧ (∀ r ∈ es.take k, isNm nm r = false) ∧ Below w.heap.size w wr) (fun _ i _ => es.length - (intOf i).toNat)
 case atStart => exact ⟨0, by omega, rfl, by simp, Below.refl _ _⟩
 case round =>
  obtain ⟨k, hk, rfl, hno, hb⟩ := hrel
  have HB := Lib.hid hb
  have HNO := Lib.hid hno
  clear hno
  by_cases hlt : k < es.length
  ·
   obtain ⟨rb, o, rfl, c0, c1, c2, c3⟩ := chg_at HV.out k hlt
   have d0 := cell_later hb c0
   have d1 := cell_later hb c1
   have d2 := cell_later hb c2
   have d3 := cell_later hb c3
   have db := cell_later hb HBX.out
   have HNX := Lib.hid (show es.take (k + 1) = es.take k ++ [es[k]] from List.take_succ_eq_append_getElem hlt)
   obtain ⟨da, dl, dc, hdv⟩ := HOK.out es[k] (List.getElem_mem _)
   have HC := Lib.hid (named_calls b nm es[k] wr db (by rw [hdv]; rfl))
   rw [hdv] at d3 HC
   have HR := Lib.hid (show ∃ R, R = es[k] from ⟨_, rfl⟩)
   clear hb c0 c1 c2 c3 db hdv
   generalize hR : es[k] = R at *
   have HR := Lib.hid hR
   clear hR
   go_wp2_with fail
   refine HC.out.mono ?_
   rintro e w1 ⟨rfl, hb1⟩
   have HB3 := Lib.hid (HB.out.trans (hb1.mono HB.out.size))
   clear hb1
   cases hpr : isNm nm R with
   | true =>
    have HPR := Lib.hid hpr
    clear hpr
    go_wp2_with fail
    go_ret
    exact ⟨.inl ⟨k, hlt, by rw [HR.out]; exact HPR.out, HNO.out, rfl⟩, HB3.out⟩
   | false =>
    have HPR := Lib.hid hpr
    clear hpr
    go_wp2_with fail
    go_roundw
    case rel =>
     refine ⟨k + 1, by omega, by go_num, fun r hr => ?_, HB3.out⟩
     rw [HNX.out] at hr
     rcases List.mem_append.1 hr with hr | hr
     · exact HNO.out r hr
     · rw [List.mem_singleton.1 hr]; exact HPR.out
    case measure => simp [intOf]; omega
  ·
   obtain rfl : k = es.length := by omega
   clear hb
   go_wp2_with fail
   go_ret
   refine ⟨.inr ⟨fun r hr => HNO.out r (by rw [List.take_length]; exact hr), rfl⟩, HB.out⟩
set_option maxHeartbeats 1000000 in
theorem hasC_calls (v : Value) (es : List Chg) (b : Nat) (nm : ByteArray) (w : World) (eg : ∀ args w, (callFunc 75 args).run Try.prog w = .ok (.enter 75 args) w) (hv : Rd w 4 v es.length (flatF Chg.cells es)) (hok : ∀ c ∈ es, ChgOk c) (hb : w.cell? ⟨b, 0, none⟩ = some (.string nm)) (hn : es.length ≤ 2000000) :
  Calls Try.prog 76 #[v, .func (.func 75) #[] #[.pointer (some ⟨b, 0, none⟩)]] w fun e w' => e = .returned (.bool (es.any (isNm nm))) ∧ Below w.heap.size w w' := by
 have HC := Lib.hid (idxC_calls v es b nm w eg hv hok hb hn)
 obtain ⟨a, cap, rfl, hle, hcap⟩ := Rd.slice hv
 clear hv hok hb
 go_enter Try.func76, Try.ntmps76
 go_wp2_with fail
 refine HC.out.mono ?_
 rintro e w1 ⟨hr, hb⟩
 have HB := Lib.hid hb
 clear hb
 rcases hr with ⟨i, hi, hs, -, rfl⟩ | ⟨hall, rfl⟩
 ·
  have HA := Lib.hid (show es.any (isNm nm) = true from List.any_eq_true.2 ⟨_, List.getElem_mem hi, hs⟩)
  have d1 : decide ((0 : Int) ≤ (i : Int)) = true := decide_eq_true (by omega)
  clear hs
  go_wp2_with fail
  go_ret
  exact ⟨by rw [HA.out]; rfl, HB.out⟩
 ·
  have HA := Lib.hid (show es.any (isNm nm) = false from by rw [Bool.eq_false_iff]; intro h; obtain ⟨c, hc, h⟩ := List.any_eq_true.1 h; rw [hall c hc] at h; cases h)
  clear hall
  go_wp2_with fail
  go_ret
  exact ⟨by rw [HA.out]; rfl, HB.out⟩
set_option maxHeartbeats 2000000 in
theorem delC_calls (es : List Chg) (v : Value) (base b : Nat) (nm : ByteArray) (w : World) (eg : ∀ args w, (callFunc 75 args).run Try.prog w = .ok (.enter 75 args) w) (hown : w.ownsRow base 96 4 v es.length (flatF Chg.cells es)) (hok : ∀ c ∈ es, ChgOk c) (hb : w.cell? ⟨b, 0, none⟩ = some (.string nm)) (hne : ∀ j, v.ownBlock = some j → b ≠ j) (hn : es.length ≤ 2000000) :
  Calls Try.prog 77 #[v, .func (.func 75) #[] #[.pointer (some ⟨b, 0, none⟩)]] w fun e w' => ∃ v', e = .returned v' ∧ w'.ownsRow base 96 4 v' (es.filter (fun c => !isNm nm c)).length (flatF Chg.cells (es.filter (fun c => !isNm nm c))) ∧ (∀ j, v'.ownBlock = some j → v.ownBlock = some j) ∧ Only (fun k => v.ownBlock = some k) w w' := by
 have HIDX := Lib.hid (idxC_calls v es b nm w eg (Rd.of_own hown) hok hb hn)
 have HO := Lib.hid hown
 have HD := Lib.hid hok
 have HBX := Lib.hid hb
 have HNE := Lib.hid hne
 obtain ⟨va, vc, rfl⟩ := own_slice hown
 clear hown hok hb hne
 go_enter Try.func77, Try.ntmps77
 go_wp2_with fail
 refine HIDX.out.mono ?_
 rintro e w1 ⟨hr, hb1⟩
 have HB1 := Lib.hid hb1
 clear hb1
 rcases hr with ⟨i, hi, hs, hbef, rfl⟩ | ⟨hall, rfl⟩
 ·
  obtain ⟨m, hm⟩ : ∃ m, es.length = m + 1 := ⟨es.length - 1, by omega⟩
  have ho' := HO.out
  rw [hm] at ho'
  obtain ⟨g, cap, hv1, hg1, hg2, hg3, hg4⟩ := own_succ ho'
  rw [← hm] at hv1
  simp only [Value.slice.injEq, true_and] at hv1
  obtain ⟨rfl, rfl⟩ := hv1
  rw [← hm] at hg3
  have hbg := HNE.out g rfl
  have HST := Lib.hid (Closed.start (st := fun c => !isNm nm c) (w := w) (f := Chg.cells) (k := 4) hi (by simp [hs]) (fun r hr => by simp [hbef r hr]) (ownsRow_below HO.out HB1.out (Nat.le_refl _)) (Only.of_below HB1.out))
  have hwi : ((i : Int) == -1) = false := beq_eq_false_iff_ne.2 (by omega)
  have HB1c := Lib.hid (cell_later HB1.out HBX.out)
  clear ho' hm hs hbef
  go_wp2_with fail
  go_loopw [5, 6, 7] (fun iv jv _ wr => ∃ (i' j : Nat) (xs : List Chg), iv = .int .i64 i' ∧ jv = .int .i64 j ∧ Closed Chg.cells 4 w wr base g vc 96 (fun c => !isNm nm c) es i' j xs ∧ wr.cell? ⟨b, 0, none⟩ = some (.string nm)) (fun _ jv _ _ => es.length - (intOf jv).toNat)
  case atStart => exact ⟨i, i + 1, es, rfl, by go_num, HST.out, HB1c.out⟩
  case round =>
   obtain ⟨k, j, xs, rfl, rfl, hc, hbx⟩ := hrel
   have HC := Lib.hid hc
   have hkj := hc.lt
   have hjn := hc.le
   by_cases hlt : j < es.length
   ·
    have c0 : wr.cell? ⟨g, j * 4, none⟩ = some (.int .i64 es[j].k) := hc.at chg4 hlt 0 _ (by omega) rfl
    have c1 := hc.at chg4 hlt 1 _ (by omega) rfl
    have c2 := hc.at chg4 hlt 2 _ (by omega) rfl
    have c3 := hc.at chg4 hlt 3 _ (by omega) rfl
    obtain ⟨da, dl, dc, hdv⟩ := HD.out es[j] (List.getElem_mem _)
    have hone : es[j].dv.oneCell' = true := by rw [hdv]; rfl
    have hal := below_alloc wr (.cells #[.int .i64 es[j].k, .string es[j].nm, .int .i64 es[j].at_, es[j].dv] 96)
    have b0 : (wr.alloc (.cells #[.int .i64 es[j].k, .string es[j].nm, .int .i64 es[j].at_, es[j].dv] 96)).cell? ⟨wr.heap.size, 0, none⟩ = some (.int .i64 es[j].k) := box_self 0 _ rfl
    have b1 : (wr.alloc (.cells #[.int .i64 es[j].k, .string es[j].nm, .int .i64 es[j].at_, es[j].dv] 96)).cell? ⟨wr.heap.size, 1, none⟩ = some (.string es[j].nm) := box_self 1 _ rfl
    have b2 : (wr.alloc (.cells #[.int .i64 es[j].k, .string es[j].nm, .int .i64 es[j].at_, es[j].dv] 96)).cell? ⟨wr.heap.size, 2, none⟩ = some (.int .i64 es[j].at_) := box_self 2 _ rfl
    have b3 : (wr.alloc (.cells #[.int .i64 es[j].k, .string es[j].nm, .int .i64 es[j].at_, es[j].dv] 96)).cell? ⟨wr.heap.size, 3, none⟩ = some es[j].dv := box_self 3 _ rfl
    have HCA := Lib.hid (hc.below hal)
    have HBX2 := Lib.hid (cell_later hal hbx)
    have hcall := named_calls b nm es[j] _ HBX2.out hone
    rw [hdv] at b0 b1 b2 b3 c3 HCA HBX2 hcall
    have HCALL := Lib.hid hcall
    clear hc hal hcall hone hbx
    go_wp2_with fail
    refine HCALL.out.mono ?_
    rintro e w2 ⟨rfl, hb2⟩
    have HC2 := Lib.hid (HCA.out.below hb2)
    have HBX3 := Lib.hid (cell_later hb2 HBX2.out)
    have b0 := cell_later hb2 b0
    have b1 := cell_later hb2 b1
    have b2 := cell_later hb2 b2
    have b3 := cell_later hb2 b3
    clear hb2
    cases hst : isNm nm es[j] with
    | true =>
     have HS := Lib.hid (HC2.out.skip hlt (by simp [hst]))
     clear hst b0 b1 b2 b3 c0 c1 c2 c3 hdv
     go_wp2_with fail
     go_roundw
     case rel => exact ⟨k, j + 1, xs, rfl, by go_num, HS.out, HBX3.out⟩
     case measure => simp [intOf]; omega
    | false =>
     have HS := HC2.out.keep chg4 hlt (by simp [hst])
     have e4 : w2.setCells g (k * 4) (Chg.cells es[j]) = (((w2.setCell ⟨g, k * 4, none⟩ (.int .i64 es[j].k)).setCell ⟨g, k * 4 + 1, none⟩ (.string es[j].nm)).setCell ⟨g, k * 4 + 2, none⟩ (.int .i64 es[j].at_)).setCell ⟨g, k * 4 + 3, none⟩ es[j].dv := rfl
     rw [e4] at HS
     rw [hdv] at HS
     have HBX4 := Lib.hid (show ((((w2.setCell ⟨g, k * 4, none⟩ (.int .i64 es[j].k)).setCell ⟨g, k * 4 + 1, none⟩ (.string es[j].nm)).setCell ⟨g, k * 4 + 2, none⟩ (.int .i64 es[j].at_)).setCell ⟨g, k * 4 + 3, none⟩ (.slice da dl dc)).cell? ⟨b, 0, none⟩ = some (.string nm) from by
      rw [cell_set_block _ hbg, cell_set_block _ hbg, cell_set_block _ hbg, cell_set_block _ hbg]; exact HBX3.out)
     have HS := Lib.hid HS
     obtain ⟨u0, s0⟩ : ∃ u, w2.cell? ⟨g, k * 4, none⟩ = some u := HC2.out.slot 0 (by omega)
     obtain ⟨u1, s1⟩ := HC2.out.slot 1 (by omega)
     obtain ⟨u2, s2⟩ := HC2.out.slot 2 (by omega)
     obtain ⟨u3, s3⟩ := HC2.out.slot 3 (by omega)
     have sz := HC2.out.frz
     clear hst c0 c1 c2 c3 hdv e4
     have hkn : k < es.length := by omega
     go_wp2_with fail
     go_roundw
     case rel => exact ⟨k + 1, j + 1, _, by go_num, by go_num, HS.out, HBX4.out⟩
     case measure => simp [intOf]; omega
   ·
    obtain rfl : j = es.length := by omega
    obtain ⟨w3, hrun, ho3, hil, hlt2, hcap2, hon3⟩ := hc.done (P := Try.prog) (t := 56) tyChgs chg4 (fun w => by kernel_rfl) (by simp [Value.cells, Value.oneCell'])
    have HON := Lib.hid hon3
    have HO3 := Lib.hid ho3
    have HIL := Lib.hid hil
    clear hc hil ho3 hon3 hbx
    go_wp2_with fail
    go_ret
    refine ⟨_, rfl, ?_, fun j h => h, HON.out⟩
    rw [HIL.out]
    exact HO3.out
 ·
  have HF := Lib.hid (show es.filter (fun c => !isNm nm c) = es from List.filter_eq_self.2 (fun c hc => by simp [hall c hc]))
  clear hall
  go_wp2_with fail
  go_ret
  rw [HF.out]
  exact ⟨_, rfl, ownsRow_below HO.out HB1.out (Nat.le_refl _), fun j h => h, Only.of_below HB1.out⟩
end Go.Proofs.Ytmafnjidhjabgaa
namespace Go.Proofs.Ytmafnjidhjabgaa
open Go.RowKit Go.Shelf
set_option linter.unusedVariables false
set_option linter.unusedSimpArgs false
set_option maxRecDepth 100000
theorem setChgs {w0 w : World} {B d : Nat} {D : Dk} {cv2 : Value} {es : List Chg} (h : DiskAt w0 B d D) (hb : Below w0.heap.size w0 w) (hsub : ∀ c ∈ es, c ∈ D.chg) (hr : w.ownsRow B 96 4 cv2 es.length (flatF Chg.cells es)) (hnew : ∀ j, cv2.ownBlock = some j → w0.heap.size ≤ j) :
  Turned w0 (w.setCell ⟨d, 4, none⟩ cv2) B d D { D with cv := cv2, chg := es } := by
 have hd := (h.foot_lt (.inl rfl)).2
 have h1 := h.below hb
 have hst := World.ownsRow.stored h1.box 4 cv2
 have ho3 : Only (fun j => j = d) w (w.setCell ⟨d, 4, none⟩ cv2) := (Only.of_grown hst.2).weak (fun j _ e => (Option.some.inj e).symm)
 have hu : ∀ j, j = d → ¬ IsU8 w j := fun j e => h1.foot_u8 (.inl e)
 have hF : ∀ j, j = d → ¬ (j = D.nb ∨ j = D.ub) := fun j e => by
  subst e
  have := h1.map_ne h1.box (j := j) rfl
  rintro (e | e)
  · exact this.1 e
  · exact this.2 e
 refine ⟨⟨hst.1, h1.nowM.only ho3 (fun e => hF _ e (.inl rfl)), h1.durM.only ho3 (fun e => hF _ e (.inr rfl)), h.ne, h.lo, ?_, fun f hf => (h1.fnow f hf).only ho3 hu, fun f hf => (h1.fdur f hf).only ho3 hu, fun f hf => (h1.fchg f (hsub f hf)).only ho3 hu, h.know, h.kdur⟩,
  ((Only.of_below (S := D.foot d) hb)).trans ho3 (fun j _ e => .inl e), ?_⟩
 · exact ownsRow_only hr ho3 (fun g hg e => by have := hnew g hg; omega)
 ·
  rintro j (e | e | e | e)
  · exact .inl (.inl e)
  · exact .inl (.inr (.inl e))
  · exact .inl (.inr (.inr (.inl e)))
  · exact .inr (hnew j e)
theorem box_nb {w : World} {B d : Nat} {D : Dk} (h : DiskAt w B d D) : d ≠ D.nb ∧ d ≠ D.ub := h.map_ne h.box (j := d) rfl
theorem turnDur {w w' : World} {B d : Nat} {D : Dk} {m : Files} (h : DiskAt w B d D) (hm : MapIs w' D.ub m.ents) (hg : w.grownBy w' (some D.ub)) (hf : ∀ f ∈ m, Txt w f.2.1 f.2.2) (hk : (m.map (·.1)).Nodup) :
  Turned w w' B d D { D with dur := m } := by
 have ho : Only (fun j => j = D.ub) w w' := (Only.of_grown hg).weak (fun j _ e => (Option.some.inj e).symm)
 have hu : ∀ j, j = D.ub → ¬ IsU8 w j := fun j e => by rw [e]; exact h.durM.notU8
 refine ⟨⟨ownsRow_only h.box ho (fun g hg e => (box_nb h).2 (by simp only [Value.ownBlock, Option.some.injEq] at hg; omega)), h.nowM.only ho (fun e => h.ne e), hm, h.ne, h.lo,
  ownsRow_only h.row ho (fun g hg e => (h.map_ne h.row hg).2 e), fun f hf => (h.fnow f hf).only ho hu, fun f hf' => (hf f hf').only ho hu, fun f hf => (h.fchg f hf).only ho hu, h.know, hk⟩, ho.weak (fun j _ e => .inr (.inr (.inl e))), fun j hj => .inl hj⟩
theorem setDur {w : World} {B d : Nat} {D : Dk} {v : Value} {xs : List UInt8} (h : DiskAt w B d D) (hv : Txt w v xs) (nm : ByteArray) :
  ∃ w', (Instr.mapUpdate 55 (.map (some D.ub)) (.string nm) v).run Try.prog w = .ok () w' ∧ Turned w w' B d D { D with dur := mput D.dur nm (v, xs) } := by
 obtain ⟨w', hrun, hm, hg, hs⟩ := h.durM.upd (P := Try.prog) (t := 55) Try.underlying55 Try.underlying9 nm v
 refine ⟨w', hrun, turnDur h ?_ hg (fun f hf => ?_) (mput_nodup h.kdur)⟩
 ·
  show MapIs w' D.ub (mmap Prod.fst (mput D.dur nm (v, xs)))
  rw [← mput_map]
  exact hm
 ·
  rcases mput_mem hf with rfl | hf
  · exact hv
  · exact h.fdur f hf
theorem delDur {w : World} {B d : Nat} {D : Dk} (h : DiskAt w B d D) (nm : ByteArray) :
  ∃ w', (∀ ty, (Builtin.delete_ #[55, 9] ty #[.map (some D.ub), .string nm]).run Try.prog w = .ok (.tuple #[]) w') ∧ Turned w w' B d D { D with dur := mdel D.dur nm } := by
 obtain ⟨w', hrun, hm, hg, hs⟩ := h.durM.del (P := Try.prog) (t := 55) Try.underlying55 Try.underlying9 nm 0
 refine ⟨w', fun ty => hrun, turnDur h ?_ hg (fun f hf => h.fdur f (mdel_sub.subset hf)) (mdel_nodup h.kdur)⟩
 show MapIs w' D.ub (mmap Prod.fst (mdel D.dur nm))
 rw [← mdel_map]
 exact hm
def syE (D : Dk) (nm : ByteArray) : Int :=
 if rdyE D nm 0 ≠ 0 then rdyE D nm 0 else if (mget D.now nm).isNone ∧ (mget D.dur nm).isNone ∧ D.chg.any (isNm nm) = false then 7 else 0
def syD (D : Dk) (nm : ByteArray) (cv v : Value) : Dk :=
 { D with cv := cv, chg := D.chg.filter (fun c => !isNm nm c), dur := match mget D.now nm with | some f => mput D.dur nm (v, f.2) | none => mdel D.dur nm }
def SyPost (w w' : World) (B d : Nat) (D : Dk) (nm : ByteArray) (er : Int) : Prop := (er ≠ 0 ∧ Turned w w' B d D D) ∨ (er = 0 ∧ ∃ cv v, Turned w w' B d D (syD D nm cv v))
theorem look_ok {w : World} {m : Files} (h : ∀ f ∈ m, Txt w f.2.1 f.2.2) (nm : ByteArray) : ∃ a c, (mget m.ents nm).getD (.slice none 0 0) = .slice a (fileOf m nm).length c ∧ (mget m.ents nm).isSome = (mget m nm).isSome ∧ Txt w (.slice a (fileOf m nm).length c) (fileOf m nm) := by
 obtain ⟨a, c, h1, h2⟩ := look_txt h nm
 exact ⟨a, c, h1, by rw [mget_ents]; simp, h2⟩
set_option maxHeartbeats 4000000 in
theorem dsync_calls (d B : Nat) (D : Dk) (nm : ByteArray) (w : World) (h : DiskAt w B d D) (hs : nm.size ≤ 140737488355328) (hf : (fileOf D.now nm).length ≤ 1099511627776) (hn : D.chg.length ≤ 1000000) :
  Calls Try.prog 53 #[.pointer (some ⟨d, 0, none⟩), .string nm] w fun e w' => ∃ er, e = .returned (.int .i64 er) ∧ er = syE D nm ∧ SyPost w w' B d D nm er := by
 have hal := below_alloc w (.cells #[.string nm] 9)
 have bx := box_self (w := w) (cs := #[.string nm]) (e := 9) 0 _ rfl
 have HD0 := Lib.hid (h.below hal)
 have HAL := Lib.hid hal
 have HD := Lib.hid h
 have HR := Lib.hid (dready_calls d B D nm 0 _ HD0.out hs)
 have HE := Lib.hid (show syE D nm = if rdyE D nm 0 ≠ 0 then rdyE D nm 0 else if (mget D.now nm).isNone ∧ (mget D.dur nm).isNone ∧ D.chg.any (isNm nm) = false then 7 else 0 from rfl)
 have hdlt := (h.foot_lt (.inl rfl)).2
 clear h hal
 generalize syE D nm = er at *
 generalize rdyE D nm 0 = rd at *
 go_enter Try.func53, Try.ntmps53
 go_wp2_with fail
 refine HR.out.mono ?_
 rintro e w1 ⟨rfl, hb1⟩
 have HB1 := Lib.hid (HAL.out.trans (hb1.mono HAL.out.size))
 have HD1 := Lib.hid (HD0.out.below hb1)
 have bx1 := cell_later hb1 bx
 have hs1 := hb1.size
 simp only [World.size_alloc] at hs1
 clear hb1 bx HR HD0
 by_cases hrd : rd = 0
 ·
  subst hrd
  have HE := Lib.hid (show er = if (mget D.now nm).isNone ∧ (mget D.dur nm).isNone ∧ D.chg.any (isNm nm) = false then 7 else 0 from HE.out)
  obtain ⟨-, -, c2, c3, c4⟩ := HD1.out.cells
  have l1 := HD1.out.nowM.look (P := Try.prog) (t := 55) Try.underlying55 Try.underlying9 zero_bytes nm true
  have l2 := HD1.out.durM.look (P := Try.prog) (t := 55) Try.underlying55 Try.underlying9 zero_bytes nm true
  simp only [if_true] at l1 l2
  obtain ⟨fa, fc, k1, k2, hft⟩ := look_ok HD1.out.fnow nm
  obtain ⟨ga, gc, k3, k4, hgt⟩ := look_ok HD1.out.fdur nm
  rw [k1, k2] at l1
  rw [k3, k4] at l2
  have HFT := Lib.hid hft
  have l1' : ∀ W : World, W.heap[D.nb]? = w1.heap[D.nb]? → (Instr.lookup 55 (.map (some D.nb)) (.string nm) true).run Try.prog W = .ok (.tuple #[.slice fa (fileOf D.now nm).length fc, .bool (mget D.now nm).isSome]) W := fun W hW => by
   have h := (HD1.out.nowM.same hW).look (P := Try.prog) (t := 55) Try.underlying55 Try.underlying9 zero_bytes nm true
   simp only [if_true] at h
   rw [k1, k2] at h
   exact h
  have l2' : ∀ W : World, W.heap[D.ub]? = w1.heap[D.ub]? → (Instr.lookup 55 (.map (some D.ub)) (.string nm) true).run Try.prog W = .ok (.tuple #[.slice ga (fileOf D.dur nm).length gc, .bool (mget D.dur nm).isSome]) W := fun W hW => by
   have h := (HD1.out.durM.same hW).look (P := Try.prog) (t := 55) Try.underlying55 Try.underlying9 zero_bytes nm true
   simp only [if_true] at h
   rw [k3, k4] at h
   exact h
  clear k1 k2 k3 k4 hft hgt l1 l2
  generalize (fileOf D.dur nm).length = gl at *
  go_upto_region 4 with fail
  refine region_m [(0, false), (1, false), (2, false), (3, false), (4, false), (5, false), (6, false), (7, false), (8, false), (9, false), (10, false)] 11 (fun V => V.cell? ⟨d, 2, none⟩ = some (.map (some D.nb)) ∧ V.cell? ⟨w.heap.size, 0, none⟩ = some (.string nm) ∧ (Instr.lookup 55 (.map (some D.nb)) (.string nm) true).run Try.prog V = .ok (.tuple #[.slice fa (fileOf D.now nm).length fc, .bool (mget D.now nm).isSome]) V) (by kernel_rfl) (by kernel_rfl) ⟨c2, bx1, l1' _ rfl⟩ ?_
  iterate 11
   first
   | (
     refine m_take (v := ?_) rfl rfl ?_ ?_
     rotate_left
     ·
       intro W hW
       go_simp
       with_reducible rfl
     simp only [Act.put, List.setIfInBounds_toArray, List.set_cons_zero, List.set_cons_succ])
   | (
     refine m_skip rfl rfl ?_
     simp only [Act.put, List.setIfInBounds_toArray, List.set_cons_zero, List.set_cons_succ])
  refine m_done ?_
  simp only [List.drop_succ_cons, List.drop_zero]
  go_upto_region 5 with fail
  simp only [NP]
  go_upto_region 5 with fail
  refine region_m [(0, false), (1, false), (2, false), (3, false), (4, false), (5, false), (6, false), (7, false), (8, false), (9, false), (10, false)] 11 (fun V => V.cell? ⟨d, 3, none⟩ = some (.map (some D.ub)) ∧ V.cell? ⟨w.heap.size, 0, none⟩ = some (.string nm) ∧ (Instr.lookup 55 (.map (some D.ub)) (.string nm) true).run Try.prog V = .ok (.tuple #[.slice ga gl gc, .bool (mget D.dur nm).isSome]) V) (by kernel_rfl) (by kernel_rfl) ⟨c3, bx1, l2' _ rfl⟩ ?_
  iterate 11
   first
   | (
     refine m_take (v := ?_) rfl rfl ?_ ?_
     rotate_left
     ·
       intro W hW
       go_simp
       with_reducible rfl
     simp only [Act.put, List.setIfInBounds_toArray, List.set_cons_zero, List.set_cons_succ])
   | (
     refine m_skip rfl rfl ?_
     simp only [Act.put, List.setIfInBounds_toArray, List.set_cons_zero, List.set_cons_succ])
  refine m_done ?_
  simp only [List.drop_succ_cons, List.drop_zero]
  have HDV := Lib.hid HD1.out.drew.drew
  have HBV := Lib.hid HB1.out.drew.drew
  have HFTV := Lib.hid HFT.out.drew.drew
  have HOKC := Lib.hid (show ∀ c ∈ D.chg, ChgOk c from fun c hc => by
   obtain ⟨a, m, e⟩ := (HD1.out.fchg c hc).slice
   exact ⟨a, _, m, e⟩)
  have bxV : (w1.drew).drew.cell? ⟨w.heap.size, 0, none⟩ = some (.string nm) := bx1
  clear HD1 HB1 HFT bx1 c2 c3 c4 l1' l2'
  generalize hVV : (w1.drew).drew = V at *
  have hsV : w.heap.size + 1 ≤ V.heap.size := by rw [← hVV]; exact hs1
  clear hVV
  have eg := enters_of Try.func75 (by kernel_rfl) rfl
  obtain ⟨-, -, c2, c3, c4⟩ := HDV.out.cells
  cases hnow : mget D.now nm with
  | some f =>
   simp only [Option.isSome_some]
   have HNOW := Lib.hid hnow
   have HE0 := Lib.hid (show er = 0 from by rw [HE.out, hnow]; simp)
   clear hnow
   -- from region 9 on, in the world V, up to the branch
   have HE := Lib.hid (show er = 0 from HE0.out)
   go_upto_region 9 with fail
   simp only [NP]
   go_upto_region 9 with fail
   go_wp2_with fail
   refine (cloneC_calls _ D.chg.length _ _ (Rd.of_own HDV.out.row) (chg_one HDV.out.fchg) (by omega)).mono ?_
   rintro e w3 ⟨cv3, rfl, hr3, hb3⟩
   have bx3 := cell_later hb3 bxV
   have hs3 := hb3.size
   have HB3 := Lib.hid hb3
   have HC := Lib.hid (delC_calls D.chg cv3 V.heap.size w.heap.size nm w3 eg hr3 HOKC.out bx3 (fun j hj => by have := (World.ownsRow.lt hr3 j hj).1; omega) (by omega))
   have HNEW := Lib.hid (fun j (hj : cv3.ownBlock = some j) => (World.ownsRow.lt hr3 j hj).1)
   obtain ⟨xa, xc, rfl⟩ := own_slice hr3
   clear hb3 hr3
   go_wp2_with fail
   refine HC.out.mono ?_
   rintro e w4 ⟨cv4, rfl, hr4, hne4, ho4⟩
   have HB4 := Lib.hid (show Below V.heap.size V w4 from HB3.out.trans (ho4.below hs3 (fun j hj e => by have := HNEW.out j e; omega)))
   have HSC := Lib.hid (setChgs HDV.out HB4.out (fun c hc => (List.mem_filter.1 hc).1) (ownsRow_mono hr4 (by have := HDV.out.foot_lt (.inl rfl); omega)) (fun j hj => HNEW.out j (hne4 j hj)))
   have HD4 := Lib.hid (HDV.out.below HB4.out)
   have hs4 := HB4.out.size
   obtain ⟨-, -, -, -, c44⟩ := HD4.out.cells
   have f44 := HD4.out.frz 4
   have HBX5 := Lib.hid (show (w4.setCell ⟨d, 4, none⟩ cv4).cell? ⟨w.heap.size, 0, none⟩ = some (.string nm) from by
    rw [cell_set_block _ (by omega)]
    exact cell_later HB4.out bxV)
   have HFT5 := Lib.hid (HSC.out.txt HDV.out HFTV.out)
   obtain ⟨ya, yc, rfl⟩ := own_slice hr4
   clear hr4 hne4 ho4 bx3 HC HB3 HB4 HD4 HNEW HOKC HFTV bxV
   go_upto_region 10 with fail
   generalize w4.setCell ⟨d, 4, none⟩ (.slice ya _ yc) = W5 at *
   have HT5 := Lib.hid ((Turned.of_below HD.out HBV.out).trans HSC.out)
   obtain ⟨-, -, -, c35, -⟩ := HSC.out.is.cells
   have c35 : W5.cell? ⟨d, 3, none⟩ = some (.map (some D.ub)) := c35
   have bx5 := HBX5.out
   have hs5 := HSC.out.only.size
   clear c44 f44 HBX5
   go_upto_region 11 with fail
   refine region_m [(0, false), (1, false), (2, false), (3, false), (4, false), (5, false), (6, true)] 7 (fun X => X.cell? ⟨d, 3, none⟩ = some (.map (some D.ub)) ∧ X.cell? ⟨w.heap.size, 0, none⟩ = some (.string nm)) (by kernel_rfl) (by kernel_rfl) ⟨c35, bx5⟩ ?_
   iterate 6
    first
    | (
       refine m_take (v := ?_) rfl rfl ?_ ?_
       rotate_left
       ·
         intro W hW
         go_simp
         with_reducible rfl
       simp only [Act.put, List.setIfInBounds_toArray, List.set_cons_zero, List.set_cons_succ])
    | (
       refine m_skip rfl rfl ?_
       simp only [Act.put, List.setIfInBounds_toArray, List.set_cons_zero, List.set_cons_succ])
   refine m_loud rfl (fun K hK => ?_)
   have HK := Lib.hid hK
   clear hK
   go_simp
   refine (cloneB_calls _ _ _ ((HFT5.out.drew).1) (by omega)).mono ?_
   rintro e w6 ⟨v6, rfl, hm6, hb6⟩
   have hb6 : Below W5.heap.size W5 w6 := ((Below.refl W5.heap.size W5).drew).trans hb6
   have HT6 := Lib.hid (HT5.out.below hb6)
   have HM6 := Lib.hid (Txt.of_mine hm6)
   obtain ⟨za, zc, rfl⟩ := hm6.slice
   have c36 : w6.cell? ⟨d, 3, none⟩ = some (.map (some D.ub)) := HT6.out.is.cells.2.2.2.1
   refine HK.out _ _ ⟨c36, cell_later hb6 bx5⟩ ?_
   clear HK
   obtain ⟨w7, hr7, ht7⟩ := setDur HT6.out.is HM6.out nm
   have HT7 := Lib.hid (HT6.out.trans ht7)
   clear hm6 hb6 ht7 c36
   refine m_done ?_
   simp only [List.drop_succ_cons, List.drop_zero]
   go_wp2_with fail
   simp only [NP]
   go_wp2_with fail
   go_ret
   exact ⟨_, rfl, HE.out.symm, .inr ⟨rfl, _, _, by unfold syD; rw [HNOW.out]; have := HT7.out; rw [show fileOf D.now nm = f.2 from by unfold fileOf; rw [HNOW.out]; rfl] at this; exact this⟩⟩
  | none =>
   simp only [Option.isSome_none]
   cases hdur : mget D.dur nm with
   | some f =>
    simp only [Option.isSome_some]
    have HNOW := Lib.hid hnow
    have HE0 := Lib.hid (show er = 0 from by rw [HE.out, hnow, hdur]; simp)
    clear hnow hdur
    -- from region 9 on, in the world V, up to the branch
    have HE := Lib.hid (show er = 0 from HE0.out)
    go_upto_region 9 with fail
    simp only [NP]
    go_upto_region 9 with fail
    go_wp2_with fail
    refine (cloneC_calls _ D.chg.length _ _ (Rd.of_own HDV.out.row) (chg_one HDV.out.fchg) (by omega)).mono ?_
    rintro e w3 ⟨cv3, rfl, hr3, hb3⟩
    have bx3 := cell_later hb3 bxV
    have hs3 := hb3.size
    have HB3 := Lib.hid hb3
    have HC := Lib.hid (delC_calls D.chg cv3 V.heap.size w.heap.size nm w3 eg hr3 HOKC.out bx3 (fun j hj => by have := (World.ownsRow.lt hr3 j hj).1; omega) (by omega))
    have HNEW := Lib.hid (fun j (hj : cv3.ownBlock = some j) => (World.ownsRow.lt hr3 j hj).1)
    obtain ⟨xa, xc, rfl⟩ := own_slice hr3
    clear hb3 hr3
    go_wp2_with fail
    refine HC.out.mono ?_
    rintro e w4 ⟨cv4, rfl, hr4, hne4, ho4⟩
    have HB4 := Lib.hid (show Below V.heap.size V w4 from HB3.out.trans (ho4.below hs3 (fun j hj e => by have := HNEW.out j e; omega)))
    have HSC := Lib.hid (setChgs HDV.out HB4.out (fun c hc => (List.mem_filter.1 hc).1) (ownsRow_mono hr4 (by have := HDV.out.foot_lt (.inl rfl); omega)) (fun j hj => HNEW.out j (hne4 j hj)))
    have HD4 := Lib.hid (HDV.out.below HB4.out)
    have hs4 := HB4.out.size
    obtain ⟨-, -, -, -, c44⟩ := HD4.out.cells
    have f44 := HD4.out.frz 4
    have HBX5 := Lib.hid (show (w4.setCell ⟨d, 4, none⟩ cv4).cell? ⟨w.heap.size, 0, none⟩ = some (.string nm) from by
      rw [cell_set_block _ (by omega)]
      exact cell_later HB4.out bxV)
    have HFT5 := Lib.hid (HSC.out.txt HDV.out HFTV.out)
    obtain ⟨ya, yc, rfl⟩ := own_slice hr4
    clear hr4 hne4 ho4 bx3 HC HB3 HB4 HD4 HNEW HOKC HFTV bxV
    go_upto_region 10 with fail
    generalize w4.setCell ⟨d, 4, none⟩ (.slice ya _ yc) = W5 at *
    have HT5 := Lib.hid ((Turned.of_below HD.out HBV.out).trans HSC.out)
    obtain ⟨-, -, -, c35, -⟩ := HSC.out.is.cells
    have c35 : W5.cell? ⟨d, 3, none⟩ = some (.map (some D.ub)) := c35
    have bx5 := HBX5.out
    have hs5 := HSC.out.only.size
    clear c44 f44 HBX5
    go_upto_region 12 with fail
    refine region_m [(0, false), (1, false), (2, false), (3, false), (4, false), (5, true)] 6 (fun X => X.cell? ⟨d, 3, none⟩ = some (.map (some D.ub)) ∧ X.cell? ⟨w.heap.size, 0, none⟩ = some (.string nm)) (by kernel_rfl) (by kernel_rfl) ⟨c35, bx5⟩ ?_
    iterate 5
      first
      | (
         refine m_take (v := ?_) rfl rfl ?_ ?_
         rotate_left
         ·
           intro W hW
           go_simp
           with_reducible rfl
         simp only [Act.put, List.setIfInBounds_toArray, List.set_cons_zero, List.set_cons_succ])
      | (
         refine m_skip rfl rfl ?_
         simp only [Act.put, List.setIfInBounds_toArray, List.set_cons_zero, List.set_cons_succ])
    obtain ⟨w7, hr7, ht7⟩ := delDur (HT5.out.is.drew) nm
    have HT7 := Lib.hid ((HT5.out.below ((Below.refl _ _).drew)).trans ht7)
    have c37 : w7.cell? ⟨d, 3, none⟩ = some (.map (some D.ub)) := HT7.out.is.cells.2.2.2.1
    have hr7 : ∀ ty, (Builtin.delete_ #[55, 9] ty #[.map (some D.ub), .string nm]).run Try.prog W5.drew = .ok (.tuple #[]) w7 := hr7
    have bx7 := ht7.only.cell (fun e => by
      rcases HSC.out.foot _ e with h9 | h9
      ·
        have := (HD.out.foot_lt h9).2
        omega
      · omega) (show W5.drew.cell? ⟨w.heap.size, 0, none⟩ = some (.string nm) from bx5)
    clear ht7
    refine m_loud rfl (fun K hK => ?_)
    have HK := Lib.hid hK
    clear hK
    go_simp
    refine HK.out _ _ ⟨c37, bx7⟩ ?_
    clear HK
    refine m_done ?_
    simp only [List.drop_succ_cons, List.drop_zero]
    go_wp2_with fail
    simp only [NP]
    go_wp2_with fail
    go_ret
    exact ⟨_, rfl, HE.out.symm, .inr ⟨rfl, _, .slice none 0 0, by unfold syD; rw [HNOW.out]; exact HT7.out⟩⟩
   | none =>
    simp only [Option.isSome_none]
    have HNOW := Lib.hid hnow
    have HDUR := Lib.hid hdur
    clear hnow hdur
    have HH := Lib.hid (hasC_calls D.cv D.chg w.heap.size nm V eg (Rd.of_own HDV.out.row) HOKC.out bxV (by omega))
    go_upto_region 7 with fail
    simp only [NP]
    go_upto_region 7 with fail
    go_wp2_with fail
    refine HH.out.mono ?_
    rintro e w2 ⟨rfl, hb2⟩
    cases hany : D.chg.any (isNm nm) with
    | true =>
      have HE0 := Lib.hid (show er = 0 from by rw [HE.out, hany]; simp)
      have HDV2 := Lib.hid (HDV.out.below hb2)
      have HBV2 := Lib.hid (HBV.out.trans (hb2.mono HBV.out.size))
      have HFTV2 := Lib.hid (HFTV.out.below hb2)
      have bx2 := cell_later hb2 bxV
      have hs2 := hb2.size
      clear hany hb2 HDV HBV HFTV bxV c2 c3 c4
      have hsV2 : w.heap.size + 1 ≤ w2.heap.size := by omega
      clear hsV hs2 HH
      have HDV := HDV2
      have HBV := HBV2
      have HFTV := HFTV2
      have bxV := bx2
      have hsV := hsV2
      have c4 := HDV.out.cells.2.2.2.2
      -- from region 9 on, in the world V, up to the branch
      have HE := Lib.hid (show er = 0 from HE0.out)
      go_upto_region 9 with fail
      skip
      go_upto_region 9 with fail
      go_wp2_with fail
      refine (cloneC_calls _ D.chg.length _ _ (Rd.of_own HDV.out.row) (chg_one HDV.out.fchg) (by omega)).mono ?_
      rintro e w3 ⟨cv3, rfl, hr3, hb3⟩
      have bx3 := cell_later hb3 bxV
      have hs3 := hb3.size
      have HB3 := Lib.hid hb3
      have HC := Lib.hid (delC_calls D.chg cv3 w2.heap.size w.heap.size nm w3 eg hr3 HOKC.out bx3 (fun j hj => by have := (World.ownsRow.lt hr3 j hj).1; omega) (by omega))
      have HNEW := Lib.hid (fun j (hj : cv3.ownBlock = some j) => (World.ownsRow.lt hr3 j hj).1)
      obtain ⟨xa, xc, rfl⟩ := own_slice hr3
      clear hb3 hr3
      go_wp2_with fail
      refine HC.out.mono ?_
      rintro e w4 ⟨cv4, rfl, hr4, hne4, ho4⟩
      have HB4 := Lib.hid (show Below w2.heap.size w2 w4 from HB3.out.trans (ho4.below hs3 (fun j hj e => by have := HNEW.out j e; omega)))
      have HSC := Lib.hid (setChgs HDV.out HB4.out (fun c hc => (List.mem_filter.1 hc).1) (ownsRow_mono hr4 (by have := HDV.out.foot_lt (.inl rfl); omega)) (fun j hj => HNEW.out j (hne4 j hj)))
      have HD4 := Lib.hid (HDV.out.below HB4.out)
      have hs4 := HB4.out.size
      obtain ⟨-, -, -, -, c44⟩ := HD4.out.cells
      have f44 := HD4.out.frz 4
      have HBX5 := Lib.hid (show (w4.setCell ⟨d, 4, none⟩ cv4).cell? ⟨w.heap.size, 0, none⟩ = some (.string nm) from by
        rw [cell_set_block _ (by omega)]
        exact cell_later HB4.out bxV)
      have HFT5 := Lib.hid (HSC.out.txt HDV.out HFTV.out)
      obtain ⟨ya, yc, rfl⟩ := own_slice hr4
      clear hr4 hne4 ho4 bx3 HC HB3 HB4 HD4 HNEW HOKC HFTV bxV
      go_upto_region 10 with fail
      generalize w4.setCell ⟨d, 4, none⟩ (.slice ya _ yc) = W5 at *
      have HT5 := Lib.hid ((Turned.of_below HD.out HBV.out).trans HSC.out)
      obtain ⟨-, -, -, c35, -⟩ := HSC.out.is.cells
      have c35 : W5.cell? ⟨d, 3, none⟩ = some (.map (some D.ub)) := c35
      have bx5 := HBX5.out
      have hs5 := HSC.out.only.size
      clear c44 f44 HBX5
      go_upto_region 12 with fail
      refine region_m [(0, false), (1, false), (2, false), (3, false), (4, false), (5, true)] 6 (fun X => X.cell? ⟨d, 3, none⟩ = some (.map (some D.ub)) ∧ X.cell? ⟨w.heap.size, 0, none⟩ = some (.string nm)) (by kernel_rfl) (by kernel_rfl) ⟨c35, bx5⟩ ?_
      iterate 5
        first
        | (
           refine m_take (v := ?_) rfl rfl ?_ ?_
           rotate_left
           ·
            intro W hW
            go_simp
            with_reducible rfl
           simp only [Act.put, List.setIfInBounds_toArray, List.set_cons_zero, List.set_cons_succ])
        | (
           refine m_skip rfl rfl ?_
           simp only [Act.put, List.setIfInBounds_toArray, List.set_cons_zero, List.set_cons_succ])
      obtain ⟨w7, hr7, ht7⟩ := delDur (HT5.out.is.drew) nm
      have HT7 := Lib.hid ((HT5.out.below ((Below.refl _ _).drew)).trans ht7)
      have c37 : w7.cell? ⟨d, 3, none⟩ = some (.map (some D.ub)) := HT7.out.is.cells.2.2.2.1
      have hr7 : ∀ ty, (Builtin.delete_ #[55, 9] ty #[.map (some D.ub), .string nm]).run Try.prog W5.drew = .ok (.tuple #[]) w7 := hr7
      have bx7 := ht7.only.cell (fun e => by
        rcases HSC.out.foot _ e with h9 | h9
        ·
          have := (HD.out.foot_lt h9).2
          omega
        · omega) (show W5.drew.cell? ⟨w.heap.size, 0, none⟩ = some (.string nm) from bx5)
      clear ht7
      refine m_loud rfl (fun K hK => ?_)
      have HK := Lib.hid hK
      clear hK
      go_simp
      refine HK.out _ _ ⟨c37, bx7⟩ ?_
      clear HK
      refine m_done ?_
      simp only [List.drop_succ_cons, List.drop_zero]
      go_wp2_with fail
      simp only [NP]
      go_wp2_with fail
      go_ret
      exact ⟨_, rfl, HE.out.symm, .inr ⟨rfl, _, .slice none 0 0, by unfold syD; rw [HNOW.out]; exact HT7.out⟩⟩
    | false =>
      have HE0 := Lib.hid (show er = 7 from by rw [HE.out, HNOW.out, HDUR.out, hany]; simp)
      have HBV2 := Lib.hid (HBV.out.trans (hb2.mono HBV.out.size))
      clear hany hb2
      go_wp2_with fail
      go_ret
      exact ⟨_, rfl, HE0.out.symm, .inl ⟨by decide, Turned.of_below HD.out HBV2.out⟩⟩
 ·
  have e1 : (rd != 0) = true := by simp [hrd]
  have HE := Lib.hid (show er = rd from by rw [HE.out, if_pos hrd])
  go_wp2_with fail
  go_ret
  exact ⟨_, rfl, HE.out.symm, .inl ⟨hrd, Turned.of_below HD.out HB1.out⟩⟩
end Go.Proofs.Ytmafnjidhjabgaa
namespace Go.Proofs.Ytmafnjidhjabgaa
open Go.RowKit Go.Shelf
set_option linter.unusedVariables false
set_option linter.unusedSimpArgs false
set_option maxRecDepth 100000
theorem turnNow {w w' : World} {B d : Nat} {D : Dk} {m : Files} (h : DiskAt w B d D) (hm : MapIs w' D.nb m.ents) (hg : w.grownBy w' (some D.nb)) (hf : ∀ f ∈ m, Txt w f.2.1 f.2.2) (hk : (m.map (·.1)).Nodup) :
  Turned w w' B d D { D with now := m } := by
 have ho : Only (fun j => j = D.nb) w w' := (Only.of_grown hg).weak (fun j _ e => (Option.some.inj e).symm)
 have hu : ∀ j, j = D.nb → ¬ IsU8 w j := fun j e => by rw [e]; exact h.nowM.notU8
 refine ⟨⟨ownsRow_only h.box ho (fun g hg e => (box_nb h).1 (by simp only [Value.ownBlock, Option.some.injEq] at hg; omega)), hm, h.durM.only ho (fun e => h.ne e.symm), h.ne, h.lo,
  ownsRow_only h.row ho (fun g hg e => (h.map_ne h.row hg).1 e), fun f hf' => (hf f hf').only ho hu, fun f hf => (h.fdur f hf).only ho hu, fun f hf => (h.fchg f hf).only ho hu, hk, h.kdur⟩, ho.weak (fun j _ e => .inr (.inl e)), fun j hj => .inl hj⟩
theorem delNow {w : World} {B d : Nat} {D : Dk} (h : DiskAt w B d D) (nm : ByteArray) :
  ∃ w', (∀ ty, (Builtin.delete_ #[55, 9] ty #[.map (some D.nb), .string nm]).run Try.prog w = .ok (.tuple #[]) w') ∧ Turned w w' B d D { D with now := mdel D.now nm } := by
 obtain ⟨w', hrun, hm, hg, hs⟩ := h.nowM.del (P := Try.prog) (t := 55) Try.underlying55 Try.underlying9 nm 0
 refine ⟨w', fun ty => hrun, turnNow h ?_ hg (fun f hf => h.fnow f (mdel_sub.subset hf)) (mdel_nodup h.know)⟩
 show MapIs w' D.nb (mmap Prod.fst (mdel D.now nm))
 rw [← mdel_map]
 exact hm
def rmE (D : Dk) (nm : ByteArray) : Int := if rdyE D nm 0 ≠ 0 then rdyE D nm 0 else if (mget D.now nm).isNone then 7 else 0
def rmD (D : Dk) (nm : ByteArray) (cv : Value) : Dk := { D with now := mdel D.now nm, chg := D.chg ++ [⟨2, nm, 0, .slice none 0 0, []⟩], cv := cv }
def RmPost (w w' : World) (B d : Nat) (D : Dk) (nm : ByteArray) (er : Int) : Prop := (er ≠ 0 ∧ Turned w w' B d D D) ∨ (er = 0 ∧ ∃ cv, Turned w w' B d D (rmD D nm cv))
set_option maxHeartbeats 2000000 in
theorem dremove_calls (d B : Nat) (D : Dk) (nm : ByteArray) (w : World) (h : DiskAt w B d D) (hs : nm.size ≤ 140737488355328) (hn : D.chg.length ≤ 1000000) :
  Calls Try.prog 52 #[.pointer (some ⟨d, 0, none⟩), .string nm] w fun e w' => ∃ er, e = .returned (.int .i64 er) ∧ er = rmE D nm ∧ RmPost w w' B d D nm er := by
 have HD := Lib.hid h
 have HR := Lib.hid (dready_calls d B D nm 0 _ h hs)
 have HE := Lib.hid (show rmE D nm = if rdyE D nm 0 ≠ 0 then rdyE D nm 0 else if (mget D.now nm).isNone then 7 else 0 from rfl)
 clear h
 generalize rmE D nm = er at *
 generalize rdyE D nm 0 = rd at *
 go_enter Try.func52, Try.ntmps52
 go_wp2_with fail
 refine HR.out.mono ?_
 rintro e w1 ⟨rfl, hb1⟩
 have HB1 := Lib.hid hb1
 have HD1 := Lib.hid (HD.out.below hb1)
 clear hb1 HR
 by_cases hrd : rd = 0
 ·
  subst hrd
  have HE := Lib.hid (show er = if (mget D.now nm).isNone then 7 else 0 from HE.out)
  obtain ⟨-, -, c2, -, -⟩ := HD1.out.cells
  have l1 := HD1.out.nowM.look (P := Try.prog) (t := 55) Try.underlying55 Try.underlying9 zero_bytes nm true
  simp only [if_true] at l1
  obtain ⟨fa, fc, k1, k2, -⟩ := look_ok HD1.out.fnow nm
  rw [k1, k2] at l1
  clear k1 k2
  generalize (fileOf D.now nm).length = gl at *
  cases hnow : mget D.now nm with
  | none =>
   have HE := Lib.hid (show er = 7 from by rw [HE.out, hnow]; rfl)
   rw [hnow] at l1
   simp only [Option.isSome_none] at l1
   clear hnow
   go_wp2_with fail
   go_ret
   exact ⟨_, rfl, HE.out.symm, .inl ⟨by decide, Turned.of_below HD.out HB1.out⟩⟩
  | some f =>
   have HE := Lib.hid (show er = 0 from by rw [HE.out, hnow]; rfl)
   rw [hnow] at l1
   simp only [Option.isSome_some] at l1
   clear hnow
   obtain ⟨w2, hr2, ht2⟩ := delNow HD1.out nm
   have HT2 := Lib.hid ((Turned.of_below HD.out HB1.out).trans ht2)
   have HD2 := Lib.hid ht2.is
   have c42 : w2.cell? ⟨d, 4, none⟩ = some D.cv := ht2.is.cells.2.2.2.2
   have hB2 : B ≤ w2.heap.size := by have := ht2.is.foot_lt (.inl rfl); omega
   clear ht2
   have hb3 := below_alloc w2 (.cells #[.int .i64 2, .string nm, .int .i64 0, .slice none 0 0] 96)
   have HT3 := Lib.hid (HT2.out.below hb3)
   have HLIT := Lib.hid (Rd.lit (w := w2) (cs := #[.int .i64 2, .string nm, .int .i64 0, .slice none 0 0]) (e := 96) (n := 1) (sz := 4) rfl (by omega))
   have HROW : Hid _ := Lib.hid (ownsRow_below HD2.out.row hb3 (Nat.le_refl _))
   have HROW : Hid ((w2.alloc (.cells #[.int .i64 2, .string nm, .int .i64 0, .slice none 0 0] 96)).ownsRow B 96 4 D.cv D.chg.length (flatF Chg.cells D.chg)) := HROW
   obtain ⟨ca, cc, hcv⟩ := own_slice HROW.out
   have HCV := Lib.hid hcv
   rw [hcv] at c42
   clear hb3 hcv
   generalize hW3 : w2.alloc (.cells #[.int .i64 2, .string nm, .int .i64 0, .slice none 0 0] 96) = w3 at *
   have HW3 := Lib.hid hW3
   have hB3 : B ≤ w3.heap.size := by have := HT3.out.is.foot_lt (.inl rfl); omega
   clear hW3
   go_wp2_with (first
    | (at_builtin; go_loud (
     rw [HW3.out]; refine app_keep (v := .slice ca D.chg.length cc) tyChgs (by rw [← HCV.out]; exact HROW.out) HLIT.out (by simp [Value.oneCell']) (by omega) (by omega) (by omega) hB3 rfl rfl rfl rfl ?_
     intro g cap w4 ho4 hold4 hg4 hgc4
     rw [← HCV.out] at hg4 hgc4
     have ht4 := addChg (c := ⟨2, nm, 0, .slice none 0 0, []⟩) HT3.out.is (Txt.nil _) (by have := ho4; exact this) hg4 (fun j e => by
      simp only [Value.ownBlock, Option.some.injEq] at e
      subst e
      rcases hgc4 with ⟨k, c, e, -⟩ | e
      · exact .inl (by show D.cv.ownBlock = _; rw [e]; rfl)
      · exact .inr e)
     have HT4 := Lib.hid (HT3.out.trans ht4)
     have hrb := ownsRow_only HT3.out.is.box (Only.of_grown hg4) (fun g hg e => HT3.out.is.row_ne e (by simp only [Value.ownBlock, Option.some.injEq] at hg; exact hg.symm))
     have c44 : w4.cell? ⟨d, 4, none⟩ = some D.cv := by
      have e := fun j u hj => World.ownsRow.cells hrb (g := d) rfl j u hj
      simp only [add_off, Nat.zero_add] at e
      exact e 4 _ rfl
     have f44 : w4.frozen? ⟨d, 4, none⟩ = false := World.ownsRow.frozenAt hrb 4
     clear ht4 ho4 hold4 hg4 hgc4 hrb)))
   go_ret
   exact ⟨_, rfl, HE.out.symm, .inr ⟨rfl, _, by unfold rmD; exact HT4.out⟩⟩
 ·
  have e1 : (rd != 0) = true := by simp [hrd]
  have HE := Lib.hid (show er = rd from by rw [HE.out, if_pos hrd])
  go_wp2_with fail
  go_ret
  exact ⟨_, rfl, HE.out.symm, .inl ⟨hrd, Turned.of_below HD.out HB1.out⟩⟩
theorem Txt.part {w : World} {a : Option Addr} {L C : Nat} {xs : List UInt8} (h : Txt w (.slice a L C) xs) (n : Nat) (hn : n ≤ L) : Txt w (.slice a n C) (xs.take n) := by
 refine ⟨?_, fun a' n' c' e => ?_⟩
 ·
  cases a with
  | some x =>
   obtain ⟨b, o, s⟩ := x
   obtain ⟨a', cap', hv, h1, h2, h3⟩ := h.1
   simp only [Value.slice.injEq] at hv
   obtain ⟨rfl, rfl, rfl⟩ := hv
   rcases h3 with h3 | ⟨b', o', ha, hc⟩
   ·
    have hx : xs = [] := List.eq_nil_of_length_eq_zero (by omega)
    subst hx
    have hn0 : n = 0 := by simpa using hn
    subst hn0
    exact ⟨_, C, rfl, by simp, h2, .inl h3⟩
   ·
    cases ha
    exact (Bytes.part h.1 n C hn (by omega) h2)
  | none =>
   obtain ⟨a', cap', hv, h1, h2, h3⟩ := h.1
   simp only [Value.slice.injEq] at hv
   obtain ⟨rfl, rfl, rfl⟩ := hv
   have h0 : C = 0 := by
    rcases h3 with h3 | ⟨b, o, h, -⟩
    · exact h3
    · cases h
   have hx : xs = [] := List.eq_nil_of_length_eq_zero (by omega)
   subst hx
   have hn0 : n = 0 := by simpa using hn
   subst hn0
   exact ⟨none, C, rfl, by simp, h2, .inl h0⟩
 ·
  simp only [Value.slice.injEq] at e
  exact h.2 a' L C (by rw [e.1])
set_option maxHeartbeats 1000000 in
theorem dget_calls (r : Nat) (m : Files) (nm : ByteArray) (w : World) (h : MapIs w r m.ents) (hf : ∀ f ∈ m, Txt w f.2.1 f.2.2) (hl : (fileOf m nm).length ≤ 1099511627776) :
  Calls Try.prog 48 #[.map (some r), .string nm] w fun e w' => ∃ v, e = .returned (.tuple #[v, .bool (mget m nm).isSome]) ∧ Mine w' w.heap.size v (fileOf m nm) ∧ Below w.heap.size w w' := by
 have l1 := h.look (P := Try.prog) (t := 55) Try.underlying55 Try.underlying9 zero_bytes nm true
 simp only [if_true] at l1
 obtain ⟨fa, fc, k1, k2, hft⟩ := look_ok hf nm
 rw [k1, k2] at l1
 have HFT := Lib.hid hft
 clear k1 k2 hft h hf
 cases hm : mget m nm with
 | none =>
  have HF := Lib.hid (show fileOf m nm = [] from by unfold fileOf; rw [hm]; rfl)
  rw [hm] at l1
  simp only [Option.isSome_none] at l1 ⊢
  clear hm
  go_enter Try.func48, Try.ntmps48
  go_wp2_with fail
  go_ret2
  rw [HF.out]
  exact ⟨_, rfl, Mine.nil _ _, Below.refl _ _⟩
 | some f =>
  rw [hm] at l1
  simp only [Option.isSome_some] at l1 ⊢
  clear hm
  go_enter Try.func48, Try.ntmps48
  go_wp2_with fail
  refine (cloneB_calls _ _ _ HFT.out.1 (by omega)).mono ?_
  rintro e w1 ⟨v1, rfl, hm, hb⟩
  go_wp2_with fail
  go_ret2
  exact ⟨_, rfl, hm, hb⟩
set_option maxHeartbeats 1000000 in
theorem dread_calls (d B : Nat) (D : Dk) (nm : ByteArray) (w : World) (h : DiskAt w B d D) (hl : (fileOf D.now nm).length ≤ 1099511627776) :
  Calls Try.prog 25 #[.pointer (some ⟨d, 0, none⟩), .string nm] w fun e w' => ∃ v, e = .returned (.tuple #[v, .bool (mget D.now nm).isSome]) ∧ Mine w' w.heap.size v (fileOf D.now nm) ∧ Below w.heap.size w w' := by
 have HC := Lib.hid (dget_calls D.nb D.now nm w h.nowM h.fnow hl)
 obtain ⟨-, -, c2, -, -⟩ := h.cells
 clear h
 go_enter Try.func25, Try.ntmps25
 go_wp2_with fail
 refine HC.out.mono ?_
 rintro e w1 ⟨v1, rfl, hm, hb⟩
 go_wp2_with fail
 go_ret2
 exact ⟨_, rfl, hm, hb⟩
def newD (room : Int) (n : Nat) : Dk := ⟨room, false, n, n + 1, .slice none 0 0, [], [], []⟩
set_option maxHeartbeats 1000000 in
theorem dnew_calls (room : Int) (w : World) (h0 : 0 ≤ room) (h1 : room ≤ 1073741824) :
  Calls Try.prog 7 #[.int .i64 room] w fun e w' => e = .returned (.tuple #[.pointer (some ⟨w.heap.size + 2, 0, none⟩), .int .i64 0]) ∧ DiskAt w' w.heap.size (w.heap.size + 2) (newD room w.heap.size) ∧ Below w.heap.size w w' := by
 have d1 : decide (room < 0) = false := decide_eq_false (by omega)
 have d2 : decide (1073741824 < room) = false := decide_eq_false (by omega)
 have HX := Lib.hid (show DiskAt (((w.alloc (.map #[] 0)).alloc (.map #[] 0)).alloc (.cells #[.int .i64 room, .bool false, .map (some w.heap.size), .map (some (w.heap.size + 1)), .slice none 0 0] 58)) w.heap.size (w.heap.size + 2) (newD room w.heap.size) from by
  have hb2 := below_alloc (w.alloc (.map #[] 0)) (.map #[] 0)
  have hb3 := below_alloc ((w.alloc (.map #[] 0)).alloc (.map #[] 0)) (.cells #[.int .i64 room, .bool false, .map (some w.heap.size), .map (some (w.heap.size + 1)), .slice none 0 0] 58)
  refine ⟨?_, ?_, ?_, by simp [newD], by simp [newD], World.ownsRow_nil _ _ _ _, by simp [newD], by simp [newD], by simp [newD], by simp [newD], by simp [newD]⟩
  ·
   have := World.ownsRow_lit (base := w.heap.size) (size := 5) (e := 58) ((w.alloc (.map #[] 0)).alloc (.map #[] 0)) #[.int .i64 room, .bool false, .map (some w.heap.size), .map (some (w.heap.size + 1)), .slice none 0 0] 1 (by simp; omega) (by unfold maxLen; omega) (by simp)
   rw [World.size_alloc, World.size_alloc] at this
   exact this
  · exact ((MapIs.made w).below hb2).below hb3
  ·
   have := (MapIs.made (w.alloc (.map #[] 0))).below hb3
   rw [World.size_alloc] at this
   exact this)
 have HB := Lib.hid (show Below w.heap.size w (((w.alloc (.map #[] 0)).alloc (.map #[] 0)).alloc (.cells #[.int .i64 room, .bool false, .map (some w.heap.size), .map (some (w.heap.size + 1)), .slice none 0 0] 58)) from ((below_alloc w _).alloc (by simp) _).alloc (by simp; omega) _)
 have hmk := fun w : World => run_makeMap_plain (P := Try.prog) w 55
 go_enter Try.func7, Try.ntmps7
 go_wp2_with fail
 go_ret2
 exact ⟨rfl, HX.out, HB.out⟩
end Go.Proofs.Ytmafnjidhjabgaa
namespace Go.Proofs.Ytmafnjidhjabgaa
open Go.RowKit Go.Shelf
set_option linter.unusedVariables false
set_option linter.unusedSimpArgs false
set_option maxRecDepth 100000
theorem Bytes.only2 {S : Nat → Prop} {w w' : World} {v : Value} {xs : List UInt8} (h : Bytes w v xs) (ho : Only S w w') (hS : ∀ a n c, v = .slice (some a) n c → 0 < xs.length → ¬ S a.block) : Bytes w' v xs := by
 obtain ⟨a, cap, hv, h1, h2, h3⟩ := h
 refine ⟨a, cap, hv, h1, h2, ?_⟩
 rcases h3 with h3 | ⟨b, off, ha, hc⟩
 · exact .inl h3
 · exact .inr ⟨b, off, ha, fun i hi => ho.cell (hS ⟨b, off, none⟩ _ _ (by rw [hv, ha]) (by omega)) (hc i hi)⟩
set_option maxHeartbeats 4000000 in
theorem dwrite2_calls (d B : Nat) (D : Dk) (nm : ByteArray) (at_ : Nat) (dv : Value) (ys : List UInt8) (w : World) (h : DiskAt w B d D) (hv : Bytes w dv ys) (hvF : ∀ a n c, dv = .slice (some a) n c → 0 < ys.length → ¬ D.foot d a.block) (hs : nm.size ≤ 140737488355328) (hat : at_ ≤ 1099511627776) (hy : ys.length ≤ 1099511627776)
  (hf : (fileOf D.now nm).length ≤ 1099511627776) (hus : usedOf D.now ≤ 1152921504606846976) (hn : D.chg.length ≤ 1000000) (hr0 : 0 ≤ D.room) (hr1 : D.room ≤ 1152921504606846976) :
  Calls Try.prog 17 #[.pointer (some ⟨d, 0, none⟩), .string nm, .int .i64 at_, dv] w fun e w' => ∃ er, e = .returned (.int .i64 er) ∧ er = wrE D nm at_ ys ∧ WrPost w w' B d D nm at_ ys er := by
 have HR := Lib.hid (dready_calls d B D nm at_ w h hs)
 have HE := Lib.hid (show wrE D nm at_ ys = if rdyE D nm at_ ≠ 0 then rdyE D nm at_ else if (fileOf D.now nm).length < at_ then 8
  else if 0 < (at_ : Int) + ys.length - (fileOf D.now nm).length ∧ D.room - usedOf D.now < (at_ : Int) + ys.length - (fileOf D.now nm).length then 6 else 0 from rfl)
 have HD := Lib.hid h
 have HV := Lib.hid hv
 have HVF := Lib.hid hvF
 clear hvF
 obtain ⟨va, vc, rfl, -⟩ := hv
 obtain ⟨U, hU⟩ : ∃ U, usedOf D.now = U := ⟨_, rfl⟩
 rw [hU] at hus
 have HU := Lib.hid hU
 clear h hU
 generalize wrE D nm at_ ys = wr at *
 generalize rdyE D nm at_ = rd at *
 go_enter Try.func17, Try.ntmps17
 go_wp2_with fail
 refine HR.out.mono ?_
 rintro e w1 ⟨rfl, hb1⟩
 have HD1 := Lib.hid (HD.out.below hb1)
 have HB1 := Lib.hid hb1
 have HV1 := Lib.hid (HV.out.below hb1 (Nat.le_refl _))
 have hs1 := hb1.size
 clear hb1 HR HV
 by_cases hrd : rd = 0
 ·
  subst hrd
  have HE := Lib.hid (show wr = if (fileOf D.now nm).length < at_ then 8
   else if 0 < (at_ : Int) + ys.length - (fileOf D.now nm).length ∧ D.room - U < (at_ : Int) + ys.length - (fileOf D.now nm).length then 6 else 0 from by rw [HE.out, ← HU.out]; rfl)
  obtain ⟨c0, -, c2, -, c4⟩ := HD1.out.cells
  have hlook := HD1.out.nowM.look (P := Try.prog) (t := 55) Try.underlying55 Try.underlying9 zero_bytes nm false
  simp only [Bool.false_eq_true, if_false] at hlook
  obtain ⟨fa, fc, hlk, hft⟩ := look_txt HD1.out.fnow nm
  rw [hlk] at hlook
  have HFT := Lib.hid hft
  have HUS := Lib.hid (dused_calls d B D)
  generalize hF : fileOf D.now nm = F at *
  have HF := Lib.hid hF
  clear hft hlk hF
  by_cases h8 : F.length < at_
  ·
   have HE := Lib.hid (show wr = 8 from by rw [HE.out, if_pos h8])
   have d1 : decide ((F.length : Int) < (at_ : Int)) = true := decide_eq_true (by omega)
   go_wp2_with fail
   go_ret
   exact ⟨_, rfl, HE.out.symm, .inl ⟨by decide, Turned.of_below HD.out HB1.out⟩⟩
  ·
   have HE := Lib.hid (show wr = if 0 < (at_ : Int) + ys.length - F.length ∧ D.room - U < (at_ : Int) + ys.length - F.length then 6 else 0 from by rw [HE.out, if_neg h8])
   have d1 : decide ((F.length : Int) < (at_ : Int)) = false := decide_eq_false (by omega)
   go_upto_region 8 with fail
   obtain ⟨M, hM⟩ : ∃ M : Int, (at_ : Int) + (ys.length : Int) - (F.length : Int) = M := ⟨_, rfl⟩
   rw [hM] at HE ⊢
   have hM1 : M ≤ 4611686018427387904 := by omega
   have hM2 : -4611686018427387904 ≤ M := by omega
   have q1 := i64w (n := D.room - (U : Int)) (by omega) (by omega)
   have q2 := w64 (n := D.room - (U : Int)) (by omega) (by omega)
   by_cases hm : 0 < M
   ·
    have d2 : decide (0 < M) = true := decide_eq_true hm
    refine region_m [(0, false), (1, false), (2, false), (3, false), (4, false), (5, false), (6, false), (7, false), (8, false), (9, true), (10, false), (11, false), (12, false)] 13 (fun V => V.cell? ⟨d, 0, none⟩ = some (.int .i64 D.room)) (by kernel_rfl) (by kernel_rfl) c0 ?_
    iterate 9
     first
     | (
       refine m_take (v := ?_) rfl rfl ?_ ?_
       rotate_left
       ·
        intro W hW
        go_simp
        with_reducible rfl
       simp only [Act.put, List.setIfInBounds_toArray, List.set_cons_zero, List.set_cons_succ])
     | (
       refine m_skip rfl rfl ?_
       simp only [Act.put, List.setIfInBounds_toArray, List.set_cons_zero, List.set_cons_succ])
    refine m_loud rfl (fun K hK => ?_)
    have HK := Lib.hid hK
    clear hK
    go_simp
    refine (HUS.out _ HD1.out.drew (by rw [HU.out]; exact hus)).mono ?_
    rintro e w2 ⟨rfl, hb2⟩
    rw [HU.out]
    have hb2 : Below w1.heap.size w1 w2 := ((Below.refl w1.heap.size w1).drew).trans hb2
    have HD2 := Lib.hid (HD1.out.below hb2)
    have HB2 := Lib.hid (HB1.out.trans (hb2.mono HB1.out.size))
    have HV2 := Lib.hid (HV1.out.below hb2 (Nat.le_refl _))
    have HFT2 := Lib.hid (HFT.out.below hb2)
    have hs2 := hb2.size
    refine HK.out _ _ HD2.out.cells.1 ?_
    clear HK
    clear hb2 c0 c2 c4
    by_cases hful : D.room - U < M
    ·
     have d3 : decide (D.room - (U : Int) < M) = true := decide_eq_true hful
     have HE := Lib.hid (show wr = 6 from by rw [HE.out, if_pos ⟨hm, hful⟩])
     iterate 3
      first
      | (
        refine m_take (v := ?_) rfl rfl ?_ ?_
        rotate_left
        ·
         intro W hW
         go_simp
         with_reducible rfl
        simp only [Act.put, List.setIfInBounds_toArray, List.set_cons_zero, List.set_cons_succ])
      | (
        refine m_skip rfl rfl ?_
        simp only [Act.put, List.setIfInBounds_toArray, List.set_cons_zero, List.set_cons_succ])
     refine m_done ?_
     simp only [List.drop_succ_cons, List.drop_zero]
     go_wp2_with fail
     simp only [NP]
     go_wp2_with fail
     go_ret
     exact ⟨_, rfl, HE.out.symm, .inl ⟨by decide, Turned.of_below HD.out HB2.out⟩⟩
    ·
     have d3 : decide (D.room - (U : Int) < M) = false := decide_eq_false hful
     have HE0 := Lib.hid (show wr = 0 from by rw [HE.out, if_neg (fun h => hful h.2)])
     iterate 3
      first
      | (
        refine m_take (v := ?_) rfl rfl ?_ ?_
        rotate_left
        ·
         intro W hW
         go_simp
         with_reducible rfl
        simp only [Act.put, List.setIfInBounds_toArray, List.set_cons_zero, List.set_cons_succ])
      | (
        refine m_skip rfl rfl ?_
        simp only [Act.put, List.setIfInBounds_toArray, List.set_cons_zero, List.set_cons_succ])
     refine m_done ?_
     simp only [List.drop_succ_cons, List.drop_zero]
     generalize w2 = V at *
     have HDV := HD2
     have HBV := HB2
     have HVV := HV2
     have HFV := HFT2
     clear HD2 HB2 HV2 HFT2
     -- from region 10 on, in the world V
     have HE := Lib.hid (show wr = 0 from HE0.out)
     obtain ⟨c0, -, c2, -, c4⟩ := HDV.out.cells
     go_upto_region 10 with fail
     simp only [NP]
     go_upto_region 10 with fail
     refine region_m [(0, false), (1, false), (2, false), (3, false), (4, false), (5, false), (6, false), (7, false), (8, true)] 9 (fun X => X.cell? ⟨d, 2, none⟩ = some (.map (some D.nb))) (by kernel_rfl) (by kernel_rfl) c2 ?_
     iterate 8
      first
      | (
        refine m_take (v := ?_) rfl rfl ?_ ?_
        rotate_left
        ·
         intro W hW
         go_simp
         with_reducible rfl
        simp only [Act.put, List.setIfInBounds_toArray, List.set_cons_zero, List.set_cons_succ])
      | (
        refine m_skip rfl rfl ?_
        simp only [Act.put, List.setIfInBounds_toArray, List.set_cons_zero, List.set_cons_succ])
     refine m_loud rfl (fun K hK => ?_)
     have HK := Lib.hid hK
     clear hK
     go_simp
     refine (dwritten_calls _ _ F ys at_ _ (HFV.out.drew).1 (HVV.out.below ((Below.refl _ _).drew) (Nat.le_refl _)) (by omega) (by omega) (by omega)).mono ?_
     rintro e w4 ⟨nv, rfl, hm4, hb4⟩
     have hb4 : Below V.heap.size V w4 := ((Below.refl V.heap.size V).drew).trans hb4
     have HD4 := Lib.hid (HDV.out.below hb4)
     have HB4 := Lib.hid (HBV.out.trans (hb4.mono HBV.out.size))
     have HM4 := Lib.hid (Txt.of_mine hm4)
     have HV4 := Lib.hid (HVV.out.below hb4 (Nat.le_refl _))
     have hs4 := hb4.size
     refine HK.out _ _ HD4.out.cells.2.2.1 ?_
     clear HK
     clear hm4 hb4 c0 c2 c4
     refine m_done ?_
     simp only [List.drop_succ_cons, List.drop_zero]
     obtain ⟨w5, hr5, ht5⟩ := setNow HD4.out HM4.out nm
     have HT5 := Lib.hid ((Turned.of_below HD.out HB4.out).trans ht5)
     have HD5 := Lib.hid ht5.is
     have HON5 := Lib.hid ht5.only
     have c4 := ht5.is.cells.2.2.2.2
     have HV5 := Lib.hid (HV4.out.only2 ht5.only (fun a n c e h0 hf => HVF.out a n c e h0 hf))
     have hs5 := ht5.only.size
     clear ht5
     go_upto_region 11 with fail
     simp only [NP]
     go_upto_region 11 with fail
     refine region_m [(0, false), (1, false), (2, false), (3, false), (4, false), (5, false), (6, false), (7, false), (8, true), (9, false), (10, true), (11, true)] 12 (fun X => X.cell? ⟨d, 4, none⟩ = some D.cv) (by kernel_rfl) (by kernel_rfl) c4 ?_
     iterate 8
      first
      | (
        refine m_take (v := ?_) rfl rfl ?_ ?_
        rotate_left
        ·
         intro W hW
         go_simp
         with_reducible rfl
        simp only [Act.put, List.setIfInBounds_toArray, List.set_cons_zero, List.set_cons_succ])
      | (
        refine m_skip rfl rfl ?_
        simp only [Act.put, List.setIfInBounds_toArray, List.set_cons_zero, List.set_cons_succ])
     refine m_loud rfl (fun K hK => ?_)
     have HK := Lib.hid hK
     clear hK
     go_simp
     refine (cloneB_calls _ ys _ (HV5.out.below ((Below.refl _ _).drew) (Nat.le_refl _)) (by omega)).mono ?_
     rintro e w6 ⟨cv', rfl, hm6, hb6⟩
     have hb6 : Below w5.heap.size w5 w6 := ((Below.refl w5.heap.size w5).drew).trans hb6
     have HT6 := Lib.hid (HT5.out.below hb6)
     have HM6 := Lib.hid (Txt.of_mine hm6)
     obtain ⟨xa, xc, rfl⟩ := hm6.slice
     have c6 := HT6.out.is.cells.2.2.2.2
     have c6 : w6.cell? ⟨d, 4, none⟩ = some D.cv := c6
     refine HK.out _ _ c6 ?_
     clear HK
     clear hm6 hb6 c4
     iterate 1
      first
      | (
        refine m_take (v := ?_) rfl rfl ?_ ?_
        rotate_left
        ·
         intro W hW
         go_simp
         with_reducible rfl
        simp only [Act.put, List.setIfInBounds_toArray, List.set_cons_zero, List.set_cons_succ])
      | (
        refine m_skip rfl rfl ?_
        simp only [Act.put, List.setIfInBounds_toArray, List.set_cons_zero, List.set_cons_succ])
     refine m_loud rfl (fun K hK => ?_)
     have HK := Lib.hid hK
     clear hK
     go_simp
     have hb7 := below_alloc w6 (.cells #[.int .i64 0, .string nm, .int .i64 at_, .slice xa ys.length xc] 96)
     have HT7 := Lib.hid (HT6.out.below hb7)
     have c7 : (w6.alloc (.cells #[.int .i64 0, .string nm, .int .i64 at_, .slice xa ys.length xc] 96)).cell? ⟨d, 4, none⟩ = some D.cv := HT7.out.is.cells.2.2.2.2
     have HM7 := Lib.hid (HM6.out.below hb7)
     have HLIT := Lib.hid (Rd.lit (w := w6) (cs := #[.int .i64 0, .string nm, .int .i64 at_, .slice xa ys.length xc]) (e := 96) (n := 1) (sz := 4) rfl (by omega))
     refine HK.out _ _ c7 ?_
     clear HK
     clear hb7 c6
     have hB7 : B ≤ (w6.alloc (.cells #[.int .i64 0, .string nm, .int .i64 at_, .slice xa ys.length xc] 96)).heap.size := by have := HT7.out.is.foot_lt (.inl rfl); omega
     generalize hW7 : w6.alloc (.cells #[.int .i64 0, .string nm, .int .i64 at_, .slice xa ys.length xc] 96) = w7 at *
     have HW7 := Lib.hid hW7
     clear hW7
     refine m_app tyChgs (base := B) (n := D.chg.length) HT7.out.is.row HLIT.out (by simp [Value.oneCell']) (by omega) (by omega) (by omega) hB7 rfl rfl rfl rfl rfl ?_
     intro g cap w8 ho8 hold8 hg8 hgc8
     have ht8 := addChg (c := ⟨0, nm, at_, .slice xa ys.length xc, ys⟩) HT7.out.is HM7.out (by have := ho8; exact this) hg8 (fun j e => by
      simp only [Value.ownBlock, Option.some.injEq] at e
      subst e
      rcases hgc8 with ⟨k, c, e, -⟩ | e
      · exact .inl (by rw [show ({ D with now := mput D.now nm (nv, wrt F ys at_) } : Dk).cv = D.cv from rfl] at *; rw [e]; rfl)
      · exact .inr e)
     have HT8 := Lib.hid (HT7.out.trans ht8)
     have hrb := ownsRow_only HT7.out.is.box (Only.of_grown hg8) (fun g hg e => HT7.out.is.row_ne e (by simp only [Value.ownBlock, Option.some.injEq] at hg; exact hg.symm))
     have c8 : w8.cell? ⟨d, 4, none⟩ = some D.cv := by
      have e := fun j u hj => World.ownsRow.cells hrb (g := d) rfl j u hj
      simp only [add_off, Nat.zero_add] at e
      exact e 4 _ rfl
     have f8 : w8.frozen? ⟨d, 4, none⟩ = false := World.ownsRow.frozenAt hrb 4
     refine ⟨c8, ?_⟩
     clear ht8 ho8 hold8 hg8 hgc8 hrb c7
     refine m_done ?_
     simp only [List.drop_succ_cons, List.drop_zero]
     go_wp2_with fail
     simp only [NP]
     go_wp2_with fail
     go_ret
     exact ⟨_, rfl, HE.out.symm, .inr ⟨rfl, nv, _, _, by unfold wrD; rw [HF.out]; exact HT8.out⟩⟩
   ·
    have d2 : decide (0 < M) = false := decide_eq_false hm
    have HE0 := Lib.hid (show wr = 0 from by rw [HE.out, if_neg (fun h => hm h.1)])
    refine region_m [(0, false), (1, false), (2, false), (3, false), (4, false), (5, false), (6, false), (7, false), (8, false), (9, true), (10, false), (11, false), (12, false)] 13 (fun V => True) (by kernel_rfl) (by kernel_rfl) trivial ?_
    iterate 9
     first
     | (
       refine m_take (v := ?_) rfl rfl ?_ ?_
       rotate_left
       ·
        intro W hW
        go_simp
        with_reducible rfl
       simp only [Act.put, List.setIfInBounds_toArray, List.set_cons_zero, List.set_cons_succ])
     | (
       refine m_skip rfl rfl ?_
       simp only [Act.put, List.setIfInBounds_toArray, List.set_cons_zero, List.set_cons_succ])
    refine m_loud rfl (fun K hK => ?_)
    have HK := Lib.hid hK
    clear hK
    go_simp
    refine HK.out _ _ trivial ?_
    clear HK
    iterate 3
     first
     | (
       refine m_take (v := ?_) rfl rfl ?_ ?_
       rotate_left
       ·
        intro W hW
        go_simp
        with_reducible rfl
       simp only [Act.put, List.setIfInBounds_toArray, List.set_cons_zero, List.set_cons_succ])
     | (
       refine m_skip rfl rfl ?_
       simp only [Act.put, List.setIfInBounds_toArray, List.set_cons_zero, List.set_cons_succ])
    refine m_done ?_
    simp only [List.drop_succ_cons, List.drop_zero]
    have HDV := Lib.hid HD1.out.drew
    have HBV := Lib.hid HB1.out.drew
    have HVV := Lib.hid (HV1.out.below ((Below.refl _ _).drew) (Nat.le_refl _))
    have HFV := Lib.hid HFT.out.drew
    clear HD1 HB1 HV1 HFT
    generalize w1.drew = V at *
    -- from region 10 on, in the world V
    have HE := Lib.hid (show wr = 0 from HE0.out)
    obtain ⟨c0, -, c2, -, c4⟩ := HDV.out.cells
    go_upto_region 10 with fail
    simp only [NP]
    go_upto_region 10 with fail
    refine region_m [(0, false), (1, false), (2, false), (3, false), (4, false), (5, false), (6, false), (7, false), (8, true)] 9 (fun X => X.cell? ⟨d, 2, none⟩ = some (.map (some D.nb))) (by kernel_rfl) (by kernel_rfl) c2 ?_
    iterate 8
     first
     | (
       refine m_take (v := ?_) rfl rfl ?_ ?_
       rotate_left
       ·
        intro W hW
        go_simp
        with_reducible rfl
       simp only [Act.put, List.setIfInBounds_toArray, List.set_cons_zero, List.set_cons_succ])
     | (
       refine m_skip rfl rfl ?_
       simp only [Act.put, List.setIfInBounds_toArray, List.set_cons_zero, List.set_cons_succ])
    refine m_loud rfl (fun K hK => ?_)
    have HK := Lib.hid hK
    clear hK
    go_simp
    refine (dwritten_calls _ _ F ys at_ _ (HFV.out.drew).1 (HVV.out.below ((Below.refl _ _).drew) (Nat.le_refl _)) (by omega) (by omega) (by omega)).mono ?_
    rintro e w4 ⟨nv, rfl, hm4, hb4⟩
    have hb4 : Below V.heap.size V w4 := ((Below.refl V.heap.size V).drew).trans hb4
    have HD4 := Lib.hid (HDV.out.below hb4)
    have HB4 := Lib.hid (HBV.out.trans (hb4.mono HBV.out.size))
    have HM4 := Lib.hid (Txt.of_mine hm4)
    have HV4 := Lib.hid (HVV.out.below hb4 (Nat.le_refl _))
    have hs4 := hb4.size
    refine HK.out _ _ HD4.out.cells.2.2.1 ?_
    clear HK
    clear hm4 hb4 c0 c2 c4
    refine m_done ?_
    simp only [List.drop_succ_cons, List.drop_zero]
    obtain ⟨w5, hr5, ht5⟩ := setNow HD4.out HM4.out nm
    have HT5 := Lib.hid ((Turned.of_below HD.out HB4.out).trans ht5)
    have HD5 := Lib.hid ht5.is
    have HON5 := Lib.hid ht5.only
    have c4 := ht5.is.cells.2.2.2.2
    have HV5 := Lib.hid (HV4.out.only2 ht5.only (fun a n c e h0 hf => HVF.out a n c e h0 hf))
    have hs5 := ht5.only.size
    clear ht5
    go_upto_region 11 with fail
    simp only [NP]
    go_upto_region 11 with fail
    refine region_m [(0, false), (1, false), (2, false), (3, false), (4, false), (5, false), (6, false), (7, false), (8, true), (9, false), (10, true), (11, true)] 12 (fun X => X.cell? ⟨d, 4, none⟩ = some D.cv) (by kernel_rfl) (by kernel_rfl) c4 ?_
    iterate 8
     first
     | (
       refine m_take (v := ?_) rfl rfl ?_ ?_
       rotate_left
       ·
        intro W hW
        go_simp
        with_reducible rfl
       simp only [Act.put, List.setIfInBounds_toArray, List.set_cons_zero, List.set_cons_succ])
     | (
       refine m_skip rfl rfl ?_
       simp only [Act.put, List.setIfInBounds_toArray, List.set_cons_zero, List.set_cons_succ])
    refine m_loud rfl (fun K hK => ?_)
    have HK := Lib.hid hK
    clear hK
    go_simp
    refine (cloneB_calls _ ys _ (HV5.out.below ((Below.refl _ _).drew) (Nat.le_refl _)) (by omega)).mono ?_
    rintro e w6 ⟨cv', rfl, hm6, hb6⟩
    have hb6 : Below w5.heap.size w5 w6 := ((Below.refl w5.heap.size w5).drew).trans hb6
    have HT6 := Lib.hid (HT5.out.below hb6)
    have HM6 := Lib.hid (Txt.of_mine hm6)
    obtain ⟨xa, xc, rfl⟩ := hm6.slice
    have c6 := HT6.out.is.cells.2.2.2.2
    have c6 : w6.cell? ⟨d, 4, none⟩ = some D.cv := c6
    refine HK.out _ _ c6 ?_
    clear HK
    clear hm6 hb6 c4
    iterate 1
     first
     | (
       refine m_take (v := ?_) rfl rfl ?_ ?_
       rotate_left
       ·
        intro W hW
        go_simp
        with_reducible rfl
       simp only [Act.put, List.setIfInBounds_toArray, List.set_cons_zero, List.set_cons_succ])
     | (
       refine m_skip rfl rfl ?_
       simp only [Act.put, List.setIfInBounds_toArray, List.set_cons_zero, List.set_cons_succ])
    refine m_loud rfl (fun K hK => ?_)
    have HK := Lib.hid hK
    clear hK
    go_simp
    have hb7 := below_alloc w6 (.cells #[.int .i64 0, .string nm, .int .i64 at_, .slice xa ys.length xc] 96)
    have HT7 := Lib.hid (HT6.out.below hb7)
    have c7 : (w6.alloc (.cells #[.int .i64 0, .string nm, .int .i64 at_, .slice xa ys.length xc] 96)).cell? ⟨d, 4, none⟩ = some D.cv := HT7.out.is.cells.2.2.2.2
    have HM7 := Lib.hid (HM6.out.below hb7)
    have HLIT := Lib.hid (Rd.lit (w := w6) (cs := #[.int .i64 0, .string nm, .int .i64 at_, .slice xa ys.length xc]) (e := 96) (n := 1) (sz := 4) rfl (by omega))
    refine HK.out _ _ c7 ?_
    clear HK
    clear hb7 c6
    have hB7 : B ≤ (w6.alloc (.cells #[.int .i64 0, .string nm, .int .i64 at_, .slice xa ys.length xc] 96)).heap.size := by have := HT7.out.is.foot_lt (.inl rfl); omega
    generalize hW7 : w6.alloc (.cells #[.int .i64 0, .string nm, .int .i64 at_, .slice xa ys.length xc] 96) = w7 at *
    have HW7 := Lib.hid hW7
    clear hW7
    refine m_app tyChgs (base := B) (n := D.chg.length) HT7.out.is.row HLIT.out (by simp [Value.oneCell']) (by omega) (by omega) (by omega) hB7 rfl rfl rfl rfl rfl ?_
    intro g cap w8 ho8 hold8 hg8 hgc8
    have ht8 := addChg (c := ⟨0, nm, at_, .slice xa ys.length xc, ys⟩) HT7.out.is HM7.out (by have := ho8; exact this) hg8 (fun j e => by
     simp only [Value.ownBlock, Option.some.injEq] at e
     subst e
     rcases hgc8 with ⟨k, c, e, -⟩ | e
     · exact .inl (by rw [show ({ D with now := mput D.now nm (nv, wrt F ys at_) } : Dk).cv = D.cv from rfl] at *; rw [e]; rfl)
     · exact .inr e)
    have HT8 := Lib.hid (HT7.out.trans ht8)
    have hrb := ownsRow_only HT7.out.is.box (Only.of_grown hg8) (fun g hg e => HT7.out.is.row_ne e (by simp only [Value.ownBlock, Option.some.injEq] at hg; exact hg.symm))
    have c8 : w8.cell? ⟨d, 4, none⟩ = some D.cv := by
     have e := fun j u hj => World.ownsRow.cells hrb (g := d) rfl j u hj
     simp only [add_off, Nat.zero_add] at e
     exact e 4 _ rfl
    have f8 : w8.frozen? ⟨d, 4, none⟩ = false := World.ownsRow.frozenAt hrb 4
    refine ⟨c8, ?_⟩
    clear ht8 ho8 hold8 hg8 hgc8 hrb c7
    refine m_done ?_
    simp only [List.drop_succ_cons, List.drop_zero]
    go_wp2_with fail
    simp only [NP]
    go_wp2_with fail
    go_ret
    exact ⟨_, rfl, HE.out.symm, .inr ⟨rfl, nv, _, _, by unfold wrD; rw [HF.out]; exact HT8.out⟩⟩
 ·
  have e1 : (rd != 0) = true := by simp [hrd]
  have HE := Lib.hid (show wr = rd from by rw [HE.out, if_pos hrd])
  go_wp2_with fail
  go_ret
  exact ⟨_, rfl, HE.out.symm, .inl ⟨hrd, Turned.of_below HD.out HB1.out⟩⟩
set_option maxHeartbeats 2000000 in
theorem dwrite_full (d B : Nat) (D : Dk) (nm : ByteArray) (dv : Value) (ys : List UInt8) (w : World) (h : DiskAt w B d D) (hg : goodNm nm.data.toList = true) (hnf : D.fails = false) (hv : Bytes w dv ys) (hy : 1099511627776 < ys.length) (hs : nm.size ≤ 140737488355328)
  (hf : (fileOf D.now nm).length ≤ 1073741824) (hus : usedOf D.now ≤ 1073741824) (hr0 : 0 ≤ D.room) (hr1 : D.room ≤ 1073741824) :
  Calls Try.prog 17 #[.pointer (some ⟨d, 0, none⟩), .string nm, .int .i64 0, dv] w fun e w' => e = .returned (.int .i64 6) ∧ Below w.heap.size w w' := by
 have HR := Lib.hid (show Calls Try.prog 37 #[.pointer (some ⟨d, 0, none⟩), .string nm, .int .i64 0] w fun e w' => e = .returned (.int .i64 0) ∧ Below w.heap.size w w' from by
  refine (dready_calls d B D nm 0 w h hs).mono ?_
  rintro e w' ⟨rfl, hb⟩
  refine ⟨?_, hb⟩
  unfold rdyE
  rw [hnf, hg]
  rfl)
 have HD := Lib.hid h
 obtain ⟨va, vc, rfl, hyc, hyc2, -⟩ := hv
 have hy2 : ys.length ≤ 9223372036854775807 := Nat.le_trans hyc hyc2
 obtain ⟨U, hU⟩ : ∃ U, usedOf D.now = U := ⟨_, rfl⟩
 rw [hU] at hus
 have HU := Lib.hid hU
 clear h hU hnf hg hyc hyc2
 go_enter Try.func17, Try.ntmps17
 go_wp2_with fail
 refine HR.out.mono ?_
 rintro e w1 ⟨rfl, hb1⟩
 have HD1 := Lib.hid (HD.out.below hb1)
 have HB1 := Lib.hid hb1
 have hs1 := hb1.size
 clear hb1 HR
 obtain ⟨c0, -, c2, -, c4⟩ := HD1.out.cells
 have hlook := HD1.out.nowM.look (P := Try.prog) (t := 55) Try.underlying55 Try.underlying9 zero_bytes nm false
 simp only [Bool.false_eq_true, if_false] at hlook
 obtain ⟨fa, fc, hlk, hft⟩ := look_txt HD1.out.fnow nm
 rw [hlk] at hlook
 have HUS := Lib.hid (dused_calls d B D)
 generalize hF : fileOf D.now nm = F at *
 clear hft hlk hF
 have d1 : decide ((F.length : Int) < 0) = false := decide_eq_false (by omega)
 go_upto_region 8 with fail
 obtain ⟨M, hM⟩ : ∃ M : Int, (ys.length : Int) - (F.length : Int) = M := ⟨_, rfl⟩
 have hM0 : wrap64 (ys.length : Int) = (ys.length : Int) := w64 (by omega) (by omega)
 have hM1 : M ≤ 9223372036854775807 := by omega
 have hM2 : 1073741824 < M := by omega
 simp only [Int.zero_add, hM]
 have q1 := i64w (n := D.room - (U : Int)) (by omega) (by omega)
 have q2 := w64 (n := D.room - (U : Int)) (by omega) (by omega)
 have d2 : decide (0 < M) = true := decide_eq_true (by omega)
 clear hM
 refine region_m [(0, false), (1, false), (2, false), (3, false), (4, false), (5, false), (6, false), (7, false), (8, false), (9, true), (10, false), (11, false), (12, false)] 13 (fun V => V.cell? ⟨d, 0, none⟩ = some (.int .i64 D.room)) (by kernel_rfl) (by kernel_rfl) c0 ?_
 iterate 9
  first
  | (
   refine m_take (v := ?_) rfl rfl ?_ ?_
   rotate_left
   ·
    intro W hW
    go_simp
    with_reducible rfl
   simp only [Act.put, List.setIfInBounds_toArray, List.set_cons_zero, List.set_cons_succ])
  | (
   refine m_skip rfl rfl ?_
   simp only [Act.put, List.setIfInBounds_toArray, List.set_cons_zero, List.set_cons_succ])
 refine m_loud rfl (fun K hK => ?_)
 have HK := Lib.hid hK
 clear hK
 go_simp
 refine (HUS.out _ HD1.out.drew (by rw [HU.out]; omega)).mono ?_
 rintro e w2 ⟨rfl, hb2⟩
 rw [HU.out]
 have hb2 : Below w1.heap.size w1 w2 := ((Below.refl w1.heap.size w1).drew).trans hb2
 have HD2 := Lib.hid (HD1.out.below hb2)
 have HB2 := Lib.hid (HB1.out.trans (hb2.mono HB1.out.size))
 refine HK.out _ _ HD2.out.cells.1 ?_
 clear HK
 clear hb2 c0 c2 c4
 have d3 : decide (D.room - (U : Int) < M) = true := decide_eq_true (by omega)
 iterate 3
  first
  | (
   refine m_take (v := ?_) rfl rfl ?_ ?_
   rotate_left
   ·
    intro W hW
    go_simp
    with_reducible rfl
   simp only [Act.put, List.setIfInBounds_toArray, List.set_cons_zero, List.set_cons_succ])
  | (
   refine m_skip rfl rfl ?_
   simp only [Act.put, List.setIfInBounds_toArray, List.set_cons_zero, List.set_cons_succ])
 refine m_done ?_
 simp only [List.drop_succ_cons, List.drop_zero]
 go_wp2_with fail
 simp only [NP]
 go_wp2_with fail
 go_ret
 exact ⟨rfl, HB2.out⟩
end Go.Proofs.Ytmafnjidhjabgaa
