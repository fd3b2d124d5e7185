/- Walks and plain laws of the chapter, laid together; each part says what it proves. -/
import Derived.Deep.Cut
import Derived.Test.YtkabfjbmofpkdaaPkC
/- Layer 14: a ledger with memory of its own: what it is, and how its box stands meanwhile. -/
namespace Go.Proofs.Ytkabfjbmofpkdaa
open Go.RowKit Go.Shelf
set_option maxRecDepth 100000

/-- A ledger whose rows all are the call's own. -/
structure LedO (w : World) (base : Nat) (L : Led) : Prop where
  rows : w.ownsRow base 92 3 L.rv L.rows.length (flatF Row.cells L.rows)
  opn : w.ownsRow base 33 5 L.ov L.opn.length (flatF Rec.cells L.opn)
  bats : w.ownsRow base 67 2 L.bv L.bats.length (flatF Bt.cells L.bats)
  recs : ∀ b ∈ L.bats, w.ownsRow base 33 5 b.rv b.recs.length (flatF Rec.cells b.recs)
  apart : ∀ b ∈ L.bats, ∀ g, L.ov.ownBlock = some g → b.rv.ownBlock ≠ some g
  ops : w.ownsRow base 90 7 L.gv L.ops.length (flatF Opr.cells L.ops)
  ins : ∀ o ∈ L.ops, w.ownsRow base 3 1 o.iv o.ins.length (ints o.ins)
theorem LedO.reads {w : World} {base : Nat} {L : Led} (h : LedO w base L) : LedR w L :=
  ⟨Rd.of_own h.rows, Rd.of_own h.opn, ⟨Rd.of_own h.bats, fun b hb => Rd.of_own (h.recs b hb)⟩, ⟨Rd.of_own h.ops, fun o ho => Rd.of_own (h.ins o ho)⟩⟩
theorem LedO.below {w w' : World} {base : Nat} {L : Led} (h : LedO w base L) (hb : Below w.heap.size w w') : LedO w' base L :=
  ⟨ownsRow_below h.rows hb (Nat.le_refl _), ownsRow_below h.opn hb (Nat.le_refl _), ownsRow_below h.bats hb (Nat.le_refl _), fun b hb' => ownsRow_below (h.recs b hb') hb (Nat.le_refl _), h.apart, ownsRow_below h.ops hb (Nat.le_refl _), fun o ho => ownsRow_below (h.ins o ho) hb (Nat.le_refl _)⟩
theorem LedO.mono {w : World} {base base' : Nat} {L : Led} (h : LedO w base L) (hb : base' ≤ base) : LedO w base' L :=
  ⟨ownsRow_mono h.rows hb, ownsRow_mono h.opn hb, ownsRow_mono h.bats hb, fun b hb' => ownsRow_mono (h.recs b hb') hb, h.apart, ownsRow_mono h.ops hb, fun o ho => ownsRow_mono (h.ins o ho) hb⟩

def Bt.con (b : Bt) : Int × List Rec := (b.ep, b.recs)
def Opr.con (o : Opr) : Int × List Int × Int × Int × Int × Int × Int := (o.kind, o.ins, o.arg, o.num, o.rounds, o.test, o.lim)
/-- The same ledgers, wherever they lie. -/
structure SameL (L M : Led) : Prop where
  rows : M.rows = L.rows
  C : M.C = L.C
  opn : M.opn = L.opn
  bats : M.bats.map Bt.con = L.bats.map Bt.con
  sealed : M.sealed = L.sealed
  decided : M.decided = L.decided
  dep : M.dep = L.dep
  ops : M.ops.map Opr.con = L.ops.map Opr.con
  keep : M.keep = L.keep
theorem SameL.refl (L : Led) : SameL L L := ⟨rfl, rfl, rfl, rfl, rfl, rfl, rfl, rfl, rfl⟩
theorem SameL.trans {L M N : Led} (h : SameL L M) (k : SameL M N) : SameL L N := ⟨k.rows.trans h.rows, k.C.trans h.C, k.opn.trans h.opn, k.bats.trans h.bats, k.sealed.trans h.sealed, k.decided.trans h.decided, k.dep.trans h.dep, k.ops.trans h.ops, k.keep.trans h.keep⟩
theorem SameL.symm {L M : Led} (h : SameL L M) : SameL M L := ⟨h.rows.symm, h.C.symm, h.opn.symm, h.bats.symm, h.sealed.symm, h.decided.symm, h.dep.symm, h.ops.symm, h.keep.symm⟩

/-- The box of a ledger that is changed field by field; behind it the box of the result. -/
structure BoxAt (w W : World) (cur : Led) : Prop where
  below : Below w.heap.size w W
  box : BoxL W w.heap.size cur
  bf : ∀ j, W.frozen? ⟨w.heap.size, j, none⟩ = false
  res : W.there (w.heap.size + 1) 0 16
  size : w.heap.size + 2 ≤ W.heap.size
theorem BoxAt.later {w W W' : World} {cur : Led} (h : BoxAt w W cur) (hb : Below W.heap.size W W') : BoxAt w W' cur := by
  have hs := h.size
  refine ⟨below_then h.below hb (by omega), h.box.later hb, fun j => (World.frozen?_of_block (a := ⟨w.heap.size, j, none⟩) (hb.block w.heap.size (by omega))).trans (h.bf j), fun j hj => ?_, by have := hb.size; omega⟩
  obtain ⟨h1, h2⟩ := h.res j hj
  refine ⟨?_, (World.frozen?_of_block (hb.block (w.heap.size + 1) (by omega))).trans h2⟩
  obtain ⟨v, hv⟩ := Option.isSome_iff_exists.1 h1
  rw [cell_later hb hv]; rfl
theorem BoxAt.other {w W W' : World} {cur : Led} {S : Nat → Prop} (h : BoxAt w W cur) (ho : Only S W W') (hS : ∀ j, S j → w.heap.size + 2 ≤ j) : BoxAt w W' cur := by
  have hs := h.size
  refine ⟨h.below.trans (ho.below (by omega) (fun j hj e => by have := hS j e; omega)), fun j v hj => ho.cell (fun e => by have := hS _ e; omega) (h.box j v hj), fun j => (ho.frozen (by omega) (fun e => by have := hS _ e; omega)).trans (h.bf j), fun j hj => ?_, by have := ho.size; omega⟩
  obtain ⟨h1, h2⟩ := h.res j hj
  refine ⟨?_, (ho.frozen (by omega) (fun e => by have := hS _ e; omega)).trans h2⟩
  obtain ⟨v, hv⟩ := Option.isSome_iff_exists.1 h1
  rw [ho.cell (fun e => by have := hS _ e; omega) hv]; rfl
theorem BoxAt.set {w W : World} {cur cur' : Led} (h : BoxAt w W cur) (j : Nat) (v : Value) (hc : cur'.cells = cur.cells.set j v) (hj : j < 16) : BoxAt w (W.setCell ⟨w.heap.size, j, none⟩ v) cur' := by
  have hs := h.size
  refine ⟨h.below.setCell (p := ⟨w.heap.size, j, none⟩) (Nat.le_refl _) v, fun i u hi => ?_, fun i => by rw [World.frozen?_setCell]; exact h.bf i, fun i hi => ?_, by simp; omega⟩
  · rw [hc] at hi
    by_cases e : i = j
    · subst e
      rw [List.getElem?_set_self (by show i < 16; exact hj)] at hi
      cases hi
      have hx : ∃ u, cur.cells[i]? = some u := ⟨_, List.getElem?_eq_getElem (by show i < 16; exact hj)⟩
      obtain ⟨u, hu⟩ := hx
      exact cell_set_same v (h.box i u hu)
    · rw [List.getElem?_set_ne (by omega)] at hi
      rw [cell_set_off v e]
      exact h.box i u hi
  · obtain ⟨h1, h2⟩ := h.res i hi
    exact ⟨by rw [cell_set_block v (by omega)]; exact h1, by rw [World.frozen?_setCell]; exact h2⟩
def zero16 : Array Value := #[.slice none 0 0, .int .i64 0, .int .i64 0, .int .i64 0, .int .i64 0, .int .i64 0, .int .i64 0, .int .i64 0, .int .i64 0, .slice none 0 0, .slice none 0 0, .int .i64 0, .int .i64 0, .bool false, .slice none 0 0, .int .i64 0]
theorem boxAt_start (w : World) (L : Led) : BoxAt w ((w.alloc (.cells L.cells.toArray 30)).alloc (.cells zero16 30)) L := by
  refine ⟨below_box (below_alloc _ _) _, (boxL_self w L 30).later (below_alloc _ _), fun j => ?_, fun j hj => ?_, by simp⟩
  · rw [World.frozen?_alloc_past _ _ _ (by simp), World.frozen?_alloc_at _ _ _ _ rfl]
  · refine ⟨?_, by rw [World.frozen?_alloc_at _ _ _ _ (by simp)]⟩
    rw [World.cell?_alloc_at _ _ _ _ (by simp)]
    show (zero16[0 + j]?).isSome = true
    rw [Nat.zero_add]
    have : j < zero16.size := hj
    rw [Array.getElem?_eq_getElem this]; rfl
end Go.Proofs.Ytkabfjbmofpkdaa

/- Layer 14: own of a ledger, walked. -/
namespace Go.Proofs.Ytkabfjbmofpkdaa
open Go.RowKit Go.Shelf
set_option maxRecDepth 100000

theorem flatF_set1 {α : Type} {f : α → List Value} {k : Nat} (hk : ∀ a, (f a).length = k) (r : Nat) (v : Value) (hr : r < k) : ∀ (es : List α) (i : Nat) (hi : i < es.length) (b : α), f b = (f es[i]).set r v → flatF f (es.set i b) = (flatF f es).set (i * k + r) v
  | [], i, hi, _, _ => by simp at hi
  | e :: es, 0, _, b, h => by
    simp only [List.getElem_cons_zero] at h
    show f b ++ flatF f es = (f e ++ flatF f es).set (0 * k + r) v
    rw [Nat.zero_mul, Nat.zero_add, List.set_append_left _ _ (by rw [hk]; exact hr), h]
  | e :: es, i + 1, hi, b, h => by
    have hi' : i < es.length := by simpa using hi
    simp only [List.getElem_cons_succ] at h
    show f e ++ flatF f (es.set i b) = (f e ++ flatF f es).set ((i + 1) * k + r) v
    rw [flatF_set1 hk r v hr es i hi' b h, Nat.add_mul, Nat.one_mul, List.set_append_right _ _ (by rw [hk]; omega), hk]
    congr 2
    omega

theorem bt_one {w : World} {bs : List Bt} (h : ∀ b ∈ bs, Recs w b.rv b.recs) : ∀ u ∈ flatF Bt.cells bs, u.oneCell' = true := by
  intro u hu
  obtain ⟨b, hb, hu⟩ := List.mem_flatMap.1 hu
  obtain ⟨a, c, hv, -⟩ := Rd.slice (h b hb)
  simp only [Bt.cells, List.mem_cons, List.not_mem_nil, or_false] at hu
  rcases hu with rfl | rfl
  · rfl
  · rw [hv]; rfl
theorem op_one {w : World} {os : List Opr} (h : ∀ o ∈ os, Ints w o.iv o.ins) : ∀ u ∈ flatF Opr.cells os, u.oneCell' = true := by
  intro u hu
  obtain ⟨o, ho, hu⟩ := List.mem_flatMap.1 hu
  obtain ⟨a, c, hv, -⟩ := Rd.slice (h o ho)
  simp only [Opr.cells, List.mem_cons, List.not_mem_nil, or_false] at hu
  rcases hu with rfl | rfl | rfl | rfl | rfl | rfl | rfl
  · rfl
  · rw [hv]; rfl
  all_goals rfl

/-- The row of batches while its records are cloned one by one. -/
structure BatSt (W : World) (base : Nat) (bv ov : Value) (old : List Bt) (i : Nat) (xs : List Bt) : Prop where
  row : W.ownsRow base 67 2 bv old.length (flatF Bt.cells xs)
  con : xs.map Bt.con = old.map Bt.con
  done : ∀ j, j < i → ∀ hj : j < xs.length, W.ownsRow base 33 5 xs[j].rv xs[j].recs.length (flatF Rec.cells xs[j].recs) ∧ ∀ g, ov.ownBlock = some g → xs[j].rv.ownBlock ≠ some g
  rest : ∀ j, i ≤ j → xs[j]? = old[j]?
theorem BatSt.len {W : World} {base : Nat} {bv ov : Value} {old xs : List Bt} {i : Nat} (h : BatSt W base bv ov old i xs) : xs.length = old.length := by
  have := congrArg List.length h.con; simpa using this
theorem BatSt.start {W : World} {base : Nat} {bv ov : Value} {old : List Bt} (h : W.ownsRow base 67 2 bv old.length (flatF Bt.cells old)) : BatSt W base bv ov old 0 old := ⟨h, rfl, fun j hj => by omega, fun _ _ => rfl⟩
theorem BatSt.below {W W' : World} {base : Nat} {bv ov : Value} {old xs : List Bt} {i : Nat} (h : BatSt W base bv ov old i xs) (hb : Below W.heap.size W W') : BatSt W' base bv ov old i xs :=
  ⟨ownsRow_below h.row hb (Nat.le_refl _), h.con, fun j hj hl => ⟨ownsRow_below (h.done j hj hl).1 hb (Nat.le_refl _), (h.done j hj hl).2⟩, h.rest⟩
theorem BatSt.step {W : World} {base g cap : Nat} {ov rv : Value} {old xs : List Bt} {i : Nat} (h : BatSt W base (.slice (some ⟨g, 0, none⟩) old.length cap) ov old i xs) (hi : i < old.length)
    (hr : W.ownsRow base 33 5 rv old[i].recs.length (flatF Rec.cells old[i].recs)) (hap : ∀ q, ov.ownBlock = some q → rv.ownBlock ≠ some q) :
    BatSt (W.setCell ⟨g, i * 2 + 1, none⟩ rv) base (.slice (some ⟨g, 0, none⟩) old.length cap) ov old (i + 1) (xs.set i ⟨old[i].ep, rv, old[i].recs⟩) ∧ W.grownBy (W.setCell ⟨g, i * 2 + 1, none⟩ rv) (some g) := by
  have hl := h.len
  have hix : i < xs.length := by omega
  have hxi : xs[i] = old[i] := by
    have := h.rest i (Nat.le_refl _)
    rw [List.getElem?_eq_getElem hix, List.getElem?_eq_getElem hi] at this
    exact Option.some.inj this
  have hst := World.ownsRow.stored h.row (i * 2 + 1) rv
  have hfl : flatF Bt.cells (xs.set i ⟨old[i].ep, rv, old[i].recs⟩) = (flatF Bt.cells xs).set (i * 2 + 1) rv := flatF_set1 bt2 1 rv (by omega) xs i hix _ (by rw [hxi]; rfl)
  refine ⟨⟨by rw [hfl]; exact hst.1, ?_, fun j hj hjl => ?_, fun j hj => ?_⟩, hst.2⟩
  · rw [← h.con]
    refine List.ext_getElem? fun j => ?_
    rw [List.getElem?_map, List.getElem?_map]
    by_cases e : j = i
    · subst e
      rw [List.getElem?_set_self hix, List.getElem?_eq_getElem hix, hxi]
      rfl
    · rw [List.getElem?_set_ne (by omega)]
  · rw [List.length_set] at hjl
    by_cases e : j = i
    · subst e
      rw [List.getElem_set_self]
      exact ⟨own_otherT h.row hr (by decide) hst.2, hap⟩
    · rw [List.getElem_set_ne (by omega)]
      have hd := h.done j (by omega) hjl
      exact ⟨own_otherT h.row hd.1 (by decide) hst.2, hd.2⟩
  · rw [List.getElem?_set_ne (by omega)]
    exact h.rest j (by omega)

/-- The row of operators while their inputs are cloned one by one. -/
structure OpSt (W : World) (base : Nat) (gv : Value) (old : List Opr) (i : Nat) (xs : List Opr) : Prop where
  row : W.ownsRow base 90 7 gv old.length (flatF Opr.cells xs)
  con : xs.map Opr.con = old.map Opr.con
  done : ∀ j, j < i → ∀ hj : j < xs.length, W.ownsRow base 3 1 xs[j].iv xs[j].ins.length (ints xs[j].ins)
  rest : ∀ j, i ≤ j → xs[j]? = old[j]?
theorem OpSt.len {W : World} {base : Nat} {gv : Value} {old xs : List Opr} {i : Nat} (h : OpSt W base gv old i xs) : xs.length = old.length := by
  have := congrArg List.length h.con; simpa using this
theorem OpSt.start {W : World} {base : Nat} {gv : Value} {old : List Opr} (h : W.ownsRow base 90 7 gv old.length (flatF Opr.cells old)) : OpSt W base gv old 0 old := ⟨h, rfl, fun j hj => by omega, fun _ _ => rfl⟩
theorem OpSt.below {W W' : World} {base : Nat} {gv : Value} {old xs : List Opr} {i : Nat} (h : OpSt W base gv old i xs) (hb : Below W.heap.size W W') : OpSt W' base gv old i xs :=
  ⟨ownsRow_below h.row hb (Nat.le_refl _), h.con, fun j hj hl => ownsRow_below (h.done j hj hl) hb (Nat.le_refl _), h.rest⟩
theorem OpSt.step {W : World} {base g cap : Nat} {iv : Value} {old xs : List Opr} {i : Nat} (h : OpSt W base (.slice (some ⟨g, 0, none⟩) old.length cap) old i xs) (hi : i < old.length)
    (hr : W.ownsRow base 3 1 iv old[i].ins.length (ints old[i].ins)) :
    OpSt (W.setCell ⟨g, i * 7 + 1, none⟩ iv) base (.slice (some ⟨g, 0, none⟩) old.length cap) old (i + 1) (xs.set i { old[i] with iv := iv }) ∧ W.grownBy (W.setCell ⟨g, i * 7 + 1, none⟩ iv) (some g) := by
  have hl := h.len
  have hix : i < xs.length := by omega
  have hxi : xs[i] = old[i] := by
    have := h.rest i (Nat.le_refl _)
    rw [List.getElem?_eq_getElem hix, List.getElem?_eq_getElem hi] at this
    exact Option.some.inj this
  have hst := World.ownsRow.stored h.row (i * 7 + 1) iv
  have hfl : flatF Opr.cells (xs.set i { old[i] with iv := iv }) = (flatF Opr.cells xs).set (i * 7 + 1) iv := flatF_set1 op7 1 iv (by omega) xs i hix _ (by rw [hxi]; rfl)
  refine ⟨⟨by rw [hfl]; exact hst.1, ?_, fun j hj hjl => ?_, fun j hj => ?_⟩, hst.2⟩
  · rw [← h.con]
    refine List.ext_getElem? fun j => ?_
    rw [List.getElem?_map, List.getElem?_map]
    by_cases e : j = i
    · subst e
      rw [List.getElem?_set_self hix, List.getElem?_eq_getElem hix, hxi]
      rfl
    · rw [List.getElem?_set_ne (by omega)]
  · rw [List.length_set] at hjl
    by_cases e : j = i
    · subst e
      rw [List.getElem_set_self]
      exact own_otherT h.row hr (by decide) hst.2
    · rw [List.getElem_set_ne (by omega)]
      exact own_otherT h.row (h.done j (by omega) hjl) (by decide) hst.2
  · rw [List.getElem?_set_ne (by omega)]
    exact h.rest j (by omega)
end Go.Proofs.Ytkabfjbmofpkdaa

/- Layer 14: own of a ledger, walked: the whole. -/
namespace Go.Proofs.Ytkabfjbmofpkdaa
open Go.RowKit Go.Shelf
set_option maxRecDepth 100000

theorem only_box {w W : World} {j : Nat} (v : Value) : Only (fun k => k = w.heap.size) W (W.setCell ⟨w.heap.size, j, none⟩ v) := (Only.refl _ W).setCell ⟨w.heap.size, j, none⟩ v (.inl rfl)

theorem led_all (L : Led) (h0 : L.rv.oneCell' = true) (h1 : L.ov.oneCell' = true) (h2 : L.bv.oneCell' = true) (h3 : L.gv.oneCell' = true) : L.cells.toArray.all (·.oneCell') = true := by
  have ha : ∀ v ∈ L.cells, v.oneCell' = true := by
    intro v hv
    simp only [Led.cells, List.mem_cons, List.not_mem_nil, or_false] at hv
    rcases hv with rfl | rfl | rfl | rfl | rfl | rfl | rfl | rfl | rfl | rfl | rfl | rfl | rfl | rfl | rfl | rfl <;> first | assumption | rfl
  rw [Array.all_eq_true_iff_forall_mem]
  intro v hv
  exact ha v (by simpa using hv)
theorem only_cells (w : World) (b : Nat) : ∀ (vs : List Value) (o : Nat), Only (fun k => k = b) w (w.setCells b o vs)
  | [], _ => Only.refl _ _
  | v :: r, o => by
    have h1 : Only (fun k => k = b) w (w.setCell ⟨b, o, none⟩ v) := (Only.refl _ w).setCell ⟨b, o, none⟩ v (.inl rfl)
    exact h1.trans (only_cells (w.setCell ⟨b, o, none⟩ v) b r (o + 1)) (fun _ _ h => h)
theorem results_cell {P : Program} {fn : Func} {tmps : Array Value} {w : World} {a t b o : Nat} {v : Value} (hr : fn.results = #[.cell a t]) (ha : tmps.getD a undef = .pointer (some ⟨b, o, none⟩)) (hl : (loadVar t ⟨b, o, none⟩).run P w = .ok v w) : (results fn tmps).run P w = .ok v w := by
  have ha' : tmps[a]?.getD undef = .pointer (some ⟨b, o, none⟩) := by rw [← ha]; simp
  simp [results, hr, ha', hl, asAddr]
theorem results_cell3 {P : Program} {fn : Func} {tmps : Array Value} {w : World} {a t b o x y : Nat} {v : Value} (hr : fn.results = #[.cell a t, .tmp x, .tmp y]) (ha : tmps.getD a undef = .pointer (some ⟨b, o, none⟩)) (hl : (loadVar t ⟨b, o, none⟩).run P w = .ok v w) : (results fn tmps).run P w = .ok (.tuple #[v, tmps.getD x undef, tmps.getD y undef]) w := by
  have ha' : tmps[a]?.getD undef = .pointer (some ⟨b, o, none⟩) := by rw [← ha]; simp
  simp [results, hr, ha', hl, asAddr]
theorem led_size (L : Led) : L.cells.toArray.size = 16 := rfl

set_option maxHeartbeats 4000000 in
theorem pOwn_calls (L : Led) (w : World) (hL : LedR w L) (hsm : L.Small) :
    Calls Try.prog 29 #[.agg L.cells.toArray] w fun e w' => ∃ M, e = .returned (.agg M.cells.toArray) ∧ SameL L M ∧ LedO w' w.heap.size M ∧ Below w.heap.size w w' := by
  obtain ⟨ra, rc, hrv, hrc, -⟩ := Rd.slice hL.rows
  obtain ⟨oa, oc, hov, hoc, -⟩ := Rd.slice hL.opn
  obtain ⟨ba, bc, hbv, hbc, -⟩ := hL.bats.row.slice
  obtain ⟨ga, gc, hgv, hgc, -⟩ := hL.ops.row.slice
  obtain ⟨X, hX⟩ : ∃ X, X = (w.alloc (.cells L.cells.toArray 30)).alloc (.cells zero16 30) := ⟨_, rfl⟩
  have hBA : BoxAt w X L := by rw [hX]; exact boxAt_start w L
  have c0 : ((w.alloc (.cells L.cells.toArray 30)).alloc (.cells zero16 30)).cell? ⟨w.heap.size, 0, none⟩ = some (.slice ra L.rows.length rc) := by rw [← hX, hBA.box 0 _ rfl, hrv]
  have HBA := Lib.hid hBA
  have HX := Lib.hid hX
  have HL := Lib.hid hL
  have HSM := Lib.hid hsm
  have HV := Lib.hid (And.intro hrv (And.intro hov (And.intro hbv hgv)))
  have hsr := hsm.rows
  have hso := hsm.opn
  have hsb := hsm.bats
  have hsg := hsm.ops
  clear hX hBA hL hsm hrv hov hbv hgv
  unfold zero16 at c0
  go_enter Try.func29, Try.ntmps29
  go_wp2_with fail
  rw [show (w.alloc (.cells L.cells.toArray 30)).alloc (.cells #[.slice none 0 0, .int .i64 0, .int .i64 0, .int .i64 0, .int .i64 0, .int .i64 0, .int .i64 0, .int .i64 0, .int .i64 0, .slice none 0 0, .slice none 0 0, .int .i64 0, .int .i64 0, .bool false, .slice none 0 0, .int .i64 0] 30) = X from HX.out.symm]
  clear c0
  have hLX := HL.out.below HBA.out.below (Nat.le_refl _)
  refine (clRow_calls _ L.rows.length (flatF Row.cells L.rows) _ (by have := hLX.rows; rwa [HV.out.1] at this) (rows_one L.rows) (by omega)).mono ?_
  clear hLX
  rintro e w1 ⟨v1, rfl, ho1, hb1⟩
  have hA1 := HBA.out.later hb1
  have HA1 := Lib.hid (hA1.set (cur' := { L with rv := v1 }) 0 v1 rfl (by omega))
  have HR := Lib.hid (ownsRow_set (ownsRow_mono ho1 HBA.out.size) ⟨w.heap.size, 0, none⟩ v1 (by simp))
  have c0 := hA1.box 0 _ rfl
  have c9 := hA1.box 9 _ rfl
  have bf := hA1.bf 0
  rw [HV.out.2.1] at c9
  obtain ⟨xa1, xc1, rfl⟩ := own_slice ho1
  clear hA1 hb1 ho1 HBA HX
  go_wp2_with fail
  generalize hW1 : w1.setCell _ _ = W1 at *
  clear hW1 c0 c9 bf
  have hLX := HL.out.below HA1.out.below (Nat.le_refl _)
  refine (clRec_calls _ L.opn.length (flatF Rec.cells L.opn) _ (by have := hLX.opn; rwa [HV.out.2.1] at this) (recs_one L.opn) (by omega)).mono ?_
  clear hLX
  rintro e w2 ⟨v2, rfl, ho2, hb2⟩
  have hA2 := HA1.out.later hb2
  have HA2 := Lib.hid (hA2.set (cur' := { L with rv := .slice xa1 L.rows.length xc1, ov := v2 }) 9 v2 rfl (by omega))
  have HR2 := Lib.hid (ownsRow_set (ownsRow_below HR.out hb2 (Nat.le_refl _)) ⟨w.heap.size, 9, none⟩ v2 (by simp))
  have HO := Lib.hid (ownsRow_set (ownsRow_mono ho2 HA1.out.size) ⟨w.heap.size, 9, none⟩ v2 (by simp))
  have c9 := hA2.box 9 _ rfl
  have c10 := hA2.box 10 _ rfl
  have bf := hA2.bf 9
  simp only at c10
  rw [HV.out.2.2.1] at c10
  obtain ⟨xa2, xc2, rfl⟩ := own_slice ho2
  clear hA2 hb2 ho2 HA1 HR
  go_wp2_with fail
  generalize hW2 : w2.setCell _ _ = W2 at *
  clear hW2 c9 c10 bf
  have hLX := HL.out.below HA2.out.below (Nat.le_refl _)
  refine (clBat_calls _ L.bats.length (flatF Bt.cells L.bats) _ (by have := hLX.bats.row; rwa [HV.out.2.2.1] at this) (bt_one HL.out.bats.recs) (by omega)).mono ?_
  clear hLX
  rintro e w3 ⟨v3, rfl, ho3, hb3⟩
  have hA3 := HA2.out.later hb3
  have HA3 := Lib.hid (hA3.set (cur' := { L with rv := .slice xa1 L.rows.length xc1, ov := .slice xa2 L.opn.length xc2, bv := v3 }) 10 v3 rfl (by omega))
  have HR3 := Lib.hid (ownsRow_set (ownsRow_below HR2.out hb3 (Nat.le_refl _)) ⟨w.heap.size, 10, none⟩ v3 (by simp))
  have HO3 := Lib.hid (ownsRow_set (ownsRow_below HO.out hb3 (Nat.le_refl _)) ⟨w.heap.size, 10, none⟩ v3 (by simp))
  have HB3 := Lib.hid (ownsRow_set (ownsRow_mono ho3 HA2.out.size) ⟨w.heap.size, 10, none⟩ v3 (by simp))
  have c10 := hA3.box 10 _ rfl
  have bf := hA3.bf 10
  obtain ⟨xa3, xc3, rfl⟩ := own_slice ho3
  clear hA3 hb3 ho3 HA2 HR2 HO
  go_wp2_with fail
  generalize hW3 : w3.setCell _ _ = W3 at *
  clear hW3 c10 bf
  go_loopw [3, 20] (fun _ iv wr => ∃ (i : Nat) (xs : List Bt), i ≤ L.bats.length ∧ iv = .int .i64 i ∧ BoxAt w wr { L with rv := .slice xa1 L.rows.length xc1, ov := .slice xa2 L.opn.length xc2, bv := .slice xa3 L.bats.length xc3 } ∧
      wr.ownsRow (w.heap.size + 2) 92 3 (.slice xa1 L.rows.length xc1) L.rows.length (flatF Row.cells L.rows) ∧ wr.ownsRow (w.heap.size + 2) 33 5 (.slice xa2 L.opn.length xc2) L.opn.length (flatF Rec.cells L.opn) ∧
      BatSt wr (w.heap.size + 2) (.slice xa3 L.bats.length xc3) (.slice xa2 L.opn.length xc2) L.bats i xs) (fun _ iv _ => L.bats.length - (intOf iv).toNat)
  case atStart => exact ⟨0, L.bats, by omega, rfl, HA3.out, HR3.out, HO3.out, BatSt.start HB3.out⟩
  case round =>
    obtain ⟨i, xs, hi, rfl, hA, hR, hO, hB⟩ := hrel
    clear HA3 HR3 HO3 HB3
    have HA := Lib.hid hA
    have HR := Lib.hid hR
    have HO := Lib.hid hO
    have HB := Lib.hid hB
    have c10 := hA.box 10 _ rfl
    have bf := hA.bf 10
    simp only at c10
    by_cases hlt : i < L.bats.length
    · have hlx := hB.len
      have hrow := hB.row
      have hown1 : ∃ g, xa3 = some ⟨g, 0, none⟩ := by
        obtain ⟨m, hm⟩ : ∃ m, L.bats.length = m + 1 := ⟨L.bats.length - 1, by omega⟩
        have ho' := hrow
        rw [hm] at ho'
        obtain ⟨g, cap, hv1, -⟩ := own_succ ho'
        simp only [Value.slice.injEq] at hv1
        exact ⟨g, hv1.1⟩
      obtain ⟨g, rfl⟩ := hown1
      have hgl := World.ownsRow.lt hrow g rfl
      have hix : i < xs.length := by omega
      have hxi : xs[i] = L.bats[i] := by
        have := hB.rest i (Nat.le_refl _)
        rw [List.getElem?_eq_getElem hix, List.getElem?_eq_getElem hlt] at this
        exact Option.some.inj this
      have hrd : Rd wr 2 (.slice (some ⟨g, 0, none⟩) L.bats.length xc3) xs.length (flatF Bt.cells xs) := by rw [hlx]; exact Rd.of_own hrow
      obtain ⟨b0, o0, hbo, hcell⟩ := rdF_at (k := 2) bt2 (by rw [hlx] at hrd ⊢; exact hrd) i hix
      simp only [Option.some.injEq, Addr.mk.injEq, and_true] at hbo
      obtain ⟨rfl, rfl⟩ := hbo
      have e1 := hcell 1 xs[i].rv (by omega) rfl
      rw [hxi, Nat.zero_add] at e1
      have ef := World.ownsRow.frozenAt hrow (i * 2 + 1)
      have hrec := (HL.out.below hA.below (Nat.le_refl _)).bats.recs L.bats[i] (List.getElem_mem _)
      obtain ⟨rva, rvc, hrvv, hrvc, -⟩ := Rd.slice hrec
      rw [hrvv] at e1 hrec
      have hrn := HSM.out.recs L.bats[i] (List.getElem_mem _)
      have hsz := hA.size
      have HREC := Lib.hid hrec
      have HSTEP := Lib.hid (fun V (h : BatSt V (w.heap.size + 2) (.slice (some ⟨g, 0, none⟩) L.bats.length xc3) (.slice xa2 L.opn.length xc2) L.bats i xs) (rv : Value) => h.step (rv := rv) hlt)
      have HC := Lib.hid (And.intro c10 e1)
      have HEF := Lib.hid ef
      have HOAP := Lib.hid (fun q (h : (Value.slice xa2 L.opn.length xc2).ownBlock = some q) => (World.ownsRow.lt hO q h).2)
      clear hA hR hO hB hrow hrd hcell hrec hrvv hxi bf ef
      generalize L.bats[i].recs = recs at *
      have hi1 : decide ((L.bats.length : Int) ≤ (i : Int)) = false := decide_eq_false (by omega)
      have hi2 : decide (L.bats.length ≤ i) = false := decide_eq_false (by omega)
      go_wp2_with fail
      refine region_m [(0, false), (1, false), (2, false), (3, false), (4, false), (5, false), (6, false), (7, false), (8, false), (9, true), (10, false), (11, false)] 12 (fun V => V.cell? ⟨w.heap.size, 10, none⟩ = some (.slice (some ⟨g, 0, none⟩) L.bats.length xc3) ∧ V.cell? ⟨g, i * 2 + 1, none⟩ = some (.slice rva recs.length rvc)) (by kernel_rfl) (by kernel_rfl) HC.out ?_
      iterate 9
        first
        | (refine m_take (v := ?_) rfl rfl ?_ ?_
           rotate_left
           · intro W hW
             go_simp
             with_reducible rfl
           simp only [Act.put, List.setIfInBounds_toArray, List.set_cons_zero, List.set_cons_succ])
        | (refine m_skip rfl rfl ?_
           simp only [Act.put, List.setIfInBounds_toArray, List.set_cons_zero, List.set_cons_succ])
      refine m_loud rfl (fun K hK => ?_)
      have HK := Lib.hid hK
      clear hK
      go_simp
      have hdr := (Below.refl wr.heap.size wr).drew
      refine (clRec_calls _ recs.length (flatF Rec.cells recs) _ (Rd.below HREC.out hdr (Nat.le_refl _)) (recs_one recs) (by omega)).mono ?_
      rintro e w5 ⟨v5, rfl, ho5, hb5⟩
      have hb5 := hdr.trans hb5
      have hcx := HC.out
      have HA5 := Lib.hid (HA.out.later hb5)
      have HR5 := Lib.hid (ownsRow_below HR.out hb5 (Nat.le_refl _))
      have HO5 := Lib.hid (ownsRow_below HO.out hb5 (Nat.le_refl _))
      have hst := HSTEP.out _ (HB.out.below hb5) v5 (ownsRow_mono ho5 hsz) (fun q hq e => by
        have h1 := HOAP.out q hq
        have h2 := (World.ownsRow.lt ho5 q e).1
        have : wr.heap.size ≤ q := h2
        omega)
      have HST := Lib.hid hst
      have HBR5 := Lib.hid ((HB.out.below hb5).row)
      have f1 := cell_later hb5 hcx.2
      have fz := frozen_later hb5 hcx.2 HEF.out
      refine HK.out _ _ ⟨cell_later hb5 hcx.1, cell_later hb5 hcx.2⟩ ?_
      clear HK
      obtain ⟨va5, vc5, rfl⟩ := own_slice ho5
      clear hst hb5 ho5 hcx e1 c10
      iterate 2
        first
        | (refine m_take (v := ?_) rfl rfl ?_ ?_
           rotate_left
           · intro W hW
             go_simp
             with_reducible rfl
           simp only [Act.put, List.setIfInBounds_toArray, List.set_cons_zero, List.set_cons_succ])
        | (refine m_skip rfl rfl ?_
           simp only [Act.put, List.setIfInBounds_toArray, List.set_cons_zero, List.set_cons_succ])
      refine m_done ?_
      simp only [List.drop_succ_cons, List.drop_zero]
      go_wp2_with fail
      simp only [NP]
      go_wp2_with fail
      have hgo : Only (fun k => k = g) w5 (w5.setCell ⟨g, i * 2 + 1, none⟩ (.slice va5 recs.length vc5)) := (Only.refl _ _).setCell ⟨g, i * 2 + 1, none⟩ _ (.inl rfl)
      go_roundw
      case rel =>
        refine ⟨i + 1, _, by omega, by go_num, HA5.out.other hgo (fun j hj => by omega), ?_, ?_, HST.out.1⟩
        · exact own_otherT HBR5.out HR5.out (by decide) HST.out.2
        · exact own_otherT HBR5.out HO5.out (by decide) HST.out.2
      case measure => simp [intOf]; omega
    · obtain rfl : i = L.bats.length := by omega
      have c14 := hA.box 14 _ rfl
      have bf14 := hA.bf 14
      simp only at c14
      rw [HV.out.2.2.2] at c14
      clear hA hR hO hB c10 bf
      go_wp2_with fail
      have hLX := HL.out.below HA.out.below (Nat.le_refl _)
      refine (clOpr_calls _ L.ops.length (flatF Opr.cells L.ops) _ (by have := hLX.ops.row; rwa [HV.out.2.2.2] at this) (op_one HL.out.ops.ins) (by omega)).mono ?_
      clear hLX c14 bf14
      rintro e w6 ⟨v6, rfl, ho6, hb6⟩
      have hA6 := HA.out.later hb6
      have HA6 := Lib.hid (hA6.set (cur' := { L with rv := .slice xa1 L.rows.length xc1, ov := .slice xa2 L.opn.length xc2, bv := .slice xa3 L.bats.length xc3, gv := v6 }) 14 v6 rfl (by omega))
      have HR6 := Lib.hid (ownsRow_set (ownsRow_below HR.out hb6 (Nat.le_refl _)) ⟨w.heap.size, 14, none⟩ v6 (by simp))
      have HO6 := Lib.hid (ownsRow_set (ownsRow_below HO.out hb6 (Nat.le_refl _)) ⟨w.heap.size, 14, none⟩ v6 (by simp))
      have hB6 := HB.out.below hb6
      have HB6 := Lib.hid (BatSt.mk (ownsRow_set hB6.row ⟨w.heap.size, 14, none⟩ v6 (by simp)) hB6.con (fun j hj hl => ⟨ownsRow_set (hB6.done j hj hl).1 ⟨w.heap.size, 14, none⟩ v6 (by simp), (hB6.done j hj hl).2⟩) hB6.rest)
      have HG6 := Lib.hid (ownsRow_set (ownsRow_mono ho6 HA.out.size) ⟨w.heap.size, 14, none⟩ v6 (by simp))
      have c14 := hA6.box 14 _ rfl
      have bf14 := hA6.bf 14
      obtain ⟨xa4, xc4, rfl⟩ := own_slice ho6
      clear hA6 hb6 ho6 hB6 HA HR HO HB
      go_wp2_with fail
      generalize hW6 : w6.setCell _ _ = W6 at *
      clear hW6 c14 bf14
      go_loopw [4, 46] (fun _ iv wr => ∃ (i : Nat) (ys : List Opr), i ≤ L.ops.length ∧ iv = .int .i64 i ∧ BoxAt w wr { L with rv := .slice xa1 L.rows.length xc1, ov := .slice xa2 L.opn.length xc2, bv := .slice xa3 L.bats.length xc3, gv := .slice xa4 L.ops.length xc4 } ∧
          wr.ownsRow (w.heap.size + 2) 92 3 (.slice xa1 L.rows.length xc1) L.rows.length (flatF Row.cells L.rows) ∧ wr.ownsRow (w.heap.size + 2) 33 5 (.slice xa2 L.opn.length xc2) L.opn.length (flatF Rec.cells L.opn) ∧
          BatSt wr (w.heap.size + 2) (.slice xa3 L.bats.length xc3) (.slice xa2 L.opn.length xc2) L.bats L.bats.length xs ∧ OpSt wr (w.heap.size + 2) (.slice xa4 L.ops.length xc4) L.ops i ys) (fun _ iv _ => L.ops.length - (intOf iv).toNat)
      case atStart => exact ⟨0, L.ops, by omega, rfl, HA6.out, HR6.out, HO6.out, HB6.out, OpSt.start HG6.out⟩
      case round =>
        obtain ⟨i, ys, hi, rfl, hA, hR, hO, hB, hG⟩ := hrel
        clear HA6 HR6 HO6 HB6 HG6
        have HA := Lib.hid hA
        have HR := Lib.hid hR
        have HO := Lib.hid hO
        have HB := Lib.hid hB
        have HG := Lib.hid hG
        have c14 := hA.box 14 _ rfl
        simp only at c14
        by_cases hlt : i < L.ops.length
        · have hlx := hG.len
          have hrow := hG.row
          have hown1 : ∃ g, xa4 = some ⟨g, 0, none⟩ := by
            obtain ⟨m, hm⟩ : ∃ m, L.ops.length = m + 1 := ⟨L.ops.length - 1, by omega⟩
            have ho' := hrow
            rw [hm] at ho'
            obtain ⟨g, cap, hv1, -⟩ := own_succ ho'
            simp only [Value.slice.injEq] at hv1
            exact ⟨g, hv1.1⟩
          obtain ⟨g, rfl⟩ := hown1
          have hgl := World.ownsRow.lt hrow g rfl
          have hix : i < ys.length := by omega
          have hxi : ys[i] = L.ops[i] := by
            have := hG.rest i (Nat.le_refl _)
            rw [List.getElem?_eq_getElem hix, List.getElem?_eq_getElem hlt] at this
            exact Option.some.inj this
          have hrd : Rd wr 7 (.slice (some ⟨g, 0, none⟩) L.ops.length xc4) ys.length (flatF Opr.cells ys) := by rw [hlx]; exact Rd.of_own hrow
          obtain ⟨b0, o0, hbo, hcell⟩ := rdF_at (k := 7) op7 (by rw [hlx] at hrd ⊢; exact hrd) i hix
          simp only [Option.some.injEq, Addr.mk.injEq, and_true] at hbo
          obtain ⟨rfl, rfl⟩ := hbo
          have e1 := hcell 1 ys[i].iv (by omega) rfl
          rw [hxi, Nat.zero_add] at e1
          have ef := World.ownsRow.frozenAt hrow (i * 7 + 1)
          have hrec := (HL.out.below hA.below (Nat.le_refl _)).ops.ins L.ops[i] (List.getElem_mem _)
          obtain ⟨rva, rvc, hrvv, hrvc, -⟩ := Rd.slice hrec
          rw [hrvv] at e1 hrec
          have hrn := HSM.out.ins L.ops[i] (List.getElem_mem _)
          have hsz := hA.size
          have HREC := Lib.hid hrec
          have HSTEP := Lib.hid (fun V (h : OpSt V (w.heap.size + 2) (.slice (some ⟨g, 0, none⟩) L.ops.length xc4) L.ops i ys) (rv : Value) => h.step (iv := rv) hlt)
          have HC := Lib.hid (And.intro c14 e1)
          have HEF := Lib.hid ef
          clear hA hR hO hB hG hrow hrd hcell hrec hrvv hxi ef
          have hi1 : decide ((L.ops.length : Int) ≤ (i : Int)) = false := decide_eq_false (by omega)
          have hi2 : decide (L.ops.length ≤ i) = false := decide_eq_false (by omega)
          go_wp2_with fail
          refine region_m [(0, false), (1, false), (2, false), (3, false), (4, false), (5, false), (6, false), (7, false), (8, false), (9, false), (10, false), (11, true), (12, false), (13, false)] 14 (fun V => V.cell? ⟨w.heap.size, 14, none⟩ = some (.slice (some ⟨g, 0, none⟩) L.ops.length xc4) ∧ V.cell? ⟨g, i * 7 + 1, none⟩ = some (.slice rva L.ops[i].ins.length rvc)) (by kernel_rfl) (by kernel_rfl) HC.out ?_
          iterate 11
            first
            | (refine m_take (v := ?_) rfl rfl ?_ ?_
               rotate_left
               · intro W hW
                 go_simp
                 with_reducible rfl
               simp only [Act.put, List.setIfInBounds_toArray, List.set_cons_zero, List.set_cons_succ])
            | (refine m_skip rfl rfl ?_
               simp only [Act.put, List.setIfInBounds_toArray, List.set_cons_zero, List.set_cons_succ])
          refine m_loud rfl (fun K hK => ?_)
          have HK := Lib.hid hK
          clear hK
          go_simp
          have hdr := (Below.refl wr.heap.size wr).drew
          refine (clInt_calls _ L.ops[i].ins.length (ints L.ops[i].ins) _ (Rd.below HREC.out hdr (Nat.le_refl _)) (ints_one _) (by omega)).mono ?_
          rintro e w5 ⟨v5, rfl, ho5, hb5⟩
          have hb5 := hdr.trans hb5
          have hcx := HC.out
          have HA5 := Lib.hid (HA.out.later hb5)
          have HR5 := Lib.hid (ownsRow_below HR.out hb5 (Nat.le_refl _))
          have HO5 := Lib.hid (ownsRow_below HO.out hb5 (Nat.le_refl _))
          have HB5 := Lib.hid (HB.out.below hb5)
          have hst := HSTEP.out _ (HG.out.below hb5) v5 (ownsRow_mono ho5 hsz)
          have HST := Lib.hid hst
          have HGR5 := Lib.hid ((HG.out.below hb5).row)
          have f1 := cell_later hb5 hcx.2
          have fz := frozen_later hb5 hcx.2 HEF.out
          refine HK.out _ _ ⟨cell_later hb5 hcx.1, cell_later hb5 hcx.2⟩ ?_
          clear HK
          obtain ⟨va5, vc5, rfl⟩ := own_slice ho5
          clear hst hb5 ho5 hcx e1 c14
          iterate 2
            first
            | (refine m_take (v := ?_) rfl rfl ?_ ?_
               rotate_left
               · intro W hW
                 go_simp
                 with_reducible rfl
               simp only [Act.put, List.setIfInBounds_toArray, List.set_cons_zero, List.set_cons_succ])
            | (refine m_skip rfl rfl ?_
               simp only [Act.put, List.setIfInBounds_toArray, List.set_cons_zero, List.set_cons_succ])
          refine m_done ?_
          simp only [List.drop_succ_cons, List.drop_zero]
          go_wp2_with fail
          simp only [NP]
          go_wp2_with fail
          have hgo : Only (fun k => k = g) w5 (w5.setCell ⟨g, i * 7 + 1, none⟩ (.slice va5 L.ops[i].ins.length vc5)) := (Only.refl _ _).setCell ⟨g, i * 7 + 1, none⟩ _ (.inl rfl)
          go_roundw
          case rel =>
            refine ⟨i + 1, _, by omega, by go_num, HA5.out.other hgo (fun j hj => by omega), ?_, ?_, ?_, HST.out.1⟩
            · exact own_otherT HGR5.out HR5.out (by decide) HST.out.2
            · exact own_otherT HGR5.out HO5.out (by decide) HST.out.2
            · exact BatSt.mk (own_otherT HGR5.out HB5.out.row (by decide) HST.out.2) HB5.out.con (fun j hj hl => ⟨own_otherT HGR5.out (HB5.out.done j hj hl).1 (by decide) HST.out.2, (HB5.out.done j hj hl).2⟩) HB5.out.rest
          case measure => simp [intOf]; omega
        · obtain rfl : i = L.ops.length := by omega
          have HRG := Lib.hid hA.box.range
          have HTH := Lib.hid hA.res
          clear hA hR hO hB hG c14
          go_wp2_with (first | (refine wpList_load_mid rfl 30 _ rfl w.heap.size 0 rfl (Led.cells { L with rv := .slice xa1 L.rows.length xc1, ov := .slice xa2 L.opn.length xc2, bv := .slice xa3 L.bats.length xc3, gv := .slice xa4 L.ops.length xc4 }) _ HRG.out Try.underlying30 rfl (by show _ = some 16; kernel_rfl) ?_) | (refine wp_load_mid 30 _ rfl w.heap.size 0 rfl (Led.cells { L with rv := .slice xa1 L.rows.length xc1, ov := .slice xa2 L.opn.length xc2, bv := .slice xa3 L.bats.length xc3, gv := .slice xa4 L.ops.length xc4 }) _ HRG.out Try.underlying30 rfl (by show _ = some 16; kernel_rfl) ?_) | (refine wpList_store_mid rfl 30 _ _ rfl (w.heap.size + 1) 0 (Led.cells { L with rv := .slice xa1 L.rows.length xc1, ov := .slice xa2 L.opn.length xc2, bv := .slice xa3 L.bats.length xc3, gv := .slice xa4 L.ops.length xc4 }).toArray rfl rfl HTH.out (by show _ = some 16; kernel_rfl) (led_all _ rfl rfl rfl rfl) ?_) | (refine wp_store_mid 30 _ _ rfl (w.heap.size + 1) 0 (Led.cells { L with rv := .slice xa1 L.rows.length xc1, ov := .slice xa2 L.opn.length xc2, bv := .slice xa3 L.bats.length xc3, gv := .slice xa4 L.ops.length xc4 }).toArray rfl rfl HTH.out (by show _ = some 16; kernel_rfl) (led_all _ rfl rfl rfl rfl) ?_))
          have hrg2 := World.rangeAt_setCells_same wr (w.heap.size + 1) 0 (Led.cells { L with rv := .slice xa1 L.rows.length xc1, ov := .slice xa2 L.opn.length xc2, bv := .slice xa3 L.bats.length xc3, gv := .slice xa4 L.ops.length xc4 }) HTH.out
          have hxs := HB.out.len
          have hys := HG.out.len
          have hon : Only (fun k => k = w.heap.size + 1) wr (wr.setCells (w.heap.size + 1) 0 (Led.cells { L with rv := .slice xa1 L.rows.length xc1, ov := .slice xa2 L.opn.length xc2, bv := .slice xa3 L.bats.length xc3, gv := .slice xa4 L.ops.length xc4 })) := only_cells wr (w.heap.size + 1) (Led.cells { L with rv := .slice xa1 L.rows.length xc1, ov := .slice xa2 L.opn.length xc2, bv := .slice xa3 L.bats.length xc3, gv := .slice xa4 L.ops.length xc4 }) 0
          have hsb : ∀ {e sz n v cs}, wr.ownsRow (w.heap.size + 2) e sz v n cs → (wr.setCells (w.heap.size + 1) 0 (Led.cells { L with rv := .slice xa1 L.rows.length xc1, ov := .slice xa2 L.opn.length xc2, bv := .slice xa3 L.bats.length xc3, gv := .slice xa4 L.ops.length xc4 })).ownsRow w.heap.size e sz v n cs := fun h => ownsRow_mono (ownsRow_only h hon (fun g hg e => by have := (World.ownsRow.lt h g hg).1; omega)) (by omega)
          refine bodyPost_ret (v := .agg (Led.cells { L with rv := .slice xa1 L.rows.length xc1, ov := .slice xa2 L.opn.length xc2, bv := .slice xa3 L.bats.length xc3, gv := .slice xa4 L.ops.length xc4 }).toArray) (results_cell Try.results29 rfl (run_loadVar_mid (P := Try.prog) _ (w.heap.size + 1) 0 30 (Led.cells { L with rv := .slice xa1 L.rows.length xc1, ov := .slice xa2 L.opn.length xc2, bv := .slice xa3 L.bats.length xc3, gv := .slice xa4 L.ops.length xc4 }) _ hrg2 Try.underlying30 rfl (by show _ = some 16; kernel_rfl))) rfl ?_
          refine ⟨{ L with rv := .slice xa1 L.rows.length xc1, ov := .slice xa2 L.opn.length xc2, bv := .slice xa3 L.bats.length xc3, bats := xs, gv := .slice xa4 L.ops.length xc4, ops := ys }, rfl, ⟨rfl, rfl, rfl, HB.out.con, rfl, rfl, rfl, HG.out.con, rfl⟩, ⟨hsb HR.out, hsb HO.out, ?_, fun b hb => ?_, fun b hb g hg => ?_, ?_, fun o ho => ?_⟩, HA.out.below.trans (hon.below (by have := HA.out.size; omega) (fun j hj e => by omega))⟩
          · have := hsb HB.out.row; simpa only [hxs] using this
          · obtain ⟨j, hj, rfl⟩ := List.getElem_of_mem hb
            have hj' : j < xs.length := hj
            exact hsb (HB.out.done j (by omega) hj').1
          · obtain ⟨j, hj, rfl⟩ := List.getElem_of_mem hb
            have hj' : j < xs.length := hj
            exact (HB.out.done j (by omega) hj').2 g hg
          · have := hsb HG.out.row; simpa only [hys] using this
          · obtain ⟨j, hj, rfl⟩ := List.getElem_of_mem ho
            have hj' : j < ys.length := hj
            exact hsb (HG.out.done j (by omega) hj')
end Go.Proofs.Ytkabfjbmofpkdaa

/- Layer 14: slices.DeleteFunc over batches; drop of a ledger, walked. -/
namespace Go.Proofs.Ytkabfjbmofpkdaa
open Go.RowKit Go.Shelf
set_option maxRecDepth 100000

theorem own_setCells_past {base g n cap sz : Nat} {e : TypeId} {xs : List Value} : ∀ (vs : List Value) (o : Nat) (w : World), w.ownsRow base e sz (.slice (some ⟨g, 0, none⟩) n cap) n xs → xs.length ≤ o →
    (w.setCells g o vs).ownsRow base e sz (.slice (some ⟨g, 0, none⟩) n cap) n xs ∧ w.grownBy (w.setCells g o vs) (some g)
  | [], _, _, h, _ => ⟨h, ⟨rfl, rfl, rfl, Nat.le_refl _, fun _ _ _ => rfl⟩⟩
  | v :: r, o, w, h, ho => by
    have h1 := World.ownsRow.stored h o v
    rw [List.set_eq_of_length_le ho] at h1
    have h2 := own_setCells_past r (o + 1) _ h1.1 (by omega)
    exact ⟨h2.1, h1.2.trans h2.2⟩

theorem own_there {w : World} {base g n cap sz : Nat} {e : TypeId} {xs : List Value} (h : w.ownsRow base e sz (.slice (some ⟨g, 0, none⟩) n cap) n xs) (j : Nat) (hj : j < cap * sz) : (w.cell? ⟨g, j, none⟩).isSome = true := by
  rcases h.2 with ⟨h', _⟩ | ⟨g', cap', cur, h', _, hg, _, _, hcs, _⟩
  · simp at h'
  · simp only [Value.slice.injEq, Option.some.injEq, Addr.mk.injEq, and_true, true_and] at h'
    obtain ⟨rfl, rfl⟩ := h'
    simp only [World.cell?, hg]
    simp [hcs, hj]

theorem run_clear_tail {P : Program} {w : World} {t e ty : TypeId} {z : Value} {sz bytes base g n m c cap : Nat} {xs : List Value} (T : STy P t e z sz bytes) (hv : ∀ w, (zeroValue e).run P w = .ok z w) (h1 : ∀ u ∈ z.cells.toList, u.oneCell' = true)
    (hown : w.ownsRow base e sz (.slice (some ⟨g, 0, none⟩) n cap) n xs) (hm : n + m ≤ cap) (hm0 : 0 < m) :
    ∃ w', (Builtin.clear_ #[t] ty #[.slice (some ⟨g, n * sz, none⟩) m c]).run P w = .ok (.tuple #[]) w' ∧ w'.ownsRow base e sz (.slice (some ⟨g, 0, none⟩) n cap) n xs ∧ w.grownBy w' (some g) := by
  have hl : (Builtin.zeroCells z.cells m).toList.length = m * sz := by simp [Builtin.zeroCells, T.hz]
  have hz1 : ∀ u ∈ (Builtin.zeroCells z.cells m).toList, u.oneCell' = true := by
    intro u hu
    simp only [Builtin.zeroCells, Array.toList_map, Array.toList_range, List.mem_map, List.mem_range] at hu
    obtain ⟨i, hi, rfl⟩ := hu
    have hpos := T.pos
    have hzs := T.hz
    have hlt : i % z.cells.size < z.cells.size := Nat.mod_lt _ (by omega)
    rw [getElem!_pos z.cells _ hlt]
    exact h1 _ (by simp)
  have hle : n * sz + m * sz ≤ cap * sz := by rw [← Nat.add_mul]; exact Nat.mul_le_mul_right _ hm
  have hst := run_storeCells_cells (P := P) g (n * sz) (Builtin.zeroCells z.cells m).toList 0 w (fun j hj => own_there hown _ (by omega)) (fun j _ => World.ownsRow.frozenAt hown _) hz1
  have hp := own_setCells_past (Builtin.zeroCells z.cells m).toList (n * sz) w hown (by rw [hown.1]; exact Nat.le_refl _)
  obtain ⟨m', rfl⟩ : ∃ m', m = m' + 1 := ⟨m - 1, by omega⟩
  refine ⟨_, ?_, hp.1, hp.2⟩
  simp only [Nat.add_zero] at hst
  simp [Builtin.clear_, run_underlying T.ht, hv, hst]


/-! ### Batches that stay -/
def stays (n : Int) (b : Bt) : Bool := decide (n ≤ b.ep)
def lostTo (es : List Bt) (n : Int) (k : Nat) : List Bt := (es.take k).filter (stays n)
theorem lostTo_end (es : List Bt) (n : Int) : lostTo es n es.length = es.filter (stays n) := by simp [lostTo]
theorem lostTo_hit (es : List Bt) (n : Int) (k : Nat) (hk : k < es.length) (h : stays n es[k] = false) : lostTo es n (k + 1) = lostTo es n k := by
  unfold lostTo
  rw [List.take_succ_eq_append_getElem hk, List.filter_append]
  simp [h]
theorem lostTo_miss (es : List Bt) (n : Int) (k : Nat) (hk : k < es.length) (h : stays n es[k] = true) : lostTo es n (k + 1) = lostTo es n k ++ [es[k]] := by
  unfold lostTo
  rw [List.take_succ_eq_append_getElem hk, List.filter_append]
  simp [h]
/-- What the closure reads of the ledger's box. -/
def DropBox (W : World) (b : Nat) (n : Int) : Prop := ∃ d k : Int, W.cell? ⟨b, 12, none⟩ = some (.int .i64 d) ∧ W.cell? ⟨b, 15, none⟩ = some (.int .i64 k) ∧ IntKind.i64.wrap (d - k) = n
theorem DropBox.later {W W' : World} {b : Nat} {n : Int} (h : DropBox W b n) (hb : Below W.heap.size W W') : DropBox W' b n := by
  obtain ⟨d, k, h1, h2, h3⟩ := h
  exact ⟨d, k, cell_later hb h1, cell_later hb h2, h3⟩
theorem drop1_calls (b : Nat) (n : Int) (e : Bt) (W : World) (hb : DropBox W b n) (hv : e.rv.oneCell' = true) :
    Calls Try.prog 64 #[.agg #[.int .i64 e.ep, e.rv], .pointer (some ⟨b, 0, none⟩)] W fun r W' => r = .returned (.bool (!stays n e)) ∧ Below W.heap.size W W' := by
  obtain ⟨d, k, h1, h2, h3⟩ := hb
  have hal := below_alloc W (.cells #[.int .i64 e.ep, e.rv] 67)
  have h1 := cell_later hal h1
  have h2 := cell_later hal h2
  have HAL := Lib.hid hal
  have HST := Lib.hid (show decide (e.ep < n) = !stays n e from by unfold stays; rw [Bool.eq_iff_iff]; simp)
  obtain ⟨ep, rv, recs⟩ := e
  simp only at hv HAL h1 h2 HST ⊢
  clear hal
  go_enter Try.func64, Try.ntmps64
  go_wp2_with fail
  go_ret
  refine ⟨?_, HAL.out⟩
  rw [← HST.out, ← h3]
  rfl
theorem bown_at {w : World} {base : Nat} {rv : Value} {es : List Bt} (h : w.ownsRow base 67 2 rv es.length (flatF Bt.cells es)) (i : Nat) (hi : i < es.length) :
    ∃ g c, rv = .slice (some ⟨g, 0, none⟩) es.length c ∧ w.cell? ⟨g, i * 2, none⟩ = some (.int .i64 es[i].ep) ∧ w.cell? ⟨g, i * 2 + 1, none⟩ = some es[i].rv := by
  obtain ⟨m, hm⟩ : ∃ m, es.length = m + 1 := ⟨es.length - 1, by omega⟩
  have h' := h
  rw [hm] at h'
  obtain ⟨g, cap, hv, -⟩ := own_succ h'
  rw [← hm] at hv
  subst hv
  refine ⟨g, cap, rfl, ?_, ?_⟩
  · have := World.ownsRow.cells h rfl (i * 2 + 0) _ (by rw [flatF_get bt2 es i 0 hi (by omega)]; rfl)
    rw [add_off, Nat.zero_add] at this
    exact this
  · have := World.ownsRow.cells h rfl (i * 2 + 1) _ (by rw [flatF_get bt2 es i 1 hi (by omega)]; rfl)
    rw [add_off, Nat.zero_add] at this
    exact this

set_option maxHeartbeats 800000 in
theorem idxB_calls (es : List Bt) (v : Value) (base b : Nat) (n : Int) (w : World) (eg : ∀ args w, (callFunc 64 args).run Try.prog w = .ok (.enter 64 args) w) (hown : w.ownsRow base 67 2 v es.length (flatF Bt.cells es)) (hd : ∀ e ∈ es, e.rv.oneCell' = true) (hb : DropBox w b n) (hn : es.length ≤ 2000000) :
    Calls Try.prog 84 #[v, .func (.func 64) #[] #[.pointer (some ⟨b, 0, none⟩)]] w fun e w' => ((∃ i : Nat, ∃ h : i < es.length, stays n es[i] = false ∧ (∀ r ∈ es.take i, stays n r = true) ∧ e = .returned (.int .i64 i)) ∨ ((∀ r ∈ es, stays n r = true) ∧ e = .returned (.int .i64 (-1)))) ∧ Below w.heap.size w w' := by
  have HO := Lib.hid hown
  have HD := Lib.hid hd
  have HBX := Lib.hid hb
  obtain ⟨va, vc, rfl⟩ := own_slice hown
  clear hown hd hb
  go_enter Try.func84, Try.ntmps84
  go_wp2_with fail
  go_loopw [5, 8] (fun _ i wr => ∃ k : Nat, k ≤ es.length ∧ i = .int .i64 k ∧ (∀ r ∈ es.take k, stays n r = true) ∧ Below w.heap.size w wr) (fun _ i _ => es.length - (intOf i).toNat)
  case atStart => exact ⟨0, by omega, rfl, by simp, Below.refl _ _⟩
  case round =>
    obtain ⟨k, hk, rfl, hno, hb⟩ := hrel
    have HB := Lib.hid hb
    have HNO := Lib.hid hno
    clear hno
    by_cases hlt : k < es.length
    · obtain ⟨g, c', hv, c0, c1⟩ := bown_at HO.out k hlt
      simp only [Value.slice.injEq, true_and] at hv
      obtain ⟨rfl, rfl⟩ := hv
      have d0 := cell_later hb c0
      have d1 := cell_later hb c1
      have hbx := HBX.out.later hb
      have hone := HD.out es[k] (List.getElem_mem _)
      have hnx : es.take (k + 1) = es.take k ++ [es[k]] := List.take_succ_eq_append_getElem hlt
      have HNX := Lib.hid hnx
      clear hnx hb c0 c1
      generalize hR : es[k] = R at *
      have HR := Lib.hid hR
      clear hR
      go_wp2_with fail
      refine (drop1_calls b n R _ hbx hone).mono ?_
      rintro e w1 ⟨rfl, hb1⟩
      have HB3 := Lib.hid (HB.out.trans (hb1.mono HB.out.size))
      clear hb1
      cases hpr : stays n R with
      | false =>
        have HPR := Lib.hid hpr
        clear hpr
        go_wp2_with fail
        go_ret
        exact ⟨.inl ⟨k, hlt, by rw [HR.out]; exact HPR.out, HNO.out, rfl⟩, HB3.out⟩
      | true =>
        have HPR := Lib.hid hpr
        clear hpr
        go_wp2_with fail
        go_roundw
        case rel =>
          refine ⟨k + 1, by omega, by go_num, fun r hr => ?_, HB3.out⟩
          rw [HNX.out] at hr
          rcases List.mem_append.1 hr with hr | hr
          · exact HNO.out r hr
          · rw [List.mem_singleton.1 hr]; exact HPR.out
        case measure => simp [intOf]; omega
    · obtain rfl : k = es.length := by omega
      clear hb
      go_wp2_with fail
      go_ret
      refine ⟨.inr ⟨fun r hr => HNO.out r (by rw [List.take_length]; exact hr), rfl⟩, HB.out⟩
theorem flatF_set2 (xs : List Bt) (i : Nat) (hi : i < xs.length) (e : Bt) : flatF Bt.cells (xs.set i e) = ((flatF Bt.cells xs).set (i * 2) (.int .i64 e.ep)).set (i * 2 + 1) e.rv := by
  induction xs generalizing i with
  | nil => simp at hi
  | cons x es ih =>
    cases i with
    | zero => rfl
    | succ i =>
      have h := ih i (by simpa using hi)
      have e0 : (i + 1) * 2 = i * 2 + 1 + 1 := by omega
      rw [e0]
      show x.cells ++ flatF Bt.cells (es.set i e) = _
      rw [h]
      rfl

/-- How the row stands while it is closed up. -/
structure Closed (w wr : World) (base g cap b : Nat) (n : Int) (es : List Bt) (i j : Nat) (xs : List Bt) : Prop where
  own : wr.ownsRow base 67 2 (.slice (some ⟨g, 0, none⟩) es.length cap) es.length (flatF Bt.cells xs)
  len : xs.length = es.length
  front : xs.take i = lostTo es n j
  back : xs.drop j = es.drop j
  mem : ∀ e ∈ xs, e ∈ es
  ilen : i = (lostTo es n j).length
  lt : i < j
  le : j ≤ es.length
  box : DropBox wr b n
  only : Only (fun k => some g = some k) w wr

theorem Closed.below {w wr w' : World} {base g cap b : Nat} {n : Int} {es xs : List Bt} {i j : Nat} (h : Closed w wr base g cap b n es i j xs) (hb : Below wr.heap.size wr w') : Closed w w' base g cap b n es i j xs :=
  ⟨ownsRow_below h.own hb (Nat.le_refl _), h.len, h.front, h.back, h.mem, h.ilen, h.lt, h.le, h.box.later hb, h.only.trans (Only.of_below (S := fun _ => False) hb) (fun _ _ h => h.elim)⟩
theorem Closed.skip {w wr : World} {base g cap b : Nat} {n : Int} {es xs : List Bt} {i j : Nat} (h : Closed w wr base g cap b n es i j xs) (hj : j < es.length) (hs : stays n es[j] = false) : Closed w wr base g cap b n es i (j + 1) xs := by
  have e := lostTo_hit es n j hj hs
  refine ⟨h.own, h.len, h.front.trans e.symm, ?_, h.mem, by rw [e]; exact h.ilen, by have := h.lt; omega, hj, h.box, h.only⟩
  rw [← List.drop_drop, ← List.drop_drop, h.back]
theorem Closed.keep {w wr : World} {base g cap b : Nat} {n : Int} {es xs : List Bt} {i j : Nat} (h : Closed w wr base g cap b n es i j xs) (hj : j < es.length) (hs : stays n es[j] = true) (hbg : b ≠ g) :
    Closed w ((wr.setCell ⟨g, i * 2, none⟩ (.int .i64 es[j].ep)).setCell ⟨g, i * 2 + 1, none⟩ es[j].rv) base g cap b n es (i + 1) (j + 1) (xs.set i es[j]) := by
  have e := lostTo_miss es n j hj hs
  have hlt := h.lt
  have hil : i < xs.length := by rw [h.len]; omega
  have o1 := World.ownsRow.stored h.own (i * 2) (.int .i64 es[j].ep)
  have o2 := World.ownsRow.stored o1.1 (i * 2 + 1) es[j].rv
  refine ⟨?_, by rw [List.length_set]; exact h.len, ?_, ?_, fun x hx => ?_, ?_, by omega, hj, ?_, ?_⟩
  · rw [flatF_set2 xs i hil]; exact o2.1
  · rw [e, ← h.front, List.take_set, List.take_succ_eq_append_getElem hil, List.set_append_right _ _ (by rw [List.length_take]; omega)]
    have : i - (xs.take i).length = 0 := by rw [List.length_take]; omega
    rw [this]
    rfl
  · rw [List.drop_set_of_lt (by omega), ← List.drop_drop, ← List.drop_drop, h.back]
  · rcases List.mem_or_eq_of_mem_set hx with hx | rfl
    · exact h.mem x hx
    · exact List.getElem_mem hj
  · rw [e, List.length_append, ← h.ilen]; rfl
  · obtain ⟨d, k, h1, h2, h3⟩ := h.box
    exact ⟨d, k, by rw [cell_set_block _ hbg, cell_set_block _ hbg]; exact h1, by rw [cell_set_block _ hbg, cell_set_block _ hbg]; exact h2, h3⟩
  · exact (h.only.setCell ⟨g, _, none⟩ _ (.inl rfl)).setCell ⟨g, _, none⟩ _ (.inl rfl)
theorem Closed.at {w wr : World} {base g cap b : Nat} {n : Int} {es xs : List Bt} {i j : Nat} (h : Closed w wr base g cap b n es i j xs) (hj : j < es.length) : wr.cell? ⟨g, j * 2, none⟩ = some (.int .i64 es[j].ep) ∧ wr.cell? ⟨g, j * 2 + 1, none⟩ = some es[j].rv := by
  have hl := h.len
  have ho := h.own
  rw [← hl] at ho
  obtain ⟨g', c', e, y0, y1⟩ := bown_at ho j (by omega)
  simp only [Value.slice.injEq, Option.some.injEq, Addr.mk.injEq, and_true, true_and] at e
  obtain ⟨rfl, rfl⟩ := e
  have hx : xs[j]'(by omega) = es[j] := by
    have h1 : (xs.drop j)[0]? = (es.drop j)[0]? := by rw [h.back]
    rw [List.getElem?_drop, List.getElem?_drop, Nat.add_zero, List.getElem?_eq_getElem (by omega), List.getElem?_eq_getElem hj] at h1
    exact Option.some.inj h1
  rw [hx] at y0 y1
  exact ⟨y0, y1⟩
theorem Closed.slot {w wr : World} {base g cap b : Nat} {n : Int} {es xs : List Bt} {i j : Nat} (h : Closed w wr base g cap b n es i j xs) : ∃ u0 u1, wr.cell? ⟨g, i * 2, none⟩ = some u0 ∧ wr.cell? ⟨g, i * 2 + 1, none⟩ = some u1 ∧ ∀ o, wr.frozen? ⟨g, o, none⟩ = false := by
  have hl := h.len
  have ho := h.own
  have hlt := h.lt
  have hle := h.le
  rw [← hl] at ho
  obtain ⟨g', c', e, y0, y1⟩ := bown_at ho i (by omega)
  simp only [Value.slice.injEq, Option.some.injEq, Addr.mk.injEq, and_true, true_and] at e
  obtain ⟨rfl, rfl⟩ := e
  exact ⟨_, _, y0, y1, fun o => World.ownsRow.frozenAt ho o⟩
theorem Closed.start {w wr : World} {base g cap b : Nat} {n : Int} {es : List Bt} {i : Nat} (hi : i < es.length) (hs : stays n es[i] = false) (hb : ∀ r ∈ es.take i, stays n r = true)
    (ho : wr.ownsRow base 67 2 (.slice (some ⟨g, 0, none⟩) es.length cap) es.length (flatF Bt.cells es)) (hbox : DropBox wr b n) (hon : Only (fun k => some g = some k) w wr) : Closed w wr base g cap b n es i (i + 1) es := by
  have e0 : lostTo es n i = es.take i := List.filter_eq_self.2 hb
  have e := (lostTo_hit es n i hi hs).trans e0
  refine ⟨ho, rfl, e.symm, rfl, fun _ h => h, ?_, by omega, hi, hbox, hon⟩
  rw [e, List.length_take]
  omega

set_option maxHeartbeats 2000000 in
theorem delF_calls (es : List Bt) (v : Value) (base b : Nat) (n : Int) (w : World) (eg : ∀ args w, (callFunc 64 args).run Try.prog w = .ok (.enter 64 args) w) (hown : w.ownsRow base 67 2 v es.length (flatF Bt.cells es)) (hd : ∀ e ∈ es, ∃ a l c, e.rv = .slice a l c) (hb : DropBox w b n) (hne : ∀ j, v.ownBlock = some j → b ≠ j) (hn : es.length ≤ 2000000) :
    Calls Try.prog 63 #[v, .func (.func 64) #[] #[.pointer (some ⟨b, 0, none⟩)]] w fun e w' => ∃ v', e = .returned v' ∧ w'.ownsRow base 67 2 v' (es.filter (stays n)).length (flatF Bt.cells (es.filter (stays n))) ∧ (∀ j, v'.ownBlock = some j → v.ownBlock = some j) ∧ Only (fun k => v.ownBlock = some k) w w' := by
  have hidx := idxB_calls es v base b n w eg hown (fun e he => by obtain ⟨a, l, c, h⟩ := hd e he; rw [h]; rfl) hb hn
  have HO := Lib.hid hown
  have HD := Lib.hid hd
  have HBX := Lib.hid hb
  have HNE := Lib.hid hne
  obtain ⟨va, vc, rfl⟩ := own_slice hown
  have HIDX := Lib.hid hidx
  clear hown hd hb hne hidx
  go_enter Try.func63, Try.ntmps63
  go_wp2_with fail
  refine HIDX.out.mono ?_
  rintro e w1 ⟨hr, hb1⟩
  have HB1 := Lib.hid hb1
  clear hb1
  rcases hr with ⟨i, hi, hs, hbef, rfl⟩ | ⟨hall, rfl⟩
  · obtain ⟨m, hm⟩ : ∃ m, es.length = m + 1 := ⟨es.length - 1, by omega⟩
    have ho' := HO.out
    rw [hm] at ho'
    obtain ⟨g, cap, hv1, hg1, hg2, hg3, hg4⟩ := own_succ ho'
    rw [← hm] at hv1
    simp only [Value.slice.injEq, true_and] at hv1
    obtain ⟨rfl, rfl⟩ := hv1
    rw [← hm] at hg3
    have hbg := HNE.out g rfl
    have hst := Closed.start (w := w) hi hs hbef (ownsRow_below HO.out HB1.out (Nat.le_refl _)) (HBX.out.later HB1.out) (Only.of_below HB1.out)
    have HST := Lib.hid hst
    have hwi : ((i : Int) == -1) = false := beq_eq_false_iff_ne.2 (by omega)
    clear hst ho' hm hs hbef
    go_wp2_with fail
    go_loopw [5, 6, 7] (fun iv jv _ wr => ∃ (i' j : Nat) (xs : List Bt), iv = .int .i64 i' ∧ jv = .int .i64 j ∧ Closed w wr base g vc b n es i' j xs) (fun _ jv _ _ => es.length - (intOf jv).toNat)
    case atStart => exact ⟨i, i + 1, es, rfl, by go_num, HST.out⟩
    case round =>
      obtain ⟨k, j, xs, rfl, rfl, hc⟩ := hrel
      have HC := Lib.hid hc
      have hkj := hc.lt
      have hjn := hc.le
      by_cases hlt : j < es.length
      · obtain ⟨c0, c1⟩ := hc.at hlt
        obtain ⟨da, dl, dc, hdv⟩ := HD.out es[j] (List.getElem_mem _)
        have hone : es[j].rv.oneCell' = true := by rw [hdv]; rfl
        have hal := (Below.refl wr.heap.size wr).alloc (Nat.le_refl _) (.cells #[.int .i64 es[j].ep, es[j].rv] 67)
        have b0 : (wr.alloc (.cells #[.int .i64 es[j].ep, es[j].rv] 67)).cell? ⟨wr.heap.size, 0, none⟩ = some (.int .i64 es[j].ep) := by rw [World.cell?_alloc_at _ _ _ _ rfl]; rfl
        have b1 : (wr.alloc (.cells #[.int .i64 es[j].ep, es[j].rv] 67)).cell? ⟨wr.heap.size, 1, none⟩ = some es[j].rv := by rw [World.cell?_alloc_at _ _ _ _ rfl]; rfl
        have HCA := Lib.hid (hc.below hal)
        have hcall := drop1_calls b n es[j] _ HCA.out.box hone
        rw [hdv] at b0 b1 c1 HCA hcall
        have HCALL := Lib.hid hcall
        clear hc hal hcall hone
        go_wp2_with fail
        refine HCALL.out.mono ?_
        rintro e w2 ⟨rfl, hb2⟩
        have HC2 := Lib.hid (HCA.out.below hb2)
        have b0 := cell_later hb2 b0
        have b1 := cell_later hb2 b1
        clear hb2
        cases hst : stays n es[j] with
        | false =>
          have HS := Lib.hid (HC2.out.skip hlt hst)
          clear hst b0 b1 c0 c1 hdv
          go_wp2_with fail
          go_roundw
          case rel => exact ⟨k, j + 1, xs, rfl, by go_num, HS.out⟩
          case measure => simp [intOf]; omega
        | true =>
          have HS := Lib.hid (HC2.out.keep hlt hst hbg)
          rw [hdv] at HS
          obtain ⟨u0, u1, s0, s1, sz⟩ := HC2.out.slot
          clear hst c0 c1 hdv
          have hkn : k < es.length := by omega
          go_wp2_with fail
          go_roundw
          case rel => exact ⟨k + 1, j + 1, _, by go_num, by go_num, HS.out⟩
          case measure => simp [intOf]; omega
      · obtain rfl : j = es.length := by omega
        have hil := hc.ilen
        have hfr := hc.front
        rw [lostTo_end] at hil hfr
        have HIL := Lib.hid hil
        have hown := hc.own
        obtain ⟨d, hd⟩ : ∃ d, es.length = k + d := ⟨es.length - k, by omega⟩
        have hd0 : 0 < d := by omega
        have hsp := hown
        rw [hd] at hsp
        have htd : flatF Bt.cells xs = flatF Bt.cells (xs.take k) ++ flatF Bt.cells (xs.drop k) := by rw [← flatF_append, List.take_append_drop]
        rw [htd] at hsp
        have hpre := own_prefix (n := k) (m := d) hsp (by rw [flatF_length bt2, List.length_take, hc.len]; congr 1; omega)
        rw [hfr] at hpre
        obtain ⟨w3, hrun, ho3, hg3'⟩ := run_clear_tail (P := Try.prog) (t := 25) (ty := 0) (m := d) (c := vc - k) tyBats (fun w => by kernel_rfl) (by simp [Value.cells, Value.oneCell']) hpre (by omega) hd0
        have hdd : es.length - k = d := by omega
        have HON := Lib.hid (hc.only.trans (Only.of_grown hg3') (fun j _ h => h))
        have HO3 := Lib.hid ho3
        clear hc hfr hil hown hsp htd hpre ho3 hg3'
        go_wp2_with fail
        go_ret
        refine ⟨_, rfl, ?_, fun j h => h, HON.out⟩
        rw [← HIL.out]
        exact HO3.out
  · have hf : es.filter (stays n) = es := List.filter_eq_self.2 hall
    have HF := Lib.hid hf
    clear hf hall
    go_wp2_with fail
    go_ret
    rw [HF.out]
    exact ⟨_, rfl, ownsRow_below HO.out HB1.out (Nat.le_refl _), fun j h => h, Only.of_below HB1.out⟩

def Led.dropped (L : Led) : List Bt := L.bats.filter (stays (L.decided - L.keep))
end Go.Proofs.Ytkabfjbmofpkdaa

/- Layer 14: drop of a ledger, walked. -/
namespace Go.Proofs.Ytkabfjbmofpkdaa
open Go.RowKit Go.Shelf
set_option maxRecDepth 100000

/-- The box of a ledger that is changed field by field (S); behind it the box of the result. -/
structure BoxB (S : Nat) (W : World) (cur : Led) : Prop where
  box : BoxL W S cur
  bf : ∀ j, W.frozen? ⟨S, j, none⟩ = false
  res : W.there (S + 1) 0 16
  size : S + 2 ≤ W.heap.size
theorem BoxAt.toB {w W : World} {cur : Led} (h : BoxAt w W cur) : BoxB w.heap.size W cur := ⟨h.box, h.bf, h.res, h.size⟩
theorem BoxB.other {S : Nat} {W W' : World} {cur : Led} {T : Nat → Prop} (h : BoxB S W cur) (ho : Only T W W') (h1 : ¬ T S) (h2 : ¬ T (S + 1)) : BoxB S W' cur := by
  have hs := h.size
  refine ⟨fun j v hj => ho.cell h1 (h.box j v hj), fun j => (ho.frozen (by omega) h1).trans (h.bf j), fun j hj => ?_, by have := ho.size; omega⟩
  obtain ⟨e1, e2⟩ := h.res j hj
  refine ⟨?_, (ho.frozen (by omega) h2).trans e2⟩
  obtain ⟨v, hv⟩ := Option.isSome_iff_exists.1 e1
  rw [ho.cell h2 hv]; rfl
theorem BoxB.later {S : Nat} {W W' : World} {cur : Led} (h : BoxB S W cur) (hb : Below W.heap.size W W') : BoxB S W' cur := h.other (Only.of_below (S := fun _ => False) hb) (fun e => e) (fun e => e)
theorem BoxB.set {S : Nat} {W : World} {cur cur' : Led} (h : BoxB S W cur) (j : Nat) (v : Value) (hc : cur'.cells = cur.cells.set j v) (hj : j < 16) : BoxB S (W.setCell ⟨S, j, none⟩ v) cur' := by
  have hs := h.size
  refine ⟨fun i u hi => ?_, fun i => by rw [World.frozen?_setCell]; exact h.bf i, fun i hi => ?_, by simp; omega⟩
  · rw [hc] at hi
    by_cases e : i = j
    · subst e
      rw [List.getElem?_set_self (by show i < 16; exact hj)] at hi
      cases hi
      have hx : ∃ u, cur.cells[i]? = some u := ⟨_, List.getElem?_eq_getElem (by show i < 16; exact hj)⟩
      obtain ⟨u, hu⟩ := hx
      exact cell_set_same v (h.box i u hu)
    · rw [List.getElem?_set_ne (by omega)] at hi
      rw [cell_set_off v e]
      exact h.box i u hi
  · obtain ⟨h1, h2⟩ := h.res i hi
    exact ⟨by rw [cell_set_block v (by omega)]; exact h1, by rw [World.frozen?_setCell]; exact h2⟩
/-- The result is laid in its box. -/
theorem res_run {S : Nat} {W : World} {cur : Led} (h : BoxB S W cur) : (loadVar 30 ⟨S + 1, 0, none⟩).run Try.prog (W.setCells (S + 1) 0 cur.cells) = .ok (.agg cur.cells.toArray) (W.setCells (S + 1) 0 cur.cells) :=
  run_loadVar_mid (P := Try.prog) _ (S + 1) 0 30 cur.cells _ (World.rangeAt_setCells_same W (S + 1) 0 cur.cells h.res) Try.underlying30 rfl (by show _ = some 16; kernel_rfl)

theorem LedO.only {T : Nat → Prop} {w w' : World} {base : Nat} {L : Led} (h : LedO w base L) (ho : Only T w w') (h1 : ∀ g, L.rv.ownBlock = some g → ¬ T g) (h2 : ∀ g, L.ov.ownBlock = some g → ¬ T g) (h3 : ∀ g, L.bv.ownBlock = some g → ¬ T g) (h4 : ∀ b ∈ L.bats, ∀ g, b.rv.ownBlock = some g → ¬ T g) (h5 : ∀ g, L.gv.ownBlock = some g → ¬ T g) (h6 : ∀ o ∈ L.ops, ∀ g, o.iv.ownBlock = some g → ¬ T g) : LedO w' base L :=
  ⟨ownsRow_only h.rows ho h1, ownsRow_only h.opn ho h2, ownsRow_only h.bats ho h3, fun b hb => ownsRow_only (h.recs b hb) ho (h4 b hb), h.apart, ownsRow_only h.ops ho h5, fun o ho' => ownsRow_only (h.ins o ho') ho (h6 o ho')⟩

set_option maxHeartbeats 4000000 in
theorem drop_calls (L : Led) (base : Nat) (w : World) (hO : LedO w base L) (hsm : L.Small) (hw : IntKind.i64.wrap (L.decided - L.keep) = L.decided - L.keep) :
    Calls Try.prog 32 #[.agg L.cells.toArray] w fun e w' => ∃ bv', e = .returned (.agg (Led.cells { L with bv := bv', bats := L.dropped }).toArray) ∧ LedO w' base { L with bv := bv', bats := L.dropped } ∧ Only (fun k => L.bv.ownBlock = some k) w w' := by
  obtain ⟨X, hX⟩ : ∃ X, X = (w.alloc (.cells L.cells.toArray 30)).alloc (.cells zero16 30) := ⟨_, rfl⟩
  have hBA : BoxAt w X L := by rw [hX]; exact boxAt_start w L
  have hBB := hBA.toB
  have hbl : ∀ g, L.bv.ownBlock = some g → g < w.heap.size := fun g hg => (World.ownsRow.lt hO.bats g hg).2
  have hdel := delF_calls L.bats L.bv base w.heap.size (L.decided - L.keep) X (fun args w => enter_of Try.func64 (by kernel_rfl) rfl args w) (ownsRow_below hO.bats hBA.below (Nat.le_refl _)) (fun e he => by obtain ⟨a, c, h⟩ := own_slice (hO.recs e he); exact ⟨a, _, c, h⟩)
    ⟨L.decided, L.keep, hBB.box 12 _ rfl, hBB.box 15 _ rfl, hw⟩ (fun j hj => by have := hbl j hj; omega) (by have := hsm.bats; omega)
  obtain ⟨ba, bc, hbv⟩ := own_slice hO.bats
  have c10 : ((w.alloc (.cells L.cells.toArray 30)).alloc (.cells zero16 30)).cell? ⟨w.heap.size, 10, none⟩ = some (.slice ba L.bats.length bc) := by rw [← hX, hBB.box 10 _ rfl, hbv]
  rw [hbv] at hdel
  have HBA := Lib.hid hBA
  have HBB := Lib.hid hBB
  have HX := Lib.hid hX
  have HO := Lib.hid hO
  have HBV := Lib.hid hbv
  have HDEL := Lib.hid hdel
  have HBL := Lib.hid hbl
  clear hX hBA hBB hO hsm hbv hdel hbl
  unfold zero16 at c10
  go_enter Try.func32, Try.ntmps32
  go_wp2_with fail
  rw [show (w.alloc (.cells L.cells.toArray 30)).alloc (.cells #[.slice none 0 0, .int .i64 0, .int .i64 0, .int .i64 0, .int .i64 0, .int .i64 0, .int .i64 0, .int .i64 0, .int .i64 0, .slice none 0 0, .slice none 0 0, .int .i64 0, .int .i64 0, .bool false, .slice none 0 0, .int .i64 0] 30) = X from HX.out.symm]
  clear c10
  refine HDEL.out.mono ?_
  rintro e w1 ⟨v1, rfl, ho1, hin1, hon1⟩
  have hB1 := HBB.out.other hon1 (fun e => by have := HBL.out _ (by rw [HBV.out]; exact e); omega) (fun e => by have := HBL.out _ (by rw [HBV.out]; exact e); omega)
  obtain ⟨xa, xc, rfl⟩ := own_slice ho1
  have hB2 := hB1.set (cur' := { L with bv := .slice xa (L.bats.filter (stays (L.decided - L.keep))).length xc }) 10 (.slice xa (L.bats.filter (stays (L.decided - L.keep))).length xc) rfl (by omega)
  have c10 := hB1.box 10 _ rfl
  have bf := hB1.bf 10
  have HB2 := Lib.hid hB2
  have HO1 := Lib.hid ho1
  have HON1 := Lib.hid hon1
  have HIN1 := Lib.hid hin1
  have HRG := Lib.hid hB2.box.range
  have HTH := Lib.hid hB2.res
  have h1v := (led_all { L with bv := .slice xa (L.bats.filter (stays (L.decided - L.keep))).length xc } (own_one HO.out.rows) (own_one HO.out.opn) rfl (own_one HO.out.ops))
  have H1V := Lib.hid h1v
  clear hB1 hB2 ho1 hon1 hin1 h1v
  go_wp2_with (first | (refine wpList_load_mid rfl 30 _ rfl w.heap.size 0 rfl (Led.cells { L with bv := .slice xa (L.bats.filter (stays (L.decided - L.keep))).length xc }) _ HRG.out Try.underlying30 rfl (by show _ = some 16; kernel_rfl) ?_) | (refine wp_load_mid 30 _ rfl w.heap.size 0 rfl (Led.cells { L with bv := .slice xa (L.bats.filter (stays (L.decided - L.keep))).length xc }) _ HRG.out Try.underlying30 rfl (by show _ = some 16; kernel_rfl) ?_) | (refine wpList_store_mid rfl 30 _ _ rfl (w.heap.size + 1) 0 (Led.cells { L with bv := .slice xa (L.bats.filter (stays (L.decided - L.keep))).length xc }).toArray rfl rfl HTH.out (by show _ = some 16; kernel_rfl) H1V.out ?_) | (refine wp_store_mid 30 _ _ rfl (w.heap.size + 1) 0 (Led.cells { L with bv := .slice xa (L.bats.filter (stays (L.decided - L.keep))).length xc }).toArray rfl rfl HTH.out (by show _ = some 16; kernel_rfl) H1V.out ?_))
  have hon2 : Only (fun k => L.bv.ownBlock = some k) w (((w1.setCell ⟨w.heap.size, 10, none⟩ (.slice xa (L.bats.filter (stays (L.decided - L.keep))).length xc))).setCells (w.heap.size + 1) 0 (Led.cells { L with bv := .slice xa (L.bats.filter (stays (L.decided - L.keep))).length xc })) := by
    have a1 : Only (fun k => L.bv.ownBlock = some k) w X := Only.of_below HBA.out.below
    have a2 := a1.trans HON1.out (fun j _ h => by rw [HBV.out]; exact h)
    have a3 := a2.setCell ⟨w.heap.size, 10, none⟩ (.slice xa (L.bats.filter (stays (L.decided - L.keep))).length xc) (.inr (Nat.le_refl _))
    exact a3.trans (only_cells _ _ _ _) (fun j hj e => by omega)
  have hon3 : Only (fun k => k = w.heap.size ∨ k = w.heap.size + 1) w1 (((w1.setCell ⟨w.heap.size, 10, none⟩ (.slice xa (L.bats.filter (stays (L.decided - L.keep))).length xc))).setCells (w.heap.size + 1) 0 (Led.cells { L with bv := .slice xa (L.bats.filter (stays (L.decided - L.keep))).length xc })) :=
    ((Only.refl _ w1).setCell ⟨w.heap.size, 10, none⟩ _ (.inl (.inl rfl))).trans (only_cells _ _ _ _) (fun j _ e => .inr e)
  refine bodyPost_ret (v := .agg (Led.cells { L with bv := .slice xa (L.bats.filter (stays (L.decided - L.keep))).length xc }).toArray) (results_cell Try.results32 rfl (res_run HB2.out)) rfl ?_
  have hap : ∀ {e sz n v cs}, w.ownsRow base e sz v n cs → e ≠ 67 → ∀ g, v.ownBlock = some g → L.bv.ownBlock ≠ some g := fun h hne g hg => own_apart h HO.out.bats hne g hg
  refine ⟨_, rfl, ⟨ownsRow_only HO.out.rows hon2 (hap HO.out.rows (by decide)), ownsRow_only HO.out.opn hon2 (hap HO.out.opn (by decide)), ownsRow_only HO1.out hon3 (fun g hg => ?_), fun b hb => ?_, fun b hb => ?_, ownsRow_only HO.out.ops hon2 (hap HO.out.ops (by decide)), fun o ho => ownsRow_only (HO.out.ins o ho) hon2 (hap (HO.out.ins o ho) (by decide))⟩, hon2⟩
  · have h1 := HIN1.out g hg
    have := HBL.out g (by rw [HBV.out]; exact h1)
    rintro (e | e) <;> omega
  · have hm := (List.mem_filter.1 hb).1
    exact ownsRow_only (HO.out.recs b hm) hon2 (hap (HO.out.recs b hm) (by decide))
  · exact HO.out.apart b (List.mem_filter.1 hb).1
end Go.Proofs.Ytkabfjbmofpkdaa

/- Layer 14: what a record does to a ledger. -/
namespace Go.Proofs.Ytkabfjbmofpkdaa
open Go.RowKit Go.Shelf
set_option maxRecDepth 100000

/-- The box of a ledger (S) that is changed field by field, and the box of the result (R). -/
structure BoxC (S R : Nat) (W : World) (cur : Led) : Prop where
  box : BoxL W S cur
  bf : ∀ j, W.frozen? ⟨S, j, none⟩ = false
  res : W.there R 0 16
  hS : S < W.heap.size
  hR : R < W.heap.size
  ne : R ≠ S
theorem BoxC.other {S R : Nat} {W W' : World} {cur : Led} {T : Nat → Prop} (h : BoxC S R W cur) (ho : Only T W W') (h1 : ¬ T S) (h2 : ¬ T R) : BoxC S R W' cur := by
  have hs := h.hS
  have hr := h.hR
  refine ⟨fun j v hj => ho.cell h1 (h.box j v hj), fun j => (ho.frozen (by omega) h1).trans (h.bf j), fun j hj => ?_, by have := ho.size; omega, by have := ho.size; omega, h.ne⟩
  obtain ⟨e1, e2⟩ := h.res j hj
  refine ⟨?_, (ho.frozen (by omega) h2).trans e2⟩
  obtain ⟨v, hv⟩ := Option.isSome_iff_exists.1 e1
  rw [ho.cell h2 hv]; rfl
theorem BoxC.later {S R : Nat} {W W' : World} {cur : Led} (h : BoxC S R W cur) (hb : Below W.heap.size W W') : BoxC S R W' cur := h.other (Only.of_below (S := fun _ => False) hb) (fun e => e) (fun e => e)
theorem BoxC.set {S R : Nat} {W : World} {cur cur' : Led} (h : BoxC S R W cur) (j : Nat) (v : Value) (hc : cur'.cells = cur.cells.set j v) (hj : j < 16) : BoxC S R (W.setCell ⟨S, j, none⟩ v) cur' := by
  have hne := h.ne
  refine ⟨fun i u hi => ?_, fun i => by rw [World.frozen?_setCell]; exact h.bf i, fun i hi => ?_, by simpa using h.hS, by simpa using h.hR, hne⟩
  · rw [hc] at hi
    by_cases e : i = j
    · subst e
      rw [List.getElem?_set_self (by show i < 16; exact hj)] at hi
      cases hi
      have hx : ∃ u, cur.cells[i]? = some u := ⟨_, List.getElem?_eq_getElem (by show i < 16; exact hj)⟩
      obtain ⟨u, hu⟩ := hx
      exact cell_set_same v (h.box i u hu)
    · rw [List.getElem?_set_ne (by omega)] at hi
      rw [cell_set_off v e]
      exact h.box i u hi
  · obtain ⟨h1, h2⟩ := h.res i hi
    exact ⟨by rw [cell_set_block v hne]; exact h1, by rw [World.frozen?_setCell]; exact h2⟩
theorem resC_run {S R : Nat} {W : World} {cur : Led} (h : BoxC S R W cur) : (loadVar 30 ⟨R, 0, none⟩).run Try.prog (W.setCells R 0 cur.cells) = .ok (.agg cur.cells.toArray) (W.setCells R 0 cur.cells) :=
  run_loadVar_mid (P := Try.prog) _ R 0 30 cur.cells _ (World.rangeAt_setCells_same W R 0 cur.cells h.res) Try.underlying30 rfl (by show _ = some 16; kernel_rfl)

def Led.bump (L : Led) (p : Nat) : Nat → Int := fun i => if i = p then L.C i + 1 else L.C i
theorem cells_bump (L : Led) (p : Nat) (hp : p < 8) : Led.cells { L with C := L.bump p } = L.cells.set (1 + p) (.int .i64 (L.C p + 1)) := by
  rcases (show p = 0 ∨ p = 1 ∨ p = 2 ∨ p = 3 ∨ p = 4 ∨ p = 5 ∨ p = 6 ∨ p = 7 from by omega) with rfl | rfl | rfl | rfl | rfl | rfl | rfl | rfl <;> rfl
def Led.recCode (L : Led) (r : Rec) : Int :=
  if lookOf L.rows r.p r.q r.s = 2 then 0 else if lookOf L.rows r.p r.q r.s = 3 then 11 else if lookOf L.rows r.p r.q r.s ≠ 1 ∨ L.C r.q.toNat = 9223372036854775807 then 14 else if 512 ≤ L.opn.length then 10 else 0
def Led.recTook (L : Led) (r : Rec) : Bool := decide (lookOf L.rows r.p r.q r.s = 1 ∧ L.C r.q.toNat ≠ 9223372036854775807 ∧ L.opn.length < 512)
def Led.recL (L : Led) (r : Rec) : Led := if L.recTook r = true then { L with rows := putRowAt ⟨r.p, r.q, r.s⟩ L.rows, C := L.bump r.q.toNat, opn := L.opn ++ [r] } else L
theorem look_vals (rs : List Row) (p q s : Int) : lookOf rs p q s = 1 ∨ lookOf rs p q s = 2 ∨ lookOf rs p q s = 3 ∨ lookOf rs p q s = 4 := by
  unfold lookOf
  split
  · simp
  · split
    · simp
    · split <;> simp
theorem goodRec_right {r : Rec} (h : goodRec r = true) : rightB r.p r.q = true := by
  unfold goodRec at h
  unfold rightB
  simp only [decide_eq_true_eq] at h ⊢
  omega

set_option maxHeartbeats 4000000 in
theorem record_calls (L : Led) (base : Nat) (r : Rec) (w : World) (hO : LedO w base L) (hok : L.Ok) (hT : Table L.rows) (hl : L.opn.length ≤ 1100000) (hr : goodRec r = true) (hrk : r.ok) (hb : base ≤ w.heap.size) :
    Calls Try.prog 30 #[.agg L.cells.toArray, .agg #[.int .i64 r.p, .int .i64 r.s, .int .i64 r.q, .string r.key, .int .u32 r.val]] w fun e w' => ∃ rv ov, e = .returned (.tuple #[.agg (Led.cells { L.recL r with rv := rv, ov := ov }).toArray, .bool (L.recTook r), .int .i64 (L.recCode r)]) ∧ LedO w' base { L.recL r with rv := rv, ov := ov } ∧ Only (fun k => L.ov.ownBlock = some k) w w' := by
  have hpq := goodRec_part hr
  have hcode := look_vals L.rows r.p r.q r.s
  have htc : takeCode L.rows r.p r.q r.s = lookOf L.rows r.p r.q r.s := if_pos (goodRec_right hr)
  have htr : lookOf L.rows r.p r.q r.s = 1 → takeRows L.rows r.p r.q r.s = putRowAt ⟨r.p, r.q, r.s⟩ L.rows := fun h => if_pos ⟨goodRec_right hr, h⟩
  obtain ⟨p, hp⟩ : ∃ p : Nat, r.q = p := ⟨r.q.toNat, by omega⟩
  have hp8 : p < 8 := by omega
  have hpn : r.q.toNat = p := by omega
  have HREC0 := Lib.hid (show L.recL r = if L.recTook r = true then { L with rows := putRowAt ⟨r.p, r.q, r.s⟩ L.rows, C := L.bump p, opn := L.opn ++ [r] } else L from by unfold Led.recL; rw [hpn])
  have HTOOK := Lib.hid (show L.recTook r = decide (lookOf L.rows r.p r.q r.s = 1 ∧ L.C p ≠ 9223372036854775807 ∧ L.opn.length < 512) from by unfold Led.recTook; rw [hpn])
  have HCODE := Lib.hid (show L.recCode r = if lookOf L.rows r.p r.q r.s = 2 then 0 else if lookOf L.rows r.p r.q r.s = 3 then 11 else if lookOf L.rows r.p r.q r.s ≠ 1 ∨ L.C p = 9223372036854775807 then 14 else if 512 ≤ L.opn.length then 10 else 0 from by unfold Led.recCode; rw [hpn])
  generalize L.recL r = RL at *
  generalize L.recTook r = RT at *
  generalize L.recCode r = RC at *
  obtain ⟨rp, rs, rq, rkey, rval⟩ := r
  simp only at hcode htc htr hp HREC0 HTOOK HCODE ⊢
  subst hp
  obtain ⟨X, hX⟩ : ∃ X, X = ((w.alloc (.cells L.cells.toArray 30)).alloc (.cells #[.int .i64 rp, .int .i64 rs, .int .i64 p, .string rkey, .int .u32 rval] 33)).alloc (.cells zero16 30) := ⟨_, rfl⟩
  have hbX : Below w.heap.size w X := by rw [hX]; exact below_box (below_box (below_alloc _ _) _) _
  have hXs : X.heap.size = w.heap.size + 3 := by rw [hX]; simp
  have hBC : BoxC w.heap.size (w.heap.size + 2) X L := by
    refine ⟨?_, fun j => ?_, fun j hj => ?_, by omega, by omega, by omega⟩
    · rw [hX]; exact ((boxL_self w L 30).later (below_alloc _ _)).later (below_alloc _ _)
    · rw [hX, World.frozen?_alloc_past _ _ _ (by simp <;> omega), World.frozen?_alloc_past _ _ _ (by simp <;> omega), World.frozen?_alloc_at _ _ _ _ rfl]
    · refine ⟨?_, by rw [hX, World.frozen?_alloc_at _ _ _ _ (by simp)]⟩
      rw [hX, World.cell?_alloc_at _ _ _ _ (by simp)]
      show (zero16[0 + j]?).isSome = true
      rw [Nat.zero_add]
      have : j < zero16.size := hj
      rw [Array.getElem?_eq_getElem this]; rfl
  have xr : ∀ o u, (#[.int .i64 rp, .int .i64 rs, .int .i64 p, .string rkey, .int .u32 rval] : Array Value)[o]? = some u → X.cell? ⟨w.heap.size + 1, o, none⟩ = some u := fun o u h => by
    rw [hX, World.cell?_alloc_past _ _ _ (by simp <;> omega), World.cell?_alloc_at _ _ _ _ (by simp)]; exact h
  obtain ⟨ra, rc, hrv⟩ := own_slice hO.rows
  obtain ⟨oa, oc, hov⟩ := own_slice hO.opn
  have c0 : X.cell? ⟨w.heap.size, 0, none⟩ = some (.slice ra L.rows.length rc) := by rw [hBC.box 0 _ rfl, hrv]
  rw [hX] at c0
  unfold zero16 at c0
  have HX := Lib.hid hX
  have HBC := Lib.hid hBC
  have HBX := Lib.hid hbX
  have HXR := Lib.hid xr
  have HO := Lib.hid hO
  have HV := Lib.hid (And.intro hrv hov)
  have HT := Lib.hid hT
  have HOK := Lib.hid hok
  have HTC := Lib.hid (And.intro htc htr)
  have HRS := Lib.hid hrk.2.1
  have HXS := Lib.hid (show w.heap.size + 3 ≤ X.heap.size by omega)
  have hCp := hok.C p hp8
  unfold I64 at hCp
  clear hX hBC hbX xr hO hrv hov hT hok htc htr hrk hr hXs
  go_enter Try.func30, Try.ntmps30
  go_wp2_with fail
  rw [show ((w.alloc (.cells L.cells.toArray 30)).alloc (.cells #[.int .i64 rp, .int .i64 rs, .int .i64 p, .string rkey, .int .u32 rval] 33)).alloc (.cells #[.slice none 0 0, .int .i64 0, .int .i64 0, .int .i64 0, .int .i64 0, .int .i64 0, .int .i64 0, .int .i64 0, .int .i64 0, .slice none 0 0, .slice none 0 0, .int .i64 0, .int .i64 0, .bool false, .slice none 0 0, .int .i64 0] 30) = X from HX.out.symm]
  clear c0
  refine (take_calls _ L.rows rp p rs _ (by have := (HO.out.reads.below HBX.out (Nat.le_refl _)).rows; rwa [HV.out.1] at this) HT.out HOK.out.rows HRS.out).mono ?_
  rintro e w1 ⟨v1, rfl, ho1, hb1⟩
  rw [HTC.out.1]
  have hB1 := HBC.out.later hb1
  have HBX1 := Lib.hid (below_go HBX.out hb1)
  have HRNG := Lib.hid hB1.box.range
  have HRES := Lib.hid hB1.res
  have HB1 := Lib.hid hB1
  have HO1 := Lib.hid ho1
  have hcp := hB1.box (1 + p) _ (cells_C L p hp8)
  have c9 := hB1.box 9 _ rfl
  rw [HV.out.2] at c9
  have r2 := cell_later hb1 (HXR.out 2 _ rfl)
  have HXR1 := Lib.hid (fun o u (h : (#[.int .i64 rp, .int .i64 rs, .int .i64 p, .string rkey, .int .u32 rval] : Array Value)[o]? = some u) => cell_later hb1 (HXR.out o u h))
  have H1L := Lib.hid (led_all L (own_one HO.out.rows) (own_one HO.out.opn) (own_one HO.out.bats) (own_one HO.out.ops))
  have h1one := own_one ho1
  have hxsz : w.heap.size + 3 ≤ w1.heap.size := by have := hB1.hR; omega
  have HLO1 := Lib.hid (HO.out.below HBX1.out)
  clear hB1 HBC HX hb1
  have hend : ∀ W', W' = w1.setCells (w.heap.size + 2) 0 L.cells → LedO W' base L ∧ Only (fun k => L.ov.ownBlock = some k) w W' := by
    rintro W' rfl
    have ho : Only (fun k => k = w.heap.size + 2) w1 (w1.setCells (w.heap.size + 2) 0 L.cells) := only_cells _ _ _ _
    refine ⟨?_, (Only.of_below HBX1.out).trans ho (fun j hj e => by omega)⟩
    have hlt : ∀ {e sz n v cs}, w.ownsRow base e sz v n cs → ∀ g, v.ownBlock = some g → ¬ g = w.heap.size + 2 := fun h g hg => by have := (World.ownsRow.lt h g hg).2; omega
    exact HLO1.out.only ho (hlt HO.out.rows) (hlt HO.out.opn) (hlt HO.out.bats) (fun b hb => hlt (HO.out.recs b hb)) (hlt HO.out.ops) (fun o ho => hlt (HO.out.ins o ho))
  have HEND := Lib.hid hend
  clear hend
  rcases hcode with hk | hk | hk | hk
  · have HLK := Lib.hid hk
    rw [hk]
    clear hk
    by_cases hmax : L.C p = 9223372036854775807
    · have hm : (L.C p == 9223372036854775807) = true := beq_iff_eq.2 hmax
      have HMX := Lib.hid hmax
      clear hmax hCp
      have HE1 := Lib.hid (show RL = L from by rw [HREC0.out, if_neg (by rw [HTOOK.out]; simp [HMX.out])])
      have HE2 := Lib.hid (show RT = false from by rw [HTOOK.out]; simp [HMX.out])
      have HE3 := Lib.hid (show RC = 14 from by rw [HCODE.out, HLK.out]; simp [HMX.out])
      go_upto_region 7 with fail
      go_wp2_with (first | (refine wpList_load_mid rfl 30 _ rfl w.heap.size 0 rfl (Led.cells L) _ HRNG.out Try.underlying30 rfl (by show _ = some 16; kernel_rfl) ?_) | (refine wp_load_mid 30 _ rfl w.heap.size 0 rfl (Led.cells L) _ HRNG.out Try.underlying30 rfl (by show _ = some 16; kernel_rfl) ?_) | (refine wpList_store_mid rfl 30 _ _ rfl (w.heap.size + 2) 0 (Led.cells L).toArray rfl rfl HRES.out (by show _ = some 16; kernel_rfl) H1L.out ?_) | (refine wp_store_mid 30 _ _ rfl (w.heap.size + 2) 0 (Led.cells L).toArray rfl rfl HRES.out (by show _ = some 16; kernel_rfl) H1L.out ?_))
      refine bodyPost_ret (v := .tuple #[.agg L.cells.toArray, .bool false, .int .i64 14]) (results_cell3 Try.results30 rfl (resC_run HB1.out)) rfl ?_
      rw [HE1.out, HE2.out, HE3.out]
      exact ⟨L.rv, L.ov, rfl, HEND.out _ rfl⟩
    · have hm : (L.C p == 9223372036854775807) = false := beq_eq_false_iff_ne.2 hmax
      by_cases hfull : 512 ≤ L.opn.length
      · have hf : decide ((512 : Int) ≤ L.opn.length) = true := decide_eq_true (by omega)
        have HFL := Lib.hid hfull
        have HMX := Lib.hid hmax
        clear hmax hCp hfull
        have HE1 := Lib.hid (show RL = L from by rw [HREC0.out, if_neg (by rw [HTOOK.out]; simp only [decide_eq_true_eq]; have := HFL.out; omega)])
        have HE2 := Lib.hid (show RT = false from by rw [HTOOK.out]; exact decide_eq_false (by have := HFL.out; omega))
        have HE3 := Lib.hid (show RC = 10 from by rw [HCODE.out, HLK.out]; simp [HMX.out, HFL.out])
        go_upto_region 9 with fail
        go_wp2_with (first | (refine wpList_load_mid rfl 30 _ rfl w.heap.size 0 rfl (Led.cells L) _ HRNG.out Try.underlying30 rfl (by show _ = some 16; kernel_rfl) ?_) | (refine wp_load_mid 30 _ rfl w.heap.size 0 rfl (Led.cells L) _ HRNG.out Try.underlying30 rfl (by show _ = some 16; kernel_rfl) ?_) | (refine wpList_store_mid rfl 30 _ _ rfl (w.heap.size + 2) 0 (Led.cells L).toArray rfl rfl HRES.out (by show _ = some 16; kernel_rfl) H1L.out ?_) | (refine wp_store_mid 30 _ _ rfl (w.heap.size + 2) 0 (Led.cells L).toArray rfl rfl HRES.out (by show _ = some 16; kernel_rfl) H1L.out ?_))
        refine bodyPost_ret (v := .tuple #[.agg L.cells.toArray, .bool false, .int .i64 10]) (results_cell3 Try.results30 rfl (resC_run HB1.out)) rfl ?_
        rw [HE1.out, HE2.out, HE3.out]
        exact ⟨L.rv, L.ov, rfl, HEND.out _ rfl⟩
      · have hf : decide ((512 : Int) ≤ L.opn.length) = false := decide_eq_false (by omega)
        have HNF := Lib.hid (show RT = true from by rw [HTOOK.out]; exact decide_eq_true ⟨HLK.out, hmax, by omega⟩)
        have HCD := Lib.hid (show RC = 0 from by rw [HCODE.out, HLK.out, if_neg (by omega), if_neg (by omega), if_neg (by rintro (h | h); exact h rfl; exact hmax h), if_neg hfull])
        have hCq : -9223372036854775808 ≤ L.C p ∧ L.C p < 9223372036854775807 := by omega
        have hrl : takeRows L.rows rp p rs = putRowAt ⟨rp, p, rs⟩ L.rows := HTC.out.2 HLK.out
        rw [hrl] at ho1 HO1
        have HE1 := Lib.hid HREC0.out
        rw [if_pos HNF.out] at HE1
        obtain ⟨va1, vc1, rfl⟩ := own_slice ho1
        generalize putRowAt ⟨rp, p, rs⟩ L.rows = rows2 at *
        clear hmax hfull hCp
        go_upto_region 10 with fail
        have c0 := HB1.out.box 0 _ rfl
        have bf0 := HB1.out.bf 0
        have HB2 := Lib.hid (HB1.out.set (cur' := { L with rv := .slice va1 rows2.length vc1 }) 0 (.slice va1 rows2.length vc1) rfl (by omega))
        have hS2 : Only (fun k => k = w.heap.size) w1 (w1.setCell ⟨w.heap.size, 0, none⟩ (.slice va1 rows2.length vc1)) := only_box (w := w) _
        have HS2 := Lib.hid hS2
        have HOP2 := Lib.hid (ownsRow_only HLO1.out.opn hS2 (fun g hg e => by have := (World.ownsRow.lt HO.out.opn g hg).2; omega))
        have hr : ∀ o u, (#[.int .i64 rp, .int .i64 rs, .int .i64 p, .string rkey, .int .u32 rval] : Array Value)[o]? = some u → (w1.setCell ⟨w.heap.size, 0, none⟩ (.slice va1 rows2.length vc1)).cell? ⟨w.heap.size + 1, o, none⟩ = some u := fun o u h => (cell_set_block _ (by omega)).trans (HXR1.out o u h)
        have r0 := hr 0 (.int .i64 rp) rfl
        have r1 := hr 1 (.int .i64 rs) rfl
        have r2 := hr 2 (.int .i64 p) rfl
        have r3 := hr 3 (.string rkey) rfl
        have r4 := hr 4 (.int .u32 rval) rfl
        clear hr hS2 ho1 c9 hcp hrl
        go_upto_region 11 with fail
        clear c0 bf0
        generalize hW1 : w1.setCell _ _ = W1 at *
        clear hW1
        have c9 := HB2.out.box 9 _ rfl
        simp only at c9
        rw [HV.out.2] at c9
        have hs2 := HS2.out.size
        have HLIT := Lib.hid (Rd.lit (w := W1) (cs := #[.int .i64 rp, .int .i64 rs, .int .i64 p, .string rkey, .int .u32 rval]) (e := 33) (n := 1) (sz := 5) rfl (by omega))
        have hal := below_alloc W1 (.cells #[.int .i64 rp, .int .i64 rs, .int .i64 p, .string rkey, .int .u32 rval] 33)
        have HOP3 := Lib.hid (ownsRow_below HOP2.out hal (Nat.le_refl _))
        rw [HV.out.2] at HOP3
        have HBA := Lib.hid (HB2.out.later hal)
        have HON := Lib.hid (HS2.out.trans (Only.of_below (S := fun _ => False) hal) (fun _ _ h => h.elim))
        have hbs : base ≤ (W1.alloc (.cells #[.int .i64 rp, .int .i64 rs, .int .i64 p, .string rkey, .int .u32 rval] 33)).heap.size := by have := hal.size; have := HBX1.out.size; omega
        clear hal
        have HOB := Lib.hid (fun k (e : (Value.slice oa L.opn.length oc).ownBlock = some k) => (World.ownsRow.lt HO.out.opn k (by rw [HV.out.2]; exact e)).2)
        have HRBX := Lib.hid ((below_alloc W1 (.cells #[.int .i64 rp, .int .i64 rs, .int .i64 p, .string rkey, .int .u32 rval] 33)))
        go_upto_region 12 with (at_builtin; go_loud (refine app_keep tyRecs HOP3.out HLIT.out (recs_one [⟨rp, rs, p, rkey, rval⟩]) (by omega) (by omega) (by omega) hbs rfl rfl rfl rfl ?_; intro g3 k3 w3 hm3 hk3 hg3 hw3; have hB3 := HBA.out.other (Only.of_grown hg3) (fun e => by have := HOB.out _ e; omega) (fun e => by have := HOB.out _ e; omega); have HB3 := Lib.hid hB3; have c9 := hB3.box 9 _ rfl; have bf9 := hB3.bf 9; have HM3 := Lib.hid hm3; have HG3 := Lib.hid hg3; have HW3 := Lib.hid hw3; clear hB3 hm3 hk3 hg3 hw3))
        have hB4 := HB3.out.set (cur' := { L with rv := .slice va1 rows2.length vc1, ov := .slice (some ⟨g3, 0, none⟩) (L.opn.length + 1) k3 }) 9 (.slice (some ⟨g3, 0, none⟩) (L.opn.length + 1) k3) rfl (by omega)
        have hON4 : Only (fun k => k = w.heap.size ∨ k = w.heap.size + 2 ∨ L.ov.ownBlock = some k) w1 (w3.setCell ⟨w.heap.size, 9, none⟩ (.slice (some ⟨g3, 0, none⟩) (L.opn.length + 1) k3)) :=
          (((HON.out.weak (fun _ _ h => .inl h)).trans (Only.of_grown HG3.out) (fun j _ h => .inr (.inr (by rw [HV.out.2]; exact h)))).setCell ⟨w.heap.size, 9, none⟩ _ (.inl (.inl rfl)))
        have hM4 : Only (fun k => k = w.heap.size ∨ k = w.heap.size + 2) w3 (w3.setCell ⟨w.heap.size, 9, none⟩ (.slice (some ⟨g3, 0, none⟩) (L.opn.length + 1) k3)) := (Only.refl _ _).setCell ⟨w.heap.size, 9, none⟩ _ (.inl (.inl rfl))
        have HB4 := Lib.hid hB4
        have HON4 := Lib.hid hON4
        have HM4 := Lib.hid hM4
        have q2 := hON4.cell (b := w.heap.size + 1) (o := 2) (fun e => by rcases e with e | e | e <;> first | omega | (have := HOB.out _ (by rw [← HV.out.2]; exact e); omega)) (HXR1.out 2 _ rfl)
        have hcp := hB4.box (1 + p) _ (cells_C _ p hp8)
        have bfp := hB4.bf (1 + p)
        simp only at hcp q2
        clear hB4 hON4 hM4 c9 bf9 r0 r1 r2 r3 r4
        generalize hW3 : w3.setCell _ _ = W3 at *
        clear hW3
        go_upto_region 13 with fail
        have hB5 := HB4.out.set (cur' := { L with rv := .slice va1 rows2.length vc1, C := L.bump p, ov := .slice (some ⟨g3, 0, none⟩) (L.opn.length + 1) k3 }) (1 + p) (.int .i64 (L.C p + 1)) (cells_bump { L with rv := .slice va1 rows2.length vc1, ov := .slice (some ⟨g3, 0, none⟩) (L.opn.length + 1) k3 } p hp8) (by omega)
        have HON5 := Lib.hid (HON4.out.setCell ⟨w.heap.size, 1 + p, none⟩ (.int .i64 (L.C p + 1)) (.inl (.inl rfl)))
        have HM5 := Lib.hid (HM4.out.setCell ⟨w.heap.size, 1 + p, none⟩ (.int .i64 (L.C p + 1)) (.inl (.inl rfl)))
        have HB5 := Lib.hid hB5
        have HRNG5 := Lib.hid hB5.box.range
        have HRES5 := Lib.hid hB5.res
        have H5L := Lib.hid (led_all { L with rv := .slice va1 rows2.length vc1, C := L.bump p, ov := .slice (some ⟨g3, 0, none⟩) (L.opn.length + 1) k3 } rfl rfl (own_one HO.out.bats) (own_one HO.out.ops))
        clear hB5 hcp bfp q2
        generalize hW5 : W3.setCell _ _ = W5 at *
        clear hW5
        go_wp2_with (first | (refine wpList_load_mid rfl 30 _ rfl w.heap.size 0 rfl (Led.cells { L with rv := .slice va1 rows2.length vc1, C := L.bump p, ov := .slice (some ⟨g3, 0, none⟩) (L.opn.length + 1) k3 }) _ HRNG5.out Try.underlying30 rfl (by show _ = some 16; kernel_rfl) ?_) | (refine wp_load_mid 30 _ rfl w.heap.size 0 rfl (Led.cells { L with rv := .slice va1 rows2.length vc1, C := L.bump p, ov := .slice (some ⟨g3, 0, none⟩) (L.opn.length + 1) k3 }) _ HRNG5.out Try.underlying30 rfl (by show _ = some 16; kernel_rfl) ?_) | (refine wpList_store_mid rfl 30 _ _ rfl (w.heap.size + 2) 0 (Led.cells { L with rv := .slice va1 rows2.length vc1, C := L.bump p, ov := .slice (some ⟨g3, 0, none⟩) (L.opn.length + 1) k3 }).toArray rfl rfl HRES5.out (by show _ = some 16; kernel_rfl) H5L.out ?_) | (refine wp_store_mid 30 _ _ rfl (w.heap.size + 2) 0 (Led.cells { L with rv := .slice va1 rows2.length vc1, C := L.bump p, ov := .slice (some ⟨g3, 0, none⟩) (L.opn.length + 1) k3 }).toArray rfl rfl HRES5.out (by show _ = some 16; kernel_rfl) H5L.out ?_))
        refine bodyPost_ret (v := .tuple #[.agg (Led.cells { L with rv := .slice va1 rows2.length vc1, C := L.bump p, ov := .slice (some ⟨g3, 0, none⟩) (L.opn.length + 1) k3 }).toArray, .bool true, .int .i64 0]) (results_cell3 Try.results30 rfl (resC_run HB5.out)) rfl ?_
        rw [HE1.out, HNF.out, HCD.out]
        have hall : Only (fun k => k = w.heap.size ∨ k = w.heap.size + 2 ∨ L.ov.ownBlock = some k) w1 (W5.setCells (w.heap.size + 2) 0 (Led.cells { L with rv := .slice va1 rows2.length vc1, C := L.bump p, ov := .slice (some ⟨g3, 0, none⟩) (L.opn.length + 1) k3 })) := HON5.out.trans (only_cells _ _ _ _) (fun j _ e => .inr (.inl e))
        have hm5 : Only (fun k => k = w.heap.size ∨ k = w.heap.size + 2) w3 (W5.setCells (w.heap.size + 2) 0 (Led.cells { L with rv := .slice va1 rows2.length vc1, C := L.bump p, ov := .slice (some ⟨g3, 0, none⟩) (L.opn.length + 1) k3 })) := HM5.out.trans (only_cells _ _ _ _) (fun j _ e => .inr e)
        have hlt : ∀ {e sz n v cs}, w.ownsRow base e sz v n cs → e ≠ 33 → ∀ g, v.ownBlock = some g → ¬ (g = w.heap.size ∨ g = w.heap.size + 2 ∨ L.ov.ownBlock = some g) := fun h hne g hg e => by
          have h1 := (World.ownsRow.lt h g hg).2
          have h2 := own_apart h HO.out.opn hne g hg
          rcases e with e | e | e <;> first | omega | exact h2 e
        have hXs := HBX.out.size
        have hX3 : w.heap.size + 3 ≤ X.heap.size := HXS.out
        have hg3 : g3 ≠ w.heap.size ∧ g3 ≠ w.heap.size + 2 := by
          rcases HW3.out with ⟨k, c, hk, -⟩ | h
          · have := HOB.out g3 (by rw [hk]; rfl)
            omega
          · have := HRBX.out.size
            have h5 := HS2.out.size
            omega
        refine ⟨.slice va1 rows2.length vc1, .slice (some ⟨g3, 0, none⟩) (L.opn.length + 1) k3, rfl, ⟨?_, ?_, ownsRow_only HLO1.out.bats hall (hlt HO.out.bats (by decide)), fun b hb => ownsRow_only (HLO1.out.recs b hb) hall (fun g hg e => ?_), fun b hb g hg => ?_, ownsRow_only HLO1.out.ops hall (hlt HO.out.ops (by decide)), fun o ho => ownsRow_only (HLO1.out.ins o ho) hall (hlt (HO.out.ins o ho) (by decide))⟩, ?_⟩
        · refine ownsRow_mono (ownsRow_only HO1.out hall (fun g hg e => ?_)) (by omega)
          have h1 := (World.ownsRow.lt HO1.out g hg).1
          rcases e with e | e | e
          · omega
          · omega
          · have := HOB.out g (by rw [← HV.out.2]; exact e)
            omega
        · have := ownsRow_only HM3.out hm5 (fun g hg e => by
            simp [Value.ownBlock] at hg
            subst hg
            omega)
          simpa [flatF_append, flatF_one, Rec.cells] using this
        · have h1 := (World.ownsRow.lt (HO.out.recs b hb) g hg).2
          rcases e with e | e | e
          · omega
          · omega
          · exact HO.out.apart b hb g e hg
        · simp [Value.ownBlock] at hg
          subst hg
          intro e
          rcases HW3.out with ⟨k, c, hk, -⟩ | h
          · exact HO.out.apart b hb g3 (by rw [HV.out.2, hk]; rfl) e
          · have h1 := (World.ownsRow.lt (HO.out.recs b hb) g3 e).2
            have := HRBX.out.size
            have h5 := HS2.out.size
            omega
        · exact (Only.of_below HBX1.out).trans hall (fun j hj e => by
            rcases e with e | e | e
            · omega
            · omega
            · exact e)
  · have HLK := Lib.hid hk
    rw [hk]
    clear hk
    have HE1 := Lib.hid (show RL = L from by rw [HREC0.out, if_neg (by rw [HTOOK.out, HLK.out]; simp)])
    have HE2 := Lib.hid (show RT = false from by rw [HTOOK.out, HLK.out]; simp)
    have HE3 := Lib.hid (show RC = 0 from by rw [HCODE.out, HLK.out]; simp)
    go_upto_region 3 with fail
    go_wp2_with (first | (refine wpList_load_mid rfl 30 _ rfl w.heap.size 0 rfl (Led.cells L) _ HRNG.out Try.underlying30 rfl (by show _ = some 16; kernel_rfl) ?_) | (refine wp_load_mid 30 _ rfl w.heap.size 0 rfl (Led.cells L) _ HRNG.out Try.underlying30 rfl (by show _ = some 16; kernel_rfl) ?_) | (refine wpList_store_mid rfl 30 _ _ rfl (w.heap.size + 2) 0 (Led.cells L).toArray rfl rfl HRES.out (by show _ = some 16; kernel_rfl) H1L.out ?_) | (refine wp_store_mid 30 _ _ rfl (w.heap.size + 2) 0 (Led.cells L).toArray rfl rfl HRES.out (by show _ = some 16; kernel_rfl) H1L.out ?_))
    refine bodyPost_ret (v := .tuple #[.agg L.cells.toArray, .bool false, .int .i64 0]) (results_cell3 Try.results30 rfl (resC_run HB1.out)) rfl ?_
    rw [HE1.out, HE2.out, HE3.out]
    exact ⟨L.rv, L.ov, rfl, HEND.out _ rfl⟩
  · have HLK := Lib.hid hk
    rw [hk]
    clear hk
    have HE1 := Lib.hid (show RL = L from by rw [HREC0.out, if_neg (by rw [HTOOK.out, HLK.out]; simp)])
    have HE2 := Lib.hid (show RT = false from by rw [HTOOK.out, HLK.out]; simp)
    have HE3 := Lib.hid (show RC = 11 from by rw [HCODE.out, HLK.out]; simp)
    go_upto_region 5 with fail
    go_wp2_with (first | (refine wpList_load_mid rfl 30 _ rfl w.heap.size 0 rfl (Led.cells L) _ HRNG.out Try.underlying30 rfl (by show _ = some 16; kernel_rfl) ?_) | (refine wp_load_mid 30 _ rfl w.heap.size 0 rfl (Led.cells L) _ HRNG.out Try.underlying30 rfl (by show _ = some 16; kernel_rfl) ?_) | (refine wpList_store_mid rfl 30 _ _ rfl (w.heap.size + 2) 0 (Led.cells L).toArray rfl rfl HRES.out (by show _ = some 16; kernel_rfl) H1L.out ?_) | (refine wp_store_mid 30 _ _ rfl (w.heap.size + 2) 0 (Led.cells L).toArray rfl rfl HRES.out (by show _ = some 16; kernel_rfl) H1L.out ?_))
    refine bodyPost_ret (v := .tuple #[.agg L.cells.toArray, .bool false, .int .i64 11]) (results_cell3 Try.results30 rfl (resC_run HB1.out)) rfl ?_
    rw [HE1.out, HE2.out, HE3.out]
    exact ⟨L.rv, L.ov, rfl, HEND.out _ rfl⟩
  · have HLK := Lib.hid hk
    rw [hk]
    clear hk
    have HE1 := Lib.hid (show RL = L from by rw [HREC0.out, if_neg (by rw [HTOOK.out, HLK.out]; simp)])
    have HE2 := Lib.hid (show RT = false from by rw [HTOOK.out, HLK.out]; simp)
    have HE3 := Lib.hid (show RC = 14 from by rw [HCODE.out, HLK.out]; simp)
    go_upto_region 7 with fail
    go_wp2_with (first | (refine wpList_load_mid rfl 30 _ rfl w.heap.size 0 rfl (Led.cells L) _ HRNG.out Try.underlying30 rfl (by show _ = some 16; kernel_rfl) ?_) | (refine wp_load_mid 30 _ rfl w.heap.size 0 rfl (Led.cells L) _ HRNG.out Try.underlying30 rfl (by show _ = some 16; kernel_rfl) ?_) | (refine wpList_store_mid rfl 30 _ _ rfl (w.heap.size + 2) 0 (Led.cells L).toArray rfl rfl HRES.out (by show _ = some 16; kernel_rfl) H1L.out ?_) | (refine wp_store_mid 30 _ _ rfl (w.heap.size + 2) 0 (Led.cells L).toArray rfl rfl HRES.out (by show _ = some 16; kernel_rfl) H1L.out ?_))
    refine bodyPost_ret (v := .tuple #[.agg L.cells.toArray, .bool false, .int .i64 14]) (results_cell3 Try.results30 rfl (resC_run HB1.out)) rfl ?_
    rw [HE1.out, HE2.out, HE3.out]
    exact ⟨L.rv, L.ov, rfl, HEND.out _ rfl⟩
end Go.Proofs.Ytkabfjbmofpkdaa

/- Layer 14: what an entry does to a ledger, as data; a ledger in form stays in form. -/
namespace Go.Proofs.Ytkabfjbmofpkdaa
open Go.RowKit

structure Ent where
  k : Int
  r : Rec
  gv : Value
  os : List Opr
  n : Int
def Ent.cells (E : Ent) : List Value := [.int .i64 E.k, .int .i64 E.r.p, .int .i64 E.r.s, .int .i64 E.r.q, .string E.r.key, .int .u32 E.r.val, E.gv, .int .i64 E.n]
def Ent.good (E : Ent) : Bool := goodEnt E.k E.r E.os E.n

def zeroL : Led := ⟨.slice none 0 0, [], fun _ => 0, .slice none 0 0, [], .slice none 0 0, [], 0, 0, false, .slice none 0 0, [], 0⟩
def Led.sealL (L : Led) : Led := { L with bats := L.bats ++ [⟨L.sealed, L.ov, L.opn⟩], ov := .slice none 0 0, opn := [], sealed := L.sealed + 1 }
def Led.decL (L : Led) : Led := { L with decided := L.decided + 1 }
def Led.keepL (L : Led) (n : Int) : Led := { L with keep := n }
def Led.dropL (L : Led) : Led := { L with bats := L.dropped }
def Led.graphL (L : Led) (gv : Value) (os : List Opr) : Led := { L with dep := true, gv := gv, ops := os }
/-- What an entry in form does to a ledger in form. -/
def stepL (L : Led) (E : Ent) : Led × Bool × Int :=
  if E.k = 1 then (L.recL E.r, L.recTook E.r, L.recCode E.r)
  else if E.k = 2 then (if L.dep = false ∨ E.n ≠ L.sealed then (L, false, 9) else if L.sealed = 9223372036854775807 then (L, false, 14) else if 64 ≤ L.sealed - L.decided then (L, false, 10) else (L.sealL, true, 0))
  else if E.k = 3 then (if L.dep = true then (L, false, 9) else if graphCode E.os ≠ 0 then (L, false, 13) else (L.graphL E.gv E.os, true, 0))
  else if E.k = 4 then (if E.n ≠ L.decided ∨ L.sealed ≤ L.decided then (L, false, 9) else (L.decL.dropL, true, 0))
  else if E.k = 5 then (if 64 < E.n then (L, false, 1) else ((L.keepL E.n).dropL, true, 0))
  else (L, false, 0)
def applyL (L : Led) (E : Ent) : Led × Bool × Int := if L.good = true ∧ E.good = true then stepL L E else (zeroL, false, 3)

/-! ### The same ledgers do the same -/
theorem map_at {α β : Type} {f : α → β} {xs ys : List α} (h : ys.map f = xs.map f) (i : Nat) : (ys[i]?).map f = (xs[i]?).map f := by rw [← List.getElem?_map, h, List.getElem?_map]
theorem SameL.blen {L M : Led} (h : SameL L M) : M.bats.length = L.bats.length := by have := congrArg List.length h.bats; simpa using this
theorem SameL.olen {L M : Led} (h : SameL L M) : M.ops.length = L.ops.length := by have := congrArg List.length h.ops; simpa using this
theorem flat_con (bs : List Bt) : bs.flatMap (·.recs) = (bs.map Bt.con).flatMap (·.2) := by
  induction bs with
  | nil => rfl
  | cons b bs ih => simp only [List.flatMap_cons, List.map_cons, ih]; rfl
theorem SameL.all {L M : Led} (h : SameL L M) : M.all = L.all := by
  unfold Led.all
  rw [h.opn, flat_con, flat_con, h.bats]
theorem right_con {o o' : Opr} (h : Opr.con o = Opr.con o') (i n : Nat) : o.right i n = o'.right i n := by
  obtain ⟨a, b, c, d, e, f, g, k⟩ := o
  obtain ⟨a', b', c', d', e', f', g', k'⟩ := o'
  simp only [Opr.con, Prod.mk.injEq] at h
  obtain ⟨rfl, rfl, rfl, rfl, rfl, rfl, rfl⟩ := h
  rfl
theorem checkOk_con {xs ys : List Opr} (h : ys.map Opr.con = xs.map Opr.con) : checkOk ys = checkOk xs := by
  have hl : ys.length = xs.length := by have := congrArg List.length h; simpa using this
  have hr : rightTo ys xs.length = rightTo xs xs.length := by
    unfold rightTo
    rw [hl]
    congr 1
    funext i
    have := map_at h i
    cases hy : ys[i]? <;> cases hx : xs[i]? <;> rw [hy, hx] at this <;> simp at this ⊢
    exact right_con this i _
  unfold checkOk
  rw [hl, hr]
theorem SameL.epochs {L M : Led} (h : SameL L M) (m : Nat) : epochsTo M m = epochsTo L m := by
  have hl := h.blen
  unfold epochsTo
  rw [hl, h.sealed]
  congr 1
  funext i
  have := map_at h.bats i
  cases hy : M.bats[i]? <;> cases hx : L.bats[i]? <;> rw [hy, hx] at this <;> simp at this ⊢
  rename_i b b'
  simp only [Bt.con, Prod.mk.injEq] at this
  rw [this.1, this.2]
theorem SameL.good {L M : Led} (h : SameL L M) : M.good = L.good := by
  unfold Led.good Led.frame countsTo
  rw [h.rows, h.opn, h.decided, h.sealed, h.keep, h.epochs, h.blen, h.dep, checkOk_con h.ops, h.olen, h.all, h.C]
theorem filter_con (bs : List Bt) (n : Int) : (bs.filter (stays n)).map Bt.con = (bs.map Bt.con).filter (fun c => decide (n ≤ c.1)) := by
  induction bs with
  | nil => rfl
  | cons b bs ih =>
    have e : stays n b = decide (n ≤ b.con.1) := rfl
    simp only [List.filter_cons, List.map_cons, e]
    split
    · simp [ih]
    · exact ih
theorem SameL.dropped {L M : Led} (h : SameL L M) : SameL L.dropL M.dropL :=
  ⟨h.rows, h.C, h.opn, by show M.dropped.map _ = L.dropped.map _; unfold Led.dropped; rw [filter_con, filter_con, h.bats, h.decided, h.keep], h.sealed, h.decided, h.dep, h.ops, h.keep⟩
theorem SameL.recd {L M : Led} (h : SameL L M) (r : Rec) : SameL (L.recL r) (M.recL r) ∧ M.recTook r = L.recTook r ∧ M.recCode r = L.recCode r := by
  have h1 : M.recTook r = L.recTook r := by unfold Led.recTook; rw [h.rows, h.C, h.opn]
  refine ⟨?_, h1, by unfold Led.recCode; rw [h.rows, h.C, h.opn]⟩
  unfold Led.recL
  rw [h1]
  split
  · exact ⟨by show putRowAt _ M.rows = putRowAt _ L.rows; rw [h.rows], by show M.bump _ = L.bump _; unfold Led.bump; rw [h.C], by show M.opn ++ _ = L.opn ++ _; rw [h.opn], h.bats, h.sealed, h.decided, h.dep, h.ops, h.keep⟩
  · exact h
theorem stepL_same {L M : Led} (h : SameL L M) (E : Ent) : SameL (stepL L E).1 (stepL M E).1 ∧ (stepL M E).2 = (stepL L E).2 := by
  unfold stepL
  rw [h.dep, h.sealed, h.decided]
  have hr := h.recd E.r
  split
  · exact ⟨hr.1, by rw [hr.2.1, hr.2.2]⟩
  split
  · split
    · exact ⟨h, rfl⟩
    split
    · exact ⟨h, rfl⟩
    split
    · exact ⟨h, rfl⟩
    · refine ⟨⟨h.rows, h.C, rfl, ?_, by show M.sealed + 1 = L.sealed + 1; rw [h.sealed], h.decided, h.dep, h.ops, h.keep⟩, rfl⟩
      show (M.bats ++ [_]).map _ = (L.bats ++ [_]).map _
      rw [List.map_append, List.map_append, h.bats]
      simp only [List.map_cons, List.map_nil, Bt.con, h.sealed, h.opn]
  split
  · split
    · exact ⟨h, rfl⟩
    split
    · exact ⟨h, rfl⟩
    · exact ⟨⟨h.rows, h.C, h.opn, h.bats, h.sealed, h.decided, rfl, rfl, h.keep⟩, rfl⟩
  split
  · split
    · exact ⟨h, rfl⟩
    · exact ⟨SameL.dropped (L := L.decL) (M := M.decL) ⟨h.rows, h.C, h.opn, h.bats, h.sealed, by show M.decided + 1 = L.decided + 1; rw [h.decided], h.dep, h.ops, h.keep⟩, rfl⟩
  split
  · split
    · exact ⟨h, rfl⟩
    · exact ⟨SameL.dropped (L := L.keepL E.n) (M := M.keepL E.n) ⟨h.rows, h.C, h.opn, h.bats, h.sealed, h.decided, h.dep, h.ops, rfl⟩, rfl⟩
  · exact ⟨h, rfl⟩
theorem applyL_same {L M : Led} (h : SameL L M) (E : Ent) : SameL (applyL L E).1 (applyL M E).1 ∧ (applyL M E).2 = (applyL L E).2 := by
  unfold applyL
  rw [h.good]
  split
  · exact stepL_same h E
  · exact ⟨SameL.refl _, rfl⟩

/-! ### In form -/
theorem epochs_at {L : Led} (h : epochsTo L L.bats.length = true) (i : Nat) (hi : i < L.bats.length) : L.bats[i].recs.length ≤ 512 ∧ L.bats[i].ep = L.sealed - L.bats.length + i := by
  have := List.all_eq_true.1 h i (by simp [hi])
  simp only [List.getElem?_eq_getElem hi, decide_eq_true_eq] at this
  exact this
theorem epochs_mk {L : Led} (h : ∀ i, ∀ hi : i < L.bats.length, L.bats[i].recs.length ≤ 512 ∧ L.bats[i].ep = L.sealed - L.bats.length + i) : epochsTo L L.bats.length = true := by
  refine List.all_eq_true.2 fun i hi => ?_
  have hi' : i < L.bats.length := by simpa using hi
  simp only [List.getElem?_eq_getElem hi', decide_eq_true_eq]
  exact h i hi'
theorem counts_at {L : Led} (h : countsTo L 8 = true) (p : Nat) (hp : p < 8) : (have_ L.all p : Int) ≤ L.C p := by
  have := List.all_eq_true.1 h p (by simp [hp])
  simpa using this
theorem counts_mk {L : Led} (h : ∀ p : Nat, p < 8 → (have_ L.all p : Int) ≤ L.C p) : countsTo L 8 = true := by
  refine List.all_eq_true.2 fun p hp => ?_
  have hp' : p < 8 := by simpa using hp
  simpa using h p hp'
theorem have_append (a b : List Rec) (q : Int) : have_ (a ++ b) q = have_ a q + have_ b q := by simp [have_, ofPart]
theorem good_rec {L : Led} (r : Rec) (h : L.good = true) (hr : goodRec r = true) (ht : L.recTook r = true) :
    Led.good { L with rows := putRowAt ⟨r.p, r.q, r.s⟩ L.rows, C := L.bump r.q.toNat, opn := L.opn ++ [r] } = true := by
  have hg := (good_iff L).1 h
  have htk := of_decide_eq_true ht
  have hT := (table_good L.rows).1 hg.1.1
  have hpq := goodRec_part hr
  have hs : 0 ≤ r.s := by unfold goodRec at hr; simp only [decide_eq_true_eq] at hr; omega
  have hall : Led.all { L with rows := putRowAt ⟨r.p, r.q, r.s⟩ L.rows, C := L.bump r.q.toNat, opn := L.opn ++ [r] } = L.all ++ [r] := by
    show L.bats.flatMap (·.recs) ++ (L.opn ++ [r]) = _
    rw [← List.append_assoc]; rfl
  refine (good_iff _).2 ⟨⟨(table_good _).2 (table_put hT _ _ _ (goodRec_right hr) hs), ?_, hg.1.2.2.1, hg.1.2.2.2.1, hg.1.2.2.2.2⟩, ?_, counts_mk fun p hp => ?_⟩
  · have := hg.1.2.1
    refine ⟨?_, this.2⟩
    show (L.opn ++ [r]).length ≤ 512
    rw [List.length_append]
    have := htk.2.2
    simp only [List.length_cons, List.length_nil]
    omega
  · rw [hall, List.all_append, hg.2.1]
    simp [hr]
  · rw [hall, have_append]
    have h1 := counts_at hg.2.2 p hp
    show _ ≤ L.bump r.q.toNat p
    unfold Led.bump
    by_cases e : r.q = p
    · have e2 : have_ [r] (p : Int) = 1 := by simp [have_, ofPart, e]
      rw [e2, if_pos (by omega)]
      omega
    · have e2 : have_ [r] (p : Int) = 0 := by simp [have_, ofPart, e]
      rw [e2, if_neg (by omega)]
      omega
theorem filter_rise : ∀ (bs : List Bt) (b T : Int), (∀ i, ∀ hi : i < bs.length, bs[i].ep = b + i) → bs.filter (stays T) = bs.drop (T - b).toNat
  | [], _, _, _ => by simp
  | x :: bs, b, T, h => by
    have h0 := h 0 (by simp)
    simp only [List.getElem_cons_zero] at h0
    have ih := filter_rise bs (b + 1) T (fun i hi => by
      have := h (i + 1) (by simp; omega)
      simp only [List.getElem_cons_succ] at this
      omega)
    rw [List.filter_cons]
    by_cases hx : T ≤ b
    · have e : stays T x = true := decide_eq_true (by omega)
      rw [if_pos e, ih]
      have e1 : (T - b).toNat = 0 := by omega
      have e2 : (T - (b + 1)).toNat = 0 := by omega
      rw [e1, e2]; simp
    · have e : stays T x = false := decide_eq_false (by omega)
      rw [if_neg (by simp [e]), ih]
      have e1 : (T - b).toNat = (T - (b + 1)).toNat + 1 := by omega
      rw [e1, List.drop_succ_cons]
/-- The batches that stay are those from a place on. -/
theorem dropped_eq {L : Led} (h : epochsTo L L.bats.length = true) : L.dropped = L.bats.drop (L.decided - L.keep - (L.sealed - L.bats.length)).toNat :=
  filter_rise _ _ _ (fun i hi => (epochs_at h i hi).2)
theorem have_sub {a b : List Rec} (h : a.Sublist b) (q : Int) : have_ a q ≤ have_ b q := (h.filter _).length_le
theorem flat_drop (bs : List Bt) (j : Nat) : ((bs.drop j).flatMap (·.recs)).Sublist (bs.flatMap (·.recs)) := by
  have e : bs.flatMap (·.recs) = (bs.take j).flatMap (·.recs) ++ (bs.drop j).flatMap (·.recs) := by rw [← List.flatMap_append, List.take_append_drop]
  rw [e]
  exact List.sublist_append_right _ _
theorem good_drop {L : Led} (h1 : goodRows L.rows = true) (h2 : L.opn.length ≤ 512 ∧ 0 ≤ L.decided ∧ L.decided ≤ L.sealed ∧ L.sealed - L.decided ≤ 64 ∧ 0 ≤ L.keep ∧ L.keep ≤ 64) (h3 : epochsTo L L.bats.length = true)
    (h4 : L.sealed - L.decided ≤ L.bats.length ∧ L.bats.length ≤ L.sealed) (h5 : if L.dep = true then checkOk L.ops = true else (L.ops.length = 0 ∧ L.sealed ≤ 0)) (h6 : L.all.all goodRec = true) (h7 : countsTo L 8 = true) : L.dropL.good = true := by
  obtain ⟨j, hj⟩ : ∃ j, j = (L.decided - L.keep - (L.sealed - L.bats.length)).toNat := ⟨_, rfl⟩
  have hd : L.dropL.bats = L.bats.drop j := by rw [hj]; exact dropped_eq h3
  have hsub : L.dropL.all.Sublist L.all := by
    unfold Led.all
    rw [hd]
    exact (flat_drop L.bats j).append_right L.opn
  have hlen : L.dropL.bats.length = L.bats.length - j := by rw [hd, List.length_drop]
  refine (good_iff _).2 ⟨⟨h1, h2, epochs_mk fun i hi => ?_, ?_, h5⟩, ?_, counts_mk fun p hp => ?_⟩
  · have hi' : j + i < L.bats.length := by omega
    have e : L.dropL.bats[i] = L.bats[j + i] := by
      have : L.dropL.bats[i]? = L.bats[j + i]? := by rw [hd, List.getElem?_drop]
      rw [List.getElem?_eq_getElem hi, List.getElem?_eq_getElem hi'] at this
      exact Option.some.inj this
    have := epochs_at h3 (j + i) hi'
    rw [e]
    refine ⟨this.1, ?_⟩
    rw [hlen]
    show _ = L.sealed - _ + _
    omega
  · show L.sealed - L.decided ≤ L.dropL.bats.length ∧ L.dropL.bats.length ≤ L.sealed
    omega
  · rw [List.all_eq_true] at h6 ⊢
    exact fun r hr => h6 r (hsub.subset hr)
  · have := counts_at h7 p hp
    have := have_sub hsub (p : Int)
    show _ ≤ L.C p
    omega
theorem good_seal {L : Led} (h : L.good = true) (hd : L.dep = true) (hlt : L.sealed - L.decided < 64) : L.sealL.good = true := by
  have hg := (good_iff L).1 h
  have hall : L.sealL.all = L.all := by
    show (L.bats ++ [Bt.mk L.sealed L.ov L.opn]).flatMap (fun b : Bt => b.recs) ++ [] = _
    rw [List.flatMap_append]
    simp [Led.all]
  have hb : L.sealL.bats = L.bats ++ [⟨L.sealed, L.ov, L.opn⟩] := rfl
  have hlen : L.sealL.bats.length = L.bats.length + 1 := by rw [hb]; simp
  have h2 := hg.1.2.1
  have h4 := hg.1.2.2.2.1
  refine (good_iff _).2 ⟨⟨hg.1.1, ?_, epochs_mk fun i hi => ?_, ?_, ?_⟩, by rw [hall]; exact hg.2.1, counts_mk fun p hp => by rw [hall]; exact counts_at hg.2.2 p hp⟩
  · show (0 : Nat) ≤ 512 ∧ 0 ≤ L.decided ∧ L.decided ≤ L.sealed + 1 ∧ L.sealed + 1 - L.decided ≤ 64 ∧ 0 ≤ L.keep ∧ L.keep ≤ 64
    omega
  · rw [hlen]
    by_cases e : i = L.bats.length
    · subst e
      have : L.sealL.bats[L.bats.length] = ⟨L.sealed, L.ov, L.opn⟩ := by
        have : L.sealL.bats[L.bats.length]? = some ⟨L.sealed, L.ov, L.opn⟩ := by rw [hb]; simp
        rw [List.getElem?_eq_getElem hi] at this
        exact Option.some.inj this
      rw [this]
      refine ⟨h2.1, ?_⟩
      show L.sealed = L.sealed + 1 - _ + _
      omega
    · have hi' : i < L.bats.length := by omega
      have : L.sealL.bats[i] = L.bats[i] := by
        have : L.sealL.bats[i]? = L.bats[i]? := by rw [hb, List.getElem?_append_left hi']
        rw [List.getElem?_eq_getElem hi, List.getElem?_eq_getElem hi'] at this
        exact Option.some.inj this
      rw [this]
      have hx := epochs_at hg.1.2.2.1 i hi'
      refine ⟨hx.1, ?_⟩
      show _ = L.sealed + 1 - _ + _
      omega
  · rw [hlen]
    show L.sealed + 1 - L.decided ≤ _ ∧ _ ≤ L.sealed + 1
    omega
  · have h5 := hg.1.2.2.2.2
    rw [if_pos hd] at h5
    show if L.dep = true then _ else _
    rw [if_pos hd]
    exact h5
theorem good_graph {L : Led} (gv : Value) (os : List Opr) (h : L.good = true) (hc : graphCode os = 0) : (L.graphL gv os).good = true := by
  have hg := (good_iff L).1 h
  refine (good_iff _).2 ⟨⟨hg.1.1, hg.1.2.1, hg.1.2.2.1, hg.1.2.2.2.1, ?_⟩, hg.2.1, hg.2.2⟩
  show if true = true then checkOk os = true else _
  rw [if_pos rfl]
  exact (graphCode_ok os).1 hc
theorem good_step {L : Led} {E : Ent} (h : L.good = true) (hE : E.good = true) : (stepL L E).1.good = true := by
  have hg := (good_iff L).1 h
  have h2 := hg.1.2.1
  have hr : E.k = 1 → goodRec E.r = true := fun _ => by
    have := (goodEnt_iff E.k E.r E.os E.n).1 hE
    exact this.2.2.2.2.2
  have hn : 0 ≤ E.n := ((goodEnt_iff E.k E.r E.os E.n).1 hE).1.2.2.1
  unfold stepL
  split
  · rename_i hk
    show (L.recL E.r).good = true
    unfold Led.recL
    split
    · rename_i ht
      exact good_rec E.r h (hr hk) ht
    · exact h
  split
  · split
    · exact h
    split
    · exact h
    split
    · exact h
    · rename_i h1 h3 h4
      refine good_seal h ?_ (by omega)
      cases hd : L.dep with
      | true => rfl
      | false => exact absurd (Or.inl hd) h1
  split
  · split
    · exact h
    split
    · exact h
    · rename_i h1 h3
      exact good_graph _ _ h (Decidable.not_not.1 h3)
  split
  · split
    · exact h
    · rename_i h1
      have h4 := hg.1.2.2.2.1
      refine good_drop (L := L.decL) hg.1.1 ?_ hg.1.2.2.1 ?_ hg.1.2.2.2.2 hg.2.1 hg.2.2
      · show L.opn.length ≤ 512 ∧ 0 ≤ L.decided + 1 ∧ L.decided + 1 ≤ L.sealed ∧ L.sealed - (L.decided + 1) ≤ 64 ∧ 0 ≤ L.keep ∧ L.keep ≤ 64
        omega
      · show L.sealed - (L.decided + 1) ≤ L.bats.length ∧ L.bats.length ≤ L.sealed
        omega
  split
  · split
    · exact h
    · refine good_drop (L := L.keepL E.n) hg.1.1 ?_ hg.1.2.2.1 hg.1.2.2.2.1 hg.1.2.2.2.2 hg.2.1 hg.2.2
      show L.opn.length ≤ 512 ∧ 0 ≤ L.decided ∧ L.decided ≤ L.sealed ∧ L.sealed - L.decided ≤ 64 ∧ 0 ≤ E.n ∧ E.n ≤ 64
      omega
  · exact h
theorem good_zero : zeroL.good = true := by decide
theorem good_apply (L : Led) (E : Ent) : (applyL L E).2.2 = 3 ∨ (applyL L E).1.good = true := by
  unfold applyL
  split
  · rename_i h
    exact .inr (good_step h.1 h.2)
  · exact .inl rfl
end Go.Proofs.Ytkabfjbmofpkdaa

/- Layer 14: what an entry does to a ledger, walked. -/
namespace Go.Proofs.Ytkabfjbmofpkdaa
open Go.RowKit Go.Shelf
set_option maxRecDepth 100000

def Ent.Ok (E : Ent) : Prop := I64 E.k ∧ E.r.ok ∧ I64 E.n ∧ ∀ o ∈ E.os, o.ok
structure Ent.Small (E : Ent) : Prop where
  os : E.os.length ≤ 1100000
  ins : ∀ o ∈ E.os, o.ins.length ≤ 1100000
/-- The box of an entry. -/
def BoxE (W : World) (b : Nat) (E : Ent) : Prop := ∀ j v, E.cells[j]? = some v → W.cell? ⟨b, j, none⟩ = some v
theorem BoxE.only {W W' : World} {b : Nat} {E : Ent} {T : Nat → Prop} (h : BoxE W b E) (ho : Only T W W') (hT : ¬ T b) : BoxE W' b E := fun j v hj => ho.cell hT (h j v hj)
theorem BoxE.later {W W' : World} {b : Nat} {E : Ent} (h : BoxE W b E) (hb : Below W.heap.size W W') : BoxE W' b E := fun j v hj => cell_later hb (h j v hj)
theorem BoxE.range {W : World} {b : Nat} {E : Ent} (h : BoxE W b E) : W.rangeAt b 0 E.cells := fun j v hv => by rw [Nat.zero_add]; exact h j v hv
theorem boxE_self (w : World) (E : Ent) (T : TypeId) : BoxE (w.alloc (.cells E.cells.toArray T)) w.heap.size E := fun j v h => box_self j v (by simpa using h)

theorem ledO_zero (w : World) (base : Nat) : LedO w base zeroL :=
  ⟨World.ownsRow_nil _ _ _ _, World.ownsRow_nil _ _ _ _, World.ownsRow_nil _ _ _ _, fun b hb => by simp [zeroL] at hb, fun b hb => by simp [zeroL] at hb, World.ownsRow_nil _ _ _ _, fun o ho => by simp [zeroL] at ho⟩

theorem resR_run {R : Nat} {W : World} {cur : Led} (h : W.there R 0 16) : (loadVar 30 ⟨R, 0, none⟩).run Try.prog (W.setCells R 0 cur.cells) = .ok (.agg cur.cells.toArray) (W.setCells R 0 cur.cells) :=
  run_loadVar_mid (P := Try.prog) _ R 0 30 cur.cells _ (World.rangeAt_setCells_same W R 0 cur.cells h) Try.underlying30 rfl (by show _ = some 16; kernel_rfl)
theorem BoxC.there {S R : Nat} {W : World} {cur : Led} (h : BoxC S R W cur) : W.there S 0 16 := fun j hj => by
  have hx : ∃ u, cur.cells[j]? = some u := ⟨_, List.getElem?_eq_getElem (by show j < 16; exact hj)⟩
  obtain ⟨u, hu⟩ := hx
  rw [Nat.zero_add]
  exact ⟨by rw [h.box j u hu]; rfl, h.bf j⟩
/-- Another ledger is laid in the box. -/
theorem BoxC.put {S R : Nat} {W : World} {cur : Led} (h : BoxC S R W cur) (M : Led) : BoxC S R (W.setCells S 0 M.cells) M := by
  have ho := only_cells W S M.cells 0
  have hr := World.rangeAt_setCells_same W S 0 M.cells h.there
  refine ⟨fun j v hj => by have := hr j v hj; rwa [Nat.zero_add] at this, fun j => ?_, fun j hj => ?_, Nat.lt_of_lt_of_le h.hS ho.size, Nat.lt_of_lt_of_le h.hR ho.size, h.ne⟩
  · rw [World.frozen?_setCells]; exact h.bf j
  · obtain ⟨e1, e2⟩ := h.res j hj
    refine ⟨?_, (ho.frozen h.hR h.ne).trans e2⟩
    obtain ⟨v, hv⟩ := Option.isSome_iff_exists.1 e1
    rw [ho.cell h.ne hv]; rfl
theorem LedO.off {w w' : World} {base : Nat} {L : Led} {T : Nat → Prop} (h : LedO w base L) (ho : Only T w w') (hT : ∀ g, base ≤ g → g < w.heap.size → ¬ T g) : LedO w' base L :=
  have k : ∀ {e sz n v cs}, w.ownsRow base e sz v n cs → ∀ g, v.ownBlock = some g → ¬ T g := fun hr g hg => hT g (World.ownsRow.lt hr g hg).1 (World.ownsRow.lt hr g hg).2
  h.only ho (k h.rows) (k h.opn) (k h.bats) (fun b hb => k (h.recs b hb)) (k h.ops) (fun o ho => k (h.ins o ho))
theorem ok_con {xs ys : List Opr} (h : ys.map Opr.con = xs.map Opr.con) (hx : ∀ o ∈ xs, o.ok) : ∀ o ∈ ys, o.ok := by
  intro o ho
  have h1 : Opr.con o ∈ xs.map Opr.con := by rw [← h]; exact List.mem_map_of_mem ho
  obtain ⟨o', ho', e⟩ := List.mem_map.1 h1
  have := hx o' ho'
  obtain ⟨a, b, c, d, e1, f, g, k⟩ := o
  obtain ⟨a', b', c', d', e1', f', g', k'⟩ := o'
  simp only [Opr.con, Prod.mk.injEq] at e
  obtain ⟨rfl, rfl, rfl, rfl, rfl, rfl, rfl⟩ := e
  exact this
theorem ins_con {xs ys : List Opr} {N : Nat} (h : ys.map Opr.con = xs.map Opr.con) (hx : ∀ o ∈ xs, o.ins.length ≤ N) : ∀ o ∈ ys, o.ins.length ≤ N := by
  intro o ho
  have h1 : Opr.con o ∈ xs.map Opr.con := by rw [← h]; exact List.mem_map_of_mem ho
  obtain ⟨o', ho', e⟩ := List.mem_map.1 h1
  have := hx o' ho'
  have e2 : o'.ins = o.ins := congrArg (fun x => x.2.1) e
  rwa [e2] at this
theorem SameL.mem {L M : Led} (h : SameL L M) {b : Bt} (hb : b ∈ M.bats) : ∃ b' ∈ L.bats, b'.ep = b.ep ∧ b'.recs = b.recs := by
  have h1 : Bt.con b ∈ L.bats.map Bt.con := by rw [← h.bats]; exact List.mem_map_of_mem hb
  obtain ⟨b', hb', e⟩ := List.mem_map.1 h1
  exact ⟨b', hb', congrArg (·.1) e, congrArg (·.2) e⟩
theorem SameL.ok {L M : Led} (h : SameL L M) (k : L.Ok) : M.Ok := by
  refine ⟨by rw [h.rows]; exact k.rows, by rw [h.C]; exact k.C, by rw [h.opn]; exact k.opn, fun b hb => ?_, by rw [h.sealed, h.decided, h.keep]; exact k.nums, ok_con h.ops k.ops⟩
  obtain ⟨b', hb', e1, e2⟩ := h.mem hb
  have := k.bats b' hb'
  rwa [e1, e2] at this
theorem SameL.small {L M : Led} (h : SameL L M) (k : L.Small) : M.Small := by
  refine ⟨by rw [h.rows]; exact k.rows, by rw [h.opn]; exact k.opn, by rw [h.blen]; exact k.bats, fun b hb => ?_, by rw [h.all]; exact k.all, by rw [h.olen]; exact k.ops, ins_con h.ops k.ins⟩
  obtain ⟨b', hb', -, e2⟩ := h.mem hb
  have := k.recs b' hb'
  rwa [e2] at this
theorem ledR_graph {w : World} {gv : Value} {os : List Opr} (h : OpsR w gv os) : LedR w { zeroL with gv := gv, ops := os } :=
  ⟨Rd.nil _ _, Rd.nil _ _, ⟨Rd.nil _ _, fun b hb => by simp [zeroL] at hb⟩, h⟩

end Go.Proofs.Ytkabfjbmofpkdaa
