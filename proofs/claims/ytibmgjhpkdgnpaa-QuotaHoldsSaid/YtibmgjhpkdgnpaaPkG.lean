/- Walks and plain laws of the chapter, laid together; each part says what it proves. -/
import Derived.Test.YtibmgjhpkdgnpaaPkD
import Derived.Test.YtibmgjhpkdgnpaaPkE
/- Layer 14: behind an entry the numbers of a ledger fit, and how much there is of it. -/
namespace Go.Proofs.Ytibmgjhpkdgnpaa
open Go.RowKit

/-- How much there is of a ledger, at most. -/
structure Led.Sz (L : Led) (n : Nat) : Prop where
  rows : L.rows.length ≤ n
  opn : L.opn.length ≤ n
  bats : L.bats.length ≤ n
  recs : ∀ b ∈ L.bats, b.recs.length ≤ n
  all : L.all.length ≤ n
  ops : L.ops.length ≤ n
  ins : ∀ o ∈ L.ops, o.ins.length ≤ n
theorem Led.Sz.small {L : Led} {n : Nat} (h : L.Sz n) (hn : n ≤ 1100000) : L.Small :=
  ⟨Nat.le_trans h.rows hn, Nat.le_trans h.opn hn, Nat.le_trans h.bats hn, fun b hb => Nat.le_trans (h.recs b hb) hn, Nat.le_trans h.all hn, Nat.le_trans h.ops hn, fun o ho => Nat.le_trans (h.ins o ho) hn⟩
theorem Led.Sz.mono {L : Led} {n m : Nat} (h : L.Sz n) (hn : n ≤ m) : L.Sz m :=
  ⟨Nat.le_trans h.rows hn, Nat.le_trans h.opn hn, Nat.le_trans h.bats hn, fun b hb => Nat.le_trans (h.recs b hb) hn, Nat.le_trans h.all hn, Nat.le_trans h.ops hn, fun o ho => Nat.le_trans (h.ins o ho) hn⟩
theorem SameL.sz {L M : Led} (h : SameL L M) {n : Nat} (k : L.Sz n) : M.Sz n := by
  refine ⟨by rw [h.rows]; exact k.rows, by rw [h.opn]; exact k.opn, by rw [h.blen]; exact k.bats, fun b hb => ?_, by rw [h.all]; exact k.all, by rw [h.olen]; exact k.ops, ins_con h.ops k.ins⟩
  obtain ⟨b', hb', -, e2⟩ := h.mem hb
  have := k.recs b' hb'
  rwa [e2] at this

theorem mem_putRow (row : Row) (rs : List Row) : ∀ r ∈ putRowAt row rs, r = row ∨ r ∈ rs := by
  induction rs with
  | nil => intro r hr; simp [putRowAt] at hr; exact .inl hr
  | cons x rs ih =>
    intro r hr
    unfold putRowAt at hr
    split at hr
    · rcases List.mem_cons.1 hr with h | h
      · exact .inr (by rw [h]; exact List.mem_cons_self)
      · rcases ih r h with h | h
        · exact .inl h
        · exact .inr (List.mem_cons_of_mem _ h)
    · split at hr
      · rcases List.mem_cons.1 hr with h | h
        · exact .inl h
        · exact .inr (List.mem_cons_of_mem _ h)
      · rcases List.mem_cons.1 hr with h | h
        · exact .inl h
        · exact .inr h
theorem putRowAt_len (row : Row) (rs : List Row) : (putRowAt row rs).length ≤ rs.length + 1 := by
  induction rs with
  | nil => simp [putRowAt]
  | cons x rs ih =>
    unfold putRowAt
    split
    · simp only [List.length_cons]; omega
    · split <;> simp

theorem zeroL_ok' : zeroL.Ok := by
  refine ⟨fun r hr => by simp [zeroL] at hr, fun i hi => by unfold I64 zeroL; simp, fun r hr => by simp [zeroL] at hr, fun b hb => by simp [zeroL] at hb, by unfold I64 zeroL; decide, fun o ho => by simp [zeroL] at ho⟩
theorem zeroL_sz : zeroL.Sz 0 :=
  ⟨Nat.le_refl _, Nat.le_refl _, Nat.le_refl _, fun b hb => by simp [zeroL] at hb, Nat.le_refl _, Nat.le_refl _, fun o ho => by simp [zeroL] at ho⟩
theorem Led.Ok.dropL {L : Led} (h : L.Ok) : L.dropL.Ok := ⟨h.rows, h.C, h.opn, fun b hb => h.bats b (List.mem_filter.1 hb).1, h.nums, h.ops⟩
theorem Led.Sz.dropL {L : Led} {n : Nat} (h : L.Sz n) : L.dropL.Sz n := by
  refine ⟨h.rows, h.opn, Nat.le_trans (List.length_filter_le _ _) h.bats, fun b hb => h.recs b (List.mem_filter.1 hb).1, ?_, h.ops, h.ins⟩
  have hs : ((L.bats.filter (stays (L.decided - L.keep))).flatMap (·.recs)).length ≤ (L.bats.flatMap (·.recs)).length := by
    generalize L.bats = bs
    induction bs with
    | nil => simp
    | cons b bs ih =>
      rw [List.filter_cons]
      split
      · simp only [List.flatMap_cons, List.length_append]; omega
      · simp only [List.flatMap_cons, List.length_append]; omega
  have ha := h.all
  unfold Led.all at ha ⊢
  rw [List.length_append] at ha ⊢
  show ((L.bats.filter (stays (L.decided - L.keep))).flatMap (·.recs)).length + L.opn.length ≤ n
  omega
theorem apply_ok (L : Led) (E : Ent) (hok : L.Ok) (hek : E.Ok) : (applyL L E).1.Ok := by
  unfold applyL
  split
  · rename_i hg
    obtain ⟨hgL, hgE⟩ := hg
    have hg := (good_iff L).1 hgL
    unfold stepL
    split
    · show (L.recL E.r).Ok
      unfold Led.recL
      split
      · rename_i ht
        have htk := of_decide_eq_true ht
        refine ⟨fun r hr => ?_, fun i hi => ?_, fun r hr => ?_, hok.bats, hok.nums, hok.ops⟩
        · rcases mem_putRow _ _ r hr with rfl | h
          · exact ⟨hek.2.1.1, hek.2.1.2.2.1, hek.2.1.2.1⟩
          · exact hok.rows r h
        · show I64 (L.bump E.r.q.toNat i)
          unfold Led.bump
          have := hok.C i hi
          unfold I64 at this ⊢
          split
          · rename_i e
            have := htk.2.1
            rw [← e] at this
            omega
          · exact this
        · rcases List.mem_append.1 hr with h | h
          · exact hok.opn r h
          · obtain rfl : r = E.r := by simpa using h
            exact hek.2.1
      · exact hok
    split
    · split
      · exact hok
      split
      · exact hok
      split
      · exact hok
      · rename_i h1 h2 h3
        refine ⟨hok.rows, hok.C, fun r hr => (by cases hr), fun b hb => ?_, ⟨?_, hok.nums.2⟩, hok.ops⟩
        · rcases List.mem_append.1 hb with h | h
          · exact hok.bats b h
          · obtain rfl : b = (⟨L.sealed, L.ov, L.opn⟩ : Bt) := by simpa using h
            exact ⟨hok.nums.1, hok.opn⟩
        · have := hok.nums.1
          show I64 (L.sealed + 1)
          unfold I64 at this ⊢
          omega
    split
    · split
      · exact hok
      split
      · exact hok
      · exact ⟨hok.rows, hok.C, hok.opn, hok.bats, hok.nums, hek.2.2.2⟩
    split
    · split
      · exact hok
      · rename_i h1
        refine Led.Ok.dropL (L := L.decL) ⟨hok.rows, hok.C, hok.opn, hok.bats, ⟨hok.nums.1, ?_, hok.nums.2.2⟩, hok.ops⟩
        have a1 := hok.nums.1
        have a2 := hok.nums.2.1
        show I64 (L.decided + 1)
        unfold I64 at *
        omega
    split
    · split
      · exact hok
      · exact Led.Ok.dropL (L := L.keepL E.n) ⟨hok.rows, hok.C, hok.opn, hok.bats, ⟨hok.nums.1, hok.nums.2.1, hek.2.2.1⟩, hok.ops⟩
    · exact hok
  · exact zeroL_ok'
theorem apply_sz (L : Led) (E : Ent) {n : Nat} (h : L.Sz n) : (applyL L E).1.Sz (n + 16) := by
  have h' := h.mono (show n ≤ n + 16 by omega)
  unfold applyL
  split
  · rename_i hg
    obtain ⟨hgL, hgE⟩ := hg
    unfold stepL
    split
    · show (L.recL E.r).Sz _
      unfold Led.recL
      split
      · refine ⟨?_, ?_, h'.bats, h'.recs, ?_, h'.ops, h'.ins⟩
        · have := putRowAt_len ⟨E.r.p, E.r.q, E.r.s⟩ L.rows
          have := h.rows
          show (putRowAt _ L.rows).length ≤ _
          omega
        · have := h.opn
          show (L.opn ++ [E.r]).length ≤ _
          simp only [List.length_append, List.length_cons, List.length_nil]; omega
        · have ha := h.all
          unfold Led.all at ha ⊢
          show (L.bats.flatMap (·.recs) ++ (L.opn ++ [E.r])).length ≤ _
          simp only [List.length_append, List.length_cons, List.length_nil] at ha ⊢; omega
      · exact h'
    split
    · split
      · exact h'
      split
      · exact h'
      split
      · exact h'
      · refine ⟨h'.rows, Nat.zero_le _, ?_, fun b hb => ?_, ?_, h'.ops, h'.ins⟩
        · have := h.bats
          show (L.bats ++ [_]).length ≤ _
          simp only [List.length_append, List.length_cons, List.length_nil]; omega
        · rcases List.mem_append.1 hb with k | k
          · exact h'.recs b k
          · obtain rfl : b = (⟨L.sealed, L.ov, L.opn⟩ : Bt) := by simpa using k
            exact h'.opn
        · have ha := h'.all
          unfold Led.all at ha ⊢
          show ((L.bats ++ [(⟨L.sealed, L.ov, L.opn⟩ : Bt)]).flatMap (fun b : Bt => b.recs) ++ []).length ≤ _
          rw [List.flatMap_append]
          simpa using ha
    split
    · split
      · exact h'
      split
      · exact h'
      · have hgd := (goodEnt_iff E.k E.r E.os E.n).1 hgE
        refine ⟨h'.rows, h'.opn, h'.bats, h'.recs, h'.all, ?_, fun o ho => ?_⟩
        · have := hgd.1
          show E.os.length ≤ _
          omega
        · have hi : insOk E.os = true := by
            have := hgE
            unfold Ent.good goodEnt at this
            simp only [Bool.and_eq_true] at this
            exact this.1.2
          have := List.all_eq_true.1 hi o ho
          simp only [decide_eq_true_eq] at this
          omega
    split
    · split
      · exact h'
      · exact Led.Sz.dropL (L := L.decL) ⟨h'.rows, h'.opn, h'.bats, h'.recs, h'.all, h'.ops, h'.ins⟩
    split
    · split
      · exact h'
      · exact Led.Sz.dropL (L := L.keepL E.n) ⟨h'.rows, h'.opn, h'.bats, h'.recs, h'.all, h'.ops, h'.ins⟩
    · exact h'
  · exact zeroL_sz.mono (by omega)
end Go.Proofs.Ytibmgjhpkdgnpaa

/- Layer 14: the chapter's example, walked. -/
namespace Go.Proofs.Ytibmgjhpkdgnpaa
open Go.RowKit Go.Shelf
set_option maxRecDepth 100000

def exRec : Rec := ⟨0, 0, 2, ⟨#[97]⟩, 1⟩
def exE1 : Ent := ⟨1, exRec, .slice none 0 0, [], 0⟩
def exE2 : Ent := ⟨2, ⟨0, 0, 0, ⟨#[]⟩, 0⟩, .slice none 0 0, [], 0⟩
def exL : Led := { zeroL with rows := [⟨0, 2, 0⟩], C := zeroL.bump 2, opn := [exRec] }
theorem exE1_good : exE1.good = true := by decide
theorem exE2_good : exE2.good = true := by decide
theorem exL_good : exL.good = true := by decide
theorem ex_apply1 : applyL zeroL exE1 = (exL, true, 0) := by
  unfold applyL
  rw [if_pos ⟨good_zero, exE1_good⟩]
  rfl
theorem ex_apply2 : (applyL exL exE2).2 = (false, 9) := by
  unfold applyL
  rw [if_pos ⟨exL_good, exE2_good⟩]
  rfl
theorem exL_ok : exL.Ok := by
  refine ⟨fun r hr => ?_, fun i hi => ?_, fun r hr => ?_, fun b hb => by simp [exL, zeroL] at hb, by unfold I64 exL zeroL; decide, fun o ho => by simp [exL, zeroL] at ho⟩
  · simp only [exL, List.mem_singleton] at hr; subst hr; unfold Row.ok I64; decide
  · show I64 (if i = 2 then zeroL.C i + 1 else zeroL.C i)
    unfold I64 zeroL
    split <;> simp
  · simp only [exL, List.mem_singleton] at hr; subst hr; unfold Rec.ok I64 exRec; decide
theorem exL_small : exL.Small := by
  refine ⟨by decide, by decide, by decide, fun b hb => by simp [exL, zeroL] at hb, by decide, by decide, fun o ho => by simp [exL, zeroL] at ho⟩
theorem zeroL_ok : zeroL.Ok := by
  refine ⟨fun r hr => by simp [zeroL] at hr, fun i hi => by unfold I64 zeroL; simp, fun r hr => by simp [zeroL] at hr, fun b hb => by simp [zeroL] at hb, by unfold I64 zeroL; decide, fun o ho => by simp [zeroL] at ho⟩
theorem zeroL_small : zeroL.Small := by
  refine ⟨by decide, by decide, by decide, fun b hb => by simp [zeroL] at hb, by decide, by decide, fun o ho => by simp [zeroL] at ho⟩
theorem ent_none_ok (E : Ent) (h1 : I64 E.k ∧ E.r.ok ∧ I64 E.n) (h2 : E.os = []) : E.Ok ∧ E.Small :=
  ⟨⟨h1.1, h1.2.1, h1.2.2, fun o ho => by rw [h2] at ho; cases ho⟩, ⟨by rw [h2]; simp, fun o ho => by rw [h2] at ho; cases ho⟩⟩
theorem exE1_ok : exE1.Ok ∧ exE1.Small := ent_none_ok _ (by simp [I64, exE1, exRec, Rec.ok, ByteArray.size]) rfl
theorem exE2_ok : exE2.Ok ∧ exE2.Small := ent_none_ok _ (by simp [I64, exE2, Rec.ok, ByteArray.size]) rfl
theorem opsR_nil (w : World) : OpsR w (.slice none 0 0) [] := ⟨Rd.nil _ _, fun o ho => by cases ho⟩

/-- A struct loaded whole, guarded or not. -/
theorem list_loadk {P : Program} {ops : Array Oper} {rest : List Oper} {o : Oper} {a : Act} {Q : Exit → Act → World → Prop} {w : World} {t : TypeId} {x : Operand} {b off : Nat} {cs : List Value} {d : TypeDesc}
    (hgd : Region.wanted o (yielded ops a.tmps) = true) (hop : o.op = .load t x) (hx : a.eval x = .pointer (some ⟨b, off, none⟩)) (hu : P.underlying t = some d) (hd : d.isRow = true) (hi : (P.info? t).map (·.size) = some cs.length) (hc : w.rangeAt b off cs)
    (h : wpList P ops Q rest (a.put o.dst (.agg cs.toArray)) w) : wpList P ops Q (o :: rest) a w := by
  refine list_value hgd ?_ h
  unfold execOp
  simp only [hop, hx, Instr.loadAt, Instr.sureAddr, Sem.run_bind, Sem.run_pure, Result.andThen_ok, run_loadVar_mid w b off t cs d hc hu hd hi]
theorem there_new (w : World) : (w.alloc (.cells zero16 30)).there w.heap.size 0 16 := fun j hj => by
  refine ⟨?_, World.frozen?_alloc_at _ _ _ _ rfl⟩
  rw [World.cell?_alloc_at _ _ _ _ rfl]
  show (zero16[0 + j]?).isSome = true
  rw [Nat.zero_add]
  have : j < zero16.size := hj
  rw [Array.getElem?_eq_getElem this]; rfl
theorem box_new (w : World) (M : Led) : BoxL ((w.alloc (.cells zero16 30)).setCells w.heap.size 0 M.cells) w.heap.size M ∧ Below w.heap.size w ((w.alloc (.cells zero16 30)).setCells w.heap.size 0 M.cells) := by
  have hr := World.rangeAt_setCells_same (w.alloc (.cells zero16 30)) w.heap.size 0 M.cells (there_new w)
  refine ⟨fun j v hj => by have := hr j v hj; rwa [Nat.zero_add] at this, (below_alloc w _).trans ((only_cells _ _ _ _).below (by simp) (fun j hj e => by omega))⟩

end Go.Proofs.Ytibmgjhpkdgnpaa
