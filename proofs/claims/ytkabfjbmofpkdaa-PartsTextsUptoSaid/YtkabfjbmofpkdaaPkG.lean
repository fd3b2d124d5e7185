/- Walks and plain laws of the chapter, laid together; each part says what it proves. -/
import Derived.ChangeKeysEq
import Derived.Test.YtkabfjbmofpkdaaPkB
import Derived.Test.YtkabfjbmofpkdaaPkD
import Derived.Test.YtkabfjbmofpkdaaPkE
/- Layer 14: behind an entry the numbers of a ledger fit, and how much there is of it. -/
namespace Go.Proofs.Ytkabfjbmofpkdaa
open Go.RowKit

/-- How much there is of a ledger, at most. -/
structure Led.Sz (L : Led) (n : Nat) : Prop where
  rows : L.rows.length ≤ n
  opn : L.opn.length ≤ n
  bats : L.bats.length ≤ n
  recs : ∀ b ∈ L.bats, b.recs.length ≤ n
  all : L.all.length ≤ n
  ops : L.ops.length ≤ n
  ins : ∀ o ∈ L.ops, o.ins.length ≤ n
theorem Led.Sz.small {L : Led} {n : Nat} (h : L.Sz n) (hn : n ≤ 1100000) : L.Small :=
  ⟨Nat.le_trans h.rows hn, Nat.le_trans h.opn hn, Nat.le_trans h.bats hn, fun b hb => Nat.le_trans (h.recs b hb) hn, Nat.le_trans h.all hn, Nat.le_trans h.ops hn, fun o ho => Nat.le_trans (h.ins o ho) hn⟩
theorem Led.Sz.mono {L : Led} {n m : Nat} (h : L.Sz n) (hn : n ≤ m) : L.Sz m :=
  ⟨Nat.le_trans h.rows hn, Nat.le_trans h.opn hn, Nat.le_trans h.bats hn, fun b hb => Nat.le_trans (h.recs b hb) hn, Nat.le_trans h.all hn, Nat.le_trans h.ops hn, fun o ho => Nat.le_trans (h.ins o ho) hn⟩
theorem SameL.sz {L M : Led} (h : SameL L M) {n : Nat} (k : L.Sz n) : M.Sz n := by
  refine ⟨by rw [h.rows]; exact k.rows, by rw [h.opn]; exact k.opn, by rw [h.blen]; exact k.bats, fun b hb => ?_, by rw [h.all]; exact k.all, by rw [h.olen]; exact k.ops, ins_con h.ops k.ins⟩
  obtain ⟨b', hb', -, e2⟩ := h.mem hb
  have := k.recs b' hb'
  rwa [e2] at this

theorem mem_putRow (row : Row) (rs : List Row) : ∀ r ∈ putRowAt row rs, r = row ∨ r ∈ rs := by
  induction rs with
  | nil => intro r hr; simp [putRowAt] at hr; exact .inl hr
  | cons x rs ih =>
    intro r hr
    unfold putRowAt at hr
    split at hr
    · rcases List.mem_cons.1 hr with h | h
      · exact .inr (by rw [h]; exact List.mem_cons_self)
      · rcases ih r h with h | h
        · exact .inl h
        · exact .inr (List.mem_cons_of_mem _ h)
    · split at hr
      · rcases List.mem_cons.1 hr with h | h
        · exact .inl h
        · exact .inr (List.mem_cons_of_mem _ h)
      · rcases List.mem_cons.1 hr with h | h
        · exact .inl h
        · exact .inr h
theorem putRowAt_len (row : Row) (rs : List Row) : (putRowAt row rs).length ≤ rs.length + 1 := by
  induction rs with
  | nil => simp [putRowAt]
  | cons x rs ih =>
    unfold putRowAt
    split
    · simp only [List.length_cons]; omega
    · split <;> simp

theorem zeroL_ok' : zeroL.Ok := by
  refine ⟨fun r hr => by simp [zeroL] at hr, fun i hi => by unfold I64 zeroL; simp, fun r hr => by simp [zeroL] at hr, fun b hb => by simp [zeroL] at hb, by unfold I64 zeroL; decide, fun o ho => by simp [zeroL] at ho⟩
theorem zeroL_sz : zeroL.Sz 0 :=
  ⟨Nat.le_refl _, Nat.le_refl _, Nat.le_refl _, fun b hb => by simp [zeroL] at hb, Nat.le_refl _, Nat.le_refl _, fun o ho => by simp [zeroL] at ho⟩
theorem Led.Ok.dropL {L : Led} (h : L.Ok) : L.dropL.Ok := ⟨h.rows, h.C, h.opn, fun b hb => h.bats b (List.mem_filter.1 hb).1, h.nums, h.ops⟩
theorem Led.Sz.dropL {L : Led} {n : Nat} (h : L.Sz n) : L.dropL.Sz n := by
  refine ⟨h.rows, h.opn, Nat.le_trans (List.length_filter_le _ _) h.bats, fun b hb => h.recs b (List.mem_filter.1 hb).1, ?_, h.ops, h.ins⟩
  have hs : ((L.bats.filter (stays (L.decided - L.keep))).flatMap (·.recs)).length ≤ (L.bats.flatMap (·.recs)).length := by
    generalize L.bats = bs
    induction bs with
    | nil => simp
    | cons b bs ih =>
      rw [List.filter_cons]
      split
      · simp only [List.flatMap_cons, List.length_append]; omega
      · simp only [List.flatMap_cons, List.length_append]; omega
  have ha := h.all
  unfold Led.all at ha ⊢
  rw [List.length_append] at ha ⊢
  show ((L.bats.filter (stays (L.decided - L.keep))).flatMap (·.recs)).length + L.opn.length ≤ n
  omega
theorem apply_ok (L : Led) (E : Ent) (hok : L.Ok) (hek : E.Ok) : (applyL L E).1.Ok := by
  unfold applyL
  split
  · rename_i hg
    obtain ⟨hgL, hgE⟩ := hg
    have hg := (good_iff L).1 hgL
    unfold stepL
    split
    · show (L.recL E.r).Ok
      unfold Led.recL
      split
      · rename_i ht
        have htk := of_decide_eq_true ht
        refine ⟨fun r hr => ?_, fun i hi => ?_, fun r hr => ?_, hok.bats, hok.nums, hok.ops⟩
        · rcases mem_putRow _ _ r hr with rfl | h
          · exact ⟨hek.2.1.1, hek.2.1.2.2.1, hek.2.1.2.1⟩
          · exact hok.rows r h
        · show I64 (L.bump E.r.q.toNat i)
          unfold Led.bump
          have := hok.C i hi
          unfold I64 at this ⊢
          split
          · rename_i e
            have := htk.2.1
            rw [← e] at this
            omega
          · exact this
        · rcases List.mem_append.1 hr with h | h
          · exact hok.opn r h
          · obtain rfl : r = E.r := by simpa using h
            exact hek.2.1
      · exact hok
    split
    · split
      · exact hok
      split
      · exact hok
      split
      · exact hok
      · rename_i h1 h2 h3
        refine ⟨hok.rows, hok.C, fun r hr => (by cases hr), fun b hb => ?_, ⟨?_, hok.nums.2⟩, hok.ops⟩
        · rcases List.mem_append.1 hb with h | h
          · exact hok.bats b h
          · obtain rfl : b = (⟨L.sealed, L.ov, L.opn⟩ : Bt) := by simpa using h
            exact ⟨hok.nums.1, hok.opn⟩
        · have := hok.nums.1
          show I64 (L.sealed + 1)
          unfold I64 at this ⊢
          omega
    split
    · split
      · exact hok
      split
      · exact hok
      · exact ⟨hok.rows, hok.C, hok.opn, hok.bats, hok.nums, hek.2.2.2⟩
    split
    · split
      · exact hok
      · rename_i h1
        refine Led.Ok.dropL (L := L.decL) ⟨hok.rows, hok.C, hok.opn, hok.bats, ⟨hok.nums.1, ?_, hok.nums.2.2⟩, hok.ops⟩
        have a1 := hok.nums.1
        have a2 := hok.nums.2.1
        show I64 (L.decided + 1)
        unfold I64 at *
        omega
    split
    · split
      · exact hok
      · exact Led.Ok.dropL (L := L.keepL E.n) ⟨hok.rows, hok.C, hok.opn, hok.bats, ⟨hok.nums.1, hok.nums.2.1, hek.2.2.1⟩, hok.ops⟩
    · exact hok
  · exact zeroL_ok'
theorem apply_sz (L : Led) (E : Ent) {n : Nat} (h : L.Sz n) : (applyL L E).1.Sz (n + 16) := by
  have h' := h.mono (show n ≤ n + 16 by omega)
  unfold applyL
  split
  · rename_i hg
    obtain ⟨hgL, hgE⟩ := hg
    unfold stepL
    split
    · show (L.recL E.r).Sz _
      unfold Led.recL
      split
      · refine ⟨?_, ?_, h'.bats, h'.recs, ?_, h'.ops, h'.ins⟩
        · have := putRowAt_len ⟨E.r.p, E.r.q, E.r.s⟩ L.rows
          have := h.rows
          show (putRowAt _ L.rows).length ≤ _
          omega
        · have := h.opn
          show (L.opn ++ [E.r]).length ≤ _
          simp only [List.length_append, List.length_cons, List.length_nil]; omega
        · have ha := h.all
          unfold Led.all at ha ⊢
          show (L.bats.flatMap (·.recs) ++ (L.opn ++ [E.r])).length ≤ _
          simp only [List.length_append, List.length_cons, List.length_nil] at ha ⊢; omega
      · exact h'
    split
    · split
      · exact h'
      split
      · exact h'
      split
      · exact h'
      · refine ⟨h'.rows, Nat.zero_le _, ?_, fun b hb => ?_, ?_, h'.ops, h'.ins⟩
        · have := h.bats
          show (L.bats ++ [_]).length ≤ _
          simp only [List.length_append, List.length_cons, List.length_nil]; omega
        · rcases List.mem_append.1 hb with k | k
          · exact h'.recs b k
          · obtain rfl : b = (⟨L.sealed, L.ov, L.opn⟩ : Bt) := by simpa using k
            exact h'.opn
        · have ha := h'.all
          unfold Led.all at ha ⊢
          show ((L.bats ++ [(⟨L.sealed, L.ov, L.opn⟩ : Bt)]).flatMap (fun b : Bt => b.recs) ++ []).length ≤ _
          rw [List.flatMap_append]
          simpa using ha
    split
    · split
      · exact h'
      split
      · exact h'
      · have hgd := (goodEnt_iff E.k E.r E.os E.n).1 hgE
        refine ⟨h'.rows, h'.opn, h'.bats, h'.recs, h'.all, ?_, fun o ho => ?_⟩
        · have := hgd.1
          show E.os.length ≤ _
          omega
        · have hi : insOk E.os = true := by
            have := hgE
            unfold Ent.good goodEnt at this
            simp only [Bool.and_eq_true] at this
            exact this.1.2
          have := List.all_eq_true.1 hi o ho
          simp only [decide_eq_true_eq] at this
          omega
    split
    · split
      · exact h'
      · exact Led.Sz.dropL (L := L.decL) ⟨h'.rows, h'.opn, h'.bats, h'.recs, h'.all, h'.ops, h'.ins⟩
    split
    · split
      · exact h'
      · exact Led.Sz.dropL (L := L.keepL E.n) ⟨h'.rows, h'.opn, h'.bats, h'.recs, h'.all, h'.ops, h'.ins⟩
    · exact h'
  · exact zeroL_sz.mono (by omega)
end Go.Proofs.Ytkabfjbmofpkdaa

/- Layers 9, 14: the same records, the same graphs, in the document's text, walked. -/
namespace Go.Proofs.Ytkabfjbmofpkdaa
open Go.RowKit Go.Shelf
set_option maxRecDepth 100000

set_option maxHeartbeats 1000000 in
theorem sameRec_calls (r : Rec) (w : World) :
    Calls Try.prog 44 #[.agg #[.int .i64 r.p, .int .i64 r.s, .int .i64 r.q, .string r.key, .int .u32 r.val], .agg #[.int .i64 r.p, .int .i64 r.s, .int .i64 r.q, .string r.key, .int .u32 r.val]] w fun e w' => e = .returned (.bool true) ∧ Below w.heap.size w w' := by
  obtain ⟨p, s, q, key, val⟩ := r
  have hb := below_box (below_alloc w (.cells #[.int .i64 p, .int .i64 s, .int .i64 q, .string key, .int .u32 val] 33)) (.cells #[.int .i64 p, .int .i64 s, .int .i64 q, .string key, .int .u32 val] 33)
  have HB := Lib.hid hb
  clear hb
  go_enter Try.func44, Try.ntmps44
  go_wp2_with fail
  go_ret
  exact ⟨rfl, HB.out⟩

set_option maxHeartbeats 2000000 in
theorem sameRecs_calls (u v : Value) (rs : List Rec) (w : World) (hu : Recs w u rs) (hv : Recs w v rs) :
    Calls Try.prog 21 #[u, v] w fun e w' => e = .returned (.bool true) ∧ Below w.heap.size w w' := by
  have HU := Lib.hid hu
  have HV := Lib.hid hv
  obtain ⟨a, cap, rfl, hle, hcap⟩ := Rd.slice hu
  obtain ⟨a', cap', rfl, hle', hcap'⟩ := Rd.slice hv
  clear hu hv
  go_enter Try.func21, Try.ntmps21
  go_wp2_with fail
  go_loopw [5] (fun i wr => ∃ k : Nat, k ≤ rs.length ∧ i = .int .i64 k ∧ Below w.heap.size w wr) (fun i _ => rs.length - (intOf i).toNat)
  case atStart => exact ⟨0, by omega, rfl, Below.refl _ _⟩
  case round =>
    obtain ⟨k, hk, rfl, hb⟩ := hrel
    have HB := Lib.hid hb
    by_cases hlt : k < rs.length
    · obtain ⟨b, o, rfl, c0, c1, c2, c3, c4⟩ := rec_at (HU.out.below hb (Nat.le_refl _)) k hlt
      obtain ⟨b', o', rfl, d0, d1, d2, d3, d4⟩ := rec_at (HV.out.below hb (Nat.le_refl _)) k hlt
      clear hb
      generalize rs[k] = R at *
      have hi1 : decide ((rs.length : Int) ≤ (k : Int)) = false := decide_eq_false (by omega)
      have hi2 : decide (rs.length ≤ k) = false := decide_eq_false (by omega)
      go_wp2_with fail
      refine region_m [(0, false), (1, false), (2, false), (3, false), (4, false), (5, false), (6, false), (7, false), (8, true), (9, false)] 10 (fun V => V.cell? ⟨b, o + k * 5, none⟩ = some (.int .i64 R.p) ∧ V.cell? ⟨b, o + k * 5 + 1, none⟩ = some (.int .i64 R.s) ∧ V.cell? ⟨b, o + k * 5 + 2, none⟩ = some (.int .i64 R.q) ∧ V.cell? ⟨b, o + k * 5 + 3, none⟩ = some (.string R.key) ∧ V.cell? ⟨b, o + k * 5 + 4, none⟩ = some (.int .u32 R.val) ∧
        V.cell? ⟨b', o' + k * 5, none⟩ = some (.int .i64 R.p) ∧ V.cell? ⟨b', o' + k * 5 + 1, none⟩ = some (.int .i64 R.s) ∧ V.cell? ⟨b', o' + k * 5 + 2, none⟩ = some (.int .i64 R.q) ∧ V.cell? ⟨b', o' + k * 5 + 3, none⟩ = some (.string R.key) ∧ V.cell? ⟨b', o' + k * 5 + 4, none⟩ = some (.int .u32 R.val)) (by kernel_rfl) (by kernel_rfl) ⟨c0, c1, c2, c3, c4, d0, d1, d2, d3, d4⟩ ?_
      iterate 8
        first
        | (refine m_take (v := ?_) rfl rfl ?_ ?_
           rotate_left
           · intro W hW
             go_simp
             with_reducible rfl
           simp only [Act.put, List.setIfInBounds_toArray, List.set_cons_zero, List.set_cons_succ])
        | (refine m_skip rfl rfl ?_
           simp only [Act.put, List.setIfInBounds_toArray, List.set_cons_zero, List.set_cons_succ])
      refine m_loud rfl (fun K hK => ?_)
      have HK := Lib.hid hK
      clear hK
      go_simp
      refine (sameRec_calls R _).mono ?_
      rintro e w5 ⟨rfl, hb5⟩
      have hb5 : Below wr.heap.size wr w5 := (Below.refl wr.heap.size wr).drew.trans hb5
      have HB5 := Lib.hid (below_go HB.out hb5)
      refine HK.out _ _ ⟨cell_later hb5 c0, cell_later hb5 c1, cell_later hb5 c2, cell_later hb5 c3, cell_later hb5 c4, cell_later hb5 d0, cell_later hb5 d1, cell_later hb5 d2, cell_later hb5 d3, cell_later hb5 d4⟩ ?_
      clear HK
      clear hb5 c0 c1 c2 c3 c4 d0 d1 d2 d3 d4
      iterate 1
        first
        | (refine m_take (v := ?_) rfl rfl ?_ ?_
           rotate_left
           · intro W hW
             go_simp
             with_reducible rfl
           simp only [Act.put, List.setIfInBounds_toArray, List.set_cons_zero, List.set_cons_succ])
        | (refine m_skip rfl rfl ?_
           simp only [Act.put, List.setIfInBounds_toArray, List.set_cons_zero, List.set_cons_succ])
      refine m_done ?_
      simp only [List.drop_succ_cons, List.drop_zero]
      go_wp2_with fail
      simp only [NP]
      go_wp2_with fail
      go_roundw
      case rel => exact ⟨k + 1, by omega, by go_num, HB5.out⟩
      case measure => simp [intOf]; omega
    · obtain rfl : k = rs.length := by omega
      clear hb
      go_wp2_with fail
      go_ret
      exact ⟨rfl, HB.out⟩

set_option maxHeartbeats 4000000 in
theorem sameGraph_calls (gu gv : Value) (xs ys : List Opr) (w : World) (hu : OpsR w gu xs) (hv : OpsR w gv ys) (hs : ys.map Opr.con = xs.map Opr.con) :
    Calls Try.prog 18 #[.agg #[gu], .agg #[gv]] w fun e w' => e = .returned (.bool true) ∧ Below w.heap.size w w' := by
  have hl : ys.length = xs.length := by have := congrArg List.length hs; simpa using this
  have hat : ∀ k, ∀ h1 : k < xs.length, ∀ h2 : k < ys.length, ys[k].con = xs[k].con := fun k h1 h2 => by
    have : (ys.map Opr.con)[k]? = (xs.map Opr.con)[k]? := by rw [hs]
    rw [List.getElem?_map, List.getElem?_map, List.getElem?_eq_getElem h1, List.getElem?_eq_getElem h2] at this
    exact Option.some.inj this
  have HAT := Lib.hid hat
  obtain ⟨ga, gc, rfl, hgc, hgc2⟩ := hu.row.slice
  obtain ⟨ha, hc, rfl, hhc, hhc2⟩ := hv.row.slice
  rw [hl] at hhc
  obtain ⟨n, hn⟩ : ∃ n, n = xs.length := ⟨_, rfl⟩
  obtain ⟨X, hX⟩ : ∃ X, X = (w.alloc (.cells #[.slice ga n gc] 28)).alloc (.cells #[.slice ha n hc] 28) := ⟨_, rfl⟩
  have hbX : Below w.heap.size w X := by rw [hX]; exact below_box (below_alloc _ _) _
  have x0 : X.cell? ⟨w.heap.size, 0, none⟩ = some (.slice ga n gc) := by rw [hX]; exact cell_later (below_alloc _ _) (box_self _ _ rfl)
  have x1 : X.cell? ⟨w.heap.size + 1, 0, none⟩ = some (.slice ha n hc) := by
    rw [hX]
    have := box_self (w := w.alloc (.cells #[.slice ga n gc] 28)) (cs := #[.slice ha n hc]) (e := 28) 0 _ rfl
    rwa [World.size_alloc] at this
  have HU := Lib.hid (hu.below hbX (Nat.le_refl _))
  have HV := Lib.hid (hv.below hbX (Nat.le_refl _))
  have HBX := Lib.hid hbX
  have HX := Lib.hid hX
  have HL := Lib.hid (And.intro hl hn.symm)
  have hyn : ys.length = n := by omega
  have hxn : xs.length = n := hn.symm
  rw [hxn] at hgc hhc ⊢
  rw [hyn]
  clear hX hbX hu hv hat hs hl hn hyn hxn
  go_enter Try.func18, Try.ntmps18
  go_wp2_with fail
  rw [← HX.out]
  go_loopw [5, 6, 7, 8] (fun iv _ _ _ wr => ∃ k : Nat, k ≤ n ∧ iv = .int .i64 k ∧ Below X.heap.size X wr) (fun iv _ _ _ _ => n - (intOf iv).toNat)
  case atStart => exact ⟨0, by omega, rfl, Below.refl _ _⟩
  case round =>
    obtain ⟨k, hk, rfl, hb⟩ := hrel
    have HB := Lib.hid hb
    have x0' := cell_later hb x0
    have x1' := cell_later hb x1
    have hws : w.heap.size + 1 < wr.heap.size := World.block_lt_of_cell? wr _ x1'
    by_cases hlt : k < n
    · have h1 : k < xs.length := by have := HL.out; omega
      have h2 : k < ys.length := by have := HL.out; omega
      have hxr := HU.out.below hb (Nat.le_refl _)
      have hyr := HV.out.below hb (Nat.le_refl _)
      have hln : xs.length = n := HL.out.2
      have hlm : ys.length = n := HL.out.1.trans hln
      rw [hln] at hxr
      rw [hlm] at hyr
      obtain ⟨b, o, rfl, c0, c1, c2, c3, c4, c5, c6⟩ := op_at hxr k h1
      obtain ⟨b', o', rfl, d0, d1, d2, d3, d4, d5, d6⟩ := op_at hyr k h2
      have hi1 := hxr.ins xs[k] (List.getElem_mem _)
      have hi2 := hyr.ins ys[k] (List.getElem_mem _)
      have hcon := HAT.out k h1 h2
      clear hxr hyr hb hln hlm
      generalize xs[k] = A at *
      generalize ys[k] = B at *
      obtain ⟨kind, iv, ins, arg, num, rounds, test, lim⟩ := A
      obtain ⟨kind', iv', ins', arg', num', rounds', test', lim'⟩ := B
      simp only [Opr.con, Prod.mk.injEq] at hcon
      obtain ⟨rfl, rfl, rfl, rfl, rfl, rfl, rfl⟩ := hcon
      simp only at c0 c1 c2 c3 c4 c5 c6 d0 d1 d2 d3 d4 d5 d6 hi1 hi2
      obtain ⟨ia, ic, rfl, hic, hic2⟩ := hi1.slice
      obtain ⟨ja, jc, rfl, hjc, hjc2⟩ := hi2.slice
      obtain ⟨Y, hY⟩ : ∃ Y, Y = (wr.alloc (.cells #[.int .i64 kind', .slice ia ins'.length ic, .int .i64 arg', .int .u32 num', .int .i64 rounds', .int .i64 test', .int .u32 lim'] 90)).alloc (.cells #[.int .i64 kind', .slice ja ins'.length jc, .int .i64 arg', .int .u32 num', .int .i64 rounds', .int .i64 test', .int .u32 lim'] 90) := ⟨_, rfl⟩
      have hbY : Below wr.heap.size wr Y := by rw [hY]; exact below_box (below_alloc _ _) _
      have b1 : Y.cell? ⟨wr.heap.size, 1, none⟩ = some (.slice ia ins'.length ic) := by rw [hY]; exact cell_later (below_alloc _ _) (box_self _ _ rfl)
      have b2 : Y.cell? ⟨wr.heap.size + 1, 1, none⟩ = some (.slice ja ins'.length jc) := by
        rw [hY]
        have := box_self (w := wr.alloc (.cells #[.int .i64 kind', .slice ia ins'.length ic, .int .i64 arg', .int .u32 num', .int .i64 rounds', .int .i64 test', .int .u32 lim'] 90)) (cs := #[.int .i64 kind', .slice ja ins'.length jc, .int .i64 arg', .int .u32 num', .int .i64 rounds', .int .i64 test', .int .u32 lim']) (e := 90) 1 _ rfl
        rwa [World.size_alloc] at this
      have HY := Lib.hid hY
      have HBY := Lib.hid hbY
      have HI1 := Lib.hid (Rd.below hi1 hbY (Nat.le_refl _))
      have HI2 := Lib.hid (Rd.below hi2 hbY (Nat.le_refl _))
      have HBC := Lib.hid (And.intro b1 b2)
      have hlb : b' < wr.heap.size := World.block_lt_of_cell? wr _ d0
      clear hY hbY hi1 hi2 b1 b2
      go_upto_region 11 with fail
      clear c0 c1 c2 c3 c4 c5 c6 d0 d1 d2 d3 d4 d5 d6
      rw [← HY.out]
      generalize wr = wo at *
      go_loopw [8] (fun mv wq => ∃ m : Nat, m ≤ ins'.length ∧ mv = .int .i64 m ∧ Below Y.heap.size Y wq) (fun mv _ => ins'.length - (intOf mv).toNat)
      case atStart => exact ⟨0, by omega, rfl, Below.refl _ _⟩
      case round =>
        obtain ⟨m, hm, rfl, hbq⟩ := hrel
        have HBQ := Lib.hid hbq
        have y1 := cell_later hbq HBC.out.1
        have y2 := cell_later hbq HBC.out.2
        by_cases hlm : m < ins'.length
        · obtain ⟨p1, q1, rfl, e1⟩ := int_at (Rd.below HI1.out hbq (Nat.le_refl _)) m hlm
          obtain ⟨p2, q2, rfl, e2⟩ := int_at (Rd.below HI2.out hbq (Nat.le_refl _)) m hlm
          clear hbq
          generalize ins'[m] = I at *
          have hj1 : decide ((ins'.length : Int) ≤ (m : Int)) = false := decide_eq_false (by omega)
          have hj2 : decide (ins'.length ≤ m) = false := decide_eq_false (by omega)
          go_wp2_with fail
          refine region_m [(0, false), (1, false), (2, false), (3, false), (4, false), (5, false), (6, false), (7, false), (8, false), (9, false), (10, false)] 11 (fun V => V.cell? ⟨wo.heap.size, 1, none⟩ = some (.slice (some ⟨p1, q1, none⟩) ins'.length ic) ∧ V.cell? ⟨wo.heap.size + 1, 1, none⟩ = some (.slice (some ⟨p2, q2, none⟩) ins'.length jc) ∧ V.cell? ⟨p1, q1 + m, none⟩ = some (.int .i64 I) ∧ V.cell? ⟨p2, q2 + m, none⟩ = some (.int .i64 I)) (by kernel_rfl) (by kernel_rfl) ⟨y1, y2, e1, e2⟩ ?_
          iterate 11
            first
            | (refine m_take (v := ?_) rfl rfl ?_ ?_
               rotate_left
               · intro W hW
                 go_simp
                 with_reducible rfl
               simp only [Act.put, List.setIfInBounds_toArray, List.set_cons_zero, List.set_cons_succ])
            | (refine m_skip rfl rfl ?_
               simp only [Act.put, List.setIfInBounds_toArray, List.set_cons_zero, List.set_cons_succ])
          refine m_done ?_
          simp only [List.drop_succ_cons, List.drop_zero]
          go_wp2_with fail
          simp only [NP]
          go_wp2_with fail
          go_roundw
          case rel => exact ⟨m + 1, by omega, by go_num, HBQ.out.drew⟩
          case measure => simp [intOf]; omega
        · obtain rfl : m = ins'.length := by omega
          clear hbq
          go_wp2_with fail
          go_roundw
          case rel => exact ⟨k + 1, by omega, by go_num, HB.out.trans ((below_go HBY.out HBQ.out).mono HB.out.size)⟩
          case measure => simp [intOf]; omega
    · obtain rfl : k = n := by omega
      clear hb
      go_wp2_with fail
      go_ret
      exact ⟨rfl, below_go HBX.out HB.out⟩
end Go.Proofs.Ytkabfjbmofpkdaa

/- Layer 14: the same ledgers, in the document's text, walked. -/
namespace Go.Proofs.Ytkabfjbmofpkdaa
open Go.RowKit Go.Shelf
set_option maxRecDepth 100000

theorem run_eq_cnt (C : Nat → Int) (w : World) : (Op.equalIn 10000 23 (.agg #[.int .i64 (C 0), .int .i64 (C 1), .int .i64 (C 2), .int .i64 (C 3), .int .i64 (C 4), .int .i64 (C 5), .int .i64 (C 6), .int .i64 (C 7)]) (.agg #[.int .i64 (C 0), .int .i64 (C 1), .int .i64 (C 2), .int .i64 (C 3), .int .i64 (C 4), .int .i64 (C 5), .int .i64 (C 6), .int .i64 (C 7)])).run Try.prog w = .ok true w := by
  have hu : Try.prog.underlying 23 = some (.array 8 3) := by kernel_rfl
  obtain ⟨i, hi⟩ := info_of_underlying (P := Try.prog) (t := 3) (d := .int .i64) (by kernel_rfl)
  have hc : Try.prog.cellsOf 3 = 1 := by kernel_rfl
  have hi2 := fun (w : World) (a : Int) => run_equalIn_int (P := Try.prog) w 9998 3 .i64 .i64 a a (by kernel_rfl)
  have hp : ∀ {xs : Array Value} {off : Nat} {v : Value} (w : World), xs[off]? = some v → (part 3 xs off).run Try.prog w = .ok v w := fun w h => run_part_plain w (by kernel_rfl) h
  rw [run_equalIn_array w 9999 _ _ hu hi]
  rw [hc]
  have hr : List.range 8 = [0, 1, 2, 3, 4, 5, 6, 7] := rfl
  rw [hr]
  have step : ∀ (xs : Array Value) (k : Nat) (r : List Nat) (a : Int) (w : World), xs[k]? = some (.int .i64 a) → (Op.eqItems 9999 3 1 xs xs r).run Try.prog w = .ok true w → (Op.eqItems 9999 3 1 xs xs (k :: r)).run Try.prog w = .ok true w := by
    intro xs k r a w h h2
    simp only [Op.eqItems, Sem.run_bind, Nat.mul_one, hp w h, Result.andThen_ok, hi2, beq_self_eq_true]
    simpa using h2
  iterate 8 refine step _ _ _ _ _ rfl ?_
  simp [Op.eqItems]

set_option maxHeartbeats 4000000 in
theorem same14_calls (L M : Led) (w : World) (hL : LedR w L) (hM : LedR w M) (hs : SameL L M) :
    Calls Try.prog 15 #[.agg L.cells.toArray, .agg M.cells.toArray] w fun e w' => e = .returned (.bool true) ∧ Below w.heap.size w w' := by
  obtain ⟨X, hX⟩ : ∃ X, X = (w.alloc (.cells L.cells.toArray 30)).alloc (.cells M.cells.toArray 30) := ⟨_, rfl⟩
  have hbX : Below w.heap.size w X := by rw [hX]; exact below_box (below_alloc _ _) _
  have hBL : BoxL X w.heap.size L := by rw [hX]; exact (boxL_self w L 30).later (below_alloc _ _)
  have hBM : BoxL X (w.heap.size + 1) M := by
    rw [hX]
    have := boxL_self (w.alloc (.cells L.cells.toArray 30)) M 30
    rwa [World.size_alloc] at this
  have HBL := Lib.hid hBL
  have HBM := Lib.hid hBM
  have HL := Lib.hid (hL.below hbX (Nat.le_refl _))
  have HM := Lib.hid (hM.below hbX (Nat.le_refl _))
  have HS := Lib.hid hs
  have HBX := Lib.hid hbX
  have HX := Lib.hid hX
  obtain ⟨ra, rc, hrv, -⟩ := Rd.slice hL.rows
  obtain ⟨oa, oc, hov, -⟩ := Rd.slice hL.opn
  obtain ⟨ba, bc, hbv, hbc1, hbc2⟩ := hL.bats.row.slice
  obtain ⟨ga, gc, hgv, -⟩ := hL.ops.row.slice
  obtain ⟨ra', rc', hrv', -⟩ := Rd.slice hM.rows
  obtain ⟨oa', oc', hov', -⟩ := Rd.slice hM.opn
  obtain ⟨ba', bc', hbv', -⟩ := hM.bats.row.slice
  obtain ⟨ga', gc', hgv', -⟩ := hM.ops.row.slice
  rw [hs.rows] at hrv'
  rw [hs.opn] at hov'
  rw [hs.blen] at hbv'
  rw [hs.olen] at hgv'
  have HVL := Lib.hid (And.intro hrv (And.intro hov (And.intro hbv hgv)))
  have HVM := Lib.hid (And.intro hrv' (And.intro hov' (And.intro hbv' hgv')))
  have c1 := hBL 1 _ rfl
  have c2 := hBL 2 _ rfl
  have c3 := hBL 3 _ rfl
  have c4 := hBL 4 _ rfl
  have c5 := hBL 5 _ rfl
  have c6 := hBL 6 _ rfl
  have c7 := hBL 7 _ rfl
  have c8 := hBL 8 _ rfl
  have c10 := hBL 10 _ rfl
  have c11 := hBL 11 _ rfl
  have c12 := hBL 12 _ rfl
  have c13 := hBL 13 _ rfl
  have c15 := hBL 15 _ rfl
  have d1 := hBM 1 _ rfl
  have d2 := hBM 2 _ rfl
  have d3 := hBM 3 _ rfl
  have d4 := hBM 4 _ rfl
  have d5 := hBM 5 _ rfl
  have d6 := hBM 6 _ rfl
  have d7 := hBM 7 _ rfl
  have d8 := hBM 8 _ rfl
  have d10 := hBM 10 _ rfl
  have d11 := hBM 11 _ rfl
  have d12 := hBM 12 _ rfl
  have d13 := hBM 13 _ rfl
  have d15 := hBM 15 _ rfl
  rw [hs.C] at d1 d2 d3 d4 d5 d6 d7 d8
  rw [hs.sealed] at d11
  rw [hs.decided] at d12
  rw [hs.dep] at d13
  rw [hs.keep] at d15
  rw [hbv] at c10
  rw [hbv'] at d10
  clear hX hbX hBL hBM hL hM hs hrv hov hbv hgv hrv' hov' hbv' hgv'
  go_enter Try.func15, Try.ntmps15
  go_upto_region 1 with fail
  rw [← HX.out]
  have heq := run_eq_cnt L.C
  go_upto_region 4 with fail
  clear heq c1 c2 c3 c4 c5 c6 c7 c8 c11 c12 c13 c15 d1 d2 d3 d4 d5 d6 d7 d8 d11 d12 d13 d15
  obtain ⟨n, hn⟩ : ∃ n, n = L.bats.length := ⟨_, rfl⟩
  have HN := Lib.hid hn
  have hnb : n ≤ 9223372036854775807 := by omega
  clear hbc1 hbc2
  rw [← hn] at c10 d10 ⊢
  clear hn
  go_loopw [5] (fun i wr => ∃ k : Nat, k ≤ n ∧ i = .int .i64 k ∧ Below X.heap.size X wr) (fun i _ => n - (intOf i).toNat)
  case atStart => exact ⟨0, by omega, rfl, Below.refl _ _⟩
  case round =>
    obtain ⟨k, hk, rfl, hb⟩ := hrel
    have HB := Lib.hid hb
    have x10 := cell_later hb c10
    have y10 := cell_later hb d10
    by_cases hlt : k < n
    · have h1 : k < L.bats.length := by have := HN.out; omega
      have h2 : k < M.bats.length := by rw [HS.out.blen]; exact h1
      have hxr := (HL.out.below hb (Nat.le_refl _)).bats
      have hyr := (HM.out.below hb (Nat.le_refl _)).bats
      rw [HVL.out.2.2.1, ← HN.out] at hxr
      rw [HVM.out.2.2.1, ← HN.out] at hyr
      obtain ⟨b, o, rfl, e0, e1⟩ := bt_at hxr k h1
      obtain ⟨b', o', rfl, f0, f1⟩ := bt_at hyr k h2
      have hi1 := hxr.recs L.bats[k] (List.getElem_mem _)
      have hi2 := hyr.recs M.bats[k] (List.getElem_mem _)
      have hcon : Bt.con M.bats[k] = Bt.con L.bats[k] := by
        have := map_at HS.out.bats k
        rw [List.getElem?_eq_getElem h1, List.getElem?_eq_getElem h2] at this
        exact Option.some.inj this
      clear hxr hyr hb
      generalize L.bats[k] = A at *
      generalize M.bats[k] = B at *
      obtain ⟨ep, rv, recs⟩ := A
      obtain ⟨ep', rv', recs'⟩ := B
      simp only [Bt.con, Prod.mk.injEq] at hcon
      obtain ⟨rfl, rfl⟩ := hcon
      simp only at e0 e1 f0 f1 hi1 hi2
      obtain ⟨ia, ic, rfl, hic, hic2⟩ := Rd.slice hi1
      obtain ⟨ja, jc, rfl, hjc, hjc2⟩ := Rd.slice hi2
      have HI1 := Lib.hid hi1
      have HI2 := Lib.hid hi2
      have hj1 : decide ((n : Int) ≤ (k : Int)) = false := decide_eq_false (by omega)
      have hj2 : decide (n ≤ k) = false := decide_eq_false (by omega)
      clear hi1 hi2
      go_wp2_with fail
      refine region_m [(0, false), (1, false), (2, false), (3, false), (4, false), (5, false), (6, false), (7, false), (8, false), (9, false), (10, false), (11, false), (12, false), (13, false), (14, false), (15, false), (16, false), (17, false), (18, false), (19, false), (20, false), (21, false), (22, false), (23, false), (24, false), (25, false), (26, true), (27, false), (28, false)] 29 (fun V => V.cell? ⟨w.heap.size, 10, none⟩ = some (.slice (some ⟨b, o, none⟩) n bc) ∧ V.cell? ⟨w.heap.size + 1, 10, none⟩ = some (.slice (some ⟨b', o', none⟩) n bc') ∧ V.cell? ⟨b, o + k * 2, none⟩ = some (.int .i64 ep') ∧ V.cell? ⟨b, o + k * 2 + 1, none⟩ = some (.slice ia recs'.length ic) ∧ V.cell? ⟨b', o' + k * 2, none⟩ = some (.int .i64 ep') ∧ V.cell? ⟨b', o' + k * 2 + 1, none⟩ = some (.slice ja recs'.length jc)) (by kernel_rfl) (by kernel_rfl) ⟨x10, y10, e0, e1, f0, f1⟩ ?_
      iterate 26
        first
        | (refine m_take (v := ?_) rfl rfl ?_ ?_
           rotate_left
           · intro W hW
             go_simp
             with_reducible rfl
           simp only [Act.put, List.setIfInBounds_toArray, List.set_cons_zero, List.set_cons_succ])
        | (refine m_skip rfl rfl ?_
           simp only [Act.put, List.setIfInBounds_toArray, List.set_cons_zero, List.set_cons_succ])
      refine m_loud rfl (fun K hK => ?_)
      have HK := Lib.hid hK
      clear hK
      go_simp
      have hdr := (Below.refl wr.heap.size wr).drew
      refine (sameRecs_calls _ _ recs' _ (Rd.below HI1.out hdr (Nat.le_refl _)) (Rd.below HI2.out hdr (Nat.le_refl _))).mono ?_
      rintro e w5 ⟨rfl, hb5⟩
      have hb5 : Below wr.heap.size wr w5 := hdr.trans hb5
      have HB5 := Lib.hid (HB.out.trans (hb5.mono HB.out.size))
      refine HK.out _ _ ⟨cell_later hb5 x10, cell_later hb5 y10, cell_later hb5 e0, cell_later hb5 e1, cell_later hb5 f0, cell_later hb5 f1⟩ ?_
      clear HK
      clear hb5 hdr e0 e1 f0 f1 x10 y10
      iterate 2
        first
        | (refine m_take (v := ?_) rfl rfl ?_ ?_
           rotate_left
           · intro W hW
             go_simp
             with_reducible rfl
           simp only [Act.put, List.setIfInBounds_toArray, List.set_cons_zero, List.set_cons_succ])
        | (refine m_skip rfl rfl ?_
           simp only [Act.put, List.setIfInBounds_toArray, List.set_cons_zero, List.set_cons_succ])
      refine m_done ?_
      simp only [List.drop_succ_cons, List.drop_zero]
      go_wp2_with fail
      simp only [NP]
      go_wp2_with fail
      go_roundw
      case rel => exact ⟨k + 1, by omega, by go_num, HB5.out⟩
      case measure => simp [intOf]; omega
    · obtain rfl : k = n := by omega
      have x0 := (HBL.out.later hb) 0 _ rfl
      have x9 := (HBL.out.later hb) 9 _ rfl
      have x14 := (HBL.out.later hb) 14 _ rfl
      have y0 := (HBM.out.later hb) 0 _ rfl
      have y9 := (HBM.out.later hb) 9 _ rfl
      have y14 := (HBM.out.later hb) 14 _ rfl
      rw [HVL.out.1] at x0
      rw [HVL.out.2.1] at x9
      rw [HVL.out.2.2.2] at x14
      rw [HVM.out.1] at y0
      rw [HVM.out.2.1] at y9
      rw [HVM.out.2.2.2] at y14
      have hl := HL.out.below hb (Nat.le_refl _)
      have hm := HM.out.below hb (Nat.le_refl _)
      have hr1 := hl.rows
      have hr2 := hm.rows
      have ho1 := hl.opn
      have ho2 := hm.opn
      have hg1 := hl.ops
      have hg2 := hm.ops
      rw [HVL.out.1] at hr1
      rw [HVM.out.1, HS.out.rows] at hr2
      rw [HVL.out.2.1] at ho1
      rw [HVM.out.2.1, HS.out.opn] at ho2
      rw [HVL.out.2.2.2] at hg1
      rw [HVM.out.2.2.2] at hg2
      have HR := Lib.hid (And.intro hr1 (And.intro hr2 (And.intro ho1 (And.intro ho2 (And.intro hg1 hg2)))))
      clear hl hm hr1 hr2 ho1 ho2 hg1 hg2 hb
      go_upto_region 8 with fail
      go_wp2_with fail
      refine (rsame_calls _ _ L.rows _ HR.out.1 HR.out.2.1).mono ?_
      rintro e w5 ⟨rfl, hb5⟩
      have x9 := cell_later hb5 x9
      have x14 := cell_later hb5 x14
      have y9 := cell_later hb5 y9
      have y14 := cell_later hb5 y14
      have HB5 := Lib.hid hb5
      clear hb5
      go_wp2_with fail
      refine (sameRecs_calls _ _ L.opn _ (Rd.below HR.out.2.2.1 HB5.out (Nat.le_refl _)) (Rd.below HR.out.2.2.2.1 HB5.out (Nat.le_refl _))).mono ?_
      rintro e w6 ⟨rfl, hb6⟩
      have x14 := cell_later hb6 x14
      have y14 := cell_later hb6 y14
      have HB6 := Lib.hid (below_go HB5.out hb6)
      clear hb6
      go_wp2_with fail
      refine (sameGraph_calls _ _ L.ops M.ops _ (HR.out.2.2.2.2.1.below HB6.out (Nat.le_refl _)) (HR.out.2.2.2.2.2.below HB6.out (Nat.le_refl _)) HS.out.ops).mono ?_
      rintro e w7 ⟨rfl, hb7⟩
      have HB7 := Lib.hid (below_go HB6.out hb7)
      clear hb7
      go_wp2_with fail
      go_ret
      exact ⟨rfl, (below_go HBX.out HB.out).trans (HB7.out.mono (by have := HBX.out.size; have := HB.out.size; omega))⟩
end Go.Proofs.Ytkabfjbmofpkdaa

/- Ledgers and entries, whole, read of an argument. -/
namespace Go.Proofs.Ytkabfjbmofpkdaa
open Go.RowKit Go.ChangeShapes Go.WideShapes Go.ChangeAt
set_option maxRecDepth 100000

instance : Inhabited Opr := ⟨⟨0, .slice none 0 0, [], 0, 0, 0, 0, 0⟩⟩
instance : Inhabited Bt := ⟨⟨0, .slice none 0 0, []⟩⟩

theorem bulk_mem {H : Type} : ∀ {l : List (DataW H)} {j : Nat} {d : DataW H}, l[j]? = some d → Rows.uptoBulk d ≤ Rows.uptoBulkAll l
  | [], _, _, h => by simp at h
  | e :: l, 0, d, h => by
    simp only [List.getElem?_cons_zero, Option.some.injEq] at h
    subst h
    simp only [Rows.uptoBulkAll]; omega
  | e :: l, j + 1, d, h => by
    rw [List.getElem?_cons_succ] at h
    have := bulk_mem h
    simp only [Rows.uptoBulkAll]; omega
theorem bulk_two {H : Type} : ∀ {l : List (DataW H)} {i j : Nat} {d e : DataW H}, i < j → l[i]? = some d → l[j]? = some e → Rows.uptoBulk d + Rows.uptoBulk e ≤ Rows.uptoBulkAll l
  | [], _, _, _, _, _, h, _ => by simp at h
  | x :: l, 0, j + 1, d, e, _, h, k => by
    simp only [List.getElem?_cons_zero, Option.some.injEq] at h
    subst h
    rw [List.getElem?_cons_succ] at k
    have := bulk_mem k
    simp only [Rows.uptoBulkAll]; omega
  | x :: l, i + 1, j + 1, d, e, hij, h, k => by
    rw [List.getElem?_cons_succ] at h k
    have := bulk_two (by omega) h k
    simp only [Rows.uptoBulkAll]; omega
theorem bulk_sum {H : Type} {α : Type} (D : Nat → DataW H) (F : Nat → α) (m : α → Nat) (len : Nat) (h : ∀ i, i < len → m (F i) + 1 ≤ Rows.uptoBulk (D i)) : (((List.range len).map F).map m).sum + len ≤ Rows.uptoBulkAll ((List.range len).map D) := by
  have hsum : ∀ l : List Nat, (∀ i ∈ l, i < len) → ((l.map F).map m).sum + l.length ≤ Rows.uptoBulkAll (l.map D) := by
    intro l
    induction l with
    | nil => intro _; simp
    | cons i l ih =>
      intro hl
      have h1 := h i (hl i (by simp))
      have h2 := ih (fun j hj => hl j (by simp [hj]))
      simp only [List.map_cons, List.sum_cons, Rows.uptoBulkAll, List.length_cons]; omega
  have := hsum (List.range len) (fun i hi => List.mem_range.1 hi)
  rwa [List.length_range] at this

/-- A slice of structs, of its cells' reading; what the structs weigh is in the bulk. -/
theorem cells_structsW {α : Type} {f : α → List Value} {k : Nat} [Inhabited α] {H : Type} {enc : TypeId × Value → H} {W : World} {held : Bool} {fuel : Nat} {cs : List Value} {y : DataW H × List MemPlace} {t e : TypeId} {Q : α → Prop} (m : α → Nat)
    (ht : Try.prog.underlying t = some (.slice e)) (hc : Try.prog.cellsOf e = k) (hk : ∀ a, (f a).length = k) (h0 : 0 < k)
    (hE : ∀ fuel cs z, DataW.trod enc Try.prog W 0 (fun _ => true) held fuel e cs = some z → ∃ a : α, cs = f a ∧ Q a ∧ m a + 1 ≤ Rows.uptoBulk z.1)
    (hf : DataW.trod enc Try.prog W 0 (fun _ => true) held fuel t cs = some y) : ∃ v es, cs = [v] ∧ Rd W k v es.length (flatF f es) ∧ (∀ e ∈ es, Q e) ∧ (es.map m).sum + es.length + 1 ≤ Rows.uptoBulk y.1 := by
  rcases Go.Deep.open_slice ht hf with ⟨rfl, rfl⟩ | ⟨a, len, cap, mm, n, D, Pl, rfl, -, hl, hm, hmm, rfl, hx⟩
  · exact ⟨_, [], rfl, Rd.nil W k, fun e he => by simp at he, by simp [Rows.uptoBulk]⟩
  · simp only [if_true] at hmm
    subst hmm
    rw [hc] at hx
    have hex : ∀ i, i < mm → ∃ e : α, (∀ j u, j < k → (f e)[j]? = some u → W.cell? (a.add (i * k + j)) = some u) ∧ Q e ∧ m e + 1 ≤ Rows.uptoBulk (D i) := by
      intro i hi
      obtain ⟨cs', h1, h2⟩ := hx i hi
      obtain ⟨_, hlen, hcell⟩ := World.cells?_some h1
      obtain ⟨e, rfl, hq⟩ := hE _ _ _ h2
      refine ⟨e, fun j u hj hu => ?_, hq⟩
      have := hcell j hj
      rw [Go.Deep.add_add] at this
      rw [this, hu]
    obtain ⟨F, hF⟩ := Go.Deep.choose_lt hex
    have hget : ∀ i (hi : i < ((List.range len).map F).length), ((List.range len).map F)[i] = F i := fun i hi => by simp
    refine ⟨_, (List.range len).map F, rfl, ⟨some a, mm, by simp, flatF_length hk _, by simpa using hl, by unfold maxLen at hm; omega, ?_⟩, ?_, ?_⟩
    · by_cases hz : mm = 0
      · exact .inl hz
      · have hlt : 0 < (f (F 0)).length := by rw [hk]; exact h0
        have hs := addr_spot (a := a) (v := (f (F 0))[0]) (by have := (hF 0 (by omega)).1 0 _ h0 (List.getElem?_eq_getElem hlt); simpa using this)
        refine .inr ⟨a.block, a.off, by rw [← hs], fun j u hj => ?_⟩
        obtain ⟨i, hi, r, hr, rfl, hu⟩ := flatF_cell hk h0 _ j u hj
        rw [hget i hi] at hu
        have hil : i < len := by simpa using hi
        have := (hF i (by omega)).1 r u hr hu
        rw [hs, add_off] at this
        exact this
    · intro e he
      obtain ⟨i, hi, rfl⟩ := List.mem_map.1 he
      exact (hF i (by have := List.mem_range.1 hi; omega)).2.1
    · have h1 := bulk_sum D F m len (fun i hi => (hF i (by omega)).2.2)
      simp only [Rows.uptoBulk, List.length_map, List.length_range] at h1 ⊢
      omega

theorem flatF_ints (ns : List Int) : flatF (fun n => [Value.int .i64 n]) ns = ints ns := by
  induction ns with
  | nil => rfl
  | cons n ns ih => simp only [flatF, List.flatMap_cons, ints, List.map_cons] at ih ⊢; rw [ih]; rfl
theorem cells_ints {H : Type} {enc : TypeId × Value → H} {W : World} {held : Bool} {fuel : Nat} {cs : List Value} {y : DataW H × List MemPlace} (hf : DataW.trod enc Try.prog W 0 (fun _ => true) held fuel 54 cs = some y) :
    ∃ v ns, cs = [v] ∧ Ints W v ns ∧ (∀ n ∈ ns, I64 n) ∧ ns.length + 1 ≤ Rows.uptoBulk y.1 := by
  obtain ⟨v, ns, h1, h2, h3, h4⟩ := cells_structsW (f := fun n => [Value.int .i64 n]) (k := 1) (Q := I64) (fun _ => 0) Try.underlying54 (by kernel_rfl) (fun _ => rfl) (by omega) (fun fuel cs z h => by
    obtain ⟨a, ha, hz, wa⟩ := DataW.trod_int Try.underlying3 h
    exact ⟨a, ha, Go.bounds_i64 wa, by rw [hz]; simp [Rows.uptoBulk]⟩) hf
  rw [flatF_ints] at h2
  exact ⟨v, ns, h1, h2, h3, by omega⟩

theorem cells_op {H : Type} {enc : TypeId × Value → H} {W : World} {held : Bool} {fuel : Nat} {cs : List Value} {y : DataW H × List MemPlace}
    (hf : DataW.trod enc Try.prog W 0 (fun _ => true) held fuel 90 cs = some y) : ∃ o : Opr, cs = o.cells ∧ (Ints W o.iv o.ins ∧ o.ok) ∧ o.ins.length + 1 ≤ Rows.uptoBulk y.1 := by
  obtain ⟨xs, n, -, hxy, hl, hxl, hx⟩ := DataW.trod_struct Try.underlying90 hf
  have hlN : cs.length = 7 := hl.trans (by kernel_rfl)
  have hc_tInt : Try.prog.cellsOf 3 = 1 := by kernel_rfl
  have hc_tInts : Try.prog.cellsOf 54 = 1 := by kernel_rfl
  have hc_tU32 : Try.prog.cellsOf 31 = 1 := by kernel_rfl
  match cs, hlN with
  | [v0, v1, v2, v3, v4, v5, v6], _ =>
    have h0 : DataW.trod enc Try.prog W 0 (fun _ => true) held n 3 (([v0, v1, v2, v3, v4, v5, v6].drop 0).take (Try.prog.cellsOf 3)) = xs[0]? := hx 0 _ rfl
    have h1 : DataW.trod enc Try.prog W 0 (fun _ => true) held n 54 (([v0, v1, v2, v3, v4, v5, v6].drop 1).take (Try.prog.cellsOf 54)) = xs[1]? := hx 1 _ rfl
    have h2 : DataW.trod enc Try.prog W 0 (fun _ => true) held n 3 (([v0, v1, v2, v3, v4, v5, v6].drop 2).take (Try.prog.cellsOf 3)) = xs[2]? := hx 2 _ rfl
    have h3 : DataW.trod enc Try.prog W 0 (fun _ => true) held n 31 (([v0, v1, v2, v3, v4, v5, v6].drop 3).take (Try.prog.cellsOf 31)) = xs[3]? := hx 3 _ rfl
    have h4 : DataW.trod enc Try.prog W 0 (fun _ => true) held n 3 (([v0, v1, v2, v3, v4, v5, v6].drop 4).take (Try.prog.cellsOf 3)) = xs[4]? := hx 4 _ rfl
    have h5 : DataW.trod enc Try.prog W 0 (fun _ => true) held n 3 (([v0, v1, v2, v3, v4, v5, v6].drop 5).take (Try.prog.cellsOf 3)) = xs[5]? := hx 5 _ rfl
    have h6 : DataW.trod enc Try.prog W 0 (fun _ => true) held n 31 (([v0, v1, v2, v3, v4, v5, v6].drop 6).take (Try.prog.cellsOf 31)) = xs[6]? := hx 6 _ rfl
    simp only [hc_tInt, hc_tInts, hc_tU32, List.drop_zero, List.drop_succ_cons, List.take_succ_cons, List.take_zero] at h0 h1 h2 h3 h4 h5 h6
    have hs : ∀ i, i < 7 → ∃ z, xs[i]? = some z := fun i hi => ⟨_, List.getElem?_eq_getElem (by rw [hxl]; exact hi)⟩
    obtain ⟨z0, e0⟩ := hs 0 (by omega)
    rw [e0] at h0
    obtain ⟨z1, e1⟩ := hs 1 (by omega)
    rw [e1] at h1
    obtain ⟨z2, e2⟩ := hs 2 (by omega)
    rw [e2] at h2
    obtain ⟨z3, e3⟩ := hs 3 (by omega)
    rw [e3] at h3
    obtain ⟨z4, e4⟩ := hs 4 (by omega)
    rw [e4] at h4
    obtain ⟨z5, e5⟩ := hs 5 (by omega)
    rw [e5] at h5
    obtain ⟨z6, e6⟩ := hs 6 (by omega)
    rw [e6] at h6
    obtain ⟨a, q0, -, wa⟩ := DataW.trod_int Try.underlying3 h0
    obtain ⟨v, ns, q1, hi, hk, hb⟩ := cells_ints h1
    obtain ⟨c, q2, -, wc⟩ := DataW.trod_int Try.underlying3 h2
    obtain ⟨d, q3, -, wd⟩ := DataW.trod_int Try.underlying31 h3
    obtain ⟨e, q4, -, we⟩ := DataW.trod_int Try.underlying3 h4
    obtain ⟨g, q5, -, wg⟩ := DataW.trod_int Try.underlying3 h5
    obtain ⟨m, q6, -, wm⟩ := DataW.trod_int Try.underlying31 h6
    cases q0
    cases q1
    cases q2
    cases q3
    cases q4
    cases q5
    cases q6
    exact ⟨⟨a, _, ns, c, d, e, g, m⟩, rfl, ⟨hi, Go.bounds_i64 wa, Go.bounds_i64 wc, Go.bounds_u32 wd, Go.bounds_i64 we, Go.bounds_i64 wg, Go.bounds_u32 wm, hk⟩, by
      have hq := bulk_mem (l := xs.map (·.1)) (j := 1) (by rw [List.getElem?_map, e1]; rfl)
      dsimp only at hq
      rw [hxy]
      simp only [Rows.uptoBulk]
      show ns.length + 1 ≤ _
      omega⟩

theorem cells_bt {H : Type} {enc : TypeId × Value → H} {W : World} {held : Bool} {fuel : Nat} {cs : List Value} {y : DataW H × List MemPlace}
    (hf : DataW.trod enc Try.prog W 0 (fun _ => true) held fuel 67 cs = some y) : ∃ b : Bt, cs = b.cells ∧ (Recs W b.rv b.recs ∧ I64 b.ep ∧ ∀ r ∈ b.recs, r.ok) ∧ b.recs.length + 1 ≤ Rows.uptoBulk y.1 := by
  obtain ⟨xs, n, -, hxy, hl, hxl, hx⟩ := DataW.trod_struct Try.underlying67 hf
  have hlN : cs.length = 2 := hl.trans (by kernel_rfl)
  have hc_tInt : Try.prog.cellsOf 3 = 1 := by kernel_rfl
  have hc_tRecs : Try.prog.cellsOf 24 = 1 := by kernel_rfl
  match cs, hlN with
  | [v0, v1], _ =>
    have h0 : DataW.trod enc Try.prog W 0 (fun _ => true) held n 3 (([v0, v1].drop 0).take (Try.prog.cellsOf 3)) = xs[0]? := hx 0 _ rfl
    have h1 : DataW.trod enc Try.prog W 0 (fun _ => true) held n 24 (([v0, v1].drop 1).take (Try.prog.cellsOf 24)) = xs[1]? := hx 1 _ rfl
    simp only [hc_tInt, hc_tRecs, List.drop_zero, List.drop_succ_cons, List.take_succ_cons, List.take_zero] at h0 h1
    have hs : ∀ i, i < 2 → ∃ z, xs[i]? = some z := fun i hi => ⟨_, List.getElem?_eq_getElem (by rw [hxl]; exact hi)⟩
    obtain ⟨z0, e0⟩ := hs 0 (by omega)
    rw [e0] at h0
    obtain ⟨z1, e1⟩ := hs 1 (by omega)
    rw [e1] at h1
    obtain ⟨a, q0, -, wa⟩ := DataW.trod_int Try.underlying3 h0
    obtain ⟨v, rs, q1, hi, hk, hb, -⟩ := cells_recs h1
    cases q0
    cases q1
    exact ⟨⟨a, _, rs⟩, rfl, ⟨hi, Go.bounds_i64 wa, hk⟩, by
      have hq := bulk_mem (l := xs.map (·.1)) (j := 1) (by rw [List.getElem?_map, e1]; rfl)
      dsimp only at hq
      rw [hxy]
      simp only [Rows.uptoBulk]
      show rs.length + 1 ≤ _
      omega⟩


theorem cells_opsr {H : Type} {enc : TypeId × Value → H} {W : World} {held : Bool} {fuel : Nat} {cs : List Value} {y : DataW H × List MemPlace} (hf : DataW.trod enc Try.prog W 0 (fun _ => true) held fuel 26 cs = some y) :
    ∃ v os, cs = [v] ∧ OpsR W v os ∧ (∀ o ∈ os, o.ok) ∧ (os.map (fun o => o.ins.length)).sum + os.length + 1 ≤ Rows.uptoBulk y.1 := by
  obtain ⟨v, os, h1, h2, h3, h4⟩ := cells_structsW (f := Opr.cells) (k := 7) (Q := fun o => Ints W o.iv o.ins ∧ o.ok) (fun o => o.ins.length) Try.underlying26 (by kernel_rfl) op7 (by omega) (fun fuel cs z h => cells_op h) hf
  exact ⟨v, os, h1, ⟨h2, fun o ho => (h3 o ho).1⟩, fun o ho => (h3 o ho).2, h4⟩
theorem cells_bats {H : Type} {enc : TypeId × Value → H} {W : World} {held : Bool} {fuel : Nat} {cs : List Value} {y : DataW H × List MemPlace} (hf : DataW.trod enc Try.prog W 0 (fun _ => true) held fuel 25 cs = some y) :
    ∃ v bs, cs = [v] ∧ BtsR W v bs ∧ (∀ b ∈ bs, I64 b.ep ∧ ∀ r ∈ b.recs, r.ok) ∧ (bs.map (fun b => b.recs.length)).sum + bs.length + 1 ≤ Rows.uptoBulk y.1 := by
  obtain ⟨v, bs, h1, h2, h3, h4⟩ := cells_structsW (f := Bt.cells) (k := 2) (Q := fun b => Recs W b.rv b.recs ∧ I64 b.ep ∧ ∀ r ∈ b.recs, r.ok) (fun b => b.recs.length) Try.underlying25 (by kernel_rfl) bt2 (by omega) (fun fuel cs z h => cells_bt h) hf
  exact ⟨v, bs, h1, ⟨h2, fun b hb => (h3 b hb).1⟩, fun b hb => (h3 b hb).2, h4⟩
theorem sum_mem {α : Type} (m : α → Nat) : ∀ {l : List α} {x : α}, x ∈ l → m x ≤ (l.map m).sum
  | [], _, h => by cases h
  | y :: l, x, h => by
    rcases List.mem_cons.1 h with rfl | h
    · simp only [List.map_cons, List.sum_cons]; omega
    · have := sum_mem m h
      simp only [List.map_cons, List.sum_cons]; omega
theorem flat_len (bs : List Bt) : (bs.flatMap (·.recs)).length = (bs.map (fun b => b.recs.length)).sum := by
  induction bs with
  | nil => rfl
  | cons b bs ih => simp only [List.flatMap_cons, List.length_append, List.map_cons, List.sum_cons, ih]

theorem cells_graph {H : Type} {enc : TypeId × Value → H} {W : World} {held : Bool} {fuel : Nat} {cs : List Value} {y : DataW H × List MemPlace}
    (hf : DataW.trod enc Try.prog W 0 (fun _ => true) held fuel 28 cs = some y) : ∃ v os, cs = [v] ∧ OpsR W v os ∧ (∀ o ∈ os, o.ok) ∧ (os.map (fun o => o.ins.length)).sum + os.length + 1 ≤ Rows.uptoBulk y.1 := by
  obtain ⟨xs, n, -, hxy, hl, hxl, hx⟩ := DataW.trod_struct Try.underlying28 hf
  have hlN : cs.length = 1 := hl.trans (by kernel_rfl)
  have hc_tOps : Try.prog.cellsOf 26 = 1 := by kernel_rfl
  match cs, hlN with
  | [v0], _ =>
    have h0 : DataW.trod enc Try.prog W 0 (fun _ => true) held n 26 (([v0].drop 0).take (Try.prog.cellsOf 26)) = xs[0]? := hx 0 _ rfl
    simp only [hc_tOps, List.drop_zero, List.take_succ_cons, List.take_zero] at h0
    have hs : ∀ i, i < 1 → ∃ z, xs[i]? = some z := fun i hi => ⟨_, List.getElem?_eq_getElem (by rw [hxl]; exact hi)⟩
    obtain ⟨z0, e0⟩ := hs 0 (by omega)
    rw [e0] at h0
    obtain ⟨v, os, q0, ho, hk, hb⟩ := cells_opsr h0
    cases q0
    exact ⟨_, os, rfl, ho, hk, by
      have hq := bulk_mem (l := xs.map (·.1)) (j := 0) (by rw [List.getElem?_map, e0]; rfl)
      dsimp only at hq
      rw [hxy]
      simp only [Rows.uptoBulk]
      omega⟩


theorem cells_cntI {H : Type} {enc : TypeId × Value → H} {W : World} {held : Bool} {fuel : Nat} {cs : List Value} {y : DataW H × List MemPlace} (hf : DataW.trod enc Try.prog W 0 (fun _ => true) held fuel 23 cs = some y) : ∃ C : Nat → Int, cs = [.int .i64 (C 0), .int .i64 (C 1), .int .i64 (C 2), .int .i64 (C 3), .int .i64 (C 4), .int .i64 (C 5), .int .i64 (C 6), .int .i64 (C 7)] ∧ ∀ i, i < 8 → I64 (C i) := by
  obtain ⟨xs, n, -, -, hl, hxl, hx⟩ := DataW.trod_array Try.underlying23 hf
  have hl8 : cs.length = 8 := hl.trans (by kernel_rfl)
  have hc : Try.prog.cellsOf 3 = 1 := by kernel_rfl
  have hex : ∀ i, i < 8 → ∃ k : Int, cs[i]? = some (.int .i64 k) ∧ I64 k := by
    intro i hi
    have h := hx i hi
    rw [hc, Nat.mul_one, List.getElem?_eq_getElem (by omega)] at h
    obtain ⟨k, hk, -, wk⟩ := DataW.trod_int Try.underlying3 h
    have hi8 : i < cs.length := by omega
    rw [List.drop_eq_getElem_cons hi8] at hk
    simp only [List.take_succ_cons, List.take_zero, List.cons.injEq, and_true] at hk
    exact ⟨k, by rw [List.getElem?_eq_getElem hi8, hk], Go.bounds_i64 wk⟩
  obtain ⟨C, hC⟩ := Go.Deep.choose_lt hex
  refine ⟨C, ?_, fun i hi => (hC i hi).2⟩
  match cs, hl8, hC with
  | [v0, v1, v2, v3, v4, v5, v6, v7], _, hC =>
    have e0 := (hC 0 (by omega)).1
    have e1 := (hC 1 (by omega)).1
    have e2 := (hC 2 (by omega)).1
    have e3 := (hC 3 (by omega)).1
    have e4 := (hC 4 (by omega)).1
    have e5 := (hC 5 (by omega)).1
    have e6 := (hC 6 (by omega)).1
    have e7 := (hC 7 (by omega)).1
    simp at e0 e1 e2 e3 e4 e5 e6 e7
    simp [e0, e1, e2, e3, e4, e5, e6, e7]

theorem cells_led {H : Type} {enc : TypeId × Value → H} {W : World} {held : Bool} {fuel : Nat} {cs : List Value} {y : DataW H × List MemPlace}
    (hf : DataW.trod enc Try.prog W 0 (fun _ => true) held fuel 30 cs = some y) : ∃ L : Led, cs = L.cells ∧ LedR W L ∧ L.Ok ∧ (Rows.uptoBulk y.1 ≤ 1048576 → L.Sz 1048576) := by
  obtain ⟨xs, n, -, hxy, hl, hxl, hx⟩ := DataW.trod_struct Try.underlying30 hf
  have hlN : cs.length = 16 := hl.trans (by kernel_rfl)
  have hc_tRows : Try.prog.cellsOf 22 = 1 := by kernel_rfl
  have hc_tCnt : Try.prog.cellsOf 23 = 8 := by kernel_rfl
  have hc_tRecs : Try.prog.cellsOf 24 = 1 := by kernel_rfl
  have hc_tBats : Try.prog.cellsOf 25 = 1 := by kernel_rfl
  have hc_tInt : Try.prog.cellsOf 3 = 1 := by kernel_rfl
  have hc_tBool : Try.prog.cellsOf 4 = 1 := by kernel_rfl
  have hc_tGraph : Try.prog.cellsOf 28 = 1 := by kernel_rfl
  match cs, hlN with
  | [v0, v1, v2, v3, v4, v5, v6, v7, v8, v9, v10, v11, v12, v13, v14, v15], _ =>
    have h0 : DataW.trod enc Try.prog W 0 (fun _ => true) held n 22 (([v0, v1, v2, v3, v4, v5, v6, v7, v8, v9, v10, v11, v12, v13, v14, v15].drop 0).take (Try.prog.cellsOf 22)) = xs[0]? := hx 0 _ rfl
    have h1 : DataW.trod enc Try.prog W 0 (fun _ => true) held n 23 (([v0, v1, v2, v3, v4, v5, v6, v7, v8, v9, v10, v11, v12, v13, v14, v15].drop 1).take (Try.prog.cellsOf 23)) = xs[1]? := hx 1 _ rfl
    have h2 : DataW.trod enc Try.prog W 0 (fun _ => true) held n 24 (([v0, v1, v2, v3, v4, v5, v6, v7, v8, v9, v10, v11, v12, v13, v14, v15].drop 9).take (Try.prog.cellsOf 24)) = xs[2]? := hx 2 _ rfl
    have h3 : DataW.trod enc Try.prog W 0 (fun _ => true) held n 25 (([v0, v1, v2, v3, v4, v5, v6, v7, v8, v9, v10, v11, v12, v13, v14, v15].drop 10).take (Try.prog.cellsOf 25)) = xs[3]? := hx 3 _ rfl
    have h4 : DataW.trod enc Try.prog W 0 (fun _ => true) held n 3 (([v0, v1, v2, v3, v4, v5, v6, v7, v8, v9, v10, v11, v12, v13, v14, v15].drop 11).take (Try.prog.cellsOf 3)) = xs[4]? := hx 4 _ rfl
    have h5 : DataW.trod enc Try.prog W 0 (fun _ => true) held n 3 (([v0, v1, v2, v3, v4, v5, v6, v7, v8, v9, v10, v11, v12, v13, v14, v15].drop 12).take (Try.prog.cellsOf 3)) = xs[5]? := hx 5 _ rfl
    have h6 : DataW.trod enc Try.prog W 0 (fun _ => true) held n 4 (([v0, v1, v2, v3, v4, v5, v6, v7, v8, v9, v10, v11, v12, v13, v14, v15].drop 13).take (Try.prog.cellsOf 4)) = xs[6]? := hx 6 _ rfl
    have h7 : DataW.trod enc Try.prog W 0 (fun _ => true) held n 28 (([v0, v1, v2, v3, v4, v5, v6, v7, v8, v9, v10, v11, v12, v13, v14, v15].drop 14).take (Try.prog.cellsOf 28)) = xs[7]? := hx 7 _ rfl
    have h8 : DataW.trod enc Try.prog W 0 (fun _ => true) held n 3 (([v0, v1, v2, v3, v4, v5, v6, v7, v8, v9, v10, v11, v12, v13, v14, v15].drop 15).take (Try.prog.cellsOf 3)) = xs[8]? := hx 8 _ rfl
    simp only [hc_tRows, hc_tCnt, hc_tRecs, hc_tBats, hc_tInt, hc_tBool, hc_tGraph, List.drop_zero, List.drop_succ_cons, List.take_succ_cons, List.take_zero] at h0 h1 h2 h3 h4 h5 h6 h7 h8
    have hs : ∀ i, i < 9 → ∃ z, xs[i]? = some z := fun i hi => ⟨_, List.getElem?_eq_getElem (by rw [hxl]; exact hi)⟩
    obtain ⟨z0, e0⟩ := hs 0 (by omega)
    rw [e0] at h0
    obtain ⟨z1, e1⟩ := hs 1 (by omega)
    rw [e1] at h1
    obtain ⟨z2, e2⟩ := hs 2 (by omega)
    rw [e2] at h2
    obtain ⟨z3, e3⟩ := hs 3 (by omega)
    rw [e3] at h3
    obtain ⟨z4, e4⟩ := hs 4 (by omega)
    rw [e4] at h4
    obtain ⟨z5, e5⟩ := hs 5 (by omega)
    rw [e5] at h5
    obtain ⟨z6, e6⟩ := hs 6 (by omega)
    rw [e6] at h6
    obtain ⟨z7, e7⟩ := hs 7 (by omega)
    rw [e7] at h7
    obtain ⟨z8, e8⟩ := hs 8 (by omega)
    rw [e8] at h8
    obtain ⟨rv, rs, q0, hrs, kr, br, -⟩ := cells_rows h0
    obtain ⟨C, CC⟩ := cells_cntI h1
    obtain ⟨ov, os, q2, hos, ko, bo, -⟩ := cells_recs h2
    obtain ⟨bv, bs, q3, hbs, kb, bb⟩ := cells_bats h3
    obtain ⟨a, q4, -, wa⟩ := DataW.trod_int Try.underlying3 h4
    obtain ⟨b, q5, -, wb⟩ := DataW.trod_int Try.underlying3 h5
    obtain ⟨dp, q6, -⟩ := DataW.trod_bool Try.underlying4 h6
    obtain ⟨gv, gs, q7, hgs, kg, bg⟩ := cells_graph h7
    obtain ⟨k, q8, -, wk⟩ := DataW.trod_int Try.underlying3 h8
    cases q0
    have q1 := CC.1
    simp only [List.cons.injEq, and_true] at q1
    obtain ⟨rfl, rfl, rfl, rfl, rfl, rfl, rfl, rfl⟩ := q1
    cases q2
    cases q3
    cases q4
    cases q5
    cases q6
    cases q7
    cases q8
    exact ⟨⟨_, rs, C, _, os, _, bs, a, b, dp, _, gs, k⟩, rfl, ⟨hrs, hos, hbs, hgs⟩, ⟨kr, CC.2, ko, kb, ⟨Go.bounds_i64 wa, Go.bounds_i64 wb, Go.bounds_i64 wk⟩, kg⟩, fun hb => by
      rw [hxy] at hb
      simp only [Rows.uptoBulk] at hb
      have q0 := bulk_mem (l := xs.map (·.1)) (j := 0) (by rw [List.getElem?_map, e0]; rfl)
      have q23 := bulk_two (l := xs.map (·.1)) (i := 2) (j := 3) (by omega) (by rw [List.getElem?_map, e2]; rfl) (by rw [List.getElem?_map, e3]; rfl)
      have q7 := bulk_mem (l := xs.map (·.1)) (j := 7) (by rw [List.getElem?_map, e7]; rfl)
      have hfl := flat_len bs
      dsimp only at q0 q23 q7
      refine ⟨?_, ?_, ?_, fun x hx => ?_, ?_, ?_, fun x hx => ?_⟩
      · show rs.length ≤ _; omega
      · show os.length ≤ _; omega
      · show bs.length ≤ _; omega
      · have := sum_mem (fun b : Bt => b.recs.length) hx
        simp only at this ⊢
        omega
      · show (bs.flatMap (·.recs) ++ os).length ≤ _
        rw [List.length_append]
        omega
      · show gs.length ≤ _; omega
      · have := sum_mem (fun o : Opr => o.ins.length) hx
        simp only at this ⊢
        omega⟩

theorem cells_ent {H : Type} {enc : TypeId × Value → H} {W : World} {held : Bool} {fuel : Nat} {cs : List Value} {y : DataW H × List MemPlace}
    (hf : DataW.trod enc Try.prog W 0 (fun _ => true) held fuel 35 cs = some y) : ∃ E : Ent, cs = E.cells ∧ OpsR W E.gv E.os ∧ E.Ok ∧ (Rows.uptoBulk y.1 ≤ 1048576 → E.Small) := by
  obtain ⟨xs, n, -, hxy, hl, hxl, hx⟩ := DataW.trod_struct Try.underlying35 hf
  have hlN : cs.length = 8 := hl.trans (by kernel_rfl)
  have hc_tInt : Try.prog.cellsOf 3 = 1 := by kernel_rfl
  have hc_tRec : Try.prog.cellsOf 33 = 5 := by kernel_rfl
  have hc_tGraph : Try.prog.cellsOf 28 = 1 := by kernel_rfl
  match cs, hlN with
  | [v0, v1, v2, v3, v4, v5, v6, v7], _ =>
    have h0 : DataW.trod enc Try.prog W 0 (fun _ => true) held n 3 (([v0, v1, v2, v3, v4, v5, v6, v7].drop 0).take (Try.prog.cellsOf 3)) = xs[0]? := hx 0 _ rfl
    have h1 : DataW.trod enc Try.prog W 0 (fun _ => true) held n 33 (([v0, v1, v2, v3, v4, v5, v6, v7].drop 1).take (Try.prog.cellsOf 33)) = xs[1]? := hx 1 _ rfl
    have h2 : DataW.trod enc Try.prog W 0 (fun _ => true) held n 28 (([v0, v1, v2, v3, v4, v5, v6, v7].drop 6).take (Try.prog.cellsOf 28)) = xs[2]? := hx 2 _ rfl
    have h3 : DataW.trod enc Try.prog W 0 (fun _ => true) held n 3 (([v0, v1, v2, v3, v4, v5, v6, v7].drop 7).take (Try.prog.cellsOf 3)) = xs[3]? := hx 3 _ rfl
    simp only [hc_tInt, hc_tRec, hc_tGraph, List.drop_zero, List.drop_succ_cons, List.take_succ_cons, List.take_zero] at h0 h1 h2 h3
    have hs : ∀ i, i < 4 → ∃ z, xs[i]? = some z := fun i hi => ⟨_, List.getElem?_eq_getElem (by rw [hxl]; exact hi)⟩
    obtain ⟨z0, e0⟩ := hs 0 (by omega)
    rw [e0] at h0
    obtain ⟨z1, e1⟩ := hs 1 (by omega)
    rw [e1] at h1
    obtain ⟨z2, e2⟩ := hs 2 (by omega)
    rw [e2] at h2
    obtain ⟨z3, e3⟩ := hs 3 (by omega)
    rw [e3] at h3
    obtain ⟨a, q0, -, wa⟩ := DataW.trod_int Try.underlying3 h0
    obtain ⟨r, q1, hr⟩ := cells_rec h1
    obtain ⟨gv, gs, q2, hgs, kg, bg⟩ := cells_graph h2
    obtain ⟨k, q3, -, wk⟩ := DataW.trod_int Try.underlying3 h3
    cases q0
    cases q1
    cases q2
    cases q3
    exact ⟨⟨a, r, _, gs, k⟩, rfl, hgs, ⟨Go.bounds_i64 wa, hr, Go.bounds_i64 wk, kg⟩, fun hb => by
      rw [hxy] at hb
      simp only [Rows.uptoBulk] at hb
      have q2 := bulk_mem (l := xs.map (·.1)) (j := 2) (by rw [List.getElem?_map, e2]; rfl)
      dsimp only at q2
      refine ⟨?_, fun x hx => ?_⟩
      · show gs.length ≤ _; omega
      · have := sum_mem (fun o : Opr => o.ins.length) hx
        simp only at this ⊢
        omega⟩


/-- A ledger by value. -/
theorem open_ledger {H : Type} {enc : TypeId × Value → H} {W : World} {B : Nat} {held : Bool} {v : Value} {d : DataW H} {p : List MemPlace}
    (ok : Value.okWide Try.prog W .any B 30 v) (h : DataW.Trod enc Try.prog W 0 (fun _ => true) held 30 v d p) : ∃ L : Led, v = .agg L.cells.toArray ∧ LedR W L ∧ L.Ok ∧ (Rows.uptoBulk d ≤ 1048576 → L.Sz 1048576) := by
  obtain ⟨csA, rfl, hsz⟩ := okWide_struct Try.underlying30 ok
  obtain ⟨fuel, hf⟩ := h
  simp only [Value.cells] at hf
  obtain ⟨L, hL, h1, h2, h3⟩ := cells_led hf
  exact ⟨L, by rw [← hL], h1, h2, h3⟩
/-- An entry by value. -/
theorem open_entry {H : Type} {enc : TypeId × Value → H} {W : World} {B : Nat} {held : Bool} {v : Value} {d : DataW H} {p : List MemPlace}
    (ok : Value.okWide Try.prog W .any B 35 v) (h : DataW.Trod enc Try.prog W 0 (fun _ => true) held 35 v d p) : ∃ E : Ent, v = .agg E.cells.toArray ∧ OpsR W E.gv E.os ∧ E.Ok ∧ (Rows.uptoBulk d ≤ 1048576 → E.Small) := by
  obtain ⟨csA, rfl, hsz⟩ := okWide_struct Try.underlying35 ok
  obtain ⟨fuel, hf⟩ := h
  simp only [Value.cells] at hf
  obtain ⟨E, hE, h1, h2, h3⟩ := cells_ent hf
  exact ⟨E, by rw [← hE], h1, h2, h3⟩
end Go.Proofs.Ytkabfjbmofpkdaa

/- Layer 14: the chapter's example, walked. -/
namespace Go.Proofs.Ytkabfjbmofpkdaa
open Go.RowKit Go.Shelf
set_option maxRecDepth 100000

def exRec : Rec := ⟨0, 0, 2, ⟨#[97]⟩, 1⟩
def exE1 : Ent := ⟨1, exRec, .slice none 0 0, [], 0⟩
def exE2 : Ent := ⟨2, ⟨0, 0, 0, ⟨#[]⟩, 0⟩, .slice none 0 0, [], 0⟩
def exL : Led := { zeroL with rows := [⟨0, 2, 0⟩], C := zeroL.bump 2, opn := [exRec] }
theorem exE1_good : exE1.good = true := by decide
theorem exE2_good : exE2.good = true := by decide
theorem exL_good : exL.good = true := by decide
theorem ex_apply1 : applyL zeroL exE1 = (exL, true, 0) := by
  unfold applyL
  rw [if_pos ⟨good_zero, exE1_good⟩]
  rfl
theorem ex_apply2 : (applyL exL exE2).2 = (false, 9) := by
  unfold applyL
  rw [if_pos ⟨exL_good, exE2_good⟩]
  rfl
theorem exL_ok : exL.Ok := by
  refine ⟨fun r hr => ?_, fun i hi => ?_, fun r hr => ?_, fun b hb => by simp [exL, zeroL] at hb, by unfold I64 exL zeroL; decide, fun o ho => by simp [exL, zeroL] at ho⟩
  · simp only [exL, List.mem_singleton] at hr; subst hr; unfold Row.ok I64; decide
  · show I64 (if i = 2 then zeroL.C i + 1 else zeroL.C i)
    unfold I64 zeroL
    split <;> simp
  · simp only [exL, List.mem_singleton] at hr; subst hr; unfold Rec.ok I64 exRec; decide
theorem exL_small : exL.Small := by
  refine ⟨by decide, by decide, by decide, fun b hb => by simp [exL, zeroL] at hb, by decide, by decide, fun o ho => by simp [exL, zeroL] at ho⟩
theorem zeroL_ok : zeroL.Ok := by
  refine ⟨fun r hr => by simp [zeroL] at hr, fun i hi => by unfold I64 zeroL; simp, fun r hr => by simp [zeroL] at hr, fun b hb => by simp [zeroL] at hb, by unfold I64 zeroL; decide, fun o ho => by simp [zeroL] at ho⟩
theorem zeroL_small : zeroL.Small := by
  refine ⟨by decide, by decide, by decide, fun b hb => by simp [zeroL] at hb, by decide, by decide, fun o ho => by simp [zeroL] at ho⟩
theorem ent_none_ok (E : Ent) (h1 : I64 E.k ∧ E.r.ok ∧ I64 E.n) (h2 : E.os = []) : E.Ok ∧ E.Small :=
  ⟨⟨h1.1, h1.2.1, h1.2.2, fun o ho => by rw [h2] at ho; cases ho⟩, ⟨by rw [h2]; simp, fun o ho => by rw [h2] at ho; cases ho⟩⟩
theorem exE1_ok : exE1.Ok ∧ exE1.Small := ent_none_ok _ (by simp [I64, exE1, exRec, Rec.ok, ByteArray.size]) rfl
theorem exE2_ok : exE2.Ok ∧ exE2.Small := ent_none_ok _ (by simp [I64, exE2, Rec.ok, ByteArray.size]) rfl
theorem opsR_nil (w : World) : OpsR w (.slice none 0 0) [] := ⟨Rd.nil _ _, fun o ho => by cases ho⟩

/-- A struct loaded whole, guarded or not. -/
theorem list_loadk {P : Program} {ops : Array Oper} {rest : List Oper} {o : Oper} {a : Act} {Q : Exit → Act → World → Prop} {w : World} {t : TypeId} {x : Operand} {b off : Nat} {cs : List Value} {d : TypeDesc}
    (hgd : Region.wanted o (yielded ops a.tmps) = true) (hop : o.op = .load t x) (hx : a.eval x = .pointer (some ⟨b, off, none⟩)) (hu : P.underlying t = some d) (hd : d.isRow = true) (hi : (P.info? t).map (·.size) = some cs.length) (hc : w.rangeAt b off cs)
    (h : wpList P ops Q rest (a.put o.dst (.agg cs.toArray)) w) : wpList P ops Q (o :: rest) a w := by
  refine list_value hgd ?_ h
  unfold execOp
  simp only [hop, hx, Instr.loadAt, Instr.sureAddr, Sem.run_bind, Sem.run_pure, Result.andThen_ok, run_loadVar_mid w b off t cs d hc hu hd hi]
theorem there_new (w : World) : (w.alloc (.cells zero16 30)).there w.heap.size 0 16 := fun j hj => by
  refine ⟨?_, World.frozen?_alloc_at _ _ _ _ rfl⟩
  rw [World.cell?_alloc_at _ _ _ _ rfl]
  show (zero16[0 + j]?).isSome = true
  rw [Nat.zero_add]
  have : j < zero16.size := hj
  rw [Array.getElem?_eq_getElem this]; rfl
theorem box_new (w : World) (M : Led) : BoxL ((w.alloc (.cells zero16 30)).setCells w.heap.size 0 M.cells) w.heap.size M ∧ Below w.heap.size w ((w.alloc (.cells zero16 30)).setCells w.heap.size 0 M.cells) := by
  have hr := World.rangeAt_setCells_same (w.alloc (.cells zero16 30)) w.heap.size 0 M.cells (there_new w)
  refine ⟨fun j v hj => by have := hr j v hj; rwa [Nat.zero_add] at this, (below_alloc w _).trans ((only_cells _ _ _ _).below (by simp) (fun j hj e => by omega))⟩

set_option maxHeartbeats 2000000 in
theorem known14_calls (w : World) : Calls Try.prog 12 #[] w fun e w' => e = .returned (.bool true) ∧ Below w.heap.size w w' := by
  go_enter Try.func12, Try.ntmps12
  go_wp2_with fail
  refine (apply_calls zeroL exE1 w (ledO_zero w 0).reads zeroL_ok zeroL_small (opsR_nil w) exE1_ok.1 exE1_ok.2).mono ?_
  rw [ex_apply1]
  rintro e w1 ⟨M, rfl, hS, hO, hb1⟩
  have HS := Lib.hid hS
  have HO := Lib.hid hO
  have HB1 := Lib.hid hb1
  have hT := there_new w1
  unfold zero16 at hT
  have HT := Lib.hid hT
  clear hT
  have H1 := Lib.hid (led_all M (own_one hO.rows) (own_one hO.opn) (own_one hO.bats) (own_one hO.ops))
  clear hS hO hb1
  have hbn := box_new w1 M
  unfold zero16 at hbn
  have HBN := Lib.hid hbn
  clear hbn
  go_upto_region 2 with (first | (refine wpList_store_mid rfl 30 _ _ rfl (w1.heap.size) 0 (Led.cells M).toArray rfl rfl (by exact HT.out) (by show _ = some 16; kernel_rfl) H1.out ?_; generalize hWgen : World.setCells _ _ _ _ = W2 at *; clear hWgen) | (refine wp_store_mid 30 _ _ rfl (w1.heap.size) 0 (Led.cells M).toArray rfl rfl (by exact HT.out) (by show _ = some 16; kernel_rfl) H1.out ?_; generalize hWgen : World.setCells _ _ _ _ = W2 at *; clear hWgen))
  have HRG := Lib.hid HBN.out.1.range
  have HB2 := Lib.hid (below_go HB1.out HBN.out.2)
  go_wp2_with (first | (refine wpList_load_mid rfl 30 _ rfl (w1.heap.size) 0 rfl (Led.cells M) _ (by exact HRG.out) Try.underlying30 rfl (by show _ = some 16; kernel_rfl) ?_) | (refine wp_load_mid 30 _ rfl (w1.heap.size) 0 rfl (Led.cells M) _ (by exact HRG.out) Try.underlying30 rfl (by show _ = some 16; kernel_rfl) ?_) | (refine list_loadk rfl rfl (b := w1.heap.size) (off := 0) rfl (cs := Led.cells M) Try.underlying30 rfl (by show _ = some 16; kernel_rfl) (by exact HRG.out) ?_))
  refine (apply_calls M exE2 W2 (HO.out.below HBN.out.2).reads (HS.out.ok exL_ok) (HS.out.small exL_small) (opsR_nil W2) exE2_ok.1 exE2_ok.2).mono ?_
  rw [(applyL_same HS.out exE2).2, ex_apply2]
  rintro e w3 ⟨N, rfl, hS3, hO3, hb3⟩
  have HB3 := Lib.hid hb3
  have hT3 := there_new w3
  unfold zero16 at hT3
  have HT3 := Lib.hid hT3
  have H13 := Lib.hid (led_all N (own_one hO3.rows) (own_one hO3.opn) (own_one hO3.bats) (own_one hO3.ops))
  clear hS3 hO3 hb3 hT3
  have hbn := box_new w3 N
  unfold zero16 at hbn
  have HBN3 := Lib.hid hbn
  clear hbn
  go_upto_region 3 with (first | (refine wpList_store_mid rfl 30 _ _ rfl (w3.heap.size) 0 (Led.cells N).toArray rfl rfl (by exact HT3.out) (by show _ = some 16; kernel_rfl) H13.out ?_; generalize hWgen : World.setCells _ _ _ _ = W4 at *; clear hWgen) | (refine wp_store_mid 30 _ _ rfl (w3.heap.size) 0 (Led.cells N).toArray rfl rfl (by exact HT3.out) (by show _ = some 16; kernel_rfl) H13.out ?_; generalize hWgen : World.setCells _ _ _ _ = W4 at *; clear hWgen))
  have hb24 := below_go HB3.out HBN3.out.2
  have hbox := HBN.out.1.later hb24
  have hC2 : M.C 2 = 1 := by rw [HS.out.C]; rfl
  have c3 := hbox 3 _ rfl
  have hq : (M.C 2 == 1) = true := beq_iff_eq.2 hC2
  have HRG4 := Lib.hid hbox.range
  have HB4 := Lib.hid (below_go HB2.out hb24)
  have HO4 := Lib.hid ((HO.out.below HBN.out.2).below hb24)
  clear hbox hb24 hC2
  go_wp2_with (first | (refine wpList_load_mid rfl 30 _ rfl (w1.heap.size) 0 rfl (Led.cells M) _ (by exact HRG4.out) Try.underlying30 rfl (by show _ = some 16; kernel_rfl) ?_) | (refine wp_load_mid 30 _ rfl (w1.heap.size) 0 rfl (Led.cells M) _ (by exact HRG4.out) Try.underlying30 rfl (by show _ = some 16; kernel_rfl) ?_) | (refine list_loadk rfl rfl (b := w1.heap.size) (off := 0) rfl (cs := Led.cells M) Try.underlying30 rfl (by show _ = some 16; kernel_rfl) (by exact HRG4.out) ?_))
  refine (pGood_calls M W4 HO4.out.reads (HS.out.ok exL_ok) (HS.out.small exL_small)).mono ?_
  rw [HS.out.good, exL_good]
  rintro e w5 ⟨rfl, hb5⟩
  have HB5 := Lib.hid (below_go HB4.out hb5)
  clear hb5
  go_wp2_with fail
  go_ret
  exact ⟨rfl, HB5.out⟩
end Go.Proofs.Ytkabfjbmofpkdaa
