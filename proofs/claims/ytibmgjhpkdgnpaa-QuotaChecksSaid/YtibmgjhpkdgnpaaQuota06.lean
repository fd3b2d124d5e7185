/- Layer 15: QuotaTurns walked. -/
import Derived.Test.YtibmgjhpkdgnpaaQuota05
import Derived.Deep.MidRow
namespace Go.Proofs.Ytibmgjhpkdgnpaa
open Go.RowKit Go.Shelf

theorem tyRecs : STy Try.prog 24 33 (.agg #[.int .i64 0, .int .i64 0, .int .i64 0, .string ⟨#[]⟩, .int .u32 0]) 5 48 := .of Try.underlying24 (by kernel_rfl) rfl (by omega)

theorem rd_take {w : World} {sz n m cap : Nat} {a : Option Addr} {cs : List Value} (h : Rd w sz (.slice a n cap) n cs) (hm : m ≤ n) : Rd w sz (.slice a m cap) m (cs.take (m * sz)) := by
  obtain ⟨a', cap', hv, h0, h1, h2, h3⟩ := h
  simp only [Value.slice.injEq] at hv
  obtain ⟨rfl, -, rfl⟩ := hv
  refine ⟨a, cap, rfl, ?_, by omega, h2, ?_⟩
  · rw [List.length_take, h0]; exact Nat.min_eq_left (Nat.mul_le_mul_right _ hm)
  · rcases h3 with h3 | ⟨b, off, rfl, hc⟩
    · exact .inl h3
    · refine .inr ⟨b, off, rfl, fun j u hj => hc j u ?_⟩
      rw [List.getElem?_take] at hj
      split at hj
      · exact hj
      · cases hj
theorem recs_take {w : World} {n m cap : Nat} {a : Option Addr} {rs : List Rec} (h : Recs w (.slice a n cap) rs) (hn : rs.length = n) (hm : m ≤ n) : Recs w (.slice a m cap) (rs.take m) := by
  subst hn
  have := rd_take h hm
  rw [flatF_take rec5 rs m hm] at this
  unfold Recs
  rw [List.length_take, Nat.min_eq_left hm]
  exact this
theorem rec_one (r : Rec) : ∀ u ∈ Rec.cells r, u.oneCell' = true := by
  intro u hu
  simp only [Rec.cells, List.mem_cons, List.not_mem_nil, or_false] at hu
  rcases hu with rfl | rfl | rfl | rfl | rfl <;> rfl

/-- A struct that is loaded whole. -/
theorem m_loadk {P : Program} {l : List Oper} {Q : Exit → Act → World → Prop} {S : World → Prop} {T : Act → World → Prop} {i : Nat} {o : Oper} {π : List (Nat × Bool)} {a : Act} {w : World} {t : TypeId} {x : Operand} {b off : Nat} {cs : List Value} {d : TypeDesc}
    (ho : l[i]? = some o) (hw : Region.wanted o (yielded l.toArray a.tmps) = true) (hop : o.op = .load t x) (hx : a.eval x = .pointer (some ⟨b, off, none⟩)) (hc : ∀ W, S W → W.rangeAt b off cs)
    (hu : P.underlying t = some d) (hd : d.isRow = true) (hi : (P.info? t).map (·.size) = some cs.length) (h : wpM P l.toArray Q S T π (a.put o.dst (.agg cs.toArray)) w) : wpM P l.toArray Q S T ((i, false) :: π) a w := by
  refine m_take ho hw (fun W hW => ?_) h
  have hl := run_loadAt_mid (P := P) W b off t cs d (hc W hW) hu hd hi
  simp [execOp, hop, hx, hl, Result.andThen]

/-- A ledger's cells. -/
def ledL (rows opn batches ops : Value) (C : Nat → Int) (sealed decided keep : Int) (deployed : Bool) : List Value := [rows, .int .i64 (C 0), .int .i64 (C 1), .int .i64 (C 2), .int .i64 (C 3), .int .i64 (C 4), .int .i64 (C 5), .int .i64 (C 6), .int .i64 (C 7), opn, batches, .int .i64 sealed, .int .i64 decided, .bool deployed, ops, .int .i64 keep]

/-- What stands in the boxes of a law. -/
def LawBox (W : World) (b : Nat) (L R : List Value) : Prop := W.rangeAt b 0 L ∧ W.rangeAt (b + 1) 0 R
theorem LawBox.below {W W' : World} {b : Nat} {L R : List Value} (h : LawBox W b L R) (hb : Below W.heap.size W W') : LawBox W' b L R :=
  ⟨fun j v hv => cell_later hb (h.1 j v hv), fun j v hv => cell_later hb (h.2 j v hv)⟩
theorem law_boxes (w X : World) (t1 t2 : TypeId) (L R : List Value) (hX : X = (w.alloc (.cells L.toArray t1)).alloc (.cells R.toArray t2)) :
    X.heap.size = w.heap.size + 2 ∧ Below w.heap.size w X ∧ LawBox X w.heap.size L R := by
  subst hX
  refine ⟨by simp, ((Below.refl w.heap.size w).alloc (Nat.le_refl _) _).alloc (by simp) _, fun j v hv => ?_, fun j v hv => ?_⟩
  · rw [World.cell?_alloc_past _ _ _ (by simp), World.cell?_alloc_at _ _ _ _ rfl]; simpa using hv
  · rw [World.cell?_alloc_at _ _ _ _ (by simp)]; simpa using hv

set_option maxHeartbeats 2000000 in
set_option maxRecDepth 100000 in
theorem turns_core (rows opn batches ops v : Value) (C : Nat → Int) (sealed decided keep : Int) (deployed : Bool) (rs : List Row) (os way : List Rec) (r : Rec) (w : World)
    (hrs : Rows w rows rs) (hok : ∀ x ∈ rs, x.ok) (ho : Recs w opn os) (hv : Recs w v way) (hr : r.ok) (hlen : os.length ≤ 140737488351232) :
    Calls Try.prog 4 #[.agg (ledL rows opn batches ops C sealed decided keep deployed).toArray, v, .agg (Rec.cells r).toArray] w fun e w' => e = .returned (.bool true) ∧ Below w.heap.size w w' := by
  obtain ⟨LL, hLL⟩ : ∃ LL, LL = ledL rows opn batches ops C sealed decided keep deployed := ⟨_, rfl⟩
  obtain ⟨RL, hRL⟩ : ∃ RL, RL = Rec.cells r := ⟨_, rfl⟩
  rw [← hLL, ← hRL]
  obtain ⟨X, hX⟩ : ∃ X, X = (w.alloc (.cells LL.toArray 30)).alloc (.cells RL.toArray 33) := ⟨_, rfl⟩
  obtain ⟨hXs, hbX, hlb⟩ := law_boxes w X _ _ LL RL hX
  have HLL := Lib.hid hLL
  have HRL := Lib.hid hRL
  have hlen16 : LL.length = 16 := by rw [hLL]; rfl
  have hlen5 : RL.length = 5 := by rw [hRL]; rfl
  have HL16 := Lib.hid hlen16
  have HL5 := Lib.hid hlen5
  have HRS := Lib.hid (hrs.below hbX (Nat.le_refl _) : Rows X rows rs)
  have HO := Lib.hid (ho.below hbX (Nat.le_refl _) : Recs X opn os)
  have HV := Lib.hid (hv.below hbX (Nat.le_refl _) : Recs X v way)
  have HOK := Lib.hid hok
  have HR := Lib.hid hr
  obtain ⟨ra, rcap, rfl, -, -⟩ := Rd.slice hrs
  obtain ⟨oa, ocap, rfl, -, -⟩ := Rd.slice ho
  obtain ⟨va, vcap, rfl, hvc1, hvc2⟩ := Rd.slice hv
  have HX := Lib.hid hX
  have HBX := Lib.hid hbX
  have HLB := Lib.hid hlb
  clear hrs ho hv hok hX hbX hlb hr hXs hLL hRL hlen16 hlen5
  go_enter Try.func4, Try.ntmps4
  go_wp2_with fail
  rw [← HX.out]
  refine (known_calls X).mono ?_
  rintro e w1 ⟨rfl, hb1⟩
  have HB1 := Lib.hid hb1
  clear hb1
  -- the way, cut
  have hcut : ∃ n : Nat, n ≤ 300 ∧ n ≤ way.length ∧ ((way.length ≤ 300 ∧ n = way.length) ∨ (300 < way.length ∧ n = 300)) := by
    rcases Nat.lt_or_ge 300 way.length with h | h
    · exact ⟨300, by omega, by omega, .inr ⟨h, rfl⟩⟩
    · exact ⟨way.length, by omega, by omega, .inl ⟨h, rfl⟩⟩
  obtain ⟨n, hn1, hn2, hway⟩ := hcut
  have hv' := recs_take HV.out rfl hn2
  have hwl : (way.take n).length = n := by rw [List.length_take]; omega
  generalize hW : way.take n = wy at *
  have HV' := Lib.hid hv'
  have HWL := Lib.hid hwl
  clear hv' hwl hW HV
  rcases hway with ⟨q1, q2⟩ | ⟨q1, q2⟩
  all_goals
    have hq : (300 : Int) < way.length ∨ ¬ (300 : Int) < way.length := by omega
    subst q2
    go_wp2_with fail
    have hwa := Nat.le_of_eq HWL.out
    have hwb := Nat.le_of_eq HWL.out.symm
    go_loopw [7, 8] (fun bv i wr => ∃ m : Nat, m ≤ wy.length ∧ i = .int .i64 ((m : Int) - 1) ∧ wr.ownsRow X.heap.size 33 5 bv (wy.length - m) (flatF Rec.cells (wy.drop m).reverse) ∧ Below X.heap.size X wr) (fun _ i _ => (intOf i + 1).toNat)
    case atStart => exact ⟨wy.length, by omega, by congr 1; omega, by rw [Nat.sub_self, List.drop_length]; exact World.ownsRow_nil _ _ _ _, HB1.out⟩
    case round =>
      obtain ⟨m, hm, rfl, hbv, hb⟩ := hrel
      have HBV := Lib.hid hbv
      have HB := Lib.hid hb
      rcases Nat.eq_zero_or_pos m with h0 | h0
      · subst h0
        have hrv : (flatF Rec.cells (wy.drop 0).reverse) = flatF Rec.cells wy.reverse := by simp
        have hlr : wy.length - 0 = wy.reverse.length := by simp
        rw [hrv, hlr] at hbv
        obtain ⟨ba, bc, hbs⟩ := own_slice hbv
        have HRV := Lib.hid (Rd.of_own hbv : Recs wr _ wy.reverse)
        have hrl : wy.reverse.length ≤ 300 := by simp; omega
        subst hbs
        have hcl := HLB.out.below hb
        have HLW := Lib.hid hcl
        clear hbv hb hrv hlr HBV
        go_wp2_with fail
        refine region_m [(0, false), (1, false), (2, false), (4, false), (5, false), (6, false), (3, true), (7, true), (8, false)] 9 (fun W => LawBox W w.heap.size LL RL) (by kernel_rfl) (by kernel_rfl) hcl ?_
        clear hcl
        refine m_loadk rfl rfl rfl rfl (fun W hW => hW.1) Try.underlying30 rfl (by rw [HL16.out]; kernel_rfl) ?_
        simp only [Act.put, List.setIfInBounds_toArray, List.set_cons_zero, List.set_cons_succ]
        iterate 1
          refine m_take (v := ?_) rfl rfl ?_ ?_
          rotate_left
          · intro W hW
            go_simp
            with_reducible rfl
          simp only [Act.put, List.setIfInBounds_toArray, List.set_cons_zero, List.set_cons_succ]
        refine m_loadk rfl rfl rfl rfl (fun W hW => hW.2) Try.underlying33 rfl (by rw [HL5.out]; kernel_rfl) ?_
        simp only [Act.put, List.setIfInBounds_toArray, List.set_cons_zero, List.set_cons_succ]
        refine m_loadk rfl rfl rfl rfl (fun W hW => hW.1) Try.underlying30 rfl (by rw [HL16.out]; kernel_rfl) ?_
        simp only [Act.put, List.setIfInBounds_toArray, List.set_cons_zero, List.set_cons_succ]
        iterate 1
          refine m_take (v := ?_) rfl rfl ?_ ?_
          rotate_left
          · intro W hW
            go_simp
            with_reducible rfl
          simp only [Act.put, List.setIfInBounds_toArray, List.set_cons_zero, List.set_cons_succ]
        refine m_loadk rfl rfl rfl rfl (fun W hW => hW.2) Try.underlying33 rfl (by rw [HL5.out]; kernel_rfl) ?_
        simp only [Act.put, List.setIfInBounds_toArray, List.set_cons_zero, List.set_cons_succ]
        refine m_loud rfl (fun K hK => ?_)
        have HK := Lib.hid hK
        clear hK
        go_simp
        have hc1 := check_calls (.slice ra rs.length rcap) (.slice oa os.length ocap) batches ops _ C sealed decided keep deployed rs os wy r _ (HRS.out.below HB.out.drew (Nat.le_refl _)) HOK.out (HO.out.below HB.out.drew (Nat.le_refl _)) (HV'.out.below HB.out.drew (Nat.le_refl _)) HR.out (by omega)
        change Calls _ _ #[.agg (ledL _ _ _ _ _ _ _ _ _).toArray, _, .agg (Rec.cells r).toArray] _ _ at hc1
        rw [← HLL.out, ← HRL.out] at hc1
        refine hc1.mono ?_
        clear hc1
        rintro e w7 ⟨rfl, hb7⟩
        have hb7 : Below wr.heap.size wr w7 := ((Below.refl wr.heap.size wr).drew).trans hb7
        have hcl7 := HLW.out.below hb7
        have HB7 := Lib.hid (HB.out.trans (hb7.mono HB.out.size))
        have HRV7 := Lib.hid (HRV.out.below hb7 (Nat.le_refl _) : Recs w7 _ wy.reverse)
        refine HK.out _ _ hcl7 ?_
        clear HK
        clear hb7
        refine m_loud rfl (fun K hK => ?_)
        have HK := Lib.hid hK
        clear hK
        go_simp
        have hc2 := check_calls (.slice ra rs.length rcap) (.slice oa os.length ocap) batches ops _ C sealed decided keep deployed rs os wy.reverse r _ (HRS.out.below HB7.out (Nat.le_refl _)) HOK.out (HO.out.below HB7.out (Nat.le_refl _)) HRV7.out HR.out (by omega)
        change Calls _ _ #[.agg (ledL _ _ _ _ _ _ _ _ _).toArray, _, .agg (Rec.cells r).toArray] _ _ at hc2
        rw [← HLL.out, ← HRL.out, List.length_reverse] at hc2
        refine hc2.mono ?_
        clear hc2
        rintro e w8 ⟨rfl, hb8⟩
        rw [checkCode_reverse]
        generalize checkCode rs (C r.q.toNat) os wy r = code at *
        have hcl8 := hcl7.below hb8
        have HB8 := Lib.hid (HB7.out.trans (hb8.mono HB7.out.size))
        refine HK.out _ _ hcl8 ?_
        clear HK
        clear hb8 hcl7 hcl8
        iterate 1
          refine m_take (v := ?_) rfl rfl ?_ ?_
          rotate_left
          · intro W hW
            go_simp
            with_reducible rfl
          simp only [Act.put, List.setIfInBounds_toArray, List.set_cons_zero, List.set_cons_succ]
        refine m_done ?_
        simp only [List.drop_succ_cons, List.drop_zero]
        go_wp2_with fail
        simp only [NP]
        go_wp2_with fail
        go_ret
        exact ⟨rfl, HBX.out.trans (HB8.out.mono HBX.out.size)⟩
      · obtain ⟨k, rfl⟩ : ∃ k, m = k + 1 := ⟨m - 1, by omega⟩
        have hk : k < wy.length := by omega
        obtain ⟨b2, o2, rfl, c0, c1, c2, c3, c4⟩ := rec_at HV'.out k hk
        have d0 := cell_later hb c0
        have d1 := cell_later hb c1
        have d2 := cell_later hb c2
        have d3 := cell_later hb c3
        have d4 := cell_later hb c4
        have hi : ((k + 1 : Nat) : Int) - 1 = k := by omega
        rw [hi]
        have hal := (Below.refl wr.heap.size wr).alloc (Nat.le_refl _) (.cells #[.int .i64 wy[k].p, .int .i64 wy[k].s, .int .i64 wy[k].q, .string wy[k].key, .int .u32 wy[k].val] 33)
        have HO4 := Lib.hid (ownsRow_below hbv hal (Nat.le_refl _))
        have HB4 := Lib.hid (hb.alloc hb.size (.cells #[.int .i64 wy[k].p, .int .i64 wy[k].s, .int .i64 wy[k].q, .string wy[k].key, .int .u32 wy[k].val] 33))
        have HLIT := Lib.hid (Rd.lit (w := wr) (cs := #[.int .i64 wy[k].p, .int .i64 wy[k].s, .int .i64 wy[k].q, .string wy[k].key, .int .u32 wy[k].val]) (e := 33) (n := 1) (sz := 5) rfl (by omega))
        have hone : ∀ u ∈ (#[.int .i64 wy[k].p, .int .i64 wy[k].s, .int .i64 wy[k].q, .string wy[k].key, .int .u32 wy[k].val] : Array Value).toList, u.oneCell' = true := rec_one wy[k]
        have HONE := Lib.hid hone
        have hnx : flatF Rec.cells (wy.drop (k + 1)).reverse ++ Rec.cells wy[k] = flatF Rec.cells (wy.drop k).reverse := by
          rw [List.drop_eq_getElem_cons hk, List.reverse_cons, flatF_append, flatF_one]
        have HNX := Lib.hid hnx
        clear hbv hb c0 c1 c2 c3 c4 hi hal hone hnx HBV
        go_wp2_with (at_builtin; go_loud (refine app_keep tyRecs HO4.out HLIT.out HONE.out (by omega) (by omega) (by omega) HB4.out.size rfl rfl rfl rfl ?_; intro g cap5 w5 h1 h2 h3 h4; have HO5 := Lib.hid h1; have HB5 := Lib.hid (HB4.out.grown h3 HB4.out.size (fun j e => (World.ownsRow.lt HO4.out j e).1)); clear h1 h2 h3 h4))
        go_roundw
        case rel =>
          refine ⟨k, by omega, rfl, ?_, HB5.out⟩
          have h := HO5.out
          rw [show wy.length - (k + 1) + 1 = wy.length - k by omega] at h
          rw [← HNX.out, show wy.length - k = wy.length - (k + 1) + 1 by omega]
          rw [show wy.length - (k + 1) + 1 = wy.length - k by omega]
          exact h
        case measure => simp [intOf] <;> omega
end Go.Proofs.Ytibmgjhpkdgnpaa
