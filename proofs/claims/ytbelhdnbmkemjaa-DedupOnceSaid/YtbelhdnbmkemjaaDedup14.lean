/- Layer 13: DedupOnce walked. -/
import Derived.Test.YtbelhdnbmkemjaaDedup12
namespace Go.Proofs.Ytbelhdnbmkemjaa
open Go.RowKit Go.Shelf

section
variable {P : Program}
theorem make_full_list {ops : Array Oper} {rest : List Oper} {o : Oper} {a : Act} {Q : Exit → Act → World → Prop} {w : World} {x y : Operand} {t e : TypeId} {z : Value} {bytes base c : Nat} (T : STy P t e z 1 bytes) (hz1 : z.cells = #[z])
    (hgd : Region.wanted o (yielded ops a.tmps) = true) (ho : o.op = .makeSlice t x y) (hx : a.eval x = .int .i64 (c : Int)) (hy : a.eval y = .int .i64 (c : Int)) (hb : bytes * c ≤ 281474976710656) (hm : c ≤ 9223372036854775807) (hbase : base ≤ w.heap.size)
    (h : ∀ w', w'.ownsRow base e 1 (.slice (some ⟨w.heap.size, 0, none⟩) c c) c (List.replicate c z) → w.grownBy w' none → wpList P ops Q rest (a.put o.dst (.slice (some ⟨w.heap.size, 0, none⟩) c c)) w') : wpList P ops Q (o :: rest) a w := by
  obtain ⟨i, hi, hz, hsz, hby⟩ := T.hi
  obtain ⟨w', hrun, h1, h2⟩ := run_make_full (P := P) w base t e i z 1 T.ht hi hz hsz .i64 .i64 c (by rw [hby]; exact hb) (by unfold maxLen; omega) hbase
  rw [hz1, Nat.mul_one, toList_madeCells_one] at h1
  refine list_value hgd ?_ (h w' h1 h2)
  simp [execOp, ho, hx, hy, hrun, Result.andThen]
end

theorem tyInts : STy Try.prog 36 3 (.int .i64 0) 1 8 := .of Try.underlying36 (by kernel_rfl) rfl (by omega)

/-- The numbers that were taken. -/
def Taken (w : World) (base M : Nat) (rs : List Row) : Prop :=
  ∃ xs : List Value, w.ownsRow base 3 1 (.slice (some ⟨M, 0, none⟩) 512 512) 512 xs ∧ ∀ p q : Nat, p < 64 → q < 8 → xs[8 * p + q]? = some (.int .i64 (lastOf rs p q + 1))
theorem Taken.cell {w : World} {base M : Nat} {rs : List Row} (h : Taken w base M rs) {p q : Nat} (hp : p < 64) (hq : q < 8) : w.cell? ⟨M, 8 * p + q, none⟩ = some (.int .i64 (lastOf rs p q + 1)) ∧ w.frozen? ⟨M, 8 * p + q, none⟩ = false := by
  obtain ⟨xs, h1, h2⟩ := h
  have := World.ownsRow.cells h1 rfl _ _ (h2 p q hp hq)
  rw [add_off, Nat.zero_add] at this
  exact ⟨this, World.ownsRow.frozenAt h1 _⟩
theorem Taken.below {w w' : World} {base M : Nat} {rs : List Row} (h : Taken w base M rs) (hb : Below w.heap.size w w') : Taken w' base M rs := by
  obtain ⟨xs, h1, h2⟩ := h
  exact ⟨xs, ownsRow_below h1 hb (Nat.le_refl _), h2⟩
theorem Taken.put {w : World} {base M : Nat} {rs : List Row} (h : Taken w base M rs) (ht : Table rs) {p q : Nat} (hp : p < 64) (hq : q < 8) (s : Int) (hlk : lookOf rs p q s = 1) : Taken (w.setCell ⟨M, 8 * p + q, none⟩ (.int .i64 (lastOf rs p q + 1 + 1))) base M (takeRows rs p q s) := by
  obtain ⟨xs, h1, h2⟩ := h
  have hr : rightB p q = true := by unfold rightB; exact decide_eq_true (by omega)
  have hs := look_one hlk
  have e : takeRows rs p q s = putRowAt ⟨p, q, s⟩ rs := if_pos ⟨hr, hlk⟩
  refine ⟨_, (World.ownsRow.stored h1 _ _).1, fun p' q' hp' hq' => ?_⟩
  rw [e]
  have hl : 8 * p + q < xs.length := (List.getElem?_eq_some_iff.1 (h2 p q hp hq)).1
  by_cases hpq : p = p' ∧ q = q'
  · obtain ⟨rfl, rfl⟩ := hpq
    rw [last_put ht, List.getElem?_set_self hl, hs]
  · rw [List.getElem?_set_ne (by omega), h2 p' q' hp' hq', last_put_other ht p q s p' q' hr (by omega)]
theorem Taken.keep {w : World} {base M : Nat} {rs : List Row} (h : Taken w base M rs) {p q s : Int} (hlk : ¬ lookOf rs p q s = 1) : Taken w base M (takeRows rs p q s) := by
  have e : takeRows rs p q s = rs := if_neg (fun h => hlk h.2)
  rw [e]
  exact h
theorem Taken.lt {w : World} {base M : Nat} {rs : List Row} (h : Taken w base M rs) : base ≤ M ∧ M < w.heap.size := by
  obtain ⟨xs, h1, -⟩ := h
  exact World.ownsRow.lt h1 M rfl

theorem last_apart' {rs : List Row} (h : Table rs) (p q s a b : Int) (hne : ¬ (p = a ∧ q = b)) : lastOf (takeRows rs p q s) a b = lastOf rs a b := by
  unfold takeRows
  split
  · rename_i hc
    exact last_put_other h p q s a b hc.1 hne
  · rfl
theorem mod_nat (n : Int) (m : Nat) (h0 : 0 < m) (h1 : m ≤ 1000) : ∃ k : Nat, wrap64 ((IntKind.u64.wrap n).tmod m) = k ∧ k < m := by
  have e : IntKind.u64.wrap n = n % 18446744073709551616 := by simp [IntKind.wrap, IntKind.bits, IntKind.signed]
  rw [e, Int.tmod_eq_emod_of_nonneg (by omega)]
  have h2 := Int.emod_nonneg (n % 18446744073709551616) (show (m : Int) ≠ 0 by omega)
  have h3 := Int.emod_lt_of_pos (n % 18446744073709551616) (show (0 : Int) < m by omega)
  refine ⟨((n % 18446744073709551616) % m).toNat, ?_, by omega⟩
  unfold wrap64
  omega
/-- What Look says of a number, where few were taken. -/
theorem look_three (rs : List Row) (p q s : Int) (hb : lastOf rs p q + 1 ≤ 300) :
    (lookOf rs p q s = 2 ∧ (s == lastOf rs p q + 1) = false ∧ decide (s < lastOf rs p q + 1) = true) ∨
    (lookOf rs p q s = 1 ∧ (s == lastOf rs p q + 1) = true ∧ decide (s < lastOf rs p q + 1) = false) ∨
    (lookOf rs p q s = 3 ∧ (s == lastOf rs p q + 1) = false ∧ decide (s < lastOf rs p q + 1) = false) := by
  unfold lookOf
  generalize lastOf rs p q = L at *
  rw [if_neg (by omega)]
  by_cases h1 : s ≤ L
  · left; exact ⟨if_pos h1, beq_eq_false_iff_ne.2 (by omega), decide_eq_true (by omega)⟩
  · rw [if_neg h1]
    by_cases h2 : s = L + 1
    · right; left; exact ⟨if_pos h2, beq_iff_eq.2 h2, decide_eq_false (by omega)⟩
    · right; right; exact ⟨if_neg h2, beq_eq_false_iff_ne.2 h2, decide_eq_false (by omega)⟩
theorem last_take_le {rs : List Row} (ht : Table rs) (p q s : Int) (k : Int) (hb : ∀ p q : Int, lastOf rs p q + 1 ≤ k) (p' q' : Int) : lastOf (takeRows rs p q s) p' q' + 1 ≤ k + 1 := by
  by_cases e : p = p' ∧ q = q'
  · obtain ⟨rfl, rfl⟩ := e
    unfold takeRows
    split
    · rename_i h
      rw [last_put ht, look_one h.2]
      have := hb p q
      omega
    · have := hb p q
      omega
  · rw [last_apart' ht p q s p' q' e]
    have := hb p' q'
    omega

set_option maxHeartbeats 4000000 in
set_option maxRecDepth 100000 in
theorem once_core (v : Value) (cs : List Row) (w : World) (hv : Rows w v cs) (hok : ∀ r ∈ cs, r.ok) :
    Calls Try.prog 6 #[v] w fun e w' => e = .returned (.bool true) ∧ Below w.heap.size w w' := by
  have HV := Lib.hid hv
  have HOK := Lib.hid hok
  obtain ⟨a, cap, rfl, hle, hcap⟩ := Rd.slice hv
  clear hv hok
  go_enter Try.func6, Try.ntmps6
  go_wp2_with fail
  refine (known_calls _).mono ?_
  rintro e w1 ⟨rfl, hb1⟩
  have HB1 := Lib.hid hb1
  have hsz1 := hb1.size
  clear hb1
  go_wp2_with (at_make; go_loud (refine make_full_list (base := w.heap.size) tyInts rfl rfl rfl (c := 512) rfl rfl (by omega) (by omega) hsz1 ?_; intro w2 hm2 hb2))
  have htk2 : Taken w2 w.heap.size w1.heap.size [] := ⟨_, hm2, fun p q hp hq => by rw [List.getElem?_replicate_of_lt (by omega)]; rfl⟩
  have HB2 := Lib.hid (HB1.out.grown hb2 hsz1 (by simp))
  clear hm2 hb2 hsz1
  generalize w1.heap.size = M at *
  have HTK2 := Lib.hid htk2
  clear htk2
  go_loopw [3, 5, 6, 7, 8, 9, 10] (fun rv iv _ _ _ _ _ wr => ∃ (k : Nat) (rs : List Row), k ≤ cs.length ∧ k ≤ 300 ∧ iv = .int .i64 k ∧ Table rs ∧ (∀ r ∈ rs, r.ok) ∧ (∀ p q : Int, lastOf rs p q + 1 ≤ k) ∧ wr.ownsRow w2.heap.size 42 3 rv rs.length (flatF Row.cells rs) ∧ Taken wr w.heap.size M rs ∧ Below w.heap.size w wr ∧ w2.heap.size ≤ wr.heap.size) (fun _ iv _ _ _ _ _ _ => 300 - (intOf iv).toNat)
  case atStart => exact ⟨0, [], by omega, by omega, rfl, ⟨trivial, (fun r h => by cases h)⟩, (fun r h => by cases h), (fun p q => by rw [lastOf_nil]; omega), World.ownsRow_nil _ _ _ _, HTK2.out, HB2.out, Nat.le_refl _⟩
  case round =>
    obtain ⟨k, rs, hk, hk3, rfl, ht, hrok, hbd, ho, htk, hb, hsz⟩ := hrel
    obtain ⟨ra, rc, rfl⟩ := own_slice ho
    have HO := Lib.hid ho
    have HT := Lib.hid ht
    have HROK := Lib.hid hrok
    have HBD := Lib.hid hbd
    have HTK := Lib.hid htk
    have HB := Lib.hid hb
    have HSZ := Lib.hid hsz
    clear ho ht hrok hbd htk hb hsz
    by_cases hlt : k < cs.length ∧ k < 300
    · obtain ⟨hl1, hl2⟩ := hlt
      obtain ⟨b, o, rfl, c0, c1, c2⟩ := row_at HV.out k hl1
      have d0 := cell_later HB.out c0
      have d1 := cell_later HB.out c1
      have d2 := cell_later HB.out c2
      have HC2 := Lib.hid c2
      have hokk := HOK.out cs[k] (List.getElem_mem hl1)
      clear c0 c1 c2
      generalize cs[k] = R at *
      go_wp2_with fail
      obtain ⟨p, hp, hp64⟩ := mod_nat R.p 64 (by omega) (by omega)
      obtain ⟨q, hq, hq8⟩ := mod_nat R.q 8 (by omega) (by omega)
      have hp : wrap64 ((IntKind.u64.wrap R.p).tmod 64) = (p : Int) := hp
      have hq : wrap64 ((IntKind.u64.wrap R.q).tmod 8) = (q : Int) := hq
      rw [hp, hq]
      clear hp hq
      refine (take_calls _ rs p q R.l _ (Rows.of_own HO.out) HT.out HROK.out hokk.2.2).mono ?_
      rintro e w3 ⟨v3, rfl, ho3, hb3⟩
      have hr : rightB p q = true := by unfold rightB; exact decide_eq_true (by omega)
      have htc : takeCode rs p q R.l = lookOf rs p q R.l := if_pos hr
      rw [htc]
      have HO3 := Lib.hid (ownsRow_mono ho3 HSZ.out)
      have hT3 := table_take HT.out p q R.l
      have HT3 := Lib.hid hT3
      have HROK3 := Lib.hid (ok_take HROK.out p q R.l ⟨by omega, by omega⟩ ⟨by omega, by omega⟩ hokk.2.2)
      have HBD3 := Lib.hid (last_take_le HT.out p q R.l k HBD.out)
      have htk3 := HTK.out.below hb3
      have HTK3 := Lib.hid htk3
      have hcell := htk3.cell hp64 hq8
      obtain ⟨m0, f0⟩ := hcell
      have HB3 := Lib.hid (HB.out.trans (hb3.mono HB.out.size))
      have HSZ3 := Lib.hid (Nat.le_trans HSZ.out hb3.size)
      obtain ⟨a3, c3, rfl⟩ := own_slice ho3
      have e2 := cell_later hb3 d2
      have hlg := last_ge (fun r hr => (HT.out.2 r hr).2) (p : Int) (q : Int)
      have hlb := HBD.out p q
      have hway := look_three rs p q R.l (by omega)
      clear hr htc hT3 htk3 hb3 ho3 d0 d1 d2 hokk
      have q1 : IntKind.i64.wrap (8 * (p : Int)) = 8 * (p : Int) := by rw [IntKind.wrap_i64]; omega
      have q2 : IntKind.i64.wrap (8 * (p : Int) + (q : Int)) = 8 * (p : Int) + (q : Int) := by rw [IntKind.wrap_i64]; omega
      have q3 : (0 : Int) ≤ 8 * (p : Int) + (q : Int) := by omega
      have q4 : 8 * (p : Int) + (q : Int) < 512 := by omega
      have q5 : (8 * (p : Int) + (q : Int)).toNat = 8 * p + q := by omega
      have HPUT := Lib.hid (HTK3.out.put HT.out hp64 hq8 R.l)
      have HKEEP := Lib.hid (HTK3.out.keep (p := p) (q := q) (s := R.l))
      have HLT := Lib.hid (HTK3.out.lt)
      clear hp64 hq8
      rcases hway with ⟨k1, k2, k3⟩ | ⟨k1, k2, k3⟩ | ⟨k1, k2, k3⟩
      · have HK := Lib.hid (show ¬ lookOf rs p q R.l = 1 by rw [k1]; omega)
        rw [k1]
        clear k1
        generalize lastOf rs p q = L at *
        have q6 : IntKind.i64.wrap (L + 1) = L + 1 := by rw [IntKind.wrap_i64]; omega
        clear hlg hlb
        go_wp2_with fail
        go_roundw
        case rel => exact ⟨k + 1, _, by omega, by omega, by go_num, HT3.out, HROK3.out, (fun p q => by have := HBD3.out p q; omega), HO3.out, HKEEP.out HK.out, HB3.out, HSZ3.out⟩
        case measure => simp [intOf]; omega
      · have HK := Lib.hid k1
        rw [k1]
        clear k1
        generalize lastOf rs p q = L at *
        have q6 : IntKind.i64.wrap (L + 1) = L + 1 := by rw [IntKind.wrap_i64]; omega
        have q7 : IntKind.i64.wrap (L + 1 + 1) = L + 1 + 1 := by rw [IntKind.wrap_i64]; omega
        clear hlg hlb
        go_wp2_with fail
        go_roundw
        case rel => exact ⟨k + 1, _, by omega, by omega, by go_num, HT3.out, HROK3.out, (fun p q => by have := HBD3.out p q; omega), ownsRow_set HO3.out ⟨M, _, none⟩ _ HTK2.out.lt.2, HPUT.out HK.out, HB3.out.setCell (p := ⟨M, _, none⟩) HLT.out.1 _, Nat.le_trans HSZ3.out ((Below.refl w.heap.size w3).setCell (p := ⟨M, _, none⟩) HLT.out.1 _).size⟩
        case measure => simp [intOf]; omega
      · have HK := Lib.hid (show ¬ lookOf rs p q R.l = 1 by rw [k1]; omega)
        rw [k1]
        clear k1
        generalize lastOf rs p q = L at *
        have q6 : IntKind.i64.wrap (L + 1) = L + 1 := by rw [IntKind.wrap_i64]; omega
        clear hlg hlb
        go_wp2_with fail
        go_roundw
        case rel => exact ⟨k + 1, _, by omega, by omega, by go_num, HT3.out, HROK3.out, (fun p q => by have := HBD3.out p q; omega), HO3.out, HKEEP.out HK.out, HB3.out, HSZ3.out⟩
        case measure => simp [intOf]; omega
    · have hway : (¬ k < cs.length) ∨ (k < cs.length ∧ ¬ (k : Int) < 300) := by omega
      clear hlt hk
      obtain ⟨Z, rfl⟩ : ∃ Z, Z = wr := ⟨_, rfl⟩
      have HR := Lib.hid (Rows.of_own HO.out)
      rcases hway with h1 | ⟨h1, h2⟩
      all_goals
        go_wp2_with fail
        go_loopw [11, 12] (fun pv _ W => ∃ p : Nat, p ≤ 64 ∧ pv = .int .i64 p ∧ Below Z.heap.size Z W) (fun pv _ _ => 64 - (intOf pv).toNat)
        case atStart => exact ⟨0, by omega, rfl, Below.refl _ _⟩
        case round =>
          obtain ⟨p, hp, rfl, hbp⟩ := hrel
          have HBP := Lib.hid hbp
          clear hbp
          by_cases hp64 : p < 64
          · have hpi : decide ((p : Int) < 64) = true := decide_eq_true (by omega)
            go_wp2_with fail
            go_loopw [12] (fun qv W => ∃ q : Nat, q ≤ 8 ∧ qv = .int .i64 q ∧ Below Z.heap.size Z W) (fun qv _ => 8 - (intOf qv).toNat)
            case atStart => exact ⟨0, by omega, rfl, HBP.out⟩
            case round =>
              obtain ⟨q, hq, rfl, hbq⟩ := hrel
              have HBQ := Lib.hid hbq
              by_cases hq8 : q < 8
              · have hcell := (HTK.out.below hbq).cell hp64 hq8
                obtain ⟨m0, f0⟩ := hcell
                have HRQ := Lib.hid (HR.out.below hbq (Nat.le_refl _))
                have hlg := last_ge (fun r hr => (HT.out.2 r hr).2) (p : Int) (q : Int)
                have hlb := HBD.out p q
                have q1 : IntKind.i64.wrap (8 * (p : Int)) = 8 * (p : Int) := by rw [IntKind.wrap_i64]; omega
                have q2 : IntKind.i64.wrap (8 * (p : Int) + (q : Int)) = 8 * (p : Int) + (q : Int) := by rw [IntKind.wrap_i64]; omega
                have q3 : (0 : Int) ≤ 8 * (p : Int) + (q : Int) := by omega
                have q4 : 8 * (p : Int) + (q : Int) < 512 := by omega
                have q5 : (8 * (p : Int) + (q : Int)).toNat = 8 * p + q := by omega
                have HL := Lib.hid (show ∃ L, L = lastOf rs p q from ⟨_, rfl⟩)
                clear hbq f0
                obtain ⟨L, hL⟩ := HL.out
                rw [← hL] at m0 hlg hlb
                have q6 : IntKind.i64.wrap (L + 1 - 1) = L := by rw [IntKind.wrap_i64]; omega
                have q7 : IntKind.i64.wrap L = L := by rw [IntKind.wrap_i64]; omega
                have HLE := Lib.hid hL
                clear hL HL hlg hlb
                go_wp2_with fail
                refine region_m [(0, false), (1, false), (2, false), (4, false), (5, false), (6, false), (7, false), (8, false), (9, false), (10, false), (11, false), (3, true), (12, false)] 13 (fun V => V.cell? ⟨M, 8 * p + q, none⟩ = some (.int .i64 (L + 1))) (by kernel_rfl) (by kernel_rfl) m0 ?_
                iterate 11
                  refine m_take (v := ?_) rfl rfl ?_ ?_
                  rotate_left
                  · intro W hW
                    go_simp
                    with_reducible rfl
                  simp only [Act.put, List.setIfInBounds_toArray, List.set_cons_zero, List.set_cons_succ]
                refine m_loud rfl (fun K hK => ?_)
                have HK := Lib.hid hK
                clear hK
                go_simp
                refine (last_calls _ rs p q _ (show Rows wr.drew _ rs from HRQ.out)).mono ?_
                rintro e w8 ⟨rfl, hb8⟩
                have hb8 : Below wr.heap.size wr w8 := ((Below.refl wr.heap.size wr).drew).trans hb8
                have HB8 := Lib.hid (HBQ.out.trans (hb8.mono HBQ.out.size))
                refine HK.out _ _ (cell_later hb8 m0) ?_
                clear HK
                clear hb8 m0
                rw [← HLE.out]
                iterate 1
                  refine m_take (v := ?_) rfl rfl ?_ ?_
                  rotate_left
                  · intro W hW
                    go_simp
                    with_reducible rfl
                  simp only [Act.put, List.setIfInBounds_toArray, List.set_cons_zero, List.set_cons_succ]
                refine m_done ?_
                simp only [List.drop_succ_cons, List.drop_zero]
                go_wp2_with fail
                simp only [NP]
                go_wp2_with fail
                go_roundw
                case rel => exact ⟨q + 1, by omega, by go_num, HB8.out⟩
                case measure => simp [intOf]; omega
              · obtain rfl : q = 8 := by omega
                clear hbq
                go_wp2_with fail
                go_roundw
                case rel => exact ⟨p + 1, by omega, by go_num, HBQ.out⟩
                case measure => simp [intOf]; omega
          · obtain rfl : p = 64 := by omega
            go_wp2_with fail
            refine (dgood_calls _ rs _ (HR.out.below HBP.out (Nat.le_refl _))).mono ?_
            rintro e w9 ⟨rfl, hb9⟩
            rw [(table_good rs).2 HT.out]
            have HB9 := Lib.hid (HBP.out.trans (hb9.mono HBP.out.size))
            clear hb9
            go_wp2_with fail
            go_ret
            exact ⟨rfl, HB.out.trans (HB9.out.mono HB.out.size)⟩
end Go.Proofs.Ytbelhdnbmkemjaa
