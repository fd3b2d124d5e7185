/- Layer 5: MailNone walked. -/
import Derived.Test.YtpmkepmnldkccaaMail07
namespace Go.Proofs.Ytpmkepmnldkccaa
open Go.RowKit

/-- A row that came in, element by element. -/
theorem rd_at {w : World} {a : Option Addr} {n cap : Nat} {es : List Ent} (h : Rd w 3 (.slice a n cap) es.length (flat es)) (i : Nat) (hi : i < es.length) :
    ∃ b o, a = some ⟨b, o, none⟩ ∧ w.cell? ⟨b, o + i * 3, none⟩ = some (.int .i64 es[i].f) ∧ w.cell? ⟨b, o + i * 3 + 1, none⟩ = some (.int .i64 es[i].t) ∧ w.cell? ⟨b, o + i * 3 + 2, none⟩ = some es[i].dv := by
  obtain ⟨x, y, z⟩ := flat_get es i hi
  obtain ⟨a', cap', hv, h0, h1, h2, h3⟩ := h
  simp only [Value.slice.injEq] at hv
  obtain ⟨rfl, rfl, rfl⟩ := hv
  rcases h3 with h3 | ⟨b, o, rfl, hc⟩
  · omega
  · exact ⟨b, o, rfl, hc _ _ x, by rw [Nat.add_assoc]; exact hc _ _ y, by rw [Nat.add_assoc]; exact hc _ _ z⟩
theorem rd1_at {w : World} {a : Option Addr} {n cap : Nat} {ns : List Int} (h : Rd w 1 (.slice a n cap) ns.length (ints ns)) (i : Nat) (hi : i < ns.length) :
    ∃ b o, a = some ⟨b, o, none⟩ ∧ w.cell? ⟨b, o + i, none⟩ = some (.int .i64 ns[i]) := by
  obtain ⟨a', cap', hv, h0, h1, h2, h3⟩ := h
  simp only [Value.slice.injEq] at hv
  obtain ⟨rfl, rfl, rfl⟩ := hv
  rcases h3 with h3 | ⟨b, o, rfl, hc⟩
  · omega
  · exact ⟨b, o, rfl, hc _ _ (ints_get ns i hi)⟩

/-- What was sent of the first k. -/
def sentOf (N : Int) (ss : List Ent) (k : Nat) : List Ent := (ss.take k).filter fun e => decide (sendCode N e.f e.t e.data = 0)
theorem sentOf_length (N : Int) (ss : List Ent) (k : Nat) : (sentOf N ss k).length ≤ k := by
  have h1 := List.length_filter_le (fun e : Ent => decide (sendCode N e.f e.t e.data = 0)) (ss.take k)
  have h2 : (ss.take k).length ≤ k := by simp; omega
  unfold sentOf; omega
theorem sentOf_yes (N : Int) (ss : List Ent) (k : Nat) (hk : k < ss.length) (h : sendCode N ss[k].f ss[k].t ss[k].data = 0) : sentOf N ss (k + 1) = sentOf N ss k ++ [ss[k]] := by
  unfold sentOf
  rw [List.take_succ_eq_append_getElem hk, List.filter_append]
  simp [h]
theorem sentOf_no (N : Int) (ss : List Ent) (k : Nat) (hk : k < ss.length) (h : sendCode N ss[k].f ss[k].t ss[k].data ≠ 0) : sentOf N ss (k + 1) = sentOf N ss k := by
  unfold sentOf
  rw [List.take_succ_eq_append_getElem hk, List.filter_append]
  simp [h]
theorem sentOf_mem (N : Int) (ss : List Ent) (k : Nat) : ∀ e ∈ sentOf N ss k, e ∈ ss := fun _ he => List.mem_of_mem_take (List.mem_filter.1 he).1

/-- Two rows of messages that share no block. -/
def Away (u v : Value) : Prop := ∀ g, u.ownBlock = some g → v.ownBlock ≠ some g

theorem Post.appL {W W' : World} {pb : Nat} {N : Int} {lv rv : Value} {es : List Ent} {n : Nat} {vs : List Value} (h : Post W pb N rv es) (hk : W.ownsRow (pb + 1) 32 3 lv n vs) (ha : Away rv lv) (hg : W.grownBy W' lv.ownBlock) : Post W' pb N rv es :=
  h.only (Only.of_grown hg) (fun e => by have := (World.ownsRow.lt hk pb e).1; omega) (fun g hg2 => ha g hg2) (fun x hx g hg2 e => own_apart hk (h.data x hx) (by decide) g e hg2)

set_option maxHeartbeats 2000000 in
set_option maxRecDepth 100000 in
theorem none_core (v v2 : Value) (ss : List Ent) (ps : List Int) (w : World) (hv : Rd w 3 v ss.length (flat ss)) (hr : Reads w ss) (hp : Rd w 1 v2 ps.length (ints ps)) :
    Calls Try.prog 3 #[v, v2] w fun e w' => e = .returned (.bool true) ∧ Below w.heap.size w w' := by
  have HV := Lib.hid hv
  have HS := Lib.hid hr
  have HPK := Lib.hid hp
  obtain ⟨a, cap, rfl, hvl, hle, hcap, -⟩ := hv
  obtain ⟨pa, pcap, rfl, hpl, hple, hpcap, -⟩ := hp
  clear hvl hpl hr
  go_enter Try.func3, Try.ntmps3
  go_wp2_with fail
  refine (known_calls _).mono ?_
  rintro e w1 ⟨rfl, hb1⟩
  have HB1 := Lib.hid hb1
  clear hb1
  go_wp2_with fail
  refine (new_calls 64 _ (by omega) (by omega)).mono ?_
  rintro e w2 ⟨rfl, hp2, hb2⟩
  have HP2 := Lib.hid hp2
  have hs2 := hp2.lt
  obtain ⟨pb, hpb⟩ : ∃ pb, pb = w1.heap.size := ⟨_, rfl⟩
  rw [← hpb] at HP2 hs2 ⊢
  have hwp : w.heap.size ≤ pb := by rw [hpb]; exact HB1.out.size
  have HB2 := Lib.hid (HB1.out.trans (hb2.mono HB1.out.size))
  clear hpb hp2 hb2 HB1
  go_wp2_with fail
  go_loopw [7, 8] (fun lv i wr => ∃ (k : Nat) (rv : Value) (es : List Ent), k ≤ 60 ∧ k ≤ ss.length ∧ i = .int .i64 k ∧ Post wr pb 64 rv es ∧ es.map Ent.key = (sentOf 64 ss k).map Ent.key ∧ wr.ownsRow (pb + 1) 32 3 lv (sentOf 64 ss k).length (flat (sentOf 64 ss k)) ∧ Away rv lv ∧ Below w.heap.size w wr) (fun _ i _ => 60 - (intOf i).toNat)
  case atStart => exact ⟨0, _, [], by omega, by omega, rfl, HP2.out, rfl, World.ownsRow_nil _ _ _ _, fun g h => by simp [Value.ownBlock] at h, HB2.out⟩
  case round =>
    obtain ⟨k, rv, es, hk60, hk, rfl, hpo, hmap, hlo, haw, hb⟩ := hrel
    have hal := sentOf_length 64 ss k
    have hel : es.length = (sentOf 64 ss k).length := by have h := congrArg List.length hmap; simpa using h
    have HP := Lib.hid hpo
    have HMAP := Lib.hid hmap
    have HL := Lib.hid hlo
    have HAW := Lib.hid haw
    have HB := Lib.hid hb
    have HEL := Lib.hid hel
    have hes : es.length ≤ 60 := by omega
    clear hpo hmap hlo haw hb hel
    by_cases hlt : k < 60 ∧ k < ss.length
    · obtain ⟨hl1, hl2⟩ := hlt
      obtain ⟨b1, o1, rfl, hc0, hc1, hc2⟩ := rd_at HV.out k hl2
      have c0 := cell_later HB.out hc0
      have c1 := cell_later HB.out hc1
      have c2 := cell_later HB.out hc2
      have hb0 := HS.out ss[k] (List.getElem_mem _)
      have hb0' := hb0.below HB.out (Nat.le_refl _)
      have HC0 := Lib.hid hc0
      have HC1 := Lib.hid hc1
      have HC2 := Lib.hid hc2
      have hyes := sentOf_yes 64 ss k hl2
      have hno := sentOf_no 64 ss k hl2
      have HEK : Hid (∃ E, E = ss[k]) := Lib.hid ⟨_, rfl⟩
      generalize hE : ss[k] = E at *
      obtain ⟨f, t, dv, xs⟩ := E
      simp only at c0 c1 c2 hb0 hb0' hyes hno HC0 HC1 HC2
      have HU := Lib.hid hb0
      have D1 := Lib.hid hb0'
      obtain ⟨ua, uc, rfl, -⟩ := hb0
      have HY := Lib.hid hyes
      have HN := Lib.hid hno
      clear hb0' hc0 hc1 hc2 hyes hno hE HEK
      by_cases hcode : sendCode 64 f t xs = 0
      · obtain ⟨y1, y2, y3⟩ := sendCode_yes hcode
        go_wp2_with fail
        refine (send_yes pb 64 rv es f t _ xs _ HP.out D1.out (by omega) y3 y1 y2).mono ?_
        rintro e w3 ⟨rfl, ⟨rv3, dv3, hp3, hr3, hd3⟩, hf3⟩
        have ho3 := ownsRow_only HL.out hf3 (fun g hg e => by
          rcases e with e | e
          · have := (World.ownsRow.lt HL.out g hg).1; omega
          · exact HAW.out g e hg)
        have haw3 : Away rv3 u7 := by
          intro g hg hg2
          rcases hr3 with h | ⟨g', h1, h2⟩
          · rw [h] at hg; exact HAW.out g hg hg2
          · rw [h1] at hg; cases hg
            have := (World.ownsRow.lt HL.out g hg2).2; omega
        have hb3 := HB.out.trans (HP.out.front hf3 (by omega : w.heap.size ≤ pb))
        have d0 := cell_later hb3 HC0.out
        have d1 := cell_later hb3 HC1.out
        have d2 := cell_later hb3 HC2.out
        have hal4 := (Below.refl w3.heap.size w3).alloc (Nat.le_refl _) (.cells #[.int .i64 f, .int .i64 t, .slice ua xs.length uc] 32)
        have HSY := Lib.hid (HY.out hcode)
        have HP4 := Lib.hid (hp3.below hal4)
        have HO4 := Lib.hid (ownsRow_below ho3 hal4 (Nat.le_refl _))
        have HB4 := Lib.hid (hb3.trans (hal4.mono hb3.size))
        have HAW3 := Lib.hid haw3
        have HLIT := Lib.hid (Rd.lit (w := w3) (cs := #[.int .i64 f, .int .i64 t, .slice ua xs.length uc]) (e := 32) (n := 1) (sz := 3) rfl (by omega))
        have hbs : pb + 1 ≤ (w3.alloc (.cells #[.int .i64 f, .int .i64 t, .slice ua xs.length uc] 32)).heap.size := by have := hp3.lt; simp; omega
        clear hp3 hr3 hd3 hf3 ho3 haw3 hb3 hal4
        go_wp2_with (at_builtin; go_loud (refine app_keep tyMails HO4.out HLIT.out (by simp [Value.oneCell']) (by omega) (by omega) (by omega) hbs rfl rfl rfl rfl ?_; intro g cap5 w5 h1 h2 h3 h4; have HP5 := Lib.hid (HP4.out.appL HO4.out HAW3.out h3); have HB5 := Lib.hid (HB4.out.grown h3 HB4.out.size (fun j e => by have := (World.ownsRow.lt HO4.out j e).1; omega)); have HL5 := Lib.hid h1; have HAW5 : Hid (Away rv3 (.slice (some ⟨g, 0, none⟩) ((sentOf 64 ss k).length + 1) cap5)) := Lib.hid (fun q hq hq2 => by cases hq2; rcases h4 with ⟨n', c', e', -⟩ | h4; exact HAW3.out g hq (by rw [e']; rfl); have := (World.ownsRow.lt HP4.out.own g hq).2; omega); clear h1 h2 h3 h4))
        go_roundw
        case rel =>
          refine ⟨k + 1, rv3, _, by omega, by omega, by go_num, HP5.out, ?_, ?_, HAW5.out, HB5.out⟩
          · rw [HSY.out, List.map_append, List.map_append, HMAP.out]; rfl
          · rw [HSY.out, flat_append, flat_one, List.length_append]; exact HL5.out
        case measure => simp [intOf]; omega
      · have hcb : (sendCode 64 f t xs == 0) = false := beq_eq_false_iff_ne.2 hcode
        have HCODE := Lib.hid hcode
        clear hcode
        go_wp2_with fail
        refine (send_no pb 64 f t _ xs _ HP.out.c0 D1.out HCODE.out).mono ?_
        rintro e w3 ⟨rfl, hb3⟩
        have HSN := Lib.hid (HN.out HCODE.out)
        have HP3 := Lib.hid (HP.out.below hb3)
        have HL3 := Lib.hid (ownsRow_below HL.out hb3 (Nat.le_refl _))
        have HB3 := Lib.hid (HB.out.trans (hb3.mono HB.out.size))
        clear hb3
        go_wp2_with fail
        go_roundw
        case rel => exact ⟨k + 1, rv, es, by omega, by omega, by go_num, HP3.out, by rw [HSN.out, HMAP.out], by rw [HSN.out]; exact HL3.out, HAW.out, HB3.out⟩
        case measure => simp [intOf]; omega
    · have hk3 : 60 ≤ k ∨ ss.length ≤ k := by omega
      clear hlt
      have HLM := Lib.hid (sentOf_mem 64 ss k)
      have hmem0 : ∀ e ∈ es, ∃ m ∈ sentOf 64 ss k, m.key = e.key := by
        intro e he
        have h1 : e.key ∈ es.map Ent.key := List.mem_map_of_mem he
        rw [HMAP.out] at h1
        obtain ⟨m, hm, h2⟩ := List.mem_map.1 h1
        exact ⟨m, hm, h2⟩
      have HMEM := Lib.hid hmem0
      have hel := HEL.out
      clear hmem0 HMAP
      generalize sentOf 64 ss k = ls at *
      obtain ⟨la, lc, hlv⟩ := own_slice HL.out
      subst hlv
      rcases (show (¬ ((k : Int) < ss.length)) ∨ ((k : Int) < ss.length ∧ ¬ ((k : Int) < 60)) from by omega) with hq | ⟨hq, hq2⟩
      all_goals
        go_wp2_with fail
        go_loopw [9, 10, 11, 12, 13, 14, 15] (fun nv iv _ _ _ _ _ wq => ∃ (i : Nat) (rv : Value) (es : List Ent), i ≤ 60 ∧ i ≤ ps.length ∧ iv = .int .i64 i ∧ nv = .int .i64 es.length ∧ es.length ≤ 60 + i ∧ Post wq pb 64 rv es ∧ (∀ e ∈ es, ∃ m ∈ ls, m.key = e.key) ∧ wq.ownsRow (pb + 1) 32 3 (.slice la ls.length lc) ls.length (flat ls) ∧ Away rv (.slice la ls.length lc) ∧ Below w.heap.size w wq) (fun _ iv _ _ _ _ _ _ => 60 - (intOf iv).toNat)
        case atStart => exact ⟨0, rv, es, by omega, by omega, rfl, by rw [hel], by omega, HP.out, HMEM.out, HL.out, HAW.out, HB.out⟩
        case round =>
          clear HP HMEM HL HAW HB HEL hel hes
          obtain ⟨i, rvi, esi, hi60, hip, rfl, rfl, hei, hpi, hmi, hli, hai, hbi⟩ := hrel
          have HPI := Lib.hid hpi
          have HMI := Lib.hid hmi
          have HLI := Lib.hid hli
          have HAI := Lib.hid hai
          have HBI := Lib.hid hbi
          clear hpi hmi hli hai hbi
          by_cases hlt : i < ps.length ∧ i < 60 ∧ 0 < esi.length
          · obtain ⟨hl1, hl2, hl3⟩ := hlt
            obtain ⟨b2, o2, rfl, hcp⟩ := rd1_at HPK.out i hl1
            have cp := cell_later HBI.out hcp
            obtain ⟨s, hs1, hs2⟩ := tmod_pos ps[i] esi.length hl3
            generalize ps[i] = q at *
            by_cases hmod : q.tmod 3 = 0
            · have hm3 : (q.tmod 3 == 0) = true := by rw [hmod]; rfl
              clear hmod
              go_wp2_with fail
              refine (twice_yes pb 64 rvi esi s _ HPI.out hs2 (by omega)).mono ?_
              rintro e w3 ⟨rfl, ⟨rv3, dv3, hp3, hr3, hd3⟩, hf3⟩
              have ho3 := ownsRow_only HLI.out hf3 (fun g hg e => by
                rcases e with e | e
                · have := (World.ownsRow.lt HLI.out g hg).1; omega
                · exact HAI.out g e hg)
              have haw3 : Away rv3 (.slice la ls.length lc) := by
                intro g hg hg2
                rcases hr3 with h | ⟨g', h1, h2⟩
                · rw [h] at hg; exact HAI.out g hg hg2
                · rw [h1] at hg; cases hg
                  have := (World.ownsRow.lt HLI.out g hg2).2; omega
              have hb3 := HBI.out.trans (HPI.out.front hf3 (by omega : w.heap.size ≤ pb))
              have hm4 : ∀ e ∈ esi ++ [(⟨esi[s].f, esi[s].t, dv3, esi[s].data⟩ : Ent)], ∃ m ∈ ls, m.key = e.key := by
                intro e he
                rcases List.mem_append.1 he with he | he
                · exact HMI.out e he
                · simp only [List.mem_singleton] at he
                  subst he
                  exact HMI.out esi[s] (List.getElem_mem _)
              have hl4 : (esi ++ [(⟨esi[s].f, esi[s].t, dv3, esi[s].data⟩ : Ent)]).length = esi.length + 1 := by simp
              generalize esi ++ [(⟨esi[s].f, esi[s].t, dv3, esi[s].data⟩ : Ent)] = es4 at *
              have HP3 := Lib.hid hp3
              have HO3 := Lib.hid ho3
              have HAW3 := Lib.hid haw3
              have HB3 := Lib.hid hb3
              have HM4 := Lib.hid hm4
              have HL4 := Lib.hid hl4
              clear hp3 hr3 hd3 hf3 ho3 haw3 hb3 hm4 hl4
              go_wp2_with fail
              go_roundw
              case rel => exact ⟨i + 1, rv3, es4, by omega, by omega, by go_num, by rw [HL4.out]; go_num, by rw [HL4.out]; omega, HP3.out, HM4.out, HO3.out, HAW3.out, HB3.out⟩
              case measure => simp [intOf]; omega
            · have hm3 : (q.tmod 3 == 0) = false := beq_eq_false_iff_ne.2 hmod
              clear hmod
              go_wp2_with fail
              refine (take_yes pb 64 rvi esi s _ HPI.out hs2 (by omega)).mono ?_
              rintro e w3 ⟨rfl, rv3, hp3, hr3, hm3', hf3⟩
              have ho3 := ownsRow_only HLI.out hf3 (fun g hg e => by
                have := (World.ownsRow.lt HLI.out g hg).1; omega)
              have haw3 : Away rv3 (.slice la ls.length lc) := by
                intro g hg hg2
                have h1 := hr3 g hg
                have := (World.ownsRow.lt HLI.out g hg2).2; omega
              have hb3 := HBI.out.trans (hf3.below (by have h := HBI.out.size; exact h) (fun q hq e => by omega))
              have hm4 : ∀ e ∈ esi.eraseIdx s, ∃ m ∈ ls, m.key = e.key := fun e he => HMI.out e (List.mem_of_mem_eraseIdx he)
              have hl4 : (esi.eraseIdx s).length = esi.length - 1 := by rw [List.length_eraseIdx, if_pos hs2]
              have hmk := HMI.out esi[s] (List.getElem_mem _)
              generalize esi[s] = E at *
              generalize esi.eraseIdx s = es4 at *
              obtain ⟨f, t, dv, xs⟩ := E
              simp only at hm3' ⊢
              obtain ⟨ma, mc, rfl⟩ := hm3'.slice
              have hal8 := (Below.refl w3.heap.size w3).alloc (Nat.le_refl _) (.cells #[.int .i64 f, .int .i64 t, .slice ma xs.length mc] 32)
              have hb8 := hb3.trans (hal8.mono hb3.size)
              have x0 : (w3.alloc (.cells #[.int .i64 f, .int .i64 t, .slice ma xs.length mc] 32)).cell? ⟨w3.heap.size, 0, none⟩ = some (.int .i64 f) := by rw [World.cell?_alloc_at _ _ _ _ rfl]; rfl
              have x1 : (w3.alloc (.cells #[.int .i64 f, .int .i64 t, .slice ma xs.length mc] 32)).cell? ⟨w3.heap.size, 1, none⟩ = some (.int .i64 t) := by rw [World.cell?_alloc_at _ _ _ _ rfl]; rfl
              have x2 : (w3.alloc (.cells #[.int .i64 f, .int .i64 t, .slice ma xs.length mc] 32)).cell? ⟨w3.heap.size, 2, none⟩ = some (.slice ma xs.length mc) := by rw [World.cell?_alloc_at _ _ _ _ rfl]; rfl
              have HP8 := Lib.hid (hp3.below hal8)
              have HM8 := Lib.hid (hm3'.below hal8 (Nat.le_refl _))
              have HO8 := Lib.hid (ownsRow_below ho3 hal8 (Nat.le_refl _))
              have HAW3 := Lib.hid haw3
              have HB8 := Lib.hid hb8
              have HM4 := Lib.hid hm4
              have HL4 := Lib.hid hl4
              have HMK := Lib.hid hmk
              have hl5 : (esi.length : Int) - 1 = es4.length := by omega
              have hes4 : es4.length ≤ 60 + i := by omega
              have HL5 := Lib.hid hl5
              clear hp3 hr3 hf3 ho3 haw3 hb3 hm4 hl4 hm3' hal8 hb8 hmk hl5
              go_wp2_with fail
              rw [HL5.out]
              generalize (w3.alloc (.cells #[.int .i64 f, .int .i64 t, .slice ma xs.length mc] 32)) = W8 at *
              obtain ⟨M8, hM8⟩ : ∃ M8, M8 = w3.heap.size := ⟨_, rfl⟩
              rw [← hM8] at x0 x1 x2 ⊢
              clear hM8
              go_loopw [14, 15] (fun fv jv wq => ∃ j : Nat, j ≤ ls.length ∧ jv = .int .i64 j ∧ fv = .bool ((ls.take j).any fun x => (⟨f, t, .slice ma xs.length mc, xs⟩ : Ent).key == x.key) ∧ Below W8.heap.size W8 wq) (fun _ jv _ => ls.length - (intOf jv).toNat)
              case atStart => exact ⟨0, by omega, rfl, by simp, Below.refl _ _⟩
              case round =>
                obtain ⟨j, hj, rfl, rfl, hbj⟩ := hrel
                have HBJ := Lib.hid hbj
                by_cases hjl : j < ls.length
                · have hany : ((ls.take (j + 1)).any fun x => (⟨f, t, .slice ma xs.length mc, xs⟩ : Ent).key == x.key) = ((ls.take j).any (fun x => (⟨f, t, .slice ma xs.length mc, xs⟩ : Ent).key == x.key) || ((⟨f, t, .slice ma xs.length mc, xs⟩ : Ent).key == ls[j].key)) := by
                    rw [List.take_succ_eq_append_getElem hjl, List.any_append]; simp
                  have HANY := Lib.hid hany
                  clear hany
                  generalize ((ls.take j).any fun x => (⟨f, t, .slice ma xs.length mc, xs⟩ : Ent).key == x.key) = b at *
                  obtain ⟨gl, cl, hlv, y0, y1, y2⟩ := own_at (ownsRow_below HO8.out hbj (Nat.le_refl _)) j hjl
                  simp only [Value.slice.injEq, true_and] at hlv
                  obtain ⟨rfl, rfl⟩ := hlv
                  have z0 := cell_later hbj x0
                  have z1 := cell_later hbj x1
                  have z2 := cell_later hbj x2
                  have hbl := ((HS.out ls[j] (HLM.out _ (List.getElem_mem _))).below HB8.out (Nat.le_refl _)).below hbj (Nat.le_refl _)
                  have hbm := (HM8.out.below hbj (Nat.le_refl _)).bytes
                  obtain ⟨va, vc, hdv, -⟩ := hbl
                  have HBL := Lib.hid ((HS.out ls[j] (HLM.out _ (List.getElem_mem _))).below HB8.out (Nat.le_refl _) |>.below hbj (Nat.le_refl _))
                  have HBM := Lib.hid hbm
                  rw [hdv] at y2
                  have HDV := Lib.hid hdv
                  clear hbj hbm hdv
                  cases b with
                  | true =>
                    go_wp2_with fail
                    refine region_m [(0, false), (1, false), (2, false), (3, false), (4, false), (5, false), (6, false), (7, false), (8, false)] 9 (fun _ => True) (by kernel_rfl) (by kernel_rfl) trivial ?_
                    iterate 9
                      first
                      | (refine m_take (v := ?_) rfl rfl ?_ ?_
                         rotate_left
                         · intro W hW
                           go_simp
                           with_reducible rfl
                         simp only [Act.put, List.setIfInBounds_toArray, List.set_cons_zero, List.set_cons_succ])
                      | (refine m_skip rfl rfl ?_
                         simp only [Act.put, List.setIfInBounds_toArray, List.set_cons_zero, List.set_cons_succ])
                    refine m_done ?_
                    simp only [List.drop_succ_cons, List.drop_zero]
                    go_wp2_with fail
                    simp only [NP]
                    go_wp2_with fail
                    go_roundw
                    case rel => exact ⟨j + 1, by omega, by go_num, by rw [HANY.out]; rfl, HBJ.out.drew⟩
                    case measure => simp [intOf]; omega
                  | false =>
                    go_wp2_with fail
                    refine region_m [(0, false), (1, false), (2, false), (3, false), (4, false), (5, false), (6, false), (7, true), (8, false)] 9
                      (fun W => (W.cell? ⟨M8, 0, none⟩ = some (.int .i64 f) ∧ W.cell? ⟨M8, 1, none⟩ = some (.int .i64 t) ∧ W.cell? ⟨M8, 2, none⟩ = some (.slice ma xs.length mc)) ∧ W.cell? ⟨gl, j * 3, none⟩ = some (.int .i64 ls[j].f) ∧ W.cell? ⟨gl, j * 3 + 1, none⟩ = some (.int .i64 ls[j].t) ∧ W.cell? ⟨gl, j * 3 + 2, none⟩ = some (.slice va ls[j].data.length vc)) (by kernel_rfl) (by kernel_rfl) ⟨⟨z0, z1, z2⟩, y0, y1, y2⟩ ?_
                    iterate 7
                      refine m_take (v := ?_) rfl rfl ?_ ?_
                      rotate_left
                      · intro W hW
                        go_simp
                        with_reducible rfl
                      simp only [Act.put, List.setIfInBounds_toArray, List.set_cons_zero, List.set_cons_succ]
                    refine m_loud rfl (fun K hK => ?_)
                    have HK := Lib.hid hK
                    clear hK
                    go_simp
                    have hbl2 := HBL.out
                    rw [HDV.out] at hbl2
                    refine (rsame_calls ⟨f, t, .slice ma xs.length mc, xs⟩ ⟨ls[j].f, ls[j].t, .slice va ls[j].data.length vc, ls[j].data⟩ _ (HBM.out.below ((Below.refl wr.heap.size wr).drew) (Nat.le_refl _)) (hbl2.below ((Below.refl wr.heap.size wr).drew) (Nat.le_refl _))).mono ?_
                    rintro e w9 ⟨he9, hb9⟩
                    have hb9 : Below wr.heap.size wr w9 := ((Below.refl wr.heap.size wr).drew).trans hb9
                    rw [show (⟨ls[j].f, ls[j].t, .slice va ls[j].data.length vc, ls[j].data⟩ : Ent).key = ls[j].key from rfl] at he9
                    subst he9
                    have HB9 := Lib.hid (HBJ.out.trans (hb9.mono HBJ.out.size))
                    refine HK.out _ _ ⟨⟨cell_later hb9 z0, cell_later hb9 z1, cell_later hb9 z2⟩, cell_later hb9 y0, cell_later hb9 y1, cell_later hb9 y2⟩ ?_
                    clear HK
                    clear hbl2 hb9
                    generalize ((⟨f, t, .slice ma xs.length mc, xs⟩ : Ent).key == ls[j].key) = b2 at *
                    iterate 1
                      refine m_take (v := ?_) rfl rfl ?_ ?_
                      rotate_left
                      · intro W hW
                        go_simp
                        with_reducible rfl
                      simp only [Act.put, List.setIfInBounds_toArray, List.set_cons_zero, List.set_cons_succ]
                    refine m_done ?_
                    simp only [List.drop_succ_cons, List.drop_zero]
                    go_wp2_with fail
                    simp only [NP]
                    go_wp2_with fail
                    go_roundw
                    case rel => exact ⟨j + 1, by omega, by go_num, by rw [HANY.out]; rfl, HB9.out⟩
                    case measure => simp [intOf]; omega
                · obtain rfl : j = ls.length := by omega
                  have hfnd : ((ls.take ls.length).any fun x => (⟨f, t, .slice ma xs.length mc, xs⟩ : Ent).key == x.key) = true := by
                    obtain ⟨m, hm, hk⟩ := HMK.out
                    rw [List.take_length, List.any_eq_true]
                    exact ⟨m, hm, by rw [beq_iff_eq]; exact hk.symm⟩
                  rw [hfnd]
                  obtain ⟨ra, rc, hrv⟩ := HP8.out.slice
                  have hp9 := HP8.out.below hbj
                  have hc9 := hp9.c1
                  rw [hrv] at hc9
                  have HP9 := Lib.hid hp9
                  have HO9 := Lib.hid (ownsRow_below HO8.out hbj (Nat.le_refl _))
                  have HB9 := Lib.hid (HB8.out.trans (hbj.mono HB8.out.size))
                  clear hp9 hbj hfnd hrv
                  go_wp2_with (go_at_call 13; refine (len_calls pb es4.length rc ra _ hc9).mono ?_; rintro e w10 ⟨rfl, rfl⟩)
                  go_roundw
                  case rel => exact ⟨i + 1, rv3, es4, by omega, by omega, by go_num, rfl, by omega, HP9.out, HM4.out, HO9.out, HAW3.out, HB9.out⟩
                  case measure => simp [intOf]; omega
          · obtain ⟨ra, rc, hrv⟩ := HPI.out.slice
            have hc9 := HPI.out.c1
            rw [hrv] at hc9
            clear hrv
            rcases (show ¬ ((i : Int) < ps.length) ∨ ((i : Int) < ps.length ∧ ¬ ((i : Int) < 60)) ∨ ((i : Int) < ps.length ∧ (i : Int) < 60 ∧ ¬ ((0 : Int) < esi.length)) from by omega) with q1 | ⟨q1, q2⟩ | ⟨q1, q2, q3⟩
            all_goals
              go_wp2_with (go_at_call 13; refine (len_calls pb esi.length rc ra _ hc9).mono ?_; rintro e w10 ⟨rfl, rfl⟩)
              go_ret
              exact ⟨rfl, HBI.out⟩
end Go.Proofs.Ytpmkepmnldkccaa
