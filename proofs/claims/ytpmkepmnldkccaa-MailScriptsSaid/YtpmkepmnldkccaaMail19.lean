/- Layer 5: Spoil of a byte, walked. -/
import Derived.Test.YtpmkepmnldkccaaMail18
import Derived.Laws.BitsAllLaws
namespace Go.Proofs.Ytpmkepmnldkccaa
open Go.RowKit Go.Shelf

def turnB (x : UInt8) (tu : Int) : UInt8 := UInt8.ofNat (x.toNat ^^^ tu.toNat)
theorem turn_val (x : UInt8) (tu : Int) (h : 0 ≤ tu ∧ tu < 256) : bits .xor .u8 (x.toNat : Int) tu = ((turnB x tu).toNat : Int) := by
  rw [u8_xor _ _ (by omega) (by have := x.toNat_lt; omega) h.1 h.2]
  unfold turnB
  have : x.toNat ^^^ tu.toNat < 2 ^ 8 := Nat.xor_lt_two_pow (by have := x.toNat_lt; omega) (by omega)
  rw [UInt8.toNat_ofNat_of_lt' (by omega)]
  simp
/-- A message with a byte turned. -/
def Ent.turned (e : Ent) (a : Nat) (tu : Int) (dv' : Value) : Ent := ⟨e.f, e.t, dv', e.data.set a (turnB (e.data.getD a 0) tu)⟩

set_option maxHeartbeats 2000000 in
set_option maxRecDepth 100000 in
theorem spoil_yes (pb : Nat) (N : Int) (rv : Value) (es : List Ent) (i at_ : Nat) (tu : Int) (w : World) (hp : Post w pb N rv es) (hi : i < es.length) (ha : at_ < es[i].data.length) (ht : 0 ≤ tu ∧ tu < 256) :
    Calls Try.prog 17 #[.pointer (some ⟨pb, 0, none⟩), .int .i64 i, .int .i64 at_, .int .u8 tu] w fun e w' => e = .returned (.int .i64 0) ∧ ∃ dv', Post w' pb N rv (es.set i (es[i].turned at_ tu dv')) ∧ (∀ k, dv'.ownBlock = some k → w.heap.size ≤ k) ∧ Only (fun j => rv.ownBlock = some j) w w' := by
  have HP := Lib.hid hp
  have hlt := hp.lt
  have c1 := hp.c1
  obtain ⟨rb, rc, rfl, x0, x1, x2⟩ := own_at hp.own i hi
  have hbt := (hp.data es[i] (List.getElem_mem _)).bytes
  have hsm := hp.small es[i] (List.getElem_mem _)
  have hfz : ∀ o, w.frozen? ⟨rb, o, none⟩ = false := fun o => World.ownsRow.frozenAt hp.own o
  have hrb := World.ownsRow.lt hp.own rb rfl
  have hrb1 := hrb.1
  have hrb2 := hrb.2
  generalize hE : es[i] = E at *
  obtain ⟨f, t, dv, xs⟩ := E
  simp only at x0 x1 x2 hbt hsm ha ⊢
  have HE := Lib.hid hE
  have HV := Lib.hid hbt
  have HFZ := Lib.hid hfz
  obtain ⟨da, dc, rfl, -⟩ := hbt
  clear hE hp hrb hfz
  have g1 : decide ((at_ : Int) < 0) = false := decide_eq_false (by omega)
  have g2 : decide ((xs.length : Int) ≤ (at_ : Int)) = false := decide_eq_false (by omega)
  have g3 : decide (xs.length ≤ at_) = false := decide_eq_false (by omega)
  go_enter Try.func17, Try.ntmps17
  go_wp2_with fail
  refine (there_yes pb es.length rc _ i _ c1 hi).mono ?_
  rintro e w' ⟨rfl, rfl⟩
  go_wp2_with fail
  refine region_m [(0, false), (1, false), (2, false), (3, false), (4, false), (5, false), (6, false), (7, false), (8, false), (9, false), (10, false), (11, false), (12, true), (13, false)] 14 (fun W => W.cell? ⟨pb, 1, none⟩ = some (.slice (some ⟨rb, 0, none⟩) es.length rc) ∧ W.cell? ⟨rb, i * 3, none⟩ = some (.int .i64 f) ∧ W.cell? ⟨rb, i * 3 + 1, none⟩ = some (.int .i64 t) ∧ W.cell? ⟨rb, i * 3 + 2, none⟩ = some (.slice da xs.length dc)) (by kernel_rfl) (by kernel_rfl) ⟨c1, x0, x1, x2⟩ ?_
  iterate 12
    refine m_take (v := ?_) rfl rfl ?_ ?_
    rotate_left
    · intro W hW
      go_simp
      with_reducible rfl
    simp only [Act.put, List.setIfInBounds_toArray, List.set_cons_zero, List.set_cons_succ]
  refine m_loud rfl (fun K hK => ?_)
  have HK := Lib.hid hK
  clear hK
  go_simp
  refine (own_calls f t _ xs _ (HV.out.below ((Below.refl w'.heap.size w').drew) (Nat.le_refl _)) (by omega)).mono ?_
  rintro e w2 ⟨dv', rfl, hm, hb⟩
  have hb : Below w'.heap.size w' w2 := ((Below.refl w'.heap.size w').drew).trans hb
  have HP2 := Lib.hid (HP.out.below hb)
  have d1' := cell_later hb c1
  have e0 := cell_later hb x0
  have e1 := cell_later hb x1
  have e2 := cell_later hb x2
  have hfz2 : ∀ o, w2.frozen? ⟨rb, o, none⟩ = false := fun o => (World.frozen?_of_block (a := ⟨rb, o, none⟩) (hb.block rb hrb2)).trans (HFZ.out o)
  have hm' := hm
  obtain ⟨m, hL⟩ : ∃ m, xs.length = m + 1 := ⟨xs.length - 1, by omega⟩
  unfold Mine at hm'
  rw [hL] at hm'
  obtain ⟨d, vc, hvv, hd1, hd2, -, -⟩ := own_succ hm'
  rw [← hL] at hvv
  subst hvv
  have HM := Lib.hid hm
  have HB := Lib.hid hb
  refine HK.out _ _ ⟨d1', e0, e1, e2⟩ ?_
  clear HK
  clear hm hm' hb x0 x1 x2 c1 hL
  iterate 1
    refine m_take (v := ?_) rfl rfl ?_ ?_
    rotate_left
    · intro W hW
      go_simp
      with_reducible rfl
    simp only [Act.put, List.setIfInBounds_toArray, List.set_cons_zero, List.set_cons_succ]
  refine m_done ?_
  simp only [List.drop_succ_cons, List.drop_zero]
  have m0 := World.ownsRow.cells HM.out rfl at_ (byteV (xs[at_]'ha)) (by rw [bvs, List.getElem?_map, List.getElem?_eq_getElem ha]; rfl)
  rw [add_off, Nat.zero_add] at m0
  dsimp only at m0
  have mz := World.ownsRow.frozenAt HM.out at_
  unfold byteV at m0
  have hdr : rb ≠ d := by have : w'.drew.heap.size = w'.heap.size := rfl; omega
  go_wp2_with fail
  simp only [NP]
  go_wp2_with fail
  go_ret
  have hget : xs.getD at_ 0 = xs[at_]'ha := by simp [List.getD, List.getElem?_eq_getElem ha]
  have hPT := Post.turn (w0 := w'.heap.size) (at_ := at_) (f := f) (t := t) (turnB (xs[at_]'ha) tu) HP2.out hi (fun e he k hk => (World.ownsRow.lt (HP.out.data e he) k hk).2) hrb2 hd1 (HM.out.mono (show pb + 1 ≤ w'.heap.size by omega)) hsm
  rw [turn_val _ _ ht]
  unfold Ent.turned
  simp only
  rw [hget]
  refine ⟨rfl, _, hPT, fun k hk => ?_, ?_⟩
  · simp only [Value.ownBlock, Option.some.injEq] at hk
    have : w'.drew.heap.size = w'.heap.size := rfl
    omega
  · exact ((((Only.of_below (S := fun j => (Value.slice (some ⟨rb, 0, none⟩) es.length rc).ownBlock = some j) HB.out).setCell ⟨rb, i * 3, none⟩ _ (.inl rfl)).setCell ⟨rb, i * 3 + 1, none⟩ _ (.inl rfl)).setCell ⟨rb, i * 3 + 2, none⟩ _ (.inl rfl)).setCell ⟨d, at_, none⟩ _ (.inr hd1)
end Go.Proofs.Ytpmkepmnldkccaa
