/- Layer 5: the document's Lose walked. -/
import Derived.Test.YtpmkepmnldkccaaMail13
namespace Go.Proofs.Ytpmkepmnldkccaa
open Go.RowKit

/-- Does a message stay, when a node's are lost? -/
def stays (n : Int) (e : Ent) : Bool := !(e.f == n || e.t == n)
def lostTo (es : List Ent) (n : Int) (k : Nat) : List Ent := (es.take k).filter (stays n)
theorem lostTo_zero (es : List Ent) (n : Int) : lostTo es n 0 = [] := by simp [lostTo]
theorem lostTo_end (es : List Ent) (n : Int) : lostTo es n es.length = es.filter (stays n) := by simp [lostTo]
theorem lostTo_hit (es : List Ent) (n : Int) (k : Nat) (hk : k < es.length) (h : stays n es[k] = false) : lostTo es n (k + 1) = lostTo es n k := by
  unfold lostTo
  rw [List.take_succ_eq_append_getElem hk, List.filter_append]
  simp [h]
theorem lostTo_miss (es : List Ent) (n : Int) (k : Nat) (hk : k < es.length) (h : stays n es[k] = true) : lostTo es n (k + 1) = lostTo es n k ++ [es[k]] := by
  unfold lostTo
  rw [List.take_succ_eq_append_getElem hk, List.filter_append]
  simp [h]
theorem lostTo_length (es : List Ent) (n : Int) (k : Nat) : (lostTo es n k).length ≤ k := by
  unfold lostTo
  have h1 := List.length_filter_le (stays n) (es.take k)
  have h2 : (es.take k).length ≤ k := by rw [List.length_take]; omega
  omega
theorem stays_ways (n : Int) (e : Ent) : ((e.f == n) = true ∧ stays n e = false) ∨ ((e.f == n) = false ∧ (e.t == n) = true ∧ stays n e = false) ∨ ((e.f == n) = false ∧ (e.t == n) = false ∧ stays n e = true) := by
  unfold stays
  cases h1 : e.f == n <;> cases h2 : e.t == n <;> simp

set_option maxHeartbeats 2000000 in
set_option maxRecDepth 100000 in
theorem rlose_calls (pb : Nat) (N : Int) (rv : Value) (es : List Ent) (n : Int) (w : World) (hp : Post w pb N rv es) (hn : es.length ≤ 100000) :
    Calls Try.prog 20 #[.pointer (some ⟨pb, 0, none⟩), .int .i64 n] w fun e w' => e = .returned (.int .i64 ((es.length : Int) - ((es.filter (stays n)).length : Int))) ∧
      ∃ rv', Post w' pb N rv' (es.filter (stays n)) ∧ (∀ g, rv'.ownBlock = some g → w.heap.size ≤ g) ∧ Only (fun j => j = pb) w w' := by
  have HP := Lib.hid hp
  have hlt := hp.lt
  have HDAT := Lib.hid hp.reads
  obtain ⟨ra, rc, rfl⟩ := hp.slice
  clear hp
  go_enter Try.func20, Try.ntmps20
  go_wp2_with fail
  go_loopw [5, 6, 7] (fun lv nv kv wr => ∃ k : Nat, k ≤ es.length ∧ kv = .int .i64 k ∧ nv = .int .i64 ((k : Int) - ((lostTo es n k).length : Int)) ∧ LeftAt w wr lv (lostTo es n k)) (fun _ _ kv _ => es.length - (intOf kv).toNat)
  case atStart => exact ⟨0, by omega, rfl, by rw [lostTo_zero]; rfl, by rw [lostTo_zero]; exact ⟨World.ownsRow_nil _ _ _ _, Below.refl _ _⟩⟩
  case round =>
    obtain ⟨k, hk, rfl, rfl, hl⟩ := hrel
    have hll := lostTo_length es n k
    obtain ⟨la, lc, rfl⟩ := own_slice hl.own
    have HL := Lib.hid hl
    have HBR := Lib.hid hl.below
    have r1 := cell_later hl.below HP.out.c1
    clear hl
    by_cases hlt2 : k < es.length
    · obtain ⟨rb, rc', e', z0, z1, z2⟩ := own_at HP.out.own k hlt2
      simp only [Value.slice.injEq, true_and] at e'
      obtain ⟨rfl, rfl⟩ := e'
      have z0 := cell_later HBR.out z0
      have z1 := cell_later HBR.out z1
      have z2 := cell_later HBR.out z2
      obtain ⟨ka, kc, hkv, -⟩ := HDAT.out es[k] (List.getElem_mem _)
      have HGR := Lib.hid (fun (w1 w2 : World) (v2 : Value) => LeftAt.grow (X := w) (w1 := w1) (w2 := w2) (v2 := v2) (r := es[k]) HL.out)
      rw [hkv] at z2 HGR
      have hhit := lostTo_hit es n k hlt2
      have hmiss := lostTo_miss es n k hlt2
      have HHIT := Lib.hid hhit
      have HMISS := Lib.hid hmiss
      have hway := stays_ways n es[k]
      clear hhit hmiss hkv
      generalize hST : stays n es[k] = st at *
      clear hST
      generalize es[k].f = kf at *
      generalize es[k].t = kt at *
      generalize es[k].data.length = kL at *
      generalize hLT : lostTo es n k = LT at *
      clear hLT
      have q1 : IntKind.i64.wrap ((k : Int) - (LT.length : Int) + 1) = (k : Int) - (LT.length : Int) + 1 := by rw [IntKind.wrap_i64]; omega
      rcases hway with ⟨k1, k2⟩ | ⟨k1, k2, k3⟩ | ⟨k1, k2, k3⟩
      · have HE := Lib.hid (HHIT.out k2)
        clear k2
        go_wp2_with fail
        go_roundw
        case rel => exact ⟨k + 1, by omega, by go_num, by rw [HE.out]; congr 1; omega, by rw [HE.out]; exact HL.out⟩
        case measure => simp [intOf]; omega
      · have HE := Lib.hid (HHIT.out k3)
        clear k3
        go_wp2_with fail
        go_roundw
        case rel => exact ⟨k + 1, by omega, by go_num, by rw [HE.out]; congr 1; omega, by rw [HE.out]; exact HL.out⟩
        case measure => simp [intOf]; omega
      · have HE := Lib.hid (HMISS.out k3)
        clear k3 q1
        go_wp2_with (at_builtin; go_loud (refine app_list tyMails (HL.out.own.alloc _) (Rd.lit (n := 1) rfl (by omega)) (by simp [Value.oneCell']) (by omega) (by omega) (HL.out.room _) rfl rfl rfl rfl ?_; intro v4 w4 hm4 hb4 hn4; obtain ⟨gb, gd, rfl⟩ := own_slice hm4))
        go_roundw
        case rel => exact ⟨k + 1, by omega, by go_num, by rw [HE.out, List.length_append]; congr 1; simp only [List.length_cons, List.length_nil]; omega, by
          have h5 := HGR.out _ _ _ rfl hm4 hb4
          rw [HE.out]
          exact h5⟩
        case measure => simp [intOf]; omega
    · obtain rfl : k = es.length := by omega
      have HP3 := Lib.hid (HP.out.below HBR.out)
      have rz := HP3.out.fz
      have HON := Lib.hid (Only.of_below (S := fun j => j = pb) HBR.out)
      have hend := lostTo_end es n
      rw [hend] at HL hll ⊢
      have HSW := Lib.hid (HP3.out.swap (fun e he => (List.mem_filter.1 he).1) (ownsRow_mono HL.out.own (by omega)))
      have HLA := Lib.hid (fun k hk => (World.ownsRow.lt HL.out.own k hk).1)
      clear hend
      generalize hM : (es.filter (stays n)).length = M at *
      have HM := Lib.hid hM
      clear hM
      go_wp2_with fail
      go_ret
      exact ⟨by rw [HM.out]; rfl, _, HSW.out, HLA.out, HON.out.setCell ⟨pb, 1, none⟩ _ (.inl rfl)⟩
end Go.Proofs.Ytpmkepmnldkccaa
