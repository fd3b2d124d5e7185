/- Layer 5: Lose walked. -/
import Derived.Test.YtpmkepmnldkccaaMail16
namespace Go.Proofs.Ytpmkepmnldkccaa
open Go.RowKit Go.Shelf

theorem enter_of {P : Program} {f : Nat} {fn : Func} {c : Code} (hf : P.funcs[f]? = some fn) (hname : (fn.name == "runtime.NumGoroutine") = false) (hb : fn.body = some c) (args : Array Value) (w : World) :
    (callFunc f args).run P w = .ok (.enter f args) w := by
  have h1 : fn.name ≠ "runtime.NumGoroutine" := by simpa using hname
  simp [callFunc, hf, h1, hb]

set_option maxHeartbeats 1000000 in
theorem lose_calls (pb : Nat) (N : Int) (rv : Value) (es : List Ent) (n : Int) (w : World) (hp : Post w pb N rv es) (hn : es.length ≤ 100000) :
    Calls Try.prog 19 #[.pointer (some ⟨pb, 0, none⟩), .int .i64 n] w fun e w' => e = .returned (.int .i64 ((es.length : Int) - ((es.filter (stays n)).length : Int))) ∧
      ∃ rv', Post w' pb N rv' (es.filter (stays n)) ∧ (∀ g, rv'.ownBlock = some g → w.heap.size ≤ g) ∧ Only (fun j => j = pb) w w' := by
  have HP := Lib.hid hp
  have hlt := hp.lt
  obtain ⟨ra, rc, rfl⟩ := hp.slice
  obtain ⟨X, hX⟩ : ∃ X, X = w.alloc (.cells #[.int .i64 n] 3) := ⟨_, rfl⟩
  have hbX : Below w.heap.size w X := by rw [hX]; exact (Below.refl _ _).alloc (Nat.le_refl _) _
  have xn : X.cell? ⟨w.heap.size, 0, none⟩ = some (.int .i64 n) := by rw [hX, World.cell?_alloc_at _ _ _ _ rfl]; rfl
  have hXs : X.heap.size = w.heap.size + 1 := by rw [hX]; simp
  have HPX := Lib.hid (hp.below hbX)
  have x1 := HPX.out.c1
  have HBX := Lib.hid hbX
  clear hp hbX
  subst hX
  go_enter Try.func19, Try.ntmps19
  go_wp2_with fail
  generalize w.alloc (.cells #[.int .i64 n] 3) = X at *
  refine (cloneL_calls _ es.length (flat es) _ (Rd.of_own HPX.out.own) HPX.out.reads.one (by omega)).mono ?_
  rintro e w2 ⟨v2, rfl, ho2, hb2⟩
  have HP2 := Lib.hid (HPX.out.below hb2)
  have xn2 := cell_later hb2 xn
  have HB2 := Lib.hid (HBX.out.trans (hb2.mono (by omega)))
  have HO2 := Lib.hid ho2
  obtain ⟨va, vc, rfl⟩ := own_slice ho2
  have hvb : ∀ j, (Value.slice va es.length vc).ownBlock = some j → X.heap.size ≤ j := fun j hj => (World.ownsRow.lt ho2 j hj).1
  have HVB := Lib.hid hvb
  clear ho2 hb2 x1 xn hvb
  go_wp2_with fail
  refine (delF_calls es _ X.heap.size w.heap.size n _ (fun args w => enter_of Try.func33 (by kernel_rfl) rfl args w) HO2.out (fun e he => by
    obtain ⟨a, c, h⟩ := (HP2.out.data e he).slice
    exact ⟨a, _, c, h⟩) xn2 (fun j hj => by have := HVB.out j hj; omega) (by omega)).mono ?_
  rintro e w3 ⟨v3, rfl, ho3, hvo3, hf3⟩
  have hge : ∀ j, v3.ownBlock = some j → w.heap.size ≤ j := fun j hj => by have := HVB.out j (hvo3 j hj); omega
  obtain ⟨ua, uc, rfl⟩ := own_slice ho3
  have HGE := Lib.hid hge
  have HP3 := Lib.hid (HP2.out.only hf3 (fun e => by have := HVB.out _ e; omega) (fun k hk e => by
    have h1 := HVB.out _ e
    have h2 := (World.ownsRow.lt HP.out.own k hk).2
    omega) (fun x hx k hk e => by
    have h1 := HVB.out _ e
    have h2 := (World.ownsRow.lt (HP.out.data x hx) k hk).2
    omega))
  have HON := Lib.hid ((Only.of_below (S := fun j => j = pb) HB2.out).trans hf3 (fun j hj e => by have := HVB.out _ e; omega))
  have HSW := Lib.hid (HP3.out.swap (fun e he => (List.mem_filter.1 he).1) (ownsRow_mono ho3 (by omega)))
  have r1 := HP3.out.c1
  have rz := HP3.out.fz
  have hfl := List.length_filter_le (stays n) es
  clear ho3 hvo3 hge hf3
  generalize hM : (es.filter (stays n)).length = M at *
  have HM := Lib.hid hM
  clear hM
  go_wp2_with fail
  go_ret
  exact ⟨by rw [HM.out]; rfl, _, HSW.out, HGE.out, HON.out.setCell ⟨pb, 1, none⟩ _ (.inl rfl)⟩
end Go.Proofs.Ytpmkepmnldkccaa
