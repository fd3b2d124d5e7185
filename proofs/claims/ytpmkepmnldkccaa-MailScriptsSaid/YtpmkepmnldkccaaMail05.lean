/- Layer 5: known walked. -/
import Derived.Test.YtpmkepmnldkccaaMail04
import Derived.Lib.SlBytesConst
namespace Go.Proofs.Ytpmkepmnldkccaa
open Go.RowKit

theorem bytes_marked (W : World) (cs : Array Value) (e : TypeId) (mk : Nat × Nat) (n : Nat) (xs : List UInt8) (he : bvs xs = cs.toList) (hn : xs.length = n) (hm : n ≤ 9223372036854775807) : Bytes (W.alloc (.cells cs e mk)) (.slice (some ⟨W.heap.size, 0, none⟩) n n) xs := by
  subst hn
  refine ⟨_, xs.length, rfl, Nat.le_refl _, hm, .inr ⟨_, _, rfl, fun i hi => ?_⟩⟩
  have h := bvs_get xs i hi
  rw [he] at h
  simp only [World.cell?, World.alloc, Array.getElem?_push_size, Nat.zero_add]
  simpa using h

set_option maxHeartbeats 1000000 in
set_option maxRecDepth 100000 in
theorem known_calls (w : World) : Calls Try.prog 7 #[] w fun e w' => e = .returned (.bool true) ∧ Below w.heap.size w w' := by
  have kc := fun (w : World) (C : Array Value) (n c : Nat) => Lib.run_convert_bytes_const (P := Try.prog) w 30 5 C n c Try.underlying30 Try.underlying5
  go_enter Try.func7, Try.ntmps7
  go_wp2_with fail
  refine (new_calls 3 _ (by omega) (by omega)).mono ?_
  rintro e w1 ⟨rfl, hp1, hb1⟩
  have HP1 := Lib.hid hp1
  have HB1 := Lib.hid hb1
  have hs1 := hp1.lt
  clear hp1 hb1
  obtain ⟨pb, hpb⟩ : ∃ pb, pb = w.heap.size := ⟨_, rfl⟩
  rw [← hpb] at HP1 hs1 ⊢
  have HPB := Lib.hid hpb
  have hpbn : Value.pointer (some ⟨pb, 0, none⟩) ≠ Value.pointer none := by simp
  clear hpb
  go_wp2_with fail
  have hx := bytes_marked w1 #[.int .u8 97] 5 (1, 2) 1 [97] rfl rfl (by omega)
  have hal := (Below.refl w1.heap.size w1).alloc (Nat.le_refl _) (.cells #[.int .u8 97] 5 (1, 2))
  refine (send_yes pb 3 (.slice none 0 0) [] 0 1 _ [97] _ (HP1.out.below hal) hx (by simp) (by simp) (by omega) (by omega)).mono ?_
  rintro e w2 ⟨rfl, ⟨rv2, dv2, hp2, hr2, hd2⟩, hf2⟩
  have HF2 := Lib.hid ((Only.of_below (S := fun j => j = pb) hal).trans hf2 (fun j hj e => by
    rcases e with e | e
    · exact e
    · simp [Value.ownBlock] at e))
  clear hx hal hf2
  rw [List.nil_append] at hp2
  obtain ⟨da, dc, hdv⟩ := (hp2.data ⟨0, 1, dv2, [97]⟩ (by simp)).slice
  simp only at hdv
  subst hdv
  go_wp2_with fail
  refine (twice_yes pb 3 rv2 _ 0 _ hp2 (by simp) (by simp)).mono ?_
  rintro e w3 ⟨rfl, ⟨rv3, dv3, hp3, hr3, hd3⟩, hf3⟩
  have HF3 := Lib.hid (HF2.out.trans hf3 (fun j hj e => by
    rcases e with e | e
    · exact e
    · rcases hr2 with h | ⟨g, h1, h2⟩
      · rw [h] at e; simp [Value.ownBlock] at e
      · rw [h1] at e; cases e; simp at h2; omega))
  clear hf3 hr3 hd3
  simp only [List.getElem_cons_zero, List.cons_append, List.nil_append] at hp3
  go_wp2_with fail
  refine (take_yes pb 3 rv3 _ 0 _ hp3 (by simp) (by simp)).mono ?_
  rintro e w4 ⟨rfl, rv4, hp4, hr4, hm4, hf4⟩
  have HF4 := Lib.hid (HF3.out.trans hf4 (fun j hj e => e))
  clear hf4
  simp only [List.getElem_cons_zero, List.eraseIdx_cons_zero] at hp4 hm4 ⊢
  have hal5 := (Below.refl w4.heap.size w4).alloc (Nat.le_refl _) (.cells #[.int .i64 0, .int .i64 1, .slice da 1 dc] 32)
  have hs := run_bytes_str (P := Try.prog) (src := 30) (e := 5) (dst := 9) Try.underlying30 Try.underlying5 Try.underlying9 (hm4.bytes.below hal5 (Nat.le_refl _))
  simp only [List.length_cons, List.length_nil, Nat.zero_add] at hs
  have hbs := bstr_toList [97]
  obtain ⟨ra, rc, hrv⟩ := hp4.slice
  simp only [List.length_cons, List.length_nil, Nat.zero_add] at hrv
  subst hrv
  have hc5 := (hp4.below hal5).c1
  have HB5 := Lib.hid (((HB1.out.trans (HF4.out.below (B := w.heap.size) (by have := HPB.out; omega) (fun j hj => by have := HPB.out; omega)))).trans (hal5.mono (by have h1 := HF4.out.size; have := HPB.out; omega)))
  clear hp4 hm4 hal5 hr4 hp3 hp2 hr2 hd2
  go_wp2_with (go_at_call 13; refine (len_calls pb 1 rc ra _ hc5).mono ?_; rintro e w6 ⟨rfl, rfl⟩)
  go_ret
  exact ⟨rfl, HB5.out⟩
end Go.Proofs.Ytpmkepmnldkccaa
