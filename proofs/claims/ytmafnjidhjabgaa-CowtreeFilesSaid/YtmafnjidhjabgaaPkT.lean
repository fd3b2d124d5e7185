/- Walks and plain laws of the chapter, laid together; each part says what it proves. -/
import Derived.Test.YtmafnjidhjabgaaPkA
import Derived.Test.YtmafnjidhjabgaaPkB
import Derived.Test.YtmafnjidhjabgaaPkL
import Derived.Test.YtmafnjidhjabgaaPkN
import Derived.Test.YtmafnjidhjabgaaPkP
import Derived.Test.YtmafnjidhjabgaaPkR
import Derived.Test.YtmafnjidhjabgaaPkS
namespace Go.Proofs.Ytmafnjidhjabgaa
open Go.RowKit Go.Shelf
set_option linter.unusedVariables false
set_option linter.unusedSectionVars false
set_option linter.unusedSimpArgs false
set_option maxRecDepth 100000
variable [Inhabited Pgs]
structure Well (D : Dk) (n : Nat) : Prop where
 ok : D.fails = false
 used : (usedOf D.now : Int) ≤ D.room
 top : D.room ≤ 1048576
 r0 : 0 ≤ D.room
 chg : D.chg.length ≤ n
theorem Well.file {D : Dk} {n : Nat} (h : Well D n) (nm : ByteArray) : (fileOf D.now nm).length ≤ 1048576 := by
 have h1 := file_le (k := nm) (m := D.now)
 have h2 := h.used
 have h3 := h.top
 omega
theorem Well.new (n : Nat) : Well (newD 1048576 n) 0 := ⟨rfl, by show ((0 : Nat) : Int) ≤ 1048576; omega, by show (1048576 : Int) ≤ 1048576; omega, by show (0 : Int) ≤ 1048576; omega, by show (0 : Nat) ≤ 0; omega⟩
theorem Well.mono {D : Dk} {n m : Nat} (h : Well D n) (hm : n ≤ m) : Well D m := ⟨h.ok, h.used, h.top, h.r0, Nat.le_trans h.chg hm⟩
theorem wrE_zero {D : Dk} {nm : ByteArray} {ys : List UInt8} (h : wrE D nm 0 ys = 0) : ¬ (0 < ((0 : Nat) : Int) + ys.length - (fileOf D.now nm).length ∧ D.room - usedOf D.now < ((0 : Nat) : Int) + ys.length - (fileOf D.now nm).length) := by
 intro hc
 unfold wrE at h
 split at h
 ·
  rename_i hr
  exact hr h
 ·
  split at h
  · cases h
  ·
   first
    | (rw [if_pos hc] at h; cases h)
    | cases h
theorem Well.wr {D : Dk} {n : Nat} {nm : ByteArray} {ys : List UInt8} (h : Well D n) (he : wrE D nm 0 ys = 0) (nv dv cv : Value) : Well (wrD D nm 0 ys nv dv cv) (n + 1) := by
 have h1 := used_put (k := nm) (v := nv) (xs := wrt (fileOf D.now nm) ys 0) (m := D.now)
 have h2 := wrt_len (xs := fileOf D.now nm) (ys := ys) (at_ := 0) (Nat.zero_le _)
 have h3 := wrE_zero he
 have h4 := h.used
 refine ⟨h.ok, ?_, h.top, h.r0, ?_⟩
 ·
  show (usedOf (mput D.now nm (nv, wrt (fileOf D.now nm) ys 0)) : Int) ≤ D.room
  omega
 ·
  show (D.chg ++ [_]).length ≤ n + 1
  rw [List.length_append, List.length_singleton]
  have := h.chg
  omega
theorem write_any (d B n : Nat) (D : Dk) (nm : ByteArray) (dv : Value) (ys : List UInt8) (w : World) (h : DiskAt w B d D) (hw : Well D n) (hn : n ≤ 100000) (hg : goodNm nm.data.toList = true) (hv : Bytes w dv ys) (hvF : ∀ a n c, dv = .slice (some a) n c → 0 < ys.length → ¬ D.foot d a.block) (hs : nm.size ≤ 100) :
  Calls Try.prog 17 #[.pointer (some ⟨d, 0, none⟩), .string nm, .int .i64 0, dv] w fun e w' => ∃ (er : Int) (D' : Dk), e = .returned (.int .i64 er) ∧ Turned w w' B d D D' ∧ Well D' (n + 1) := by
 have hu := hw.used
 have ht := hw.top
 have hc := hw.chg
 by_cases hy : ys.length ≤ 1099511627776
 ·
  refine (dwrite2_calls d B D nm 0 dv ys w h hv hvF (by omega) (by omega) hy (by have := hw.file nm; omega) (by omega) (by omega) hw.r0 (by omega)).mono ?_
  rintro e w' ⟨er, rfl, her, ⟨-, hx⟩ | ⟨h0, nv, dv', cv, hx⟩⟩
  · exact ⟨er, D, rfl, hx, hw.mono (by omega)⟩
  · exact ⟨er, _, rfl, hx, hw.wr (her.symm.trans h0) _ _ _⟩
 ·
  refine (dwrite_full d B D nm dv ys w h hg hw.ok hv (by omega) (by omega) (by have := hw.file nm; omega) (by omega) hw.r0 (by omega)).mono ?_
  rintro e w' ⟨rfl, hb⟩
  exact ⟨6, D, rfl, Turned.of_below h hb, hw.mono (by omega)⟩
theorem Opened.ts {w w' : World} {d Bd : Nat} {D D' : Dk} {nm : ByteArray} {T sl f size : Nat} {b : List UInt8} {tg pg : Nat → Int} {rs : List Rt} {rv : Value} (h : Opened w w' d Bd D nm T sl f size D' b tg pg rs rv) (hb : (fileOf D.now (tfn nm f)).length ≤ 1048576) :
  ∃ (F : Nat → Prop) (r : Root), TS w' w.heap.size T d ⟨nm, sl, f, size, rv, lastN rs, false⟩ F r ∧ (∀ j, F j → w.heap.size ≤ j) ∧ (rflat r).length ≤ 100000000 := by
 have hnone : lastN rs = none → ∃ (F : Nat → Prop) (r : Root), TS w' w.heap.size T d ⟨nm, sl, f, size, rv, lastN rs, false⟩ F r ∧ (∀ j, F j → w.heap.size ≤ j) ∧ (rflat r).length ≤ 100000000 := fun e =>
  ⟨fun _ => False, none, ⟨h.st.tr, e, trivial, fun j hj => hj.elim⟩, fun j hj => hj.elim, by show (0 : Nat) ≤ _; omega⟩
 rcases List.eq_nil_or_concat rs with hrs | ⟨l, x, hrs⟩
 · exact hnone (by rw [hrs]; rfl)
 ·
  rw [List.concat_eq_append] at hrs
  have hl : lastN rs = x.2 := by rw [hrs]; unfold lastN; simp
  have hx : rs[l.length]? = some x := by rw [hrs]; simp
  obtain ⟨-, hp⟩ := h.st.rts l.length x hx
  rcases hp with ⟨-, hp⟩ | ⟨p, hpa, hpn, hpg⟩
  · exact hnone (hl.trans hp)
  ·
   obtain ⟨-, h0, -⟩ | ⟨-, ⟨items, hd, hok, hf, hlen, htg, hpgs⟩, hbe, -⟩ := h.how
   · rw [hrs] at h0; simp at h0
   ·
    have hpair := hok.2 l.length (by rw [← hlen, hrs]; simp; omega)
    have hro := hpair.1
    rw [← hf, ← hbe, ← hpgs] at hro
    rcases hro with h9 | ⟨-, ⟨s', hld⟩, hh, t, ht, ho, hs⟩
    · exact absurd h9 hpn
    ·
     refine ⟨fun j => w.heap.size ≤ j ∧ TyB w' j, some ⟨hh, t⟩, ⟨h.st.tr, ⟨p, hl.trans hpa, (hpg.tree ht).typ⟩, ⟨ho, hs⟩, fun j hj => hj.2⟩, fun j hj => hj.1, ?_⟩
     have h8 := flat_bound hld ht ho
     show (flat hh t).length ≤ _
     rw [hbe] at h8
     omega
end Go.Proofs.Ytmafnjidhjabgaa
namespace Go.Proofs.Ytmafnjidhjabgaa
open Go.RowKit Go.Shelf
set_option linter.unusedVariables false
set_option linter.unusedSectionVars false
set_option linter.unusedSimpArgs false
set_option maxRecDepth 100000
attribute [local go_sem] Oper.semAt_some
variable [Inhabited Pgs]
set_option maxHeartbeats 400000 in
theorem tput_nil (k v : ByteArray) (w : World) : Calls Try.prog 9 #[.pointer none, .string k, .string v] w fun e w' => e = .returned (.int .i64 9) ∧ w' = w := by
 go_enter Try.func9, Try.ntmps9
 go_wp2_with fail
 go_ret
 exact ⟨rfl, rfl⟩
set_option maxHeartbeats 400000 in
theorem tdel_nil (k : ByteArray) (w : World) : Calls Try.prog 13 #[.pointer none, .string k] w fun e w' => e = .returned (.tuple #[.bool false, .int .i64 9]) ∧ w' = w := by
 go_enter Try.func13, Try.ntmps13
 go_wp2_with fail
 go_ret2
 exact ⟨rfl, rfl⟩
set_option maxHeartbeats 400000 in
theorem commit_nil (n : Int) (w : World) : Calls Try.prog 18 #[.pointer none, .int .i64 n] w fun e w' => e = .returned (.int .i64 9) ∧ w' = w := by
 go_enter Try.func18, Try.ntmps18
 go_wp2_with fail
 go_ret
 exact ⟨rfl, rfl⟩
set_option maxHeartbeats 400000 in
theorem back_nil (w : World) : Calls Try.prog 19 #[.pointer none] w fun e w' => e = .returned (.int .i64 9) ∧ w' = w := by
 go_enter Try.func19, Try.ntmps19
 go_wp2_with fail
 go_ret
 exact ⟨rfl, rfl⟩
set_option maxHeartbeats 400000 in
theorem drop_nil (n : Int) (w : World) : Calls Try.prog 20 #[.pointer none, .int .i64 n] w fun e w' => e = .returned (.int .i64 9) ∧ w' = w := by
 go_enter Try.func20, Try.ntmps20
 go_wp2_with fail
 go_ret
 exact ⟨rfl, rfl⟩
set_option maxHeartbeats 400000 in
theorem tags_nil (w : World) : Calls Try.prog 21 #[.pointer none] w fun e w' => e = .returned (.slice none 0 0) ∧ w' = w := by
 go_enter Try.func21, Try.ntmps21
 go_wp2_with fail
 go_ret
 exact ⟨rfl, rfl⟩
set_option maxHeartbeats 400000 in
theorem topen_nil (nm : ByteArray) (w : World) : Calls Try.prog 8 #[.pointer none, .string nm] w fun e w' => e = .returned (.tuple #[.pointer none, .int .i64 9]) ∧ w' = w := by
 go_enter Try.func8, Try.ntmps8
 go_wp2_with fail
 go_ret2
 exact ⟨rfl, rfl⟩
set_option maxHeartbeats 1000000 in
theorem topen_bad (d : Nat) (nm : ByteArray) (w : World) (h : ¬ (1 ≤ nm.size ∧ nm.size ≤ 10 ∧ lowName nm)) : Calls Try.prog 8 #[.pointer (some ⟨d, 0, none⟩), .string nm] w fun e w' => e = .returned (.tuple #[.pointer none, .int .i64 1]) ∧ Below w.heap.size w w' := by
 by_cases h10 : 10 < nm.size
 ·
  have d1 : decide ((10 : Int) < (nm.size : Int)) = true := decide_eq_true (by omega)
  clear h
  go_enter Try.func8, Try.ntmps8
  go_wp2_with fail
  go_ret2
  exact ⟨rfl, Below.refl _ _⟩
 ·
  have d1 : decide ((10 : Int) < (nm.size : Int)) = false := decide_eq_false (by omega)
  have HS := Lib.hid (show Calls Try.prog 22 #[.pointer (some ⟨d, 0, none⟩), .string nm] w fun e w' => e = .returned (.tuple #[.pointer none, .int .i64 1]) ∧ Below w.heap.size w w' from by
   by_cases h1 : 1 ≤ nm.size
   · exact sopen_bad d nm w h1 (by omega) (fun hl => h ⟨h1, by omega, hl⟩)
   · exact sopen_size d nm w (.inl (by omega)))
  clear h h10
  go_enter Try.func8, Try.ntmps8
  go_wp2_with (go_at_call 22; refine HS.out.mono ?_; rintro e w1 ⟨rfl, hb1⟩; have HB1 := Lib.hid hb1; clear hb1)
  go_ret2
  exact ⟨rfl, HB1.out⟩
structure NilJ (w W : World) (S : Nat) : Prop where
 bel : Below w.heap.size w W
 sz : S + 4 ≤ W.heap.size
 ct : W.cell? ⟨S + 1, 0, none⟩ = some (.pointer none)
 c0 : W.cell? ⟨S, 0, none⟩ = some (.int .i64 0)
 f0 : W.frozen? ⟨S, 0, none⟩ = false
theorem NilJ.calm {w W W' : World} {S : Nat} (h : NilJ w W S) (hc : Calm w.heap.size W W') : NilJ w W' S := ⟨h.bel.trans hc.below, Nat.le_trans h.sz hc.size, hc.cell h.ct, hc.cell h.c0, (hc.frozen h.c0).trans h.f0⟩
set_option maxHeartbeats 4000000 in
theorem len_nil (w : World) : Calls Try.prog 16 #[.pointer none] w fun e w' => e = .returned (.int .i64 0) ∧ Below w.heap.size w w' := by
 refine (callsIn_wide (n := 0)).1 ?_
 refine callsIn_of_wp_marks Try.func16 rfl trivial ?_
 simp only [Try.ntmps16, List.size_toArray, List.length_cons, List.length_nil, Nat.reduceAdd, Nat.reduceSub, Array.replicate_succ, Array.replicate_zero, List.push_toArray, List.append_toArray, List.nil_append, List.cons_append]
 gi_wp2_with (gi_at_call 10; refine (range_calls none [] [] _).mono ?_; rintro e w1 ⟨rfl, rfl⟩)
 obtain ⟨S, hS⟩ : ∃ S, S = w.heap.size := ⟨_, rfl⟩
 obtain ⟨Y, hY⟩ : ∃ Y, Y = (((w.alloc (.cells #[.int .i64 0] 3)).alloc (.cells #[.pointer none] 28)).alloc (.cells #[.string (bstr [])] 9)).alloc (.cells #[.string (bstr [])] 9) := ⟨_, rfl⟩
 have hYs : Y.heap.size = S + 4 := by rw [hY, hS]; simp
 have hbY : Below w.heap.size w Y := by rw [hY]; exact ((((Below.refl _ _).alloc (Nat.le_refl _) _).alloc (by simp) _).alloc (by simp; omega) _).alloc (by simp; omega) _
 have hj0 : NilJ w Y S := by
  refine ⟨hbY, by omega, ?_, ?_, ?_⟩
  · rw [hY, hS, World.cell?_alloc_past _ _ _ (by simp <;> omega), World.cell?_alloc_past _ _ _ (by simp), World.cell?_alloc_at _ _ _ _ (by simp)]; rfl
  · rw [hY, hS, World.cell?_alloc_past _ _ _ (by simp <;> omega), World.cell?_alloc_past _ _ _ (by simp <;> omega), World.cell?_alloc_past _ _ _ (by simp), World.cell?_alloc_at _ _ _ _ rfl]; rfl
  · rw [hY, hS, World.frozen?_alloc_past _ _ _ (by simp <;> omega), World.frozen?_alloc_past _ _ _ (by simp <;> omega), World.frozen?_alloc_past _ _ _ (by simp), World.frozen?_alloc_at _ _ _ _ rfl]
 rw [← hY, ← hS]
 have HTE := Lib.hid hS
 clear hY hS hbY
 refine range_wx (σ := Unit) (gf := 32) (lb := #[.pointer (some ⟨S + 1, 0, none⟩), .pointer (some ⟨S + 1 + 1, 0, none⟩), .pointer (some ⟨S + 1 + 2, 0, none⟩)]) rfl (fun args w => enter_r Try.func32 (by kernel_rfl) rfl args w)
  (fun _ W => NilJ w W S) (fun _ _ => False) (fun _ _ _ _ => False) (fun _ => True) ()
  ?calm (fun _ _ _ _ h => h) hj0 ?iter ?body ?done (fun _ _ _ _ h => h.elim)
 case calm =>
  rintro s W W' hc hk
  exact hk.calm ⟨hc.os, hc.tape, hc.output, hc.size, fun k hk => hc.block k (by have := HTE.out; omega), hc.cells⟩
 case iter =>
  intro ly J' Jx' W hm _ hJJ hxx hc hJ0 hy
  have hj := hJJ _ _ hJ0
  have ct := cell_later (below_alloc W (.cells #[.func (.yield ly) #[] #[]] 86)) hj.ct
  have HJ := Lib.hid (hm () _ _ (below_alloc W (.cells #[.func (.yield ly) #[] #[]] 86)) hJ0)
  clear hm hJJ hxx hc hJ0 hy hj
  refine callsIn_of_wp Try.func32 rfl trivial ?_
  simp only [Try.ntmps32, List.size_toArray, List.length_cons, List.length_nil, Nat.reduceAdd, Nat.reduceSub, Array.replicate_succ, Array.replicate_zero, List.push_toArray, List.append_toArray, List.nil_append, List.cons_append]
  gi_wp2_with fail
  refine bodyPost_ret (results_none rfl _ _ _) rfl ?_
  exact ⟨⟨_, rfl⟩, .inl ⟨(), trivial, HJ.out⟩⟩
 case body => exact fun l s args s' W hr hst => hst.elim
 case done =>
  rintro D s V hD hs hk hK
  have HB := Lib.hid hk.bel
  have hc := hk.c0
  clear hk hj0 hs
  gi_wp2_with fail
  refine ⟨by simp, .inl ⟨_, _, rfl, run_takeDeferred hK, ?_⟩⟩
  refine ⟨_, results_tmp rfl _ _ _, rfl, ?_⟩
  exact HB.out.trans (Calm.putObj (B := w.heap.size) _ (by have := HTE.out; omega) hK rfl).below
end Go.Proofs.Ytmafnjidhjabgaa
namespace Go.Proofs.Ytmafnjidhjabgaa
open Go.RowKit Go.Shelf
set_option linter.unusedVariables false
set_option linter.unusedSectionVars false
set_option linter.unusedSimpArgs false
set_option maxRecDepth 100000
attribute [local go_sem] Oper.semAt_some
theorem Bytes.lt {w : World} {v : Value} {xs : List UInt8} (h : Bytes w v xs) : ∀ a n c, v = .slice (some a) n c → 0 < xs.length → a.block < w.heap.size := by
 obtain ⟨a', cap, rfl, h1, h2, h3⟩ := h
 intro a n c e hl
 simp only [Value.slice.injEq] at e
 obtain ⟨rfl, rfl, rfl⟩ := e
 rcases h3 with h3 | ⟨b, off, hab, hc⟩
 · omega
 ·
  cases hab
  exact World.block_lt_of_cell? _ _ (hc 0 hl)
theorem Bytes.sl {w : World} {v : Value} {xs : List UInt8} (h : Bytes w v xs) : ∃ a c, v = .slice a xs.length c ∧ xs.length ≤ c ∧ c ≤ 9223372036854775807 := by
 obtain ⟨a', cap, rfl, h1, h2, -⟩ := h
 exact ⟨a', cap, rfl, h1, h2⟩
structure LD2 (w W : World) (d Bd n : Nat) (D : Dk) : Prop where
 disk : DiskAt W Bd d D
 well : Well D n
 bel : Below w.heap.size w W
 base : w.heap.size ≤ Bd
theorem LD2.below {w W W' : World} {d Bd n : Nat} {D : Dk} (h : LD2 w W d Bd n D) (hb : Below W.heap.size W W') : LD2 w W' d Bd n D := ⟨h.disk.below hb, h.well, below_go h.bel hb, h.base⟩
theorem LD2.write {w W : World} {d Bd n : Nat} {D : Dk} (h : LD2 w W d Bd n D) (nm : ByteArray) (dv : Value) (ys : List UInt8) (hn : n ≤ 100000) (hg : goodNm nm.data.toList = true) (hv : Bytes w dv ys) (hs : nm.size ≤ 100) :
  Calls Try.prog 17 #[.pointer (some ⟨d, 0, none⟩), .string nm, .int .i64 0, dv] W fun e w' => ∃ (er : Int) (D' : Dk), e = .returned (.int .i64 er) ∧ LD2 w w' d Bd (n + 1) D' := by
 have hlt := Bytes.lt hv
 have hbV : Bytes W dv ys := hv.below h.bel (Nat.le_refl _)
 refine (write_any d Bd n D nm dv ys W h.disk h.well hn hg hbV (fun a m c e hl hf => by
  have h1 := hlt a m c e hl
  have h2 := (h.disk.foot_lt hf).1
  have h3 := h.base
  omega) hs).mono ?_
 rintro e w' ⟨er, D', rfl, ht, hw⟩
 exact ⟨er, D', rfl, ht.is, hw, h.bel.trans (ht.only.below h.bel.size (fun j hj hf => by
  have h2 := (h.disk.foot_lt hf).1
  have h3 := h.base
  omega)), h.base⟩
def RightTo (nm : ByteArray) (k : Nat) : Prop := 1 ≤ nm.size ∧ nm.size ≤ 10 ∧ ∀ j, j < k → 97 ≤ bt nm.data.toList j ∧ bt nm.data.toList j ≤ 122
theorem bt_at {nm : ByteArray} {k : Nat} (h : k < nm.size) : bt nm.data.toList k = ((nm[k]'h).toNat : Int) := by
 have hl : k < nm.data.toList.length := by rw [Array.length_toList]; exact h
 unfold bt
 rw [List.getD_eq_getElem?_getD, List.getElem?_eq_getElem hl]
 simp [Array.getElem_toList]
 rfl
theorem RightTo.step {nm : ByteArray} {k : Nat} : RightTo nm (k + 1) ↔ RightTo nm k ∧ 97 ≤ bt nm.data.toList k ∧ bt nm.data.toList k ≤ 122 := by
 constructor
 ·
  rintro ⟨h1, h2, h3⟩
  exact ⟨⟨h1, h2, fun j hj => h3 j (by omega)⟩, h3 k (by omega)⟩
 ·
  rintro ⟨⟨h1, h2, h3⟩, h4⟩
  refine ⟨h1, h2, fun j hj => ?_⟩
  rcases Nat.lt_or_ge j k with h | h
  · exact h3 j h
  ·
   obtain rfl : j = k := by omega
   exact h4
theorem okC_low {c : UInt8} (h1 : 97 ≤ c.toNat) (h2 : c.toNat ≤ 122) : okC c = true := by
 unfold okC
 have e1 : (97 : UInt8) ≤ c := by rw [UInt8.le_iff_toNat_le]; exact h1
 have e2 : c ≤ (122 : UInt8) := by rw [UInt8.le_iff_toNat_le]; exact h2
 simp [e1, e2]
theorem good_low {nm suf : ByteArray} (h : RightTo nm nm.size) (hs : suf.data.toList.length ≤ 4) (ho : suf.data.toList.all okC = true) : goodNm (nm ++ suf).data.toList = true := by
 obtain ⟨h1, h2, h3⟩ := h
 have e : (nm ++ suf).data.toList = nm.data.toList ++ suf.data.toList := by rw [ByteArray.data_append, Array.toList_append]
 have hl : nm.data.toList.length = nm.size := by rw [Array.length_toList]; rfl
 unfold goodNm
 rw [e, List.all_append, ho, Bool.and_true, List.length_append]
 have ha : nm.data.toList.all okC = true := by
  rw [List.all_eq_true]
  intro c hc
  obtain ⟨i, hi, rfl⟩ := List.getElem_of_mem hc
  have h4 := h3 i (by omega)
  have h5 : bt nm.data.toList i = ((nm.data.toList[i]).toNat : Int) := by
   unfold bt
   rw [List.getD_eq_getElem?_getD, List.getElem?_eq_getElem hi]
   rfl
  rw [h5] at h4
  exact okC_low (by omega) (by omega)
 rw [ha, Bool.and_true]
 simp only [Bool.and_eq_true, decide_eq_true_eq]
 omega
theorem sfn_zero (nm : ByteArray) : nm ++ ⟨#[45, 97]⟩ = sfn nm 0 := rfl
theorem tfn_zero (nm : ByteArray) : nm ++ ⟨#[45, 112]⟩ = tfn nm 0 := rfl
theorem tfn_one (nm : ByteArray) : nm ++ ⟨#[45, 113]⟩ = tfn nm 1 := rfl
theorem RightTo.low {nm : ByteArray} (h : RightTo nm nm.size) : lowName nm := fun k hk => h.2.2 k (by rw [Array.length_toList] at hk; exact hk)
theorem RightTo.goodT {nm : ByteArray} (h : RightTo nm nm.size) (i : Nat) (hi : i < 2) : goodNm (tfn nm i).data.toList = true := by
 rcases Nat.eq_zero_or_pos i with rfl | h0
 · exact good_low h (by decide) (by decide)
 ·
  obtain rfl : i = 1 := by omega
  exact good_low h (by decide) (by decide)
theorem size_add2 (nm suf : ByteArray) : (nm ++ suf).size = nm.size + suf.size := ByteArray.size_append
structure C1 (W : World) (nb : Nat) (L rest : List KV) : Prop where
 it : ∃ pre, pre ++ rest = L ∧ W.cell? ⟨nb, 0, none⟩ = some (.int .i64 ((pre.length : Nat) : Int)) ∧ W.frozen? ⟨nb, 0, none⟩ = false
theorem C1.calm {W W' : World} {nb B : Nat} {L rest : List KV} (h : C1 W nb L rest) (hc : Calm B W W') : C1 W' nb L rest := by
 obtain ⟨pre, h1, h2, h3⟩ := h.it
 exact ⟨⟨pre, h1, hc.cell h2, (hc.frozen h2).trans h3⟩⟩
set_option maxHeartbeats 8000000 in
theorem files_calls (nm : ByteArray) (sv pv qv : Value) (ss ps qs : List UInt8) (w : World) (hnm : nm.size ≤ 9223372036854775807) (hs : Bytes w sv ss) (hp : Bytes w pv ps) (hq : Bytes w qv qs) :
  Calls Try.prog 5 #[.string nm, .agg #[sv, pv, qv]] w fun e w' => e = .returned (.bool true) ∧ Below w.heap.size w w' := by
 have HS := Lib.hid hs
 have HP := Lib.hid hp
 have HQ := Lib.hid hq
 obtain ⟨sa, sc, rfl, hs1, hs2⟩ := Bytes.sl hs
 obtain ⟨pa, pc, rfl, hp1, hp2⟩ := Bytes.sl hp
 obtain ⟨qa, qc, rfl, hq1, hq2⟩ := Bytes.sl hq
 clear hs hp hq
 refine (callsIn_wide (n := 0)).1 ?_
 refine callsIn_of_wp_marks Try.func5 rfl trivial ?_
 simp only [Try.ntmps5, List.size_toArray, List.length_cons, List.length_nil, Nat.reduceAdd, Nat.reduceSub, Array.replicate_succ, Array.replicate_zero, List.push_toArray, List.append_toArray, List.nil_append, List.cons_append]
 gi_wp2_with fail
 have hbx := below_alloc w (.cells #[.slice sa ss.length sc, .slice pa ps.length pc, .slice qa qs.length qc] 48)
 have x0 := box_self (w := w) (cs := #[.slice sa ss.length sc, .slice pa ps.length pc, .slice qa qs.length qc]) (e := 48) 0 _ rfl
 have x1 := box_self (w := w) (cs := #[.slice sa ss.length sc, .slice pa ps.length pc, .slice qa qs.length qc]) (e := 48) 1 _ rfl
 have x2 := box_self (w := w) (cs := #[.slice sa ss.length sc, .slice pa ps.length pc, .slice qa qs.length qc]) (e := 48) 2 _ rfl
 refine (callsIn_wide.2 (known_calls _)).mono ?_
 rintro e w1 ⟨rfl, hb1⟩
 have HB1 := Lib.hid (below_go hbx hb1)
 replace x0 := cell_later hb1 x0
 replace x1 := cell_later hb1 x1
 replace x2 := cell_later hb1 x2
 clear hb1 hbx
 gi_wp2_with fail
 refine region_mi [(0, false), (1, false), (2, false), (3, false), (4, false), (5, false), (6, false), (7, false), (8, false)] 9 (fun V => V.cell? ⟨w.heap.size, 0, none⟩ = some (.slice sa ss.length sc) ∧ V.cell? ⟨w.heap.size, 1, none⟩ = some (.slice pa ps.length pc) ∧ V.cell? ⟨w.heap.size, 2, none⟩ = some (.slice qa qs.length qc)) (by kernel_rfl) (by kernel_rfl) ⟨x0, x1, x2⟩ ?_
 iterate 9
  first
  | (
    refine m_take (v := ?_) rfl rfl ?_ ?_
    rotate_left
    ·
      intro W hW
      go_simp
      with_reducible rfl
    simp only [Act.put, List.setIfInBounds_toArray, List.set_cons_zero, List.set_cons_succ])
  | (
    refine m_skip rfl rfl ?_
    simp only [Act.put, List.setIfInBounds_toArray, List.set_cons_zero, List.set_cons_succ])
 refine m_done ?_
 simp only [List.drop_succ_cons, List.drop_zero]
 go_wp2_with fail
 try simp only [NP]
 gi_wp2_with fail
 clear x0 x1 x2
 refine (callsIn_wide.2 (dnew_calls 1048576 _ (by omega) (by omega))).mono ?_
 rintro e w2 ⟨rfl, hd2, hb2⟩
 obtain ⟨Bd, hBd⟩ : ∃ Bd, Bd = w1.drew.heap.size := ⟨_, rfl⟩
 obtain ⟨dd, hdd⟩ : ∃ dd, dd = w1.drew.heap.size + 2 := ⟨_, rfl⟩
 have hD : LD2 w w2 dd Bd 0 (newD 1048576 Bd) := by
  rw [hdd, hBd]
  exact ⟨hd2, Well.new _, below_go HB1.out.drew hb2, HB1.out.size⟩
 have HD := Lib.hid hD
 rw [← hdd]
 clear hd2 hb2 hD hBd hdd
 gi_upto_region 8 with (gi_at_call 8; refine (callsIn_wide.2 (topen_nil nm _)).mono ?_; rintro e w3 ⟨rfl, hw3⟩; obtain rfl : w2 = w3 := hw3.symm)
 have hlen : nm.data.toList.length = nm.size := by rw [Array.length_toList]; rfl
 have HLEN := Lib.hid hlen
 clear hlen
 gi_cut [12] from 38 (fun b wb => ∃ r : Bool, b = .bool r ∧ (r = true ↔ RightTo nm 0) ∧ wb = w2)
 case first =>
  by_cases h1 : 1 ≤ nm.size
  ·
   have d1 : decide ((1 : Int) ≤ (nm.size : Int)) = true := decide_eq_true (by omega)
   by_cases h2 : nm.size ≤ 10
   ·
     have d2 : decide ((nm.size : Int) ≤ 10) = true := decide_eq_true (by omega)
     gi_wp2_with fail
     gi_meet
     case rel => exact ⟨true, rfl, ⟨fun _ => ⟨h1, h2, fun j hj => by omega⟩, fun _ => rfl⟩, rfl⟩
   ·
     have d2 : decide ((nm.size : Int) ≤ 10) = false := decide_eq_false (by omega)
     gi_wp2_with fail
     gi_meet
     case rel => exact ⟨false, rfl, ⟨(fun h => by cases h), fun h => absurd h.2.1 h2⟩, rfl⟩
  ·
   have d1 : decide ((1 : Int) ≤ (nm.size : Int)) = false := decide_eq_false (by omega)
   gi_wp2_with fail
   gi_meet
   case rel => exact ⟨false, rfl, ⟨(fun h => by cases h), fun h => absurd h.1 h1⟩, rfl⟩
 case rest =>
  obtain ⟨r, rfl, hr, rfl⟩ := hcut
  have HR := Lib.hid hr
  clear hr
  gi_wp2_with fail
  gi_loopw [12, 13] (fun b iv wr => ∃ (k : Nat) (r : Bool), k ≤ nm.size ∧ iv = .int .i64 (k : Nat) ∧ b = .bool r ∧ (r = true ↔ RightTo nm k) ∧ wr = wc) (fun _ iv _ => nm.size - (intOf iv).toNat)
  case atStart => exact ⟨0, r, by omega, rfl, rfl, HR.out, rfl⟩
  case round =>
   obtain ⟨k, r, hk, rfl, rfl, hrk, rfl⟩ := hrel
   have HRK := Lib.hid hrk
   clear hrk HR
   by_cases hlt : k < nm.size
   ·
     have y1 : (k : Int) < (nm.size : Int) := by omega
     cases r with
     | false =>
       gi_wp2_with fail
       exact ⟨⟨k + 1, false, by omega, by go_num, rfl, ⟨(fun h => by cases h), fun h => HRK.out.2 ⟨h.1, h.2.1, fun j hj => h.2.2 j (by omega)⟩⟩, by trivial⟩, by simp [intOf]; omega⟩
     | true =>
       gi_wp2_with fail
       all_goals
        have hbt := bt_at hlt
        try rename_i hc9
        first
         | (
           refine ⟨⟨k + 1, false, by omega, by go_num, rfl, ⟨(fun h => by cases h), fun h => ?_⟩, by trivial⟩, by simp [intOf]; omega⟩
           have h9 := (RightTo.step.1 h).2.1
           rw [hbt] at h9
           omega)
         | (
           refine ⟨⟨k + 1, _, by omega, by go_num, rfl, ?_, by trivial⟩, by simp [intOf]; omega⟩
           rw [decide_eq_true_eq, RightTo.step, hbt]
           exact ⟨fun h => ⟨HRK.out.1 rfl, by omega, h⟩, fun h => h.2.2⟩)
   ·
     obtain rfl : k = nm.size := by omega
     cases r with
     | false =>
       have hbad : ¬ (1 ≤ nm.size ∧ nm.size ≤ 10 ∧ lowName nm) := fun h => by
        have h9 := HRK.out.2 ⟨h.1, h.2.1, fun j hj => h.2.2 j (by rw [HLEN.out]; exact hj)⟩
        cases h9
       have HBAD := Lib.hid hbad
       clear hbad hlt
       gi_wp2_with (gi_at_call 8; refine (callsIn_wide.2 (topen_bad dd nm _ HBAD.out)).mono ?_; rintro e w4 ⟨rfl, hb4⟩; have HB4 := Lib.hid hb4; clear hb4)
       exact ⟨_, results_tmp rfl _ _ _, rfl, below_go HD.out.bel HB4.out⟩
     | true =>
       have HRT := Lib.hid (HRK.out.1 rfl)
       have hsz : nm.size ≤ 10 := HRT.out.2.1
       have hsum : ¬ 9223372036854775807 < nm.size + 2 := by omega
       have HGA := Lib.hid (show goodNm (sfn nm 0).data.toList = true from good_low HRT.out (by decide) (by decide))
       have HSZ := Lib.hid (show (sfn nm 0).size ≤ 100 ∧ (tfn nm 0).size ≤ 100 ∧ (tfn nm 1).size ≤ 100 from ⟨by rw [← sfn_zero, size_add2]; show nm.size + 2 ≤ 100; omega, by rw [← tfn_zero, size_add2]; show nm.size + 2 ≤ 100; omega, by rw [← tfn_one, size_add2]; show nm.size + 2 ≤ 100; omega⟩)
       have HOP := Lib.hid (show ∀ (W : World) (D : Dk), LD2 w W dd Bd (0 + 1 + 1 + 1) D → Calls Try.prog 8 #[.pointer (some ⟨dd, 0, none⟩), .string nm] W (OpenOut W dd Bd D nm) from fun W D hd =>
        topen_calls (fun p pg g1 g2 => Or.inr ((pagesAny_ok p pg).2 ⟨g1, g2⟩)) dd Bd D nm W hd.disk HRT.out.1 HRT.out.2.1 HRT.out.low hd.well.ok (by have := hd.well.chg; omega) (fun i _ => by have := hd.well.file (sfn nm i); omega) (fun i _ => by have := hd.well.file (tfn nm i); omega) (fun i hi => HRT.out.goodT i hi))
       clear hlt
       gi_upto_region 20 with (first
        | (gi_at_call 8; refine (callsIn_wide.2 (HOP.out _ _ HD3.out)).mono ?_; rintro e w7 (⟨-, rfl, hx7⟩ | ⟨-, T, sl, f, size, D4, b, tg, pg, rs, rv, rfl, hx7⟩) <;> have HO := Lib.hid hx7 <;> clear hx7)
        | (gi_at_call 17; first
          | (rw [sfn_zero]; refine (callsIn_wide.2 (HD.out.write (sfn nm 0) _ ss (by omega) HGA.out HS.out HSZ.out.1)).mono ?_; rintro e w4 ⟨er, D1, rfl, hd1⟩; have HD1 := Lib.hid hd1; clear hd1)
          | (rw [tfn_zero]; refine (callsIn_wide.2 (HD1.out.write (tfn nm 0) _ ps (by omega) (HRT.out.goodT 0 (by omega)) HP.out HSZ.out.2.1)).mono ?_; rintro e w5 ⟨er2, D2, rfl, hd2⟩; have HD2 := Lib.hid hd2; clear hd2)
          | (rw [tfn_one]; refine (callsIn_wide.2 (HD2.out.write (tfn nm 1) _ qs (by omega) (HRT.out.goodT 1 (by omega)) HQ.out HSZ.out.2.2)).mono ?_; rintro e w6 ⟨er3, D3, rfl, hd3⟩; have HD3 := Lib.hid hd3; clear hd3)))
       ·
        gi_wp2_with fail
        exact ⟨_, results_tmp rfl _ _ _, rfl, below_go HD3.out.bel HO.out⟩
       ·
        have HF1 := Lib.hid (show (fileOf D3.now (tfn nm f)).length ≤ 1048576 from HD3.out.well.file _)
        obtain ⟨F, r, hts, hF, hN⟩ := HO.out.ts HF1.out
        have HTS := Lib.hid hts
        have HFB := Lib.hid hF
        have HN := Lib.hid hN
        have HB7 := Lib.hid (HD3.out.bel.trans (HO.out.st.disk.only.below HD3.out.bel.size (fun j hj hf => by
         have h2 := (HD3.out.disk.foot_lt hf).1
         have h3 := HD3.out.base
         omega)))
        clear hts hF hN HO HOP HF1
        gi_upto_region 23 with fail
        have hbM := below_alloc w7 (.cells #[.int .i64 0] 3)
        have m0 := box_self (w := w7) (cs := #[.int .i64 0]) (e := 3) 0 _ rfl
        have m1 : (w7.alloc (.cells #[.int .i64 0] 3)).frozen? ⟨w7.heap.size, 0, none⟩ = false := World.frozen?_alloc_at _ _ _ _ rfl
        have HZM := Lib.hid (show (w7.alloc (.cells #[.int .i64 0] 3)).heap.size = w7.heap.size + 1 by simp)
        have HTM := Lib.hid (HTS.out.below hbM)
        have HLM := Lib.hid (below_go HB7.out hbM)
        have HFW := Lib.hid HTS.out.hF
        have HTL := Lib.hid HTS.out.tr.lt.2
        have HT0 := Lib.hid (HFB.out)
        have HW6 := Lib.hid (show w.heap.size ≤ w6.heap.size from HD3.out.bel.size)
        have HTB := Lib.hid HTS.out.tr.lt.1
        clear hbM HTS HB7
        generalize w7.alloc (.cells #[.int .i64 0] 3) = M at *
        generalize w7.heap.size = nb at *
        gi_wp2_with (gi_at_call 10; refine (range_calls (some ⟨T, 0, none⟩) [] [] _).mono ?_; rintro e w8 ⟨rfl, rfl⟩)
        refine tree_range F r T M.heap.size (lastN rs) [] [] (fun j => j = nb) (fun rest V => C1 V nb (rflat r) rest) rfl rfl rfl HTM.out.root HTM.out.ok HTM.out.tr.at.2.2.2.2.2.2.1 ?hX (fun l W W' hc h => h.calm hc) ?h0 rfl ?hbody ?hdone
        case hX =>
         rintro j rfl
         have hzm := HZM.out
         exact ⟨fun h => by have := HFW.out _ h; omega, by have := HTL.out; omega, by omega⟩
        case h0 =>
         rw [upTo_nil, ge_nil]
         have hb : Below M.heap.size M (((M.alloc (.cells #[.pointer (some ⟨T, 0, none⟩)] 28)).alloc (.cells #[.string (bstr [])] 9)).alloc (.cells #[.string (bstr [])] 9)) := (((Below.refl _ _).alloc (Nat.le_refl _) _).alloc (by simp) _).alloc (by simp; omega) _
         have hzm := HZM.out
         exact ⟨⟨[], rfl, cell_later hb m0, (World.frozen?_of_block (a := ⟨nb, 0, none⟩) (hb.block _ (by show nb < M.heap.size; omega))).trans m1⟩⟩
        case hbody =>
         intro l x rest V hI hon hsV
         obtain ⟨pre, hpre, q0, q1⟩ := hI.it
         have hplen : pre.length ≤ 100000000 := by
          have h1 : pre.length ≤ (rflat r).length := by rw [← hpre]; simp
          have h4 := HN.out
          omega
         have HPR2 := Lib.hid hpre
         obtain ⟨xk, xv⟩ := x
         obtain ⟨N, hN⟩ : ∃ N, N = pre.length := ⟨_, rfl⟩
         rw [← hN] at q0 hplen
         have HNN := Lib.hid hN
         clear m0 m1 hI hon hsV hpre hN
         gi_wp2_with fail
         refine ⟨KeepsOthers.refl _, fun W₂ hcm => ?_⟩
         have HCM := Lib.hid hcm
         have q0' := hcm.cell q0
         have q1' := (hcm.frozen q0).trans q1
         have HQ2 := Lib.hid (And.intro q0' q1')
         clear hcm
         gi_wp2_with fail
         have ho3 := only_set W₂ nb 0 (.int .i64 ((N : Int) + 1))
         refine ⟨KeepsOthers.setCell _ _ _, ⟨⟨pre ++ [(xk, xv)], by rw [← HPR2.out]; simp, ?_, ?_⟩⟩, (Tn.of_calm HCM.out).trans (Tn.of_only ho3)⟩
         ·
          rw [List.length_append, List.length_singleton, ← HNN.out]
          exact cell_set_same _ HQ2.out.1
         ·
          rw [frozen_set]
          exact HQ2.out.2
        case hdone =>
         intro D V hD hI hon hdef
         obtain ⟨pre, hpre, q0, q1⟩ := hI.it
         rw [List.append_nil] at hpre
         rw [hpre] at q0
         have hDM : M.heap.size ≤ D := by simp only [World.size_alloc] at hD; omega
         have hzm := HZM.out
         have HTV := Lib.hid (HTM.out.only hon (fun j hj e => by have := HFW.out j hj; omega) (by have := HTL.out; omega))
         have HLV := Lib.hid (HLM.out.trans (hon.below HLM.out.size (fun j hj e => by have h7 := HTL.out; have h8 := HTB.out; have h9 := HW6.out; omega)))
         have HDV := Lib.hid (And.intro hDM hdef)
         obtain ⟨N, hN⟩ : ∃ N, N = (rflat r).length := ⟨_, rfl⟩
         rw [← hN] at q0
         have HNN := Lib.hid hN
         clear m0 m1 hI hpre q1 hon hdef hD hDM hN hzm
         gi_upto_region 27 with (gi_at_call 13; refine (callsIn_wide.2 (tdel_nil _ _)).mono ?_; rintro e w9 ⟨rfl, hw9⟩; obtain rfl : V = w9 := hw9.symm)
         refine region_mi [(0, false), (1, false), (2, true), (3, false), (4, false), (5, false), (6, true), (7, false), (8, false), (9, false), (10, false), (11, true), (12, false), (13, false), (14, false), (15, false), (16, false), (17, false), (18, false), (19, false), (20, true), (21, false), (22, false), (23, false), (24, false), (25, true), (26, false), (27, false), (28, false), (29, false), (30, true), (31, false), (32, false), (33, false), (34, false), (35, true), (36, false), (37, false), (38, false), (39, false), (40, true), (41, false), (42, false), (43, false), (44, false)] 45 (fun V => V.cell? ⟨nb, 0, none⟩ = some (.int .i64 (N : Nat))) (by kernel_rfl) (by kernel_rfl) q0 ?_
         have z0 : ∀ x : Wc (fun V => V.cell? ⟨nb, 0, none⟩ = some (.int .i64 (N : Nat))), x.v.cell? ⟨nb, 0, none⟩ = some (.int .i64 (N : Nat)) := fun x => x.h
         haveI : Nonempty (Wc (fun V => V.cell? ⟨nb, 0, none⟩ = some (.int .i64 (N : Nat)))) := ⟨⟨V, q0⟩⟩
         iterate 2
          first
          | (
             refine m_big rfl rfl rfl (fun K hK => ?_)
             go_big_quiet_op
             refine hK _ ?_
             clear hK K)
          | (
             refine m_skip rfl rfl ?_
             simp only [Act.put, List.setIfInBounds_toArray, List.set_cons_zero, List.set_cons_succ])
         refine m_loud rfl (fun K hK => ?_)
         have HK := Lib.hid hK
         clear hK
         go_simp
         refine (len_calls F r T (lastN rs) V.drew (HTV.out.below (Below.refl _ _).drew).root HTV.out.ok (by have := HN.out; omega) (by rw [World.cell?_drew]; exact HTV.out.tr.at.2.2.2.2.2.2.1)).mono ?_
         rintro e w9 ⟨rfl, hb9⟩
         rw [← HNN.out]
         have hb9 := (Below.refl V.heap.size V).drew.trans hb9
         have HT9 := Lib.hid (HTV.out.below hb9)
         have HB9 := Lib.hid hb9
         have q9 := cell_later hb9 q0
         clear hb9
         refine HK.out _ _ q9 ?_
         clear HK
         iterate 3
          first
          | (
             refine m_big rfl rfl rfl (fun K hK => ?_)
             go_big_quiet_op
             refine hK _ ?_
             clear hK K)
          | (
             refine m_skip rfl rfl ?_
             simp only [Act.put, List.setIfInBounds_toArray, List.set_cons_zero, List.set_cons_succ])
         refine m_loud rfl (fun K hK => ?_)
         have HK := Lib.hid hK
         clear hK
         go_simp
         refine (tput_step HT9.out [122] [49] (by decide) (by decide)).mono ?_
         rintro e w10 ⟨rfl, -, ho10⟩
         have hTn := HTL.out
         have HO10 := Lib.hid ho10
         have q10 := ho10.cell (show ¬ nb = T by omega) q9
         clear ho10 q9
         refine HK.out _ _ q10 ?_
         clear HK
         iterate 4
          first
          | (
             refine m_big rfl rfl rfl (fun K hK => ?_)
             go_big_quiet_op
             refine hK _ ?_
             clear hK K)
          | (
             refine m_skip rfl rfl ?_
             simp only [Act.put, List.setIfInBounds_toArray, List.set_cons_zero, List.set_cons_succ])
         refine m_loud rfl (fun K hK => ?_)
         have HK := Lib.hid hK
         clear hK
         go_simp
         refine (tput_nil _ _ w10).mono ?_
         rintro e w11 ⟨rfl, hw11⟩
         obtain rfl : w10 = w11 := hw11.symm
         refine HK.out _ _ q10 ?_
         clear HK
         iterate 8
          first
          | (
             refine m_big rfl rfl rfl (fun K hK => ?_)
             go_big_quiet_op
             refine hK _ ?_
             clear hK K)
          | (
             refine m_skip rfl rfl ?_
             simp only [Act.put, List.setIfInBounds_toArray, List.set_cons_zero, List.set_cons_succ])
         refine m_loud rfl (fun K hK => ?_)
         have HK := Lib.hid hK
         clear hK
         go_simp
         refine (commit_nil _ w10).mono ?_
         rintro e w11 ⟨rfl, hw11⟩
         obtain rfl : w10 = w11 := hw11.symm
         refine HK.out _ _ q10 ?_
         clear HK
         iterate 4
          first
          | (
             refine m_big rfl rfl rfl (fun K hK => ?_)
             go_big_quiet_op
             refine hK _ ?_
             clear hK K)
          | (
             refine m_skip rfl rfl ?_
             simp only [Act.put, List.setIfInBounds_toArray, List.set_cons_zero, List.set_cons_succ])
         refine m_loud rfl (fun K hK => ?_)
         have HK := Lib.hid hK
         clear hK
         go_simp
         refine (back_nil w10).mono ?_
         rintro e w11 ⟨rfl, hw11⟩
         obtain rfl : w10 = w11 := hw11.symm
         refine HK.out _ _ q10 ?_
         clear HK
         iterate 4
          first
          | (
             refine m_big rfl rfl rfl (fun K hK => ?_)
             go_big_quiet_op
             refine hK _ ?_
             clear hK K)
          | (
             refine m_skip rfl rfl ?_
             simp only [Act.put, List.setIfInBounds_toArray, List.set_cons_zero, List.set_cons_succ])
         refine m_loud rfl (fun K hK => ?_)
         have HK := Lib.hid hK
         clear hK
         go_simp
         refine (drop_nil _ w10).mono ?_
         rintro e w11 ⟨rfl, hw11⟩
         obtain rfl : w10 = w11 := hw11.symm
         refine HK.out _ _ q10 ?_
         clear HK
         iterate 4
          first
          | (
             refine m_big rfl rfl rfl (fun K hK => ?_)
             go_big_quiet_op
             refine hK _ ?_
             clear hK K)
          | (
             refine m_skip rfl rfl ?_
             simp only [Act.put, List.setIfInBounds_toArray, List.set_cons_zero, List.set_cons_succ])
         refine m_loud rfl (fun K hK => ?_)
         have HK := Lib.hid hK
         clear hK
         go_simp
         refine (len_nil w10).mono ?_
         rintro e w11 ⟨rfl, hb11⟩
         have HB11 := Lib.hid hb11
         have q11 := cell_later hb11 q10
         clear hb11 q10
         refine HK.out _ _ q11 ?_
         clear HK
         iterate 4
          first
          | (
             refine m_big rfl rfl rfl (fun K hK => ?_)
             go_big_quiet_op
             refine hK _ ?_
             clear hK K)
          | (
             refine m_skip rfl rfl ?_
             simp only [Act.put, List.setIfInBounds_toArray, List.set_cons_zero, List.set_cons_succ])
         refine m_loud rfl (fun K hK => ?_)
         have HK := Lib.hid hK
         clear hK
         go_simp
         refine (tags_nil w11).mono ?_
         rintro e w12 ⟨rfl, hw12⟩
         obtain rfl : w11 = w12 := hw12.symm
         refine HK.out _ _ q11 ?_
         clear HK
         iterate 1
          refine m_take (v := ?_) rfl rfl ?_ ?_
          rotate_left
          ·
            intro W hW
            go_simp
            with_reducible rfl
          simp only [Act.put, List.setIfInBounds_toArray, List.set_cons_zero, List.set_cons_succ]
         iterate 3
          first
          | (
             refine m_big rfl rfl rfl (fun K hK => ?_)
             go_big_quiet_op
             refine hK _ ?_
             clear hK K)
          | (
             refine m_skip rfl rfl ?_
             simp only [Act.put, List.setIfInBounds_toArray, List.set_cons_zero, List.set_cons_succ])
         refine m_done ?_
         simp only [List.drop_succ_cons, List.drop_zero]
         go_wp2_with fail
         try simp only [NP]
         gi_wp2_with fail
         have hDl := (Array.getElem?_eq_some_iff.1 HDV.out.2).1
         have hzm := HZM.out
         have hdd : w11.heap[D]? = some (.deferred (some [])) := (HB11.out.block D (by have h8 := HB9.out.size; have h9 := HO10.out.size; omega)).trans ((HO10.out.block D (by have h8 := HB9.out.size; omega) (by have h7 := HDV.out.1; omega)).trans ((HB9.out.block D hDl).trans HDV.out.2))
         refine ⟨by simp, .inl ⟨_, _, rfl, run_takeDeferred hdd, ?_⟩⟩
         refine ⟨_, results_tmp rfl _ _ _, rfl, ?_⟩
         have hBw : Below w.heap.size w w11 := (below_go (below_go HLV.out HB9.out) (Below.refl _ _)).trans (((HO10.out.below (B := w.heap.size) (by have h8 := HB9.out.size; have h9 := HLV.out.size; omega) (fun j hj e => by have h7 := HTB.out; have h6 := HW6.out; omega))).trans (HB11.out.mono (by have h8 := HB9.out.size; have h9 := HLV.out.size; have h7 := HO10.out.size; omega)))
         exact hBw.trans (Calm.putObj (B := w.heap.size) _ (by have h7 := HDV.out.1; have h5 := HTB.out; have h6 := HW6.out; omega) hdd rfl).below
end Go.Proofs.Ytmafnjidhjabgaa
namespace Go.Proofs.Ytmafnjidhjabgaa
open Go.RowKit Go.ChangeShapes Go.WideShapes Go.ChangeAt
set_option maxRecDepth 100000
theorem open_files {H : Type} {enc : TypeId × Value → H} {W : World} {B : Nat} {held : Bool} {v : Value} {d : DataW H} {p : List MemPlace}
  (ok : Value.okWide Try.prog W .any B 48 v) (h : DataW.Trod enc Try.prog W 0 (fun _ => true) held 48 v d p) : ∃ (sv pv qv : Value) (ss ps qs : List UInt8), v = .agg #[sv, pv, qv] ∧ Bytes W sv ss ∧ Bytes W pv ps ∧ Bytes W qv qs := by
 obtain ⟨csA, rfl, hsz⟩ := okWide_struct Try.underlying48 ok
 obtain ⟨fuel, hf⟩ := h
 have hs3 : csA.toList.length = 3 := by have : csA.size = 3 := hsz.trans (by kernel_rfl); simpa using this
 simp only [Value.cells] at hf
 obtain ⟨xs, n, -, hxy, -, hxl, hx⟩ := DataW.trod_struct Try.underlying48 hf
 have hc : Try.prog.cellsOf 46 = 1 := by kernel_rfl
 obtain ⟨L, hL⟩ : ∃ L, L = csA.toList := ⟨_, rfl⟩
 have hcs : csA = L.toArray := by rw [hL]
 rw [← hL] at hs3 hx
 subst hcs
 clear hL hsz hf ok
 match L, hs3 with
 | [v0, v1, v2], _ =>
  have h0 : DataW.trod enc Try.prog W 0 (fun _ => true) held n 46 (([v0, v1, v2].drop 0).take (Try.prog.cellsOf 46)) = xs[0]? := hx 0 _ rfl
  have h1 : DataW.trod enc Try.prog W 0 (fun _ => true) held n 46 (([v0, v1, v2].drop 1).take (Try.prog.cellsOf 46)) = xs[1]? := hx 1 _ rfl
  have h2 : DataW.trod enc Try.prog W 0 (fun _ => true) held n 46 (([v0, v1, v2].drop 2).take (Try.prog.cellsOf 46)) = xs[2]? := hx 2 _ rfl
  simp only [hc, List.drop_zero, List.drop_succ_cons, List.take_succ_cons, List.take_zero] at h0 h1 h2
  have hs : ∀ i, i < 3 → ∃ z, xs[i]? = some z := fun i hi => ⟨_, List.getElem?_eq_getElem (by rw [hxl]; exact hi)⟩
  obtain ⟨z0, e0⟩ := hs 0 (by omega)
  obtain ⟨z1, e1⟩ := hs 1 (by omega)
  obtain ⟨z2, e2⟩ := hs 2 (by omega)
  rw [e0] at h0; rw [e1] at h1; rw [e2] at h2
  obtain ⟨a, x, ha, hx0, -⟩ := cells_bytes h0
  obtain ⟨b, y, hb, hx1, -⟩ := cells_bytes h1
  obtain ⟨c, z, hc', hx2, -⟩ := cells_bytes h2
  cases ha; cases hb; cases hc'
  exact ⟨_, _, _, _, _, _, rfl, hx0, hx1, hx2⟩
end Go.Proofs.Ytmafnjidhjabgaa
