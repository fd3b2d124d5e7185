/- Walks and plain laws of the chapter, laid together; each part says what it proves. -/
import Derived.Sort.CutIn
import Derived.Test.YtmafnjidhjabgaaPkA
import Derived.Test.YtmafnjidhjabgaaPkL
import Derived.Test.YtmafnjidhjabgaaPkN
import Derived.Test.YtmafnjidhjabgaaPkO
import Derived.Test.YtmafnjidhjabgaaPkQ
namespace Go.Proofs.Ytmafnjidhjabgaa
open Go.RowKit Go.Shelf
set_option linter.unusedVariables false
set_option linter.unusedSectionVars false
set_option linter.unusedSimpArgs false
set_option maxRecDepth 100000
variable [Inhabited Pgs]
theorem rm_well {D : Dk} {nm : ByteArray} (h1 : D.fails = false) (h2 : goodNm nm.data.toList = true) (h : (mget D.now nm).isSome = true) : rmE D nm = 0 := by
 have hr : rdyE D nm 0 = 0 := by
  unfold rdyE
  rw [h1, h2]
  simp
 unfold rmE
 rw [hr, if_neg (by simp), if_neg]
 rw [Option.isNone_iff_eq_none]
 intro h3
 rw [h3] at h
 cases h
theorem sy_rm_well {D : Dk} {nm : ByteArray} {cv : Value} (h1 : D.fails = false) (h2 : goodNm nm.data.toList = true) : syE (rmD D nm cv) nm = 0 := by
 have hr : rdyE (rmD D nm cv) nm 0 = 0 := by
  unfold rdyE
  rw [show (rmD D nm cv).fails = D.fails from rfl, h1, h2]
  simp
 unfold syE
 rw [hr, if_neg (by simp), if_neg]
 rintro ⟨-, -, h3⟩
 have : (rmD D nm cv).chg.any (isNm nm) = true := by
  show (D.chg ++ [_]).any (isNm nm) = true
  rw [List.any_append]
  simp [isNm]
 rw [this] at h3
 cases h3
def goneD (D : Dk) (nm : ByteArray) (cv cv2 v : Value) : Dk := syD (rmD D nm cv) nm cv2 v
theorem gone_chg (D : Dk) (nm : ByteArray) (cv cv2 v : Value) : (goneD D nm cv cv2 v).chg.length ≤ D.chg.length + 1 := by
 have h : ((D.chg ++ [(⟨2, nm, 0, .slice none 0 0, []⟩ : Chg)]).filter (fun c => !isNm nm c)).length ≤ (D.chg ++ [(⟨2, nm, 0, .slice none 0 0, []⟩ : Chg)]).length := List.length_filter_le _ _
 rw [List.length_append] at h
 exact h
set_option maxHeartbeats 4000000 in
theorem tremove_calls (T d Bd i : Nat) (nm : ByteArray) (D : Dk) (w : World) (hi : i < 2) (c0 : w.cell? ⟨T, 0, none⟩ = some (.pointer (some ⟨d, 0, none⟩))) (c1 : w.cell? ⟨T, 1, none⟩ = some (.string nm)) (hd : DiskAt w Bd d D) (hT : ¬ D.foot d T) (hok : D.fails = false) (hg : goodNm (tfn nm i).data.toList = true) (hnm : nm.size ≤ 10) (hin : (mget D.now (tfn nm i)).isSome = true) (hc : D.chg.length < 900000) :
  Calls Try.prog 29 #[.pointer (some ⟨T, 0, none⟩), .int .i64 (i : Nat)] w fun e w' => e = .returned (.int .i64 0) ∧ ∃ cv cv2 v, Turned w w' Bd d D (goneD D (tfn nm i) cv cv2 v) := by
 have hsz : (tfn nm i).size ≤ 140737488355328 := by
  have : (tfn nm i).data.toList.length ≤ 32 := by
   unfold goodNm at hg
   simp only [Bool.and_eq_true, decide_eq_true_eq] at hg
   exact hg.1.2
  have e : (tfn nm i).data.toList.length = (tfn nm i).size := by rw [Array.length_toList]; rfl
  omega
 have HD := Lib.hid hd
 have HT := Lib.hid hT
 have HG := Lib.hid (And.intro hok (And.intro hg hin))
 have HTL := Lib.hid (World.block_lt_of_cell? w _ c0)
 have HSZ := Lib.hid hsz
 clear hd hT hok hg hin hsz
 go_enter Try.func29, Try.ntmps29
 go_wp2_with fail
 refine region_m [(0, false), (1, false), (2, false), (3, false), (4, false), (5, false), (6, true), (7, true), (8, false)] 9 (fun V => V.cell? ⟨T, 0, none⟩ = some (.pointer (some ⟨d, 0, none⟩))) (by kernel_rfl) (by kernel_rfl) c0 ?_
 iterate 6
  refine m_take (v := ?_) rfl rfl ?_ ?_
  rotate_left
  ·
   intro W hW
   go_simp
   with_reducible rfl
  simp only [Act.put, List.setIfInBounds_toArray, List.set_cons_zero, List.set_cons_succ]
 refine m_loud rfl (fun K hK => ?_)
 have HK := Lib.hid hK
 clear hK
 go_simp
 refine (path_calls T nm i hi w.drew (by rw [World.cell?_drew]; exact c1) (by omega)).mono ?_
 rintro e w1 ⟨rfl, hb1⟩
 have hb1 : Below w.heap.size w w1 := ((Below.refl w.heap.size w).drew).trans hb1
 have HB1 := Lib.hid hb1
 have c0' := cell_later hb1 c0
 have c1' := cell_later hb1 c1
 refine HK.out _ _ c0' ?_
 clear HK
 refine m_loud rfl (fun K hK => ?_)
 have HK := Lib.hid hK
 clear hK
 go_simp
 refine (dremove_calls d Bd D (tfn nm i) w1 (HD.out.below HB1.out) HSZ.out (by omega)).mono ?_
 rintro e w2 ⟨er, rfl, her, hpost⟩
 rw [rm_well HG.out.1 HG.out.2.1 HG.out.2.2] at her
 subst her
 obtain ⟨hne, -⟩ | ⟨-, cv, ht⟩ := hpost
 · exact absurd rfl hne
 have HTW := Lib.hid (Turned.after ht HB1.out HD.out)
 have c02 := HTW.out.only.cell HT.out c0
 have c12 := HTW.out.only.cell HT.out c1
 clear ht hb1 c0 c1 c0' c1'
 refine HK.out _ _ c02 ?_
 clear HK
 iterate 1
  refine m_take (v := ?_) rfl rfl ?_ ?_
  rotate_left
  ·
   intro W hW
   go_simp
   with_reducible rfl
  simp only [Act.put, List.setIfInBounds_toArray, List.set_cons_zero, List.set_cons_succ]
 refine m_done ?_
 simp only [List.drop_succ_cons, List.drop_zero]
 go_wp2_with fail
 try simp only [NP]
 go_wp2_with fail
 have HT2 := Lib.hid (show ¬ (rmD D (tfn nm i) cv).foot d T from fun h => (HTW.out.foot T h).elim HT.out (fun h => by have := HTL.out; omega))
 refine region_m [(0, false), (1, false), (2, false), (3, false), (4, false), (5, false), (6, true), (7, true)] 8 (fun V => V.cell? ⟨T, 0, none⟩ = some (.pointer (some ⟨d, 0, none⟩))) (by kernel_rfl) (by kernel_rfl) c02 ?_
 iterate 6
  refine m_take (v := ?_) rfl rfl ?_ ?_
  rotate_left
  ·
   intro W hW
   go_simp
   with_reducible rfl
  simp only [Act.put, List.setIfInBounds_toArray, List.set_cons_zero, List.set_cons_succ]
 refine m_loud rfl (fun K hK => ?_)
 have HK := Lib.hid hK
 clear hK
 go_simp
 refine (path_calls T nm i hi w2.drew (by rw [World.cell?_drew]; exact c12) (by omega)).mono ?_
 rintro e w3 ⟨rfl, hb3⟩
 have hb3 : Below w2.heap.size w2 w3 := ((Below.refl w2.heap.size w2).drew).trans hb3
 have HB3 := Lib.hid hb3
 have c03 := cell_later hb3 c02
 refine HK.out _ _ c03 ?_
 clear HK
 refine m_loud rfl (fun K hK => ?_)
 have HK := Lib.hid hK
 clear hK
 go_simp
 refine (dsync_calls d Bd (rmD D (tfn nm i) cv) (tfn nm i) w3 (HTW.out.is.below HB3.out) HSZ.out (by
   have : fileOf (rmD D (tfn nm i) cv).now (tfn nm i) = [] := by
    unfold fileOf
    rw [show (rmD D (tfn nm i) cv).now = mdel D.now (tfn nm i) from rfl, mget_del_same _ _ HD.out.know]
    rfl
   rw [this]; simp) (by show (D.chg ++ [_]).length ≤ _; rw [List.length_append]; simp; omega)).mono ?_
 rintro e w4 ⟨er, rfl, her, hpost⟩
 rw [sy_rm_well HG.out.1 HG.out.2.1] at her
 subst her
 obtain ⟨hne, -⟩ | ⟨-, cv2, v2, ht⟩ := hpost
 · exact absurd rfl hne
 have HTF := Lib.hid (HTW.out.trans (Turned.after ht HB3.out HTW.out.is))
 have c04 := (Turned.after ht HB3.out HTW.out.is).only.cell HT2.out c02
 clear ht hb3 c02 c12 c03
 refine HK.out _ _ c04 ?_
 clear HK
 refine m_done ?_
 simp only [List.drop_succ_cons, List.drop_zero]
 go_wp2_with fail
 try simp only [NP]
 go_wp2_with fail
 go_ret
 exact ⟨rfl, cv, cv2, v2, HTF.out⟩
def lastN (rs : List Rt) : Option Addr := match rs.getLast? with | some r => r.2 | none => none
set_option maxHeartbeats 2000000 in
theorem back_calls (B T d : Nat) (t : Tr) (rs : List Rt) (w : World) (h : TrAt w B T d t) (hr : Rd w 2 t.rv rs.length (flatF Rt.cells rs)) (hn : rs.length ≤ 1000000) (hTr : ∀ a n c, t.rv = .slice (some a) n c → a.block ≠ T) :
  Calls Try.prog 19 #[.pointer (some ⟨T, 0, none⟩)] w fun e w' => e = .returned (.int .i64 0) ∧ TrAt w' B T d { t with now := lastN rs } ∧ Only (fun j => j = T) w w' := by
 obtain ⟨tn, tsl, tf, tsz, trv, tnow, tb⟩ := t
 simp only at hr hTr
 obtain ⟨ra, rc, rfl, hr1, hr2⟩ := Rd.slice hr
 have HT := Lib.hid h
 obtain ⟨-, -, -, -, -, c5, c6, -, fz⟩ := h.at
 have f6 := fz 6
 simp only at c5 c6
 have HS0 := Lib.hid (h.setNow none)
 have HO0 := Lib.hid ((Only.refl (fun j => j = T) w).setCell ⟨T, 6, none⟩ (.pointer none) (.inl rfl))
 rcases List.eq_nil_or_concat rs with rfl | ⟨l, x, rfl⟩
 ·
  clear h hr fz
  simp only [List.length_nil] at c5
  go_enter Try.func19, Try.ntmps19
  go_wp2_with fail
  go_ret
  exact ⟨rfl, HS0.out, HO0.out⟩
 ·
  rw [List.concat_eq_append] at *
  have hl : (l ++ [x]).length = l.length + 1 := by simp
  obtain ⟨b, o, rfl, he⟩ := rdF_at (k := 2) rt2 hr l.length (by omega)
  have ex : (l ++ [x])[l.length]'(by omega) = x := by simp
  have q1 : w.cell? ⟨b, o + l.length * 2 + 1, none⟩ = some (.pointer x.2) := he 1 _ (by omega) (by rw [ex]; rfl)
  have hbT : b ≠ T := hTr _ _ _ rfl
  have q2 : (w.setCell ⟨T, 6, none⟩ (.pointer none)).cell? ⟨b, o + l.length * 2 + 1, none⟩ = some (.pointer x.2) := by rw [cell_set_block _ hbT]; exact q1
  have HLN := Lib.hid (show lastN (l ++ [x]) = x.2 by unfold lastN; simp)
  have HS1 := Lib.hid (HS0.out.setNow x.2)
  have HO1 := Lib.hid (HO0.out.setCell ⟨T, 6, none⟩ (.pointer x.2) (.inl rfl))
  rw [hl] at c5 hr1 hn
  have HL := Lib.hid hl
  clear h hr fz he ex q1 hTr hl
  go_enter Try.func19, Try.ntmps19
  go_wp2_with fail
  go_ret
  refine ⟨rfl, ?_, HO1.out⟩
  rw [HLN.out]
  have h9 := HS1.out
  rw [HL.out] at h9
  exact h9
end Go.Proofs.Ytmafnjidhjabgaa
namespace Go.Proofs.Ytmafnjidhjabgaa
open Go.RowKit Go.Shelf
set_option linter.unusedVariables false
set_option linter.unusedSectionVars false
set_option linter.unusedSimpArgs false
set_option maxRecDepth 100000
variable [Inhabited Pgs]
structure DeepAt (w : World) (x : Nat) (dp : Int) : Prop where
 c : w.cell? ⟨x, 0, none⟩ = some (.int .i64 dp)
 fz : ∀ o, w.frozen? ⟨x, o, none⟩ = false
 ty : IsT 3 w x
theorem DeepAt.lt {w : World} {x : Nat} {dp : Int} (h : DeepAt w x dp) : x < w.heap.size := h.ty.lt
theorem DeepAt.no {w : World} {x : Nat} {dp : Int} (h : DeepAt w x dp) : ∀ j, j = x → ¬ TyB w j := fun j e hj => by
 subst e
 exact hj.ne h.ty (by decide) (by decide) (by decide)
theorem DeepAt.only {S : Nat → Prop} {w w' : World} {x : Nat} {dp : Int} (h : DeepAt w x dp) (ho : Only S w w') (hS : ¬ S x) : DeepAt w' x dp := by
 refine ⟨ho.cell hS h.c, fun o => (World.frozen?_of_block (a := ⟨x, o, none⟩) (ho.block x h.lt hS)).trans (h.fz o), ?_⟩
 obtain ⟨cs, y, hc⟩ := h.ty
 exact ⟨cs, y, (ho.block x h.lt hS).trans hc⟩
theorem DeepAt.set {w : World} {x : Nat} {dp : Int} (h : DeepAt w x dp) (n : Int) : DeepAt (w.setCell ⟨x, 0, none⟩ (.int .i64 n)) x n := by
 obtain ⟨cs, y, hc⟩ := h.ty
 have hc0 := h.c
 rw [cell_cells hc] at hc0
 obtain ⟨h0, -⟩ := Array.getElem?_eq_some_iff.1 hc0
 have hl : x < w.heap.size := h.lt
 have e : (w.setCell ⟨x, 0, none⟩ (.int .i64 n)).heap[x]? = some (.cells (cs.set! 0 (.int .i64 n)) 3 y) := by
  have hm : w.heap[x] = .cells cs 3 y := by
   rw [Array.getElem?_eq_getElem hl] at hc
   exact Option.some.inj hc
  simp [World.setCell, hl, Array.getElem_modify, hm]
 refine ⟨?_, fun o => ?_, ⟨_, y, e⟩⟩
 ·
  rw [cell_cells e]
  simp [h0]
 ·
  have hf := h.fz o
  unfold World.frozen? at hf ⊢
  simp only [hc] at hf
  simp only [e]
  exact hf
def DownOut (w : World) (b : List UInt8) (pg : Int) (dep x : Nat) (dp : Int) (e : Ending) (w' : World) : Prop :=
 ∃ (r : Bool) (dp' : Int), e = .returned (.bool r) ∧ DeepAt w' x dp' ∧ Only (fun j => j = x) w w' ∧ (dp' = -1 ∨ (0 ≤ dp' ∧ dp' ≤ 100)) ∧ (r = true → ∃ h : Nat, Sound b pg (if dep = 0 then 1 else 3) h ∧ dp' = (dep : Int) + (h : Nat) ∧ (dp = -1 ∨ dp = dp')) ∧ (r = false → ∀ h : Nat, Sound b pg (if dep = 0 then 1 else 3) h → ¬ (dp = -1 ∨ dp = (dep : Int) + (h : Nat)))
def DownSpec (b : List UInt8) (d : Nat) : Prop := ∀ (F : Nat → Prop) (pg : Int) (p dep x y : Nat) (dp : Int) (w : World), PgAt w F b d pg p → dep + d ≤ 41 → (dp = -1 ∨ (0 ≤ dp ∧ dp ≤ 100)) → DeepAt w x dp → w.cell? ⟨y, 0, none⟩ = some (.func (.func 50) #[] #[.pointer (some ⟨x, 0, none⟩), .pointer (some ⟨y, 0, none⟩)]) → y ≠ x →
 Calls Try.prog 50 #[ptrV p, .int .i64 (dep : Nat), .pointer (some ⟨x, 0, none⟩), .pointer (some ⟨y, 0, none⟩)] w (DownOut w b pg dep x dp)
set_option maxHeartbeats 4000000 in
theorem down_step (b : List UInt8) (d : Nat) (hih : ∀ g, d = g + 1 → DownSpec b g) : DownSpec b d := by
 intro F pg p dep x y dp w hp hdd hdp hda hcy hyx
 cases d with
 | zero => exact hp.elim
 | succ d =>
  obtain ⟨es, ks, kv, vv, cv, ps, h1, h2, h3, h4, h5⟩ := hp
  have HIH := Lib.hid hih
  have HPP := Lib.hid h1
  have HN := Lib.hid h2
  have HH5 := Lib.hid h5
  have HDA := Lib.hid hda
  have HDP := Lib.hid hdp
  have HCY := Lib.hid hcy
  have HYX := Lib.hid hyx
  have HPL := Lib.hid h4
  have hes0 := (pageP_some h1).2.2.1
  have hes1 := (pageP_some h1).2.2.2.1
  have hkl9 : ps.length ≤ 65537 := by have := pageP_some h1; omega
  have c0 := h2.c0
  have c2 := h2.c2
  obtain ⟨ka, kc, rfl, hk1, hk2⟩ := Rd.slice h2.rk.rd
  obtain ⟨ca, cc, rfl, hc1, hc2⟩ := Rd.slice h2.rc.rd
  clear hih h1 h2 h3 h4 h5 hda hdp hcy hyx
  unfold ptrV
  go_enter Try.func50, Try.ntmps50
  by_cases h7 : 7 < es.length
  ·
   have d1 : decide ((7 : Int) < (es.length : Int)) = true := decide_eq_true (by omega)
   have HNS := Lib.hid (show ∀ h, ¬ Sound b pg (if dep = 0 then 1 else 3) h from fun h hs => by have := (hs.inv HPP.out).2.1; omega)
   go_wp2_with fail
   go_ret
   exact ⟨false, dp, rfl, HDA.out, Only.refl _ _, HDP.out, (fun h => by cases h), fun _ h hs => absurd hs (HNS.out h)⟩
  ·
   have d1 : decide ((7 : Int) < (es.length : Int)) = false := decide_eq_false (by omega)
   by_cases hdep : 0 < dep
   ·
    have d2 : decide ((0 : Int) < (dep : Int)) = true := decide_eq_true (by omega)
    by_cases h3 : es.length < 3
    ·
     have d3 : decide ((es.length : Int) < 3) = true := decide_eq_true (by omega)
     have HNS := Lib.hid (show ∀ h, ¬ Sound b pg (if dep = 0 then 1 else 3) h from fun h hs => by have h1 := (hs.inv HPP.out).1; rw [if_neg (by omega)] at h1; omega)
     go_wp2_with fail
     go_ret
     exact ⟨false, dp, rfl, HDA.out, Only.refl _ _, HDP.out, (fun h => by cases h), fun _ h hs => absurd hs (HNS.out h)⟩
    ·
     have d3 : decide ((es.length : Int) < 3) = false := decide_eq_false (by omega)
     have hlo : (if dep = 0 then 1 else 3) ≤ es.length := by rw [if_neg (by omega)]; omega
     have HLO := Lib.hid hlo
     clear hlo
     by_cases hps : ps.length = 0
     ·
      have e0 : ((ps.length : Int) == 0) = true := by simp [hps]
      have hks0 : ks = [] := List.length_eq_zero_iff.1 (HPL.out.symm.trans hps)
      have hes7 : es.length ≤ 7 := by omega
      have HSO := Lib.hid (Sound.leaf (lo := if dep = 0 then 1 else 3) (hks0 ▸ HPP.out) HLO.out hes7)
      have hcx := HDA.out.c
      have hfx := HDA.out.fz 0
      have HSET := Lib.hid (HDA.out.set (dep : Nat))
      clear hks0 hps
      by_cases hm1 : dp = -1
      ·
       subst hm1
       go_wp2_with fail
       go_ret
       exact ⟨true, (dep : Nat), rfl, HSET.out, (Only.refl _ _).setCell _ _ (.inl rfl), .inr ⟨by omega, by omega⟩, (fun _ => ⟨0, HSO.out, by simp, .inl rfl⟩), fun h => by cases h⟩
      ·
       have e1 : (dp == -1) = false := by simpa using hm1
       by_cases heq : dp = (dep : Nat)
       ·
        have e2 : (dp == (dep : Int)) = true := by simpa using heq
        have HEQ := Lib.hid heq
        clear heq hm1
        go_wp2_with fail
        go_ret
        exact ⟨true, (dep : Nat), rfl, HSET.out, (Only.refl _ _).setCell _ _ (.inl rfl), .inr ⟨by omega, by omega⟩, (fun _ => ⟨0, HSO.out, by simp, .inr HEQ.out⟩), fun h => by cases h⟩
       ·
        have e2 : (dp == (dep : Int)) = false := by simpa using heq
        have HNE := Lib.hid (And.intro heq hm1)
        clear heq hm1
        go_wp2_with fail
        go_ret
        exact ⟨false, (dep : Nat), rfl, HSET.out, (Only.refl _ _).setCell _ _ (.inl rfl), .inr ⟨by omega, by omega⟩, (fun h => by cases h), fun _ h hs hor => by have e := hs.one HSO.out; have h1 := HNE.out.1; have h2 := HNE.out.2; omega⟩
     ·
      have e0 : ((ps.length : Int) == 0) = false := beq_eq_false_iff_ne.2 (by omega)
      have HPS := Lib.hid hps
      clear hps
      go_wp2_with fail
      go_loopw [9, 48] (fun _ iv wr => ∃ (j : Nat) (dpj : Int), j ≤ ps.length ∧ iv = .int .i64 (j : Nat) ∧ DeepAt wr x dpj ∧ Only (fun j => j = x) w wr ∧ (dpj = -1 ∨ (0 ≤ dpj ∧ dpj ≤ 100)) ∧ ((j = 0 ∧ dpj = dp) ∨ (0 < j ∧ ∃ h : Nat, Sounds b (ks.take j) h ∧ dpj = (dep : Int) + 1 + (h : Nat) ∧ (dp = -1 ∨ dp = dpj)))) (fun _ iv _ => ps.length - (intOf iv).toNat)
      case atStart => exact ⟨0, dp, by omega, rfl, HDA.out, Only.refl _ _, HDP.out, .inl ⟨rfl, rfl⟩⟩
      case round =>
       obtain ⟨j, dpj, hj, rfl, hda, hon, hdb, hst⟩ := hrel
       have HDA2 := Lib.hid hda
       have HON := Lib.hid hon
       have HDB := Lib.hid hdb
       have HST := Lib.hid hst
       clear hda hon hdb hst
       by_cases hlt : j < ps.length
       ·
        have hn := HN.out.maps HON.out (HDA.out.no)
        obtain ⟨cb, co, hca, -, -, hcell⟩ := hn.rc.at (ptrs_get (List.getElem?_eq_getElem hlt))
        cases hca
        have hq : ps[j]? = some ps[j] := List.getElem?_eq_getElem hlt
        have hkl : j < ks.length := by have := HPL.out; omega
        have hc : ks[j]? = some ks[j] := List.getElem?_eq_getElem hkl
        have HPQ := Lib.hid ((HH5.out j _ _ hc hq).maps HON.out (HDA.out.no))
        have HTK := Lib.hid (List.take_succ_eq_append_getElem hkl)
        have HCJ := Lib.hid hc
        have hcy := HON.out.cell (fun e => HYX.out e) HCY.out
        generalize ks[j] = c at *
        generalize ps[j] = q at *
        have q1 := w64 (n := (dep : Int) + 1) (by omega) (by omega)
        clear hn hq hc hkl
        go_wp2_with (go_at_call 50; refine (HIH.out d rfl F c q (dep + 1) x y dpj wr HPQ.out (by omega) HDB.out HDA2.out hcy HYX.out).mono ?_; rintro e w2 ⟨r, dp2, rfl, hd2, ho2, hb2, hr2, hr3⟩; cases r <;> have HD2 := Lib.hid hd2 <;> have HO2 := Lib.hid ho2 <;> have HB2 := Lib.hid hb2 <;> have HR2 := Lib.hid hr2 <;> have HR3 := Lib.hid hr3 <;> clear hd2 ho2 hb2 hr2 hr3)
        ·
         go_ret
         refine ⟨false, dp2, rfl, HD2.out, HON.out.trans HO2.out (fun j _ h => h), HB2.out, (fun h => by cases h), fun _ h hs hor => ?_⟩
         have hks : ks ≠ [] := fun e => by have h1 := HPL.out; have h2 := HPS.out; rw [e] at h1; exact h2 h1
         obtain ⟨-, -, -, hkk⟩ := hs.inv HPP.out
         obtain ⟨h', rfl, hk⟩ := hkk hks
         have hx := HR3.out trivial h'
         rw [if_neg (by omega)] at hx
         refine hx (hk j c HCJ.out) ?_
         rcases HST.out with ⟨-, e0⟩ | ⟨hj0, h2, hs2, he2, -⟩
         · omega
         ·
          have h0 : 0 < ks.length := by have := HPL.out; omega
          have hc0 : ks[0]? = some (ks[0]'h0) := List.getElem?_eq_getElem h0
          have hc1 : (ks.take j)[0]? = some (ks[0]'h0) := by rw [List.getElem?_take, if_pos hj0]; exact hc0
          have e3 := (hs2.at hc1).one (hk 0 _ hc0)
          omega
        ·
         go_wp2_with fail
         go_roundw
         case rel =>
          obtain ⟨h, hs, he, hor⟩ := HR2.out trivial
          rw [if_neg (by omega)] at hs
          refine ⟨j + 1, dp2, by omega, by go_num, HD2.out, HON.out.trans HO2.out (fun j _ h => h), HB2.out, .inr ⟨by omega, h, ?_, by rw [he]; omega, ?_⟩⟩
          ·
           rw [HTK.out]
           rcases HST.out with ⟨rfl, -⟩ | ⟨hj0, h', hs', he', -⟩
           · exact (Sounds.nil b h).snoc hs
           ·
            obtain rfl : h' = h := by omega
            exact hs'.snoc hs
          ·
           rcases HST.out with ⟨-, e0⟩ | ⟨hj0, h', hs', he', hor'⟩
           · rw [← e0]; exact hor
           ·
            rcases hor' with h1 | h1
            · exact .inl h1
            · right; omega
         case measure => simp [intOf]; omega
       ·
        obtain rfl : j = ps.length := by omega
        go_wp2_with fail
        go_ret
        refine ⟨true, dpj, rfl, HDA2.out, HON.out, HDB.out, fun _ => ?_, fun h => by cases h⟩
        rcases HST.out with ⟨h0, -⟩ | ⟨hj0, h, hs, he, hor⟩
        · exact absurd h0 HPS.out
        ·
         have hes7 : es.length ≤ 7 := by omega
         have hk0 : 0 < ks.length := by have := HPL.out; have := HPS.out; omega
         refine ⟨h + 1, Sound.node HPP.out hk0 HLO.out hes7 ?_, by rw [he]; omega, hor⟩
         have e : ks.take ps.length = ks := List.take_of_length_le (by have := HPL.out; omega)
         rw [e] at hs
         exact hs
   ·
    have d2 : decide ((0 : Int) < (dep : Int)) = false := decide_eq_false (by omega)
    have hlo : (if dep = 0 then 1 else 3) ≤ es.length := by rw [if_pos (by omega)]; omega
    have HLO := Lib.hid hlo
    clear hlo
    by_cases hps : ps.length = 0
    ·
     have e0 : ((ps.length : Int) == 0) = true := by simp [hps]
     have hks0 : ks = [] := List.length_eq_zero_iff.1 (HPL.out.symm.trans hps)
     have hes7 : es.length ≤ 7 := by omega
     have HSO := Lib.hid (Sound.leaf (lo := if dep = 0 then 1 else 3) (hks0 ▸ HPP.out) HLO.out hes7)
     have hcx := HDA.out.c
     have hfx := HDA.out.fz 0
     have HSET := Lib.hid (HDA.out.set (dep : Nat))
     clear hks0 hps
     by_cases hm1 : dp = -1
     ·
      subst hm1
      go_wp2_with fail
      go_ret
      exact ⟨true, (dep : Nat), rfl, HSET.out, (Only.refl _ _).setCell _ _ (.inl rfl), .inr ⟨by omega, by omega⟩, (fun _ => ⟨0, HSO.out, by simp, .inl rfl⟩), fun h => by cases h⟩
     ·
      have e1 : (dp == -1) = false := by simpa using hm1
      by_cases heq : dp = (dep : Nat)
      ·
       have e2 : (dp == (dep : Int)) = true := by simpa using heq
       have HEQ := Lib.hid heq
       clear heq hm1
       go_wp2_with fail
       go_ret
       exact ⟨true, (dep : Nat), rfl, HSET.out, (Only.refl _ _).setCell _ _ (.inl rfl), .inr ⟨by omega, by omega⟩, (fun _ => ⟨0, HSO.out, by simp, .inr HEQ.out⟩), fun h => by cases h⟩
      ·
       have e2 : (dp == (dep : Int)) = false := by simpa using heq
       have HNE := Lib.hid (And.intro heq hm1)
       clear heq hm1
       go_wp2_with fail
       go_ret
       exact ⟨false, (dep : Nat), rfl, HSET.out, (Only.refl _ _).setCell _ _ (.inl rfl), .inr ⟨by omega, by omega⟩, (fun h => by cases h), fun _ h hs hor => by have e := hs.one HSO.out; have h1 := HNE.out.1; have h2 := HNE.out.2; omega⟩
    ·
     have e0 : ((ps.length : Int) == 0) = false := beq_eq_false_iff_ne.2 (by omega)
     have HPS := Lib.hid hps
     clear hps
     go_wp2_with fail
     go_loopw [9, 48] (fun _ iv wr => ∃ (j : Nat) (dpj : Int), j ≤ ps.length ∧ iv = .int .i64 (j : Nat) ∧ DeepAt wr x dpj ∧ Only (fun j => j = x) w wr ∧ (dpj = -1 ∨ (0 ≤ dpj ∧ dpj ≤ 100)) ∧ ((j = 0 ∧ dpj = dp) ∨ (0 < j ∧ ∃ h : Nat, Sounds b (ks.take j) h ∧ dpj = (dep : Int) + 1 + (h : Nat) ∧ (dp = -1 ∨ dp = dpj)))) (fun _ iv _ => ps.length - (intOf iv).toNat)
     case atStart => exact ⟨0, dp, by omega, rfl, HDA.out, Only.refl _ _, HDP.out, .inl ⟨rfl, rfl⟩⟩
     case round =>
      obtain ⟨j, dpj, hj, rfl, hda, hon, hdb, hst⟩ := hrel
      have HDA2 := Lib.hid hda
      have HON := Lib.hid hon
      have HDB := Lib.hid hdb
      have HST := Lib.hid hst
      clear hda hon hdb hst
      by_cases hlt : j < ps.length
      ·
       have hn := HN.out.maps HON.out (HDA.out.no)
       obtain ⟨cb, co, hca, -, -, hcell⟩ := hn.rc.at (ptrs_get (List.getElem?_eq_getElem hlt))
       cases hca
       have hq : ps[j]? = some ps[j] := List.getElem?_eq_getElem hlt
       have hkl : j < ks.length := by have := HPL.out; omega
       have hc : ks[j]? = some ks[j] := List.getElem?_eq_getElem hkl
       have HPQ := Lib.hid ((HH5.out j _ _ hc hq).maps HON.out (HDA.out.no))
       have HTK := Lib.hid (List.take_succ_eq_append_getElem hkl)
       have HCJ := Lib.hid hc
       have hcy := HON.out.cell (fun e => HYX.out e) HCY.out
       generalize ks[j] = c at *
       generalize ps[j] = q at *
       have q1 := w64 (n := (dep : Int) + 1) (by omega) (by omega)
       clear hn hq hc hkl
       go_wp2_with (go_at_call 50; refine (HIH.out d rfl F c q (dep + 1) x y dpj wr HPQ.out (by omega) HDB.out HDA2.out hcy HYX.out).mono ?_; rintro e w2 ⟨r, dp2, rfl, hd2, ho2, hb2, hr2, hr3⟩; cases r <;> have HD2 := Lib.hid hd2 <;> have HO2 := Lib.hid ho2 <;> have HB2 := Lib.hid hb2 <;> have HR2 := Lib.hid hr2 <;> have HR3 := Lib.hid hr3 <;> clear hd2 ho2 hb2 hr2 hr3)
       ·
        go_ret
        refine ⟨false, dp2, rfl, HD2.out, HON.out.trans HO2.out (fun j _ h => h), HB2.out, (fun h => by cases h), fun _ h hs hor => ?_⟩
        have hks : ks ≠ [] := fun e => by have h1 := HPL.out; have h2 := HPS.out; rw [e] at h1; exact h2 h1
        obtain ⟨-, -, -, hkk⟩ := hs.inv HPP.out
        obtain ⟨h', rfl, hk⟩ := hkk hks
        have hx := HR3.out trivial h'
        rw [if_neg (by omega)] at hx
        refine hx (hk j c HCJ.out) ?_
        rcases HST.out with ⟨-, e0⟩ | ⟨hj0, h2, hs2, he2, -⟩
        · omega
        ·
         have h0 : 0 < ks.length := by have := HPL.out; omega
         have hc0 : ks[0]? = some (ks[0]'h0) := List.getElem?_eq_getElem h0
         have hc1 : (ks.take j)[0]? = some (ks[0]'h0) := by rw [List.getElem?_take, if_pos hj0]; exact hc0
         have e3 := (hs2.at hc1).one (hk 0 _ hc0)
         omega
       ·
        go_wp2_with fail
        go_roundw
        case rel =>
         obtain ⟨h, hs, he, hor⟩ := HR2.out trivial
         rw [if_neg (by omega)] at hs
         refine ⟨j + 1, dp2, by omega, by go_num, HD2.out, HON.out.trans HO2.out (fun j _ h => h), HB2.out, .inr ⟨by omega, h, ?_, by rw [he]; omega, ?_⟩⟩
         ·
          rw [HTK.out]
          rcases HST.out with ⟨rfl, -⟩ | ⟨hj0, h', hs', he', -⟩
          · exact (Sounds.nil b h).snoc hs
          ·
           obtain rfl : h' = h := by omega
           exact hs'.snoc hs
         ·
          rcases HST.out with ⟨-, e0⟩ | ⟨hj0, h', hs', he', hor'⟩
          · rw [← e0]; exact hor
          ·
           rcases hor' with h1 | h1
           · exact .inl h1
           · right; omega
        case measure => simp [intOf]; omega
      ·
       obtain rfl : j = ps.length := by omega
       go_wp2_with fail
       go_ret
       refine ⟨true, dpj, rfl, HDA2.out, HON.out, HDB.out, fun _ => ?_, fun h => by cases h⟩
       rcases HST.out with ⟨h0, -⟩ | ⟨hj0, h, hs, he, hor⟩
       · exact absurd h0 HPS.out
       ·
        have hes7 : es.length ≤ 7 := by omega
        have hk0 : 0 < ks.length := by have := HPL.out; have := HPS.out; omega
        refine ⟨h + 1, Sound.node HPP.out hk0 HLO.out hes7 ?_, by rw [he]; omega, hor⟩
        have e : ks.take ps.length = ks := List.take_of_length_le (by have := HPL.out; omega)
        rw [e] at hs
        exact hs
theorem down_calls (b : List UInt8) : ∀ d, DownSpec b d
 | 0 => down_step b 0 (fun g e => by omega)
 | d + 1 => down_step b (d + 1) (fun g e => by
  obtain rfl : d = g := by omega
  exact down_calls b d)
end Go.Proofs.Ytmafnjidhjabgaa
namespace Go.Proofs.Ytmafnjidhjabgaa
open Go.RowKit Go.Shelf
set_option linter.unusedVariables false
set_option linter.unusedSectionVars false
set_option linter.unusedSimpArgs false
set_option maxRecDepth 100000
variable [Inhabited Pgs]
def EachSpecS (F : Nat → Prop) (y : Value) (J : List KV → World → Prop) (Jx : World → Prop) (w0 : World) (h : Nat) : Prop := ∀ (lo : Nat) (t : BT h) (p : Nat) (rs : List KV) (W : World), TreeAt w0 F h t p → BT.Ok h lo t → J (seen h t [] ++ rs) W →
 CallsIn Fence.wide 0 Try.prog 33 #[ptrV p, .string (bstr []), y] W (EachOut J Jx rs)
set_option maxHeartbeats 4000000 in
theorem eachS_step (F : Nat → Prop) (c1 c2 : Value) (J : List KV → World → Prop) (Jx : World → Prop) (w0 : World) (h : Nat)
  (hv : ∀ rs W, J rs W → Fr F w0 W)
  (hvx : ∀ W, Jx W → Fr F w0 W)
  (hm : ∀ rs W W', Below W.heap.size W W' → J rs W → J rs W')
  (hy : ∀ x rs W, J (x :: rs) W → CallsIn Fence.wide 0 Try.prog 51 #[.string (bstr x.1), .string (bstr x.2), c1, c2] W (EachOut J Jx rs))
  (hih : ∀ g, h = g + 1 → EachSpecS F (.func (.func 51) #[] #[c1, c2]) J Jx w0 g) : EachSpecS F (.func (.func 51) #[] #[c1, c2]) J Jx w0 h := by
 intro lo t p rs W ht ho hj
 have HR := Lib.hid (And.intro ho hj)
 have HV := Lib.hid hv
 have HY := Lib.hid hy
 have HM := Lib.hid hm
 have HVX := Lib.hid hvx
 have HIH := Lib.hid hih
 obtain ⟨kv, vv, cv, ps, hn0, hks⟩ := ht.top
 have hn := hn0.fr (hv _ _ hj)
 have HN0 := Lib.hid hn0
 have HKS := Lib.hid hks
 have hes := ho.es
 have hle : t.es.length ≤ 7 := hes.2
 have hkl := KidsOf.len hks ho
 have hpl := pos_le t.es []
 have HSP := Lib.hid (Sp.nil t.es)
 have c0 := hn.c0
 obtain ⟨ka, kc, rfl, hk1, hk2⟩ := Rd.slice hn.rk.rd
 obtain ⟨va, vc, rfl, hv1, hv2⟩ := Rd.slice hn.rv.rd
 obtain ⟨ca, cc, rfl, hc1, hc2⟩ := Rd.slice hn.rc.rd
 have HKL := Lib.hid hkl
 have RK := Lib.hid hn.rk.rd
 have HJ0 := Lib.hid (show J (restN h t [] (pos t.es []) ++ rs) W by rw [restN_seen]; exact hj)
 clear ht hj hv hvx hy hm hih hn hks hes hkl ho hn0
 unfold ptrV
 refine callsIn_of_wp Try.func33 rfl trivial ?_
 simp only [Try.ntmps33, List.size_toArray, List.length_cons, List.length_nil, Nat.reduceAdd, Nat.reduceSub, Array.replicate_succ, Array.replicate_zero, List.push_toArray, List.append_toArray, List.nil_append, List.cons_append]
 gi_wp2_with (gi_at_call 55; refine (callsIn_wide.2 (bs_calls _ _ _ _ RK.out HSP.out (by omega))).mono ?_; rintro e w' ⟨rfl, hw'⟩; obtain rfl : W = w' := hw'.symm)
 generalize hP : pos t.es [] = P at *
 clear hP
 gi_wp2_with fail
 gi_loopg [9] (t.es.length + 1 - P) (fun m iv wr => ∃ k : Nat, k + m = t.es.length + 1 ∧ iv = .int .i64 k ∧ J (restN h t [] k ++ rs) wr)
 case atStart => exact ⟨P, by omega, rfl, HJ0.out⟩
 case round =>
  obtain ⟨k, hkm, rfl, hj⟩ := hrel
  have hn := HN0.out.fr (HV.out _ _ hj)
  have HJ := Lib.hid hj
  have HN := Lib.hid hn
  have c0 := hn.c0
  have c1' := hn.c1
  have c2' := hn.c2
  clear hn hj
  by_cases hkn : k ≤ t.es.length
  ·
   gi_upto_region 7 with fail
   gi_cut [49] from 22 (fun b wb => (b = .bool false ∧ J (midN h t [] k ++ rs) wb) ∨ (b = .bool true ∧ Jx wb))
   case first =>
    cases h with
    | zero =>
     obtain rfl : ps = [] := HKS.out
     have HM := Lib.hid (show J (midN 0 t [] k ++ rs) wr by rw [← restN_leaf]; exact HJ.out)
     simp only [List.length_nil] at c2'
     gi_wp2_with fail
     gi_meet
     case rel => exact .inl ⟨rfl, HM.out⟩
    | succ h =>
     have hkl' : ps.length = t.es.length + 1 := HKL.out.2.2 (by omega)
     have h3 : t.2.length = t.es.length + 1 := HR.out.1.2.2.1
     have hkp : k < ps.length := by omega
     have hps0 : decide ((0 : Int) < (ps.length : Int)) = true := decide_eq_true (by omega)
     have hqk : ps[k]? = some ps[k] := List.getElem?_eq_getElem hkp
     have hck : t.2[k]? = some (t.2[k]'(by omega)) := List.getElem?_eq_getElem (by omega)
     obtain ⟨C, hC⟩ : ∃ C, C = t.2[k]'(by omega) := ⟨_, rfl⟩
     rw [← hC] at hck
     generalize ps[k] = q at hqk
     clear hC
     obtain ⟨cb, co, rfl, -, -, hcell⟩ := HN.out.rc.at (ptrs_get hqk)
     have HJK := Lib.hid (show J (seen h C [] ++ (midN (h + 1) t [] k ++ rs)) wr by rw [← List.append_assoc, ← restN_kid HR.out.1 hck]; exact HJ.out)
     obtain ⟨-, hkk⟩ := (show Kids (TreeAt w0 F h) t.2 ps from HKS.out)
     have HKK := Lib.hid (hkk k C q hck hqk)
     have HOK := Lib.hid (kids_ok HR.out.1 hck)
     clear hkk hck hqk
     gi_wp2_with (gi_at_call 33; refine (HIH.out h rfl 3 C q (midN (h + 1) t [] k ++ rs) wr HKK.out HOK.out HJK.out).mono ?_; rintro e w' (⟨rfl, hj2⟩ | ⟨rfl, hj2⟩) <;> have HJ2 := Lib.hid hj2 <;> clear hj2)
     ·
      gi_meet
      case rel => exact .inl ⟨rfl, HJ2.out⟩
     ·
      gi_meet
      case rel => exact .inr ⟨rfl, HJ2.out⟩
   case rest =>
    clear HJ HN HKS c0 c1' c2'
    rcases hcut with ⟨rfl, hj⟩ | ⟨rfl, hj⟩
    ·
     have hn := HN0.out.fr (HV.out _ _ hj)
     have HJ := Lib.hid hj
     have c0 := hn.c0
     have c1' := hn.c1
     have HN := Lib.hid hn
     clear hn hj
     gi_wp2_with fail
     by_cases hkn2 : k < t.es.length
     ·
      have d1 : decide ((k : Int) < (t.es.length : Int)) = true := decide_eq_true (by omega)
      obtain ⟨kb, ko, rfl, -, -, ck⟩ := HN.out.rk.at (keys_at hkn2)
      obtain ⟨vb, vo, rfl, -, -, cv⟩ := HN.out.rv.at (vals_at hkn2)
      have HJM := Lib.hid (show J (t.es[k] :: (restN h t [] (k + 1) ++ rs)) wc by rw [← List.cons_append, ← midN_some hkn2]; exact HJ.out)
      refine region_mi [(0, false), (1, false), (2, false), (3, false), (4, false), (5, false), (6, false), (7, false), (8, false), (9, false), (10, false), (11, false), (12, false), (13, false), (14, false), (15, false), (16, false), (17, false), (18, false), (19, false), (20, false), (21, false), (22, false), (23, true), (24, false), (25, false)] 26 (fun V => V.cell? ⟨p, 0, none⟩ = some (.slice (some ⟨kb, ko, none⟩) t.es.length kc) ∧ V.cell? ⟨p, 1, none⟩ = some (.slice (some ⟨vb, vo, none⟩) t.es.length vc) ∧ V.cell? ⟨kb, ko + k, none⟩ = some (.string (bstr (t.es[k]).1)) ∧ V.cell? ⟨vb, vo + k, none⟩ = some (.string (bstr (t.es[k]).2))) (by kernel_rfl) (by kernel_rfl) ⟨c0, c1', ck, cv⟩ ?_
      iterate 23
       first
       | (
         refine m_take (v := ?_) rfl rfl ?_ ?_
         rotate_left
         ·
          intro W hW
          go_simp
          with_reducible rfl
         simp only [Act.put, List.setIfInBounds_toArray, List.set_cons_zero, List.set_cons_succ])
       | (
         refine m_skip rfl rfl ?_
         simp only [Act.put, List.setIfInBounds_toArray, List.set_cons_zero, List.set_cons_succ])
      refine m_loud rfl (fun K hK => ?_)
      have HK := Lib.hid hK
      clear hK
      go_simp
      refine (callsIn_wide.1 (HY.out _ _ _ (HM.out _ _ _ (Below.refl _ _).drew HJM.out))).mono ?_
      rintro e w' (⟨rfl, hj2⟩ | ⟨rfl, hj2⟩)
      ·
       have hn2 := HN0.out.fr (HV.out _ _ hj2)
       have HJ2 := Lib.hid hj2
       refine HK.out _ _ ⟨hn2.c0, hn2.c1, (hn2.at2 hkn2).1, (hn2.at2 hkn2).2⟩ ?_
       clear HK
       clear hj2 hn2 c0 c1' ck cv HN HJ HJM
       iterate 2
        first
        | (
          refine m_take (v := ?_) rfl rfl ?_ ?_
          rotate_left
          ·
           intro W hW
           go_simp
           with_reducible rfl
          simp only [Act.put, List.setIfInBounds_toArray, List.set_cons_zero, List.set_cons_succ])
        | (
          refine m_skip rfl rfl ?_
          simp only [Act.put, List.setIfInBounds_toArray, List.set_cons_zero, List.set_cons_succ])
       refine m_done ?_
       simp only [List.drop_succ_cons, List.drop_zero]
       go_wp2_with fail
       try simp only [NP]
       gi_wp2_with fail
       gi_roundg (t.es.length - k)
       case measure => omega
       case rel => exact ⟨k + 1, by omega, by go_num, HJ2.out⟩
      ·
       have hn2 := HN0.out.fr (HVX.out _ hj2)
       have HJ2 := Lib.hid hj2
       refine HK.out _ _ ⟨hn2.c0, hn2.c1, (hn2.at2 hkn2).1, (hn2.at2 hkn2).2⟩ ?_
       clear HK
       clear hj2 hn2 c0 c1' ck cv HN HJ HJM
       iterate 2
        first
        | (
          refine m_take (v := ?_) rfl rfl ?_ ?_
          rotate_left
          ·
           intro W hW
           go_simp
           with_reducible rfl
          simp only [Act.put, List.setIfInBounds_toArray, List.set_cons_zero, List.set_cons_succ])
        | (
          refine m_skip rfl rfl ?_
          simp only [Act.put, List.setIfInBounds_toArray, List.set_cons_zero, List.set_cons_succ])
       refine m_done ?_
       simp only [List.drop_succ_cons, List.drop_zero]
       go_wp2_with fail
       try simp only [NP]
       gi_wp2_with fail
       go_ret
       exact .inr ⟨rfl, HJ2.out⟩
     ·
      obtain rfl : k = t.es.length := by omega
      have d1 : decide ((t.es.length : Int) < (t.es.length : Int)) = false := decide_eq_false (by omega)
      have HJM := Lib.hid (show J (restN h t [] (t.es.length + 1) ++ rs) wc by rw [restN_end HR.out.1]; have := HJ.out; rw [midN_none HR.out.1 rfl] at this; exact this)
      refine region_mi [(0, false), (1, false), (2, false), (3, false), (4, false), (5, false), (6, false), (7, false), (8, false), (9, false), (10, false), (11, false), (12, false), (13, false), (14, false), (15, false), (16, false), (17, false), (18, false), (19, false), (20, false), (21, false), (22, false), (23, false), (24, false), (25, false)] 26 (fun V => V.cell? ⟨p, 0, none⟩ = some (.slice ka t.es.length kc) ∧ V.cell? ⟨p, 1, none⟩ = some (.slice va t.es.length vc)) (by kernel_rfl) (by kernel_rfl) ⟨c0, c1'⟩ ?_
      iterate 26
       first
       | (
         refine m_take (v := ?_) rfl rfl ?_ ?_
         rotate_left
         ·
          intro W hW
          go_simp
          with_reducible rfl
         simp only [Act.put, List.setIfInBounds_toArray, List.set_cons_zero, List.set_cons_succ])
       | (
         refine m_skip rfl rfl ?_
         simp only [Act.put, List.setIfInBounds_toArray, List.set_cons_zero, List.set_cons_succ])
      refine m_done ?_
      simp only [List.drop_succ_cons, List.drop_zero]
      have HJ2 := Lib.hid (HM.out _ _ _ (Below.refl _ _).drew HJM.out)
      go_wp2_with fail
      try simp only [NP]
      gi_wp2_with fail
      gi_roundg 0
      case measure => omega
      case rel => exact ⟨t.es.length + 1, by omega, by go_num, HJ2.out⟩
    ·
     have HJX := Lib.hid hj
     clear hj
     gi_wp2_with fail
     go_ret
     exact .inr ⟨rfl, HJX.out⟩
  ·
   obtain rfl : k = t.es.length + 1 := by omega
   have HJE := Lib.hid (show J rs wr by have := HJ.out; rw [restN_end HR.out.1] at this; exact this)
   clear HJ
   gi_wp2_with fail
   go_ret
   exact .inl ⟨rfl, HJE.out⟩
theorem eachS_calls (F : Nat → Prop) (c1 c2 : Value) (J : List KV → World → Prop) (Jx : World → Prop) (w0 : World)
  (hv : ∀ rs W, J rs W → Fr F w0 W) (hvx : ∀ W, Jx W → Fr F w0 W)
  (hm : ∀ rs W W', Below W.heap.size W W' → J rs W → J rs W')
  (hy : ∀ x rs W, J (x :: rs) W → CallsIn Fence.wide 0 Try.prog 51 #[.string (bstr x.1), .string (bstr x.2), c1, c2] W (EachOut J Jx rs)) :
  ∀ h, EachSpecS F (.func (.func 51) #[] #[c1, c2]) J Jx w0 h
 | 0 => eachS_step F c1 c2 J Jx w0 0 hv hvx hm hy (fun g e => by omega)
 | h + 1 => eachS_step F c1 c2 J Jx w0 (h + 1) hv hvx hm hy (fun g e => by
  obtain rfl : h = g := by omega
  exact eachS_calls F c1 c2 J Jx w0 hv hvx hm hy h)
end Go.Proofs.Ytmafnjidhjabgaa
namespace Go.Proofs.Ytmafnjidhjabgaa
open Go.RowKit Go.Shelf
set_option linter.unusedVariables false
set_option linter.unusedSectionVars false
set_option linter.unusedSimpArgs false
set_option maxRecDepth 100000
variable [Inhabited Pgs]
structure LF (W : World) (xl xf : Nat) (s : Str) (f : Bool) : Prop where
 cl : W.cell? ⟨xl, 0, none⟩ = some (.string (bstr s))
 cf : W.cell? ⟨xf, 0, none⟩ = some (.bool f)
 fl : W.frozen? ⟨xl, 0, none⟩ = false
 ff : W.frozen? ⟨xf, 0, none⟩ = false
theorem LF.below {W W' : World} {xl xf : Nat} {s : Str} {f : Bool} (h : LF W xl xf s f) (hb : Below W.heap.size W W') : LF W' xl xf s f :=
 ⟨cell_later hb h.cl, cell_later hb h.cf, frozen_later hb h.cl h.fl, frozen_later hb h.cf h.ff⟩
theorem LF.set {W : World} {xl xf : Nat} {s : Str} {f : Bool} (h : LF W xl xf s f) (hne : xl ≠ xf) (t : Str) (g : Bool) : LF ((W.setCell ⟨xl, 0, none⟩ (.string (bstr t))).setCell ⟨xf, 0, none⟩ (.bool g)) xl xf t g := by
 refine ⟨?_, ?_, ?_, ?_⟩
 ·
  rw [cell_set_block _ hne]
  exact cell_set_same _ h.cl
 · exact cell_set_same _ (by rw [cell_set_block _ (Ne.symm hne)]; exact h.cf)
 · rw [World.frozen?_setCell, World.frozen?_setCell]; exact h.fl
 · rw [World.frozen?_setCell, World.frozen?_setCell]; exact h.ff
def lastS (ds : List KV) : Str := match ds.getLast? with | some e => e.1 | none => []
theorem lastS_snoc (ds : List KV) (x : KV) : lastS (ds ++ [x]) = x.1 := by unfold lastS; simp
theorem srt_snoc {ds : List KV} {x : KV} (hs : Srt ds) (h : ds = [] ∨ lastS ds < x.1) : Srt (ds ++ [x]) := by
 refine srt_app.2 ⟨hs, List.pairwise_singleton _ _, fun e he y hy => ?_⟩
 rw [List.mem_singleton.1 hy]
 rcases h with rfl | h
 · cases he
 ·
  rcases List.eq_nil_or_concat ds with rfl | ⟨l, z, rfl⟩
  · cases he
  ·
   rw [List.concat_eq_append] at *
   rw [lastS_snoc] at h
   rcases List.mem_append.1 he with he | he
   · exact slt_trans ((srt_app.1 hs).2.2 e he z (List.mem_singleton_self z)) h
   · rw [List.mem_singleton.1 he]; exact h
def SnJ (w0 : World) (xl xf : Nat) (all rs : List KV) (W : World) : Prop := ∃ ds, ds ++ rs = all ∧ Srt ds ∧ LF W xl xf (lastS ds) ds.isEmpty ∧ Only (fun j => j = xl ∨ j = xf) w0 W
def SnX (w0 : World) (xl xf : Nat) (all : List KV) (W : World) : Prop := Only (fun j => j = xl ∨ j = xf) w0 W ∧ ¬ Srt all
theorem srt_not {ds rs all : List KV} {x : KV} (h : ds ++ (x :: rs) = all) (hne : ds ≠ []) (hl : ¬ lastS ds < x.1) : ¬ Srt all := fun hs => by
 rcases List.eq_nil_or_concat ds with rfl | ⟨l, z, rfl⟩
 · exact hne rfl
 ·
  rw [List.concat_eq_append] at *
  rw [lastS_snoc] at hl
  rw [← h] at hs
  exact hl ((srt_app.1 hs).2.2 z (by simp) x (by simp))
set_option maxHeartbeats 1000000 in
theorem snd2_calls (w0 : World) (xl xf : Nat) (hne : xl ≠ xf) (all : List KV) (x : KV) (rs : List KV) (W : World) (hj : SnJ w0 xl xf all (x :: rs) W) :
  Calls Try.prog 51 #[.string (bstr x.1), .string (bstr x.2), .pointer (some ⟨xf, 0, none⟩), .pointer (some ⟨xl, 0, none⟩)] W (EachOut (SnJ w0 xl xf all) (SnX w0 xl xf all) rs) := by
 obtain ⟨ds, hall, hs, hlf, hon⟩ := hj
 have HALL := Lib.hid hall
 have HS := Lib.hid hs
 have HLF := Lib.hid hlf
 have HON := Lib.hid hon
 have cl := hlf.cl
 have cf := hlf.cf
 have fl := hlf.fl
 have ff := hlf.ff
 have hnx : xf ≠ xl := Ne.symm hne
 have HSET := Lib.hid (hlf.set hne x.1 false)
 have hlt := bytes_lt (lastS ds) x.1
 have HON2 := Lib.hid (show Only (fun j => j = xl ∨ j = xf) w0 ((W.setCell ⟨xl, 0, none⟩ (.string (bstr x.1))).setCell ⟨xf, 0, none⟩ (.bool false)) from (hon.setCell _ _ (.inl (.inl rfl))).setCell _ _ (.inl (.inr rfl)))
 obtain ⟨em, hem⟩ : ∃ em, em = ds.isEmpty := ⟨_, rfl⟩
 rw [← hem] at cf
 obtain ⟨lt, hlt2⟩ : ∃ lt, lt = decide (lastS ds < x.1) := ⟨_, rfl⟩
 rw [← hlt2] at hlt
 have HEM := Lib.hid hem
 have HLT := Lib.hid hlt2
 clear hall hs hlf hon hem hlt2
 go_enter Try.func51, Try.ntmps51
 cases em with
 | true =>
  go_wp2_with fail
  go_ret
  refine .inl ⟨rfl, ds ++ [x], by rw [List.append_assoc]; exact HALL.out, srt_snoc HS.out (.inl (List.isEmpty_iff.1 HEM.out.symm)), ?_, HON2.out⟩
  rw [lastS_snoc, show (ds ++ [x]).isEmpty = false by cases ds <;> rfl]
  exact HSET.out
 | false =>
  cases lt with
  | true =>
   go_wp2_with fail
   go_ret
   refine .inl ⟨rfl, ds ++ [x], by rw [List.append_assoc]; exact HALL.out, srt_snoc HS.out (.inr (of_decide_eq_true HLT.out.symm)), ?_, HON2.out⟩
   rw [lastS_snoc, show (ds ++ [x]).isEmpty = false by cases ds <;> rfl]
   exact HSET.out
  | false =>
   go_wp2_with fail
   go_ret
   exact .inr ⟨rfl, HON2.out, srt_not HALL.out (fun e => by have h1 := HEM.out; rw [e] at h1; cases h1) (of_decide_eq_false HLT.out.symm)⟩
set_option maxHeartbeats 4000000 in
theorem sound_calls (F : Nat → Prop) (b : List UInt8) (d : Nat) (pg : Int) (p : Nat) (w : World) (hp : PgAt w F b d pg p) (hd : d ≤ 41) :
  Calls Try.prog 28 #[ptrV p] w fun e w' => ∃ r : Bool, e = .returned (.bool r) ∧ Below w.heap.size w w' ∧ (r = true ↔ ∃ (h : Nat) (t : BT h), btP b h pg = some t ∧ BT.Ok h 1 t ∧ Srt (flat h t)) := by
 have HP := Lib.hid hp
 obtain ⟨x, hx⟩ : ∃ x, x = w.heap.size := ⟨_, rfl⟩
 have HX := Lib.hid hx
 clear hp
 unfold ptrV
 go_enter Try.func28, Try.ntmps28
 go_upto_region 5 with fail
 obtain ⟨u1, hu1⟩ : ∃ u1, u1 = w.alloc (.cells #[.int .i64 (-1)] 3) := ⟨_, rfl⟩
 obtain ⟨y, hy⟩ : ∃ y, y = w.heap.size + 1 := ⟨_, rfl⟩
 obtain ⟨xl, hxl⟩ : ∃ xl, xl = y + 1 := ⟨_, rfl⟩
 obtain ⟨xf, hxf⟩ : ∃ xf, xf = xl + 1 := ⟨_, rfl⟩
 obtain ⟨u2, hu2⟩ : ∃ u2, u2 = u1.alloc (.cells #[.func (.func 50) #[] #[.pointer (some ⟨w.heap.size, 0, none⟩), .pointer (some ⟨y, 0, none⟩)]] 113) := ⟨_, rfl⟩
 obtain ⟨u3, hu3⟩ : ∃ u3, u3 = u2.alloc (.cells #[.string ⟨#[]⟩] 9) := ⟨_, rfl⟩
 obtain ⟨u4, hu4⟩ : ∃ u4, u4 = u3.alloc (.cells #[.bool true] 4) := ⟨_, rfl⟩
 have z1 : u1.heap.size = y := by rw [hu1, hy, World.size_alloc]
 have z2 : u2.heap.size = xl := by rw [hu2, World.size_alloc, z1, hxl]
 have z3 : u3.heap.size = xf := by rw [hu3, World.size_alloc, z2, hxf]
 have hb1 : Below w.heap.size w u1 := by rw [hu1]; exact below_alloc w _
 have hb2 : Below u1.heap.size u1 u2 := by rw [hu2]; exact below_alloc u1 _
 have hb3 : Below u2.heap.size u2 u3 := by rw [hu3]; exact below_alloc u2 _
 have hb4 : Below u3.heap.size u3 u4 := by rw [hu4]; exact below_alloc u3 _
 have hb14 : Below u1.heap.size u1 u4 := below_go (below_go hb2 hb3) hb4
 have cx : u1.cell? ⟨w.heap.size, 0, none⟩ = some (.int .i64 (-1)) := by rw [hu1]; exact box_self 0 _ rfl
 have cy : u2.cell? ⟨y, 0, none⟩ = some (.func (.func 50) #[] #[.pointer (some ⟨w.heap.size, 0, none⟩), .pointer (some ⟨y, 0, none⟩)]) := by rw [hu2, ← z1]; exact box_self 0 _ rfl
 have cl : u3.cell? ⟨xl, 0, none⟩ = some (.string ⟨#[]⟩) := by rw [hu3, ← z2]; exact box_self 0 _ rfl
 have cf : u4.cell? ⟨xf, 0, none⟩ = some (.bool true) := by rw [hu4, ← z3]; exact box_self 0 _ rfl
 have HDA := Lib.hid (show DeepAt u4 w.heap.size (-1) from ⟨cell_later hb14 cx, fun o => by
   rw [World.frozen?_of_block (a := ⟨w.heap.size, o, none⟩) (hb14.block w.heap.size (by omega)), hu1]
   exact World.frozen?_alloc_at _ _ _ _ rfl, ⟨#[.int .i64 (-1)], _, (hb14.block w.heap.size (by omega)).trans (by rw [hu1]; exact World.alloc_heap_new w _)⟩⟩)
 have HLF := Lib.hid (show LF u4 xl xf [] true from ⟨cell_later hb4 cl, cf, by
   rw [World.frozen?_of_block (a := ⟨xl, 0, none⟩) (hb4.block xl (by omega)), hu3, ← z2]
   exact World.frozen?_alloc_at _ _ _ _ rfl, by
   rw [hu4, ← z3]
   exact World.frozen?_alloc_at _ _ _ _ rfl⟩)
 have HCY := Lib.hid (cell_later (below_go hb3 hb4) cy)
 have HB4 := Lib.hid (hb1.trans (hb14.mono hb1.size))
 have HSZ := Lib.hid (show w.heap.size < y ∧ y < xl ∧ xl < xf by omega)
 have hcy := HCY.out
 rw [← hu1, ← hy, ← hu2, ← hxl, ← hu3, ← hxf, ← hu4, ← hx]
 rw [← hx] at HDA hcy
 clear hu1 hu2 hu3 hu4 z1 z2 z3 hb1 hb2 hb3 hb4 hb14 cx cy cl cf hy hxl hxf hx
 have HPU := Lib.hid (HP.out.maps (S := fun _ => False) (Only.of_below HB4.out) (fun _ h => h.elim))
 go_wp2_with (go_at_call 50; refine (down_calls b d F pg p 0 x y (-1) u4 HPU.out (by omega) (.inl rfl) HDA.out hcy (by have := HSZ.out; have := HX.out; omega)).mono ?_; rintro e w5 ⟨r, dp5, rfl, hd5, ho5, -, hr5, hr6⟩; cases r <;> have HO5 := Lib.hid ho5 <;> have HR5 := Lib.hid hr5 <;> have HR6 := Lib.hid hr6 <;> clear hd5 ho5 hr5 hr6)
 ·
  go_ret
  refine ⟨false, rfl, HB4.out.trans (HO5.out.below HB4.out.size (fun j hj e => by have := HX.out; omega)), (fun h => by cases h), fun ⟨h, t, h1, h2, h3⟩ => ?_⟩
  exact absurd (.inl trivial) (HR6.out trivial h ⟨t, h1, h2⟩)
 ·
  obtain ⟨h, ⟨t, hbt, hok⟩, -, -⟩ := HR5.out trivial
  have hok : BT.Ok h 1 t := hok
  have HOK := Lib.hid (And.intro hbt hok)
  have HB5 := Lib.hid (HB4.out.trans (HO5.out.below HB4.out.size (fun j hj e => by have := HX.out; omega)))
  have HT5 := Lib.hid (TreeAt.fr (Fr.of_below HB5.out) (HP.out.tree hbt).typ)
  have HLF5 := Lib.hid (show LF w5 xl xf [] true from ⟨HO5.out.cell (fun e => by have e : xl = x := e; have := HX.out; have := HSZ.out; omega) HLF.out.cl, HO5.out.cell (fun e => by have e : xf = x := e; have := HX.out; have := HSZ.out; omega) HLF.out.cf,
   (HO5.out.frozen (World.block_lt_of_cell? _ _ HLF.out.cl) (fun e => by have e : xl = x := e; have := HX.out; have := HSZ.out; omega)).trans HLF.out.fl, (HO5.out.frozen (World.block_lt_of_cell? _ _ HLF.out.cf) (fun e => by have e : xf = x := e; have := HX.out; have := HSZ.out; omega)).trans HLF.out.ff⟩)
  clear hbt hok
  have HE := Lib.hid (eachS_calls (fun k => F k ∧ TyB w k) (.pointer (some ⟨xf, 0, none⟩)) (.pointer (some ⟨xl, 0, none⟩)) (SnJ w5 xl xf (flat h t)) (SnX w5 xl xf (flat h t)) w5
   (fun rs W hj => by
    obtain ⟨ds, -, -, -, hon⟩ := hj
    exact Fr.of_only hon (fun k hk _ hs => by have := hk.2.lt; have := HX.out; have := HSZ.out; omega))
   (fun W hj => Fr.of_only (show Only (fun j => j = xl ∨ j = xf) w5 W from hj.1) (fun k hk _ hs => by have := hk.2.lt; have := HX.out; have := HSZ.out; omega))
   (fun rs W W' hb hj => by
    obtain ⟨ds, h1, h2, h3, h4⟩ := hj
    exact ⟨ds, h1, h2, h3.below hb, h4.trans (Only.of_below hb) (fun _ _ h => h)⟩)
   (fun z rs W hj => callsIn_wide.2 (snd2_calls w5 xl xf (by have := HSZ.out; omega) (flat h t) z rs W hj)) h 1 t p [] w5 HT5.out HOK.out.2 (by
    rw [List.append_nil, seen_nil]
    exact ⟨[], rfl, Srt.nil, HLF5.out, Only.refl _ _⟩))
  go_wp2_with (go_at_call 33; refine (callsIn_wide.1 HE.out).mono ?_; rintro e w6 (⟨rfl, hj⟩ | ⟨rfl, hj⟩) <;> have HJ := Lib.hid hj <;> clear hj)
  ·
   go_ret
   obtain ⟨ds, h1, h2, h3, h4⟩ := HJ.out
   rw [List.append_nil] at h1
   subst h1
   exact ⟨true, rfl, HB5.out.trans (h4.below HB5.out.size (fun j hj e => by have := HX.out; have := HSZ.out; omega)), (fun _ => ⟨h, t, HOK.out.1, HOK.out.2, h2⟩), fun _ => rfl⟩
  ·
   go_ret
   have h4 : Only (fun j => j = xl ∨ j = xf) w5 w6 := HJ.out.1
   refine ⟨false, rfl, HB5.out.trans (h4.below HB5.out.size (fun j hj e => by have := HX.out; have := HSZ.out; omega)), (fun h => by cases h), fun ⟨h', t', h1, h2, h3⟩ => ?_⟩
   obtain rfl : h' = h := btP_one h1 HOK.out.1
   rw [HOK.out.1] at h1
   cases h1
   exact absurd h3 HJ.out.2
end Go.Proofs.Ytmafnjidhjabgaa
namespace Go.Proofs.Ytmafnjidhjabgaa
open Go.RowKit Go.Shelf
set_option linter.unusedVariables false
set_option linter.unusedSectionVars false
set_option linter.unusedSimpArgs false
set_option maxRecDepth 100000
variable [Inhabited Pgs]
def itD (l : List Itc) (j : Nat) : Itc := (l[j]?).getD (.mk 0 0 ⟨#[]⟩ [])
theorem itD_at {l : List Itc} {j : Nat} (h : j < l.length) : itD l j = l[j] := by unfold itD; rw [List.getElem?_eq_getElem h]; rfl
def RootOk (b : List UInt8) (pg : Int) : Prop := pg = -1 ∨ (pg ≠ -1 ∧ (∃ s, loadP b 41 pg [] = some s) ∧ ∃ (h : Nat) (t : BT h), btP b h pg = some t ∧ BT.Ok h 1 t ∧ Srt (flat h t))
def PairOk (b : List UInt8) (l : List Itc) (j : Nat) : Prop := RootOk b (itD l (2 + 2 * j)).n ∧ (itD l (1 + 2 * j)).k = 0 ∧ (itD l (2 + 2 * j)).k = 0 ∧ (0 < j → (itD l (2 * j - 1)).n < (itD l (1 + 2 * j)).n)
def HeadOk (l : List Itc) : Prop := l.length % 2 = 1 ∧ (itD l 0).k = 0 ∧ 0 ≤ (itD l 0).n ∧ (itD l 0).n ≤ 1
def ItemsOk (D : Dk) (nm : ByteArray) (l : List Itc) : Prop := HeadOk l ∧ ∀ j, 2 + 2 * j < l.length → PairOk (fileOf D.now (tfn nm (itD l 0).n.toNat)) l j
def OpenGood (D : Dk) (nm : ByteArray) : Prop := (openN D nm 2).ver = 0 ∨ ∃ l, dec (openN D nm 2).val.data.toList = some l ∧ ItemsOk D nm l
theorem OpenGood.not {D : Dk} {nm : ByteArray} {l : List Itc} (hv : (openN D nm 2).ver ≠ 0) (hd : dec (openN D nm 2).val.data.toList = some l) (h : ¬ ItemsOk D nm l) : ¬ OpenGood D nm := by
 rintro (h1 | ⟨l', h1, h2⟩)
 · exact hv h1
 ·
  rw [hd] at h1
  cases h1
  exact h h2
theorem decA_len : ∀ (f : Nat) (r : List UInt8) (c : Nat) (l : List Itc), decA f r c = some l → l.length + 1 ≤ f
 | 0, r, c, l, h => by cases h
 | f + 1, r, c, l, h => by
  unfold decA at h
  cases r with
  | nil => cases h; simp
  | cons k r1 =>
   simp only at h
   cases hi : decI 8 (k :: r1) c with
   | none => rw [hi] at h; cases h
   | some x =>
    obtain ⟨i, r', c'⟩ := x
    rw [hi] at h
    simp only at h
    cases ha : decA f r' c' with
    | none => rw [ha] at h; cases h
    | some l' =>
     rw [ha] at h
     cases h
     have := decA_len f r' c' l' ha
     rw [List.length_cons]
     omega
theorem dec_len {b : List UInt8} {l : List Itc} (h : dec b = some l) : l.length ≤ 65536 := by
 unfold dec at h
 split at h
 · cases h
 ·
  have := decA_len _ _ _ _ h
  omega
def PgRt (W : World) (F : Nat → Prop) (b : List UInt8) (pg : Int) (a : Option Addr) : Prop := (pg = -1 ∧ a = none) ∨ ∃ p, a = some ⟨p, 0, none⟩ ∧ pg ≠ -1 ∧ PgAt W F b 41 pg p
theorem PgRt.maps {S F : Nat → Prop} {w w' : World} {b : List UInt8} {pg : Int} {a : Option Addr} (h : PgRt w F b pg a) (ho : Only S w w') (hS : ∀ j, S j → ¬ TyB w j) : PgRt w' F b pg a :=
 h.imp id (fun ⟨p, h1, h2, h3⟩ => ⟨p, h1, h2, h3.maps ho hS⟩)
theorem TrAt.setRv {w : World} {B T d : Nat} {t : Tr} (h : TrAt w B T d t) (rv : Value) : TrAt (w.setCell ⟨T, 5, none⟩ rv) B T d { t with rv := rv } := (World.ownsRow.stored h 5 rv).1
theorem TrAt.setFile {w : World} {B T d : Nat} {t : Tr} (h : TrAt w B T d t) (f : Nat) : TrAt (w.setCell ⟨T, 3, none⟩ (.int .i64 (f : Nat))) B T d { t with file := f } := (World.ownsRow.stored h 3 (.int .i64 (f : Nat))).1
theorem TrAt.ty {w : World} {B T d : Nat} {t : Tr} (h : TrAt w B T d t) : IsT 65 w T := IsT.of_own h (j := T) rfl
theorem SlotAt.ty {w : World} {B p d : Nat} {s : Sl} (h : SlotAt w B p d s) : IsT 103 w p := IsT.of_own h (j := p) rfl
theorem IsT.notMap {T : TypeId} {w : World} {j r : Nat} {m : List (Int × Value)} (h : IsT T w j) (hm : Im.MapIs w r m) : j ≠ r := by
 rintro rfl
 obtain ⟨cs, x, hc⟩ := h
 exact hm.cell cs _ x hc
theorem IsT.notKn {T : TypeId} {w : World} {F : Nat → Prop} {b : List UInt8} {j K : Nat} (h : IsT T w j) (hk : KnAt w F b K) : j ≠ K := by
 obtain ⟨m, hm, -⟩ := hk
 exact h.notMap hm
theorem DiskAt.notFoot {w : World} {B d j : Nat} {D : Dk} {U : TypeId} (h : DiskAt w B d D) (k : IsT U w j) (h1 : U ≠ 58) (h2 : U ≠ 96) : ¬ D.foot d j := by
 rintro (hj | hj | hj | hj)
 · exact h1 (k.eq (IsT.of_own h.box (j := j) (by rw [hj]; rfl)))
 ·
  obtain ⟨cs, x, hc⟩ := k
  rw [hj] at hc
  exact h.nowM.cell cs _ x hc
 ·
  obtain ⟨cs, x, hc⟩ := k
  rw [hj] at hc
  exact h.durM.cell cs _ x hc
 · exact h2 (k.eq (IsT.of_own h.row hj))
theorem IsT.only {T : TypeId} {S : Nat → Prop} {w w' : World} {j : Nat} (h : IsT T w j) (ho : Only S w w') (hS : ¬ S j) : IsT T w' j := by
 have hl := h.lt
 obtain ⟨cs, x, hc⟩ := h
 exact ⟨cs, x, (ho.block j hl hS).trans hc⟩
structure OSt (w W : World) (T sl d : Nat) (nm : ByteArray) (s : Sl) (f : Nat) (lv : Value) (l : List Itc) (lo hi : Nat) (bv : Value) (b : List UInt8) (K k : Nat) (rs : List Rt) (rv : Value) : Prop where
 tr : TrAt W w.heap.size T d ⟨nm, sl, f, 0, rv, none, false⟩
 slot : SlotAt W w.heap.size sl d s
 bel : Below w.heap.size w W
 row : W.ownsRow w.heap.size 81 2 rv rs.length (flatF Rt.cells rs)
 kn : KnAt W (fun j => w.heap.size ≤ j) b K
 txt : Txt W bv b
 its : ItR (fun j => lo ≤ j ∧ j < hi) 9 W lv l
 hT : T < lo
 hlh : lo ≤ hi
 hK : hi ≤ K
 hr : ∀ g, rv.ownBlock = some g → hi ≤ g
 len : rs.length = k
 rts : ∀ (j : Nat) (r : Rt), rs[j]? = some r → r.1 = (itD l (1 + 2 * j)).n ∧ PgRt W (fun j => w.heap.size ≤ j) b (itD l (2 + 2 * j)).n r.2
 pair : ∀ j, j < k → PairOk b l j
section
variable {w W W' W8 : World} {T sl d : Nat} {nm : ByteArray} {s : Sl} {f : Nat} {lv : Value} {l : List Itc} {lo hi : Nat} {bv : Value} {b : List UInt8} {K k : Nat} {rs : List Rt} {rv rv' : Value} {r : Rt}
theorem OSt.rowT (h : OSt w W T sl d nm s f lv l lo hi bv b K k rs rv) {g : Nat} (hg : rv.ownBlock = some g) : IsT 81 W g := IsT.of_own h.row hg
theorem OSt.step (h : OSt w W T sl d nm s f lv l lo hi bv b K k rs rv) (ho : Only (fun j => j = K) W W') (hk : KnAt W' (fun j => w.heap.size ≤ j) b K) : OSt w W' T sl d nm s f lv l lo hi bv b K k rs rv := by
 have hty : ∀ j, j = K → ¬ TyB W j := fun j e => by rw [e]; exact h.kn.ty
 have hz := h.bel.size
 refine ⟨h.tr.only ho (h.tr.ty.notKn h.kn), h.slot.only ho (h.slot.ty.notKn h.kn), h.bel.trans (ho.below hz (fun j hj e => ?_)), ownsRow_only h.row ho (fun g hg => (h.rowT hg).notKn h.kn), hk, h.txt.only ho (fun j e hu => ?_), h.its.only ho (fun j hj e => by have := h.hK; omega), h.hT, h.hlh, h.hK, h.hr, h.len, fun j r hr => ⟨(h.rts j r hr).1, (h.rts j r hr).2.maps ho hty⟩, h.pair⟩
 ·
  have h1 := h.tr.lt.1
  have h2 := h.hT
  have h3 := h.hK
  have h4 := h.hlh
  omega
 · exact absurd e (IsT.notKn hu h.kn)
theorem OSt.below (h : OSt w W T sl d nm s f lv l lo hi bv b K k rs rv) (hb : Below W.heap.size W W') : OSt w W' T sl d nm s f lv l lo hi bv b K k rs rv :=
 h.step (Only.of_below hb) (h.kn.below hb)
theorem OSt.hKw (h : OSt w W T sl d nm s f lv l lo hi bv b K k rs rv) : w.heap.size ≤ K := by
 have h1 := h.tr.lt.1
 have h2 := h.hT
 have h3 := h.hlh
 have h4 := h.hK
 omega
theorem OSt.push (h : OSt w W T sl d nm s f lv l lo hi bv b K k rs rv) (hr : W8.ownsRow w.heap.size 81 2 rv' (rs ++ [r]).length (flatF Rt.cells (rs ++ [r]))) (hon : Only (fun q => rv.ownBlock = some q) W W8) (hg : ∀ g, rv'.ownBlock = some g → rv.ownBlock = some g ∨ W.heap.size ≤ g)
  (hrt : r.1 = (itD l (1 + 2 * k)).n ∧ PgRt W (fun j => w.heap.size ≤ j) b (itD l (2 + 2 * k)).n r.2) (hp : PairOk b l k) : OSt w (W8.setCell ⟨T, 5, none⟩ rv') T sl d nm s f lv l lo hi bv b K (k + 1) (rs ++ [r]) rv' := by
 have hz := h.bel.size
 have hTlt := h.tr.lt
 have hKlt := h.kn.lt
 have hi1 := h.hT
 have hi2 := h.hlh
 have hi3 := h.hK
 have hi4 := h.hr
 have hTr : ∀ g, rv.ownBlock = some g → g ≠ T := fun g hg e => by have := hi4 g hg; omega
 have ho : Only (fun j => rv.ownBlock = some j ∨ j = T) W (W8.setCell ⟨T, 5, none⟩ rv') := (hon.weak (fun j _ e => .inl e)).setCell _ _ (.inl (.inr rfl))
 have hSty : ∀ j, (rv.ownBlock = some j ∨ j = T) → ∀ U, IsT U W j → U = 81 ∨ U = 65 := by
  rintro j (hj | rfl) U hu
  · exact .inl (hu.eq (h.rowT hj))
  · exact .inr (hu.eq h.tr.ty)
 have hno : ∀ j, (rv.ownBlock = some j ∨ j = T) → ∀ U, U ≠ 81 → U ≠ 65 → ¬ IsT U W j := fun j hj U h1 h2 hu => (hSty j hj U hu).elim h1 h2
 have hTyB : ∀ j, (rv.ownBlock = some j ∨ j = T) → ¬ TyB W j := fun j hj hu => by
  rcases hu with hu | hu | hu
  · exact hno j hj _ (by decide) (by decide) hu
  · exact hno j hj _ (by decide) (by decide) hu
  · exact hno j hj _ (by decide) (by decide) hu
 have htr8 : TrAt W8 w.heap.size T d ⟨nm, sl, f, 0, rv, none, false⟩ := h.tr.only hon (fun e => hTr _ e rfl)
 have hnew : ∀ g, rv'.ownBlock = some g → hi ≤ g := fun g hgg => (hg g hgg).elim (hi4 g) (fun hl => by omega)
 refine ⟨htr8.setRv rv', h.slot.only ho (fun hs => hno _ hs _ (by decide) (by decide) h.slot.ty), h.bel.trans (ho.below hz (fun j hj hs => ?_)), ?_, h.kn.only ho hTyB ?_, h.txt.only ho (fun j hj hu => hno j hj 5 (by decide) (by decide) hu), h.its.only ho (fun j hj hs => ?_), h.hT, h.hlh, h.hK, hnew, ?_, ?_, ?_⟩
 ·
  rcases hs with hs | rfl
  · have := hi4 j hs; omega
  · omega
 ·
  refine ownsRow_only hr (only_set W8 T 5 rv') (fun g hgg e => ?_)
  have := hnew g hgg
  omega
 ·
  rintro (hs | hs)
  · exact (h.rowT hs).notKn h.kn rfl
  · omega
 ·
  rcases hs with hs | rfl
  · have := hi4 j hs; omega
  · omega
 · rw [List.length_append, h.len]; rfl
 ·
  intro j r' hr'
  rcases Nat.lt_or_ge j rs.length with hl | hl
  ·
   rw [List.getElem?_append_left hl] at hr'
   exact ⟨(h.rts j r' hr').1, (h.rts j r' hr').2.maps ho hTyB⟩
  ·
   rw [List.getElem?_append_right hl] at hr'
   have h0 : j - rs.length = 0 := by
    rcases Nat.eq_zero_or_pos (j - rs.length) with h0 | h0
    · exact h0
    · rw [List.getElem?_eq_none (by simp; omega)] at hr'; cases hr'
   rw [h0] at hr'
   cases hr'
   obtain rfl : j = k := by have := h.len; omega
   exact ⟨hrt.1, hrt.2.maps ho hTyB⟩
 ·
  intro j hj
  rcases Nat.lt_or_ge j k with hl | hl
  · exact h.pair j hl
  ·
   obtain rfl : j = k := by omega
   exact hp
end
structure TSt (w W : World) (T sl d Bd : Nat) (D0 Dc : Dk) (nm : ByteArray) (s : Sl) (f size : Nat) (now : Option Addr) (b : List UInt8) (tg pg : Nat → Int) (rs : List Rt) (rv : Value) : Prop where
 tr : TrAt W w.heap.size T d ⟨nm, sl, f, size, rv, now, false⟩
 slot : SlotAt W w.heap.size sl d s
 row : W.ownsRow w.heap.size 81 2 rv rs.length (flatF Rt.cells rs)
 disk : Turned w W Bd d D0 Dc
 rts : ∀ (j : Nat) (r : Rt), rs[j]? = some r → r.1 = tg j ∧ PgRt W (fun j => w.heap.size ≤ j) b (pg j) r.2
section
variable {w W W' : World} {T sl d Bd : Nat} {D0 Dc Dc' : Dk} {nm : ByteArray} {s : Sl} {f size : Nat} {now : Option Addr} {b : List UInt8} {tg pg : Nat → Int} {rs : List Rt} {rv : Value}
theorem TSt.step (h : TSt w W T sl d Bd D0 Dc nm s f size now b tg pg rs rv) (ht : Turned W W' Bd d Dc Dc') : TSt w W' T sl d Bd D0 Dc' nm s f size now b tg pg rs rv := by
 have hd := h.disk.is
 refine ⟨h.tr.only ht.only (hd.notFoot h.tr.ty (by decide) (by decide)), h.slot.only ht.only (hd.notFoot h.slot.ty (by decide) (by decide)), ownsRow_only h.row ht.only (fun g hg => hd.notFoot (IsT.of_own h.row hg) (by decide) (by decide)), h.disk.trans ht, fun j r hr => ⟨(h.rts j r hr).1, (h.rts j r hr).2.maps ht.only (fun j hj hu => hu.foot hd hj)⟩⟩
theorem TSt.below (h : TSt w W T sl d Bd D0 Dc nm s f size now b tg pg rs rv) (hb : Below W.heap.size W W') : TSt w W' T sl d Bd D0 Dc nm s f size now b tg pg rs rv := h.step (Turned.of_below h.disk.is hb)
theorem TSt.cellT (h : TSt w W T sl d Bd D0 Dc nm s f size now b tg pg rs rv) (ho : Only (fun j => j = T) W W') {size' : Nat} {now' : Option Addr} (ht : TrAt W' w.heap.size T d ⟨nm, sl, f, size', rv, now', false⟩) : TSt w W' T sl d Bd D0 Dc nm s f size' now' b tg pg rs rv := by
 have hTy := h.tr.ty
 have hd := h.disk.is
 have hT := hd.notFoot hTy (by decide) (by decide)
 have hnB : ∀ j, j = T → ¬ TyB W j := fun j e hu => by subst e; exact hu.ne hTy (by decide) (by decide) (by decide)
 refine ⟨ht, h.slot.only ho (fun e => ?_), ownsRow_only h.row ho (fun g hg e => ?_), ⟨hd.turned h.tr hT ho, h.disk.only.trans ho (fun j hj e => ?_), h.disk.foot⟩, fun j r hr => ⟨(h.rts j r hr).1, (h.rts j r hr).2.maps ho hnB⟩⟩
 ·
  have := h.slot.ty
  rw [e] at this
  exact absurd (this.eq hTy) (by decide)
 ·
  have := IsT.of_own h.row hg
  rw [e] at this
  exact absurd (this.eq hTy) (by decide)
 ·
  have := h.tr.lt.1
  omega
end
def GoneIf (D : Dk) (nm : ByteArray) (D' : Dk) : Prop := ((mget D.now nm).isSome = false ∧ D' = D) ∨ ((mget D.now nm).isSome = true ∧ ∃ cv cv2 v, D' = goneD D nm cv cv2 v)
theorem GoneIf.keeps {D D' : Dk} {nm : ByteArray} (h : GoneIf D nm D') : D'.fails = D.fails ∧ D'.room = D.room ∧ D'.chg.length ≤ D.chg.length + 1 ∧ ∀ nm', nm' ≠ nm → mget D'.now nm' = mget D.now nm' := by
 rcases h with ⟨-, rfl⟩ | ⟨-, cv, cv2, v, rfl⟩
 · exact ⟨rfl, rfl, by omega, fun _ _ => rfl⟩
 · exact ⟨rfl, rfl, gone_chg D nm cv cv2 v, fun nm' hn => mget_del_other hn D.now⟩
structure G2 (W : World) (G g f : Nat) : Prop where
 c0 : W.cell? ⟨G, 0, none⟩ = some (.int .i64 (g : Nat))
 c1 : W.cell? ⟨G, 1, none⟩ = some (.int .i64 (f : Nat))
 ty : IsT 3 W G
theorem G2.only {S : Nat → Prop} {W W' : World} {G g f : Nat} (h : G2 W G g f) (ho : Only S W W') (hS : ¬ S G) : G2 W' G g f := ⟨ho.cell hS h.c0, ho.cell hS h.c1, h.ty.only ho hS⟩
theorem G2.below {W W' : World} {G g f : Nat} (h : G2 W G g f) (hb : Below W.heap.size W W') : G2 W' G g f := h.only (S := fun _ => False) (Only.of_below hb) (fun h => h)
def RidSt (D : Dk) (nm : ByteArray) (ver g f k : Nat) (Dc : Dk) (size : Nat) : Prop := (k = 0 ∧ Dc = D ∧ size = 0) ∨ (k = 1 ∧ size = 0 ∧ GoneIf D (tfn nm g) Dc) ∨ (k = 2 ∧ ∃ D1, GoneIf D (tfn nm g) D1 ∧ ((ver = 0 ∧ GoneIf D1 (tfn nm f) Dc ∧ size = 0) ∨ (ver ≠ 0 ∧ Dc = D1 ∧ size = (fileOf Dc.now (tfn nm f)).length)))
theorem RidSt.zero {D : Dk} {nm : ByteArray} {ver g f : Nat} {Dc : Dk} {size : Nat} (h : RidSt D nm ver g f 0 Dc size) : Dc = D ∧ size = 0 := by
 rcases h with ⟨-, h⟩ | ⟨h, -⟩ | ⟨h, -⟩
 · exact h
 · cases h
 · cases h
theorem RidSt.one {D : Dk} {nm : ByteArray} {ver g f : Nat} {Dc : Dk} {size : Nat} (h : RidSt D nm ver g f 1 Dc size) : size = 0 ∧ GoneIf D (tfn nm g) Dc := by
 rcases h with ⟨h, -⟩ | ⟨-, h⟩ | ⟨h, -⟩
 · cases h
 · exact h
 · cases h
theorem RidSt.two {D : Dk} {nm : ByteArray} {ver g f : Nat} {Dc : Dk} {size : Nat} (h : RidSt D nm ver g f 2 Dc size) : ∃ D1, GoneIf D (tfn nm g) D1 ∧ ((ver = 0 ∧ GoneIf D1 (tfn nm f) Dc ∧ size = 0) ∨ (ver ≠ 0 ∧ Dc = D1 ∧ size = (fileOf Dc.now (tfn nm f)).length)) := by
 rcases h with ⟨h, -⟩ | ⟨h, -⟩ | ⟨-, h⟩
 · cases h
 · cases h
 · exact h
theorem tfn_ne {nm : ByteArray} {i j : Nat} (hi : i < 2) (hj : j < 2) (h : i ≠ j) : tfn nm i ≠ tfn nm j := by
 have hx : pP ≠ pQ := by decide
 have hc : ∀ x y : ByteArray, nm ++ x = nm ++ y → x = y := fun x y e => by
  have := congrArg (fun z : ByteArray => z.data.toList) e
  simp only [ByteArray.data_append, Array.toList_append, List.append_cancel_left_eq] at this
  cases x; cases y
  simpa [Array.toList_inj] using this
 unfold tfn
 intro e
 have := hc _ _ e
 rcases Nat.eq_zero_or_pos i with rfl | h1
 ·
  rw [if_pos rfl, if_neg (by omega)] at this
  exact hx this
 ·
  rw [if_neg (by omega), if_pos (by omega)] at this
  exact hx this.symm
structure Opened (w w' : World) (d Bd : Nat) (D : Dk) (nm : ByteArray) (T sl f size : Nat) (D' : Dk) (b : List UInt8) (tg pg : Nat → Int) (rs : List Rt) (rv : Value) : Prop where
 st : TSt w w' T sl d Bd D D' nm (openN D nm 2) f size (lastN rs) b tg pg rs rv
 how : ((openN D nm 2).ver = 0 ∧ rs = [] ∧ f = 0 ∧ size = 0 ∧ ∃ D1, GoneIf D (tfn nm 1) D1 ∧ GoneIf D1 (tfn nm 0) D') ∨
  ((openN D nm 2).ver ≠ 0 ∧ (∃ l, dec (openN D nm 2).val.data.toList = some l ∧ ItemsOk D nm l ∧ f = (itD l 0).n.toNat ∧ 2 * rs.length + 1 = l.length ∧ (∀ j, tg j = (itD l (1 + 2 * j)).n) ∧ ∀ j, pg j = (itD l (2 + 2 * j)).n) ∧ b = fileOf D.now (tfn nm f) ∧ GoneIf D (tfn nm (1 - f)) D' ∧ size = (fileOf D'.now (tfn nm f)).length)
def OpenOut (w : World) (d Bd : Nat) (D : Dk) (nm : ByteArray) (e : Ending) (w' : World) : Prop :=
 (¬ OpenGood D nm ∧ e = .returned (.tuple #[.pointer none, .int .i64 3]) ∧ Below w.heap.size w w') ∨
 (OpenGood D nm ∧ ∃ T sl f size D' b tg pg rs rv, e = .returned (.tuple #[.pointer (some ⟨T, 0, none⟩), .int .i64 0]) ∧ Opened w w' d Bd D nm T sl f size D' b tg pg rs rv)
set_option maxHeartbeats 1000000 in
theorem load_minus (bv : Value) (K S : Nat) (w : World) : Calls Try.prog 27 #[bv, .int .i64 (-1), .int .i64 0, .map (some K), .map (some S)] w fun e w' => e = .returned (.tuple #[.pointer none, .bool true]) ∧ w' = w := by
 go_enter Try.func27, Try.ntmps27
 go_wp2_with fail
 go_ret2
 exact ⟨rfl, rfl⟩
end Go.Proofs.Ytmafnjidhjabgaa
