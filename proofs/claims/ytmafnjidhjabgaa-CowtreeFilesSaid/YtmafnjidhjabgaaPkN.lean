/- Walks and plain laws of the chapter, laid together; each part says what it proves. -/
import Derived.Sort.CutIn
import Derived.Scope
import Derived.Test.YtmafnjidhjabgaaPkA
import Derived.Test.YtmafnjidhjabgaaPkB
import Derived.Test.YtmafnjidhjabgaaPkL
import Derived.Test.YtmafnjidhjabgaaPkM
namespace Go.Proofs.Ytmafnjidhjabgaa
open Go.RowKit Go.Shelf
set_option linter.unusedVariables false
set_option linter.unusedSectionVars false
set_option linter.unusedSimpArgs false
set_option maxRecDepth 100000
variable [Inhabited Pgs]
def restN : (h : Nat) → BT h → Str → Nat → List KV
 | 0, t, _, k => List.drop (α := KV) k t
 | h + 1, t, f, k => weave ((t.2.drop k).map (fun c => seen h c f)) (t.1.drop k)
def midN (h : Nat) (t : BT h) (f : Str) (k : Nat) : List KV := (t.es.drop k).take 1 ++ restN h t f (k + 1)
theorem restN_seen {f : Str} : ∀ {h : Nat} {t : BT h}, restN h t f (pos t.es f) = seen h t f
 | 0, _ => rfl
 | _ + 1, _ => rfl
theorem drop_take {l : List KV} {k : Nat} : l.drop k = (l.drop k).take 1 ++ l.drop (k + 1) := by
 rw [← List.drop_drop]
 exact (List.take_append_drop 1 _).symm
theorem restN_leaf {f : Str} {t : BT 0} {k : Nat} : restN 0 t f k = midN 0 t f k := drop_take (l := t)
theorem restN_end {f : Str} : ∀ {h lo : Nat} {t : BT h}, BT.Ok h lo t → restN h t f (t.es.length + 1) = []
 | 0, _, t, _ => List.drop_of_length_le (by show List.length (α := KV) t ≤ _; exact Nat.le_succ _)
 | h + 1, _, t, o => by
  have h3 := o.2.2.1
  show weave ((t.2.drop (t.1.length + 1)).map (fun c => seen h c f)) (t.1.drop (t.1.length + 1)) = []
  rw [List.drop_of_length_le (by omega), List.drop_of_length_le (by omega)]
  rfl
theorem midN_some {f : Str} {h : Nat} {t : BT h} {k : Nat} (hk : k < t.es.length) : midN h t f k = t.es[k] :: restN h t f (k + 1) := by
 unfold midN
 rw [List.drop_eq_getElem_cons hk]
 rfl
theorem midN_none {f : Str} {h lo : Nat} {t : BT h} {k : Nat} (o : BT.Ok h lo t) (hk : k = t.es.length) : midN h t f k = [] := by
 subst hk
 unfold midN
 rw [restN_end o, List.drop_length]
 rfl
theorem restN_kid {f : Str} {h lo : Nat} {t : BT (h + 1)} {k : Nat} {c : BT h} (o : BT.Ok (h + 1) lo t) (hc : t.2[k]? = some c) : restN (h + 1) t f k = seen h c f ++ midN (h + 1) t f k := by
 have h3 := o.2.2.1
 obtain ⟨hk, hcc⟩ := List.getElem?_eq_some_iff.1 hc
 by_cases hkl : k < t.es.length
 ·
  rw [midN_some hkl]
  have hkl' : k < t.1.length := hkl
  show weave ((t.2.drop k).map (fun c => seen h c f)) (t.1.drop k) = _
  rw [List.drop_eq_getElem_cons hk, hcc, List.drop_eq_getElem_cons hkl', List.map_cons]
  show seen h c f ++ wr _ _ = seen h c f ++ _
  congr 1
  have hk2 : k + 1 < t.2.length := by omega
  show _ = t.1[k] :: weave ((t.2.drop (k + 1)).map (fun c => seen h c f)) (t.1.drop (k + 1))
  rw [List.drop_eq_getElem_cons hk2, List.map_cons, wr_weave]
 ·
  have hkl' : k = t.1.length := by
   have : ¬ k < t.1.length := hkl
   omega
  rw [midN_none o hkl', List.append_nil]
  show weave ((t.2.drop k).map (fun c => seen h c f)) (t.1.drop k) = _
  rw [List.drop_eq_getElem_cons hk, hcc, List.drop_of_length_le (by omega : t.2.length ≤ k + 1), hkl', List.drop_length]
  show seen h c f ++ wr [] [] = seen h c f
  rw [show wr [] [] = [] from rfl, List.append_nil]
theorem NdAt.at2 {w : World} {F : Nat → Prop} {p kb ko n kc vb vo vc : Nat} {cv : Value} {es : List KV} {ps : List Nat} (h : NdAt w F p (.slice (some ⟨kb, ko, none⟩) n kc) (.slice (some ⟨vb, vo, none⟩) n vc) cv es ps) {k : Nat} (hk : k < es.length) : w.cell? ⟨kb, ko + k, none⟩ = some (.string (bstr (es[k]).1)) ∧ w.cell? ⟨vb, vo + k, none⟩ = some (.string (bstr (es[k]).2)) := by
 obtain ⟨b, o, c, e, -, -, h3⟩ := rd1_at h.rk.rd (keys_at hk)
 obtain ⟨b', o', c', e', -, -, h3'⟩ := rd1_at h.rv.rd (vals_at hk)
 simp only [Value.slice.injEq, Option.some.injEq, Addr.mk.injEq, and_true] at e e'
 obtain ⟨⟨rfl, rfl⟩, -⟩ := e
 obtain ⟨⟨rfl, rfl⟩, -⟩ := e'
 exact ⟨h3, h3'⟩
def EachOut (J : List KV → World → Prop) (Jx : World → Prop) (rs : List KV) (e : Ending) (w' : World) : Prop := (e = .returned (.bool true) ∧ J rs w') ∨ (e = .returned (.bool false) ∧ Jx w')
theorem kid_srt_at {h lo : Nat} {t : BT (h + 1)} (o : BT.Ok (h + 1) lo t) (hs : Srt (flat (h + 1) t)) {i : Nat} {c : BT h} (hi : t.2[i]? = some c) : Srt (flat h c) := by
 obtain ⟨h1, h2⟩ := split_get hi
 have hil := (List.getElem?_eq_some_iff.1 hi).1
 have h3 := o.2.2.1
 have := flat_split (t.1.take i) (t.1.drop i) (t.2.take i) (t.2.drop (i + 1)) c (by rw [List.length_take, List.length_take]; omega) (by rw [List.length_drop, List.length_drop]; omega)
 rw [List.take_append_drop, ← h1] at this
 have hs' := hs
 rw [show flat (h + 1) t = _ from this] at hs'
 exact (srt_app.1 (srt_app.1 hs').1).2.1
def EachSpec (F : Nat → Prop) (f : Str) (y : Value) (J : List KV → World → Prop) (Jx : World → Prop) (w0 : World) (h : Nat) : Prop := ∀ (lo : Nat) (t : BT h) (p : Nat) (rs : List KV) (W : World), TreeAt w0 F h t p → BT.Ok h lo t → Srt (flat h t) → J (seen h t f ++ rs) W →
 CallsIn Fence.wide 0 Try.prog 33 #[ptrV p, .string (bstr f), y] W (EachOut J Jx rs)
set_option maxHeartbeats 4000000 in
theorem each_step (F : Nat → Prop) (f : Str) (c1 c2 : Value) (J : List KV → World → Prop) (Jx : World → Prop) (w0 : World) (h : Nat)
  (hv : ∀ rs W, J rs W → Fr F w0 W)
  (hvx : ∀ W, Jx W → Fr F w0 W)
  (hm : ∀ rs W W', Below W.heap.size W W' → J rs W → J rs W')
  (hy : ∀ x rs W, J (x :: rs) W → CallsIn Fence.wide 0 Try.prog 34 #[.string (bstr x.1), .string (bstr x.2), c1, c2] W (EachOut J Jx rs))
  (hih : ∀ g, h = g + 1 → EachSpec F f (.func (.func 34) #[] #[c1, c2]) J Jx w0 g) : EachSpec F f (.func (.func 34) #[] #[c1, c2]) J Jx w0 h := by
 intro lo t p rs W ht ho hs hj
 have HR := Lib.hid (And.intro ho (And.intro hs hj))
 have HV := Lib.hid hv
 have HY := Lib.hid hy
 have HM := Lib.hid hm
 have HVX := Lib.hid hvx
 have HIH := Lib.hid hih
 obtain ⟨kv, vv, cv, ps, hn0, hks⟩ := ht.top
 have hn := hn0.fr (hv _ _ hj)
 have HN0 := Lib.hid hn0
 have HKS := Lib.hid hks
 have hes := ho.es
 have hle : t.es.length ≤ 7 := hes.2
 have hkl := KidsOf.len hks ho
 have hpl := pos_le t.es f
 have hsr := es_srt ho hs
 have HSP := Lib.hid (Sp.of_srt (k := f) hsr)
 have c0 := hn.c0
 obtain ⟨ka, kc, rfl, hk1, hk2⟩ := Rd.slice hn.rk.rd
 obtain ⟨va, vc, rfl, hv1, hv2⟩ := Rd.slice hn.rv.rd
 obtain ⟨ca, cc, rfl, hc1, hc2⟩ := Rd.slice hn.rc.rd
 have HKL := Lib.hid hkl
 have RK := Lib.hid hn.rk.rd
 have HJ0 := Lib.hid (show J (restN h t f (pos t.es f) ++ rs) W by rw [restN_seen]; exact hj)
 clear ht hs hj hv hvx hy hm hih hsr hn hks hes hkl ho hn0
 unfold ptrV
 refine callsIn_of_wp Try.func33 rfl trivial ?_
 simp only [Try.ntmps33, List.size_toArray, List.length_cons, List.length_nil, Nat.reduceAdd, Nat.reduceSub, Array.replicate_succ, Array.replicate_zero, List.push_toArray, List.append_toArray, List.nil_append, List.cons_append]
 gi_wp2_with (gi_at_call 55; refine (callsIn_wide.2 (bs_calls _ _ _ _ RK.out HSP.out (by omega))).mono ?_; rintro e w' ⟨rfl, hw'⟩; obtain rfl : W = w' := hw'.symm)
 generalize hP : pos t.es f = P at *
 clear hP
 gi_wp2_with fail
 gi_loopg [9] (t.es.length + 1 - P) (fun m iv wr => ∃ k : Nat, k + m = t.es.length + 1 ∧ iv = .int .i64 k ∧ J (restN h t f k ++ rs) wr)
 case atStart => exact ⟨P, by omega, rfl, HJ0.out⟩
 case round =>
  obtain ⟨k, hkm, rfl, hj⟩ := hrel
  have hn := HN0.out.fr (HV.out _ _ hj)
  have HJ := Lib.hid hj
  have HN := Lib.hid hn
  have c0 := hn.c0
  have c1' := hn.c1
  have c2' := hn.c2
  clear hn hj
  by_cases hkn : k ≤ t.es.length
  ·
   gi_upto_region 7 with fail
   gi_cut [49] from 22 (fun b wb => (b = .bool false ∧ J (midN h t f k ++ rs) wb) ∨ (b = .bool true ∧ Jx wb))
   case first =>
    cases h with
    | zero =>
     obtain rfl : ps = [] := HKS.out
     have HM := Lib.hid (show J (midN 0 t f k ++ rs) wr by rw [← restN_leaf]; exact HJ.out)
     simp only [List.length_nil] at c2'
     gi_wp2_with fail
     gi_meet
     case rel => exact .inl ⟨rfl, HM.out⟩
    | succ h =>
     have hkl' : ps.length = t.es.length + 1 := HKL.out.2.2 (by omega)
     have h3 : t.2.length = t.es.length + 1 := HR.out.1.2.2.1
     have hkp : k < ps.length := by omega
     have hps0 : decide ((0 : Int) < (ps.length : Int)) = true := decide_eq_true (by omega)
     have hqk : ps[k]? = some ps[k] := List.getElem?_eq_getElem hkp
     have hck : t.2[k]? = some (t.2[k]'(by omega)) := List.getElem?_eq_getElem (by omega)
     obtain ⟨C, hC⟩ : ∃ C, C = t.2[k]'(by omega) := ⟨_, rfl⟩
     rw [← hC] at hck
     generalize ps[k] = q at hqk
     clear hC
     obtain ⟨cb, co, rfl, -, -, hcell⟩ := HN.out.rc.at (ptrs_get hqk)
     have HJK := Lib.hid (show J (seen h C f ++ (midN (h + 1) t f k ++ rs)) wr by rw [← List.append_assoc, ← restN_kid HR.out.1 hck]; exact HJ.out)
     obtain ⟨-, hkk⟩ := (show Kids (TreeAt w0 F h) t.2 ps from HKS.out)
     have HKK := Lib.hid (hkk k C q hck hqk)
     have HOK := Lib.hid (And.intro (kids_ok HR.out.1 hck) (kid_srt_at HR.out.1 HR.out.2.1 hck))
     clear hkk hck hqk
     gi_wp2_with (gi_at_call 33; refine (HIH.out h rfl 3 C q (midN (h + 1) t f k ++ rs) wr HKK.out HOK.out.1 HOK.out.2 HJK.out).mono ?_; rintro e w' (⟨rfl, hj2⟩ | ⟨rfl, hj2⟩) <;> have HJ2 := Lib.hid hj2 <;> clear hj2)
     ·
      gi_meet
      case rel => exact .inl ⟨rfl, HJ2.out⟩
     ·
      gi_meet
      case rel => exact .inr ⟨rfl, HJ2.out⟩
   case rest =>
    clear HJ HN HKS c0 c1' c2'
    rcases hcut with ⟨rfl, hj⟩ | ⟨rfl, hj⟩
    ·
     have hn := HN0.out.fr (HV.out _ _ hj)
     have HJ := Lib.hid hj
     have c0 := hn.c0
     have c1' := hn.c1
     have HN := Lib.hid hn
     clear hn hj
     gi_wp2_with fail
     by_cases hkn2 : k < t.es.length
     ·
      have d1 : decide ((k : Int) < (t.es.length : Int)) = true := decide_eq_true (by omega)
      obtain ⟨kb, ko, rfl, -, -, ck⟩ := HN.out.rk.at (keys_at hkn2)
      obtain ⟨vb, vo, rfl, -, -, cv⟩ := HN.out.rv.at (vals_at hkn2)
      have HJM := Lib.hid (show J (t.es[k] :: (restN h t f (k + 1) ++ rs)) wc by rw [← List.cons_append, ← midN_some hkn2]; exact HJ.out)
      refine region_mi [(0, false), (1, false), (2, false), (3, false), (4, false), (5, false), (6, false), (7, false), (8, false), (9, false), (10, false), (11, false), (12, false), (13, false), (14, false), (15, false), (16, false), (17, false), (18, false), (19, false), (20, false), (21, false), (22, false), (23, true), (24, false), (25, false)] 26 (fun V => V.cell? ⟨p, 0, none⟩ = some (.slice (some ⟨kb, ko, none⟩) t.es.length kc) ∧ V.cell? ⟨p, 1, none⟩ = some (.slice (some ⟨vb, vo, none⟩) t.es.length vc) ∧ V.cell? ⟨kb, ko + k, none⟩ = some (.string (bstr (t.es[k]).1)) ∧ V.cell? ⟨vb, vo + k, none⟩ = some (.string (bstr (t.es[k]).2))) (by kernel_rfl) (by kernel_rfl) ⟨c0, c1', ck, cv⟩ ?_
      iterate 23
       first
       | (
         refine m_take (v := ?_) rfl rfl ?_ ?_
         rotate_left
         ·
          intro W hW
          go_simp
          with_reducible rfl
         simp only [Act.put, List.setIfInBounds_toArray, List.set_cons_zero, List.set_cons_succ])
       | (
         refine m_skip rfl rfl ?_
         simp only [Act.put, List.setIfInBounds_toArray, List.set_cons_zero, List.set_cons_succ])
      refine m_loud rfl (fun K hK => ?_)
      have HK := Lib.hid hK
      clear hK
      go_simp
      refine (callsIn_wide.1 (HY.out _ _ _ (HM.out _ _ _ (Below.refl _ _).drew HJM.out))).mono ?_
      rintro e w' (⟨rfl, hj2⟩ | ⟨rfl, hj2⟩)
      ·
       have hn2 := HN0.out.fr (HV.out _ _ hj2)
       have HJ2 := Lib.hid hj2
       refine HK.out _ _ ⟨hn2.c0, hn2.c1, (hn2.at2 hkn2).1, (hn2.at2 hkn2).2⟩ ?_
       clear HK
       clear hj2 hn2 c0 c1' ck cv HN HJ HJM
       iterate 2
        first
        | (
          refine m_take (v := ?_) rfl rfl ?_ ?_
          rotate_left
          ·
           intro W hW
           go_simp
           with_reducible rfl
          simp only [Act.put, List.setIfInBounds_toArray, List.set_cons_zero, List.set_cons_succ])
        | (
          refine m_skip rfl rfl ?_
          simp only [Act.put, List.setIfInBounds_toArray, List.set_cons_zero, List.set_cons_succ])
       refine m_done ?_
       simp only [List.drop_succ_cons, List.drop_zero]
       go_wp2_with fail
       try simp only [NP]
       gi_wp2_with fail
       gi_roundg (t.es.length - k)
       case measure => omega
       case rel => exact ⟨k + 1, by omega, by go_num, HJ2.out⟩
      ·
       have hn2 := HN0.out.fr (HVX.out _ hj2)
       have HJ2 := Lib.hid hj2
       refine HK.out _ _ ⟨hn2.c0, hn2.c1, (hn2.at2 hkn2).1, (hn2.at2 hkn2).2⟩ ?_
       clear HK
       clear hj2 hn2 c0 c1' ck cv HN HJ HJM
       iterate 2
        first
        | (
          refine m_take (v := ?_) rfl rfl ?_ ?_
          rotate_left
          ·
           intro W hW
           go_simp
           with_reducible rfl
          simp only [Act.put, List.setIfInBounds_toArray, List.set_cons_zero, List.set_cons_succ])
        | (
          refine m_skip rfl rfl ?_
          simp only [Act.put, List.setIfInBounds_toArray, List.set_cons_zero, List.set_cons_succ])
       refine m_done ?_
       simp only [List.drop_succ_cons, List.drop_zero]
       go_wp2_with fail
       try simp only [NP]
       gi_wp2_with fail
       go_ret
       exact .inr ⟨rfl, HJ2.out⟩
     ·
      obtain rfl : k = t.es.length := by omega
      have d1 : decide ((t.es.length : Int) < (t.es.length : Int)) = false := decide_eq_false (by omega)
      have HJM := Lib.hid (show J (restN h t f (t.es.length + 1) ++ rs) wc by rw [restN_end HR.out.1]; have := HJ.out; rw [midN_none HR.out.1 rfl] at this; exact this)
      refine region_mi [(0, false), (1, false), (2, false), (3, false), (4, false), (5, false), (6, false), (7, false), (8, false), (9, false), (10, false), (11, false), (12, false), (13, false), (14, false), (15, false), (16, false), (17, false), (18, false), (19, false), (20, false), (21, false), (22, false), (23, false), (24, false), (25, false)] 26 (fun V => V.cell? ⟨p, 0, none⟩ = some (.slice ka t.es.length kc) ∧ V.cell? ⟨p, 1, none⟩ = some (.slice va t.es.length vc)) (by kernel_rfl) (by kernel_rfl) ⟨c0, c1'⟩ ?_
      iterate 26
       first
       | (
         refine m_take (v := ?_) rfl rfl ?_ ?_
         rotate_left
         ·
          intro W hW
          go_simp
          with_reducible rfl
         simp only [Act.put, List.setIfInBounds_toArray, List.set_cons_zero, List.set_cons_succ])
       | (
         refine m_skip rfl rfl ?_
         simp only [Act.put, List.setIfInBounds_toArray, List.set_cons_zero, List.set_cons_succ])
      refine m_done ?_
      simp only [List.drop_succ_cons, List.drop_zero]
      have HJ2 := Lib.hid (HM.out _ _ _ (Below.refl _ _).drew HJM.out)
      go_wp2_with fail
      try simp only [NP]
      gi_wp2_with fail
      gi_roundg 0
      case measure => omega
      case rel => exact ⟨t.es.length + 1, by omega, by go_num, HJ2.out⟩
    ·
     have HJX := Lib.hid hj
     clear hj
     gi_wp2_with fail
     go_ret
     exact .inr ⟨rfl, HJX.out⟩
  ·
   obtain rfl : k = t.es.length + 1 := by omega
   have HJE := Lib.hid (show J rs wr by have := HJ.out; rw [restN_end HR.out.1] at this; exact this)
   clear HJ
   gi_wp2_with fail
   go_ret
   exact .inl ⟨rfl, HJE.out⟩
end Go.Proofs.Ytmafnjidhjabgaa
namespace Go.Proofs.Ytmafnjidhjabgaa
open Go.RowKit Go.Shelf
set_option linter.unusedVariables false
set_option linter.unusedSectionVars false
set_option linter.unusedSimpArgs false
set_option maxRecDepth 100000
variable [Inhabited Pgs]
theorem each_calls (F : Nat → Prop) (f : Str) (c1 c2 : Value) (J : List KV → World → Prop) (Jx : World → Prop) (w0 : World)
  (hv : ∀ rs W, J rs W → Fr F w0 W) (hvx : ∀ W, Jx W → Fr F w0 W)
  (hm : ∀ rs W W', Below W.heap.size W W' → J rs W → J rs W')
  (hy : ∀ x rs W, J (x :: rs) W → CallsIn Fence.wide 0 Try.prog 34 #[.string (bstr x.1), .string (bstr x.2), c1, c2] W (EachOut J Jx rs)) :
  ∀ h, EachSpec F f (.func (.func 34) #[] #[c1, c2]) J Jx w0 h
 | 0 => each_step F f c1 c2 J Jx w0 0 hv hvx hm hy (fun g e => by omega)
 | h + 1 => each_step F f c1 c2 J Jx w0 (h + 1) hv hvx hm hy (fun g e => by
  obtain rfl : h = g := by omega
  exact each_calls F f c1 c2 J Jx w0 hv hvx hm hy h)
set_option maxHeartbeats 1000000 in
theorem each_nil (f : Str) (y : Value) (w : World) : Calls Try.prog 33 #[.pointer none, .string (bstr f), y] w fun e w' => e = .returned (.bool true) ∧ w' = w := by
 go_enter Try.func33, Try.ntmps33
 go_wp2
 go_ret
 exact ⟨rfl, rfl⟩
theorem range_calls (p : Option Addr) (a b : Str) (w : World) : CallsIn Fence.wide 0 Try.prog 10 #[.pointer p, .string (bstr a), .string (bstr b)] w fun e w' => e = .returned (.func (.func 32) #[] #[.pointer (some ⟨w.heap.size, 0, none⟩), .pointer (some ⟨w.heap.size + 1, 0, none⟩), .pointer (some ⟨w.heap.size + 2, 0, none⟩)]) ∧ w' = ((w.alloc (.cells #[.pointer p] 28)).alloc (.cells #[.string (bstr a)] 9)).alloc (.cells #[.string (bstr b)] 9) := by
 refine callsIn_of_wp Try.func10 rfl trivial ?_
 simp only [Try.ntmps10, List.size_toArray, List.length_cons, List.length_nil, Nat.reduceAdd, Nat.reduceSub, Array.replicate_succ, Array.replicate_zero, List.push_toArray, List.append_toArray, List.nil_append, List.cons_append]
 gi_wp2
 go_ret
 exact ⟨rfl, rfl⟩
def below (b : Str) (e : KV) : Bool := b.isEmpty || decide (e.1 < b)
def upTo (b : Str) (l : List KV) : List KV := l.takeWhile (below b)
set_option maxHeartbeats 2000000 in
theorem rng11_calls (b : Str) (bb by_ l : Nat) (x : KV) (rs : List KV) (J : List KV → World → Prop) (Jx : World → Prop) (w : World) (hb : w.cell? ⟨bb, 0, none⟩ = some (.string (bstr b))) (hy : w.cell? ⟨by_, 0, none⟩ = some (.func (.yield l) #[] #[])) (hj : J (upTo b (x :: rs)) w)
  (hyy : ∀ x rs W, J (x :: rs) W → YieldAt Fence.wide 0 Try.prog l #[.string (bstr x.1), .string (bstr x.2)] W fun e W' => (e = .returned (.bool true) ∧ J rs W') ∨ (e = .returned (.bool false) ∧ Jx W')) :
  CallsIn Fence.wide 0 Try.prog 34 #[.string (bstr x.1), .string (bstr x.2), .pointer (some ⟨bb, 0, none⟩), .pointer (some ⟨by_, 0, none⟩)] w fun e w' => (e = .returned (.bool true) ∧ J (upTo b rs) w') ∨ (e = .returned (.bool false) ∧ (J [] w' ∨ Jx w')) := by
 refine callsIn_of_wp Try.func34 rfl trivial ?_
 simp only [Try.ntmps34, List.size_toArray, List.length_cons, List.length_nil, Nat.reduceAdd, Nat.reduceSub, Array.replicate_succ, Array.replicate_zero, List.push_toArray, List.append_toArray, List.nil_append, List.cons_append]
 have HY := Lib.hid hyy
 have HJ := Lib.hid hj
 clear hyy hj
 have hem : (bstr b).toList.isEmpty = b.isEmpty := by rw [bstr_toList]
 have hlt : Op.bytesLess (bstr x.1).toList (bstr b).toList = decide (x.1 < b) := bytes_lt _ _
 by_cases hbl : below b x = true
 ·
  have HU := Lib.hid (show upTo b (x :: rs) = x :: upTo b rs from List.takeWhile_cons_of_pos hbl)
  have hway : b.isEmpty = true ∨ (b.isEmpty = false ∧ decide (x.1 < b) = true) := by
   unfold below at hbl
   cases h : b.isEmpty with
   | true => exact .inl rfl
   | false => rw [h] at hbl; exact .inr ⟨rfl, hbl⟩
  rcases hway with h1 | ⟨h1, h2⟩
  ·
   rw [h1] at hem
   clear hlt h1 hbl
   obtain ⟨fn, tmps, assign, body, hyy, hR⟩ := HY.out x (upTo b rs) w (by rw [← HU.out]; exact HJ.out)
   have HRR := Lib.hid hR
   clear hR
   gi_wp2_with fail
   have hR := HRR.out
   clear HRR
   refine hR.mono ?_
   clear hR hyy
   rintro e W' (⟨rfl, hj1⟩ | ⟨rfl, hjx⟩)
   ·
    have HJ1 := Lib.hid hj1
    clear hj1
    gi_wp2
    go_ret
    exact .inl ⟨rfl, HJ1.out⟩
   ·
    have HJX := Lib.hid hjx
    clear hjx
    gi_wp2
    go_ret
    exact .inr ⟨rfl, .inr HJX.out⟩
  ·
   rw [h1] at hem
   rw [h2] at hlt
   clear h1 h2 hbl
   obtain ⟨fn, tmps, assign, body, hyy, hR⟩ := HY.out x (upTo b rs) w (by rw [← HU.out]; exact HJ.out)
   have HRR := Lib.hid hR
   clear hR
   gi_wp2_with fail
   have hR := HRR.out
   clear HRR
   refine hR.mono ?_
   clear hR hyy
   rintro e W' (⟨rfl, hj1⟩ | ⟨rfl, hjx⟩)
   ·
    have HJ1 := Lib.hid hj1
    clear hj1
    gi_wp2
    go_ret
    exact .inl ⟨rfl, HJ1.out⟩
   ·
    have HJX := Lib.hid hjx
    clear hjx
    gi_wp2
    go_ret
    exact .inr ⟨rfl, .inr HJX.out⟩
 ·
  have HU := Lib.hid (show J [] w by have := HJ.out; rw [show upTo b (x :: rs) = [] from List.takeWhile_cons_of_neg hbl] at this; exact this)
  have h1 : b.isEmpty = false := by
   cases h : b.isEmpty with
   | false => rfl
   | true => exact absurd (show below b x = true by unfold below; rw [h]; rfl) hbl
  have h2 : decide (x.1 < b) = false := by
   cases h : decide (x.1 < b) with
   | false => rfl
   | true => exact absurd (show below b x = true by unfold below; rw [h, Bool.or_true]) hbl
  rw [h1] at hem
  rw [h2] at hlt
  clear h1 h2 hbl
  gi_wp2_with fail
  go_ret
  exact .inr ⟨rfl, .inl HU.out⟩
abbrev RSt := List KV × List (Nat × Obj)
def RStep (base : Nat) (s : RSt) (args : Array Value) (s' : RSt) (W : World) : Prop := ∃ x, s.1 = x :: s'.1 ∧ args = #[.string (bstr x.1), .string (bstr x.2)] ∧ ∃ c o, s'.2 = [(c, o)] ∧ W.heap[c]? = some o ∧ o.isCells = true ∧ base ≤ c
def RootAt (w : World) (F : Nat → Prop) : Root → Option Addr → Prop
 | none, a => a = none
 | some ⟨h, t⟩, a => ∃ p, a = some ⟨p, 0, none⟩ ∧ TreeAt w F h t p
structure RIn (F : Nat → Prop) (w0 W : World) (T bt ba bb : Nat) (now : Option Addr) (a b : Str) : Prop where
 fr : Fr F w0 W
 ct : W.cell? ⟨bt, 0, none⟩ = some (.pointer (some ⟨T, 0, none⟩))
 ca : W.cell? ⟨ba, 0, none⟩ = some (.string (bstr a))
 cb : W.cell? ⟨bb, 0, none⟩ = some (.string (bstr b))
 now : W.cell? ⟨T, 6, none⟩ = some (.pointer now)
set_option maxHeartbeats 2000000 in
theorem rng1_iter (F : Nat → Prop) (r : Root) (a b : Str) (T bt ba bb l base : Nat) (now : Option Addr) (w0 : World) (J : RSt → World → Prop) (Jx : World → Prop) (w : World) (hr : RootAt w0 F r now) (hok : ROk r) (hb : base ≤ w.heap.size)
  (hv : ∀ s W, J s W → RIn F w0 W T bt ba bb now a b ∧ ∀ p ∈ s.2, W.heap[p.1]? = some p.2) (hvx : ∀ W, Jx W → RIn F w0 W T bt ba bb now a b)
  (hm : ∀ s W W', Below W.heap.size W W' → J s W → J s W')
  (hy : ∀ s args s' W, J s W → RStep base s args s' W → YieldAt Fence.wide 0 Try.prog l args W fun e W' => (e = .returned (.bool true) ∧ J s' W') ∨ (e = .returned (.bool false) ∧ Jx W'))
  (h0 : J (upTo b (ge a (rflat r)), []) w) :
  CallsIn Fence.wide 0 Try.prog 32 #[.func (.yield l) #[] #[], .pointer (some ⟨bt, 0, none⟩), .pointer (some ⟨ba, 0, none⟩), .pointer (some ⟨bb, 0, none⟩)] w fun e W' => (∃ v, e = .returned v) ∧ ((∃ s : RSt, s.1 = [] ∧ J s W') ∨ Jx W') := by
 obtain ⟨w1, hw1⟩ : ∃ w1, w1 = w.alloc (.cells #[.func (.yield l) #[] #[]] 86) := ⟨_, rfl⟩
 have hb1 : Below w.heap.size w w1 := by rw [hw1]; exact below_alloc w _
 obtain ⟨o, ho, hoc⟩ : ∃ o, w1.heap[w.heap.size]? = some o ∧ o.isCells = true := ⟨_, by rw [hw1]; exact World.alloc_heap_new w _, rfl⟩
 have hyc : ∀ W : World, W.heap[w.heap.size]? = some o → W.cell? ⟨w.heap.size, 0, none⟩ = some (.func (.yield l) #[] #[]) := fun W h => by
  have h1 : w1.cell? ⟨w.heap.size, 0, none⟩ = some (.func (.yield l) #[] #[]) := by rw [hw1, cell_cells (World.alloc_heap_new w _)]; rfl
  rw [← h1]
  exact World.cell?_of_block (w := w1) (h.trans ho.symm)
 obtain ⟨J2, hJ2⟩ : ∃ J2 : List KV → World → Prop, J2 = fun rs W => ∃ pr, J (rs, pr) W ∧ W.heap[w.heap.size]? = some o := ⟨_, rfl⟩
 have h1 : J2 (upTo b (ge a (rflat r))) w1 := by rw [hJ2]; exact ⟨[], hm _ _ _ hb1 h0, ho⟩
 have hv2 : ∀ rs W, J2 rs W → RIn F w0 W T bt ba bb now a b := fun rs W h => by rw [hJ2] at h; obtain ⟨pr, h, -⟩ := h; exact (hv _ _ h).1
 have hyb : ∀ rs W, J2 rs W → W.cell? ⟨w.heap.size, 0, none⟩ = some (.func (.yield l) #[] #[]) := fun rs W h => by rw [hJ2] at h; obtain ⟨pr, h, h2⟩ := h; exact hyc W h2
 have hm2 : ∀ rs W W', Below W.heap.size W W' → J2 rs W → J2 rs W' := fun rs W W' hb h => by
  rw [hJ2] at h ⊢
  obtain ⟨pr, h, h2⟩ := h
  exact ⟨pr, hm _ _ _ hb h, (hb.block _ (Array.getElem?_eq_some_iff.1 h2).1).trans h2⟩
 have hy2 : ∀ x rs W, J2 (x :: rs) W → YieldAt Fence.wide 0 Try.prog l #[.string (bstr x.1), .string (bstr x.2)] W fun e W' => (e = .returned (.bool true) ∧ J2 rs W') ∨ (e = .returned (.bool false) ∧ Jx W') := fun x rs W h => by
  rw [hJ2] at h
  obtain ⟨pr, h, h2⟩ := h
  refine (hy _ _ (rs, [(w.heap.size, o)]) W h ⟨x, rfl, rfl, _, _, rfl, h2, hoc, hb⟩).mono ?_
  rintro e W' (⟨h3, h4⟩ | h3)
  · exact .inl ⟨h3, by rw [hJ2]; exact ⟨_, h4, (hv _ _ h4).2 _ (List.mem_singleton_self _)⟩⟩
  · exact .inr h3
 have hend : ∀ W, J2 [] W → ∃ s : RSt, s.1 = [] ∧ J s W := fun W h => by
  rw [hJ2] at h
  obtain ⟨pr, h, -⟩ := h
  exact ⟨_, rfl, h⟩
 have he : CallsIn Fence.wide 0 Try.prog 33 #[.pointer now, .string (bstr a), .func (.func 34) #[] #[.pointer (some ⟨bb, 0, none⟩), .pointer (some ⟨w.heap.size, 0, none⟩)]] w1.drew fun e W' => (∃ v, e = .returned v) ∧ (J2 [] W' ∨ Jx W') := by
  have h1' := hm2 _ _ _ (Below.refl _ w1).drew h1
  cases r with
  | none =>
   obtain rfl : now = none := hr
   refine (callsIn_wide.2 (each_nil _ _ _)).mono ?_
   rintro e W' ⟨rfl, rfl⟩
   exact ⟨⟨_, rfl⟩, .inl h1'⟩
  | some ht =>
   obtain ⟨h, t⟩ := ht
   obtain ⟨p, rfl, htr⟩ := hr
   refine (each_calls F a _ _ (fun rs W => J2 (upTo b rs) W) (fun W => J2 [] W ∨ Jx W) w0 (fun rs W h => (hv2 _ _ h).fr) (fun W h => h.elim (fun h => (hv2 _ _ h).fr) (fun h => (hvx _ h).fr)) (fun rs W W' hb h => hm2 _ _ _ hb h) ?_ h 1 t p [] w1.drew htr hok.1 hok.2 ?_).mono ?_
   ·
     intro x rs W hj
     exact rng11_calls b bb _ l x rs J2 Jx W (hv2 _ _ hj).cb (hyb _ _ hj) hj hy2
   ·
     rw [List.append_nil, seen_spec a h 1 t hok.1 hok.2]
     exact h1'
   ·
     rintro e W' (⟨rfl, hj⟩ | ⟨rfl, hj⟩)
     · exact ⟨⟨_, rfl⟩, .inl hj⟩
     · exact ⟨⟨_, rfl⟩, hj⟩
 have HE := Lib.hid he
 have HV2 := Lib.hid hv2
 have HVX := Lib.hid hvx
 have HEND := Lib.hid hend
 have c1 := (hv2 _ _ h1).ct
 have c2 := (hv2 _ _ h1).ca
 have c3 := (hv2 _ _ h1).now
 have c0 := (hv _ _ h0).1.ct
 clear he hv2 hvx hend hv hy hy2 hyb hyc hm hm2 hJ2 h0 h1 hr hok ho hoc hb1
 refine callsIn_of_wp Try.func32 rfl trivial ?_
 simp only [Try.ntmps32, List.size_toArray, List.length_cons, List.length_nil, Nat.reduceAdd, Nat.reduceSub, Array.replicate_succ, Array.replicate_zero, List.push_toArray, List.append_toArray, List.nil_append, List.cons_append]
 subst hw1
 gi_wp2_with fail
 refine region_mi [(0, false), (1, false), (2, false), (3, false), (4, false), (5, false), (6, true)] 7 (fun V => V.cell? ⟨bt, 0, none⟩ = some (.pointer (some ⟨T, 0, none⟩)) ∧ V.cell? ⟨ba, 0, none⟩ = some (.string (bstr a)) ∧ V.cell? ⟨T, 6, none⟩ = some (.pointer now)) (by kernel_rfl) (by kernel_rfl) ⟨c1, c2, c3⟩ ?_
 iterate 6
  first
  | (
    refine m_take (v := ?_) rfl rfl ?_ ?_
    rotate_left
    ·
      intro W hW
      go_simp
      with_reducible rfl
    simp only [Act.put, List.setIfInBounds_toArray, List.set_cons_zero, List.set_cons_succ])
  | (
    refine m_skip rfl rfl ?_
    simp only [Act.put, List.setIfInBounds_toArray, List.set_cons_zero, List.set_cons_succ])
 refine m_loud rfl (fun K hK => ?_)
 have HK := Lib.hid hK
 clear hK
 go_simp
 refine (callsIn_wide.1 HE.out).mono ?_
 rintro e W' ⟨⟨v, rfl⟩, hj⟩
 have hin : RIn F w0 W' T bt ba bb now a b := hj.elim (fun h => HV2.out _ _ h) (fun h => HVX.out _ h)
 have HJ := Lib.hid hj
 refine HK.out _ _ ⟨hin.ct, hin.ca, hin.now⟩ ?_
 clear HK
 clear hin hj c0 c1 c2 c3
 refine m_done ?_
 simp only [List.drop_succ_cons, List.drop_zero]
 go_wp2_with fail
 try simp only [NP]
 gi_wp2_with fail
 go_end0
 exact ⟨⟨_, rfl⟩, HJ.out.imp (fun h => HEND.out _ h) id⟩
end Go.Proofs.Ytmafnjidhjabgaa
namespace Go.Proofs.Ytmafnjidhjabgaa
open Go.RowKit Go.Shelf
set_option linter.unusedVariables false
set_option linter.unusedSectionVars false
set_option linter.unusedSimpArgs false
set_option maxRecDepth 100000
variable [Inhabited Pgs]
structure Sl where
 nm : ByteArray
 val : ByteArray
 ver : Nat
 inn : Int
 broken : Bool
def Sl.cells (d : Nat) (s : Sl) : List Value := [.pointer (some ⟨d, 0, none⟩), .string s.nm, .string s.val, .int .i64 (s.ver : Nat), .int .i64 s.inn, .bool s.broken]
def SlotAt (w : World) (B p d : Nat) (s : Sl) : Prop := w.ownsRow B 103 6 (.slice (some ⟨p, 0, none⟩) 1 1) 1 (s.cells d)
theorem SlotAt.at {w : World} {B p d : Nat} {s : Sl} (h : SlotAt w B p d s) : w.cell? ⟨p, 0, none⟩ = some (.pointer (some ⟨d, 0, none⟩)) ∧ w.cell? ⟨p, 1, none⟩ = some (.string s.nm) ∧ w.cell? ⟨p, 2, none⟩ = some (.string s.val) ∧ w.cell? ⟨p, 3, none⟩ = some (.int .i64 (s.ver : Nat)) ∧ w.cell? ⟨p, 4, none⟩ = some (.int .i64 s.inn) ∧ w.cell? ⟨p, 5, none⟩ = some (.bool s.broken) ∧ ∀ o, w.frozen? ⟨p, o, none⟩ = false := by
 have hc := World.ownsRow.cells h rfl
 refine ⟨?_, ?_, ?_, ?_, ?_, ?_, fun o => World.ownsRow.frozenAt h o⟩
 · have := hc 0 _ rfl; rwa [add_off] at this
 · have := hc 1 _ rfl; rwa [add_off] at this
 · have := hc 2 _ rfl; rwa [add_off] at this
 · have := hc 3 _ rfl; rwa [add_off] at this
 · have := hc 4 _ rfl; rwa [add_off] at this
 · have := hc 5 _ rfl; rwa [add_off] at this
theorem SlotAt.only {S : Nat → Prop} {w w' : World} {B p d : Nat} {s : Sl} (h : SlotAt w B p d s) (ho : Only S w w') (hS : ¬ S p) : SlotAt w' B p d s := by
 refine ownsRow_only h ho (fun g hg => ?_)
 have e : g = p := by simpa [Value.ownBlock] using hg.symm
 rw [e]
 exact hS
theorem SlotAt.below {w w' : World} {B p d : Nat} {s : Sl} (h : SlotAt w B p d s) (hb : Below w.heap.size w w') : SlotAt w' B p d s := h.only (S := fun _ => False) (Only.of_below hb) (fun h => h)
theorem SlotAt.lt {w : World} {B p d : Nat} {s : Sl} (h : SlotAt w B p d s) : B ≤ p ∧ p < w.heap.size := World.ownsRow.lt h _ rfl
def sA : ByteArray := ⟨#[45, 97]⟩
def sB : ByteArray := ⟨#[45, 98]⟩
def sfn (nm : ByteArray) (i : Nat) : ByteArray := nm ++ (if i = 0 then sA else sB)
set_option maxHeartbeats 2000000 in
theorem sfile_calls (B p d : Nat) (s : Sl) (i : Nat) (hi : i < 2) (w : World) (h : SlotAt w B p d s) (hnm : s.nm.size ≤ 1000) :
  Calls Try.prog 71 #[.pointer (some ⟨p, 0, none⟩), .int .i64 (i : Nat)] w fun e w' => e = .returned (.string (sfn s.nm i)) ∧ Below w.heap.size w w' := by
 obtain ⟨-, c1, -⟩ := h.at
 clear h
 have hsum : ¬ 9223372036854775807 < s.nm.size + 2 := by omega
 have hi2 : i = 0 ∨ i = 1 := by omega
 obtain ⟨u, hu⟩ : ∃ u, u = w.alloc (.cells #[.string ⟨#[45, 97]⟩, .string ⟨#[45, 98]⟩] 9) := ⟨_, rfl⟩
 have hb : Below w.heap.size w u := by rw [hu]; exact below_alloc w _
 have n0 : u.cell? ⟨w.heap.size, 0, none⟩ = some (.string ⟨#[45, 97]⟩) := by rw [hu, cell_cells (World.alloc_heap_new w _)]; rfl
 have n1 : u.cell? ⟨w.heap.size, 1, none⟩ = some (.string ⟨#[45, 98]⟩) := by rw [hu, cell_cells (World.alloc_heap_new w _)]; rfl
 have cu := cell_later hb c1
 have HB := Lib.hid hb.drew
 subst hu
 clear hb
 rcases hi2 with rfl | rfl
 all_goals
  go_enter Try.func71, Try.ntmps71
  go_wp2_with fail
  refine region_m [(0, false), (1, false), (2, false), (3, false), (5, false), (4, true), (6, false), (7, true), (8, false), (9, false)] 10 (fun V => V.cell? ⟨p, 1, none⟩ = some (.string s.nm)) (by kernel_rfl) (by kernel_rfl) c1 ?_
  iterate 5
   refine m_take (v := ?_) rfl rfl ?_ ?_
   rotate_left
   ·
    intro W hW
    go_simp
    with_reducible rfl
   simp only [Act.put, List.setIfInBounds_toArray, List.set_cons_zero, List.set_cons_succ]
  refine m_loud rfl (fun K hK => ?_)
  have HK := Lib.hid hK
  clear hK
  go_simp
  refine HK.out _ _ cu ?_
  clear HK
  iterate 1
   refine m_take (v := ?_) rfl rfl ?_ ?_
   rotate_left
   ·
    intro W hW
    go_simp
    with_reducible rfl
   simp only [Act.put, List.setIfInBounds_toArray, List.set_cons_zero, List.set_cons_succ]
  refine m_loud rfl (fun K hK => ?_)
  have HK := Lib.hid hK
  clear hK
  go_simp
  refine HK.out _ _ cu ?_
  clear HK
  iterate 2
   refine m_take (v := ?_) rfl rfl ?_ ?_
   rotate_left
   ·
    intro W hW
    go_simp
    with_reducible rfl
   simp only [Act.put, List.setIfInBounds_toArray, List.set_cons_zero, List.set_cons_succ]
  refine m_done ?_
  simp only [List.drop_succ_cons, List.drop_zero]
  go_wp2_with fail
  try simp only [NP]
  go_wp2_with fail
  go_ret
  exact ⟨rfl, HB.out⟩
set_option maxHeartbeats 1000000 in
theorem sget_calls (B p d : Nat) (s : Sl) (w : World) (h : SlotAt w B p d s) :
  Calls Try.prog 23 #[.pointer (some ⟨p, 0, none⟩)] w fun e w' => e = .returned (.tuple #[.string s.val, .int .i64 (s.ver : Nat)]) ∧ Below w.heap.size w w' := by
 obtain ⟨-, -, c2, c3, -⟩ := h.at
 clear h
 go_enter Try.func23, Try.ntmps23
 go_wp2_with fail
 refine region_m [(0, false), (1, false), (2, false), (3, false), (4, false), (5, false), (6, false), (7, false), (8, false), (9, false)] 10 (fun V => V.cell? ⟨p, 2, none⟩ = some (.string s.val) ∧ V.cell? ⟨p, 3, none⟩ = some (.int .i64 (s.ver : Nat))) (by kernel_rfl) (by kernel_rfl) ⟨c2, c3⟩ ?_
 iterate 10
  refine m_take (v := ?_) rfl rfl ?_ ?_
  rotate_left
  ·
   intro W hW
   go_simp
   with_reducible rfl
  simp only [Act.put, List.setIfInBounds_toArray, List.set_cons_zero, List.set_cons_succ]
 refine m_done ?_
 simp only [List.drop_succ_cons, List.drop_zero]
 go_wp2_with fail
 try simp only [NP]
 go_wp2_with fail
 go_ret2
 exact ⟨rfl, (Below.refl _ _).drew⟩
def pP : ByteArray := ⟨#[45, 112]⟩
def pQ : ByteArray := ⟨#[45, 113]⟩
def tfn (nm : ByteArray) (i : Nat) : ByteArray := nm ++ (if i = 0 then pP else pQ)
set_option maxHeartbeats 2000000 in
theorem path_calls (T : Nat) (nm : ByteArray) (i : Nat) (hi : i < 2) (w : World) (c1 : w.cell? ⟨T, 1, none⟩ = some (.string nm)) (hnm : nm.size ≤ 1000) :
  Calls Try.prog 26 #[.pointer (some ⟨T, 0, none⟩), .int .i64 (i : Nat)] w fun e w' => e = .returned (.string (tfn nm i)) ∧ Below w.heap.size w w' := by
 have hsum : ¬ 9223372036854775807 < nm.size + 2 := by omega
 have hi2 : i = 0 ∨ i = 1 := by omega
 obtain ⟨u, hu⟩ : ∃ u, u = w.alloc (.cells #[.string ⟨#[45, 112]⟩, .string ⟨#[45, 113]⟩] 9) := ⟨_, rfl⟩
 have hb : Below w.heap.size w u := by rw [hu]; exact below_alloc w _
 have n0 : u.cell? ⟨w.heap.size, 0, none⟩ = some (.string ⟨#[45, 112]⟩) := by rw [hu, cell_cells (World.alloc_heap_new w _)]; rfl
 have n1 : u.cell? ⟨w.heap.size, 1, none⟩ = some (.string ⟨#[45, 113]⟩) := by rw [hu, cell_cells (World.alloc_heap_new w _)]; rfl
 have cu := cell_later hb c1
 have HB := Lib.hid hb.drew
 subst hu
 clear hb
 rcases hi2 with rfl | rfl
 all_goals
  go_enter Try.func26, Try.ntmps26
  go_wp2_with fail
  refine region_m [(0, false), (1, false), (2, false), (3, false), (5, false), (4, true), (6, false), (7, true), (8, false), (9, false)] 10 (fun V => V.cell? ⟨T, 1, none⟩ = some (.string nm)) (by kernel_rfl) (by kernel_rfl) c1 ?_
  iterate 5
   refine m_take (v := ?_) rfl rfl ?_ ?_
   rotate_left
   ·
    intro W hW
    go_simp
    with_reducible rfl
   simp only [Act.put, List.setIfInBounds_toArray, List.set_cons_zero, List.set_cons_succ]
  refine m_loud rfl (fun K hK => ?_)
  have HK := Lib.hid hK
  clear hK
  go_simp
  refine HK.out _ _ cu ?_
  clear HK
  iterate 1
   refine m_take (v := ?_) rfl rfl ?_ ?_
   rotate_left
   ·
    intro W hW
    go_simp
    with_reducible rfl
   simp only [Act.put, List.setIfInBounds_toArray, List.set_cons_zero, List.set_cons_succ]
  refine m_loud rfl (fun K hK => ?_)
  have HK := Lib.hid hK
  clear hK
  go_simp
  refine HK.out _ _ cu ?_
  clear HK
  iterate 2
   refine m_take (v := ?_) rfl rfl ?_ ?_
   rotate_left
   ·
    intro W hW
    go_simp
    with_reducible rfl
   simp only [Act.put, List.setIfInBounds_toArray, List.set_cons_zero, List.set_cons_succ]
  refine m_done ?_
  simp only [List.drop_succ_cons, List.drop_zero]
  go_wp2_with fail
  try simp only [NP]
  go_wp2_with fail
  go_ret
  exact ⟨rfl, HB.out⟩
end Go.Proofs.Ytmafnjidhjabgaa
namespace Go.Proofs.Ytmafnjidhjabgaa
open Go.RowKit Go.Shelf
set_option linter.unusedVariables false
set_option linter.unusedSectionVars false
set_option linter.unusedSimpArgs false
set_option maxRecDepth 100000
variable [Inhabited Pgs]
set_option maxHeartbeats 4000000 in
theorem sread_none (B p d Bd : Nat) (s : Sl) (D : Dk) (i : Nat) (hi : i < 2) (w : World) (h : SlotAt w B p d s) (hd : DiskAt w Bd d D) (hnm : s.nm.size ≤ 1000) (hl : (fileOf D.now (sfn s.nm i)).length ≤ 1099511627776) (hn : (Fr.FrM.next (fileOf D.now (sfn s.nm i)) 0).2.2 ≠ 0) :
  Calls Try.prog 46 #[.pointer (some ⟨p, 0, none⟩), .int .i64 (i : Nat)] w fun e w' => e = .returned (.tuple #[.string ⟨#[]⟩, .int .i64 0]) ∧ Below w.heap.size w w' := by
 obtain ⟨c0, -⟩ := h.at
 have HS := Lib.hid h
 have HD := Lib.hid hd
 have HN := Lib.hid hn
 have HX := Lib.hid (sfile_calls B p d s i hi w.drew (h.below (Below.refl _ _).drew) hnm)
 generalize sfn s.nm i = nm at *
 clear h hd hn hi
 go_enter Try.func46, Try.ntmps46
 go_wp2_with fail
 refine region_m [(0, false), (1, false), (2, false), (3, false), (4, false), (5, false), (6, true), (7, true), (8, false), (9, false), (10, false), (11, false), (12, false)] 13 (fun V => V.cell? ⟨p, 0, none⟩ = some (.pointer (some ⟨d, 0, none⟩))) (by kernel_rfl) (by kernel_rfl) c0 ?_
 iterate 6
  refine m_take (v := ?_) rfl rfl ?_ ?_
  rotate_left
  ·
   intro W hW
   go_simp
   with_reducible rfl
  simp only [Act.put, List.setIfInBounds_toArray, List.set_cons_zero, List.set_cons_succ]
 refine m_loud rfl (fun K hK => ?_)
 have HK := Lib.hid hK
 clear hK
 go_simp
 refine HX.out.mono ?_
 rintro e w1 ⟨rfl, hb1⟩
 have hb1 : Below w.heap.size w w1 := ((Below.refl w.heap.size w).drew).trans hb1
 have HB1 := Lib.hid hb1
 refine HK.out _ _ (cell_later hb1 c0) ?_
 clear HK
 refine m_loud rfl (fun K hK => ?_)
 have HK := Lib.hid hK
 clear hK
 go_simp
 refine (dread_calls d Bd D nm w1 (HD.out.below HB1.out) hl).mono ?_
 rintro e w2 ⟨v, rfl, hm2, hb2⟩
 have hb2 := below_go HB1.out hb2
 have HB2 := Lib.hid hb2
 have HM2 := Lib.hid hm2
 refine HK.out _ _ (cell_later hb2 c0) ?_
 clear HK
 clear hb1 hb2 hm2 c0
 iterate 5
  refine m_take (v := ?_) rfl rfl ?_ ?_
  rotate_left
  ·
   intro W hW
   go_simp
   with_reducible rfl
  simp only [Act.put, List.setIfInBounds_toArray, List.set_cons_zero, List.set_cons_succ]
 refine m_done ?_
 simp only [List.drop_succ_cons, List.drop_zero]
 go_wp2_with fail
 try simp only [NP]
 obtain ⟨cd, hcd⟩ : ∃ cd, cd = (Fr.FrM.next (fileOf D.now nm) 0).2.2 := ⟨_, rfl⟩
 have hne : (cd == 0) = false := by rw [beq_eq_false_iff_ne, hcd]; exact HN.out
 have HCD := Lib.hid hcd
 clear hcd
 go_wp2_with (go_at_call 49; (refine (Fr.next_calls v (fileOf D.now nm) 0 w2 HM2.out.bytes ⟨by omega, by omega⟩ (by omega)).mono ?_; rintro e w3 ⟨r, n, c, rfl, ⟨hr, hn3, hc3⟩, hb3⟩; obtain rfl : c = cd := hc3.trans HCD.out.symm; have HB3 := Lib.hid (below_go HB2.out hb3); clear hr hn3 hc3 hb3))
 go_ret2
 exact ⟨rfl, HB3.out⟩
def sNew (nm : ByteArray) : Sl := ⟨nm, ⟨#[]⟩, 0, -1, false⟩
def lowName (nm : ByteArray) : Prop := ∀ k, k < nm.data.toList.length → 97 ≤ bt nm.data.toList k ∧ bt nm.data.toList k ≤ 122
theorem scope_w {P : Program} {c : Code} {Q : Exit → Act → World → Prop} {a : Act} {w : World} (h : c.wpIn Fence.wide 0 P (Exit.noGoto Q) a w) : (Code.scope c).wpIn Fence.wide 0 P Q a w := wpIn_wide.2 (wp_scope_straight (wpIn_wide.1 h))
theorem label_w {P : Program} {l : Nat} {Q : Exit → Act → World → Prop} {a : Act} {w : World} (h : Q .normal a w) : (Code.label l).wpIn Fence.wide 0 P Q a w := wpIn_wide.2 (wp_label h)
set_option maxHeartbeats 4000000 in
theorem sopen_new (d Bd : Nat) (D : Dk) (nm : ByteArray) (w : World) (hd : DiskAt w Bd d D) (h1 : 1 ≤ nm.size) (h2 : nm.size ≤ 12) (hlow : lowName nm)
  (hl : ∀ i, i < 2 → (fileOf D.now (sfn nm i)).length ≤ 1099511627776) (hn : ∀ i, i < 2 → (Fr.FrM.next (fileOf D.now (sfn nm i)) 0).2.2 ≠ 0) :
  Calls Try.prog 22 #[.pointer (some ⟨d, 0, none⟩), .string nm] w fun e w' => ∃ p, e = .returned (.tuple #[.pointer (some ⟨p, 0, none⟩), .int .i64 0]) ∧ SlotAt w' w.heap.size p d (sNew nm) ∧ Below w.heap.size w w' := by
 have HD := Lib.hid hd
 have HL := Lib.hid hl
 have HN := Lib.hid hn
 have d1 : decide ((nm.size : Int) < 1) = false := decide_eq_false (by omega)
 have d2 : decide ((12 : Int) < (nm.size : Int)) = false := decide_eq_false (by omega)
 have HLOW := Lib.hid hlow
 obtain ⟨w1, cap, hcv, hb1, hby⟩ := conv_str nm w (by omega)
 have hlen : nm.data.toList.length = nm.size := by rw [Array.length_toList]; rfl
 have HB1 := Lib.hid hb1
 have HBY := Lib.hid hby
 have HLEN := Lib.hid hlen
 clear hd hl hn hlow hb1 hby hlen
 refine (callsIn_wide (n := 0)).1 ?_
 refine callsIn_of_wp Try.func22 rfl trivial ?_
 simp only [Try.ntmps22, List.size_toArray, List.length_cons, List.length_nil, Nat.reduceAdd, Nat.reduceSub, Array.replicate_succ, Array.replicate_zero, List.push_toArray, List.append_toArray, List.nil_append, List.cons_append]
 gi_wp2_with fail
 refine scope_w ?_
 gi_wp2_with fail
 gi_loopw [25] (fun iv wr => ∃ k : Nat, k ≤ nm.size ∧ iv = .int .i64 k ∧ wr = w1) (fun iv _ => nm.size - (intOf iv).toNat)
 case atStart => exact ⟨0, by omega, rfl, rfl⟩
 case round =>
  obtain ⟨k, hk, rfl, rfl⟩ := hrel
  by_cases hlt : k < nm.size
  ·
   have hlt' : k < nm.data.toList.length := by rw [HLEN.out]; exact hlt
   obtain ⟨a, c2, he, hle, hcap, hc⟩ := HBY.out
   simp only [Value.slice.injEq] at he
   obtain ⟨rfl, -, rfl⟩ := he
   rcases hc with hc | ⟨b, off, hab, hc⟩
   · omega
   simp only [Option.some.injEq, Addr.mk.injEq, and_true] at hab
   obtain ⟨rfl, rfl⟩ := hab
   have c0 := hc k hlt'
   rw [Nat.zero_add] at c0
   obtain ⟨l1, l2⟩ := HLOW.out k hlt'
   have d3 : decide (bt nm.data.toList k < 97) = false := decide_eq_false (by omega)
   have d4 : decide (122 < bt nm.data.toList k) = false := decide_eq_false (by omega)
   generalize bt nm.data.toList k = c at *
   clear hc hle hcap
   gi_wp2_with fail
   exact ⟨⟨k + 1, by omega, by go_num, by trivial⟩, by simp [intOf]; omega⟩
  ·
   obtain rfl : k = nm.size := by omega
   gi_wp2_with fail
   have hs := World.ownsRow_lit (base := w.heap.size) (size := 6) (e := 103) wr #[.pointer (some ⟨d, 0, none⟩), .string nm, .string ⟨#[]⟩, .int .i64 0, .int .i64 (-1), .bool false] 1 HB1.out.size (by unfold maxLen; omega) rfl
   have hbx := below_go HB1.out (below_alloc wr (.cells #[.pointer (some ⟨d, 0, none⟩), .string nm, .string ⟨#[]⟩, .int .i64 0, .int .i64 (-1), .bool false] 103))
   have HSX := Lib.hid (show SlotAt (wr.alloc (.cells #[.pointer (some ⟨d, 0, none⟩), .string nm, .string ⟨#[]⟩, .int .i64 0, .int .i64 (-1), .bool false] 103)) w.heap.size wr.heap.size d (sNew nm) from by unfold SlotAt; simpa [Sl.cells, sNew] using hs)
   have HBX := Lib.hid hbx
   clear hs hbx hcv HBY HLOW HLEN HB1
   generalize wr.alloc (.cells #[.pointer (some ⟨d, 0, none⟩), .string nm, .string ⟨#[]⟩, .int .i64 0, .int .i64 (-1), .bool false] 103) = X at *
   refine label_w ?_
   gi_wp2_with fail
   generalize wr.heap.size = P at *
   gi_loopw [40] (fun iv V => ∃ k : Nat, k ≤ 2 ∧ iv = .int .i64 k ∧ SlotAt V w.heap.size P d (sNew nm) ∧ Below w.heap.size w V) (fun iv _ => 2 - (intOf iv).toNat)
   case atStart => exact ⟨0, by omega, rfl, HSX.out, HBX.out⟩
   case round =>
    clear HSX HBX
    obtain ⟨k, hk, rfl, hs, hb⟩ := hrel
    have HS := Lib.hid hs
    have HB := Lib.hid hb
    have c3 : wr.cell? ⟨P, 3, none⟩ = some (.int .i64 0) := hs.at.2.2.2.1
    clear hs hb
    by_cases hk2 : k < 2
    ·
     have HR := Lib.hid (sread_none w.heap.size P d Bd (sNew nm) D k hk2 wr HS.out (HD.out.below HB.out) (show nm.size ≤ 1000 by omega) (HL.out k hk2) (HN.out k hk2))
     gi_wp2_with (gi_at_call 46; refine (callsIn_wide.2 HR.out).mono ?_; rintro e w4 ⟨rfl, hb4⟩; have c3 := cell_later hb4 c3; have HB4 := Lib.hid hb4; clear hb4)
     exact ⟨⟨k + 1, by omega, by go_num, HS.out.below HB4.out, below_go HB.out HB4.out⟩, by simp [intOf]; omega⟩
    ·
     obtain rfl : k = 2 := by omega
     gi_wp2_with fail
     rw [Exit.noGoto_ret]
     go_ret2
     exact ⟨P, rfl, HS.out, HB.out⟩
end Go.Proofs.Ytmafnjidhjabgaa
namespace Go.Proofs.Ytmafnjidhjabgaa
open Go.RowKit Go.Shelf
set_option linter.unusedVariables false
set_option linter.unusedSectionVars false
set_option linter.unusedSimpArgs false
set_option maxRecDepth 100000
variable [Inhabited Pgs]
theorem Row.lt {w : World} {F : Nat → Prop} {T : TypeId} {v : Value} {n : Nat} {cs : List Value} (h : Row w F T v n cs) : Row w (fun k => F k ∧ k < w.heap.size) T v n cs := ⟨h.rd, fun a k c e => ⟨⟨(h.ty a k c e).1, (h.ty a k c e).2.lt⟩, (h.ty a k c e).2⟩⟩
theorem NdAt.lt {w : World} {F : Nat → Prop} {p : Nat} {kv vv cv : Value} {es : List KV} {ps : List Nat} (h : NdAt w F p kv vv cv es ps) : NdAt w (fun k => F k ∧ k < w.heap.size) p kv vv cv es ps := ⟨⟨h.inF, h.ty.lt⟩, h.c0, h.c1, h.c2, h.c3, h.fz, h.ty, h.rk.lt, h.rv.lt, h.rc.lt⟩
theorem TreeAt.lt {w : World} {F : Nat → Prop} : ∀ {h : Nat} {t : BT h} {p : Nat}, TreeAt w F h t p → TreeAt w (fun k => F k ∧ k < w.heap.size) h t p
 | 0, t, p, h => by
  obtain ⟨kv, vv, cv, hn⟩ := h
  exact ⟨kv, vv, cv, hn.lt⟩
 | h + 1, t, p, ht => by
  obtain ⟨kv, vv, cv, ps, hn, hl, hk⟩ := ht
  exact ⟨kv, vv, cv, ps, hn.lt, hl, fun i c q hc hq => TreeAt.lt (hk i c q hc hq)⟩
def DelPost (w : World) (F : Nat → Prop) (h : Nat) (t' : BT h) (e : Ending) (w' : World) : Prop := (∃ q, e = .returned (ptrV q) ∧ TreeAt w' (fun j => F j ∨ w.heap.size ≤ j) h t' q) ∧ Below w.heap.size w w'
def DelSpec (h : Nat) : Prop := ∀ (k : Str) (lo : Nat) (t : BT h) (F : Nat → Prop) (p : Nat) (w : World), (∀ j, F j → j < w.heap.size) → TreeAt w F h t p → BT.Ok h lo t → 1 ≤ lo → Srt (flat h t) → (∃ v, (k, v) ∈ flat h t) → Calls Try.prog 36 #[ptrV p, .string (bstr k)] w fun e w' => DelPost w F h (del h t k) e w'
theorem del_inner_hit {h : Nat} {t : BT (h + 1)} {k : Str} {c : BT h} (hh : hit t.1 k = true) (hc : t.2[pos t.1 k]? = some c) : del (h + 1) t k = fillN (t.1.set (pos t.1 k) (lastE h c)) (t.2.set (pos t.1 k) (del h c (lastE h c).1)) (pos t.1 k) := by
 conv => lhs; unfold del
 simp only [hc]
 exact if_pos hh
theorem del_inner_miss {h : Nat} {t : BT (h + 1)} {k : Str} {c : BT h} (hh : hit t.1 k = false) (hc : t.2[pos t.1 k]? = some c) : del (h + 1) t k = fillN t.1 (t.2.set (pos t.1 k) (del h c k)) (pos t.1 k) := by
 conv => lhs; unfold del
 simp only [hc, hh]
 rfl
theorem leaf_hit {t : List KV} {k : Str} (hs : Srt t) (hm : ∃ v, (k, v) ∈ t) : hit t k = true := by
 obtain ⟨v, hv⟩ := hm
 cases h : hit t k
 ·
  exfalso
  have h1 := hit_no hs h
  rw [split_at t (pos t k)] at hv
  rcases List.mem_append.1 hv with hv | hv
  · exact slt_irr _ (pos_lt _ hv)
  · exact slt_irr _ (h1 _ hv)
 · rfl
set_option maxHeartbeats 8000000 in
theorem del_leaf_calls : DelSpec 0 := by
 intro k lo t F p w hF ht ho hlo hs hm
 obtain ⟨kv, vv, cv, ps, hn, hks⟩ := ht.top
 obtain rfl : ps = [] := hks
 have hes := ho.es
 have hh : hit t.es k = true := leaf_hit (t := t) hs hm
 have HOWN := Lib.hid (own_calls F p kv vv cv t.es [] w hn (by omega) (by simp))
 have HSP := Lib.hid (Sp.of_srt (k := k) (es_srt ho hs))
 obtain ⟨v0, hpl, hg⟩ := hit_yes hh
 obtain ⟨m, hm2⟩ : ∃ m, t.es.length = m + 1 := ⟨t.es.length - 1, by omega⟩
 have HM := Lib.hid hm2
 have HHT := Lib.hid hh
 have hle : m + 1 ≤ 7 := by omega
 have hpm : pos t.es k ≤ m := by omega
 have hdel : del 0 t k = (t.es.take (pos t.es k) ++ t.es.drop (pos t.es k + 1) : List KV) := rfl
 obtain ⟨R, hR⟩ : ∃ R, R = del 0 t k := ⟨_, rfl⟩
 rw [← hR]
 have HR := Lib.hid (hR.trans hdel)
 clear ht ho hs hn hes hm hh hg hm2 hdel hR hpl
 unfold ptrV
 go_enter Try.func36, Try.ntmps36
 go_upto_region 3 with (first
  | (
   go_at_call 54; refine HOWN.out.mono ?_; rintro e w1 ⟨q, kv1, vv1, cv1, rfl, hwk, hb1⟩; obtain ⟨-, c0, c1, c2, fz⟩ := And.intro trivial (And.intro hwk.cells.1 (And.intro hwk.cells.2.1 (And.intro hwk.cells.2.2.1 hwk.cells.2.2.2.2)))
   obtain ⟨ka, kc, hkv⟩ := own_slice hwk.k; obtain ⟨va, vc, hvv⟩ := own_slice hwk.v; obtain ⟨ca, cc, hcv⟩ := own_slice hwk.c; rw [List.length_map] at hkv hvv hcv; subst hkv hvv hcv; have HW := Lib.hid hwk; have HB1 := Lib.hid hb1; clear hwk hb1; unfold ptrV)
  | (go_at_call 55; refine (bs_calls _ t.es _ _ (by have := Rd.of_own HW.out.k; rw [List.length_map] at this; exact this) HSP.out (by have := HM.out; omega)).mono ?_; rintro e w2 ⟨rfl, hw2⟩; obtain rfl : w1 = w2 := hw2.symm))
 rw [HHT.out]
 generalize pos t.es k = P at *
 have hk8 := HW.out.k
 have hv8 := HW.out.v
 rw [List.length_map, HM.out] at hk8 hv8
 obtain ⟨kg, rfl, k1, k2, k3, k4, k5⟩ := own_some hk8 (by omega)
 obtain ⟨vg, rfl, v1, v2, v3, v4, v5⟩ := own_some hv8 (by omega)
 rw [HM.out] at c0 c1
 simp only [List.length_nil] at c2
 clear hk8 hv8 k4 k5 v4 v5
 have HD1 := Lib.hid ((show Wk w1 w.heap.size q (.slice (some ⟨kg, 0, none⟩) (m + 1) kc) (.slice (some ⟨vg, 0, none⟩) (m + 1) vc) _ _ _ _ by rw [← HM.out]; exact HW.out).delK (k := 1) (keys_one t.es) (by rw [List.length_map]; exact HM.out) P ((P : Int) + 1) hpm (by omega) (by omega) (by omega))
 go_upto_region 5 with (go_at_call 60; (with_reducible refine HD1.out.mono ?_); rintro e w12 ⟨rfl, hik⟩; have hc0 := hik.c0; have hfz0 := hik.fz; have HI := Lib.hid hik; clear hik)
 have hwk := HI.out.wk
 have hch := (Chn.refl w1 q _ _ _).step HI.out.only HI.out.new
 generalize w12.setCell ⟨q, 0, none⟩ (.slice (some ⟨kg, 0, none⟩) m kc) = Y2 at *
 obtain ⟨-, f1, f2, -, -⟩ := hwk.cells
 have HW2 := Lib.hid hwk
 have HC2 := Lib.hid hch
 clear hwk hch hc0 hfz0 HI c0 c1 c2 fz HD1
 have HD2 := Lib.hid (HW2.out.delV (k := 1) (vals_one t.es) (by rw [List.length_map]; exact HM.out) P ((P : Int) + 1) hpm (by omega) (by omega) (by omega))
 go_wp2_with (go_at_call 60; (with_reducible refine HD2.out.mono ?_); rintro e w13 ⟨rfl, hik⟩; have hc0 := hik.c0; have hfz0 := hik.fz; have HI := Lib.hid hik; clear hik)
 have hwk := HI.out.wk
 have hch := HC2.out.step HI.out.only HI.out.new
 generalize w13.setCell ⟨q, 1, none⟩ (.slice (some ⟨vg, 0, none⟩) m vc) = Y at *
 go_ret
 have hb : Below w.heap.size w Y := HB1.out.trans (hch.only.below HB1.out.size (fun j hj hS => by
  have := (HW.out.foot (show wkB q (.slice (some ⟨kg, 0, none⟩) t.es.length kc) (.slice (some ⟨vg, 0, none⟩) t.es.length vc) _ j by rw [HM.out]; exact hS)).1
  omega))
 refine ⟨⟨q, rfl, ?_⟩, hb⟩
 rw [HR.out]
 refine TreeAt.mk (ps := []) (Wk.nd (B := w.heap.size) (ps := []) ?_ (fun x hx => .inr (hwk.foot hx).1)) rfl
 show Wk Y w.heap.size q _ _ _ ((t.es.take P ++ t.es.drop (P + 1)).map _) ((t.es.take P ++ t.es.drop (P + 1)).map _) _
 rw [List.map_append, List.map_append, List.map_take, List.map_take, List.map_drop, List.map_drop]
 exact hwk
theorem kid_mem {h lo : Nat} {t : BT (h + 1)} {k : Str} {c : BT h} (o : BT.Ok (h + 1) lo t) (hs : Srt (flat (h + 1) t)) (hh : hit t.1 k = false) (hc : t.2[pos t.1 k]? = some c) (hm : ∃ v, (k, v) ∈ flat (h + 1) t) : ∃ v, (k, v) ∈ flat h c := by
 obtain ⟨A, B, K1, K2, c', p⟩ := parts_of o k
 have := p.kid
 rw [hc] at this
 cases this
 obtain ⟨v, hv⟩ := hm
 rw [p.flat] at hv
 rcases List.mem_append.1 hv with hv | hv
 ·
  rcases List.mem_append.1 hv with hv | hv
  · exact absurd (p.lo hs _ hv) (slt_irr _)
  · exact ⟨v, hv⟩
 · exact absurd (p.hi o hs hh _ hv) (slt_irr _)
theorem last_mem {h : Nat} {c : BT h} (o : BT.Ok h 3 c) : ∃ v, ((lastE h c).1, v) ∈ flat h c := by
 obtain ⟨X, hX⟩ := lastE_spec h 3 c o (by omega)
 exact ⟨(lastE h c).2, by rw [hX]; simp⟩
theorem fillIn_of {w w1 wc W : World} {h lo P q qd : Nat} {t : BT (h + 1)} {d : BT h} {kv vv cv : Value} {F : Nat → Prop} {ps : List Nat} {es' : List KV}
  (hF : ∀ j, F j → j < w.heap.size) (ho : BT.Ok (h + 1) lo t) (hlo : 1 ≤ lo) (hP : P < t.2.length) (hes : es'.length = t.1.length) (hks : Kids (TreeAt w F h) t.2 ps)
  (hft : ∀ j, wkB q kv vv cv j → w.heap.size ≤ j ∧ j < w1.heap.size) (h1 : w1.heap.size ≤ wc.heap.size)
  (hw : Wk W w.heap.size q kv vv cv (es'.map fun e => strV e.1) (es'.map fun e => strV e.2) ((ps.set P qd).map ptrV)) (hb : Below w.heap.size w W) (htd : TreeAt W (fun j => F j ∨ wc.heap.size ≤ j) h d qd) (hd : BT.Ok h 2 d) :
  FillIn W w.heap.size q kv vv cv (fun k => (F k ∨ wc.heap.size ≤ k) ∧ k < W.heap.size) h es' (t.2.set P d) (ps.set P qd) P := by
 have o1 := ho.1
 have o2 := ho.2.1
 have o3 := ho.2.2.1
 refine ⟨hw, fun k hk _ hS => ?_, ?_, ?_, ?_, ?_, ?_, ?_, ?_⟩
 ·
  have hx := hft k hS
  rcases hk.1 with h2 | h2
  · have := hF k h2; omega
  · omega
 ·
  refine Kids.set (Kids.mono (fun k hk => ?_) (Kids.fr (Fr.of_below hb) hks)) P htd.lt
  exact ⟨.inl hk, Nat.lt_of_lt_of_le (hF k hk) hb.size⟩
 · rw [List.length_set]; omega
 · omega
 · omega
 · rw [List.length_set]; exact hP
 ·
  intro j c hj hc
  rw [List.getElem?_set_ne (by omega)] at hc
  exact kids_ok ho hc
 ·
  intro c hc
  rw [List.getElem?_set_self hP] at hc
  cases hc
  exact hd
theorem del_out {w wc W w' : World} {h q : Nat} {kv vv cv : Value} {F : Nat → Prop} {r : List KV × List (BT h)} {e : Ending} (hb : Below w.heap.size w W) (hc : w.heap.size ≤ wc.heap.size) (hft : ∀ j, wkB q kv vv cv j → w.heap.size ≤ j) (o : FillOut W w.heap.size q kv vv cv (fun k => (F k ∨ wc.heap.size ≤ k) ∧ k < W.heap.size) h r e w') :
  (∃ v, e = .returned v) ∧ TreeAt w' (fun j => F j ∨ w.heap.size ≤ j) (h + 1) (show BT (h + 1) from r) q ∧ Below w.heap.size w w' := by
 obtain ⟨he, kv', vv', cv', ps', hw, hk, ho⟩ := o
 refine ⟨he, TreeAt.mk (ps := ps') (hw.nd (fun j hj => .inr (hw.foot hj).1)) ?_, hb.trans (ho.below hb.size (fun j hj hS => by have := hft j hS; omega))⟩
 refine Kids.mono (fun k hk => ?_) hk
 rcases hk with hk | hk
 · exact hk.1.imp id (fun h => by omega)
 · exact .inr (Nat.le_trans hb.size hk)
set_option maxHeartbeats 8000000 in
theorem del_miss_calls (h : Nat) (ih : DelSpec h) (k : Str) (lo : Nat) (t : BT (h + 1)) (F : Nat → Prop) (p : Nat) (w : World) (hF : ∀ j, F j → j < w.heap.size) (ht : TreeAt w F (h + 1) t p) (ho : BT.Ok (h + 1) lo t) (hlo : 1 ≤ lo) (hs : Srt (flat (h + 1) t)) (hm : ∃ v, (k, v) ∈ flat (h + 1) t) (hh : hit t.es k = false) :
  Calls Try.prog 36 #[ptrV p, .string (bstr k)] w fun e w' => DelPost w F (h + 1) (del (h + 1) t k) e w' := by
 have HIH := Lib.hid ih
 clear ih
 obtain ⟨kv, vv, cv, ps, hn, hks⟩ := ht.top
 have hes := ho.es
 have hlen := hks.len ho
 have HOWN := Lib.hid (own_calls F p kv vv cv t.es ps w hn (by omega) (by omega))
 have HSP := Lib.hid (Sp.of_srt (k := k) (es_srt ho hs))
 obtain ⟨C, Q, hC, hQ, htk, hok, hsk, hkl⟩ := kid_step hks ho hs k
 have HC := Lib.hid (And.intro hC (And.intro hQ (And.intro htk (And.intro hok hsk))))
 have HT := Lib.hid (And.intro hF (And.intro ho (And.intro hs (And.intro hks hlo))))
 have HHT := Lib.hid hh
 have HMM := Lib.hid hm
 have hle : t.es.length ≤ 7 := hes.2
 have hpl := pos_le t.es k
 have hl8 := hlen.1
 have HKL := Lib.hid hkl
 have hpp : pos t.es k < ps.length := by omega
 have hpos : 0 < ps.length := by omega
 have hne : ((ps.length : Int) == 0) = false := by rw [beq_eq_false_iff_ne]; omega
 obtain ⟨R, hR⟩ : ∃ R, R = del (h + 1) t k := ⟨_, rfl⟩
 rw [← hR]
 have HR := Lib.hid hR
 clear ht ho hs hks hn hes hm hh hR hC hQ htk hok hsk hkl hlen hF hlo
 unfold ptrV
 go_enter Try.func36, Try.ntmps36
 go_upto_region 7 with (first
  | (
    go_at_call 54; refine HOWN.out.mono ?_; rintro e w1 ⟨q, kv1, vv1, cv1, rfl, hwk, hb1⟩; obtain ⟨-, c0, c1, c2, fz⟩ := And.intro trivial (And.intro hwk.cells.1 (And.intro hwk.cells.2.1 (And.intro hwk.cells.2.2.1 hwk.cells.2.2.2.2)))
    obtain ⟨ka, kc, hkv⟩ := own_slice hwk.k; obtain ⟨va, vc, hvv⟩ := own_slice hwk.v; obtain ⟨ca, cc, hcv⟩ := own_slice hwk.c; rw [List.length_map] at hkv hvv hcv; subst hkv hvv hcv; have HW := Lib.hid hwk; have HB1 := Lib.hid hb1; clear hwk hb1; unfold ptrV)
  | (go_at_call 55; refine (bs_calls _ t.es _ _ (by have := Rd.of_own HW.out.k; rw [List.length_map] at this; exact this) HSP.out (by omega)).mono ?_; rintro e w2 ⟨rfl, hw2⟩; obtain rfl : w1 = w2 := hw2.symm))
 rw [HHT.out]
 obtain ⟨P, hP⟩ : ∃ P, P = pos t.es k := ⟨_, rfl⟩
 rw [← hP] at hpl hpp ⊢
 have HP := Lib.hid hP
 clear hP
 have hc8 := HW.out.c
 rw [List.length_map] at hc8
 obtain ⟨cg, rfl, g1, g2, g3, g4, g5⟩ := own_some hc8 hpos
 have hcell := g4 P _ (ptrs_get (by rw [HP.out]; exact HC.out.2.1))
 have hfr := g5 P
 clear hc8 g4 g5
 have HI := Lib.hid (HIH.out k 3 C F Q w1.drew (fun j hj => Nat.lt_of_lt_of_le (HT.out.1 j hj) HB1.out.size) ((HC.out.2.2.1.fr (Fr.of_below HB1.out)).fr (Fr.of_below (Below.refl _ _).drew)) HC.out.2.2.2.1 (by omega) HC.out.2.2.2.2 (kid_mem HT.out.2.1 HT.out.2.2.1 HHT.out HC.out.1 HMM.out))
 go_upto_region 11 with fail
 refine region_m [(0, false), (1, false), (2, false), (3, false), (4, false), (5, false), (6, false), (7, false), (8, false), (9, false), (10, false), (11, false), (12, false), (13, true)] 14 (fun V => V.cell? ⟨q, 2, none⟩ = some (.slice (some ⟨cg, 0, none⟩) ps.length cc) ∧ V.cell? ⟨cg, P, none⟩ = some (.pointer (some ⟨Q, 0, none⟩))) (by kernel_rfl) (by kernel_rfl) ⟨c2, hcell⟩ ?_
 iterate 13
  refine m_take (v := ?_) rfl rfl ?_ ?_
  rotate_left
  ·
   intro W hW
   go_simp
   with_reducible rfl
  simp only [Act.put, List.setIfInBounds_toArray, List.set_cons_zero, List.set_cons_succ]
 refine m_loud rfl (fun K hK => ?_)
 have HK := Lib.hid hK
 clear hK
 go_simp
 refine HI.out.mono ?_
 rintro e w2 ⟨⟨qd, rfl, htd⟩, hb2⟩
 have hb2 : Below w1.heap.size w1 w2 := ((Below.refl w1.heap.size w1).drew).trans hb2
 have hc22 := cell_later hb2 c2
 have hcl2 := cell_later hb2 hcell
 have hfr2 := frozen_later hb2 hcell hfr
 have HTD := Lib.hid (show TreeAt w2 (fun j => F j ∨ w1.heap.size ≤ j) h (del h C k) qd from htd)
 have HB2 := Lib.hid hb2
 refine HK.out _ _ ⟨hc22, hcl2⟩ ?_
 clear HK
 clear hb2 htd c0 c1 c2 fz hcell hfr
 unfold ptrV
 refine m_done ?_
 simp only [List.drop_succ_cons, List.drop_zero]
 go_upto_region 12 with fail
 simp only [NP]
 go_upto_region 12 with fail
 obtain ⟨hw3, ho3⟩ := (HW.out.below HB2.out).putC P (ptrV qd)
 have hbx : Below w.heap.size w (w2.setCell ⟨cg, P, none⟩ (ptrV qd)) := (HB1.out.trans (HB2.out.mono HB1.out.size)).trans (ho3.below (Nat.le_trans HB1.out.size HB2.out.size) (fun j hj hS => by have := (HW.out.foot hS).1; omega))
 have hfr3 : Fr (fun j => F j ∨ w1.heap.size ≤ j) w2 (w2.setCell ⟨cg, P, none⟩ (ptrV qd)) := Fr.of_only ho3 (fun x hx _ hS => by
  have h1 := HW.out.foot hS
  rcases hx with hx | hx
  · have := HT.out.1 x hx; omega
  · omega)
 have htd3 := HTD.out.fr hfr3
 rw [← List.map_set] at hw3
 have hfi := fillIn_of (w1 := w1) (wc := w1) (lo := lo) HT.out.1 HT.out.2.1 HT.out.2.2.2.2 (by rw [HP.out]; exact (List.getElem?_eq_some_iff.1 HC.out.1).1) (show t.1.length = t.1.length from rfl) HT.out.2.2.2.1 (fun j hj => HW.out.foot hj) (Nat.le_refl _) hw3 hbx htd3 (del_spec h 3 C k HC.out.2.2.2.1 (by omega) HC.out.2.2.2.2 (kid_mem HT.out.2.1 HT.out.2.2.1 HHT.out HC.out.1 HMM.out)).2
 have HFC := Lib.hid (fill_calls w.heap.size q P _ _ _ _ h _ _ _ _ hfi (fun k hk => hk.2))
 have HBX := Lib.hid hbx
 unfold ptrV at HFC HBX
 clear hw3 ho3 hbx hfr3 htd3 hfi hc22 hcl2 hfr2
 go_wp2_with (go_at_call 62; (with_reducible refine HFC.out.mono ?_); rintro e w4 hfo; have HFO := Lib.hid (del_out HBX.out HB1.out.size (fun j hj => (HW.out.foot hj).1) hfo); obtain ⟨⟨v, rfl⟩, -⟩ := hfo)
 go_ret
 refine ⟨⟨q, rfl, ?_⟩, HFO.out.2.2⟩
 rw [HR.out, del_inner_miss HHT.out HC.out.1, show pos t.1 k = P from HP.out.symm]
 exact HFO.out.2.1
set_option maxHeartbeats 8000000 in
theorem del_hit_calls (h : Nat) (ih : DelSpec h) (k : Str) (lo : Nat) (t : BT (h + 1)) (F : Nat → Prop) (p : Nat) (w : World) (hF : ∀ j, F j → j < w.heap.size) (ht : TreeAt w F (h + 1) t p) (ho : BT.Ok (h + 1) lo t) (hlo : 1 ≤ lo) (hs : Srt (flat (h + 1) t)) (hm : ∃ v, (k, v) ∈ flat (h + 1) t) (hh : hit t.es k = true) :
  Calls Try.prog 36 #[ptrV p, .string (bstr k)] w fun e w' => DelPost w F (h + 1) (del (h + 1) t k) e w' := by
 have HIH := Lib.hid ih
 obtain ⟨v0, hpe, hg⟩ := hit_yes hh
 have HPE := Lib.hid (And.intro hpe hg)
 clear ih hpe hg
 obtain ⟨kv, vv, cv, ps, hn, hks⟩ := ht.top
 have hes := ho.es
 have hlen := hks.len ho
 have HOWN := Lib.hid (own_calls F p kv vv cv t.es ps w hn (by omega) (by omega))
 have HSP := Lib.hid (Sp.of_srt (k := k) (es_srt ho hs))
 obtain ⟨C, Q, hC, hQ, htk, hok, hsk, hkl⟩ := kid_step hks ho hs k
 have HC := Lib.hid (And.intro hC (And.intro hQ (And.intro htk (And.intro hok hsk))))
 have HT := Lib.hid (And.intro hF (And.intro ho (And.intro hs (And.intro hks hlo))))
 have HHT := Lib.hid hh
 have HMM := Lib.hid hm
 have hle : t.es.length ≤ 7 := hes.2
 have hpl := pos_le t.es k
 have hl8 := hlen.1
 have HKL := Lib.hid hkl
 have hpp : pos t.es k < ps.length := by omega
 have hpos : 0 < ps.length := by omega
 have hne : ((ps.length : Int) == 0) = false := by rw [beq_eq_false_iff_ne]; omega
 obtain ⟨R, hR⟩ : ∃ R, R = del (h + 1) t k := ⟨_, rfl⟩
 rw [← hR]
 have HR := Lib.hid hR
 clear ht ho hs hks hn hes hm hh hR hC hQ htk hok hsk hkl hlen hF hlo
 unfold ptrV
 go_enter Try.func36, Try.ntmps36
 go_upto_region 7 with (first
  | (
    go_at_call 54; refine HOWN.out.mono ?_; rintro e w1 ⟨q, kv1, vv1, cv1, rfl, hwk, hb1⟩; obtain ⟨-, c0, c1, c2, fz⟩ := And.intro trivial (And.intro hwk.cells.1 (And.intro hwk.cells.2.1 (And.intro hwk.cells.2.2.1 hwk.cells.2.2.2.2)))
    obtain ⟨ka, kc, hkv⟩ := own_slice hwk.k; obtain ⟨va, vc, hvv⟩ := own_slice hwk.v; obtain ⟨ca, cc, hcv⟩ := own_slice hwk.c; rw [List.length_map] at hkv hvv hcv; subst hkv hvv hcv; have HW := Lib.hid hwk; have HB1 := Lib.hid hb1; clear hwk hb1; unfold ptrV)
  | (go_at_call 55; refine (bs_calls _ t.es _ _ (by have := Rd.of_own HW.out.k; rw [List.length_map] at this; exact this) HSP.out (by omega)).mono ?_; rintro e w2 ⟨rfl, hw2⟩; obtain rfl : w1 = w2 := hw2.symm))
 rw [HHT.out]
 obtain ⟨P, hP⟩ : ∃ P, P = pos t.es k := ⟨_, rfl⟩
 rw [← hP] at hpl hpp ⊢
 have HP := Lib.hid hP
 clear hP
 have hc8 := HW.out.c
 rw [List.length_map] at hc8
 obtain ⟨cg, rfl, g1, g2, g3, g4, g5⟩ := own_some hc8 hpos
 have hcell := g4 P _ (ptrs_get (by rw [HP.out]; exact HC.out.2.1))
 have hfr := g5 P
 clear hc8 g4 g5
 have hPe : P < t.es.length := by rw [HP.out]; exact HPE.out.1
 obtain ⟨kg, rfl, k1, k2, k3, k4, k5⟩ := own_some (by have := HW.out.k; rw [List.length_map] at this; exact this) (show 0 < t.es.length by omega)
 obtain ⟨vg, rfl, v1, v2, v3, v4, v5⟩ := own_some (by have := HW.out.v; rw [List.length_map] at this; exact this) (show 0 < t.es.length by omega)
 have hkP := k4 _ _ (keys_at hPe)
 have hvP := v4 _ _ (vals_at hPe)
 have hfk := k5 P
 have hfv := v5 P
 clear k4 k5 v4 v5
 have HLC := Lib.hid (last_calls F h 3 C Q w1 (HC.out.2.2.1.fr (Fr.of_below HB1.out)) HC.out.2.2.2.1 (by omega))
 obtain ⟨x, hx⟩ : ∃ x, x = lastE h C := ⟨_, rfl⟩
 rw [← hx] at HLC
 unfold ptrV at HLC
 have HXX := Lib.hid hx
 obtain ⟨xk, xv⟩ := x
 clear hx
 go_upto_region 9 with (go_at_call 61; (with_reducible refine HLC.out.mono ?_); rintro e w2 ⟨rfl, hb2⟩; have c0 := cell_later hb2 c0; have c1 := cell_later hb2 c1; have c2 := cell_later hb2 c2; have hcell := cell_later hb2 hcell; have hkP := cell_later hb2 hkP; have hvP := cell_later hb2 hvP; have HB2 := Lib.hid hb2; clear hb2)
 have hfk := (HB2.out.frozen (p := ⟨kg, P, none⟩) k3).trans hfk
 have hfv := (HB2.out.frozen (p := ⟨vg, P, none⟩) v3).trans hfv
 have HP1 := Lib.hid ((HW.out.below HB2.out).putK P (strV xk))
 have HP2 := Lib.hid (HP1.out.1.putV P (strV xv))
 have hkq : q ≠ kg := fun e => HW.out.kp (j := kg) (by rfl) e.symm
 have hvq : q ≠ vg := fun e => HW.out.vp (j := vg) (by rfl) e.symm
 have hkv : vg ≠ kg := fun e => HW.out.ne kg (by rfl) (by rw [← e]; rfl)
 have hkc : cg ≠ kg := fun e => HW.out.kc (j := kg) (by rfl) (by rw [← e]; rfl)
 have hvc : cg ≠ vg := fun e => HW.out.vc (j := vg) (by rfl) (by rw [← e]; rfl)
 refine region_m [(0, false), (1, false), (2, false), (3, false), (4, false), (5, false), (6, false), (7, false), (8, false), (9, false), (10, false), (11, false), (12, false), (13, true)] 14 (fun V => V.cell? ⟨q, 0, none⟩ = some (.slice (some ⟨kg, 0, none⟩) t.es.length kc) ∧ V.cell? ⟨q, 1, none⟩ = some (.slice (some ⟨vg, 0, none⟩) t.es.length vc)) (by kernel_rfl) (by kernel_rfl) ⟨c0, c1⟩ ?_
 iterate 13
  refine m_take (v := ?_) rfl rfl ?_ ?_
  rotate_left
  ·
   intro W hW
   go_simp
   with_reducible rfl
  simp only [Act.put, List.setIfInBounds_toArray, List.set_cons_zero, List.set_cons_succ]
 refine m_loud rfl (fun K hK => ?_)
 have HK := Lib.hid hK
 clear hK
 go_simp
 refine HK.out _ _ ⟨by rw [World.cell?_drew, cell_set_block _ hkq]; exact c0, by rw [World.cell?_drew, cell_set_block _ hkq]; exact c1⟩ ?_
 clear HK
 refine m_done ?_
 simp only [List.drop_succ_cons, List.drop_zero]
 go_upto_region 11 with fail
 simp only [NP]
 go_upto_region 11 with fail
 have hc23 : ((w2.setCell ⟨kg, P, none⟩ (strV xk)).setCell ⟨vg, P, none⟩ (strV xv)).cell? ⟨q, 2, none⟩ = some (.slice (some ⟨cg, 0, none⟩) ps.length cc) := by rw [cell_set_block _ hvq, cell_set_block _ hkq]; exact c2
 have hcl3 : ((w2.setCell ⟨kg, P, none⟩ (strV xk)).setCell ⟨vg, P, none⟩ (strV xv)).cell? ⟨cg, P, none⟩ = some (.pointer (some ⟨Q, 0, none⟩)) := by rw [cell_set_block _ hvc, cell_set_block _ hkc]; exact hcell
 have hho : Only (wkB q (.slice (some ⟨kg, 0, none⟩) t.es.length kc) (.slice (some ⟨vg, 0, none⟩) t.es.length vc) (.slice (some ⟨cg, 0, none⟩) ps.length cc)) w2 ((w2.setCell ⟨kg, P, none⟩ (strV xk)).setCell ⟨vg, P, none⟩ (strV xv)) := HP1.out.2.trans HP2.out.2 (fun _ _ h => h)
 have hwk3 := HP2.out.1
 generalize hX3 : (w2.setCell ⟨kg, P, none⟩ (strV xk)).setCell ⟨vg, P, none⟩ (strV xv) = X3 at *
 rw [show ((w2.setCell ⟨kg, P, none⟩ (.string (bstr xk))).setCell ⟨vg, P, none⟩ (.string (bstr xv))).drew = X3.drew from congrArg World.drew hX3]
 clear hX3
 have HWK3 := Lib.hid hwk3
 have HHO := Lib.hid hho
 have hb03 : Below w.heap.size w X3 := (HB1.out.trans (HB2.out.mono HB1.out.size)).trans (hho.below (Nat.le_trans HB1.out.size HB2.out.size) (fun j hj hS => by have := (HW.out.foot hS).1; omega))
 have HB03 := Lib.hid hb03
 have hfr3 := World.ownsRow.frozenAt (show X3.ownsRow w.heap.size 63 1 (.slice (some ⟨cg, 0, none⟩) ps.length cc) ps.length (ps.map ptrV) by have := hwk3.c; rw [List.length_map] at this; exact this) P
 clear hho hwk3 hb03 HP1 HP2 c0 c1 c2 hcell hkP hvP hfk hfv fz hfr HLC
 have HI := Lib.hid (HIH.out xk 3 C F Q X3.drew.drew (fun j hj => Nat.lt_of_lt_of_le (HT.out.1 j hj) HB03.out.size) (HC.out.2.2.1.fr (Fr.of_below HB03.out.drew.drew)) HC.out.2.2.2.1 (by omega) HC.out.2.2.2.2 (by have := last_mem HC.out.2.2.2.1; rw [← HXX.out] at this; exact this))
 refine region_m [(0, false), (1, false), (2, false), (3, false), (4, false), (5, false), (6, false), (7, false), (8, false), (9, false), (10, false), (11, false), (12, false), (13, true)] 14 (fun V => V.cell? ⟨q, 2, none⟩ = some (.slice (some ⟨cg, 0, none⟩) ps.length cc) ∧ V.cell? ⟨cg, P, none⟩ = some (.pointer (some ⟨Q, 0, none⟩))) (by kernel_rfl) (by kernel_rfl) ⟨hc23, hcl3⟩ ?_
 iterate 13
  refine m_take (v := ?_) rfl rfl ?_ ?_
  rotate_left
  ·
   intro W hW
   go_simp
   with_reducible rfl
  simp only [Act.put, List.setIfInBounds_toArray, List.set_cons_zero, List.set_cons_succ]
 refine m_loud rfl (fun K hK => ?_)
 have HK := Lib.hid hK
 clear hK
 go_simp
 refine HI.out.mono ?_
 rintro e w4 ⟨⟨qd, rfl, htd⟩, hb4⟩
 have hb4 : Below X3.heap.size X3 w4 := (((Below.refl X3.heap.size X3).drew).drew).trans hb4
 have hc24 := cell_later hb4 hc23
 have hcl4 := cell_later hb4 hcl3
 have hfr4 := frozen_later hb4 hcl3 hfr3
 have HTD := Lib.hid (show TreeAt w4 (fun j => F j ∨ X3.heap.size ≤ j) h (del h C xk) qd from htd)
 have HB4 := Lib.hid hb4
 refine HK.out _ _ ⟨hc24, hcl4⟩ ?_
 clear HK
 clear hb4 htd hc23 hcl3 hfr3
 unfold ptrV
 refine m_done ?_
 simp only [List.drop_succ_cons, List.drop_zero]
 go_upto_region 12 with fail
 simp only [NP]
 go_upto_region 12 with fail
 obtain ⟨hw5, ho5⟩ := (HWK3.out.below HB4.out).putC P (ptrV qd)
 have hs3 : w1.heap.size ≤ X3.heap.size := Nat.le_trans HB2.out.size HHO.out.size
 have hbx : Below w.heap.size w (w4.setCell ⟨cg, P, none⟩ (ptrV qd)) := (HB03.out.trans (HB4.out.mono HB03.out.size)).trans (ho5.below (Nat.le_trans HB03.out.size HB4.out.size) (fun j hj hS => by have := (HW.out.foot hS).1; omega))
 have hfr5 : Fr (fun j => F j ∨ X3.heap.size ≤ j) w4 (w4.setCell ⟨cg, P, none⟩ (ptrV qd)) := Fr.of_only ho5 (fun x hx _ hS => by
  have h1 := HW.out.foot hS
  rcases hx with hx | hx
  · have := HT.out.1 x hx; omega
  · omega)
 have htd5 := HTD.out.fr hfr5
 rw [← List.map_set] at hw5
 have hes' : (t.1.set P (xk, xv)).length = t.1.length := List.length_set
 have hfi := fillIn_of (w1 := w1) (wc := X3) (lo := lo) (P := P) (es' := t.1.set P (xk, xv)) HT.out.1 HT.out.2.1 HT.out.2.2.2.2 (by rw [HP.out]; exact (List.getElem?_eq_some_iff.1 HC.out.1).1) hes' HT.out.2.2.2.1 (fun j hj => HW.out.foot hj) hs3 (by rw [List.map_set, List.map_set]; exact hw5) hbx htd5 (del_spec h 3 C xk HC.out.2.2.2.1 (by omega) HC.out.2.2.2.2 (by have := last_mem HC.out.2.2.2.1; rw [← HXX.out] at this; exact this)).2
 have HFC := Lib.hid (fill_calls w.heap.size q P _ _ _ _ h _ _ _ _ hfi (fun k hk => hk.2))
 have HBX := Lib.hid hbx
 have HS3 := Lib.hid (Nat.le_trans HB1.out.size hs3)
 unfold ptrV at HFC HBX
 clear hw5 ho5 hbx hfr5 htd5 hfi hc24 hcl4 hfr4 hs3 hes'
 go_wp2_with (go_at_call 62; (with_reducible refine HFC.out.mono ?_); rintro e w6 hfo; have HFO := Lib.hid (del_out HBX.out HS3.out (fun j hj => (HW.out.foot hj).1) hfo); obtain ⟨⟨v, rfl⟩, -⟩ := hfo)
 go_ret
 refine ⟨⟨q, rfl, ?_⟩, HFO.out.2.2⟩
 rw [HR.out, del_inner_hit HHT.out HC.out.1, show pos t.1 k = P from HP.out.symm, ← HXX.out]
 exact HFO.out.2.1
theorem del_calls : ∀ h, DelSpec h
 | 0 => del_leaf_calls
 | h + 1 => fun k lo t F p w hF ht ho hlo hs hm => by
  by_cases hh : hit t.es k = true
  · exact del_hit_calls h (del_calls h) k lo t F p w hF ht ho hlo hs hm hh
  · exact del_miss_calls h (del_calls h) k lo t F p w hF ht ho hlo hs hm (by simpa using hh)
end Go.Proofs.Ytmafnjidhjabgaa
namespace Go.Proofs.Ytmafnjidhjabgaa
open Go.RowKit Go.Shelf
set_option linter.unusedVariables false
set_option linter.unusedSectionVars false
set_option linter.unusedSimpArgs false
set_option maxRecDepth 100000
variable [Inhabited Pgs]
set_option maxHeartbeats 1000000 in
theorem get_nil (k : Str) (w : World) : Calls Try.prog 35 #[.pointer none, .string (bstr k)] w fun e w' => GetOut none w e w' := by
 go_enter Try.func35, Try.ntmps35
 go_wp2_with fail
 go_loopg [0] 0 (fun k' v wr => v = .pointer none ∧ wr = w)
 case atStart => exact ⟨rfl, rfl⟩
 case round =>
  obtain ⟨rfl, rfl⟩ := hrel
  go_wp2_with fail
  go_ret2
  exact ⟨rfl, rfl⟩
set_option maxHeartbeats 1000000 in
theorem tget_calls (F : Nat → Prop) (r : Root) (T : Nat) (now : Option Addr) (k : Str) (w : World) (hr : RootAt w F r now) (hok : ROk r) (hT : w.cell? ⟨T, 6, none⟩ = some (.pointer now)) :
  Calls Try.prog 11 #[.pointer (some ⟨T, 0, none⟩), .string (bstr k)] w fun e w' => GetOut (look k (rflat r)) w e w' := by
 have hg : Calls Try.prog 35 #[.pointer now, .string (bstr k)] w fun e w' => GetOut (look k (rflat r)) w e w' := by
  cases r with
  | none =>
   obtain rfl : now = none := hr
   exact get_nil k w
  | some ht =>
   obtain ⟨h, t⟩ := ht
   obtain ⟨p, rfl, htr⟩ := hr
   have := get_calls F k h 1 t p w htr hok.1 hok.2
   rw [getB_spec k h 1 t hok.1 hok.2] at this
   exact this
 have HG := Lib.hid hg
 obtain ⟨o, ho⟩ : ∃ o, o = look k (rflat r) := ⟨_, rfl⟩
 rw [← ho] at HG ⊢
 clear hr hok ho hg
 go_enter Try.func11, Try.ntmps11
 go_wp2_with (go_at_call 35; refine HG.out.mono ?_; rintro e w' ⟨rfl, hw'⟩; obtain rfl : w = w' := hw'.symm)
 go_ret2
 exact ⟨rfl, rfl⟩
theorem mk_leaf (w : World) (k v : Str) (u : World) (hu : u = ((w.alloc (.cells #[.string (bstr k)] 9)).alloc (.cells #[.string (bstr v)] 9)).alloc (.cells #[.slice (some ⟨w.heap.size, 0, none⟩) 1 1, .slice (some ⟨w.heap.size + 1, 0, none⟩) 1 1, .slice none 0 0, .int .i64 (-1)] 91)) :
  TreeAt u (fun j => w.heap.size ≤ j) 0 [(k, v)] (w.heap.size + 2) ∧ Below w.heap.size w u := by
 obtain ⟨w1, hw1⟩ : ∃ w1, w1 = w.alloc (.cells #[.string (bstr k)] 9) := ⟨_, rfl⟩
 obtain ⟨w2, hw2⟩ : ∃ w2, w2 = w1.alloc (.cells #[.string (bstr v)] 9) := ⟨_, rfl⟩
 have s1 : w1.heap.size = w.heap.size + 1 := by rw [hw1]; simp
 have s2 : w2.heap.size = w.heap.size + 2 := by rw [hw2]; simp [s1]
 rw [← hw1, ← hw2] at hu
 have b1 : Below w.heap.size w w1 := by rw [hw1]; exact below_alloc w _
 have b2 : Below w1.heap.size w1 w2 := by rw [hw2]; exact below_alloc w1 _
 have o1 : w1.ownsRow w.heap.size 9 1 (.slice (some ⟨w.heap.size, 0, none⟩) 1 1) 1 [.string (bstr k)] := by
  rw [hw1]
  have := World.ownsRow_lit (base := w.heap.size) (size := 1) (e := 9) w #[.string (bstr k)] 1 (Nat.le_refl _) (by unfold maxLen; omega) rfl
  simpa using this
 have o2 : w2.ownsRow w.heap.size 9 1 (.slice (some ⟨w.heap.size + 1, 0, none⟩) 1 1) 1 [.string (bstr v)] := by
  rw [hw2, ← s1]
  have := World.ownsRow_lit (base := w.heap.size) (size := 1) (e := 9) w1 #[.string (bstr v)] 1 (by omega) (by unfold maxLen; omega) rfl
  simpa using this
 have o1' := ownsRow_below o1 b2 (Nat.le_refl _)
 have o3 : w2.ownsRow w.heap.size 63 1 (.slice none 0 0) 0 [] := World.ownsRow_nil _ _ _ _
 have hk := Wk.make (w := w2) (B := w.heap.size) (kv := .slice (some ⟨w.heap.size, 0, none⟩) 1 1) (vv := .slice (some ⟨w.heap.size + 1, 0, none⟩) 1 1) (cv := .slice none 0 0) (ks := [.string (bstr k)]) (vs := [.string (bstr v)]) (cs := []) o1' o2 o3 (fun j h e => by simp [Value.ownBlock] at h e; omega) (by omega)
 rw [← hu, s2] at hk
 have b3 : Below w2.heap.size w2 u := by rw [hu]; exact below_alloc w2 _
 refine ⟨⟨_, _, _, Wk.nd (es := [(k, v)]) (ps := []) hk (fun j hj => (hk.foot hj).1)⟩, below_go (below_go b1 b2) b3⟩
theorem mk_two (w : World) (k v : Str) (q1 q2 : Nat) (u : World) (hu : u = (((w.alloc (.cells #[.string (bstr k)] 9)).alloc (.cells #[.string (bstr v)] 9)).alloc (.cells #[ptrV q1, ptrV q2] 63)).alloc (.cells #[.slice (some ⟨w.heap.size, 0, none⟩) 1 1, .slice (some ⟨w.heap.size + 1, 0, none⟩) 1 1, .slice (some ⟨w.heap.size + 2, 0, none⟩) 2 2, .int .i64 (-1)] 91)) (F : Nat → Prop) (h : Nat) (l r : BT h) (hl : TreeAt w F h l q1) (hr : TreeAt w F h r q2) :
  TreeAt u (fun j => F j ∨ w.heap.size ≤ j) (h + 1) ([(k, v)], [l, r]) (w.heap.size + 3) ∧ Below w.heap.size w u := by
 obtain ⟨w1, hw1⟩ : ∃ w1, w1 = w.alloc (.cells #[.string (bstr k)] 9) := ⟨_, rfl⟩
 obtain ⟨w2, hw2⟩ : ∃ w2, w2 = w1.alloc (.cells #[.string (bstr v)] 9) := ⟨_, rfl⟩
 obtain ⟨w3, hw3⟩ : ∃ w3, w3 = w2.alloc (.cells #[ptrV q1, ptrV q2] 63) := ⟨_, rfl⟩
 have s1 : w1.heap.size = w.heap.size + 1 := by rw [hw1]; simp
 have s2 : w2.heap.size = w.heap.size + 2 := by rw [hw2]; simp [s1]
 have s3 : w3.heap.size = w.heap.size + 3 := by rw [hw3]; simp [s2]
 rw [← hw1, ← hw2, ← hw3] at hu
 have b1 : Below w.heap.size w w1 := by rw [hw1]; exact below_alloc w _
 have b2 : Below w1.heap.size w1 w2 := by rw [hw2]; exact below_alloc w1 _
 have b3 : Below w2.heap.size w2 w3 := by rw [hw3]; exact below_alloc w2 _
 have o1 : w1.ownsRow w.heap.size 9 1 (.slice (some ⟨w.heap.size, 0, none⟩) 1 1) 1 [.string (bstr k)] := by
  rw [hw1]
  have := World.ownsRow_lit (base := w.heap.size) (size := 1) (e := 9) w #[.string (bstr k)] 1 (Nat.le_refl _) (by unfold maxLen; omega) rfl
  simpa using this
 have o2 : w2.ownsRow w.heap.size 9 1 (.slice (some ⟨w.heap.size + 1, 0, none⟩) 1 1) 1 [.string (bstr v)] := by
  rw [hw2, ← s1]
  have := World.ownsRow_lit (base := w.heap.size) (size := 1) (e := 9) w1 #[.string (bstr v)] 1 (by omega) (by unfold maxLen; omega) rfl
  simpa using this
 have o3 : w3.ownsRow w.heap.size 63 1 (.slice (some ⟨w.heap.size + 2, 0, none⟩) 2 2) 2 [ptrV q1, ptrV q2] := by
  rw [hw3, ← s2]
  have := World.ownsRow_lit (base := w.heap.size) (size := 1) (e := 63) w2 #[ptrV q1, ptrV q2] 2 (by omega) (by unfold maxLen; omega) rfl
  simpa using this
 have o1' := ownsRow_below (ownsRow_below o1 b2 (Nat.le_refl _)) b3 (Nat.le_refl _)
 have o2' := ownsRow_below o2 b3 (Nat.le_refl _)
 have hk := Wk.make (w := w3) (B := w.heap.size) (kv := .slice (some ⟨w.heap.size, 0, none⟩) 1 1) (vv := .slice (some ⟨w.heap.size + 1, 0, none⟩) 1 1) (cv := .slice (some ⟨w.heap.size + 2, 0, none⟩) 2 2) (ks := [.string (bstr k)]) (vs := [.string (bstr v)]) (cs := [ptrV q1, ptrV q2]) o1' o2' o3 (fun j h e => by simp [Value.ownBlock] at h e; omega) (by omega)
 rw [← hu, s3] at hk
 have b4 : Below w3.heap.size w3 u := by rw [hu]; exact below_alloc w3 _
 have hb := below_go (below_go (below_go b1 b2) b3) b4
 refine ⟨⟨_, _, _, [q1, q2], Wk.nd (es := [(k, v)]) (ps := [q1, q2]) hk (fun j hj => .inr (hk.foot hj).1), rfl, ?_⟩, hb⟩
 intro i c q hc hq
 have hl' := (hl.fr (Fr.of_below hb)).mono (G := fun j => F j ∨ w.heap.size ≤ j) (fun j h => .inl h)
 have hr' := (hr.fr (Fr.of_below hb)).mono (G := fun j => F j ∨ w.heap.size ≤ j) (fun j h => .inl h)
 match i with
 | 0 => simp only [List.getElem?_cons_zero, Option.some.injEq] at hc hq; rw [← hc, ← hq]; exact hl'
 | 1 => simp only [List.getElem?_cons_succ, List.getElem?_cons_zero, Option.some.injEq] at hc hq; rw [← hc, ← hq]; exact hr'
 | i + 2 => simp at hc
def Turned6 (w : World) (F : Nat → Prop) (T : Nat) (r : Root) (w' : World) : Prop := ∃ now u, Below w.heap.size w u ∧ w' = u.setCell ⟨T, 6, none⟩ (.pointer now) ∧ RootAt w' (fun j => F j ∨ w.heap.size ≤ j) r now
theorem RootAt.set {w : World} {F : Nat → Prop} {T : Nat} {r : Root} {now : Option Addr} (h : RootAt w F r now) (hT : ¬ F T) (v : Value) : RootAt (w.setCell ⟨T, 6, none⟩ v) F r now := by
 cases r with
 | none => exact h
 | some ht =>
  obtain ⟨h', t⟩ := ht
  obtain ⟨p, e, ht⟩ := h
  exact ⟨p, e, ht.fr (Fr.of_only (only_set w T 6 v) (fun k hk _ e => hT (e ▸ hk)))⟩
theorem Turned6.mk {w u : World} {F : Nat → Prop} {T : Nat} {r : Root} {now : Option Addr} (hb : Below w.heap.size w u) (h : RootAt u (fun j => F j ∨ w.heap.size ≤ j) r now) (hT : ¬ F T) (hl : T < w.heap.size) : Turned6 w F T r (u.setCell ⟨T, 6, none⟩ (.pointer now)) :=
 ⟨now, u, hb, rfl, h.set (fun e => e.elim hT (fun e => by omega)) _⟩
set_option maxHeartbeats 2000000 in
theorem tput_calls (F : Nat → Prop) (r : Root) (T : Nat) (now : Option Addr) (k v : Str) (w : World) (hF : ∀ j, F j → j < w.heap.size) (hTF : ¬ F T) (hr : RootAt w F r now) (hok : ROk r) (hT : w.cell? ⟨T, 6, none⟩ = some (.pointer now)) (hz : w.frozen? ⟨T, 6, none⟩ = false) (hk : k.length ≤ 4096) (hv : v.length ≤ 4096) :
  Calls Try.prog 9 #[.pointer (some ⟨T, 0, none⟩), .string (bstr k), .string (bstr v)] w fun e w' => e = .returned (.int .i64 0) ∧ Turned6 w F T (rput k v r) w' := by
 have hTl : T < w.heap.size := by
  obtain ⟨ob, h1, -⟩ := cells_of_cell hT
  exact (Array.getElem?_eq_some_iff.1 h1).1
 have hks : (bstr k).size = k.length := rfl
 have hvs : (bstr v).size = v.length := rfl
 have d1 : decide ((4096 : Int) < (k.length : Int)) = false := decide_eq_false (by omega)
 have d2 : decide ((4096 : Int) < (v.length : Int)) = false := decide_eq_false (by omega)
 cases r with
 | none =>
  obtain rfl : now = none := hr
  have HTF := Lib.hid hTF
  clear hok hTF hF hk hv
  go_enter Try.func9, Try.ntmps9
  go_wp2_with (go_at_call 30; refine (fresh_calls _ _ _ _ _ _ _ _ _ _).mono ?_; rintro e w1 ⟨rfl, hw1⟩; obtain ⟨hm1, hb1⟩ := mk_leaf w k v w1 hw1; have hT1 := cell_later hb1 hT; have hz1 := (World.frozen?_of_block (a := ⟨T, 6, none⟩) (hb1.block T hTl)).trans hz; have HM := Lib.hid hm1; have HB := Lib.hid hb1; clear hw1 hm1 hb1; unfold ptrV)
  go_ret
  refine ⟨rfl, Turned6.mk HB.out ?_ HTF.out hTl⟩
  exact ⟨_, rfl, HM.out.mono (fun j h => .inr h)⟩
 | some ht =>
  obtain ⟨h, t⟩ := ht
  obtain ⟨p, rfl, htr⟩ := hr
  have HTF := Lib.hid hTF
  have HP := Lib.hid (nput_calls k v h 1 t F p w hF htr hok.1 hok.2)
  have HRP : rput k v (some ⟨h, t⟩) = match put h t k v with | .one t' => some ⟨h, t'⟩ | .two l r e => some ⟨h + 1, ([e], [l, r])⟩ := rfl
  rw [HRP]
  clear hok hTF hF hk hv htr HRP
  generalize put h t k v = R at *
  cases R with
  | one t' =>
   go_enter Try.func9, Try.ntmps9
   go_wp2_with (go_at_call 31; refine HP.out.mono ?_; rintro e w1 ⟨⟨q, rfl, hq⟩, hb1⟩; have hT1 := cell_later hb1 hT; have hz1 := (World.frozen?_of_block (a := ⟨T, 6, none⟩) (hb1.block T hTl)).trans hz; have HM := Lib.hid hq; have HB := Lib.hid hb1; clear hq hb1; unfold ptrV)
   go_ret
   exact ⟨rfl, Turned6.mk HB.out ⟨_, rfl, HM.out⟩ HTF.out hTl⟩
  | two l r x =>
   go_enter Try.func9, Try.ntmps9
   go_wp2_with (first | (go_at_call 31; refine HP.out.mono ?_; rintro e w1 ⟨⟨q1, q2, rfl, hq⟩, hb1⟩; have hT1 := cell_later hb1 hT; have hz1 := (World.frozen?_of_block (a := ⟨T, 6, none⟩) (hb1.block T hTl)).trans hz; have HM := Lib.hid hq; have HB := Lib.hid hb1; clear hq hb1; unfold ptrV) | (go_at_call 30; refine (fresh_calls _ _ _ _ _ _ _ _ _ _).mono ?_; rintro e w2 ⟨rfl, hw2⟩; obtain ⟨hm2, hb2⟩ := mk_two w1 x.1 x.2 q1 q2 w2 hw2 _ h l r HM.out.1 HM.out.2; have hT2 := cell_later hb2 hT1; have hz2 := (World.frozen?_of_block (a := ⟨T, 6, none⟩) (hb2.block T (Nat.lt_of_lt_of_le hTl HB.out.size))).trans hz1; have HM2 := Lib.hid hm2; have HB2 := Lib.hid hb2; clear hw2 hm2 hb2; unfold ptrV))
   go_ret
   have hs := HB.out.size
   refine ⟨rfl, Turned6.mk (HB.out.trans (HB2.out.mono hs)) ?_ HTF.out hTl⟩
   exact ⟨_, rfl, HM2.out.mono (fun j h => h.elim id (fun h => .inr (by omega)))⟩
def DelOut (w : World) (F : Nat → Prop) (T : Nat) (k : Str) (r : Root) (e : Ending) (w' : World) : Prop :=
 ((look k (rflat r)).isSome = false ∧ e = .returned (.tuple #[.bool false, .int .i64 0]) ∧ w' = w) ∨ ((look k (rflat r)).isSome = true ∧ e = .returned (.tuple #[.bool true, .int .i64 0]) ∧ Turned6 w F T (rdel k r) w')
theorem rtop_full {h : Nat} {t : BT h} (hl : 0 < t.es.length) : rtop h t = some ⟨h, t⟩ := by
 cases h with
 | zero => exact if_pos hl
 | succ h => exact if_pos hl
set_option maxHeartbeats 4000000 in
theorem tdel_calls (F : Nat → Prop) (r : Root) (T : Nat) (now : Option Addr) (k : Str) (w : World) (hF : ∀ j, F j → j < w.heap.size) (hTF : ¬ F T) (hr : RootAt w F r now) (hok : ROk r) (hT : w.cell? ⟨T, 6, none⟩ = some (.pointer now)) (hz : w.frozen? ⟨T, 6, none⟩ = false) :
  Calls Try.prog 13 #[.pointer (some ⟨T, 0, none⟩), .string (bstr k)] w fun e w' => DelOut w F T k r e w' := by
 have hTl : T < w.heap.size := by
  obtain ⟨ob, h1, -⟩ := cells_of_cell hT
  exact (Array.getElem?_eq_some_iff.1 h1).1
 have hg : Calls Try.prog 35 #[.pointer now, .string (bstr k)] w fun e w' => GetOut (look k (rflat r)) w e w' := by
  cases r with
  | none =>
   obtain rfl : now = none := hr
   exact get_nil k w
  | some ht =>
   obtain ⟨h, t⟩ := ht
   obtain ⟨p, rfl, htr⟩ := hr
   have := get_calls F k h 1 t p w htr hok.1 hok.2
   rw [getB_spec k h 1 t hok.1 hok.2] at this
   exact this
 have HG := Lib.hid hg
 clear hg
 unfold DelOut
 cases hlk : look k (rflat r) with
 | none =>
  rw [hlk] at HG
  clear hr hok hF hTF hlk
  go_enter Try.func13, Try.ntmps13
  go_wp2_with (go_at_call 35; refine HG.out.mono ?_; rintro e w' ⟨rfl, hw'⟩; obtain rfl : w = w' := hw'.symm)
  go_ret2
  exact .inl ⟨rfl, rfl, rfl⟩
 | some v =>
  rw [hlk] at HG
  cases r with
  | none => exact absurd hlk (by simp [rflat, look])
  | some ht =>
   obtain ⟨h, t⟩ := ht
   obtain ⟨p, rfl, htr⟩ := hr
   have hmem : ∃ v, (k, v) ∈ flat h t := by
    refine Classical.byContradiction fun hn => ?_
    have h1 : look k (flat h t) = none := look_no (fun e he hk => hn ⟨e.2, by rw [← hk]; exact he⟩)
    have h2 : look k (flat h t) = some v := hlk
    rw [h1] at h2
    cases h2
   have HTF := Lib.hid hTF
   have HP := Lib.hid (del_calls h k 1 t F p w hF htr hok.1 (by omega) hok.2 hmem)
   have HRD := Lib.hid (show rdel k (some ⟨h, t⟩) = rtop h (del h t k) from rfl)
   clear hok hF hTF hlk hmem htr
   obtain ⟨t', ht'⟩ : ∃ t', t' = del h t k := ⟨_, rfl⟩
   rw [← ht'] at HP HRD
   clear ht'
   go_enter Try.func13, Try.ntmps13
   go_upto_region 8 with (first | (go_at_call 35; refine HG.out.mono ?_; rintro e w' ⟨rfl, hw'⟩; obtain rfl : w = w' := hw'.symm) | (go_at_call 36; refine HP.out.mono ?_; rintro e w1 ⟨⟨q, rfl, hq⟩, hb1⟩; have hT1 := cell_later hb1 hT; have hz1 := (World.frozen?_of_block (a := ⟨T, 6, none⟩) (hb1.block T hTl)).trans hz; have HM := Lib.hid hq; have HB := Lib.hid hb1; obtain ⟨kv, vv, cv, ps, hn, hks⟩ := hq.top; clear hq hb1; unfold ptrV))
   have HN := Lib.hid hn
   have HKS := Lib.hid hks
   have c0 := hn.c0
   have c2 := hn.c2
   obtain ⟨ka, kc, rfl, hk1, hk2⟩ := Rd.slice hn.rk.rd
   obtain ⟨ca, cc, rfl, hc1, hc2⟩ := Rd.slice hn.rc.rd
   clear hn hks
   by_cases hl : 0 < t'.es.length
   ·
    have d1 : decide ((0 : Int) < (t'.es.length : Int)) = true := decide_eq_true (by omega)
    have HRT := Lib.hid (rtop_full hl)
    go_wp2_with fail
    go_ret2
    first | refine .inr ⟨rfl, rfl, ?_⟩ | refine ⟨rfl, ?_⟩
    rw [HRD.out, HRT.out]
    exact Turned6.mk HB.out ⟨_, rfl, HM.out⟩ HTF.out hTl
   ·
    have hl0 : t'.es.length = 0 := by omega
    rw [hl0] at c0
    cases h with
    | zero =>
     obtain rfl : ps = [] := HKS.out
     have HRT := Lib.hid (show rtop 0 t' = none from if_neg (show ¬ 0 < List.length (α := KV) t' from hl))
     simp only [List.length_nil] at c2
     go_wp2_with fail
     go_ret2
     first | refine .inr ⟨rfl, rfl, ?_⟩ | refine ⟨rfl, ?_⟩
     rw [HRD.out, HRT.out]
     exact Turned6.mk HB.out (show RootAt _ _ none none from rfl) HTF.out hTl
    | succ h =>
     obtain ⟨hKl, hkk⟩ := (show Kids (TreeAt w1 _ h) t'.2 ps from HKS.out)
     have HRT := Lib.hid (show rtop (h + 1) t' = match t'.2[0]? with | some c => some ⟨h, c⟩ | none => none from if_neg (show ¬ 0 < t'.1.length from hl))
     cases hc : t'.2[0]? with
     | none =>
      have h0 : ps.length = 0 := by rw [hKl]; exact Nat.le_zero.1 (List.getElem?_eq_none_iff.1 hc)
      rw [h0] at c2
      rw [hc] at HRT
      clear hkk hc hKl
      go_wp2_with fail
      go_ret2
      first | refine .inr ⟨rfl, rfl, ?_⟩ | refine ⟨rfl, ?_⟩
      rw [HRD.out, HRT.out]
      exact Turned6.mk HB.out (show RootAt _ _ none none from rfl) HTF.out hTl
     | some C =>
      have hpos : 0 < ps.length := by rw [hKl]; exact (List.getElem?_eq_some_iff.1 hc).1
      have hqk : ps[0]? = some (ps[0]'hpos) := List.getElem?_eq_getElem hpos
      generalize ps[0]'hpos = q1 at hqk
      have d2 : decide ((0 : Int) < (ps.length : Int)) = true := decide_eq_true (by omega)
      obtain ⟨cb, co, rfl, -, -, hcell⟩ := HN.out.rc.at (ptrs_get hqk)
      rw [Nat.add_zero] at hcell
      have HC := Lib.hid (hkk 0 C q1 hc hqk)
      rw [hc] at HRT
      clear hkk hc hKl hqk
      go_wp2_with fail
      go_ret2
      first | refine .inr ⟨rfl, rfl, ?_⟩ | refine ⟨rfl, ?_⟩
      rw [HRD.out, HRT.out]
      exact Turned6.mk HB.out (show RootAt _ _ (some ⟨h, C⟩) _ from ⟨q1, rfl, HC.out⟩) HTF.out hTl
end Go.Proofs.Ytmafnjidhjabgaa
namespace Go.Proofs.Ytmafnjidhjabgaa
open Go.RowKit Go.Shelf
set_option linter.unusedVariables false
set_option linter.unusedSectionVars false
set_option linter.unusedSimpArgs false
set_option maxRecDepth 100000
variable [Inhabited Pgs]
structure Tr where
 nm : ByteArray
 sl : Nat
 file : Nat
 size : Nat
 rv : Value
 now : Option Addr
 broken : Bool
def Tr.cells (d : Nat) (t : Tr) : List Value := [.pointer (some ⟨d, 0, none⟩), .string t.nm, .pointer (some ⟨t.sl, 0, none⟩), .int .i64 (t.file : Nat), .int .i64 (t.size : Nat), t.rv, .pointer t.now, .bool t.broken]
def TrAt (w : World) (B T d : Nat) (t : Tr) : Prop := w.ownsRow B 65 8 (.slice (some ⟨T, 0, none⟩) 1 1) 1 (t.cells d)
theorem TrAt.at {w : World} {B T d : Nat} {t : Tr} (h : TrAt w B T d t) : w.cell? ⟨T, 0, none⟩ = some (.pointer (some ⟨d, 0, none⟩)) ∧ w.cell? ⟨T, 1, none⟩ = some (.string t.nm) ∧ w.cell? ⟨T, 2, none⟩ = some (.pointer (some ⟨t.sl, 0, none⟩)) ∧ w.cell? ⟨T, 3, none⟩ = some (.int .i64 (t.file : Nat)) ∧ w.cell? ⟨T, 4, none⟩ = some (.int .i64 (t.size : Nat)) ∧ w.cell? ⟨T, 5, none⟩ = some t.rv ∧ w.cell? ⟨T, 6, none⟩ = some (.pointer t.now) ∧ w.cell? ⟨T, 7, none⟩ = some (.bool t.broken) ∧ ∀ o, w.frozen? ⟨T, o, none⟩ = false := by
 have hc := World.ownsRow.cells h rfl
 refine ⟨?_, ?_, ?_, ?_, ?_, ?_, ?_, ?_, fun o => World.ownsRow.frozenAt h o⟩
 · have := hc 0 _ rfl; rwa [add_off] at this
 · have := hc 1 _ rfl; rwa [add_off] at this
 · have := hc 2 _ rfl; rwa [add_off] at this
 · have := hc 3 _ rfl; rwa [add_off] at this
 · have := hc 4 _ rfl; rwa [add_off] at this
 · have := hc 5 _ rfl; rwa [add_off] at this
 · have := hc 6 _ rfl; rwa [add_off] at this
 · have := hc 7 _ rfl; rwa [add_off] at this
theorem TrAt.only {S : Nat → Prop} {w w' : World} {B T d : Nat} {t : Tr} (h : TrAt w B T d t) (ho : Only S w w') (hS : ¬ S T) : TrAt w' B T d t := by
 refine ownsRow_only h ho (fun g hg => ?_)
 have e : g = T := by simpa [Value.ownBlock] using hg.symm
 rw [e]
 exact hS
theorem TrAt.below {w w' : World} {B T d : Nat} {t : Tr} (h : TrAt w B T d t) (hb : Below w.heap.size w w') : TrAt w' B T d t := h.only (S := fun _ => False) (Only.of_below hb) (fun h => h)
theorem TrAt.lt {w : World} {B T d : Nat} {t : Tr} (h : TrAt w B T d t) : B ≤ T ∧ T < w.heap.size := World.ownsRow.lt h _ rfl
theorem TrAt.setNow {w : World} {B T d : Nat} {t : Tr} (h : TrAt w B T d t) (now : Option Addr) : TrAt (w.setCell ⟨T, 6, none⟩ (.pointer now)) B T d { t with now := now } := (World.ownsRow.stored h 6 (.pointer now)).1
theorem TrAt.setSize {w : World} {B T d : Nat} {t : Tr} (h : TrAt w B T d t) (n : Nat) : TrAt (w.setCell ⟨T, 4, none⟩ (.int .i64 (n : Nat))) B T d { t with size := n } := (World.ownsRow.stored h 4 (.int .i64 (n : Nat))).1
set_option maxHeartbeats 1000000 in
theorem back_none (B T d : Nat) (t : Tr) (w : World) (h : TrAt w B T d t) (hr : t.rv = .slice none 0 0) :
  Calls Try.prog 19 #[.pointer (some ⟨T, 0, none⟩)] w fun e w' => e = .returned (.int .i64 0) ∧ TrAt w' B T d { t with now := none } ∧ Only (fun j => j = T) w w' := by
 obtain ⟨-, -, -, -, -, c5, c6, -, fz⟩ := h.at
 rw [hr] at c5
 have f6 := fz 6
 have HT := Lib.hid (h.setNow none)
 clear h hr fz
 go_enter Try.func19, Try.ntmps19
 go_wp2_with fail
 go_ret
 exact ⟨rfl, HT.out, (Only.refl _ _).setCell _ _ (.inl rfl)⟩
def tNew (nm : ByteArray) (sl : Nat) : Tr := ⟨nm, sl, 0, 0, .slice none 0 0, none, false⟩
set_option maxHeartbeats 4000000 in
theorem topen_new (d Bd : Nat) (D : Dk) (nm : ByteArray) (w : World) (hd : DiskAt w Bd d D) (h1 : 1 ≤ nm.size) (h2 : nm.size ≤ 10) (hlow : lowName nm)
  (hl : ∀ i, i < 2 → (fileOf D.now (sfn nm i)).length ≤ 1099511627776) (hn : ∀ i, i < 2 → (Fr.FrM.next (fileOf D.now (sfn nm i)) 0).2.2 ≠ 0) (hno : ∀ i, i < 2 → mget D.now (tfn nm i) = none) :
  Calls Try.prog 8 #[.pointer (some ⟨d, 0, none⟩), .string nm] w fun e w' => ∃ T sl, e = .returned (.tuple #[.pointer (some ⟨T, 0, none⟩), .int .i64 0]) ∧ TrAt w' w.heap.size T d (tNew nm sl) ∧ SlotAt w' w.heap.size sl d (sNew nm) ∧ Below w.heap.size w w' := by
 have HD := Lib.hid hd
 have HNO := Lib.hid hno
 have HSO := Lib.hid (sopen_new d Bd D nm w hd h1 (by omega) hlow hl hn)
 have d2 : decide ((10 : Int) < (nm.size : Int)) = false := decide_eq_false (by omega)
 clear hd hl hn hlow hno
 go_enter Try.func8, Try.ntmps8
 go_upto_region 24 with (first
  | (go_at_call 22; refine HSO.out.mono ?_; rintro e w1 ⟨sl, rfl, hs1, hb1⟩; have HS1 := Lib.hid hs1; have HB1 := Lib.hid hb1; clear hs1 hb1)
  | (go_at_call 23; refine (sget_calls w.heap.size sl d (sNew nm) _ (HS1.out.below (below_alloc _ _))).mono ?_; rintro e w2 ⟨rfl, hb2⟩; have HB2 := Lib.hid hb2; clear hb2))
 obtain ⟨T, hT⟩ : ∃ T, T = w1.heap.size := ⟨_, rfl⟩
 have htr : TrAt (w1.alloc (.cells #[.pointer (some ⟨d, 0, none⟩), .string nm, .pointer (some ⟨sl, 0, none⟩), .int .i64 0, .int .i64 0, .slice none 0 0, .pointer none, .bool false] 65)) w.heap.size T d (tNew nm sl) := by
  have hs := World.ownsRow_lit (base := w.heap.size) (size := 8) (e := 65) w1 #[.pointer (some ⟨d, 0, none⟩), .string nm, .pointer (some ⟨sl, 0, none⟩), .int .i64 0, .int .i64 0, .slice none 0 0, .pointer none, .bool false] 1 HB1.out.size (by unfold maxLen; omega) rfl
  rw [hT]
  unfold TrAt
  simpa [Tr.cells, tNew] using hs
 have HT2 := Lib.hid (htr.below HB2.out)
 have HS2 := Lib.hid ((HS1.out.below (below_alloc _ _)).below HB2.out)
 have HW2 := Lib.hid (below_go (below_box HB1.out _) HB2.out)
 have hsT := Lib.hid (show sl < T by rw [hT]; exact HS1.out.lt.2)
 rw [← hT]
 clear htr hT
 obtain ⟨-, -, -, t3, t4, -⟩ := HT2.out.at
 have t3 : w2.cell? ⟨T, 3, none⟩ = some (.int .i64 0) := t3
 refine region_m [(0, false), (1, false), (2, false), (3, false), (4, false), (5, false), (6, false), (7, false), (8, false), (11, false), (9, true), (10, false)] 12 (fun V => V.cell? ⟨T, 3, none⟩ = some (.int .i64 0)) (by kernel_rfl) (by kernel_rfl) t3 ?_
 iterate 10
  first
  | (
    refine m_take (v := ?_) rfl rfl ?_ ?_
    rotate_left
    ·
      intro W hW
      go_simp
      with_reducible rfl
    simp only [Act.put, List.setIfInBounds_toArray, List.set_cons_zero, List.set_cons_succ])
  | (
    refine m_skip rfl rfl ?_
    simp only [Act.put, List.setIfInBounds_toArray, List.set_cons_zero, List.set_cons_succ])
 refine m_loud rfl (fun K hK => ?_)
 have HK := Lib.hid hK
 clear hK
 go_simp
 obtain ⟨X, hX⟩ : ∃ X, X = (w2.alloc (.cells #[.int .i64 1, .int .i64 0] 3)).drew := ⟨_, rfl⟩
 have hbX : Below w2.heap.size w2 X := by rw [hX]; exact (below_alloc w2 _).drew
 have n0 : X.cell? ⟨w2.heap.size, 0, none⟩ = some (.int .i64 1) := by rw [hX, World.cell?_drew, cell_cells (World.alloc_heap_new w2 _)]; rfl
 have n1 : X.cell? ⟨w2.heap.size, 1, none⟩ = some (.int .i64 0) := by rw [hX, World.cell?_drew, cell_cells (World.alloc_heap_new w2 _)]; rfl
 rw [show IntKind.i64.wrap 1 = 1 from by decide, ← hX]
 have HBX := Lib.hid hbX
 have HTX := Lib.hid (HT2.out.below hbX)
 have HSX := Lib.hid (HS2.out.below hbX)
 have HNX := Lib.hid (And.intro n0 n1)
 have HFO := Lib.hid (show ∀ i, i < 2 → fileOf D.now (tfn nm i) = [] from fun i hi => by unfold fileOf; rw [HNO.out i hi]; rfl)
 have HTW := Lib.hid (show w.heap.size ≤ T ∧ T < w2.heap.size from ⟨HT2.out.lt.1, HT2.out.lt.2⟩)
 refine HK.out _ _ (cell_later hbX t3) ?_
 clear HK
 clear hX hbX n0 n1 t3 t4
 iterate 1
  first
  | (
    refine m_take (v := ?_) rfl rfl ?_ ?_
    rotate_left
    ·
      intro W hW
      go_simp
      with_reducible rfl
    simp only [Act.put, List.setIfInBounds_toArray, List.set_cons_zero, List.set_cons_succ])
  | (
    refine m_skip rfl rfl ?_
    simp only [Act.put, List.setIfInBounds_toArray, List.set_cons_zero, List.set_cons_succ])
 refine m_done ?_
 simp only [List.drop_succ_cons, List.drop_zero]
 go_wp2_with fail
 simp only [NP]
 go_wp2_with fail
 generalize w2.heap.size = G at *
 go_loopw [196] (fun iv V => ∃ k : Nat, k ≤ 2 ∧ iv = .int .i64 k ∧ TrAt V w.heap.size T d (tNew nm sl) ∧ SlotAt V w.heap.size sl d (sNew nm) ∧ Below w.heap.size w V ∧ V.cell? ⟨G, 0, none⟩ = some (.int .i64 1) ∧ V.cell? ⟨G, 1, none⟩ = some (.int .i64 0)) (fun iv _ => 2 - (intOf iv).toNat)
 case atStart => exact ⟨0, by omega, rfl, HTX.out, HSX.out, HW2.out.trans (HBX.out.mono (by have := HTW.out; omega)), HNX.out.1, HNX.out.2⟩
 case round =>
  clear HTX HSX HBX HNX HT2 HS2 HW2 HB2 HS1 HB1
  obtain ⟨k, hk, rfl, ht, hs, hb, g0, g1⟩ := hrel
  have HT := Lib.hid ht
  have HS := Lib.hid hs
  have HB := Lib.hid hb
  obtain ⟨-, t1, -, t3, t4, -, -, -, fz⟩ := ht.at
  have t1 : wr.cell? ⟨T, 1, none⟩ = some (.string nm) := t1
  have t3 : wr.cell? ⟨T, 3, none⟩ = some (.int .i64 0) := t3
  have t4 : wr.cell? ⟨T, 4, none⟩ = some (.int .i64 0) := t4
  have f4 := fz 4
  clear ht hs hb fz
  have G0 := Lib.hid g0
  have G1 := Lib.hid g1
  have T3 := Lib.hid t3
  have T4 := Lib.hid t4
  have F4 := Lib.hid f4
  have hk3 : k = 0 ∨ k = 1 ∨ k = 2 := by omega
  rcases hk3 with rfl | rfl | rfl
  ·
   go_wp2_with (first
     | (go_at_call 26; refine (path_calls T nm 1 (by omega) _ t1 (by omega)).mono ?_; rintro e w5 ⟨rfl, hb5⟩; have g0 := cell_later hb5 g0; have g1 := cell_later hb5 g1; have t3 := cell_later hb5 t3; have t4 := cell_later hb5 t4; have f4 := (World.frozen?_of_block (a := ⟨T, 4, none⟩) (hb5.block T HT.out.lt.2)).trans f4; have HB5 := Lib.hid hb5; clear hb5)
     | (go_at_call 25; refine (dread_calls d Bd D (tfn nm 1) w5 (HD.out.below (below_go HB.out HB5.out)) (by rw [HFO.out 1 (by omega)]; simp)).mono ?_; rintro e w6 ⟨v, rfl, hm6, hb6⟩; rw [HNO.out 1 (by omega)]; rw [HFO.out 1 (by omega)] at hm6; obtain ⟨va, vc, rfl⟩ := hm6.slice; have hb6 := below_go HB5.out hb6; have g0 := cell_later hb6 (show wr.cell? ⟨G, 0, none⟩ = _ from G0.out); have g1 := cell_later hb6 (show wr.cell? ⟨G, 1, none⟩ = _ from G1.out); have t3 := cell_later hb6 T3.out; have t4 := cell_later hb6 T4.out; have f4 := (World.frozen?_of_block (a := ⟨T, 4, none⟩) (hb6.block T HT.out.lt.2)).trans F4.out; have HB6 := Lib.hid hb6; clear hb6 hm6))
   exact ⟨⟨1, by omega, rfl, HT.out.below HB6.out, HS.out.below HB6.out, below_go HB.out HB6.out, g0, g1⟩, by simp [intOf]⟩
  ·
   go_wp2_with (first
     | (go_at_call 26; refine (path_calls T nm 0 (by omega) _ t1 (by omega)).mono ?_; rintro e w5 ⟨rfl, hb5⟩; have g0 := cell_later hb5 g0; have g1 := cell_later hb5 g1; have t3 := cell_later hb5 t3; have t4 := cell_later hb5 t4; have f4 := (World.frozen?_of_block (a := ⟨T, 4, none⟩) (hb5.block T HT.out.lt.2)).trans f4; have HB5 := Lib.hid hb5; clear hb5)
     | (go_at_call 25; refine (dread_calls d Bd D (tfn nm 0) w5 (HD.out.below (below_go HB.out HB5.out)) (by rw [HFO.out 0 (by omega)]; simp)).mono ?_; rintro e w6 ⟨v, rfl, hm6, hb6⟩; rw [HNO.out 0 (by omega)]; rw [HFO.out 0 (by omega)] at hm6; obtain ⟨va, vc, rfl⟩ := hm6.slice; have hb6 := below_go HB5.out hb6; have g0 := cell_later hb6 (show wr.cell? ⟨G, 0, none⟩ = _ from G0.out); have g1 := cell_later hb6 (show wr.cell? ⟨G, 1, none⟩ = _ from G1.out); have t3 := cell_later hb6 T3.out; have t4 := cell_later hb6 T4.out; have f4 := (World.frozen?_of_block (a := ⟨T, 4, none⟩) (hb6.block T HT.out.lt.2)).trans F4.out; have HB6 := Lib.hid hb6; clear hb6 hm6))
   have hTG := HTW.out
   have hsl := hsT.out
   refine ⟨⟨2, by omega, rfl, (HT.out.below HB6.out).setSize 0, (HS.out.below HB6.out).only (only_set _ T 4 _) (by omega), (below_go HB.out HB6.out).setCell (by show w.heap.size ≤ T; omega) _, ?_, ?_⟩, by simp [intOf]⟩
   · rw [cell_set_block _ (by omega)]; exact g0
   · rw [cell_set_block _ (by omega)]; exact g1
  ·
   go_wp2_with (go_at_call 19; refine (back_none w.heap.size T d (tNew nm sl) _ HT.out rfl).mono ?_; rintro e w7 ⟨rfl, ht7, ho7⟩; have HT7 := Lib.hid ht7; have HO7 := Lib.hid ho7; clear ht7 ho7)
   go_ret2
   have hTG := HTW.out
   have hsl := hsT.out
   exact ⟨T, sl, rfl, HT7.out, HS.out.only HO7.out (by omega), HB.out.trans (HO7.out.below HB.out.size (fun j hj e => by omega))⟩
end Go.Proofs.Ytmafnjidhjabgaa
namespace Go.Proofs.Ytmafnjidhjabgaa
open Go.RowKit Go.Shelf
set_option linter.unusedVariables false
set_option linter.unusedSectionVars false
set_option linter.unusedSimpArgs false
set_option maxRecDepth 100000
attribute [local go_sem] Oper.semAt_some
variable [Inhabited Pgs]
theorem ge_nil (l : List KV) : ge [] l = l := ge_all (fun e _ => by cases e.1 <;> simp)
theorem upTo_nil : ∀ l : List KV, upTo [] l = l
 | [] => rfl
 | x :: l => by
  have := upTo_nil l
  unfold upTo at this ⊢
  rw [List.takeWhile_cons_of_pos rfl, this]
structure RKeep (w W : World) (S T : Nat) (a b : Str) (s : RSt) : Prop where
 bel : Below w.heap.size w W
 sz : S + 3 ≤ W.heap.size
 ct : W.cell? ⟨S, 0, none⟩ = some (.pointer (some ⟨T, 0, none⟩))
 ca : W.cell? ⟨S + 1, 0, none⟩ = some (.string (bstr a))
 cb : W.cell? ⟨S + 2, 0, none⟩ = some (.string (bstr b))
 own : ∀ p ∈ s.2, W.heap[p.1]? = some p.2 ∧ p.2.isCells = true ∧ S + 3 ≤ p.1
theorem RKeep.calm {w W W' : World} {S T : Nat} {a b : Str} {s : RSt} (h : RKeep w W S T a b s) (hc : Calm w.heap.size W W') : RKeep w W' S T a b s :=
 ⟨h.bel.trans hc.below, Nat.le_trans h.sz hc.size, hc.cell h.ct, hc.cell h.ca, hc.cell h.cb, fun p hp => ⟨hc.cells _ _ (h.own p hp).1 (h.own p hp).2.1, (h.own p hp).2⟩⟩
theorem RKeep.rin {w W : World} {S T : Nat} {a b : Str} {s : RSt} (h : RKeep w W S T a b s) {F : Nat → Prop} {now : Option Addr} (hn : w.cell? ⟨T, 6, none⟩ = some (.pointer now)) : RIn F w W T S (S + 1) (S + 2) now a b :=
 ⟨Fr.of_below h.bel, h.ct, h.ca, h.cb, cell_later h.bel hn⟩
theorem RKeep.next {w W : World} {S T : Nat} {a b : Str} {s s' : RSt} {args : Array Value} (h : RKeep w W S T a b s) (hs : RStep (S + 3) s args s' W) : RKeep w W S T a b s' := by
 obtain ⟨x, -, -, c, o, h1, h2, h3, h4⟩ := hs
 refine ⟨h.bel, h.sz, h.ct, h.ca, h.cb, fun p hp => ?_⟩
 rw [h1] at hp
 obtain rfl := List.mem_singleton.1 hp
 exact ⟨h2, h3, h4⟩
theorem RKeep.only {w W W' : World} {S T : Nat} {a b : Str} {s : RSt} (h : RKeep w W S T a b s) {R : Nat → Prop} (ho : Only R W W') (hR : ∀ k, R k → w.heap.size ≤ k ∧ k < S) : RKeep w W' S T a b s := by
 have hsz := h.sz
 have hcell : ∀ k o v, S ≤ k → W.cell? ⟨k, o, none⟩ = some v → W'.cell? ⟨k, o, none⟩ = some v := fun k o v hk hc => by
  have hl : k < W.heap.size := by
   obtain ⟨ob, h1, -⟩ := cells_of_cell hc
   exact (Array.getElem?_eq_some_iff.1 h1).1
  rw [← hc]
  exact World.cell?_of_block (ho.block k hl (fun hr => by have := (hR k hr).2; omega))
 refine ⟨h.bel.trans (ho.below h.bel.size (fun k hk hr => by have := (hR k hr).1; omega)), Nat.le_trans h.sz ho.size, hcell _ _ _ (by omega) h.ct, hcell _ _ _ (by omega) h.ca, hcell _ _ _ (by omega) h.cb, fun p hp => ?_⟩
 obtain ⟨h1, h2, h3⟩ := h.own p hp
 exact ⟨(ho.block _ (Array.getElem?_eq_some_iff.1 h1).1 (fun hr => by have := (hR _ hr).2; omega)).trans h1, h2, h3⟩
theorem enter_r {P : Program} {f : Nat} {fn : Func} {c : Code} (hf : P.funcs[f]? = some fn) (hname : (fn.name == "runtime.NumGoroutine") = false) (hb : fn.body = some c) (args : Array Value) (w : World) : (callFunc f args).run P w = .ok (.enter f args) w := by
 have h1 : fn.name ≠ "runtime.NumGoroutine" := by simpa using hname
 simp [callFunc, hf, h1, hb]
def LenJ (w W : World) (S T N : Nat) (s : RSt) : Prop := RKeep w W (S + 1) T [] [] s ∧ ∃ n : Nat, n + s.1.length = N ∧ W.cell? ⟨S, 0, none⟩ = some (.int .i64 n) ∧ W.frozen? ⟨S, 0, none⟩ = false
set_option maxHeartbeats 4000000 in
theorem len_calls (F : Nat → Prop) (r : Root) (T : Nat) (now : Option Addr) (w : World) (hr : RootAt w F r now) (hok : ROk r) (hN : (rflat r).length ≤ 1000000000) (hT : w.cell? ⟨T, 6, none⟩ = some (.pointer now)) :
  Calls Try.prog 16 #[.pointer (some ⟨T, 0, none⟩)] w fun e w' => e = .returned (.int .i64 ((rflat r).length : Nat)) ∧ Below w.heap.size w w' := by
 have HR := Lib.hid (And.intro hr hok)
 obtain ⟨N, hNN⟩ : ∃ N, N = (rflat r).length := ⟨_, rfl⟩
 rw [← hNN] at hN ⊢
 have HN := Lib.hid hNN
 clear hr hok hNN
 refine (callsIn_wide (n := 0)).1 ?_
 refine callsIn_of_wp_marks Try.func16 rfl trivial ?_
 simp only [Try.ntmps16, List.size_toArray, List.length_cons, List.length_nil, Nat.reduceAdd, Nat.reduceSub, Array.replicate_succ, Array.replicate_zero, List.push_toArray, List.append_toArray, List.nil_append, List.cons_append]
 gi_wp2_with (gi_at_call 10; refine (range_calls (some ⟨T, 0, none⟩) [] [] _).mono ?_; rintro e w1 ⟨rfl, rfl⟩)
 obtain ⟨S, hS⟩ : ∃ S, S = w.heap.size := ⟨_, rfl⟩
 obtain ⟨Y, hY⟩ : ∃ Y, Y = (((w.alloc (.cells #[.int .i64 0] 3)).alloc (.cells #[.pointer (some ⟨T, 0, none⟩)] 28)).alloc (.cells #[.string (bstr [])] 9)).alloc (.cells #[.string (bstr [])] 9) := ⟨_, rfl⟩
 have hYs : Y.heap.size = S + 4 := by rw [hY, hS]; simp
 have hbY : Below w.heap.size w Y := by rw [hY]; exact ((((Below.refl _ _).alloc (Nat.le_refl _) _).alloc (by simp) _).alloc (by simp; omega) _).alloc (by simp; omega) _
 have hj0 : LenJ w Y S T N (rflat r, []) := by
  refine ⟨⟨hbY, by omega, ?_, ?_, ?_, fun p hp => absurd hp (by simp)⟩, 0, by rw [HN.out, Nat.zero_add], ?_, ?_⟩
  · rw [hY, hS, World.cell?_alloc_past _ _ _ (by simp <;> omega), World.cell?_alloc_past _ _ _ (by simp), World.cell?_alloc_at _ _ _ _ (by simp)]; rfl
  · rw [hY, hS, World.cell?_alloc_past _ _ _ (by simp), World.cell?_alloc_at _ _ _ _ (by simp)]; rfl
  · rw [hY, hS, World.cell?_alloc_at _ _ _ _ (by simp)]; rfl
  · rw [hY, hS, World.cell?_alloc_past _ _ _ (by simp <;> omega), World.cell?_alloc_past _ _ _ (by simp <;> omega), World.cell?_alloc_past _ _ _ (by simp), World.cell?_alloc_at _ _ _ _ rfl]; rfl
  · rw [hY, hS, World.frozen?_alloc_past _ _ _ (by simp <;> omega), World.frozen?_alloc_past _ _ _ (by simp <;> omega), World.frozen?_alloc_past _ _ _ (by simp), World.frozen?_alloc_at _ _ _ _ rfl]
 rw [← hY, ← hS]
 have HTE := Lib.hid hS
 clear hY hS hbY
 refine range_wx (σ := RSt) (gf := 32) (lb := #[.pointer (some ⟨S + 1, 0, none⟩), .pointer (some ⟨S + 1 + 1, 0, none⟩), .pointer (some ⟨S + 1 + 2, 0, none⟩)]) rfl (fun args w => enter_r Try.func32 (by kernel_rfl) rfl args w)
  (fun s W => LenJ w W S T N s) (fun _ _ => False) (RStep (S + 4)) (fun s => s.1 = []) (rflat r, [])
  ?calm (fun _ _ _ _ h => h) hj0 ?iter ?body ?done (fun _ _ _ _ h => h.elim)
 case calm =>
  rintro s W W' hc ⟨hk, n, h1, h2, h3⟩
  have hc' : Calm w.heap.size W W' := ⟨hc.os, hc.tape, hc.output, hc.size, fun k hk => hc.block k (by have := HTE.out; omega), hc.cells⟩
  exact ⟨hk.calm hc', n, h1, hc.cell h2, (hc.frozen h2).trans h3⟩
 case iter =>
  intro ly J' Jx' W hm _ hJJ hxx hc hJ0 hy
  refine rng1_iter F r [] [] T (S + 1) (S + 1 + 1) (S + 1 + 2) ly (S + 4) now w J' Jx' W HR.out.1 HR.out.2 (by have := hc.size; omega) ?_ ?_ hm hy (by rw [ge_nil, upTo_nil]; exact hJ0)
  ·
   intro s V hj
   have h := (hJJ _ _ hj).1
   exact ⟨h.rin hT, fun p hp => (h.own p hp).1⟩
  ·
   intro V hx
   obtain ⟨c, h⟩ := hxx V hx
   exact h.elim
 case body =>
  intro l s args s' W hr hst hsz
  have hst' := hst
  obtain ⟨x, hs, rfl, -⟩ := hst'
  refine ⟨rfl, ?_⟩
  obtain ⟨hk, n, hn, hc, hf⟩ := hr
  have HK := Lib.hid (hk.next hst)
  have hnl : n + 1 + s'.1.length = N := by rw [hs, List.length_cons] at hn; omega
  have HNL := Lib.hid hnl
  have hnb : n + 1 ≤ 1000000000 := by omega
  clear hk hst hnl hs hn hj0
  gi_wp2
  refine ⟨KeepsOthers.refl _, fun W₂ hcm => ?_⟩
  have hf2 := (hcm.frozen hc).trans hf
  have hc2 := hcm.cell hc
  have HK2 := Lib.hid (HK.out.calm (W' := W₂) ⟨hcm.os, hcm.tape, hcm.output, hcm.size, fun k hk => hcm.block k (by have := HTE.out; omega), hcm.cells⟩)
  clear hc hf hcm HK
  gi_wp2_with fail
  refine ⟨KeepsOthers.setCell _ _ _, HK2.out.only (R := fun k => k = S) ((Only.refl _ _).setCell _ _ (.inl rfl)) (fun k hk => by have := HTE.out; omega), n + 1, HNL.out, ?_, ?_⟩
  · rw [cell_set_same (u := .int .i64 n) _ hc2]; rfl
  · rw [frozen_set, hf2]
 case done =>
  rintro D s V hD hs ⟨hk, n, hn, hc, hf⟩ hK
  rw [hs] at hn
  obtain rfl : n = N := hn
  have HB := Lib.hid hk.bel
  clear hk hj0 hs
  gi_wp2_with fail
  refine ⟨by simp, .inl ⟨_, _, rfl, run_takeDeferred hK, ?_⟩⟩
  refine ⟨_, results_tmp rfl _ _ _, rfl, ?_⟩
  exact HB.out.trans (Calm.putObj (B := w.heap.size) _ (by have := HTE.out; omega) hK rfl).below
end Go.Proofs.Ytmafnjidhjabgaa
