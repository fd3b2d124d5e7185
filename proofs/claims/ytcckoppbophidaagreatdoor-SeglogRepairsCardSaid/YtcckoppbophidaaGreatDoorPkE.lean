/- Walks and plain laws of the chapter, laid together; each part says what it proves. -/
import Derived.Stop.LaidErr
import Derived.Lib.LaidTab
import Derived.LaidLaws
import Derived.LaidSub
import Derived.Test.YtcckoppbophidaaGreatDoorPkA
import Derived.Test.YtcckoppbophidaaGreatDoorPkB
import Derived.Test.YtcckoppbophidaaGreatDoorPkC
import Derived.Test.YtcckoppbophidaaGreatDoorPkD
/- Layer 6: files written and synced keep a disk durable (no program). -/
namespace Go.Proofs.YtcckoppbophidaaGreatDoor
open Go.RowKit
set_option linter.unusedVariables false
set_option maxRecDepth 100000

theorem write_view {D : Dk} (h : Durable D) (nm : ByteArray) (at_ : Nat) (ys : List UInt8) (nv dv cv cv2 v2 : Value) :
    Durable (syD (wrD D nm at_ ys nv dv cv) nm cv2 v2) ∧ (∀ x, fv (syD (wrD D nm at_ ys nv dv cv) nm cv2 v2) x = if x = nm then some (wrt (fileOf D.now nm) ys at_) else fv D x) := by
  have hnow : (syD (wrD D nm at_ ys nv dv cv) nm cv2 v2).now = mput D.now nm (nv, wrt (fileOf D.now nm) ys at_) := rfl
  have hf : ∀ x, fv (syD (wrD D nm at_ ys nv dv cv) nm cv2 v2) x = if x = nm then some (wrt (fileOf D.now nm) ys at_) else fv D x := fun x => by
    unfold fv
    rw [hnow]
    by_cases e : x = nm
    · subst e
      rw [mget_put_same, if_pos rfl]; rfl
    · rw [mget_put_other e, if_neg e]
  refine ⟨⟨?_, fun x => ?_⟩, hf⟩
  · show (wrD D nm at_ ys nv dv cv).chg.filter (fun c => !isNm nm c) = []
    have : (wrD D nm at_ ys nv dv cv).chg = D.chg ++ [_] := rfl
    rw [this, h.chg, List.nil_append, List.filter_eq_nil_iff]
    intro c hc
    rw [List.mem_singleton.1 hc]
    simp [isNm]
  · rw [hf x]
    show (mget (match mget (mput D.now nm (nv, wrt (fileOf D.now nm) ys at_)) nm with | some f => mput D.dur nm (v2, f.2) | none => mdel D.dur nm) x).map Prod.snd = _
    rw [mget_put_same]
    simp only
    by_cases e : x = nm
    · subst e
      rw [if_pos rfl, mget_put_same]; rfl
    · rw [if_neg e, mget_put_other e]
      exact h.dur x
theorem sync_view {w : World} {B d : Nat} {D : Dk} (hd : DiskAt w B d D) (h : Durable D) (nm : ByteArray) (cv v : Value) :
    Durable (syD D nm cv v) ∧ (∀ x, fv (syD D nm cv v) x = fv D x) := by
  have hf : ∀ x, fv (syD D nm cv v) x = fv D x := fun x => rfl
  refine ⟨⟨?_, fun x => ?_⟩, hf⟩
  · show D.chg.filter (fun c => !isNm nm c) = []
    rw [h.chg]; rfl
  · rw [hf x]
    have hx := h.dur x
    show (mget (match mget D.now nm with | some f => mput D.dur nm (v, f.2) | none => mdel D.dur nm) x).map Prod.snd = _
    cases hm : mget D.now nm with
    | none =>
      simp only
      by_cases e : x = nm
      · subst e
        rw [mget_del_same _ _ hd.kdur]
        unfold fv
        rw [hm]
      · rw [mget_del_other e]; exact hx
    | some f =>
      simp only
      by_cases e : x = nm
      · subst e
        rw [mget_put_same]
        unfold fv
        rw [hm]; rfl
      · rw [mget_put_other e]; exact hx
end Go.Proofs.YtcckoppbophidaaGreatDoor

/- Layer 6: a file that is cut behind its whole frames is read as before (no program). -/
namespace Go.Proofs.YtcckoppbophidaaGreatDoor
open Go.RowKit
set_option linter.unusedVariables false
set_option maxRecDepth 100000

theorem next_frameOf (xs : List UInt8) (m : Nat) (hm : m ≤ xs.length) (h : (Fr.FrM.next xs m).2.2 = 0) : (xs.drop m).take (12 + (Fr.FrM.next xs m).1.length) = Fr.FrM.frameOf (Fr.FrM.next xs m).1 := by
  rw [Fr.FrM.next_at xs m hm] at h ⊢
  dsimp only at h ⊢
  split at h
  · cases h
  · rename_i c1
    rw [if_neg c1]
    split at h
    · cases h
    · rename_i c2
      rw [if_neg c2]
      split at h
      · cases h
      · rename_i c3
        rw [if_neg c3]
        split at h
        · cases h
        · rename_i c4
          rw [if_neg c4]
          split at h
          · cases h
          · rename_i c5
            rw [if_neg c5]
            have hl : (((xs.drop m).drop 8).take (Fr.FrM.num (xs.drop m))).length = Fr.FrM.num (xs.drop m) := by rw [List.length_take, List.length_drop]; omega
            dsimp only
            rw [hl]
            exact ((Fr.FrM.frame_iff (xs.drop m) (by omega) (Decidable.not_not.1 c2)).2 (Decidable.not_not.1 c5)).symm
theorem take_pos (xs : List UInt8) (k : Nat) (h : ∀ j, j < k → (Fr.FrM.next xs (Fr.FrM.pos xs j)).2.2 = 0) :
    xs.take (Fr.FrM.pos xs k) = Fr.FrM.rowOf (Fr.FrM.pays xs k) ∧ ∀ p ∈ Fr.FrM.pays xs k, p.length ≤ 65536 := by
  induction k with
  | zero => exact ⟨by simp [Fr.FrM.pos, Fr.FrM.pays, Fr.FrM.rowOf], fun p hp => by simp [Fr.FrM.pays] at hp⟩
  | succ k ih =>
    obtain ⟨h1, h2⟩ := ih (fun j hj => h j (by omega))
    have hp := Fr.FrM.pos_le xs k (fun j hj => h j (by omega))
    have hg := Fr.FrM.next_good xs _ (h k (by omega))
    rw [Fr.FrM.pays_succ, Fr.FrM.rowOf_append, ← h1, Fr.FrM.rowOf_one]
    have hpos : Fr.FrM.pos xs (k + 1) = Fr.FrM.pos xs k + (12 + (Fr.FrM.pay xs k).length) := by
      show Fr.FrM.pos xs k + 12 + (Fr.FrM.next xs (Fr.FrM.pos xs k)).1.length = _
      unfold Fr.FrM.pay
      omega
    refine ⟨?_, fun p hq => ?_⟩
    · rw [hpos, List.take_add]
      congr 1
      exact next_frameOf xs _ hp.2 (h k (by omega))
    · rcases List.mem_append.1 hq with hq | hq
      · exact h2 p hq
      · rw [List.mem_singleton.1 hq]
        exact hg.2.2
/-- Cut behind its whole frames, a file holds the same and is clean. -/
theorem psOf_take (n : Nat) (xs : List UInt8) : psOf n (xs.take (psOf n xs).size) = cleanP (psOf n xs) := by
  obtain ⟨h1, h2⟩ := take_pos xs (cntF xs) (cntF_is xs).1
  show psOf n (xs.take (Fr.FrM.pos xs (cntF xs))) = _
  have hl : (Fr.FrM.rowOf (Fr.FrM.pays xs (cntF xs))).length = Fr.FrM.pos xs (cntF xs) := by
    rw [← h1, List.length_take]
    have := (Fr.FrM.pos_le xs (cntF xs) (cntF_is xs).1).2
    omega
  rw [h1, psOf_row h2, hl]
  rfl
theorem segF_mem {D : Dk} {bs : ByteArray → Option Nat} {x : ByteArray} {xs : List UInt8} {n : Nat} (h : fv D x = some xs) (hb : bs x = some n) : psOf n xs ∈ segF bs D.now := by
  unfold fv at h
  cases hm : mget D.now x with
  | none => rw [hm] at h; cases h
  | some f =>
    rw [hm] at h
    simp only [Option.map_some, Option.some.injEq] at h
    unfold segF
    rw [List.mem_filterMap]
    exact ⟨(x, f), mget_mem hm, by simp only; rw [hb, h]; rfl⟩
/-- Behind Open the disk's segments are those that were kept, each clean. -/
theorem segF_after {nm : ByteArray} {bs : ByteArray → Option Nat} {T : List PS} {K : Nat} {D D' : Dk} (hk : (D.now.map (·.1)).Nodup) (hk' : (D'.now.map (·.1)).Nodup) (hb : ∀ x n, bs x = some n → x = fnm nm n) (hT : T.Perm (segF bs D.now)) (h : AfterOpen nm T K D D') (q : PS) :
    q ∈ segF bs D'.now ↔ q ∈ (T.take K).map cleanP := by
  constructor
  · intro hq
    obtain ⟨f, hf, hfn, hbf, hqe, hfv⟩ := segF_file hk' (fun f _ n => hb f.1 n) hq
    by_cases hp : ∃ p ∈ T, fnm nm q.base = fnm nm p.base
    · obtain ⟨p, hp, he⟩ := hp
      rw [← List.take_append_drop K T] at hp
      rcases List.mem_append.1 hp with hp | hp
      · obtain ⟨g, hg, hgn, hbg, hpe, hgv⟩ := segF_file hk (fun f _ n => hb f.1 n) (hT.subset (List.mem_of_mem_take hp))
        have h1 := h.kept p hp
        rw [← he, hfv, he, hgv] at h1
        simp only [Option.map_some, Option.some.injEq] at h1
        refine List.mem_map.2 ⟨p, hp, ?_⟩
        have hpb : q.base = p.base := fnm_inj he
        have e1 := psOf_take p.base g.2.2
        rw [← hpe] at e1
        rw [hqe, hpb, h1, e1]
      · have h1 := h.gone p hp
        rw [← he, hfv] at h1
        cases h1
    · exfalso
      have h1 := h.rest (fnm nm q.base) (fun p hpT e => hp ⟨p, hpT, e⟩)
      rw [hfv] at h1
      have hm := segF_mem h1.symm (by rw [← hfn]; exact hbf)
      exact hp ⟨_, hT.symm.subset hm, rfl⟩
  · intro hq
    obtain ⟨p, hp, rfl⟩ := List.mem_map.1 hq
    obtain ⟨g, hg, hgn, hbg, hpe, hgv⟩ := segF_file hk (fun f _ n => hb f.1 n) (hT.subset (List.mem_of_mem_take hp))
    have h1 := h.kept p hp
    rw [hgv] at h1
    simp only [Option.map_some] at h1
    have hm := segF_mem h1 (by rw [← hgn]; exact hbg)
    have e1 := psOf_take p.base g.2.2
    rw [← hpe] at e1
    rw [← e1]
    exact hm
theorem keepGo_cons (p : Option Nat) (s : PS) (r : List PS) : keepGo p (s :: r) = if (p.isSome && p != some s.base) = true then 0 else if s.dirty = true then 1 else 1 + keepGo (some (s.base + s.ents.length)) r := rfl
theorem keepGo_again : ∀ (p : Option Nat) (T : List PS), keepGo p ((T.take (keepGo p T)).map cleanP) = keepGo p T
  | _, [] => by simp [keepGo]
  | p, s :: r => by
    by_cases h1 : (p.isSome && p != some s.base) = true
    · have e : keepGo p (s :: r) = 0 := by rw [keepGo_cons, if_pos h1]
      rw [e]; rfl
    · by_cases h2 : s.dirty = true
      · have e : keepGo p (s :: r) = 1 := by rw [keepGo_cons, if_neg h1, if_pos h2]
        rw [e, List.take_succ_cons, List.take_zero, List.map_cons, List.map_nil, keepGo_cons, if_neg (show ¬(p.isSome && p != some (cleanP s).base) = true from h1), if_neg (by simp [cleanP])]
        rfl
      · have e : keepGo p (s :: r) = keepGo (some (s.base + s.ents.length)) r + 1 := by rw [keepGo_cons, if_neg h1, if_neg h2, Nat.add_comm]
        have ih := keepGo_again (some (s.base + s.ents.length)) r
        rw [e, List.take_succ_cons, List.map_cons, keepGo_cons, if_neg (show ¬(p.isSome && p != some (cleanP s).base) = true from h1), if_neg (by simp [cleanP])]
        show 1 + keepGo (some (s.base + s.ents.length)) _ = _
        rw [ih, Nat.add_comm]
theorem clean_clean (T : List PS) : (T.map cleanP).map cleanP = T.map cleanP := by rw [List.map_map]; rfl
/-- A second Open finds the segments of the first. -/
theorem open_same {nm : ByteArray} {bs : ByteArray → Option Nat} {T T2 : List PS} {D D' : Dk} (hk : (D.now.map (·.1)).Nodup) (hk' : (D'.now.map (·.1)).Nodup) (hb : ∀ x n, bs x = some n → x = fnm nm n) (hT : T.Perm (segF bs D.now)) (ht : T.Pairwise (fun p q => p.base < q.base)) (h : AfterOpen nm T (keepOf T) D D') (hT2 : T2.Perm (segF bs D'.now)) (ht2 : T2.Pairwise (fun p q => p.base < q.base)) :
    (T2.take (keepOf T2)).map cleanP = (T.take (keepOf T)).map cleanP := by
  have hs : ((T.take (keepOf T)).map cleanP).Pairwise (fun p q => p.base < q.base) := by
    rw [List.pairwise_map]
    exact ht.sublist (List.take_sublist _ _)
  have hne : ∀ {A : List PS}, A.Pairwise (fun p q => p.base < q.base) → A.Nodup := fun hA => hA.imp (fun h e => by subst e; omega)
  have hperm : T2.Perm ((T.take (keepOf T)).map cleanP) := by
    rw [List.perm_ext_iff_of_nodup (hne ht2) (hne hs)]
    intro q
    rw [hT2.mem_iff, segF_after hk hk' hb hT h q]
  have e := ps_unique hperm (ht2.imp (fun h => Nat.le_of_lt h)) hs
  subst e
  have ek : keepOf ((T.take (keepOf T)).map cleanP) = keepOf T := keepGo_again none T
  rw [ek]
  have hl : ((T.take (keepOf T)).map cleanP).length ≤ keepOf T := by rw [List.length_map, List.length_take]; omega
  rw [List.take_of_length_le hl, clean_clean]
end Go.Proofs.YtcckoppbophidaaGreatDoor

/- Layer 6: a crash of a durable disk; the numbers of the segments that are kept (no program). -/
namespace Go.Proofs.YtcckoppbophidaaGreatDoor
open Go.RowKit
set_option linter.unusedVariables false
set_option maxRecDepth 100000

theorem crash_view {D : Dk} (h : Durable D) (nb : Nat) : Durable (crD D nb) ∧ ∀ x, fv (crD D nb) x = fv D x := by
  have hf : ∀ x, fv (crD D nb) x = fv D x := fun x => h.dur x
  exact ⟨⟨rfl, fun x => by rw [hf x]; exact h.dur x⟩, hf⟩
/-- The segments go on without a gap; any may be empty. -/
def chainW : Nat → List Seg → Prop
  | _, [] => True
  | f, s :: r => s.base = f ∧ chainW (f + s.evs.length) r
theorem chain_of : ∀ (f : Nat) (p : Option Nat) (segs : List Seg) (T : List PS), (p = none ∨ p = some f) → (p = none → ∀ s, segs.head? = some s → s.base = f) → segs.map Seg.ps = (T.take (keepGo p T)).map cleanP → chainW f segs
  | _, _, [], _, _, _, _ => by simp [chainW]
  | f, p, s :: r, [], _, _, h => by simp at h
  | f, p, s :: r, q :: T, hp, hn, h => by
    by_cases h1 : (p.isSome && p != some q.base) = true
    · rw [keepGo_cons, if_pos h1] at h; simp at h
    · have hq : (s.ps : PS) = cleanP q ∧ r.map Seg.ps = if q.dirty = true then [] else (T.take (keepGo (some (q.base + q.ents.length)) T)).map cleanP := by
        by_cases h2 : q.dirty = true
        · rw [keepGo_cons, if_neg h1, if_pos h2, List.take_succ_cons, List.take_zero, List.map_cons, List.map_cons, List.map_nil, List.cons.injEq] at h
          rw [if_pos h2]; exact h
        · rw [keepGo_cons, if_neg h1, if_neg h2, Nat.add_comm, List.take_succ_cons, List.map_cons, List.map_cons, List.cons.injEq] at h
          rw [if_neg h2]; exact h
      have hb : s.base = q.base := congrArg PS.base hq.1
      have he : s.evs.length = q.ents.length := by have := congrArg (fun p : PS => p.ents.length) hq.1; simpa [Seg.ps, cleanP] using this
      have hbf : s.base = f := by
        rcases hp with rfl | rfl
        · exact hn rfl s rfl
        · simp at h1; omega
      have hr : chainW (f + s.evs.length) r := by
        by_cases h2 : q.dirty = true
        · rw [if_pos h2, List.map_eq_nil_iff] at hq
          rw [hq.2]; simp [chainW]
        · rw [if_neg h2] at hq
          exact chain_of _ (some (q.base + q.ents.length)) r T (.inr (by rw [← hb, hbf, he])) (fun e => by cases e) hq.2
      exact ⟨hbf, hr⟩
theorem chainW_at : ∀ (f : Nat) (segs : List Seg), chainW f segs → ∀ (i : Nat) (s : Seg), segs[i]? = some s → s.base = f + (entsOf (segs.take i)).length
  | _, [], _, i, s, h => by simp at h
  | f, t :: r, hc, 0, s, h => by
    simp only [List.getElem?_cons_zero, Option.some.injEq] at h
    subst h
    rw [List.take_zero]
    show t.base = f + 0
    exact hc.1
  | f, t :: r, hc, i + 1, s, h => by
    rw [List.getElem?_cons_succ] at h
    have := chainW_at _ r hc.2 i s h
    rw [List.take_succ_cons, entsOf_cons, List.length_append, List.length_map, this]
    omega
end Go.Proofs.YtcckoppbophidaaGreatDoor

/- Layer 6: what Open asks, out of the laid variables. -/
namespace Go.Proofs.YtcckoppbophidaaGreatDoor
open Go.RowKit
set_option linter.unusedVariables false
set_option maxRecDepth 100000

theorem baseIs_of {nm f : ByteArray} {w : World} (hs : nm.size ≤ 1000000) (hf : f.size ≤ 1000000) (hv : VarsIn w) (hw : 5 ≤ w.heap.size) : BaseIs nm f (baseOf nm f) w := fun W hb =>
  sbase_calls nm f hs hf W (hv.below hb hw) (by have := hb.size; omega)
theorem openIn_of {w : World} {B d : Nat} {D : Dk} {nm : ByteArray} {room : Int} (hd : DiskAt w B d D) (hn : rightNm nm.data.toList = true) (hr : 1 ≤ room ∧ room ≤ 1048576) (hv : VarsIn w) (hw : 5 ≤ w.heap.size) (hf : ∀ f ∈ D.now, f.1.size ≤ 1000000) (hl : ∀ f ∈ D.now, f.2.2.length ≤ 1099511627776) (hc : D.now.length ≤ 100000) : OpenIn w B d D nm room (baseOf nm) :=
  ⟨hd, hn, hr, fun f hm => baseIs_of (by have := rightNm_size hn; omega) (hf f hm) hv hw, fun f _ n h => (baseOf_some h).1, hl, hc⟩
end Go.Proofs.YtcckoppbophidaaGreatDoor

/- Layer 6: files written to a small disk, whatever their names and data; walked. -/
namespace Go.Proofs.YtcckoppbophidaaGreatDoor
open Go.RowKit Go.Shelf
set_option linter.unusedVariables false
set_option linter.unusedSimpArgs false
set_option maxRecDepth 100000

/-! ### Names that are none -/
theorem dright_long (s : ByteArray) (w : World) (hs : 32 < s.size) : Calls Tryz.prog 65 #[.string s] w fun e w' => e = .returned (.bool false) ∧ w' = w := by
  have d1 : decide ((s.size : Int) < 1) = false := decide_eq_false (by omega)
  have d2 : decide (32 < (s.size : Int)) = true := decide_eq_true (by omega)
  go_enter Tryz.func65, Tryz.ntmps65
  go_wp2_with fail
  go_ret
  exact ⟨rfl, rfl⟩
theorem dright_bad (s : ByteArray) (w : World) (hg : goodNm s.data.toList = false) : Calls Tryz.prog 65 #[.string s] w fun e w' => e = .returned (.bool false) ∧ Below w.heap.size w w' := by
  by_cases hs : s.size ≤ 140737488355328
  · refine (dright_calls s w hs).mono ?_
    rintro e w' ⟨rfl, hb⟩
    exact ⟨by rw [hg], hb⟩
  · refine (dright_long s w (by omega)).mono ?_
    rintro e w' ⟨rfl, rfl⟩
    exact ⟨rfl, Below.refl _ _⟩
theorem dready_bad (d B : Nat) (D : Dk) (nm : ByteArray) (w : World) (h : DiskAt w B d D) (hf : D.fails = false) (hg : goodNm nm.data.toList = false) :
    Calls Tryz.prog 43 #[.pointer (some ⟨d, 0, none⟩), .string nm, .int .i64 0] w fun e w' => e = .returned (.int .i64 1) ∧ Below w.heap.size w w' := by
  obtain ⟨-, c1, -⟩ := h.cells
  rw [hf] at c1
  have HC := Lib.hid (dright_bad nm w hg)
  clear h hf hg
  go_enter Tryz.func43, Tryz.ntmps43
  go_wp2_with fail
  refine HC.out.mono ?_
  rintro e w1 ⟨rfl, hb⟩
  have HB := Lib.hid hb
  clear hb HC
  go_wp2_with fail
  go_ret
  exact ⟨rfl, HB.out⟩
theorem dwrite_bad (d B : Nat) (D : Dk) (nm : ByteArray) (dv : Value) (w : World) (h : DiskAt w B d D) (hf : D.fails = false) (hg : goodNm nm.data.toList = false) :
    Calls Tryz.prog 22 #[.pointer (some ⟨d, 0, none⟩), .string nm, .int .i64 0, dv] w fun e w' => e = .returned (.int .i64 1) ∧ Below w.heap.size w w' := by
  have HR := Lib.hid (dready_bad d B D nm w h hf hg)
  clear h hf hg
  go_enter Tryz.func22, Tryz.ntmps22
  go_wp2_with fail
  refine HR.out.mono ?_
  rintro e w1 ⟨rfl, hb1⟩
  have HB := Lib.hid hb1
  clear hb1 HR
  go_wp2_with fail
  go_ret
  exact ⟨rfl, HB.out⟩
theorem dsync_bad (d B : Nat) (D : Dk) (nm : ByteArray) (w : World) (h : DiskAt w B d D) (hf : D.fails = false) (hg : goodNm nm.data.toList = false) :
    Calls Tryz.prog 23 #[.pointer (some ⟨d, 0, none⟩), .string nm] w fun e w' => e = .returned (.int .i64 1) ∧ Below w.heap.size w w' := by
  have hal := below_alloc w (.cells #[.string nm] 9)
  have bx := box_self (w := w) (cs := #[.string nm]) (e := 9) 0 _ rfl
  have HAL := Lib.hid hal
  have HR := Lib.hid (dready_bad d B D nm _ (h.below hal) hf hg)
  clear h hf hg hal
  go_enter Tryz.func23, Tryz.ntmps23
  go_wp2_with fail
  refine HR.out.mono ?_
  rintro e w1 ⟨rfl, hb1⟩
  have HB := Lib.hid (HAL.out.trans (hb1.mono HAL.out.size))
  clear hb1 HR
  go_wp2_with fail
  go_ret
  exact ⟨rfl, HB.out⟩

/-! ### Write, once more: of data that are empty the address counts for nothing -/
theorem Bytes.only2 {S : Nat → Prop} {w w' : World} {v : Value} {xs : List UInt8} (h : Bytes w v xs) (ho : Only S w w') (hS : ∀ a n c, v = .slice (some a) n c → 0 < xs.length → ¬ S a.block) : Bytes w' v xs := by
  obtain ⟨a, cap, hv, h1, h2, h3⟩ := h
  refine ⟨a, cap, hv, h1, h2, ?_⟩
  rcases h3 with h3 | ⟨b, off, ha, hc⟩
  · exact .inl h3
  · exact .inr ⟨b, off, ha, fun i hi => ho.cell (hS ⟨b, off, none⟩ _ _ (by rw [hv, ha]) (by omega)) (hc i hi)⟩
set_option maxHeartbeats 4000000 in
theorem dwrite2_calls (d B : Nat) (D : Dk) (nm : ByteArray) (at_ : Nat) (dv : Value) (ys : List UInt8) (w : World) (h : DiskAt w B d D) (hv : Bytes w dv ys) (hvF : ∀ a n c, dv = .slice (some a) n c → 0 < ys.length → ¬ D.foot d a.block) (hs : nm.size ≤ 140737488355328) (hat : at_ ≤ 1099511627776) (hy : ys.length ≤ 1099511627776)
    (hf : (fileOf D.now nm).length ≤ 1099511627776) (hus : usedOf D.now ≤ 1152921504606846976) (hn : D.chg.length ≤ 1000000) (hr0 : 0 ≤ D.room) (hr1 : D.room ≤ 1152921504606846976) :
    Calls Tryz.prog 22 #[.pointer (some ⟨d, 0, none⟩), .string nm, .int .i64 at_, dv] w fun e w' => ∃ er, e = .returned (.int .i64 er) ∧ er = wrE D nm at_ ys ∧ WrPost w w' B d D nm at_ ys er := by
  have HR := Lib.hid (dready_calls d B D nm at_ w h hs)
  have HE := Lib.hid (show wrE D nm at_ ys = if rdyE D nm at_ ≠ 0 then rdyE D nm at_ else if (fileOf D.now nm).length < at_ then 8
    else if 0 < (at_ : Int) + ys.length - (fileOf D.now nm).length ∧ D.room - usedOf D.now < (at_ : Int) + ys.length - (fileOf D.now nm).length then 6 else 0 from rfl)
  have HD := Lib.hid h
  have HV := Lib.hid hv
  have HVF := Lib.hid hvF
  clear hvF
  obtain ⟨va, vc, rfl, -⟩ := hv
  obtain ⟨U, hU⟩ : ∃ U, usedOf D.now = U := ⟨_, rfl⟩
  rw [hU] at hus
  have HU := Lib.hid hU
  clear h hU
  generalize wrE D nm at_ ys = wr at *
  generalize rdyE D nm at_ = rd at *
  go_enter Tryz.func22, Tryz.ntmps22
  go_wp2_with fail
  refine HR.out.mono ?_
  rintro e w1 ⟨rfl, hb1⟩
  have HD1 := Lib.hid (HD.out.below hb1)
  have HB1 := Lib.hid hb1
  have HV1 := Lib.hid (HV.out.below hb1 (Nat.le_refl _))
  have hs1 := hb1.size
  clear hb1 HR HV
  by_cases hrd : rd = 0
  · subst hrd
    have HE := Lib.hid (show wr = if (fileOf D.now nm).length < at_ then 8
      else if 0 < (at_ : Int) + ys.length - (fileOf D.now nm).length ∧ D.room - U < (at_ : Int) + ys.length - (fileOf D.now nm).length then 6 else 0 from by rw [HE.out, ← HU.out]; rfl)
    obtain ⟨c0, -, c2, -, c4⟩ := HD1.out.cells
    have hlook := HD1.out.nowM.look (P := Tryz.prog) (t := 59) Tryz.underlying59 Tryz.underlying9 zero_bytes nm false
    simp only [Bool.false_eq_true, if_false] at hlook
    obtain ⟨fa, fc, hlk, hft⟩ := look_txt HD1.out.fnow nm
    rw [hlk] at hlook
    have HFT := Lib.hid hft
    have HUS := Lib.hid (dused_calls d B D)
    generalize hF : fileOf D.now nm = F at *
    have HF := Lib.hid hF
    clear hft hlk hF
    by_cases h8 : F.length < at_
    · have HE := Lib.hid (show wr = 8 from by rw [HE.out, if_pos h8])
      have d1 : decide ((F.length : Int) < (at_ : Int)) = true := decide_eq_true (by omega)
      go_wp2_with fail
      go_ret
      exact ⟨_, rfl, HE.out.symm, .inl ⟨by decide, Turned.of_below HD.out HB1.out⟩⟩
    · have HE := Lib.hid (show wr = if 0 < (at_ : Int) + ys.length - F.length ∧ D.room - U < (at_ : Int) + ys.length - F.length then 6 else 0 from by rw [HE.out, if_neg h8])
      have d1 : decide ((F.length : Int) < (at_ : Int)) = false := decide_eq_false (by omega)
      go_upto_region 8 with fail
      obtain ⟨M, hM⟩ : ∃ M : Int, (at_ : Int) + (ys.length : Int) - (F.length : Int) = M := ⟨_, rfl⟩
      rw [hM] at HE ⊢
      have hM1 : M ≤ 4611686018427387904 := by omega
      have hM2 : -4611686018427387904 ≤ M := by omega
      have q1 := i64w (n := D.room - (U : Int)) (by omega) (by omega)
      have q2 := w64 (n := D.room - (U : Int)) (by omega) (by omega)
      by_cases hm : 0 < M
      · have d2 : decide (0 < M) = true := decide_eq_true hm
        refine region_m [(0, false), (1, false), (2, false), (3, false), (4, false), (5, false), (6, false), (7, false), (8, false), (9, true), (10, false), (11, false), (12, false)] 13 (fun V => V.cell? ⟨d, 0, none⟩ = some (.int .i64 D.room)) (by kernel_rfl) (by kernel_rfl) c0 ?_
        iterate 9
          first
          | (refine m_take (v := ?_) rfl rfl ?_ ?_
             rotate_left
             · intro W hW
               go_simp
               with_reducible rfl
             simp only [Act.put, List.setIfInBounds_toArray, List.set_cons_zero, List.set_cons_succ])
          | (refine m_skip rfl rfl ?_
             simp only [Act.put, List.setIfInBounds_toArray, List.set_cons_zero, List.set_cons_succ])
        refine m_loud rfl (fun K hK => ?_)
        have HK := Lib.hid hK
        clear hK
        go_simp
        refine (HUS.out _ HD1.out.drew (by rw [HU.out]; exact hus)).mono ?_
        rintro e w2 ⟨rfl, hb2⟩
        rw [HU.out]
        have hb2 : Below w1.heap.size w1 w2 := ((Below.refl w1.heap.size w1).drew).trans hb2
        have HD2 := Lib.hid (HD1.out.below hb2)
        have HB2 := Lib.hid (HB1.out.trans (hb2.mono HB1.out.size))
        have HV2 := Lib.hid (HV1.out.below hb2 (Nat.le_refl _))
        have HFT2 := Lib.hid (HFT.out.below hb2)
        have hs2 := hb2.size
        refine HK.out _ _ HD2.out.cells.1 ?_
        clear HK
        clear hb2 c0 c2 c4
        by_cases hful : D.room - U < M
        · have d3 : decide (D.room - (U : Int) < M) = true := decide_eq_true hful
          have HE := Lib.hid (show wr = 6 from by rw [HE.out, if_pos ⟨hm, hful⟩])
          iterate 3
            first
            | (refine m_take (v := ?_) rfl rfl ?_ ?_
               rotate_left
               · intro W hW
                 go_simp
                 with_reducible rfl
               simp only [Act.put, List.setIfInBounds_toArray, List.set_cons_zero, List.set_cons_succ])
            | (refine m_skip rfl rfl ?_
               simp only [Act.put, List.setIfInBounds_toArray, List.set_cons_zero, List.set_cons_succ])
          refine m_done ?_
          simp only [List.drop_succ_cons, List.drop_zero]
          go_wp2_with fail
          simp only [NP]
          go_wp2_with fail
          go_ret
          exact ⟨_, rfl, HE.out.symm, .inl ⟨by decide, Turned.of_below HD.out HB2.out⟩⟩
        · have d3 : decide (D.room - (U : Int) < M) = false := decide_eq_false hful
          have HE0 := Lib.hid (show wr = 0 from by rw [HE.out, if_neg (fun h => hful h.2)])
          iterate 3
            first
            | (refine m_take (v := ?_) rfl rfl ?_ ?_
               rotate_left
               · intro W hW
                 go_simp
                 with_reducible rfl
               simp only [Act.put, List.setIfInBounds_toArray, List.set_cons_zero, List.set_cons_succ])
            | (refine m_skip rfl rfl ?_
               simp only [Act.put, List.setIfInBounds_toArray, List.set_cons_zero, List.set_cons_succ])
          refine m_done ?_
          simp only [List.drop_succ_cons, List.drop_zero]
          generalize w2 = V at *
          have HDV := HD2
          have HBV := HB2
          have HVV := HV2
          have HFV := HFT2
          clear HD2 HB2 HV2 HFT2
          -- from region 10 on, in the world V
          have HE := Lib.hid (show wr = 0 from HE0.out)
          obtain ⟨c0, -, c2, -, c4⟩ := HDV.out.cells
          go_upto_region 10 with fail
          simp only [NP]
          go_upto_region 10 with fail
          refine region_m [(0, false), (1, false), (2, false), (3, false), (4, false), (5, false), (6, false), (7, false), (8, true)] 9 (fun X => X.cell? ⟨d, 2, none⟩ = some (.map (some D.nb))) (by kernel_rfl) (by kernel_rfl) c2 ?_
          iterate 8
            first
            | (refine m_take (v := ?_) rfl rfl ?_ ?_
               rotate_left
               · intro W hW
                 go_simp
                 with_reducible rfl
               simp only [Act.put, List.setIfInBounds_toArray, List.set_cons_zero, List.set_cons_succ])
            | (refine m_skip rfl rfl ?_
               simp only [Act.put, List.setIfInBounds_toArray, List.set_cons_zero, List.set_cons_succ])
          refine m_loud rfl (fun K hK => ?_)
          have HK := Lib.hid hK
          clear hK
          go_simp
          refine (dwritten_calls _ _ F ys at_ _ (HFV.out.drew).1 (HVV.out.below ((Below.refl _ _).drew) (Nat.le_refl _)) (by omega) (by omega) (by omega)).mono ?_
          rintro e w4 ⟨nv, rfl, hm4, hb4⟩
          have hb4 : Below V.heap.size V w4 := ((Below.refl V.heap.size V).drew).trans hb4
          have HD4 := Lib.hid (HDV.out.below hb4)
          have HB4 := Lib.hid (HBV.out.trans (hb4.mono HBV.out.size))
          have HM4 := Lib.hid (Txt.of_mine hm4)
          have HV4 := Lib.hid (HVV.out.below hb4 (Nat.le_refl _))
          have hs4 := hb4.size
          refine HK.out _ _ HD4.out.cells.2.2.1 ?_
          clear HK
          clear hm4 hb4 c0 c2 c4
          refine m_done ?_
          simp only [List.drop_succ_cons, List.drop_zero]
          obtain ⟨w5, hr5, ht5⟩ := setNow HD4.out HM4.out nm
          have HT5 := Lib.hid ((Turned.of_below HD.out HB4.out).trans ht5)
          have HD5 := Lib.hid ht5.is
          have HON5 := Lib.hid ht5.only
          have c4 := ht5.is.cells.2.2.2.2
          have HV5 := Lib.hid (HV4.out.only2 ht5.only (fun a n c e h0 hf => HVF.out a n c e h0 hf))
          have hs5 := ht5.only.size
          clear ht5
          go_upto_region 11 with fail
          simp only [NP]
          go_upto_region 11 with fail
          refine region_m [(0, false), (1, false), (2, false), (3, false), (4, false), (5, false), (6, false), (7, false), (8, true), (9, false), (10, true), (11, true)] 12 (fun X => X.cell? ⟨d, 4, none⟩ = some D.cv) (by kernel_rfl) (by kernel_rfl) c4 ?_
          iterate 8
            first
            | (refine m_take (v := ?_) rfl rfl ?_ ?_
               rotate_left
               · intro W hW
                 go_simp
                 with_reducible rfl
               simp only [Act.put, List.setIfInBounds_toArray, List.set_cons_zero, List.set_cons_succ])
            | (refine m_skip rfl rfl ?_
               simp only [Act.put, List.setIfInBounds_toArray, List.set_cons_zero, List.set_cons_succ])
          refine m_loud rfl (fun K hK => ?_)
          have HK := Lib.hid hK
          clear hK
          go_simp
          refine (cloneB_calls _ ys _ (HV5.out.below ((Below.refl _ _).drew) (Nat.le_refl _)) (by omega)).mono ?_
          rintro e w6 ⟨cv', rfl, hm6, hb6⟩
          have hb6 : Below w5.heap.size w5 w6 := ((Below.refl w5.heap.size w5).drew).trans hb6
          have HT6 := Lib.hid (HT5.out.below hb6)
          have HM6 := Lib.hid (Txt.of_mine hm6)
          obtain ⟨xa, xc, rfl⟩ := hm6.slice
          have c6 := HT6.out.is.cells.2.2.2.2
          have c6 : w6.cell? ⟨d, 4, none⟩ = some D.cv := c6
          refine HK.out _ _ c6 ?_
          clear HK
          clear hm6 hb6 c4
          iterate 1
            first
            | (refine m_take (v := ?_) rfl rfl ?_ ?_
               rotate_left
               · intro W hW
                 go_simp
                 with_reducible rfl
               simp only [Act.put, List.setIfInBounds_toArray, List.set_cons_zero, List.set_cons_succ])
            | (refine m_skip rfl rfl ?_
               simp only [Act.put, List.setIfInBounds_toArray, List.set_cons_zero, List.set_cons_succ])
          refine m_loud rfl (fun K hK => ?_)
          have HK := Lib.hid hK
          clear hK
          go_simp
          have hb7 := below_alloc w6 (.cells #[.int .i64 0, .string nm, .int .i64 at_, .slice xa ys.length xc] 87)
          have HT7 := Lib.hid (HT6.out.below hb7)
          have c7 : (w6.alloc (.cells #[.int .i64 0, .string nm, .int .i64 at_, .slice xa ys.length xc] 87)).cell? ⟨d, 4, none⟩ = some D.cv := HT7.out.is.cells.2.2.2.2
          have HM7 := Lib.hid (HM6.out.below hb7)
          have HLIT := Lib.hid (Rd.lit (w := w6) (cs := #[.int .i64 0, .string nm, .int .i64 at_, .slice xa ys.length xc]) (e := 87) (n := 1) (sz := 4) rfl (by omega))
          refine HK.out _ _ c7 ?_
          clear HK
          clear hb7 c6
          have hB7 : B ≤ (w6.alloc (.cells #[.int .i64 0, .string nm, .int .i64 at_, .slice xa ys.length xc] 87)).heap.size := by have := HT7.out.is.foot_lt (.inl rfl); omega
          generalize hW7 : w6.alloc (.cells #[.int .i64 0, .string nm, .int .i64 at_, .slice xa ys.length xc] 87) = w7 at *
          have HW7 := Lib.hid hW7
          clear hW7
          refine m_app tyChgs (base := B) (n := D.chg.length) HT7.out.is.row HLIT.out (by simp [Value.oneCell']) (by omega) (by omega) (by omega) hB7 rfl rfl rfl rfl rfl ?_
          intro g cap w8 ho8 hold8 hg8 hgc8
          have ht8 := addChg (c := ⟨0, nm, at_, .slice xa ys.length xc, ys⟩) HT7.out.is HM7.out (by have := ho8; exact this) hg8 (fun j e => by
            simp only [Value.ownBlock, Option.some.injEq] at e
            subst e
            rcases hgc8 with ⟨k, c, e, -⟩ | e
            · exact .inl (by rw [show ({ D with now := mput D.now nm (nv, wrt F ys at_) } : Dk).cv = D.cv from rfl] at *; rw [e]; rfl)
            · exact .inr e)
          have HT8 := Lib.hid (HT7.out.trans ht8)
          have hrb := ownsRow_only HT7.out.is.box (Only.of_grown hg8) (fun g hg e => HT7.out.is.row_ne e (by simp only [Value.ownBlock, Option.some.injEq] at hg; exact hg.symm))
          have c8 : w8.cell? ⟨d, 4, none⟩ = some D.cv := by
            have e := fun j u hj => World.ownsRow.cells hrb (g := d) rfl j u hj
            simp only [add_off, Nat.zero_add] at e
            exact e 4 _ rfl
          have f8 : w8.frozen? ⟨d, 4, none⟩ = false := World.ownsRow.frozenAt hrb 4
          refine ⟨c8, ?_⟩
          clear ht8 ho8 hold8 hg8 hgc8 hrb c7
          refine m_done ?_
          simp only [List.drop_succ_cons, List.drop_zero]
          go_wp2_with fail
          simp only [NP]
          go_wp2_with fail
          go_ret
          exact ⟨_, rfl, HE.out.symm, .inr ⟨rfl, nv, _, _, by unfold wrD; rw [HF.out]; exact HT8.out⟩⟩
      · have d2 : decide (0 < M) = false := decide_eq_false hm
        have HE0 := Lib.hid (show wr = 0 from by rw [HE.out, if_neg (fun h => hm h.1)])
        refine region_m [(0, false), (1, false), (2, false), (3, false), (4, false), (5, false), (6, false), (7, false), (8, false), (9, true), (10, false), (11, false), (12, false)] 13 (fun V => True) (by kernel_rfl) (by kernel_rfl) trivial ?_
        iterate 9
          first
          | (refine m_take (v := ?_) rfl rfl ?_ ?_
             rotate_left
             · intro W hW
               go_simp
               with_reducible rfl
             simp only [Act.put, List.setIfInBounds_toArray, List.set_cons_zero, List.set_cons_succ])
          | (refine m_skip rfl rfl ?_
             simp only [Act.put, List.setIfInBounds_toArray, List.set_cons_zero, List.set_cons_succ])
        refine m_loud rfl (fun K hK => ?_)
        have HK := Lib.hid hK
        clear hK
        go_simp
        refine HK.out _ _ trivial ?_
        clear HK
        iterate 3
          first
          | (refine m_take (v := ?_) rfl rfl ?_ ?_
             rotate_left
             · intro W hW
               go_simp
               with_reducible rfl
             simp only [Act.put, List.setIfInBounds_toArray, List.set_cons_zero, List.set_cons_succ])
          | (refine m_skip rfl rfl ?_
             simp only [Act.put, List.setIfInBounds_toArray, List.set_cons_zero, List.set_cons_succ])
        refine m_done ?_
        simp only [List.drop_succ_cons, List.drop_zero]
        have HDV := Lib.hid HD1.out.drew
        have HBV := Lib.hid HB1.out.drew
        have HVV := Lib.hid (HV1.out.below ((Below.refl _ _).drew) (Nat.le_refl _))
        have HFV := Lib.hid HFT.out.drew
        clear HD1 HB1 HV1 HFT
        generalize w1.drew = V at *
        -- from region 10 on, in the world V
        have HE := Lib.hid (show wr = 0 from HE0.out)
        obtain ⟨c0, -, c2, -, c4⟩ := HDV.out.cells
        go_upto_region 10 with fail
        simp only [NP]
        go_upto_region 10 with fail
        refine region_m [(0, false), (1, false), (2, false), (3, false), (4, false), (5, false), (6, false), (7, false), (8, true)] 9 (fun X => X.cell? ⟨d, 2, none⟩ = some (.map (some D.nb))) (by kernel_rfl) (by kernel_rfl) c2 ?_
        iterate 8
          first
          | (refine m_take (v := ?_) rfl rfl ?_ ?_
             rotate_left
             · intro W hW
               go_simp
               with_reducible rfl
             simp only [Act.put, List.setIfInBounds_toArray, List.set_cons_zero, List.set_cons_succ])
          | (refine m_skip rfl rfl ?_
             simp only [Act.put, List.setIfInBounds_toArray, List.set_cons_zero, List.set_cons_succ])
        refine m_loud rfl (fun K hK => ?_)
        have HK := Lib.hid hK
        clear hK
        go_simp
        refine (dwritten_calls _ _ F ys at_ _ (HFV.out.drew).1 (HVV.out.below ((Below.refl _ _).drew) (Nat.le_refl _)) (by omega) (by omega) (by omega)).mono ?_
        rintro e w4 ⟨nv, rfl, hm4, hb4⟩
        have hb4 : Below V.heap.size V w4 := ((Below.refl V.heap.size V).drew).trans hb4
        have HD4 := Lib.hid (HDV.out.below hb4)
        have HB4 := Lib.hid (HBV.out.trans (hb4.mono HBV.out.size))
        have HM4 := Lib.hid (Txt.of_mine hm4)
        have HV4 := Lib.hid (HVV.out.below hb4 (Nat.le_refl _))
        have hs4 := hb4.size
        refine HK.out _ _ HD4.out.cells.2.2.1 ?_
        clear HK
        clear hm4 hb4 c0 c2 c4
        refine m_done ?_
        simp only [List.drop_succ_cons, List.drop_zero]
        obtain ⟨w5, hr5, ht5⟩ := setNow HD4.out HM4.out nm
        have HT5 := Lib.hid ((Turned.of_below HD.out HB4.out).trans ht5)
        have HD5 := Lib.hid ht5.is
        have HON5 := Lib.hid ht5.only
        have c4 := ht5.is.cells.2.2.2.2
        have HV5 := Lib.hid (HV4.out.only2 ht5.only (fun a n c e h0 hf => HVF.out a n c e h0 hf))
        have hs5 := ht5.only.size
        clear ht5
        go_upto_region 11 with fail
        simp only [NP]
        go_upto_region 11 with fail
        refine region_m [(0, false), (1, false), (2, false), (3, false), (4, false), (5, false), (6, false), (7, false), (8, true), (9, false), (10, true), (11, true)] 12 (fun X => X.cell? ⟨d, 4, none⟩ = some D.cv) (by kernel_rfl) (by kernel_rfl) c4 ?_
        iterate 8
          first
          | (refine m_take (v := ?_) rfl rfl ?_ ?_
             rotate_left
             · intro W hW
               go_simp
               with_reducible rfl
             simp only [Act.put, List.setIfInBounds_toArray, List.set_cons_zero, List.set_cons_succ])
          | (refine m_skip rfl rfl ?_
             simp only [Act.put, List.setIfInBounds_toArray, List.set_cons_zero, List.set_cons_succ])
        refine m_loud rfl (fun K hK => ?_)
        have HK := Lib.hid hK
        clear hK
        go_simp
        refine (cloneB_calls _ ys _ (HV5.out.below ((Below.refl _ _).drew) (Nat.le_refl _)) (by omega)).mono ?_
        rintro e w6 ⟨cv', rfl, hm6, hb6⟩
        have hb6 : Below w5.heap.size w5 w6 := ((Below.refl w5.heap.size w5).drew).trans hb6
        have HT6 := Lib.hid (HT5.out.below hb6)
        have HM6 := Lib.hid (Txt.of_mine hm6)
        obtain ⟨xa, xc, rfl⟩ := hm6.slice
        have c6 := HT6.out.is.cells.2.2.2.2
        have c6 : w6.cell? ⟨d, 4, none⟩ = some D.cv := c6
        refine HK.out _ _ c6 ?_
        clear HK
        clear hm6 hb6 c4
        iterate 1
          first
          | (refine m_take (v := ?_) rfl rfl ?_ ?_
             rotate_left
             · intro W hW
               go_simp
               with_reducible rfl
             simp only [Act.put, List.setIfInBounds_toArray, List.set_cons_zero, List.set_cons_succ])
          | (refine m_skip rfl rfl ?_
             simp only [Act.put, List.setIfInBounds_toArray, List.set_cons_zero, List.set_cons_succ])
        refine m_loud rfl (fun K hK => ?_)
        have HK := Lib.hid hK
        clear hK
        go_simp
        have hb7 := below_alloc w6 (.cells #[.int .i64 0, .string nm, .int .i64 at_, .slice xa ys.length xc] 87)
        have HT7 := Lib.hid (HT6.out.below hb7)
        have c7 : (w6.alloc (.cells #[.int .i64 0, .string nm, .int .i64 at_, .slice xa ys.length xc] 87)).cell? ⟨d, 4, none⟩ = some D.cv := HT7.out.is.cells.2.2.2.2
        have HM7 := Lib.hid (HM6.out.below hb7)
        have HLIT := Lib.hid (Rd.lit (w := w6) (cs := #[.int .i64 0, .string nm, .int .i64 at_, .slice xa ys.length xc]) (e := 87) (n := 1) (sz := 4) rfl (by omega))
        refine HK.out _ _ c7 ?_
        clear HK
        clear hb7 c6
        have hB7 : B ≤ (w6.alloc (.cells #[.int .i64 0, .string nm, .int .i64 at_, .slice xa ys.length xc] 87)).heap.size := by have := HT7.out.is.foot_lt (.inl rfl); omega
        generalize hW7 : w6.alloc (.cells #[.int .i64 0, .string nm, .int .i64 at_, .slice xa ys.length xc] 87) = w7 at *
        have HW7 := Lib.hid hW7
        clear hW7
        refine m_app tyChgs (base := B) (n := D.chg.length) HT7.out.is.row HLIT.out (by simp [Value.oneCell']) (by omega) (by omega) (by omega) hB7 rfl rfl rfl rfl rfl ?_
        intro g cap w8 ho8 hold8 hg8 hgc8
        have ht8 := addChg (c := ⟨0, nm, at_, .slice xa ys.length xc, ys⟩) HT7.out.is HM7.out (by have := ho8; exact this) hg8 (fun j e => by
          simp only [Value.ownBlock, Option.some.injEq] at e
          subst e
          rcases hgc8 with ⟨k, c, e, -⟩ | e
          · exact .inl (by rw [show ({ D with now := mput D.now nm (nv, wrt F ys at_) } : Dk).cv = D.cv from rfl] at *; rw [e]; rfl)
          · exact .inr e)
        have HT8 := Lib.hid (HT7.out.trans ht8)
        have hrb := ownsRow_only HT7.out.is.box (Only.of_grown hg8) (fun g hg e => HT7.out.is.row_ne e (by simp only [Value.ownBlock, Option.some.injEq] at hg; exact hg.symm))
        have c8 : w8.cell? ⟨d, 4, none⟩ = some D.cv := by
          have e := fun j u hj => World.ownsRow.cells hrb (g := d) rfl j u hj
          simp only [add_off, Nat.zero_add] at e
          exact e 4 _ rfl
        have f8 : w8.frozen? ⟨d, 4, none⟩ = false := World.ownsRow.frozenAt hrb 4
        refine ⟨c8, ?_⟩
        clear ht8 ho8 hold8 hg8 hgc8 hrb c7
        refine m_done ?_
        simp only [List.drop_succ_cons, List.drop_zero]
        go_wp2_with fail
        simp only [NP]
        go_wp2_with fail
        go_ret
        exact ⟨_, rfl, HE.out.symm, .inr ⟨rfl, nv, _, _, by unfold wrD; rw [HF.out]; exact HT8.out⟩⟩
  · have e1 : (rd != 0) = true := by simp [hrd]
    have HE := Lib.hid (show wr = rd from by rw [HE.out, if_pos hrd])
    go_wp2_with fail
    go_ret
    exact ⟨_, rfl, HE.out.symm, .inl ⟨hrd, Turned.of_below HD.out HB1.out⟩⟩

/-! ### Data that are too long -/
set_option maxHeartbeats 2000000 in
theorem dwrite_full (d B : Nat) (D : Dk) (nm : ByteArray) (dv : Value) (ys : List UInt8) (w : World) (h : DiskAt w B d D) (hg : goodNm nm.data.toList = true) (hnf : D.fails = false) (hv : Bytes w dv ys) (hy : 1099511627776 < ys.length) (hs : nm.size ≤ 140737488355328)
    (hf : (fileOf D.now nm).length ≤ 1073741824) (hus : usedOf D.now ≤ 1073741824) (hr0 : 0 ≤ D.room) (hr1 : D.room ≤ 1073741824) :
    Calls Tryz.prog 22 #[.pointer (some ⟨d, 0, none⟩), .string nm, .int .i64 0, dv] w fun e w' => e = .returned (.int .i64 6) ∧ Below w.heap.size w w' := by
  have HR := Lib.hid (show Calls Tryz.prog 43 #[.pointer (some ⟨d, 0, none⟩), .string nm, .int .i64 0] w fun e w' => e = .returned (.int .i64 0) ∧ Below w.heap.size w w' from by
    refine (dready_calls d B D nm 0 w h hs).mono ?_
    rintro e w' ⟨rfl, hb⟩
    refine ⟨?_, hb⟩
    unfold rdyE
    rw [hnf, hg]
    rfl)
  have HD := Lib.hid h
  obtain ⟨va, vc, rfl, hyc, hyc2, -⟩ := hv
  have hy2 : ys.length ≤ 9223372036854775807 := Nat.le_trans hyc hyc2
  obtain ⟨U, hU⟩ : ∃ U, usedOf D.now = U := ⟨_, rfl⟩
  rw [hU] at hus
  have HU := Lib.hid hU
  clear h hU hnf hg hyc hyc2
  go_enter Tryz.func22, Tryz.ntmps22
  go_wp2_with fail
  refine HR.out.mono ?_
  rintro e w1 ⟨rfl, hb1⟩
  have HD1 := Lib.hid (HD.out.below hb1)
  have HB1 := Lib.hid hb1
  have hs1 := hb1.size
  clear hb1 HR
  obtain ⟨c0, -, c2, -, c4⟩ := HD1.out.cells
  have hlook := HD1.out.nowM.look (P := Tryz.prog) (t := 59) Tryz.underlying59 Tryz.underlying9 zero_bytes nm false
  simp only [Bool.false_eq_true, if_false] at hlook
  obtain ⟨fa, fc, hlk, hft⟩ := look_txt HD1.out.fnow nm
  rw [hlk] at hlook
  have HUS := Lib.hid (dused_calls d B D)
  generalize hF : fileOf D.now nm = F at *
  clear hft hlk hF
  have d1 : decide ((F.length : Int) < 0) = false := decide_eq_false (by omega)
  go_upto_region 8 with fail
  obtain ⟨M, hM⟩ : ∃ M : Int, (ys.length : Int) - (F.length : Int) = M := ⟨_, rfl⟩
  have hM0 : wrap64 (ys.length : Int) = (ys.length : Int) := w64 (by omega) (by omega)
  have hM1 : M ≤ 9223372036854775807 := by omega
  have hM2 : 1073741824 < M := by omega
  simp only [Int.zero_add, hM] 
  have q1 := i64w (n := D.room - (U : Int)) (by omega) (by omega)
  have q2 := w64 (n := D.room - (U : Int)) (by omega) (by omega)
  have d2 : decide (0 < M) = true := decide_eq_true (by omega)
  clear hM
  refine region_m [(0, false), (1, false), (2, false), (3, false), (4, false), (5, false), (6, false), (7, false), (8, false), (9, true), (10, false), (11, false), (12, false)] 13 (fun V => V.cell? ⟨d, 0, none⟩ = some (.int .i64 D.room)) (by kernel_rfl) (by kernel_rfl) c0 ?_
  iterate 9
    first
    | (refine m_take (v := ?_) rfl rfl ?_ ?_
       rotate_left
       · intro W hW
         go_simp
         with_reducible rfl
       simp only [Act.put, List.setIfInBounds_toArray, List.set_cons_zero, List.set_cons_succ])
    | (refine m_skip rfl rfl ?_
       simp only [Act.put, List.setIfInBounds_toArray, List.set_cons_zero, List.set_cons_succ])
  refine m_loud rfl (fun K hK => ?_)
  have HK := Lib.hid hK
  clear hK
  go_simp
  refine (HUS.out _ HD1.out.drew (by rw [HU.out]; omega)).mono ?_
  rintro e w2 ⟨rfl, hb2⟩
  rw [HU.out]
  have hb2 : Below w1.heap.size w1 w2 := ((Below.refl w1.heap.size w1).drew).trans hb2
  have HD2 := Lib.hid (HD1.out.below hb2)
  have HB2 := Lib.hid (HB1.out.trans (hb2.mono HB1.out.size))
  refine HK.out _ _ HD2.out.cells.1 ?_
  clear HK
  clear hb2 c0 c2 c4
  have d3 : decide (D.room - (U : Int) < M) = true := decide_eq_true (by omega)
  iterate 3
    first
    | (refine m_take (v := ?_) rfl rfl ?_ ?_
       rotate_left
       · intro W hW
         go_simp
         with_reducible rfl
       simp only [Act.put, List.setIfInBounds_toArray, List.set_cons_zero, List.set_cons_succ])
    | (refine m_skip rfl rfl ?_
       simp only [Act.put, List.setIfInBounds_toArray, List.set_cons_zero, List.set_cons_succ])
  refine m_done ?_
  simp only [List.drop_succ_cons, List.drop_zero]
  go_wp2_with fail
  simp only [NP]
  go_wp2_with fail
  go_ret
  exact ⟨rfl, HB2.out⟩

/-! ### Open with a room that is none -/
theorem lopen_arg (d : Nat) (nm : ByteArray) (room : Int) (w : World) (hn : rightNm nm.data.toList = true) (hr : room < 1 ∨ 1048576 < room) :
    Calls Tryz.prog 9 #[.pointer (some ⟨d, 0, none⟩), .string nm, .int .i64 room] w fun e w' => e = .returned (.tuple #[.pointer none, .int .i64 1]) ∧ Below w.heap.size w w' := by
  have hns := rightNm_size hn
  have HR := Lib.hid (lright_calls nm w (by omega))
  have HN := Lib.hid hn
  clear hn
  by_cases h1 : room < 1
  · have d1 : decide (room < 1) = true := decide_eq_true h1
    go_enter Tryz.func9, Tryz.ntmps9
    go_wp2_with fail
    refine HR.out.mono ?_
    rintro e w1 ⟨rfl, hb1⟩
    have HB := Lib.hid hb1
    clear hb1 HR
    rw [HN.out]
    go_wp2_with fail
    go_ret2
    exact ⟨rfl, HB.out⟩
  · have d1 : decide (room < 1) = false := decide_eq_false h1
    have d2 : decide (1048576 < room) = true := decide_eq_true (by omega)
    go_enter Tryz.func9, Tryz.ntmps9
    go_wp2_with fail
    refine HR.out.mono ?_
    rintro e w1 ⟨rfl, hb1⟩
    have HB := Lib.hid hb1
    clear hb1 HR
    rw [HN.out]
    go_wp2_with fail
    go_ret2
    exact ⟨rfl, HB.out⟩
end Go.Proofs.YtcckoppbophidaaGreatDoor

/- Layer 6: a small durable disk, through writes, Open and a crash. -/
namespace Go.Proofs.YtcckoppbophidaaGreatDoor
open Go.RowKit Go.Shelf
set_option linter.unusedVariables false
set_option linter.unusedSimpArgs false
set_option maxRecDepth 100000

theorem nodup_le {α : Type} [DecidableEq α] : ∀ {a b : List α}, a.Nodup → (∀ x ∈ a, x ∈ b) → a.length ≤ b.length
  | [], _, _, _ => by simp
  | x :: a, b, hn, h => by
    have hx := h x (List.mem_cons_self)
    rw [List.nodup_cons] at hn
    have ih := nodup_le (a := a) (b := b.erase x) hn.2 (fun y hy => by
      have hne : y ≠ x := fun e => hn.1 (by rw [← e]; exact hy)
      rw [List.mem_erase_of_ne hne]
      exact h y (List.mem_cons_of_mem _ hy))
    have hl := List.length_erase_of_mem hx
    have := List.length_pos_of_mem hx
    rw [List.length_cons]
    omega
/-- Few short files. -/
structure FSm (m : Files) (i : Nat) : Prop where
  cnt : m.length ≤ i
  nm : ∀ f ∈ m, f.1.size ≤ 32
  len : ∀ f ∈ m, f.2.2.length ≤ 1048576
structure FD (D : Dk) (i : Nat) : Prop where
  dur : Durable D
  fails : D.fails = false
  room : D.room = 1048576
  used : usedOf D.now ≤ 1048576
  cnt : D.now.length ≤ i
  nm : ∀ f ∈ D.now, f.1.size ≤ 32
theorem FD.new (n : Nat) : FD (newD 1048576 n) 0 := ⟨⟨rfl, fun x => rfl⟩, rfl, rfl, by simp [newD, usedOf], by simp [newD], fun f hf => by cases hf⟩
theorem FD.mono {D : Dk} {i j : Nat} (h : FD D i) (hj : i ≤ j) : FD D j := ⟨h.dur, h.fails, h.room, h.used, Nat.le_trans h.cnt hj, h.nm⟩
theorem used_mem {f : ByteArray × (Value × List UInt8)} : ∀ {m : Files}, f ∈ m → f.2.2.length ≤ usedOf m
  | [], h => by cases h
  | g :: m, h => by
    have e : usedOf (g :: m) = g.2.2.length + usedOf m := by simp [usedOf]
    rcases List.mem_cons.1 h with rfl | h
    · omega
    · have := used_mem h
      omega
theorem FD.sm {D : Dk} {i : Nat} (h : FD D i) : FSm D.now i := ⟨h.cnt, h.nm, fun f hf => Nat.le_trans (used_mem hf) h.used⟩
theorem goodNm_size {s : ByteArray} (h : goodNm s.data.toList = true) : s.size ≤ 32 := by
  unfold goodNm at h
  simp only [Bool.and_eq_true, decide_eq_true_eq] at h
  have := h.1.2
  rw [Array.length_toList] at this
  exact this
/-- Behind Write. -/
def FW (D D1 : Dk) (nm : ByteArray) : Prop := D1 = D ∨ (goodNm nm.data.toList = true ∧ ∃ ys nv dv cv, D1 = wrD D nm 0 ys nv dv cv ∧ usedOf D1.now ≤ 1048576)
theorem fwrite_calls (d B i : Nat) (D : Dk) (nm : ByteArray) (dv : Value) (ys : List UInt8) (w : World) (h : DiskAt w B d D) (hF : FD D i) (hv : Bytes w dv ys) (hvF : ∀ a n c, dv = .slice (some a) n c → 0 < ys.length → ¬ D.foot d a.block) :
    Calls Tryz.prog 22 #[.pointer (some ⟨d, 0, none⟩), .string nm, .int .i64 0, dv] w fun e w' => ∃ er D1, e = .returned (.int .i64 er) ∧ Turned w w' B d D D1 ∧ FW D D1 nm := by
  cases hg : goodNm nm.data.toList with
  | false =>
    refine (dwrite_bad d B D nm dv w h hF.fails hg).mono ?_
    rintro e w' ⟨rfl, hb⟩
    exact ⟨1, D, rfl, Turned.of_below h hb, .inl rfl⟩
  | true =>
    have hs := goodNm_size hg
    have hfl : (fileOf D.now nm).length ≤ 1048576 := Nat.le_trans (file_le D.now nm) hF.used
    have hu := hF.used
    by_cases hl : ys.length ≤ 1099511627776
    · refine (dwrite2_calls d B D nm 0 dv ys w h hv hvF (by omega) (by omega) hl (by omega) (by omega) (by rw [hF.dur.chg]; simp) (by rw [hF.room]; omega) (by rw [hF.room]; omega)).mono ?_
      rintro e w' ⟨er, rfl, he, (⟨-, ht⟩ | ⟨h0, nv, dv', cv, ht⟩)⟩
      · exact ⟨er, D, rfl, ht, .inl rfl⟩
      · refine ⟨er, _, rfl, ht, .inr ⟨hg, ys, nv, dv', cv, rfl, ?_⟩⟩
        rw [h0] at he
        unfold wrE at he
        split at he
        · rename_i hr; exact absurd he.symm hr
        · split at he
          · cases he
          · split at he
            · cases he
            · rename_i hn
              have hp := usedOf_put (k := nm) (v := nv) (xs := wrt (fileOf D.now nm) ys 0) (m := D.now)
              have hw := wrt_len (xs := fileOf D.now nm) (ys := ys) (at_ := 0) (by omega)
              show usedOf (mput D.now nm (nv, wrt (fileOf D.now nm) ys 0)) ≤ 1048576
              rw [hF.room] at hn
              omega
    · refine (dwrite_full d B D nm dv ys w h hg hF.fails hv (by omega) (by omega) (by omega) (by omega) (by rw [hF.room]; omega) (by rw [hF.room]; omega)).mono ?_
      rintro e w' ⟨rfl, hb⟩
      exact ⟨6, D, rfl, Turned.of_below h hb, .inl rfl⟩
theorem fsync_calls (d B i : Nat) (D D1 : Dk) (nm : ByteArray) (w : World) (h : DiskAt w B d D1) (h0 : D.dur.length = D.dur.length) (hF : FD D i) (hW : FW D D1 nm) :
    Calls Tryz.prog 23 #[.pointer (some ⟨d, 0, none⟩), .string nm] w fun e w' => ∃ er D2, e = .returned (.int .i64 er) ∧ Turned w w' B d D1 D2 ∧ FD D2 (i + 1) := by
  cases hg : goodNm nm.data.toList with
  | false =>
    obtain rfl : D1 = D := by
      rcases hW with e | ⟨e, -⟩
      · exact e
      · rw [hg] at e; cases e
    refine (dsync_bad d B D1 nm w h hF.fails hg).mono ?_
    rintro e w' ⟨rfl, hb⟩
    exact ⟨1, D1, rfl, Turned.of_below h hb, hF.mono (by omega)⟩
  | true =>
    have hs := goodNm_size hg
    rcases hW with rfl | ⟨-, ys, nv, dv, cv, rfl, hu⟩
    · have hu := hF.used
      have hfl : (fileOf D1.now nm).length ≤ 1048576 := Nat.le_trans (file_le D1.now nm) hF.used
      refine (dsync_calls d B D1 nm w h (by omega) (by omega) (by rw [hF.dur.chg]; simp)).mono ?_
      rintro e w' ⟨er, rfl, -, (⟨-, ht⟩ | ⟨-, cv, v, ht⟩)⟩
      · exact ⟨er, D1, rfl, ht, hF.mono (by omega)⟩
      · refine ⟨er, _, rfl, ht, ⟨(sync_view h hF.dur nm cv v).1, hF.fails, hF.room, hu, ?_, hF.nm⟩⟩
        have := hF.cnt
        show D1.now.length ≤ i + 1
        omega
    · have hfl := file_le (wrD D nm 0 ys nv dv cv).now nm
      refine (dsync_calls d B (wrD D nm 0 ys nv dv cv) nm w h (by omega) (by omega) (by
        show (D.chg ++ [_]).length ≤ _
        rw [hF.dur.chg]; simp)).mono ?_
      rintro e w' ⟨er, rfl, he, hp⟩
      have hthere : mget (wrD D nm 0 ys nv dv cv).now nm = some (nv, wrt (fileOf D.now nm) ys 0) := mget_put_same _ _ _
      have he0 : er = 0 := by
        rw [he]
        unfold syE
        have hr : rdyE (wrD D nm 0 ys nv dv cv) nm 0 = 0 := by
          unfold rdyE
          rw [show (wrD D nm 0 ys nv dv cv).fails = false from hF.fails, hg]
          rfl
        rw [hr, if_neg (by simp), if_neg (by rw [hthere]; simp)]
      rcases hp with ⟨h1, -⟩ | ⟨-, cv2, v2, ht⟩
      · exact absurd he0 h1
      · refine ⟨er, _, rfl, ht, ⟨(write_view hF.dur nm 0 ys nv dv cv cv2 v2).1, hF.fails, hF.room, hu, ?_, fun f hf => ?_⟩⟩
        · have := hF.cnt
          have := mput_len (k := nm) (v := (nv, wrt (fileOf D.now nm) ys 0)) (m := D.now)
          show (mput D.now nm (nv, wrt (fileOf D.now nm) ys 0)).length ≤ i + 1
          omega
        · rcases mput_mem (show f ∈ mput D.now nm (nv, wrt (fileOf D.now nm) ys 0) from hf) with rfl | hf
          · exact hs
          · exact hF.nm f hf
/-- Open finds no more, no longer and no other names than there were; a crash neither. -/
theorem FSm.view {w : World} {B d i : Nat} {D D' : Dk} (h : FSm D.now i) (hd : DiskAt w B d D') (hv : ∀ x xs, fv D' x = some xs → ∃ ys, fv D x = some ys ∧ xs.length ≤ ys.length) : FSm D'.now i := by
  have hm : ∀ f ∈ D'.now, ∃ g ∈ D.now, g.1 = f.1 ∧ f.2.2.length ≤ g.2.2.length := by
    intro f hf
    have h1 : fv D' f.1 = some f.2.2 := by
      unfold fv
      rw [mget_of_mem (v := f.2) hd.know (by exact hf)]; rfl
    obtain ⟨ys, h2, h3⟩ := hv _ _ h1
    unfold fv at h2
    cases hg : mget D.now f.1 with
    | none => rw [hg] at h2; cases h2
    | some g =>
      rw [hg] at h2
      simp only [Option.map_some, Option.some.injEq] at h2
      exact ⟨(f.1, g), mget_mem hg, rfl, by rw [h2]; exact h3⟩
  refine ⟨?_, fun f hf => ?_, fun f hf => ?_⟩
  · have := nodup_le (a := D'.now.map (·.1)) (b := D.now.map (·.1)) hd.know (fun x hx => by
      obtain ⟨f, hf, rfl⟩ := List.mem_map.1 hx
      obtain ⟨g, hg, e, -⟩ := hm f hf
      exact List.mem_map.2 ⟨g, hg, e⟩)
    simp only [List.length_map] at this
    have := h.cnt
    omega
  · obtain ⟨g, hg, e, -⟩ := hm f hf
    have := h.nm g hg
    rw [e] at this
    exact this
  · obtain ⟨g, hg, -, e⟩ := hm f hf
    have := h.len g hg
    omega
theorem AfterOpen.small {nm : ByteArray} {T : List PS} {K : Nat} {D D' : Dk} (h : AfterOpen nm T K D D') : ∀ x xs, fv D' x = some xs → ∃ ys, fv D x = some ys ∧ xs.length ≤ ys.length := by
  intro x xs hx
  by_cases hp : ∃ p ∈ T, x = fnm nm p.base
  · obtain ⟨p, hp, rfl⟩ := hp
    rw [← List.take_append_drop K T] at hp
    rcases List.mem_append.1 hp with hp | hp
    · have h1 := h.kept p hp
      rw [hx] at h1
      cases hf : fv D (fnm nm p.base) with
      | none => rw [hf] at h1; cases h1
      | some ys =>
        rw [hf] at h1
        simp only [Option.map_some, Option.some.injEq] at h1
        exact ⟨ys, rfl, by rw [h1, List.length_take]; omega⟩
    · have h1 := h.gone p hp
      rw [hx] at h1; cases h1
  · have h1 := h.rest x (fun p hpT e => hp ⟨p, hpT, e⟩)
    rw [hx] at h1
    exact ⟨xs, h1.symm, Nat.le_refl _⟩
theorem AfterOpen.crash {nm : ByteArray} {T : List PS} {K : Nat} {D D' : Dk} (h : AfterOpen nm T K D D') (hf : D.fails = false) (nb : Nat) : AfterOpen nm T K D (crD D' nb) := by
  obtain ⟨h1, h2⟩ := crash_view h.dur nb
  exact ⟨h1, h.room, hf.symm, fun p hp => by rw [h2]; exact h.gone p hp, fun p hp => by rw [h2]; exact h.kept p hp, fun x hx => by rw [h2]; exact h.rest x hx⟩
theorem openIn_sm {w : World} {B d i : Nat} {D : Dk} {nm : ByteArray} {room : Int} (hd : DiskAt w B d D) (hs : FSm D.now i) (hi : i ≤ 20) (hn : rightNm nm.data.toList = true) (hr : 1 ≤ room ∧ room ≤ 1048576) (hv : VarsIn w) (hw : 5 ≤ w.heap.size) : OpenIn w B d D nm room (baseOf nm) :=
  openIn_of hd hn hr hv hw (fun f hf => by have := hs.nm f hf; omega) (fun f hf => by have := hs.len f hf; omega) (by have := hs.cnt; omega)
/-- The name of another file. -/
abbrev other : ByteArray := ⟨#[111, 116, 104, 101, 114]⟩
theorem other_no (n : Nat) : other ≠ fnm ⟨#[108, 111, 103]⟩ n := by
  intro e
  have h := congrArg (fun b : ByteArray => b.data.toList.head?) e
  rw [fnm_list] at h
  simp [other] at h

/-! ### The entries -/
theorem ents_bound {bs : ByteArray → Option Nat} {D : Dk} {i : Nat} (hs : FSm D.now i) {T : List PS} (hT : T.Perm (segF bs D.now)) : T.length ≤ i ∧ ∀ p ∈ T, p.ents.length ≤ 1048576 ∧ ∀ x ∈ p.ents, x.length ≤ 65536 := by
  refine ⟨?_, fun p hp => ?_⟩
  · rw [hT.length_eq]
    unfold segF
    exact Nat.le_trans (List.length_filterMap_le _ _) hs.cnt
  · have hp := hT.subset hp
    unfold segF at hp
    rw [List.mem_filterMap] at hp
    obtain ⟨f, hf, hfp⟩ := hp
    cases hb : bs f.1 with
    | none => rw [hb] at hfp; cases hfp
    | some n =>
      rw [hb] at hfp
      simp only [Option.map_some, Option.some.injEq] at hfp
      subst hfp
      have h1 := Fr.FrM.pos_le f.2.2 (cntF f.2.2) (cntF_is _).1
      have h2 := hs.len f hf
      refine ⟨?_, fun x hx => ?_⟩
      · show (Fr.FrM.pays f.2.2 (cntF f.2.2)).length ≤ _
        rw [Fr.FrM.pays_length]
        omega
      · exact (take_pos f.2.2 (cntF f.2.2) (cntF_is _).1).2 x hx
theorem ents_psL (L : Lg) : entsOf L.segs = (L.segs.map Seg.ps).flatMap PS.ents := by
  unfold entsOf
  rw [List.flatMap_map]
  rfl
theorem first_ps (L : Lg) : firstOf L = ((L.segs.map Seg.ps).head?.map PS.base).getD 0 := by
  unfold firstOf
  cases L.segs with
  | nil => rfl
  | cons a b => rfl
theorem flat_len {α β : Type} {f : α → List β} {m : Nat} : ∀ (l : List α), (∀ a ∈ l, (f a).length ≤ m) → (l.flatMap f).length ≤ l.length * m
  | [], _ => by simp
  | a :: l, h => by
    have h1 := h a List.mem_cons_self
    have h2 := flat_len l (fun b hb => h b (List.mem_cons_of_mem _ hb))
    rw [List.flatMap_cons, List.length_append, List.length_cons, Nat.add_mul]
    omega
/-- What Open found. -/
structure Found (L : Lg) : Prop where
  at_ : ∀ (i : Nat) (s : Seg), L.segs[i]? = some s → s.base = firstOf L + (entsOf (L.segs.take i)).length
  next : nextOf L = firstOf L + (entsOf L.segs).length
  first : firstOf L ≤ 4611686018427387904
  cnt : L.segs.length ≤ 20
  len : (entsOf L.segs).length ≤ 20971520
  small : ∀ s ∈ L.segs, ∀ x ∈ s.evs, x.2.length ≤ 65536
  sm : ∀ x ∈ entsOf L.segs, x.length ≤ 65536
theorem found_of {nm : ByteArray} {D : Dk} {T : List PS} {L : Lg} (hs : FSm D.now 20) (hT : T.Perm (segF (baseOf nm) D.now)) (hL : L.segs.map Seg.ps = (T.take (keepOf T)).map cleanP) : Found L := by
  obtain ⟨h1, h2⟩ := ents_bound hs hT
  have hm : ∀ s ∈ L.segs, ∃ p ∈ T, s.ps = cleanP p := fun s hs => by
    have : s.ps ∈ (T.take (keepOf T)).map cleanP := by rw [← hL]; exact List.mem_map.2 ⟨s, hs, rfl⟩
    obtain ⟨p, hp, e⟩ := List.mem_map.1 this
    exact ⟨p, List.mem_of_mem_take hp, e.symm⟩
  have hlen : L.segs.length ≤ 20 := by
    have := congrArg List.length hL
    simp only [List.length_map, List.length_take] at this
    omega
  have hsm : ∀ s ∈ L.segs, s.base ≤ 4611686018427387904 ∧ s.evs.length ≤ 1048576 ∧ ∀ x ∈ s.evs, x.2.length ≤ 65536 := fun s hs => by
    obtain ⟨p, hp, e⟩ := hm s hs
    obtain ⟨h3, h4⟩ := h2 p hp
    have e1 : s.base = p.base := congrArg PS.base e
    have e2 : s.evs.map Prod.snd = p.ents := congrArg PS.ents e
    have hb : p.base ≤ 4611686018427387904 := by
      have hp := hT.subset hp
      unfold segF at hp
      rw [List.mem_filterMap] at hp
      obtain ⟨f, hf, hfp⟩ := hp
      cases hb : baseOf nm f.1 with
      | none => rw [hb] at hfp; cases hfp
      | some n =>
        rw [hb] at hfp
        simp only [Option.map_some, Option.some.injEq] at hfp
        subst hfp
        exact (baseOf_some hb).1
    refine ⟨by omega, ?_, fun x hx => h4 x.2 (by rw [← e2]; exact List.mem_map.2 ⟨x, hx, rfl⟩)⟩
    have := congrArg List.length e2
    rw [List.length_map] at this
    omega
  have hch := chain_of (firstOf L) none L.segs T (.inl rfl) (fun _ s hs => by unfold firstOf; cases hq : L.segs with
    | nil => rw [hq] at hs; cases hs
    | cons a b => rw [hq] at hs; simp only [List.head?_cons, Option.some.injEq] at hs; rw [hs]) hL
  have hat := chainW_at (firstOf L) L.segs hch
  refine ⟨hat, ?_, ?_, hlen, ?_, fun s hs => (hsm s hs).2.2, fun x hx => ?_⟩
  · by_cases h0 : L.segs.length = 0
    · have e := List.eq_nil_of_length_eq_zero h0
      unfold nextOf firstOf
      rw [e]
      rfl
    · obtain ⟨m, hm⟩ : ∃ m, L.segs.length = m + 1 := ⟨L.segs.length - 1, by omega⟩
      rw [nextOf_last hm, hat m _ (List.getElem?_eq_getElem (by omega))]
      have e : L.segs = L.segs.take m ++ [L.segs[m]'(by omega)] := by
        rw [← List.take_succ_eq_append_getElem (by omega), ← hm, List.take_length]
      have e2 : (entsOf L.segs).length = (entsOf (L.segs.take m)).length + (L.segs[m]'(by omega)).evs.length := by
        conv => lhs; rw [e]
        rw [entsOf_app, entsOf_one, List.length_append, List.length_map]
      omega
  · unfold firstOf
    cases hq : L.segs with
    | nil => simp
    | cons a b => exact (hsm a (by rw [hq]; exact List.mem_cons_self)).1
  · have := flat_len (f := fun s : Seg => s.evs.map Prod.snd) (m := 1048576) L.segs (fun s hs => by rw [List.length_map]; exact (hsm s hs).2.1)
    have e : (entsOf L.segs).length = (L.segs.flatMap fun s => s.evs.map Prod.snd).length := rfl
    omega
  · unfold entsOf at hx
    obtain ⟨s, hs, hx⟩ := List.mem_flatMap.1 hx
    obtain ⟨y, hy, rfl⟩ := List.mem_map.1 hx
    exact (hsm s hs).2.2 y hy
end Go.Proofs.YtcckoppbophidaaGreatDoor

/- Layer 6: Open on a durable disk, whatever files it holds, walked. -/
namespace Go.Proofs.YtcckoppbophidaaGreatDoor
open Go.RowKit Go.Shelf Go.Sort
set_option linter.unusedVariables false
set_option linter.unusedSimpArgs false
set_option maxRecDepth 100000
attribute [local go_sem] Oper.semAt_some

theorem ps_whole {p : PS} {xs : List UInt8} (h : p = psOf p.base xs) : p.size ≤ xs.length ∧ (p.dirty = false → p.size = xs.length) := by
  have e1 : p.size = Fr.FrM.pos xs (cntF xs) := congrArg PS.size h
  have e2 : p.dirty = decide (Fr.FrM.pos xs (cntF xs) < xs.length) := congrArg PS.dirty h
  have h3 := Fr.FrM.pos_le xs (cntF xs) (cntF_is _).1
  refine ⟨by omega, fun hd => ?_⟩
  rw [hd] at e2
  have := of_decide_eq_false e2.symm
  omega
/-- A name that is kept is none that goes. -/
theorem keep_ne {T : List PS} {nm : ByteArray} (ht : T.Pairwise (fun p q => p.base < q.base)) {K : Nat} {p : PS} (hp : p ∈ T.take K) : ∀ q ∈ T.drop K, fnm nm p.base ≠ fnm nm q.base := by
  intro q hq e
  have h1 := ht
  rw [← List.take_append_drop K T, List.pairwise_append] at h1
  have := h1.2.2 p hp q hq
  have := fnm_inj e
  omega
theorem after_clean {nm : ByteArray} {T : List PS} {K : Nat} {D Dj : Dk} (ht : T.Pairwise (fun p q => p.base < q.base)) (hF : ∀ p ∈ T, ∃ xs, fv D (fnm nm p.base) = some xs ∧ p = psOf p.base xs) (h : DropIn nm T K D Dj) (hc : ∀ p ∈ T.take K, p.dirty = false) : AfterOpen nm T K D Dj := by
  refine ⟨h.dur, h.room, h.fails, h.gone, fun p hp => ?_, fun x hx => h.rest x (fun p hp => hx p (List.mem_of_mem_drop hp))⟩
  rw [h.rest _ (keep_ne ht hp)]
  obtain ⟨xs, h1, h2⟩ := hF p (List.mem_of_mem_take hp)
  rw [h1]
  simp only [Option.map_some, Option.some.injEq]
  rw [List.take_of_length_le]
  exact Nat.le_of_eq ((ps_whole h2).2 (hc p hp)).symm
theorem after_cut {nm : ByteArray} {T : List PS} {k : Nat} {D Dj : Dk} {p : PS} (ht : T.Pairwise (fun p q => p.base < q.base)) (hF : ∀ p ∈ T, ∃ xs, fv D (fnm nm p.base) = some xs ∧ p = psOf p.base xs) (h : DropIn nm T (k + 1) D Dj) (hp : T[k]? = some p) (hc : ∀ (i : Nat) (q : PS), i < k → T[i]? = some q → q.dirty = false) (v cv cv2 v2 : Value) :
    AfterOpen nm T (k + 1) D (syD (ctD Dj (fnm nm p.base) p.size v cv) (fnm nm p.base) cv2 v2) := by
  have hpm := List.mem_of_getElem? hp
  have hpt : p ∈ T.take (k + 1) := List.mem_of_getElem? (i := k) (by rw [List.getElem?_take, if_pos (by omega)]; exact hp)
  obtain ⟨xs, h1, h2⟩ := hF p hpm
  have hfv : fv Dj (fnm nm p.base) = some xs := by rw [h.rest _ (keep_ne ht hpt)]; exact h1
  obtain ⟨e1, e2⟩ := cut_view h.dur hfv p.size v cv cv2 v2
  refine ⟨e1, h.room, h.fails, fun q hq => ?_, fun q hq => ?_, fun x hx => ?_⟩
  · rw [e2, if_neg (fun e => keep_ne ht hpt q hq e.symm)]
    exact h.gone q hq
  · rw [e2]
    by_cases e : fnm nm q.base = fnm nm p.base
    · rw [if_pos e, e, h1, fnm_inj e |> fun hb => show q.size = p.size from by
        obtain ⟨ys, g1, g2⟩ := hF q (List.mem_of_mem_take hq)
        rw [e, h1] at g1
        simp only [Option.some.injEq] at g1
        subst g1
        rw [g2, h2, hb]]
      rfl
    · rw [if_neg e, h.rest _ (keep_ne ht hq)]
      obtain ⟨ys, g1, g2⟩ := hF q (List.mem_of_mem_take hq)
      rw [g1]
      simp only [Option.map_some, Option.some.injEq]
      rw [List.take_of_length_le]
      obtain ⟨i, hi⟩ := List.getElem?_of_mem hq
      rw [List.getElem?_take] at hi
      split at hi
      · rename_i hik
        have hne : i ≠ k := fun e3 => by
          subst e3
          rw [hp] at hi
          simp only [Option.some.injEq] at hi
          exact e (by rw [hi])
        exact Nat.le_of_eq ((ps_whole g2).2 (hc i q (by omega) hi)).symm
      · cases hi
  · rw [e2, if_neg (hx p hpm)]
    exact h.rest x (fun q hq => hx q (List.mem_of_mem_drop hq))
theorem lt_fin {B l d : Nat} {nm : ByteArray} {room : Int} {D Dj : Dk} {sv : Value} {segs : List Seg} {w U wr : World} (hU : Below w.heap.size w U) (hl : w.heap.size ≤ l) (h : LT U wr B l (newL d nm room) D ⟨d, nm, room, sv, segs, false⟩ Dj) :
    Only (D.foot d) w wr ∧ ∀ k, ldFoot l ⟨d, nm, room, sv, segs, false⟩ Dj k → D.foot d k ∨ w.heap.size ≤ k := by
  have hs := hU.size
  refine ⟨(Only.of_below (S := D.foot d) hU).trans h.only (fun k hk hf => ?_), fun k hk => ?_⟩
  · rcases hf with (e | e | ⟨s, hs, e⟩) | e
    · omega
    · cases e
    · cases hs
    · exact e
  · rcases h.foot k hk with ((e | e | ⟨s, hs, e⟩) | e) | e
    · right; omega
    · cases e
    · cases hs
    · exact .inl e
    · right; omega
theorem segs_same {qs : List Seg} {k : Nat} (hc : ∀ (j : Nat) (q : Seg), j < k → qs[j]? = some q → q.dirty = false) : (qs.take k).map Seg.ps = ((qs.map Seg.ps).take k).map cleanP := by
  apply List.ext_getElem?
  intro i
  simp only [List.getElem?_map, List.getElem?_take]
  split
  · rename_i hi
    cases hq : qs[i]? with
    | none => rfl
    | some q =>
      have := hc i q hi hq
      simp only [Option.map_some, Option.some.injEq]
      unfold cleanP
      rw [show ({ q.ps with dirty := false } : PS) = q.ps from by rw [← this]; rfl]
  · rfl
theorem segs_clean {qs : List Seg} {k : Nat} {s : Seg} (hs : qs[k]? = some s) (hc : ∀ (j : Nat) (q : Seg), j < k → qs[j]? = some q → q.dirty = false) : ((qs.take (k + 1)).set k { s with dirty := false }).map Seg.ps = ((qs.map Seg.ps).take (k + 1)).map cleanP := by
  have hk : k < qs.length := (List.getElem?_eq_some_iff.1 hs).1
  apply List.ext_getElem?
  intro i
  simp only [List.getElem?_map, List.getElem?_take, List.getElem?_set, List.length_take]
  by_cases e : k = i
  · subst e
    rw [if_pos rfl, if_pos (by omega), if_pos (by omega), hs]
    rfl
  · rw [if_neg e]
    split
    · rename_i hi
      cases hq : qs[i]? with
      | none => rfl
      | some q =>
        have := hc i q (by omega) hq
        simp only [Option.map_some, Option.some.injEq]
        unfold cleanP
        rw [show ({ q.ps with dirty := false } : PS) = q.ps from by rw [← this]; rfl]
    · rfl
set_option maxHeartbeats 8000000 in
theorem lopen_all (d B : Nat) (D : Dk) (nm : ByteArray) (room : Int) (bs : ByteArray → Option Nat) (w : World) (h : OpenIn w B d D nm room bs) (hdu : Durable D) (hnf : D.fails = false) (hbn : ∀ f ∈ D.now, ∀ n, bs f.1 = some n → f.1 = fnm nm n) (hv : VarsIn w) (hB5 : 5 ≤ B) :
    Calls Tryz.prog 9 #[.pointer (some ⟨d, 0, none⟩), .string nm, .int .i64 room] w fun e w' => ∃ (l : Nat) (L : Lg) (T : List PS) (D' : Dk), e = .returned (.tuple #[.pointer (some ⟨l, 0, none⟩), .int .i64 0]) ∧ w.heap.size ≤ l ∧ LD w' B l L D' ∧ Only (D.foot d) w w' ∧ (∀ j, ldFoot l L D' j → D.foot d j ∨ w.heap.size ≤ j) ∧
      L.d = d ∧ L.name = nm ∧ L.room = room ∧ L.broken = false ∧ T.Perm (segF bs D.now) ∧ T.Pairwise (fun p q => p.base < q.base) ∧ L.segs.map Seg.ps = (T.take (keepOf T)).map cleanP ∧ AfterOpen nm T (keepOf T) D D' := by
  have HI := Lib.hid h
  have HDU := Lib.hid hdu
  have HNF := Lib.hid hnf
  have HBN := Lib.hid hbn
  have HV := Lib.hid hv
  clear h hdu hnf hbn hv
  have hns := rightNm_size HI.out.nmr
  have HR := Lib.hid (lright_calls nm w (by omega))
  have d1 : decide (room < 1) = false := decide_eq_false (by have := HI.out.room; omega)
  have d2 : decide (1048576 < room) = false := decide_eq_false (by have := HI.out.room; omega)
  go_enter Tryz.func9, Tryz.ntmps9
  go_wp2_with fail
  refine HR.out.mono ?_
  rintro e w1 ⟨rfl, hb1⟩
  rw [HI.out.nmr]
  obtain ⟨U, hU⟩ : ∃ U, U = w1.alloc (.cells #[.pointer (some ⟨d, 0, none⟩), .string nm, .int .i64 room, .slice none 0 0, .bool false] 66) := ⟨_, rfl⟩
  have hal := below_alloc w1 (.cells #[.pointer (some ⟨d, 0, none⟩), .string nm, .int .i64 room, .slice none 0 0, .bool false] 66)
  have hsz := hb1.size
  have hBw : B ≤ w.heap.size := by have := HI.out.disk.foot_lt (.inl rfl : D.foot d d); omega
  have HBU := Lib.hid (show Below w.heap.size w U by rw [hU]; exact hb1.trans (hal.mono hsz))
  have HLU := Lib.hid (show LD U B w1.heap.size (newL d nm room) D from by
    refine ⟨?_, HI.out.disk.below HBU.out⟩
    rw [hU]
    refine ⟨World.ownsRow_lit w1 _ 1 (by omega) (by unfold maxLen; omega) rfl, World.ownsRow_nil _ _ _ _, (fun s hs => by cases hs), (fun i j s t hs => by simp [newL] at hs)⟩)
  have HLW := Lib.hid (show w.heap.size ≤ w1.heap.size ∧ w1.heap.size < U.heap.size from ⟨hsz, by rw [hU]; simp⟩)
  clear hb1 hal hsz
  go_upto_region 6 with fail
  rw [← hU]
  clear hU HR
  generalize w1.heap.size = l at *
  go_wp2_with fail
  refine (dnames_calls d B D U HLU.out.disk (by have := HI.out.cnt; omega)).mono ?_
  rintro e w2 ⟨nv, ns, rfl, hns2, hrow2, hb2⟩
  obtain ⟨fs, hfp, hfm⟩ := perm_map_ex (f := fun f : ByteArray × (Value × List UInt8) => f.1.data.toList) (l := D.now) (m := ns) (by rw [hns2]; exact List.mergeSort_perm _ _)
  have hnl : ns.length = fs.length := by rw [← hfm, List.length_map]
  have hfl : fs.length ≤ 100000 := by rw [hfp.length_eq]; exact HI.out.cnt
  have HFP := Lib.hid hfp
  have HFM := Lib.hid hfm
  rw [hnl] at hrow2
  have HROW := Lib.hid hrow2
  obtain ⟨na, nc, rfl⟩ := own_slice hrow2
  have HB2 := Lib.hid hb2
  have HT2 := Lib.hid (LT.of_below HLU.out hb2)
  clear hns2 hfm hfp hrow2 hb2 hnl
  go_wp2_with fail
  -- the loop over the names: fs, the files in the names' order
  go_loopw [10, 11, 12, 13, 14, 15, 44] (fun _ _ _ _ _ _ iv wr => ∃ (i : Nat) (sv : Value) (ss : List Seg), i ≤ fs.length ∧ ss.length ≤ i ∧ iv = .int .i64 i ∧ LT U wr B l (newL d nm room) D ⟨d, nm, room, sv, ss, false⟩ D ∧ Below w.heap.size w wr ∧ wr.ownsRow U.heap.size 9 1 (.slice na fs.length nc) fs.length (ns.map encStr) ∧ ss.map Seg.ps = segF bs (fs.take i) ∧ (ss = [] → sv = .slice none 0 0)) (fun _ _ _ _ _ _ iv _ => fs.length - (intOf iv).toNat)
  case atStart => exact ⟨0, _, [], by omega, by simp, rfl, HT2.out, HBU.out.trans (HB2.out.mono HBU.out.size), HROW.out, rfl, fun _ => rfl⟩
  case round =>
    clear HT2 HROW HB2
    obtain ⟨i, sv, ss, hi, hsl, rfl, hlt, hbw, hrow, hss, hnl⟩ := hrel
    have HNL := Lib.hid hnl
    clear hnl
    have HT := Lib.hid hlt
    have HBW := Lib.hid hbw
    have HROW := Lib.hid hrow
    have HSS := Lib.hid hss
    clear hlt hbw hss
    by_cases hil : i < fs.length
    · obtain ⟨f, hf⟩ : ∃ f, fs[i]? = some f := ⟨_, List.getElem?_eq_getElem hil⟩
      have hfD : f ∈ D.now := HFP.out.subset (List.mem_of_getElem? hf)
      have hfo : fileOf D.now f.1 = f.2.2 := by
        unfold fileOf
        rw [mget_of_mem (v := f.2) HI.out.disk.know (by exact hfD)]
        rfl
      have HTK := Lib.hid (show segF bs (fs.take (i + 1)) = segF bs (fs.take i) ++ segF bs [f] from by
        rw [List.take_succ_eq_append_getElem hil]
        have e : fs[i] = f := (List.getElem?_eq_some_iff.1 hf).2
        rw [e]
        exact List.filterMap_append)
      have hxl := HI.out.len f hfD
      have hnm := HI.out.small f hfD
      have HBA := Lib.hid (HI.out.base f hfD)
      have hcell : (ns.map encStr)[i]? = some (.string f.1) := by
        rw [← HFM.out, List.map_map, List.getElem?_map, hf]
        exact congrArg some (encStr_name f.1)
      rcases hrow.2 with ⟨_, h0⟩ | ⟨ng, ncap, ncur, hvv, hbg, hng, hnn, hmm, -⟩
      · omega
      simp only [Value.slice.injEq] at hvv
      obtain ⟨rfl, -, rfl⟩ := hvv
      have hcl := World.ownsRow.cells hrow (g := ng) rfl i _ hcell
      rw [add_off, Nat.zero_add] at hcl
      obtain ⟨fn, fv, xs⟩ := f
      simp only at hcl hfo hxl hnm HBA
      have hic : i < nc := by omega
      clear hrow hng hmm hf hfD hcell hbg
      go_wp2_with fail
      refine (HBA.out wr HBW.out).mono ?_
      rintro e w3 ⟨rfl, hb3⟩
      have HT := Lib.hid (HT.out.below hb3)
      have HBW := Lib.hid (HBW.out.trans (hb3.mono HBW.out.size))
      have HROW := Lib.hid (ownsRow_below HROW.out hb3 (Nat.le_refl _))
      clear hb3 hcl
      cases hbo : bs fn with
      | none =>
        have HNX := Lib.hid (show ss.map Seg.ps = segF bs (fs.take (i + 1)) from by
          rw [HTK.out, ← HSS.out]
          simp [segF, hbo])
        simp only [bInt]
        clear hbo HTK HSS hnm
        go_wp2_with fail
        go_roundw
        case rel => exact ⟨i + 1, sv, ss, by omega, by omega, by go_num, HT.out, HBW.out, HROW.out, HNX.out, HNL.out⟩
        case measure => simp [intOf]; omega
      | some n =>
        have hn62 := hnm n hbo
        have HNX := Lib.hid (show segF bs (fs.take (i + 1)) = ss.map Seg.ps ++ [psOf n xs] from by
          rw [HTK.out, ← HSS.out]
          simp [segF, hbo])
        simp only [bInt]
        have dn : decide ((0 : Int) ≤ (n : Int)) = true := decide_eq_true (by omega)
        clear hbo HTK HSS hnm
        go_wp2_with fail
        refine (dread_calls d B D fn w3 HT.out.is.disk (by rw [hfo]; exact hxl)).mono ?_
        rintro e w4 ⟨v, rfl, hm4, hb4⟩
        rw [hfo] at hm4
        have HT := Lib.hid (HT.out.below hb4)
        have HBW := Lib.hid (HBW.out.trans (hb4.mono HBW.out.size))
        have HROW := Lib.hid (ownsRow_below HROW.out hb4 (Nat.le_refl _))
        have HM := Lib.hid hm4
        obtain ⟨va, vc, rfl⟩ := hm4.slice
        have HS4 := Lib.hid HT.out.only.size
        have HF4 := Lib.hid (fun j (hj : Lg.foot l ⟨d, nm, room, sv, ss, false⟩ j) => (HT.out.is.log.foot_lt hj).2)
        clear hb4 hm4
        go_wp2_with fail
        refine (Fr.cut_calls _ xs (cntF xs) w4 HM.out.bytes hxl (cntF_is xs)).mono ?_
        rintro e w5 ⟨lv, rfl, hl5, hb5⟩
        have HT := Lib.hid (HT.out.below hb5)
        have HBW := Lib.hid (HBW.out.trans (hb5.mono HBW.out.size))
        have HROW := Lib.hid (ownsRow_below HROW.out hb5 (Nat.le_refl _))
        have HF5 := Lib.hid (And.intro HS4.out (And.intro HF4.out hb5.size))
        obtain ⟨la, lc, rfl⟩ := hl5.slice'
        rw [Fr.FrM.pays_length] at hl5 ⊢
        have HL5 := Lib.hid hl5
        clear hb5 hl5
        have c3 := HT.out.is.log.at.2.2.2.1
        obtain ⟨ra, rc, hrv⟩ := own_slice HT.out.is.log.row
        simp only at c3 hrv
        rw [hrv] at c3
        have hpl := Fr.FrM.pos_le xs (cntF xs) (cntF_is xs).1
        obtain ⟨po, hpo⟩ : ∃ po, po = Fr.FrM.pos xs (cntF xs) := ⟨_, rfl⟩
        obtain ⟨cn, hcn⟩ : ∃ cn, cn = cntF xs := ⟨_, rfl⟩
        have HPS := Lib.hid (show psOf n xs = ⟨n, Fr.FrM.pays xs cn, po, decide (po < xs.length)⟩ from by unfold psOf; rw [hpo, hcn])
        rw [← hpo] at hpl ⊢
        rw [← hcn] at HL5 hpl ⊢
        have HRV := Lib.hid hrv
        have hpol : po ≤ xs.length := hpl.2
        clear hrv hpo hcn hpl
        obtain ⟨W6, hW6⟩ : ∃ W6, W6 = w5.alloc (.cells #[.int .i64 n, .slice la cn lc, .int .i64 po, .bool (decide (po < xs.length))] 74) := ⟨_, rfl⟩
        have hal6 : Below w5.heap.size w5 W6 := by rw [hW6]; exact below_alloc w5 _
        have hs6 : W6.heap.size = w5.heap.size + 1 := by rw [hW6]; simp
        have HB5 := Lib.hid (show B ≤ w5.heap.size from by have := HT.out.is.log.foot_lt (j := l) (.inl rfl); omega)
        obtain ⟨sg, hsb, hsev, hsps, hsat⟩ := segAt_new (w := W6) (B := B) (b := w5.heap.size) (n := n) (e := po) (ev := .slice la cn lc) (xs := xs) (d := decide (po < xs.length)) (by rw [hW6]; exact World.ownsRow_lit w5 _ 1 HB5.out (by unfold maxLen; omega) rfl) (base := w4.heap.size) (pss := Fr.FrM.pays xs cn) (by have := HS4.out; have := HLW.out; omega) (HL5.out.below hal6 (Nat.le_refl _))
        obtain ⟨W7, hW7⟩ : ∃ W7, W7 = W6.alloc (.cells #[.pointer (some ⟨w5.heap.size, 0, none⟩)] 72) := ⟨_, rfl⟩
        have hal7 : Below W6.heap.size W6 W7 := by rw [hW7]; exact below_alloc W6 _
        have HT7 := Lib.hid ((HT.out.below hal6).below hal7)
        have SG7 := Lib.hid (hsat.below hal7)
        have HSG := Lib.hid (And.intro hsb (And.intro hsev hsps))
        have HBW := Lib.hid ((HBW.out.trans (hal6.mono HBW.out.size)).trans (hal7.mono (by have := HBW.out.size; omega)))
        have HROW := Lib.hid (ownsRow_below (ownsRow_below HROW.out hal6 (Nat.le_refl _)) hal7 (Nat.le_refl _))
        have HOW := Lib.hid (show W7.ownsRow B 72 1 (.slice ra ss.length rc) ss.length (ss.map Seg.ptr) from by have := HT7.out.is.log.row; rwa [HRV.out] at this)
        have HLIT := Lib.hid (show Rd W7 1 (.slice (some ⟨w5.heap.size + 1, 0, none⟩) 1 1) 1 [.pointer (some ⟨w5.heap.size, 0, none⟩)] by rw [hW7, ← hs6]; exact Rd.lit (w := W6) (cs := #[.pointer (some ⟨w5.heap.size, 0, none⟩)]) (e := 72) (n := 1) (sz := 1) rfl (by omega))
        have HZ := Lib.hid (show B ≤ W7.heap.size by have := HT7.out.is.log.foot_lt (j := l) (.inl rfl); omega)
        have HW := Lib.hid (And.intro hW6 hW7)
        rw [hW7, hW6] at HOW HLIT HZ HT7 SG7 HBW HROW
        have hss5 : ss.length ≤ 100000 := by omega
        clear hal6 hal7 hsat hsb hsev hsps hW6 hW7 hs6
        go_upto_region 14 with (at_builtin; go_loud (refine app_keep tySegs HOW.out HLIT.out (by simp [Value.oneCell']) (by omega) (by omega) (by omega) HZ.out rfl rfl rfl rfl ?_; intro g gcap w8 h2 h3 h4 h5; have hbx := ownsRow_only HT7.out.is.log.box (Only.of_grown h4) (fun j hj e => by (simp only [Value.ownBlock, Option.some.injEq] at hj; subst hj; exact absurd ((own_ty HOW.out e).eq (own_ty HT7.out.is.log.box (j := l) rfl)) (by decide))); have l3 : w8.cell? ⟨l, 3, none⟩ = some (.slice ra ss.length rc) := (by have e := World.ownsRow.cells hbx (g := l) rfl 3 _ rfl; rw [add_off, Nat.zero_add] at e; rw [← HRV.out]; exact e); have z3 : w8.frozen? ⟨l, 3, none⟩ = false := World.ownsRow.frozenAt hbx 3; have Q2 := Lib.hid h2; have Q4 := Lib.hid h4; have Q5 := Lib.hid h5; clear h2 h3 h4 h5 hbx))
        have HSVB := Lib.hid (show ∀ k, (Value.slice ra ss.length rc).ownBlock = some k → w.heap.size ≤ k from fun k hk => by
          have hk : sv.ownBlock = some k := by rw [HRV.out]; exact hk
          rcases HT7.out.foot k (.inl (.inr (.inl hk))) with ((e | e | ⟨s, hs, e⟩) | e) | e
          · have := HLW.out; omega
          · cases e
          · cases hs
          · exact absurd e (foot_apart HT7.out.is.log HT7.out.is.disk (.inr (.inl hk)))
          · have := HLW.out; omega)
        have ho8 : Only (fun j => j = l ∨ (Value.slice ra ss.length rc).ownBlock = some j) _ (w8.setCell ⟨l, 3, none⟩ (.slice (some ⟨g, 0, none⟩) (ss.length + 1) gcap)) := ((Only.of_grown Q4.out).weak (T := fun j => j = l ∨ (Value.slice ra ss.length rc).ownBlock = some j) (fun j _ e => .inr e)).setCell ⟨l, 3, none⟩ _ (.inl (.inl rfl))
        have HRO := Lib.hid (ownsRow_only HROW.out ho8 (fun j hj e => by
          rcases e with e | e
          · subst e
            exact absurd ((own_ty HROW.out hj).eq (own_ty HT7.out.is.log.box (j := j) rfl)) (by decide)
          · exact absurd ((own_ty HROW.out hj).eq (own_ty HOW.out e)) (by decide)))
        have HBO := Lib.hid (HBW.out.trans (ho8.below (B := w.heap.size) HBW.out.size (fun j hj e => by
          rcases e with e | e
          · have := HLW.out; omega
          · have := HSVB.out j e; omega)))
        have HA := Lib.hid (LT.addSeg HT7.out SG7.out (fun j hj => by
          have h1 := HF5.out
          rcases hj with e | e
          · rw [HSG.out.1] at e; omega
          · rw [HSG.out.2.1] at e
            obtain ⟨vs, hvs, -⟩ := HL5.out
            have := (World.ownsRow.lt hvs j e).1
            omega) (fun j hj hf => by
          have h1 := HF5.out
          have h2 := HF5.out.2.1 j (by
            rcases hf with e | e | e
            · exact .inl e
            · exact .inr (.inl e)
            · exact .inr (.inr e))
          rcases hj with e | e
          · rw [HSG.out.1] at e; omega
          · rw [HSG.out.2.1] at e
            obtain ⟨vs, hvs, -⟩ := HL5.out
            have := (World.ownsRow.lt hvs j e).1
            omega) (sv2 := .slice (some ⟨g, 0, none⟩) (ss.length + 1) gcap) (by rw [show sg.ptr = Value.pointer (some ⟨w5.heap.size, 0, none⟩) by unfold Seg.ptr; rw [HSG.out.1]]; exact Q2.out) (by show World.grownBy _ _ sv.ownBlock; rw [HRV.out]; exact Q4.out) (fun j e => by
          simp only [Value.ownBlock, Option.some.injEq] at e
          subst e
          rcases Q5.out with ⟨k, c, e, -⟩ | e
          · refine .inl ?_
            show sv.ownBlock = _
            rw [HRV.out, e]; rfl
          · exact .inr e))
        have HFI := Lib.hid (show (ss ++ [sg]).map Seg.ps = segF bs (fs.take (i + 1)) by rw [HNX.out, List.map_append, List.map_singleton, HSG.out.2.2, HPS.out])
        have HLE := Lib.hid (show (ss ++ [sg]).length ≤ i + 1 by rw [List.length_append, List.length_singleton]; omega)
        clear ho8 l3 z3 HSVB HPS HSG HNX
        go_wp2_with fail
        go_roundw
        case rel => exact ⟨i + 1, _, ss ++ [sg], by omega, HLE.out, by go_num, HA.out, HBO.out, HRO.out, HFI.out, fun h => by simp at h⟩
        case measure => simp [intOf]; omega
    · obtain rfl : i = fs.length := by omega
      have HPS := Lib.hid (show ss.map Seg.ps = segF bs fs by rw [HSS.out, List.take_length])
      obtain ⟨ra, rc, hrv⟩ := own_slice HT.out.is.log.row
      simp only at hrv
      have c3 := HT.out.is.log.at.2.2.2.1
      simp only at c3
      rw [hrv] at c3
      have HSO := Lib.hid (ssort_calls U wr B l _ _ D D HT.out (v := .slice ra ss.length rc) hrv HNL.out hsl hfl)
      have HRV := Lib.hid hrv
      have HSV := Lib.hid (fun k (hk : (Value.slice ra ss.length rc).ownBlock = some k) => HT.out.sv_ge (W := w.heap.size) (by have := HLW.out; omega) (by have := HLW.out; omega) (k := k) (by show sv.ownBlock = _; rw [hrv]; exact hk))
      have hsl := hsl
      clear hrow hi HSS HROW HNL hrv
      go_wp2_with fail
      refine HSO.out.mono ?_
      rintro e w6 ⟨⟨rv, rfl⟩, qs, hqp, hqo, hlt6, hb6⟩
      have HT := Lib.hid hlt6
      have HBW := Lib.hid (HBW.out.trans (hb6 w.heap.size HSV.out HBW.out.size))
      have hql : qs.length = ss.length := hqp.length_eq
      have HQP := Lib.hid (hqp.map Seg.ps)
      have HQO := Lib.hid hqo
      have HLN := Lib.hid hql
      have c3 := HT.out.is.log.at.2.2.2.1
      simp only at c3
      rw [HRV.out, ← hql] at c3
      have hqn : qs.length ≤ 100000 := by omega
      clear hlt6 hb6 hqp hqo HSO hsl hql
      go_wp2_with fail
      have hTp : (qs.map Seg.ps).Perm (segF bs D.now) := HQP.out.trans (by rw [HPS.out]; exact HFP.out.filterMap _)
      have HTP := Lib.hid hTp
      have HTO := Lib.hid (show (qs.map Seg.ps).Pairwise (fun p q => p.base < q.base) from by
        have h1 := (segF_ne HI.out.disk.know HBN.out)
        have h2 := hTp.symm.pairwise h1 (fun {s t} h => h.symm)
        exact (HQO.out.and h2).imp (fun h => by omega))
      have HFL := Lib.hid (show ∀ s ∈ qs, ∃ xs, fv D (fnm nm s.base) = some xs ∧ s.ps = psOf s.base xs ∧ xs.length ≤ 1099511627776 ∧ s.base ≤ 4611686018427387904 ∧ s.evs.length ≤ 1099511627776 ∧ s.size ≤ xs.length from fun s hs => by
        have hm : s.ps ∈ segF bs D.now := hTp.subset (List.mem_map.2 ⟨s, hs, rfl⟩)
        obtain ⟨f, hf, hfn, hbf, hps, hfv⟩ := segF_file HI.out.disk.know HBN.out hm
        have hps : s.ps = psOf s.base f.2.2 := hps
        have h1 := HI.out.len f hf
        have h2 := HI.out.small f hf s.base hbf
        have h3 := Fr.FrM.pos_le f.2.2 (cntF f.2.2) (cntF_is _).1
        have e1 : s.evs.map Prod.snd = Fr.FrM.pays f.2.2 (cntF f.2.2) := congrArg PS.ents hps
        have e2 : s.size = Fr.FrM.pos f.2.2 (cntF f.2.2) := congrArg PS.size hps
        have e3 : s.evs.length = cntF f.2.2 := by have := congrArg List.length e1; rw [Fr.FrM.pays_length, List.length_map] at this; exact this
        exact ⟨f.2.2, hfv, hps, h1, h2, by omega, by omega⟩)
      clear HQP HQO HPS HSV hTp
      go_loopw [16, 17, 18, 98] (fun kv _ _ iv wr2 => ∃ i : Nat, i ≤ qs.length ∧ kv = .int .i64 qs.length ∧ iv = .int .i64 i ∧ LT U wr2 B l (newL d nm room) D ⟨d, nm, room, sv, qs, false⟩ D ∧ Below w.heap.size w wr2 ∧ keepOf (qs.map Seg.ps) = i + keepGo (prevOf (qs.map Seg.ps) i) ((qs.map Seg.ps).drop i) ∧ ∀ (j : Nat) (s : Seg), j < i → qs[j]? = some s → s.dirty = false) (fun _ _ _ iv _ => qs.length - (intOf iv).toNat)
      case atStart => exact ⟨0, by omega, rfl, rfl, HT.out, HBW.out, by unfold keepOf prevOf; simp, fun j s hj => by omega⟩
      case round =>
        clear HT HBW c3
        obtain ⟨i, hi, rfl, rfl, hlt, hbw, hke, hcl⟩ := hrel
        have HT := Lib.hid hlt
        have HBW := Lib.hid hbw
        have HKE := Lib.hid hke
        have HCL := Lib.hid hcl
        clear hlt hbw hke hcl
        by_cases hil : i < qs.length
        · obtain ⟨sb, scap, hsv2, hle, hcm, hcell⟩ := HT.out.is.log.ptr i hil
          simp only at hsv2 hle hcell
          have hv3 := HRV.out.symm.trans hsv2
          simp only [Value.slice.injEq] at hv3
          obtain ⟨rfl, -, rfl⟩ := hv3
          obtain ⟨s, hs⟩ : ∃ s, qs[i]? = some s := ⟨_, List.getElem?_eq_getElem hil⟩
          have hse : qs[i] = s := (List.getElem?_eq_some_iff.1 hs).2
          rw [hse] at hcell
          have hic : i < rc := by omega
          have SG := Lib.hid (HT.out.is.log.segs s (List.mem_of_getElem? hs))
          have HS := Lib.hid hs
          have HTS := Lib.hid (show (qs.map Seg.ps)[i]? = some s.ps by rw [List.getElem?_map, hs]; rfl)
          obtain ⟨zb, zbase, zev, zevs, zsz, zd⟩ := s
          obtain ⟨s0, -, -, s3⟩ := SG.out.at
          simp only at s0 s3 hcell
          clear hs hse hsv2 hle hcm
          by_cases hi0 : i = 0
          · have HI0 := Lib.hid hi0
            have d0 : decide ((0 : Int) < (i : Int)) = false := decide_eq_false (by omega)
            have d0n : decide (0 < i) = false := decide_eq_false (by omega)
            have n0 : ¬ 0 < i := by omega
            clear hi0
            go_upto_region 20 with fail
            refine region_m [(0, false), (1, false), (2, false), (3, false), (4, false), (5, false), (6, false), (7, false), (8, false), (9, false), (10, false), (11, false), (12, false), (13, false), (14, false), (15, false), (16, false), (17, false)] 18 (fun X => True) (by kernel_rfl) (by kernel_rfl) trivial ?_
            iterate 18
              first
              | (refine m_take (v := ?_) rfl rfl ?_ ?_
                 rotate_left
                 · intro W hW
                   go_simp
                   with_reducible rfl
                 simp only [Act.put, List.setIfInBounds_toArray, List.set_cons_zero, List.set_cons_succ])
              | (refine m_skip rfl rfl ?_
                 simp only [Act.put, List.setIfInBounds_toArray, List.set_cons_zero, List.set_cons_succ])
            refine m_done ?_
            simp only [List.drop_succ_cons, List.drop_zero]
            have HT := Lib.hid (HT.out.below ((Below.refl _ _).drew))
            have HBW := Lib.hid (HBW.out.drew)
            have s3 := cell_later ((Below.refl wr.heap.size wr).drew) s3
            cases zd with
            | false =>
              have HK2 := Lib.hid (keep_step HKE.out HTS.out (.inl HI0.out) rfl)
              go_wp2_with fail
              try simp only [NP]
              go_wp2_with fail
              go_roundw
              case rel => exact ⟨i + 1, by omega, rfl, by go_num, HT.out, HBW.out, HK2.out, fun j s hj hs => by
                obtain rfl : j = i := by have := HI0.out; omega
                rw [HS.out] at hs
                simp only [Option.some.injEq] at hs
                rw [← hs]⟩
              case measure => simp [intOf]; omega
            | true =>
              have HK2 := Lib.hid (keep_dirty HKE.out HTS.out (.inl HI0.out) rfl)
              go_wp2_with fail
              try simp only [NP]
              obtain ⟨K, hK⟩ : ∃ K : Nat, K = i + 1 := ⟨_, rfl⟩
              have HKK := Lib.hid (show K = keepOf (qs.map Seg.ps) by rw [hK]; exact HK2.out.symm)
              have hKl : K ≤ qs.length := by omega
              have HCK := Lib.hid (show ∀ (j : Nat) (s : Seg), j + 1 < K → qs[j]? = some s → s.dirty = false from fun j s hj => HCL.out j s (by omega))
              clear HK2 HKE HCL HTS HS SG
              go_wp2_with fail
              try simp only [NP]
              go_wp2_with fail
              rw [show ((i : Int) + 1) = (K : Int) by rw [hK]; omega]
              -- behind the second loop, in the world wr.drew: K segments are kept
              obtain ⟨Wx, hWx⟩ : ∃ Wx, Wx = wr.drew := ⟨_, rfl⟩
              rw [← hWx] at HT ⊢
              clear hK hWx HBW
              have HVU := Lib.hid (HV.out.below HBU.out (by omega))
              have hBU : B ≤ U.heap.size := by have := HBU.out.size; omega
              go_loopw [19] (fun _ wr3 => ∃ (j : Nat) (sv3 : Value) (Dj : Dk), K ≤ j ∧ j ≤ qs.length ∧ LT U wr3 B l (newL d nm room) D ⟨d, nm, room, sv3, qs.take j, false⟩ Dj ∧ DropIn nm (qs.map Seg.ps) j D Dj) (fun _ wr3 => lenAt wr3 l)
              case atStart => exact ⟨qs.length, sv, D, hKl, Nat.le_refl _, by rw [List.take_length]; exact HT.out, HDU.out, rfl, rfl, (fun p hp => by rw [List.drop_eq_nil_of_le (by rw [List.length_map]; omega)] at hp; cases hp), fun x _ => rfl⟩
              case round =>
                clear HT
                obtain ⟨j, sv3, Dj, hj1, hj2, hlt3, hdi⟩ := hrel
                have HT := Lib.hid hlt3
                have HDI := Lib.hid hdi
                clear hlt3 hdi
                have htl : (qs.take j).length = j := by rw [List.length_take]; omega
                obtain ⟨xa, xc, hsv3⟩ := own_slice HT.out.is.log.row
                have l3 := HT.out.is.log.at.2.2.2.1
                simp only at l3 hsv3
                rw [hsv3, htl] at l3
                clear hsv3
                by_cases hjk : K < j
                · obtain ⟨j', rfl⟩ : ∃ j', j = j' + 1 := ⟨j - 1, by omega⟩
                  obtain ⟨s, hs⟩ : ∃ s, qs[j']? = some s := ⟨_, List.getElem?_eq_getElem (by omega)⟩
                  have hsm := List.mem_of_getElem? hs
                  obtain ⟨xs, hfv, -, hxl, hsb62, -, -⟩ := HFL.out s hsm
                  have hts : (qs.map Seg.ps)[j']? = some s.ps := by rw [List.getElem?_map, hs]; rfl
                  have hfj : fv Dj (fnm nm s.base) = some xs := by
                    rw [HDI.out.rest _ (fun p hp e => by
                      obtain ⟨q, hq⟩ := List.getElem?_of_mem hp
                      rw [List.getElem?_drop] at hq
                      have h1 := HTO.out
                      rw [List.pairwise_iff_getElem] at h1
                      obtain ⟨ha, hae⟩ := List.getElem?_eq_some_iff.1 hts
                      obtain ⟨hb, hbe⟩ := List.getElem?_eq_some_iff.1 hq
                      have h2 := h1 j' (j' + 1 + q) ha hb (by omega)
                      rw [hae, hbe] at h2
                      have h3 : s.ps.base = s.base := rfl
                      have := fnm_inj e
                      omega)]
                    exact hfv
                  have HLD := Lib.hid (ldrop_calls B l j' ⟨d, nm, room, sv3, qs.take (j' + 1), false⟩ Dj s wr HT.out.is (by rw [List.getElem?_take, if_pos (by omega)]; exact hs) (HDI.out.fails.trans HNF.out) HI.out.nmr hsb62 (by
                      unfold fv at hfj
                      cases hm : mget Dj.now (fnm nm s.base) with
                      | none => rw [hm] at hfj; cases hfj
                      | some y => rfl) (by rw [HDI.out.dur.chg]; simp) (by rw [htl]; omega) (fun W hW => ItoaAt.all (by omega) (((HVU.out.only (HT.out.only.weak (fun k _ e => (HLU.out.foot_lt e).1)) hB5 hBU).only hW hB5 (by have := HT.out.only.size; omega))) (by have := HT.out.only.size; have := hW.size; omega)))
                  have d1 : decide ((K : Int) < ((j' : Int) + 1)) = true := decide_eq_true (by omega)
                  have HTS3 := Lib.hid hts
                  clear hfj hfv hts hs htl hsm
                  go_wp2_with fail
                  refine HLD.out.mono ?_
                  rintro e w9 ⟨rfl, sv9, cv9, cv92, v9, hlt9⟩
                  rw [show ({ d := d, name := nm, room := room, sv := sv3, segs := qs.take (j' + 1), broken := false } : Lg).segs.eraseIdx j' = qs.take j' from take_erase (by omega)] at hlt9
                  have HT9 := Lib.hid (HT.out.trans hlt9)
                  have HD9 := Lib.hid (HDI.out.more (by have := HT.out.is.disk; exact this) HTS3.out cv9 cv92 v9)
                  have HME := Lib.hid (show lenAt w9 l < lenAt wr l by
                    rw [lenAt_is HT9.out.is.log, lenAt_is HT.out.is.log]
                    show (qs.take j').length < (qs.take (j' + 1)).length
                    rw [List.length_take, List.length_take]; omega)
                  clear hlt9 HLD HTS3
                  go_wp2_with fail
                  go_roundw
                  case rel => exact ⟨j', sv9, _, by omega, by omega, HT9.out, HD9.out⟩
                  case measure => exact HME.out
                · obtain rfl : j = K := by omega
                  clear hjk hj1 hj2
                  have HFP2 := Lib.hid (show ∀ p ∈ qs.map Seg.ps, ∃ xs, fv D (fnm nm p.base) = some xs ∧ p = psOf p.base xs from fun p hp => by
                    obtain ⟨s, hs, rfl⟩ := List.mem_map.1 hp
                    obtain ⟨xs, h1, h2, -⟩ := HFL.out s hs
                    exact ⟨xs, h1, h2⟩)
                  by_cases hj0 : j = 0
                  · subst hj0
                    have HAF := Lib.hid (after_clean HTO.out HFP2.out HDI.out (fun p hp => by simp at hp))
                    go_wp2_with fail
                    go_ret2
                    exact ⟨l, _, _, Dj, rfl, HLW.out.1, HT.out.is, (lt_fin HBU.out HLW.out.1 HT.out).1, (lt_fin HBU.out HLW.out.1 HT.out).2, rfl, rfl, rfl, rfl, HTP.out, HTO.out, by rw [← HKK.out]; simp, by rw [← HKK.out]; exact HAF.out⟩
                  · obtain ⟨k', rfl⟩ : ∃ k', j = k' + 1 := ⟨j - 1, by omega⟩
                    obtain ⟨s, hs⟩ : ∃ s, qs[k']? = some s := ⟨_, List.getElem?_eq_getElem (by omega)⟩
                    have hsk : (qs.take (k' + 1))[k']? = some s := by rw [List.getElem?_take, if_pos (by omega)]; exact hs
                    obtain ⟨tb, tcap, hsv4, hle4, -, htc⟩ := HT.out.is.log.ptr k' (by simp only; omega)
                    simp only at hsv4 hle4 htc
                    rw [(List.getElem?_eq_some_iff.1 hsk).2] at htc
                    have l4 := HT.out.is.log.at.2.2.2.1
                    simp only at l4
                    rw [hsv4, htl, l3] at l4
                    simp only [Option.some.injEq, Value.slice.injEq, true_and] at l4
                    obtain ⟨rfl, rfl⟩ := l4
                    have hkc : k' < xc := by omega
                    have SG3 := Lib.hid (HT.out.is.log.segs s (List.mem_of_getElem? hsk))
                    have HSK := Lib.hid hsk
                    have HS2 := Lib.hid hs
                    have z3 := SG3.out.at.2.2.2
                    have Q3 := Lib.hid (And.intro (i64w (n := (k' : Int)) (by omega) (by omega)) (w64 (n := (k' : Int)) (by omega) (by omega)))
                    have d3 : decide ((0 : Int) < ((k' : Int) + 1)) = true := decide_eq_true (by omega)
                    have HSX := Lib.hid (HFL.out s (List.mem_of_getElem? hs))
                    clear hsv4 hle4 hsk hs htl hj0
                    obtain ⟨tz, tbase, tev, tevs, tsz, td⟩ := s
                    simp only at z3 htc
                    cases td with
                    | false =>
                      have HAL := Lib.hid (show ∀ (j : Nat) (q : Seg), j < k' + 1 → qs[j]? = some q → q.dirty = false from fun j q hj hq => by
                        by_cases e : j = k'
                        · subst e
                          rw [HS2.out] at hq
                          simp only [Option.some.injEq] at hq
                          rw [← hq]
                        · exact HCK.out j q (by omega) hq)
                      have HAF := Lib.hid (after_clean HTO.out HFP2.out HDI.out (fun p hp => by
                        obtain ⟨i, hi⟩ := List.getElem?_of_mem hp
                        rw [List.getElem?_take] at hi
                        split at hi
                        · rw [List.getElem?_map] at hi
                          obtain ⟨q, hq, rfl⟩ := Option.map_eq_some_iff.1 hi
                          exact HAL.out i q (by assumption) hq
                        · cases hi))
                      obtain ⟨qa3, qb3⟩ := Q3.out
                      have HS1 := Lib.hid (segs_same HAL.out)
                      go_wp2_with fail
                      clear qa3 qb3
                      go_ret2
                      first
                        | exact ⟨l, _, _, Dj, rfl, HLW.out.1, HT.out.is, (lt_fin HBU.out HLW.out.1 HT.out).1, (lt_fin HBU.out HLW.out.1 HT.out).2, rfl, rfl, rfl, rfl, HTP.out, HTO.out, by rw [← HKK.out]; exact HS1.out, by rw [← HKK.out]; exact HAF.out⟩
                        | exact ⟨l, rfl, HLW.out.1, _, _, Dj, HT.out.is, (lt_fin HBU.out HLW.out.1 HT.out).1, (lt_fin HBU.out HLW.out.1 HT.out).2, rfl, rfl, rfl, rfl, HTP.out, HTO.out, by rw [← HKK.out, ← List.map_take]; exact HS1.out, by rw [← HKK.out]; exact HAF.out⟩
                    | true =>
                      have hc3 : ∀ (j : Nat) (q : Seg), j < k' → qs[j]? = some q → q.dirty = false := fun j q hj => HCK.out j q (by omega)
                      obtain ⟨xs, hfv, -, hxl, hsb62, -, hsx⟩ := HSX.out
                      have hpk : (qs.map Seg.ps)[k']? = some (⟨tz, tbase, tev, tevs, tsz, true⟩ : Seg).ps := by rw [List.getElem?_map, HS2.out]; rfl
                      have hpt : (⟨tz, tbase, tev, tevs, tsz, true⟩ : Seg).ps ∈ (qs.map Seg.ps).take (k' + 1) := List.mem_of_getElem? (i := k') (by rw [List.getElem?_take, if_pos (by omega)]; exact hpk)
                      have hfj : fv Dj (fnm nm tbase) = some xs := by
                        have := HDI.out.rest _ (keep_ne (nm := nm) HTO.out hpt)
                        exact this.trans hfv
                      have hfo : fileOf Dj.now (fnm nm tbase) = xs := by
                        unfold fileOf
                        unfold fv at hfj
                        rw [hfj]; rfl
                      have HLS := Lib.hid (lshort_calls B l k' ⟨d, nm, room, sv3, qs.take (k' + 1), false⟩ Dj ⟨tz, tbase, tev, tevs, tsz, true⟩ wr HT.out.is HSK.out (HDI.out.fails.trans HNF.out) HI.out.nmr hsb62 (by
                        unfold fv at hfj
                        simp only
                        cases hm : mget Dj.now (fnm nm tbase) with
                        | none => rw [hm] at hfj; cases hfj
                        | some y => rfl) (by simp only; rw [hfo]; exact hsx) (by simp only; rw [hfo]; exact hxl) (by rw [HDI.out.dur.chg]; simp) (fun W hW => ItoaAt.all (by omega) (((HVU.out.only (HT.out.only.weak (fun k _ e => (HLU.out.foot_lt e).1)) hB5 hBU).only hW hB5 (by have := HT.out.only.size; omega))) (by have := HT.out.only.size; have := hW.size; omega)))
                      have HSC := Lib.hid (segs_clean HS2.out hc3)
                      have HPK := Lib.hid hpk
                      have HC3 := Lib.hid (show ∀ (i : Nat) (q : PS), i < k' → (qs.map Seg.ps)[i]? = some q → q.dirty = false from fun i q hi hq => by
                        rw [List.getElem?_map] at hq
                        obtain ⟨z, hz, rfl⟩ := Option.map_eq_some_iff.1 hq
                        exact hc3 i z hi hz)
                      clear hc3 hfv hxl hsx hpk hpt hfj hfo
                      obtain ⟨qa3, qb3⟩ := Q3.out
                      go_wp2_with fail
                      refine HLS.out.mono ?_
                      clear qa3 qb3
                      rintro e w9 ⟨rfl, v, cv, cv2, v2, hlt9⟩
                      have HT9 := Lib.hid (HT.out.trans hlt9)
                      have HAF := Lib.hid (after_cut HTO.out HFP2.out HDI.out HPK.out HC3.out v cv cv2 v2)
                      clear hlt9
                      go_wp2_with fail
                      go_ret2
                      first
                        | exact ⟨l, _, _, _, rfl, HLW.out.1, HT9.out.is, (lt_fin HBU.out HLW.out.1 HT9.out).1, (lt_fin HBU.out HLW.out.1 HT9.out).2, rfl, rfl, rfl, rfl, HTP.out, HTO.out, by rw [← HKK.out]; exact HSC.out, by rw [← HKK.out]; exact HAF.out⟩
                        | exact ⟨l, rfl, HLW.out.1, _, _, _, HT9.out.is, (lt_fin HBU.out HLW.out.1 HT9.out).1, (lt_fin HBU.out HLW.out.1 HT9.out).2, rfl, rfl, rfl, rfl, HTP.out, HTO.out, by rw [← HKK.out, ← List.map_take]; exact HSC.out, by rw [← HKK.out]; exact HAF.out⟩
          · have hip : 0 < i := by omega
            have d0 : decide ((0 : Int) < (i : Int)) = true := decide_eq_true (by omega)
            obtain ⟨i', rfl⟩ : ∃ i', i = i' + 1 := ⟨i - 1, by omega⟩
            obtain ⟨p, hp⟩ : ∃ p, qs[i']? = some p := ⟨_, List.getElem?_eq_getElem (by omega)⟩
            have PG := Lib.hid (HT.out.is.log.segs p (List.mem_of_getElem? hp))
            have hpb : p.base + p.evs.length ≤ 9223372036854775807 := by
              obtain ⟨xs, -, -, -, h1, h2, -⟩ := HFL.out p (List.mem_of_getElem? hp)
              omega
            have HPP := Lib.hid (show (qs.map Seg.ps)[i']? = some p.ps by rw [List.getElem?_map, hp]; rfl)
            obtain ⟨sb2, scap2, hsv3, -, -, hcell2⟩ := HT.out.is.log.ptr i' (by simp only; omega)
            have hv4 := HRV.out.symm.trans hsv3
            simp only [Value.slice.injEq, Option.some.injEq, Addr.mk.injEq, and_true] at hv4
            obtain ⟨rfl, -, rfl⟩ := hv4
            have hpe : qs[i'] = p := (List.getElem?_eq_some_iff.1 hp).2
            simp only at hcell2
            rw [hpe] at hcell2
            obtain ⟨pa, pc, hpv⟩ := own_slice PG.out.row
            obtain ⟨p0, p1, -, -⟩ := PG.out.at
            rw [hpv] at p1
            obtain ⟨pb, pbase, pev, pevs, psz, pd⟩ := p
            simp only at hpb hcell2 p0 p1
            clear hsv3 hpe hp hpv hi0 PG
            have Q1 := Lib.hid (And.intro (i64w (n := (i' : Int)) (by omega) (by omega)) (w64 (n := (i' : Int)) (by omega) (by omega)))
            have l3 := HT.out.is.log.at.2.2.2.1
            simp only at l3
            rw [HRV.out, ← HLN.out] at l3
            have hiq : i' < qs.length := by omega
            have hic2 : i' < rc := by omega
            have HPV := Lib.hid (show prevOf (qs.map Seg.ps) (i' + 1) = some (pbase + pevs.length) from by
              unfold prevOf
              rw [if_neg (by omega), Nat.add_sub_cancel, HPP.out]
              simp [Seg.ps])
            by_cases hgo : zbase = pbase + pevs.length
            · have hne : ((zbase : Int) != ((pbase + pevs.length : Nat) : Int)) = false := by
                rw [bne_eq_false_iff_eq]; omega
              have HGO := Lib.hid (show goesOn (qs.map Seg.ps) (i' + 1) (⟨zb, zbase, zev, zevs, zsz, zd⟩ : Seg).ps from .inr (by rw [HPV.out, ← hgo]; rfl))
              clear hgo
              go_upto_region 20 with fail
              refine region_m [(0, false), (1, false), (2, false), (3, false), (4, false), (5, false), (6, false), (7, false), (8, false), (9, false), (10, false), (11, false), (12, false), (13, false), (14, false), (15, true), (16, false), (17, false)] 18 (fun X => X.cell? ⟨zb, 0, none⟩ = some (.int .i64 zbase) ∧ X.cell? ⟨l, 3, none⟩ = some (.slice (some ⟨sb, 0, none⟩) qs.length rc) ∧ X.cell? ⟨sb, i', none⟩ = some (.pointer (some ⟨pb, 0, none⟩))) (by kernel_rfl) (by kernel_rfl) ⟨s0, l3, hcell2⟩ ?_
              obtain ⟨qa, qb⟩ := Q1.out
              iterate 15
                first
                | (refine m_take (v := ?_) rfl rfl ?_ ?_
                   rotate_left
                   · intro W hW
                     go_simp
                     with_reducible rfl
                   simp only [Act.put, List.setIfInBounds_toArray, List.set_cons_zero, List.set_cons_succ])
                | (refine m_skip rfl rfl ?_
                   simp only [Act.put, List.setIfInBounds_toArray, List.set_cons_zero, List.set_cons_succ])
              clear qa qb
              refine m_loud rfl (fun K hK => ?_)
              have HK := Lib.hid hK
              clear hK
              go_simp
              refine (snext_calls pb pbase (.slice pa pevs.length pc) pevs.length wr.drew p0 p1 ⟨_, _, rfl⟩ hpb).mono ?_
              rintro e w7 ⟨rfl, hb7⟩
              have hb7 : Below wr.heap.size wr w7 := ((Below.refl wr.heap.size wr).drew).trans hb7
              have HT := Lib.hid (HT.out.below hb7)
              have HBW := Lib.hid (HBW.out.trans (hb7.mono HBW.out.size))
              refine HK.out _ _ ⟨cell_later hb7 s0, cell_later hb7 l3, cell_later hb7 hcell2⟩ ?_
              clear HK
              have s3 := cell_later hb7 s3
              clear hb7
              iterate 2
                first
                | (refine m_take (v := ?_) rfl rfl ?_ ?_
                   rotate_left
                   · intro W hW
                     go_simp
                     with_reducible rfl
                   simp only [Act.put, List.setIfInBounds_toArray, List.set_cons_zero, List.set_cons_succ])
                | (refine m_skip rfl rfl ?_
                   simp only [Act.put, List.setIfInBounds_toArray, List.set_cons_zero, List.set_cons_succ])
              refine m_done ?_
              simp only [List.drop_succ_cons, List.drop_zero]
              cases zd with
              | false =>
                have HK2 := Lib.hid (keep_step HKE.out HTS.out HGO.out rfl)
                go_wp2_with fail
                try simp only [NP]
                go_wp2_with fail
                go_roundw
                case rel => exact ⟨i' + 1 + 1, by omega, rfl, by go_num, HT.out, HBW.out, HK2.out, fun j s hj hs => by
                  by_cases e : j < i' + 1
                  · exact HCL.out j s e hs
                  · obtain rfl : j = i' + 1 := by omega
                    rw [HS.out] at hs
                    simp only [Option.some.injEq] at hs
                    rw [← hs]⟩
                case measure => simp [intOf]; omega
              | true =>
                have HK2 := Lib.hid (keep_dirty HKE.out HTS.out HGO.out rfl)
                obtain ⟨K, hK⟩ : ∃ K : Nat, K = i' + 1 + 1 := ⟨_, rfl⟩
                have HKK := Lib.hid (show K = keepOf (qs.map Seg.ps) by rw [hK]; exact HK2.out.symm)
                have hKl : K ≤ qs.length := by omega
                have HCK := Lib.hid (show ∀ (j : Nat) (s : Seg), j + 1 < K → qs[j]? = some s → s.dirty = false from fun j s hj => HCL.out j s (by omega))
                clear HK2 HKE HCL HTS HS SG HPP HPV HGO Q1 p0 p1 hcell2 l3
                go_wp2_with fail
                try simp only [NP]
                go_wp2_with fail
                push_cast
                simp only [show ((zbase : Int) != (pbase : Int) + (pevs.length : Int)) = false from by have := hne; push_cast at this; exact this]
                rw [show ((i' : Int) + 1 + 1) = (K : Int) by rw [hK]; omega]
                -- behind the second loop, in the world w7: K segments are kept
                obtain ⟨Wx, hWx⟩ : ∃ Wx, Wx = w7 := ⟨_, rfl⟩
                rw [← hWx] at HT ⊢
                clear hK hWx HBW
                have HVU := Lib.hid (HV.out.below HBU.out (by omega))
                have hBU : B ≤ U.heap.size := by have := HBU.out.size; omega
                go_loopw [19] (fun _ wr3 => ∃ (j : Nat) (sv3 : Value) (Dj : Dk), K ≤ j ∧ j ≤ qs.length ∧ LT U wr3 B l (newL d nm room) D ⟨d, nm, room, sv3, qs.take j, false⟩ Dj ∧ DropIn nm (qs.map Seg.ps) j D Dj) (fun _ wr3 => lenAt wr3 l)
                case atStart => exact ⟨qs.length, sv, D, hKl, Nat.le_refl _, by rw [List.take_length]; exact HT.out, HDU.out, rfl, rfl, (fun p hp => by rw [List.drop_eq_nil_of_le (by rw [List.length_map]; omega)] at hp; cases hp), fun x _ => rfl⟩
                case round =>
                  clear HT
                  obtain ⟨j, sv3, Dj, hj1, hj2, hlt3, hdi⟩ := hrel
                  have HT := Lib.hid hlt3
                  have HDI := Lib.hid hdi
                  clear hlt3 hdi
                  have htl : (qs.take j).length = j := by rw [List.length_take]; omega
                  obtain ⟨xa, xc, hsv3⟩ := own_slice HT.out.is.log.row
                  have l3 := HT.out.is.log.at.2.2.2.1
                  simp only at l3 hsv3
                  rw [hsv3, htl] at l3
                  clear hsv3
                  by_cases hjk : K < j
                  · obtain ⟨j', rfl⟩ : ∃ j', j = j' + 1 := ⟨j - 1, by omega⟩
                    obtain ⟨s, hs⟩ : ∃ s, qs[j']? = some s := ⟨_, List.getElem?_eq_getElem (by omega)⟩
                    have hsm := List.mem_of_getElem? hs
                    obtain ⟨xs, hfv, -, hxl, hsb62, -, -⟩ := HFL.out s hsm
                    have hts : (qs.map Seg.ps)[j']? = some s.ps := by rw [List.getElem?_map, hs]; rfl
                    have hfj : fv Dj (fnm nm s.base) = some xs := by
                      rw [HDI.out.rest _ (fun p hp e => by
                        obtain ⟨q, hq⟩ := List.getElem?_of_mem hp
                        rw [List.getElem?_drop] at hq
                        have h1 := HTO.out
                        rw [List.pairwise_iff_getElem] at h1
                        obtain ⟨ha, hae⟩ := List.getElem?_eq_some_iff.1 hts
                        obtain ⟨hb, hbe⟩ := List.getElem?_eq_some_iff.1 hq
                        have h2 := h1 j' (j' + 1 + q) ha hb (by omega)
                        rw [hae, hbe] at h2
                        have h3 : s.ps.base = s.base := rfl
                        have := fnm_inj e
                        omega)]
                      exact hfv
                    have HLD := Lib.hid (ldrop_calls B l j' ⟨d, nm, room, sv3, qs.take (j' + 1), false⟩ Dj s wr HT.out.is (by rw [List.getElem?_take, if_pos (by omega)]; exact hs) (HDI.out.fails.trans HNF.out) HI.out.nmr hsb62 (by
                        unfold fv at hfj
                        cases hm : mget Dj.now (fnm nm s.base) with
                        | none => rw [hm] at hfj; cases hfj
                        | some y => rfl) (by rw [HDI.out.dur.chg]; simp) (by rw [htl]; omega) (fun W hW => ItoaAt.all (by omega) (((HVU.out.only (HT.out.only.weak (fun k _ e => (HLU.out.foot_lt e).1)) hB5 hBU).only hW hB5 (by have := HT.out.only.size; omega))) (by have := HT.out.only.size; have := hW.size; omega)))
                    have d1 : decide ((K : Int) < ((j' : Int) + 1)) = true := decide_eq_true (by omega)
                    have HTS3 := Lib.hid hts
                    clear hfj hfv hts hs htl hsm
                    go_wp2_with fail
                    refine HLD.out.mono ?_
                    rintro e w9 ⟨rfl, sv9, cv9, cv92, v9, hlt9⟩
                    rw [show ({ d := d, name := nm, room := room, sv := sv3, segs := qs.take (j' + 1), broken := false } : Lg).segs.eraseIdx j' = qs.take j' from take_erase (by omega)] at hlt9
                    have HT9 := Lib.hid (HT.out.trans hlt9)
                    have HD9 := Lib.hid (HDI.out.more (by have := HT.out.is.disk; exact this) HTS3.out cv9 cv92 v9)
                    have HME := Lib.hid (show lenAt w9 l < lenAt wr l by
                      rw [lenAt_is HT9.out.is.log, lenAt_is HT.out.is.log]
                      show (qs.take j').length < (qs.take (j' + 1)).length
                      rw [List.length_take, List.length_take]; omega)
                    clear hlt9 HLD HTS3
                    go_wp2_with fail
                    go_roundw
                    case rel => exact ⟨j', sv9, _, by omega, by omega, HT9.out, HD9.out⟩
                    case measure => exact HME.out
                  · obtain rfl : j = K := by omega
                    clear hjk hj1 hj2
                    have HFP2 := Lib.hid (show ∀ p ∈ qs.map Seg.ps, ∃ xs, fv D (fnm nm p.base) = some xs ∧ p = psOf p.base xs from fun p hp => by
                      obtain ⟨s, hs, rfl⟩ := List.mem_map.1 hp
                      obtain ⟨xs, h1, h2, -⟩ := HFL.out s hs
                      exact ⟨xs, h1, h2⟩)
                    by_cases hj0 : j = 0
                    · subst hj0
                      have HAF := Lib.hid (after_clean HTO.out HFP2.out HDI.out (fun p hp => by simp at hp))
                      go_wp2_with fail
                      go_ret2
                      exact ⟨l, _, _, Dj, rfl, HLW.out.1, HT.out.is, (lt_fin HBU.out HLW.out.1 HT.out).1, (lt_fin HBU.out HLW.out.1 HT.out).2, rfl, rfl, rfl, rfl, HTP.out, HTO.out, by rw [← HKK.out]; simp, by rw [← HKK.out]; exact HAF.out⟩
                    · obtain ⟨k', rfl⟩ : ∃ k', j = k' + 1 := ⟨j - 1, by omega⟩
                      obtain ⟨s, hs⟩ : ∃ s, qs[k']? = some s := ⟨_, List.getElem?_eq_getElem (by omega)⟩
                      have hsk : (qs.take (k' + 1))[k']? = some s := by rw [List.getElem?_take, if_pos (by omega)]; exact hs
                      obtain ⟨tb, tcap, hsv4, hle4, -, htc⟩ := HT.out.is.log.ptr k' (by simp only; omega)
                      simp only at hsv4 hle4 htc
                      rw [(List.getElem?_eq_some_iff.1 hsk).2] at htc
                      have l4 := HT.out.is.log.at.2.2.2.1
                      simp only at l4
                      rw [hsv4, htl, l3] at l4
                      simp only [Option.some.injEq, Value.slice.injEq, true_and] at l4
                      obtain ⟨rfl, rfl⟩ := l4
                      have hkc : k' < xc := by omega
                      have SG3 := Lib.hid (HT.out.is.log.segs s (List.mem_of_getElem? hsk))
                      have HSK := Lib.hid hsk
                      have HS2 := Lib.hid hs
                      have z3 := SG3.out.at.2.2.2
                      have Q3 := Lib.hid (And.intro (i64w (n := (k' : Int)) (by omega) (by omega)) (w64 (n := (k' : Int)) (by omega) (by omega)))
                      have d3 : decide ((0 : Int) < ((k' : Int) + 1)) = true := decide_eq_true (by omega)
                      have HSX := Lib.hid (HFL.out s (List.mem_of_getElem? hs))
                      clear hsv4 hle4 hsk hs htl hj0
                      obtain ⟨tz, tbase, tev, tevs, tsz, td⟩ := s
                      simp only at z3 htc
                      cases td with
                      | false =>
                        have HAL := Lib.hid (show ∀ (j : Nat) (q : Seg), j < k' + 1 → qs[j]? = some q → q.dirty = false from fun j q hj hq => by
                          by_cases e : j = k'
                          · subst e
                            rw [HS2.out] at hq
                            simp only [Option.some.injEq] at hq
                            rw [← hq]
                          · exact HCK.out j q (by omega) hq)
                        have HAF := Lib.hid (after_clean HTO.out HFP2.out HDI.out (fun p hp => by
                          obtain ⟨i, hi⟩ := List.getElem?_of_mem hp
                          rw [List.getElem?_take] at hi
                          split at hi
                          · rw [List.getElem?_map] at hi
                            obtain ⟨q, hq, rfl⟩ := Option.map_eq_some_iff.1 hi
                            exact HAL.out i q (by assumption) hq
                          · cases hi))
                        obtain ⟨qa3, qb3⟩ := Q3.out
                        have HS1 := Lib.hid (segs_same HAL.out)
                        go_wp2_with fail
                        clear qa3 qb3
                        go_ret2
                        first
                          | exact ⟨l, _, _, Dj, rfl, HLW.out.1, HT.out.is, (lt_fin HBU.out HLW.out.1 HT.out).1, (lt_fin HBU.out HLW.out.1 HT.out).2, rfl, rfl, rfl, rfl, HTP.out, HTO.out, by rw [← HKK.out]; exact HS1.out, by rw [← HKK.out]; exact HAF.out⟩
                          | exact ⟨l, rfl, HLW.out.1, _, _, Dj, HT.out.is, (lt_fin HBU.out HLW.out.1 HT.out).1, (lt_fin HBU.out HLW.out.1 HT.out).2, rfl, rfl, rfl, rfl, HTP.out, HTO.out, by rw [← HKK.out, ← List.map_take]; exact HS1.out, by rw [← HKK.out]; exact HAF.out⟩
                      | true =>
                        have hc3 : ∀ (j : Nat) (q : Seg), j < k' → qs[j]? = some q → q.dirty = false := fun j q hj => HCK.out j q (by omega)
                        obtain ⟨xs, hfv, -, hxl, hsb62, -, hsx⟩ := HSX.out
                        have hpk : (qs.map Seg.ps)[k']? = some (⟨tz, tbase, tev, tevs, tsz, true⟩ : Seg).ps := by rw [List.getElem?_map, HS2.out]; rfl
                        have hpt : (⟨tz, tbase, tev, tevs, tsz, true⟩ : Seg).ps ∈ (qs.map Seg.ps).take (k' + 1) := List.mem_of_getElem? (i := k') (by rw [List.getElem?_take, if_pos (by omega)]; exact hpk)
                        have hfj : fv Dj (fnm nm tbase) = some xs := by
                          have := HDI.out.rest _ (keep_ne (nm := nm) HTO.out hpt)
                          exact this.trans hfv
                        have hfo : fileOf Dj.now (fnm nm tbase) = xs := by
                          unfold fileOf
                          unfold fv at hfj
                          rw [hfj]; rfl
                        have HLS := Lib.hid (lshort_calls B l k' ⟨d, nm, room, sv3, qs.take (k' + 1), false⟩ Dj ⟨tz, tbase, tev, tevs, tsz, true⟩ wr HT.out.is HSK.out (HDI.out.fails.trans HNF.out) HI.out.nmr hsb62 (by
                          unfold fv at hfj
                          simp only
                          cases hm : mget Dj.now (fnm nm tbase) with
                          | none => rw [hm] at hfj; cases hfj
                          | some y => rfl) (by simp only; rw [hfo]; exact hsx) (by simp only; rw [hfo]; exact hxl) (by rw [HDI.out.dur.chg]; simp) (fun W hW => ItoaAt.all (by omega) (((HVU.out.only (HT.out.only.weak (fun k _ e => (HLU.out.foot_lt e).1)) hB5 hBU).only hW hB5 (by have := HT.out.only.size; omega))) (by have := HT.out.only.size; have := hW.size; omega)))
                        have HSC := Lib.hid (segs_clean HS2.out hc3)
                        have HPK := Lib.hid hpk
                        have HC3 := Lib.hid (show ∀ (i : Nat) (q : PS), i < k' → (qs.map Seg.ps)[i]? = some q → q.dirty = false from fun i q hi hq => by
                          rw [List.getElem?_map] at hq
                          obtain ⟨z, hz, rfl⟩ := Option.map_eq_some_iff.1 hq
                          exact hc3 i z hi hz)
                        clear hc3 hfv hxl hsx hpk hpt hfj hfo
                        obtain ⟨qa3, qb3⟩ := Q3.out
                        go_wp2_with fail
                        refine HLS.out.mono ?_
                        clear qa3 qb3
                        rintro e w9 ⟨rfl, v, cv, cv2, v2, hlt9⟩
                        have HT9 := Lib.hid (HT.out.trans hlt9)
                        have HAF := Lib.hid (after_cut HTO.out HFP2.out HDI.out HPK.out HC3.out v cv cv2 v2)
                        clear hlt9
                        go_wp2_with fail
                        go_ret2
                        first
                          | exact ⟨l, _, _, _, rfl, HLW.out.1, HT9.out.is, (lt_fin HBU.out HLW.out.1 HT9.out).1, (lt_fin HBU.out HLW.out.1 HT9.out).2, rfl, rfl, rfl, rfl, HTP.out, HTO.out, by rw [← HKK.out]; exact HSC.out, by rw [← HKK.out]; exact HAF.out⟩
                          | exact ⟨l, rfl, HLW.out.1, _, _, _, HT9.out.is, (lt_fin HBU.out HLW.out.1 HT9.out).1, (lt_fin HBU.out HLW.out.1 HT9.out).2, rfl, rfl, rfl, rfl, HTP.out, HTO.out, by rw [← HKK.out, ← List.map_take]; exact HSC.out, by rw [← HKK.out]; exact HAF.out⟩
            · have hne : ((zbase : Int) != ((pbase + pevs.length : Nat) : Int)) = true := by
                rw [bne_iff_ne]; omega
              have HK2 := Lib.hid (keep_break HKE.out HPP.out HTS.out (by simp only [Seg.ps, List.length_map]; exact hgo))
              clear hgo
              go_upto_region 20 with fail
              refine region_m [(0, false), (1, false), (2, false), (3, false), (4, false), (5, false), (6, false), (7, false), (8, false), (9, false), (10, false), (11, false), (12, false), (13, false), (14, false), (15, true), (16, false), (17, false)] 18 (fun X => X.cell? ⟨zb, 0, none⟩ = some (.int .i64 zbase) ∧ X.cell? ⟨l, 3, none⟩ = some (.slice (some ⟨sb, 0, none⟩) qs.length rc) ∧ X.cell? ⟨sb, i', none⟩ = some (.pointer (some ⟨pb, 0, none⟩))) (by kernel_rfl) (by kernel_rfl) ⟨s0, l3, hcell2⟩ ?_
              obtain ⟨qa, qb⟩ := Q1.out
              iterate 15
                first
                | (refine m_take (v := ?_) rfl rfl ?_ ?_
                   rotate_left
                   · intro W hW
                     go_simp
                     with_reducible rfl
                   simp only [Act.put, List.setIfInBounds_toArray, List.set_cons_zero, List.set_cons_succ])
                | (refine m_skip rfl rfl ?_
                   simp only [Act.put, List.setIfInBounds_toArray, List.set_cons_zero, List.set_cons_succ])
              clear qa qb
              refine m_loud rfl (fun K hK => ?_)
              have HK := Lib.hid hK
              clear hK
              go_simp
              refine (snext_calls pb pbase (.slice pa pevs.length pc) pevs.length wr.drew p0 p1 ⟨_, _, rfl⟩ hpb).mono ?_
              rintro e w7 ⟨rfl, hb7⟩
              have hb7 : Below wr.heap.size wr w7 := ((Below.refl wr.heap.size wr).drew).trans hb7
              have HT := Lib.hid (HT.out.below hb7)
              have HBW := Lib.hid (HBW.out.trans (hb7.mono HBW.out.size))
              refine HK.out _ _ ⟨cell_later hb7 s0, cell_later hb7 l3, cell_later hb7 hcell2⟩ ?_
              clear HK
              have s3 := cell_later hb7 s3
              clear hb7
              iterate 2
                first
                | (refine m_take (v := ?_) rfl rfl ?_ ?_
                   rotate_left
                   · intro W hW
                     go_simp
                     with_reducible rfl
                   simp only [Act.put, List.setIfInBounds_toArray, List.set_cons_zero, List.set_cons_succ])
                | (refine m_skip rfl rfl ?_
                   simp only [Act.put, List.setIfInBounds_toArray, List.set_cons_zero, List.set_cons_succ])
              refine m_done ?_
              simp only [List.drop_succ_cons, List.drop_zero]
              obtain ⟨K, hK⟩ : ∃ K : Nat, K = i' + 1 := ⟨_, rfl⟩
              have HKK := Lib.hid (show K = keepOf (qs.map Seg.ps) by rw [hK]; exact HK2.out.symm)
              have hKl : K ≤ qs.length := by omega
              have HCK := Lib.hid (show ∀ (j : Nat) (s : Seg), j + 1 < K → qs[j]? = some s → s.dirty = false from fun j s hj => HCL.out j s (by omega))
              clear HK2 HKE HCL HTS HS SG HPP HPV Q1 p0 p1 hcell2 l3
              go_wp2_with fail
              try simp only [NP]
              go_wp2_with fail
              push_cast
              simp only [show ((zbase : Int) != (pbase : Int) + (pevs.length : Int)) = true from by have := hne; push_cast at this; exact this]
              rw [show ((i' : Int) + 1) = (K : Int) by rw [hK]; omega]
              -- behind the second loop, in the world w7: K segments are kept
              obtain ⟨Wx, hWx⟩ : ∃ Wx, Wx = w7 := ⟨_, rfl⟩
              rw [← hWx] at HT ⊢
              clear hK hWx HBW
              have HVU := Lib.hid (HV.out.below HBU.out (by omega))
              have hBU : B ≤ U.heap.size := by have := HBU.out.size; omega
              go_loopw [19] (fun _ wr3 => ∃ (j : Nat) (sv3 : Value) (Dj : Dk), K ≤ j ∧ j ≤ qs.length ∧ LT U wr3 B l (newL d nm room) D ⟨d, nm, room, sv3, qs.take j, false⟩ Dj ∧ DropIn nm (qs.map Seg.ps) j D Dj) (fun _ wr3 => lenAt wr3 l)
              case atStart => exact ⟨qs.length, sv, D, hKl, Nat.le_refl _, by rw [List.take_length]; exact HT.out, HDU.out, rfl, rfl, (fun p hp => by rw [List.drop_eq_nil_of_le (by rw [List.length_map]; omega)] at hp; cases hp), fun x _ => rfl⟩
              case round =>
                clear HT
                obtain ⟨j, sv3, Dj, hj1, hj2, hlt3, hdi⟩ := hrel
                have HT := Lib.hid hlt3
                have HDI := Lib.hid hdi
                clear hlt3 hdi
                have htl : (qs.take j).length = j := by rw [List.length_take]; omega
                obtain ⟨xa, xc, hsv3⟩ := own_slice HT.out.is.log.row
                have l3 := HT.out.is.log.at.2.2.2.1
                simp only at l3 hsv3
                rw [hsv3, htl] at l3
                clear hsv3
                by_cases hjk : K < j
                · obtain ⟨j', rfl⟩ : ∃ j', j = j' + 1 := ⟨j - 1, by omega⟩
                  obtain ⟨s, hs⟩ : ∃ s, qs[j']? = some s := ⟨_, List.getElem?_eq_getElem (by omega)⟩
                  have hsm := List.mem_of_getElem? hs
                  obtain ⟨xs, hfv, -, hxl, hsb62, -, -⟩ := HFL.out s hsm
                  have hts : (qs.map Seg.ps)[j']? = some s.ps := by rw [List.getElem?_map, hs]; rfl
                  have hfj : fv Dj (fnm nm s.base) = some xs := by
                    rw [HDI.out.rest _ (fun p hp e => by
                      obtain ⟨q, hq⟩ := List.getElem?_of_mem hp
                      rw [List.getElem?_drop] at hq
                      have h1 := HTO.out
                      rw [List.pairwise_iff_getElem] at h1
                      obtain ⟨ha, hae⟩ := List.getElem?_eq_some_iff.1 hts
                      obtain ⟨hb, hbe⟩ := List.getElem?_eq_some_iff.1 hq
                      have h2 := h1 j' (j' + 1 + q) ha hb (by omega)
                      rw [hae, hbe] at h2
                      have h3 : s.ps.base = s.base := rfl
                      have := fnm_inj e
                      omega)]
                    exact hfv
                  have HLD := Lib.hid (ldrop_calls B l j' ⟨d, nm, room, sv3, qs.take (j' + 1), false⟩ Dj s wr HT.out.is (by rw [List.getElem?_take, if_pos (by omega)]; exact hs) (HDI.out.fails.trans HNF.out) HI.out.nmr hsb62 (by
                      unfold fv at hfj
                      cases hm : mget Dj.now (fnm nm s.base) with
                      | none => rw [hm] at hfj; cases hfj
                      | some y => rfl) (by rw [HDI.out.dur.chg]; simp) (by rw [htl]; omega) (fun W hW => ItoaAt.all (by omega) (((HVU.out.only (HT.out.only.weak (fun k _ e => (HLU.out.foot_lt e).1)) hB5 hBU).only hW hB5 (by have := HT.out.only.size; omega))) (by have := HT.out.only.size; have := hW.size; omega)))
                  have d1 : decide ((K : Int) < ((j' : Int) + 1)) = true := decide_eq_true (by omega)
                  have HTS3 := Lib.hid hts
                  clear hfj hfv hts hs htl hsm
                  go_wp2_with fail
                  refine HLD.out.mono ?_
                  rintro e w9 ⟨rfl, sv9, cv9, cv92, v9, hlt9⟩
                  rw [show ({ d := d, name := nm, room := room, sv := sv3, segs := qs.take (j' + 1), broken := false } : Lg).segs.eraseIdx j' = qs.take j' from take_erase (by omega)] at hlt9
                  have HT9 := Lib.hid (HT.out.trans hlt9)
                  have HD9 := Lib.hid (HDI.out.more (by have := HT.out.is.disk; exact this) HTS3.out cv9 cv92 v9)
                  have HME := Lib.hid (show lenAt w9 l < lenAt wr l by
                    rw [lenAt_is HT9.out.is.log, lenAt_is HT.out.is.log]
                    show (qs.take j').length < (qs.take (j' + 1)).length
                    rw [List.length_take, List.length_take]; omega)
                  clear hlt9 HLD HTS3
                  go_wp2_with fail
                  go_roundw
                  case rel => exact ⟨j', sv9, _, by omega, by omega, HT9.out, HD9.out⟩
                  case measure => exact HME.out
                · obtain rfl : j = K := by omega
                  clear hjk hj1 hj2
                  have HFP2 := Lib.hid (show ∀ p ∈ qs.map Seg.ps, ∃ xs, fv D (fnm nm p.base) = some xs ∧ p = psOf p.base xs from fun p hp => by
                    obtain ⟨s, hs, rfl⟩ := List.mem_map.1 hp
                    obtain ⟨xs, h1, h2, -⟩ := HFL.out s hs
                    exact ⟨xs, h1, h2⟩)
                  by_cases hj0 : j = 0
                  · subst hj0
                    have HAF := Lib.hid (after_clean HTO.out HFP2.out HDI.out (fun p hp => by simp at hp))
                    go_wp2_with fail
                    go_ret2
                    exact ⟨l, _, _, Dj, rfl, HLW.out.1, HT.out.is, (lt_fin HBU.out HLW.out.1 HT.out).1, (lt_fin HBU.out HLW.out.1 HT.out).2, rfl, rfl, rfl, rfl, HTP.out, HTO.out, by rw [← HKK.out]; simp, by rw [← HKK.out]; exact HAF.out⟩
                  · obtain ⟨k', rfl⟩ : ∃ k', j = k' + 1 := ⟨j - 1, by omega⟩
                    obtain ⟨s, hs⟩ : ∃ s, qs[k']? = some s := ⟨_, List.getElem?_eq_getElem (by omega)⟩
                    have hsk : (qs.take (k' + 1))[k']? = some s := by rw [List.getElem?_take, if_pos (by omega)]; exact hs
                    obtain ⟨tb, tcap, hsv4, hle4, -, htc⟩ := HT.out.is.log.ptr k' (by simp only; omega)
                    simp only at hsv4 hle4 htc
                    rw [(List.getElem?_eq_some_iff.1 hsk).2] at htc
                    have l4 := HT.out.is.log.at.2.2.2.1
                    simp only at l4
                    rw [hsv4, htl, l3] at l4
                    simp only [Option.some.injEq, Value.slice.injEq, true_and] at l4
                    obtain ⟨rfl, rfl⟩ := l4
                    have hkc : k' < xc := by omega
                    have SG3 := Lib.hid (HT.out.is.log.segs s (List.mem_of_getElem? hsk))
                    have HSK := Lib.hid hsk
                    have HS2 := Lib.hid hs
                    have z3 := SG3.out.at.2.2.2
                    have Q3 := Lib.hid (And.intro (i64w (n := (k' : Int)) (by omega) (by omega)) (w64 (n := (k' : Int)) (by omega) (by omega)))
                    have d3 : decide ((0 : Int) < ((k' : Int) + 1)) = true := decide_eq_true (by omega)
                    have HSX := Lib.hid (HFL.out s (List.mem_of_getElem? hs))
                    clear hsv4 hle4 hsk hs htl hj0
                    obtain ⟨tz, tbase, tev, tevs, tsz, td⟩ := s
                    simp only at z3 htc
                    cases td with
                    | false =>
                      have HAL := Lib.hid (show ∀ (j : Nat) (q : Seg), j < k' + 1 → qs[j]? = some q → q.dirty = false from fun j q hj hq => by
                        by_cases e : j = k'
                        · subst e
                          rw [HS2.out] at hq
                          simp only [Option.some.injEq] at hq
                          rw [← hq]
                        · exact HCK.out j q (by omega) hq)
                      have HAF := Lib.hid (after_clean HTO.out HFP2.out HDI.out (fun p hp => by
                        obtain ⟨i, hi⟩ := List.getElem?_of_mem hp
                        rw [List.getElem?_take] at hi
                        split at hi
                        · rw [List.getElem?_map] at hi
                          obtain ⟨q, hq, rfl⟩ := Option.map_eq_some_iff.1 hi
                          exact HAL.out i q (by assumption) hq
                        · cases hi))
                      obtain ⟨qa3, qb3⟩ := Q3.out
                      have HS1 := Lib.hid (segs_same HAL.out)
                      go_wp2_with fail
                      clear qa3 qb3
                      go_ret2
                      first
                        | exact ⟨l, _, _, Dj, rfl, HLW.out.1, HT.out.is, (lt_fin HBU.out HLW.out.1 HT.out).1, (lt_fin HBU.out HLW.out.1 HT.out).2, rfl, rfl, rfl, rfl, HTP.out, HTO.out, by rw [← HKK.out]; exact HS1.out, by rw [← HKK.out]; exact HAF.out⟩
                        | exact ⟨l, rfl, HLW.out.1, _, _, Dj, HT.out.is, (lt_fin HBU.out HLW.out.1 HT.out).1, (lt_fin HBU.out HLW.out.1 HT.out).2, rfl, rfl, rfl, rfl, HTP.out, HTO.out, by rw [← HKK.out, ← List.map_take]; exact HS1.out, by rw [← HKK.out]; exact HAF.out⟩
                    | true =>
                      have hc3 : ∀ (j : Nat) (q : Seg), j < k' → qs[j]? = some q → q.dirty = false := fun j q hj => HCK.out j q (by omega)
                      obtain ⟨xs, hfv, -, hxl, hsb62, -, hsx⟩ := HSX.out
                      have hpk : (qs.map Seg.ps)[k']? = some (⟨tz, tbase, tev, tevs, tsz, true⟩ : Seg).ps := by rw [List.getElem?_map, HS2.out]; rfl
                      have hpt : (⟨tz, tbase, tev, tevs, tsz, true⟩ : Seg).ps ∈ (qs.map Seg.ps).take (k' + 1) := List.mem_of_getElem? (i := k') (by rw [List.getElem?_take, if_pos (by omega)]; exact hpk)
                      have hfj : fv Dj (fnm nm tbase) = some xs := by
                        have := HDI.out.rest _ (keep_ne (nm := nm) HTO.out hpt)
                        exact this.trans hfv
                      have hfo : fileOf Dj.now (fnm nm tbase) = xs := by
                        unfold fileOf
                        unfold fv at hfj
                        rw [hfj]; rfl
                      have HLS := Lib.hid (lshort_calls B l k' ⟨d, nm, room, sv3, qs.take (k' + 1), false⟩ Dj ⟨tz, tbase, tev, tevs, tsz, true⟩ wr HT.out.is HSK.out (HDI.out.fails.trans HNF.out) HI.out.nmr hsb62 (by
                        unfold fv at hfj
                        simp only
                        cases hm : mget Dj.now (fnm nm tbase) with
                        | none => rw [hm] at hfj; cases hfj
                        | some y => rfl) (by simp only; rw [hfo]; exact hsx) (by simp only; rw [hfo]; exact hxl) (by rw [HDI.out.dur.chg]; simp) (fun W hW => ItoaAt.all (by omega) (((HVU.out.only (HT.out.only.weak (fun k _ e => (HLU.out.foot_lt e).1)) hB5 hBU).only hW hB5 (by have := HT.out.only.size; omega))) (by have := HT.out.only.size; have := hW.size; omega)))
                      have HSC := Lib.hid (segs_clean HS2.out hc3)
                      have HPK := Lib.hid hpk
                      have HC3 := Lib.hid (show ∀ (i : Nat) (q : PS), i < k' → (qs.map Seg.ps)[i]? = some q → q.dirty = false from fun i q hi hq => by
                        rw [List.getElem?_map] at hq
                        obtain ⟨z, hz, rfl⟩ := Option.map_eq_some_iff.1 hq
                        exact hc3 i z hi hz)
                      clear hc3 hfv hxl hsx hpk hpt hfj hfo
                      obtain ⟨qa3, qb3⟩ := Q3.out
                      go_wp2_with fail
                      refine HLS.out.mono ?_
                      clear qa3 qb3
                      rintro e w9 ⟨rfl, v, cv, cv2, v2, hlt9⟩
                      have HT9 := Lib.hid (HT.out.trans hlt9)
                      have HAF := Lib.hid (after_cut HTO.out HFP2.out HDI.out HPK.out HC3.out v cv cv2 v2)
                      clear hlt9
                      go_wp2_with fail
                      go_ret2
                      first
                        | exact ⟨l, _, _, _, rfl, HLW.out.1, HT9.out.is, (lt_fin HBU.out HLW.out.1 HT9.out).1, (lt_fin HBU.out HLW.out.1 HT9.out).2, rfl, rfl, rfl, rfl, HTP.out, HTO.out, by rw [← HKK.out]; exact HSC.out, by rw [← HKK.out]; exact HAF.out⟩
                        | exact ⟨l, rfl, HLW.out.1, _, _, _, HT9.out.is, (lt_fin HBU.out HLW.out.1 HT9.out).1, (lt_fin HBU.out HLW.out.1 HT9.out).2, rfl, rfl, rfl, rfl, HTP.out, HTO.out, by rw [← HKK.out, ← List.map_take]; exact HSC.out, by rw [← HKK.out]; exact HAF.out⟩
        · obtain rfl : i = qs.length := by omega
          obtain ⟨K, hK⟩ : ∃ K : Nat, K = qs.length := ⟨_, rfl⟩
          have HKK := Lib.hid (show K = keepOf (qs.map Seg.ps) by rw [hK]; exact (keep_end HKE.out (by rw [List.length_map]; omega)).symm)
          have hKl : K ≤ qs.length := by omega
          have HCK := Lib.hid (show ∀ (j : Nat) (s : Seg), j + 1 < K → qs[j]? = some s → s.dirty = false from fun j s hj => HCL.out j s (by omega))
          clear HKE HCL hil hi
          go_wp2_with fail
          rw [show (qs.length : Int) = (K : Int) by rw [hK]]
          -- behind the second loop, in the world wr: K segments are kept
          obtain ⟨Wx, hWx⟩ : ∃ Wx, Wx = wr := ⟨_, rfl⟩
          rw [← hWx] at HT ⊢
          clear hK hWx HBW
          have HVU := Lib.hid (HV.out.below HBU.out (by omega))
          have hBU : B ≤ U.heap.size := by have := HBU.out.size; omega
          go_loopw [19] (fun _ wr3 => ∃ (j : Nat) (sv3 : Value) (Dj : Dk), K ≤ j ∧ j ≤ qs.length ∧ LT U wr3 B l (newL d nm room) D ⟨d, nm, room, sv3, qs.take j, false⟩ Dj ∧ DropIn nm (qs.map Seg.ps) j D Dj) (fun _ wr3 => lenAt wr3 l)
          case atStart => exact ⟨qs.length, sv, D, hKl, Nat.le_refl _, by rw [List.take_length]; exact HT.out, HDU.out, rfl, rfl, (fun p hp => by rw [List.drop_eq_nil_of_le (by rw [List.length_map]; omega)] at hp; cases hp), fun x _ => rfl⟩
          case round =>
            clear HT
            obtain ⟨j, sv3, Dj, hj1, hj2, hlt3, hdi⟩ := hrel
            have HT := Lib.hid hlt3
            have HDI := Lib.hid hdi
            clear hlt3 hdi
            have htl : (qs.take j).length = j := by rw [List.length_take]; omega
            obtain ⟨xa, xc, hsv3⟩ := own_slice HT.out.is.log.row
            have l3 := HT.out.is.log.at.2.2.2.1
            simp only at l3 hsv3
            rw [hsv3, htl] at l3
            clear hsv3
            by_cases hjk : K < j
            · obtain ⟨j', rfl⟩ : ∃ j', j = j' + 1 := ⟨j - 1, by omega⟩
              obtain ⟨s, hs⟩ : ∃ s, qs[j']? = some s := ⟨_, List.getElem?_eq_getElem (by omega)⟩
              have hsm := List.mem_of_getElem? hs
              obtain ⟨xs, hfv, -, hxl, hsb62, -, -⟩ := HFL.out s hsm
              have hts : (qs.map Seg.ps)[j']? = some s.ps := by rw [List.getElem?_map, hs]; rfl
              have hfj : fv Dj (fnm nm s.base) = some xs := by
                rw [HDI.out.rest _ (fun p hp e => by
                  obtain ⟨q, hq⟩ := List.getElem?_of_mem hp
                  rw [List.getElem?_drop] at hq
                  have h1 := HTO.out
                  rw [List.pairwise_iff_getElem] at h1
                  obtain ⟨ha, hae⟩ := List.getElem?_eq_some_iff.1 hts
                  obtain ⟨hb, hbe⟩ := List.getElem?_eq_some_iff.1 hq
                  have h2 := h1 j' (j' + 1 + q) ha hb (by omega)
                  rw [hae, hbe] at h2
                  have h3 : s.ps.base = s.base := rfl
                  have := fnm_inj e
                  omega)]
                exact hfv
              have HLD := Lib.hid (ldrop_calls B l j' ⟨d, nm, room, sv3, qs.take (j' + 1), false⟩ Dj s wr HT.out.is (by rw [List.getElem?_take, if_pos (by omega)]; exact hs) (HDI.out.fails.trans HNF.out) HI.out.nmr hsb62 (by
                  unfold fv at hfj
                  cases hm : mget Dj.now (fnm nm s.base) with
                  | none => rw [hm] at hfj; cases hfj
                  | some y => rfl) (by rw [HDI.out.dur.chg]; simp) (by rw [htl]; omega) (fun W hW => ItoaAt.all (by omega) (((HVU.out.only (HT.out.only.weak (fun k _ e => (HLU.out.foot_lt e).1)) hB5 hBU).only hW hB5 (by have := HT.out.only.size; omega))) (by have := HT.out.only.size; have := hW.size; omega)))
              have d1 : decide ((K : Int) < ((j' : Int) + 1)) = true := decide_eq_true (by omega)
              have HTS3 := Lib.hid hts
              clear hfj hfv hts hs htl hsm
              go_wp2_with fail
              refine HLD.out.mono ?_
              rintro e w9 ⟨rfl, sv9, cv9, cv92, v9, hlt9⟩
              rw [show ({ d := d, name := nm, room := room, sv := sv3, segs := qs.take (j' + 1), broken := false } : Lg).segs.eraseIdx j' = qs.take j' from take_erase (by omega)] at hlt9
              have HT9 := Lib.hid (HT.out.trans hlt9)
              have HD9 := Lib.hid (HDI.out.more (by have := HT.out.is.disk; exact this) HTS3.out cv9 cv92 v9)
              have HME := Lib.hid (show lenAt w9 l < lenAt wr l by
                rw [lenAt_is HT9.out.is.log, lenAt_is HT.out.is.log]
                show (qs.take j').length < (qs.take (j' + 1)).length
                rw [List.length_take, List.length_take]; omega)
              clear hlt9 HLD HTS3
              go_wp2_with fail
              go_roundw
              case rel => exact ⟨j', sv9, _, by omega, by omega, HT9.out, HD9.out⟩
              case measure => exact HME.out
            · obtain rfl : j = K := by omega
              clear hjk hj1 hj2
              have HFP2 := Lib.hid (show ∀ p ∈ qs.map Seg.ps, ∃ xs, fv D (fnm nm p.base) = some xs ∧ p = psOf p.base xs from fun p hp => by
                obtain ⟨s, hs, rfl⟩ := List.mem_map.1 hp
                obtain ⟨xs, h1, h2, -⟩ := HFL.out s hs
                exact ⟨xs, h1, h2⟩)
              by_cases hj0 : j = 0
              · subst hj0
                have HAF := Lib.hid (after_clean HTO.out HFP2.out HDI.out (fun p hp => by simp at hp))
                go_wp2_with fail
                go_ret2
                exact ⟨l, _, _, Dj, rfl, HLW.out.1, HT.out.is, (lt_fin HBU.out HLW.out.1 HT.out).1, (lt_fin HBU.out HLW.out.1 HT.out).2, rfl, rfl, rfl, rfl, HTP.out, HTO.out, by rw [← HKK.out]; simp, by rw [← HKK.out]; exact HAF.out⟩
              · obtain ⟨k', rfl⟩ : ∃ k', j = k' + 1 := ⟨j - 1, by omega⟩
                obtain ⟨s, hs⟩ : ∃ s, qs[k']? = some s := ⟨_, List.getElem?_eq_getElem (by omega)⟩
                have hsk : (qs.take (k' + 1))[k']? = some s := by rw [List.getElem?_take, if_pos (by omega)]; exact hs
                obtain ⟨tb, tcap, hsv4, hle4, -, htc⟩ := HT.out.is.log.ptr k' (by simp only; omega)
                simp only at hsv4 hle4 htc
                rw [(List.getElem?_eq_some_iff.1 hsk).2] at htc
                have l4 := HT.out.is.log.at.2.2.2.1
                simp only at l4
                rw [hsv4, htl, l3] at l4
                simp only [Option.some.injEq, Value.slice.injEq, true_and] at l4
                obtain ⟨rfl, rfl⟩ := l4
                have hkc : k' < xc := by omega
                have SG3 := Lib.hid (HT.out.is.log.segs s (List.mem_of_getElem? hsk))
                have HSK := Lib.hid hsk
                have HS2 := Lib.hid hs
                have z3 := SG3.out.at.2.2.2
                have Q3 := Lib.hid (And.intro (i64w (n := (k' : Int)) (by omega) (by omega)) (w64 (n := (k' : Int)) (by omega) (by omega)))
                have d3 : decide ((0 : Int) < ((k' : Int) + 1)) = true := decide_eq_true (by omega)
                have HSX := Lib.hid (HFL.out s (List.mem_of_getElem? hs))
                clear hsv4 hle4 hsk hs htl hj0
                obtain ⟨tz, tbase, tev, tevs, tsz, td⟩ := s
                simp only at z3 htc
                cases td with
                | false =>
                  have HAL := Lib.hid (show ∀ (j : Nat) (q : Seg), j < k' + 1 → qs[j]? = some q → q.dirty = false from fun j q hj hq => by
                    by_cases e : j = k'
                    · subst e
                      rw [HS2.out] at hq
                      simp only [Option.some.injEq] at hq
                      rw [← hq]
                    · exact HCK.out j q (by omega) hq)
                  have HAF := Lib.hid (after_clean HTO.out HFP2.out HDI.out (fun p hp => by
                    obtain ⟨i, hi⟩ := List.getElem?_of_mem hp
                    rw [List.getElem?_take] at hi
                    split at hi
                    · rw [List.getElem?_map] at hi
                      obtain ⟨q, hq, rfl⟩ := Option.map_eq_some_iff.1 hi
                      exact HAL.out i q (by assumption) hq
                    · cases hi))
                  obtain ⟨qa3, qb3⟩ := Q3.out
                  have HS1 := Lib.hid (segs_same HAL.out)
                  go_wp2_with fail
                  clear qa3 qb3
                  go_ret2
                  first
                    | exact ⟨l, _, _, Dj, rfl, HLW.out.1, HT.out.is, (lt_fin HBU.out HLW.out.1 HT.out).1, (lt_fin HBU.out HLW.out.1 HT.out).2, rfl, rfl, rfl, rfl, HTP.out, HTO.out, by rw [← HKK.out]; exact HS1.out, by rw [← HKK.out]; exact HAF.out⟩
                    | exact ⟨l, rfl, HLW.out.1, _, _, Dj, HT.out.is, (lt_fin HBU.out HLW.out.1 HT.out).1, (lt_fin HBU.out HLW.out.1 HT.out).2, rfl, rfl, rfl, rfl, HTP.out, HTO.out, by rw [← HKK.out, ← List.map_take]; exact HS1.out, by rw [← HKK.out]; exact HAF.out⟩
                | true =>
                  have hc3 : ∀ (j : Nat) (q : Seg), j < k' → qs[j]? = some q → q.dirty = false := fun j q hj => HCK.out j q (by omega)
                  obtain ⟨xs, hfv, -, hxl, hsb62, -, hsx⟩ := HSX.out
                  have hpk : (qs.map Seg.ps)[k']? = some (⟨tz, tbase, tev, tevs, tsz, true⟩ : Seg).ps := by rw [List.getElem?_map, HS2.out]; rfl
                  have hpt : (⟨tz, tbase, tev, tevs, tsz, true⟩ : Seg).ps ∈ (qs.map Seg.ps).take (k' + 1) := List.mem_of_getElem? (i := k') (by rw [List.getElem?_take, if_pos (by omega)]; exact hpk)
                  have hfj : fv Dj (fnm nm tbase) = some xs := by
                    have := HDI.out.rest _ (keep_ne (nm := nm) HTO.out hpt)
                    exact this.trans hfv
                  have hfo : fileOf Dj.now (fnm nm tbase) = xs := by
                    unfold fileOf
                    unfold fv at hfj
                    rw [hfj]; rfl
                  have HLS := Lib.hid (lshort_calls B l k' ⟨d, nm, room, sv3, qs.take (k' + 1), false⟩ Dj ⟨tz, tbase, tev, tevs, tsz, true⟩ wr HT.out.is HSK.out (HDI.out.fails.trans HNF.out) HI.out.nmr hsb62 (by
                    unfold fv at hfj
                    simp only
                    cases hm : mget Dj.now (fnm nm tbase) with
                    | none => rw [hm] at hfj; cases hfj
                    | some y => rfl) (by simp only; rw [hfo]; exact hsx) (by simp only; rw [hfo]; exact hxl) (by rw [HDI.out.dur.chg]; simp) (fun W hW => ItoaAt.all (by omega) (((HVU.out.only (HT.out.only.weak (fun k _ e => (HLU.out.foot_lt e).1)) hB5 hBU).only hW hB5 (by have := HT.out.only.size; omega))) (by have := HT.out.only.size; have := hW.size; omega)))
                  have HSC := Lib.hid (segs_clean HS2.out hc3)
                  have HPK := Lib.hid hpk
                  have HC3 := Lib.hid (show ∀ (i : Nat) (q : PS), i < k' → (qs.map Seg.ps)[i]? = some q → q.dirty = false from fun i q hi hq => by
                    rw [List.getElem?_map] at hq
                    obtain ⟨z, hz, rfl⟩ := Option.map_eq_some_iff.1 hq
                    exact hc3 i z hi hz)
                  clear hc3 hfv hxl hsx hpk hpt hfj hfo
                  obtain ⟨qa3, qb3⟩ := Q3.out
                  go_wp2_with fail
                  refine HLS.out.mono ?_
                  clear qa3 qb3
                  rintro e w9 ⟨rfl, v, cv, cv2, v2, hlt9⟩
                  have HT9 := Lib.hid (HT.out.trans hlt9)
                  have HAF := Lib.hid (after_cut HTO.out HFP2.out HDI.out HPK.out HC3.out v cv cv2 v2)
                  clear hlt9
                  go_wp2_with fail
                  go_ret2
                  first
                    | exact ⟨l, _, _, _, rfl, HLW.out.1, HT9.out.is, (lt_fin HBU.out HLW.out.1 HT9.out).1, (lt_fin HBU.out HLW.out.1 HT9.out).2, rfl, rfl, rfl, rfl, HTP.out, HTO.out, by rw [← HKK.out]; exact HSC.out, by rw [← HKK.out]; exact HAF.out⟩
                    | exact ⟨l, rfl, HLW.out.1, _, _, _, HT9.out.is, (lt_fin HBU.out HLW.out.1 HT9.out).1, (lt_fin HBU.out HLW.out.1 HT9.out).2, rfl, rfl, rfl, rfl, HTP.out, HTO.out, by rw [← HKK.out, ← List.map_take]; exact HSC.out, by rw [← HKK.out]; exact HAF.out⟩
end Go.Proofs.YtcckoppbophidaaGreatDoor

/- Layer 6: SeglogRepairs walked. -/

namespace Go.Proofs.YtcckoppbophidaaGreatDoor
open Go.RowKit Go.Shelf
set_option linter.unusedVariables false
set_option linter.unusedSimpArgs false
set_option maxRecDepth 100000
attribute [local go_sem] Oper.semAt_some

/-! ### The files of the argument -/
structure FileE where
  nm : ByteArray
  dv : Value
  data : List UInt8
instance : Inhabited FileE := ⟨⟨⟨#[]⟩, .slice none 0 0, []⟩⟩
def FileE.cells (e : FileE) : List Value := [.string e.nm, e.dv]
theorem file2 (e : FileE) : e.cells.length = 2 := rfl

/-! ### The range that gathers the entries -/
def EJ (Y : World) (N kc f : Nat) (E : List (List UInt8)) (s : LSt) (W : World) : Prop :=
  Only (fun j => j = N ∨ j = kc) Y W ∧ (∀ p ∈ s.2, W.heap[p.1]? = some p.2 ∧ ∃ cs x, p.2 = .cells cs 72 x) ∧ W.cell? ⟨N, 0, none⟩ = some (.int .i64 s.1) ∧ W.frozen? ⟨N, 0, none⟩ = false ∧ (f ≤ s.1 ∧ s.1 ≤ f + E.length) ∧
  ∃ lv, W.heap[kc]? = some (.cells #[lv] 22) ∧ Fr.MineL W Y.heap.size lv (E.take (s.1 - f))
theorem Only.calm {S : Nat → Prop} {Y W W' : World} (h : Only S Y W) (hc : Calm Y.heap.size W W') : Only S Y W' :=
  ⟨hc.os.trans h.os, hc.tape.trans h.tape, hc.output.trans h.output, Nat.le_trans h.size hc.size, fun k hk hs => (hc.block k hk).trans (h.block k hk hs)⟩
theorem EJ.calm {Y W W' : World} {N kc f : Nat} {E : List (List UInt8)} {s : LSt} (h : EJ Y N kc f E s W) (hc : Calm Y.heap.size W W') : EJ Y N kc f E s W' := by
  obtain ⟨h1, h2, h3, h4, h5, lv, h6, h7⟩ := h
  exact ⟨h1.calm hc, fun p hp => ⟨hc.cells _ _ (h2 p hp).1 (by obtain ⟨cs, x, e⟩ := (h2 p hp).2; rw [e]; rfl), (h2 p hp).2⟩, hc.cell h3, (hc.frozen h3).trans h4, h5, lv, hc.cells _ _ h6 rfl, h7.calm hc⟩
theorem EJ.push {Y W2 W5 w6 : World} {N kc f : Nat} {E : List (List UInt8)} {s s' : LSt} {lv lv' v : Value} {vs : List Value} (hN : N < Y.heap.size) (hK : kc < Y.heap.size) (hne : N ≠ kc)
    (h1 : Only (fun j => j = N ∨ j = kc) Y W2) (ho : Only (fun j => j = N) W2 W5) (c5 : W5.cell? ⟨N, 0, none⟩ = some (.int .i64 ((s.1 : Int) + 1))) (f5 : W5.frozen? ⟨N, 0, none⟩ = false)
    (hkc : W2.heap[kc]? = some (.cells #[lv] 22)) (hvs : W2.ownsRow Y.heap.size 34 1 lv (s.1 - f) vs) (hel : ∀ (i : Nat) (u : Value) (y : List UInt8), vs[i]? = some u → (E.take (s.1 - f))[i]? = some y → Mine W2 Y.heap.size u y)
    (hm : Mine W2 Y.heap.size v (E.getD (s.1 - f) [])) (hs : f ≤ s.1 ∧ s.1 < f + E.length) (hs' : s'.1 = s.1 + 1)
    (hp : ∃ c o, s'.2 = [(c, o)] ∧ W2.heap[c]? = some o ∧ (∃ cs x, o = .cells cs 72 x) ∧ Y.heap.size ≤ c)
    (ho6 : w6.ownsRow Y.heap.size 34 1 lv' (s.1 - f + 1) (vs ++ [v])) (hg6 : W5.grownBy w6 lv.ownBlock) :
    EJ Y N kc f E s' (w6.setCell ⟨kc, 0, none⟩ lv') := by
  have hlo : ∀ j, lv.ownBlock = some j → Y.heap.size ≤ j := fun j hj => (World.ownsRow.lt hvs j hj).1
  have hon6 := Only.of_grown hg6
  have ho26 : Only (fun j => j = N ∨ lv.ownBlock = some j) W2 w6 := (ho.weak (fun j _ e => .inl e)).trans hon6 (fun j _ e => .inr e)
  have hY6 : Only (fun j => j = N ∨ j = kc) Y w6 := h1.trans ho26 (fun j hj e => e.elim (fun e => .inl e) (fun e => by have := hlo j e; omega))
  have hlen : (E.take (s.1 - f)).length = s.1 - f := by rw [List.length_take]; omega
  have hvs5 : W5.ownsRow Y.heap.size 34 1 lv (E.take (s.1 - f)).length vs := by
    rw [hlen]
    exact ownsRow_only hvs ho (fun g hg e => by have := hlo g hg; omega)
  have hmk : ∀ (u : Value) (y : List UInt8), Mine W2 Y.heap.size u y → Mine W5 Y.heap.size u y := fun u y hy => ownsRow_only hy ho (fun g hg e => by have := (World.ownsRow.lt hy g hg).1; omega)
  obtain ⟨hml, -⟩ := Fr.mineL_grown (w0 := W5) hvs5 (fun i u y hu hy => hmk u y (hel i u y hu hy)) (hmk v _ hm) (Below.refl _ _) (by have := h1.size; have := ho.size; omega) (by rw [hlen]; exact ho6) hg6
  have hTk : E.take (s'.1 - f) = E.take (s.1 - f) ++ [E.getD (s.1 - f) []] := by
    rw [hs', show s.1 + 1 - f = (s.1 - f) + 1 by omega, List.take_succ_eq_append_getElem (by omega), List.getD_eq_getElem?_getD, List.getElem?_eq_getElem (by omega)]
    rfl
  have hlt : ∀ (j : Nat) (o : Obj), W2.heap[j]? = some o → j < W2.heap.size := fun j o e => (Array.getElem?_eq_some_iff.1 e).1
  have hk6 : w6.heap[kc]? = some (.cells #[lv] 22) := (ho26.block kc (hlt _ _ hkc) (fun e => e.elim (fun e => hne e.symm) (fun e => by have := hlo kc e; omega))).trans hkc
  have ho7 : Only (fun j => j = N ∨ j = kc) Y (w6.setCell ⟨kc, 0, none⟩ lv') := hY6.setCell ⟨kc, 0, none⟩ lv' (.inl (.inr rfl))
  have hNl : ¬ lv.ownBlock = some N := fun e => by have := hlo N e; omega
  refine ⟨ho7, fun p hp2 => ?_, ?_, ?_, by omega, lv', ?_, ?_⟩
  · obtain ⟨c, o, e, hc, ⟨cs, x, e2⟩, hcb⟩ := hp
    rw [e] at hp2
    obtain rfl := List.mem_singleton.1 hp2
    refine ⟨?_, cs, x, e2⟩
    rw [heap_setCell_other _ ⟨kc, 0, none⟩ c _ (by simp; omega)]
    exact (ho26.block c (hlt _ _ hc) (fun e => e.elim (fun e => by omega) (fun e => absurd ((own_ty hvs e).eq (show TyAt W2 c 72 from ⟨cs, x, by rw [hc, e2]⟩)) (by decide)))).trans hc
  · rw [cell_set_block _ (by simp; omega), hs']
    have := hon6.cell hNl c5
    push_cast
    exact this
  · rw [frozen_set]
    exact (hon6.frozen (by have := h1.size; have := ho.size; omega) hNl).trans f5
  · rw [heap_setCell_same w6 kc 0 #[lv] 22 lv' hk6]
    rfl
  · rw [hTk]
    exact hml.set ⟨kc, 0, none⟩ lv' hK

/-! ### The range that holds them against the others -/
def OJ (Y : World) (N f m : Nat) (s : LSt) (W : World) : Prop :=
  Only (fun j => j = N) Y W ∧ (∀ p ∈ s.2, W.heap[p.1]? = some p.2 ∧ ∃ cs x, p.2 = .cells cs 72 x) ∧ W.cell? ⟨N, 0, none⟩ = some (.int .i64 ((s.1 - f : Nat) : Int)) ∧ W.frozen? ⟨N, 0, none⟩ = false ∧ (f ≤ s.1 ∧ s.1 ≤ f + m)
theorem OJ.calm {Y W W' : World} {N f m : Nat} {s : LSt} (h : OJ Y N f m s W) (hc : Calm Y.heap.size W W') : OJ Y N f m s W' := by
  obtain ⟨h1, h2, h3, h4, h5⟩ := h
  exact ⟨h1.calm hc, fun p hp => ⟨hc.cells _ _ (h2 p hp).1 (by obtain ⟨cs, x, e⟩ := (h2 p hp).2; rw [e]; rfl), (h2 p hp).2⟩, hc.cell h3, (hc.frozen h3).trans h4, h5⟩
theorem OJ.put {Y W W3 : World} {N f m : Nat} {s s' : LSt} (hN : N < Y.heap.size) (h : OJ Y N f m s W) (h2 : s'.1 = s.1 + 1) (hm : s.1 < f + m) (hp : ∃ c o, s'.2 = [(c, o)] ∧ W.heap[c]? = some o ∧ (∃ cs x, o = .cells cs 72 x) ∧ Y.heap.size ≤ c) (hc : Calm Y.heap.size W W3) : OJ Y N f m s' (W3.setCell ⟨N, 0, none⟩ (.int .i64 (((s.1 - f : Nat) : Int) + 1))) := by
  obtain ⟨k1, -, k3, k4, k5⟩ := h.calm hc
  obtain ⟨c, o, e, ho, ⟨cs, x, e2⟩, hcb⟩ := hp
  refine ⟨k1.setCell ⟨N, 0, none⟩ _ (.inl rfl), fun p hp => ?_, ?_, by rw [frozen_set]; exact k4, by omega⟩
  · rw [e] at hp
    obtain rfl := List.mem_singleton.1 hp
    refine ⟨?_, cs, x, e2⟩
    rw [heap_setCell_other _ ⟨N, 0, none⟩ c _ (by simp; omega)]
    exact hc.cells _ _ ho (by rw [e2]; rfl)
  · rw [cell_set_same _ k3, show s'.1 - f = (s.1 - f) + 1 by omega]
    push_cast
    rfl
theorem Calm.drew {B : Nat} {W W' : World} (h : Calm B W W') : Calm B W W'.drew := ⟨h.os, h.tape, h.output, h.size, h.block, h.cells⟩
/-- The cell of the answer. -/
structure RC (w : World) (B R : Nat) : Prop where
  rcl : w.cell? ⟨R, 0, none⟩ = some (.bool false)
  rfz : w.frozen? ⟨R, 0, none⟩ = false
  rb : R < B
theorem RC.only {S : Nat → Prop} {w w' : World} {B R : Nat} (h : RC w B R) (ho : Only S w w') (hB : ∀ j, S j → B ≤ j) : RC w' B R := by
  have hR : ¬ S R := fun e => by have := hB R e; have := h.rb; omega
  exact ⟨ho.cell hR h.rcl, (ho.frozen (World.block_lt_of_cell? w _ h.rcl) hR).trans h.rfz, h.rb⟩
theorem RC.below {w w' : World} {B R : Nat} (h : RC w B R) (hb : Below w.heap.size w w') : RC w' B R :=
  ⟨cell_later hb h.rcl, (World.frozen?_of_block (a := ⟨R, 0, none⟩) (hb.block R (World.block_lt_of_cell? w _ h.rcl))).trans h.rfz, h.rb⟩
theorem rep_enter {P : Program} {f : Nat} {fn : Func} {c : Code} (hf : P.funcs[f]? = some fn) (hname : (fn.name == "runtime.NumGoroutine") = false) (hb : fn.body = some c) (args : Array Value) (w : World) :
    (callFunc f args).run P w = .ok (.enter f args) w := by
  have h1 : fn.name ≠ "runtime.NumGoroutine" := by simpa using hname
  simp [callFunc, hf, h1, hb]

set_option maxHeartbeats 8000000 in
theorem repairs_calls (v0 : Value) (es : List FileE) (rm : Int) (w : World) (h0 : Rd w 2 v0 es.length (flatF FileE.cells es)) (hE : ∀ e ∈ es, Bytes w e.dv e.data) (hr0 : -9223372036854775808 ≤ rm ∧ rm ≤ 9223372036854775807) (hv : VarsIn w) (hw5 : 5 ≤ w.heap.size) :
    Calls Tryz.prog 5 #[v0, .int .i64 rm] w fun e w' => e = .returned (.bool true) ∧ Below w.heap.size w w' := by
  have H0 := Lib.hid h0
  have HE := Lib.hid hE
  have HV := Lib.hid hv
  obtain ⟨a0, c0, rfl, hn0, hn1⟩ := h0.slice
  clear h0 hE hv
  refine (callsIn_wide (n := 0)).1 ?_
  refine callsIn_of_wp_marks Tryz.func5 rfl trivial ?_
  simp only [Tryz.ntmps5, List.size_toArray, List.length_cons, List.length_nil, Nat.reduceAdd, Nat.reduceSub, Array.replicate_succ, Array.replicate_zero, List.push_toArray, List.append_toArray, List.nil_append, List.cons_append]
  gi_wp2_with (gi_at_call 7; refine (callsIn_wide.2 (known_calls _)).mono ?_; rintro e w1 ⟨rfl, hb1⟩; have HB1 := Lib.hid hb1; clear hb1)
  gi_wp2_with (gi_at_call 8; refine (callsIn_wide.2 (dnew_calls 1048576 w1 (by omega) (by omega))).mono ?_; rintro e w2 ⟨rfl, hd2, hb2⟩; have HD2 := Lib.hid hd2; have HB2 := Lib.hid hb2; clear hd2 hb2)
  have hwb : Below w.heap.size w w1 := ((Below.refl _ w).alloc (Nat.le_refl _) (.cells #[.bool false] 4)).trans (HB1.out.mono (by simp))
  have hRB : w.heap.size < w1.heap.size := by have := HB1.out.size; simp at this; omega
  have hr1 : w1.cell? ⟨w.heap.size, 0, none⟩ = some (.bool false) := cell_later HB1.out (box_self (w := w) (cs := #[.bool false]) (e := 4) 0 _ rfl)
  have hz1 : w1.frozen? ⟨w.heap.size, 0, none⟩ = false := box_frozen HB1.out 0
  have HR2 := Lib.hid ((show RC w1 w1.heap.size w.heap.size from ⟨hr1, hz1, hRB⟩).below HB2.out)
  have HBW2 := Lib.hid (hwb.trans (HB2.out.mono hwb.size))
  obtain ⟨d, hd⟩ : ∃ d, d = w1.heap.size + 2 := ⟨_, rfl⟩
  rw [← hd] at HD2 ⊢
  clear hd HB1 HB2 hwb hr1 hz1
  have hwB := hRB
  have HF2 := Lib.hid (FD.new w1.heap.size)
  obtain ⟨D2, hD2⟩ : ∃ D, D = newD 1048576 w1.heap.size := ⟨_, rfl⟩
  rw [← hD2] at HD2 HF2
  clear hD2
  generalize w1.heap.size = B at *
  obtain ⟨R, hR⟩ : ∃ R, R = w.heap.size := ⟨_, rfl⟩
  have HRE := Lib.hid hR
  rw [← hR] at HR2 hRB ⊢
  clear hR
  gi_loopw [7] (fun iv wr => ∃ (i : Nat) (D : Dk), i ≤ es.length ∧ i ≤ 20 ∧ iv = .int .i64 i ∧ DiskAt wr B d D ∧ FD D i ∧ Below w.heap.size w wr ∧ RC wr B R) (fun iv _ => 20 - (intOf iv).toNat)
  case atStart => exact ⟨0, D2, by omega, by omega, rfl, HD2.out, HF2.out, HBW2.out, HR2.out⟩
  case round =>
    clear HD2 HF2 HBW2 HR2
    obtain ⟨i, D, hi, hi20, rfl, hd, hf, hbw, hrc⟩ := hrel
    have HD := Lib.hid hd
    have HF := Lib.hid hf
    have HBW := Lib.hid hbw
    have HRC := Lib.hid hrc
    clear hd hf hbw hrc
    by_cases hlt : i < es.length ∧ i < 20
    · obtain ⟨hl1, hl2⟩ := hlt
      have d1 : decide ((i : Int) < (es.length : Int)) = true := decide_eq_true (by omega)
      have d2 : decide ((i : Int) < 20) = true := decide_eq_true (by omega)
      obtain ⟨b, o, rfl, hcell⟩ := rdF_at (k := 2) file2 H0.out i hl1
      obtain ⟨x, hx⟩ : ∃ x, es[i] = x := ⟨_, rfl⟩
      rw [hx] at hcell
      have HX := Lib.hid (HE.out x (by rw [← hx]; exact List.getElem_mem hl1))
      obtain ⟨nm, dv, ys⟩ := x
      have e0' := hcell 0 _ (by omega) rfl
      have e1' := hcell 1 _ (by omega) rfl
      rw [Nat.add_zero] at e0'
      have e0 := cell_later HBW.out e0'
      have e1 := cell_later HBW.out e1'
      have hic : i < c0 := by omega
      clear hx hcell
      gi_wp2_with fail
      have hdt : ∀ j, D.foot d j → B ≤ j ∧ j < wr.heap.size := fun j hj => HD.out.foot_lt hj
      refine region_mi [(0, false), (1, false), (2, false), (3, false), (4, false), (5, false), (6, false), (7, false), (8, false), (9, false), (10, false), (11, true)] 12 (fun X => X.cell? ⟨b, o + i * 2, none⟩ = some (.string nm) ∧ X.cell? ⟨b, o + i * 2 + 1, none⟩ = some dv) (by kernel_rfl) (by kernel_rfl) ⟨e0, e1⟩ ?_
      iterate 11
        first
        | (refine m_take (v := ?_) rfl rfl ?_ ?_
           rotate_left
           · intro W hW
             go_simp
             with_reducible rfl
           simp only [Act.put, List.setIfInBounds_toArray, List.set_cons_zero, List.set_cons_succ])
        | (refine m_skip rfl rfl ?_
           simp only [Act.put, List.setIfInBounds_toArray, List.set_cons_zero, List.set_cons_succ])
      refine m_loud rfl (fun K hK => ?_)
      have HK := Lib.hid hK
      clear hK
      go_simp
      refine (fwrite_calls d B i D nm dv ys _ HD.out.drew HF.out (HX.out.below (HBW.out.drew) (Nat.le_refl _)) (fun a n c e h0 hf => by
        have h1 := (hdt _ hf).1
        have h2 := HX.out.lt a n c e h0
        omega)).mono ?_
      rintro e w4 ⟨er, D1, rfl, ht, hfw⟩
      have HT4 := Lib.hid ht
      have HFW := Lib.hid hfw
      have HBW4 := Lib.hid (HBW.out.drew.trans (ht.only.below (by have := HBW.out.size; exact this) (fun j hj e => by have := (hdt j e).1; omega)))
      have HRC4 := Lib.hid (HRC.out.only ((Only.refl _ wr).drew.trans ht.only (fun j _ h => h)) (fun j hj => (hdt j hj).1))
      clear ht hfw hdt
      have e4 := cell_later HBW4.out (show w.cell? ⟨b, o + i * 2, none⟩ = some (.string nm) from e0')
      refine HK.out _ _ ⟨e4, cell_later HBW4.out e1'⟩ ?_
      clear HK
      refine m_done ?_
      simp only [List.drop_succ_cons, List.drop_zero]
      go_wp2_with fail
      simp only [NP]
      clear e0 e1
      gi_wp2_with fail
      have hdt4 : ∀ j, D1.foot d j → B ≤ j := fun j hj => (HT4.out.is.foot_lt hj).1
      refine (callsIn_wide.2 (fsync_calls d B i D D1 nm w4 HT4.out.is rfl HF.out HFW.out)).mono ?_
      rintro e w5 ⟨er2, D5, rfl, ht5, hf5⟩
      have HD5 := Lib.hid ht5.is
      have HF5 := Lib.hid hf5
      have HBW5 := Lib.hid (HBW4.out.trans (ht5.only.below HBW4.out.size (fun j hj e => by have := hdt4 j e; omega)))
      have HRC5 := Lib.hid (HRC4.out.only ht5.only (fun j hj => hdt4 j hj))
      clear ht5 hf5 hdt4 e4 HFW HT4 HBW4 HRC4
      gi_wp2_with fail
      exact ⟨⟨i + 1, D5, by omega, by omega, by go_num, HD5.out, HF5.out, HBW5.out, HRC5.out⟩, by simp [intOf]; omega⟩
    · have HF20 := Lib.hid (HF.out.mono hi20)
      have h5B : 5 ≤ B := by omega
      rcases (show (¬ i < es.length) ∨ (i < es.length ∧ ¬ i < 20) from by omega) with hn1 | ⟨hn1, hn2⟩
      · have d1 : decide ((i : Int) < (es.length : Int)) = false := decide_eq_false (by omega)
        clear hlt HF HE H0
        -- behind the files, in the world wr
        gi_wp2_with fail
        refine (callsIn_wide.2 (dread_calls d B D other wr HD.out (by have := file_le D.now other; have := HF20.out.used; omega))).mono ?_
        rintro e w3 ⟨wv, rfl, hm3, hb3⟩
        obtain ⟨FO, hFO⟩ : ∃ FO, fileOf D.now other = FO := ⟨_, rfl⟩
        obtain ⟨hd3, hhd⟩ : ∃ b, (mget D.now other).isSome = b := ⟨_, rfl⟩
        rw [hFO] at hm3
        rw [hhd]
        have HFO := Lib.hid (And.intro hFO hhd)
        have HW3 := Lib.hid (Txt.of_mine hm3)
        obtain ⟨wa, wc, rfl⟩ := hm3.slice
        have HD3 := Lib.hid (HD.out.below hb3)
        have HBW3 := Lib.hid (HBW.out.trans (hb3.mono HBW.out.size))
        have HRC3 := Lib.hid (HRC.out.below hb3)
        have HV3 := Lib.hid (HV.out.below HBW3.out hw5)
        clear hFO hhd hm3 hb3 HD HBW HRC
        by_cases hroom : 1 ≤ rm ∧ rm ≤ 1048576
        · have d3 : decide (rm < 1) = false := decide_eq_false (by omega)
          have d4 : decide (1048576 < rm) = false := decide_eq_false (by omega)
          gi_wp2_with fail
          refine (callsIn_wide.2 (lopen_all d B D ⟨#[108, 111, 103]⟩ rm (baseOf ⟨#[108, 111, 103]⟩) w3 (openIn_sm HD3.out HF20.out.sm (Nat.le_refl _) lognm hroom HV3.out (by have := HBW3.out.size; omega)) HF20.out.dur HF20.out.fails (fun f _ n h => (baseOf_some h).2) HV3.out h5B)).mono ?_
          rintro e w4 ⟨l, L, T, D4, rfl, hl, hld, hon, hfo, hLd, hLn, hLr, hLb, hTp, hTo, hps, haf⟩
          have HFN := Lib.hid (found_of HF20.out.sm hTp hps)
          have HLD := Lib.hid hld
          have HAF := Lib.hid haf
          have HTP := Lib.hid (And.intro hTp (And.intro hTo hps))
          have HLL := Lib.hid (And.intro hLd hLn)
          have hfB : ∀ j, D.foot d j → B ≤ j := fun j hj => (HD3.out.foot_lt hj).1
          have HBW4 := Lib.hid (HBW3.out.trans (hon.below HBW3.out.size (fun j hj e => by have := hfB j e; omega)))
          have HRC4 := Lib.hid (HRC3.out.only hon hfB)
          have HW4 := Lib.hid (HW3.out.only hon (fun j hj => HD3.out.foot_u8 hj))
          obtain ⟨f, hf⟩ : ∃ f, firstOf L = f := ⟨_, rfl⟩
          obtain ⟨E, hE⟩ : ∃ E, entsOf L.segs = E := ⟨_, rfl⟩
          have HFE := Lib.hid (And.intro hf hE)
          have hf62 : f ≤ 4611686018427387904 := by rw [← hf]; exact HFN.out.first
          have hEl : E.length ≤ 20971520 := by rw [← hE]; exact HFN.out.len
          have HKN := Lib.hid HD3.out.know
          clear hld haf hTp hTo hps hLd hLn hLr hLb hfB hon hfo hl hf hE HD3 HBW3 HRC3 HW3
          gi_wp2_with fail
          refine (callsIn_wide.2 (lfirst_calls B l L _ (HLD.out.log.below (below_alloc w4 (.cells #[.slice none 0 0] 22))))).mono ?_
          rintro e w5 ⟨rfl, rfl⟩
          rw [HFE.out.1]
          gi_wp2_with (gi_at_call 18; refine (lall_calls (some ⟨l, 0, none⟩) 0 _).mono ?_; rintro e w6 ⟨rfl, rfl⟩)
          obtain ⟨Y, hY⟩ : ∃ Y, Y = (((w4.alloc (.cells #[.slice none 0 0] 22)).alloc (.cells #[.int .i64 (f : Nat)] 3)).alloc (.cells #[.pointer (some ⟨l, 0, none⟩)] 29)).alloc (.cells #[.int .i64 0] 3) := ⟨_, rfl⟩
          obtain ⟨kc, hkc⟩ : ∃ kc, kc = w4.heap.size := ⟨_, rfl⟩
          have hYs : Y.heap.size = kc + 4 := by rw [hY, hkc]; simp
          have hbY : Below w4.heap.size w4 Y := by rw [hY]; exact ((((Below.refl _ _).alloc (Nat.le_refl _) _).alloc (by simp) _).alloc (by simp; omega) _).alloc (by simp; omega) _
          have hyk : Y.heap[kc]? = some (.cells #[.slice none 0 0] 22) := by
            rw [hY, hkc, Below.heap_alloc _ _ _ (by simp; omega), Below.heap_alloc _ _ _ (by simp; omega), Below.heap_alloc _ _ _ (by simp), World.alloc_heap_new]
          have hyn : Y.heap[kc + 1]? = some (.cells #[.int .i64 (f : Nat)] 3) := by
            rw [hY, hkc, Below.heap_alloc _ _ _ (by simp), Below.heap_alloc _ _ _ (by simp), ← World.size_alloc w4 (.cells #[.slice none 0 0] 22), World.alloc_heap_new]
          have hyl : Y.cell? ⟨kc + 2, 0, none⟩ = some (.pointer (some ⟨l, 0, none⟩)) := by
            rw [hY, hkc, World.cell?_alloc_past _ _ _ (by simp), World.cell?_alloc_at _ _ _ _ (by simp)]; rfl
          have hyf : Y.cell? ⟨kc + 3, 0, none⟩ = some (.int .i64 (0 : Nat)) := by
            rw [hY, hkc, World.cell?_alloc_at _ _ _ _ (by simp)]; rfl
          have hncell : Y.cell? ⟨kc + 1, 0, none⟩ = some (.int .i64 (f : Nat)) ∧ Y.frozen? ⟨kc + 1, 0, none⟩ = false := by
            refine ⟨?_, ?_⟩
            · simp only [World.cell?, hyn]; rfl
            · simp only [World.frozen?, hyn]; simp
          have hnu : ∀ j, (j = kc + 1 ∨ j = kc) → ¬ IsU8 Y j := fun j e hu => by
            rcases e with e | e
            · subst e; exact absurd ((show TyAt Y (kc + 1) 3 from ⟨_, _, hyn⟩).eq (show TyAt Y (kc + 1) 5 from hu)) (by decide)
            · subst e; exact absurd ((show TyAt Y j 22 from ⟨_, _, hyk⟩).eq (show TyAt Y j 5 from hu)) (by decide)
          have hfoot : ∀ j, ldFoot l L D4 j → B ≤ j ∧ j < kc := fun j hj => by rw [hkc]; exact HLD.out.foot_lt hj
          rw [← hY, ← hkc]
          have HLY := Lib.hid (HLD.out.below hbY)
          have HBY := Lib.hid (HBW4.out.trans (hbY.mono HBW4.out.size))
          have HRY := Lib.hid (HRC4.out.below hbY)
          have HWY := Lib.hid (HW4.out.below hbY)
          have HFT := Lib.hid (And.intro hfoot hnu)
          have HYL := Lib.hid (And.intro hyl hyf)
          have hkB : B ≤ kc := by have := hfoot _ (.inl (.inl rfl)); omega
          have hrel0 : EJ Y (kc + 1) kc f E (max 0 f, []) Y := ⟨Only.refl _ _, (fun p hp => by cases hp), by rw [Nat.zero_max]; exact hncell.1, hncell.2, ⟨by show f ≤ max 0 f; omega, by show max 0 f ≤ f + E.length; omega⟩, _, hyk, by
            rw [Nat.zero_max, Nat.sub_self, List.take_zero]
            exact Fr.MineL.nil _ _⟩
          clear hY hkc hbY hyk hyn hyl hyf hncell hnu hfoot HLD HBW4 HRC4 HW4
          refine range_w (gf := 40) (lb := #[.pointer (some ⟨kc + 1 + 1, 0, none⟩), .pointer (some ⟨kc + 1 + 1 + 1, 0, none⟩)]) rfl (fun args w => rep_enter Tryz.func40 (by kernel_rfl) rfl args w)
            (fun s W => EJ Y (kc + 1) kc f E s W) (fun _ _ => False) (LStepT f E Y.heap.size) (fun s => f + E.length ≤ s.1) (max 0 f, [])
            (fun s W W' hc h => h.calm hc) (fun _ _ _ _ h => h) hrel0 ?iter ?body ?done (fun _ _ _ _ h => h.elim)
          case iter =>
            intro ly J' Jx' W hm _ hJJ hc hJ0 hy
            refine (lall1_iterW B l (kc + 2) (kc + 3) f 0 Y.heap.size ly L E J' Jx' W (fun i s hs => by rw [← HFE.out.1]; exact HFN.out.at_ i s hs) HFE.out.2 (by omega) (by omega) (by have := HFN.out.cnt; omega) (by omega) (fun s hs x hx => by have := HFN.out.small s hs x hx; omega) hm (fun s W2 hj => ?_) hy hJ0).mono ?_
            · obtain ⟨h1, h2, -⟩ := hJJ s W2 hj
              refine ⟨HLY.out.log.only h1 (fun j hj hf => ?_) (fun j hj => HFT.out.2 j hj), h1.cell (by omega) HYL.out.1, h1.cell (by omega) HYL.out.2, h1.size, fun p hp => (h2 p hp).1⟩
              have := HFT.out.1 j (.inl hf); omega
            · rintro e W' ⟨hv, (⟨s, hs, hj⟩ | hj)⟩
              · exact ⟨hv, .inl ⟨s, hs, hj⟩⟩
              · exact ⟨hv, .inr hj⟩
          case body =>
            intro ly s args s' W hr hst hsz
            obtain ⟨hs0, hs1, hs2, hs3, v, rfl, hm⟩ := hst
            obtain ⟨q, hq⟩ : ∃ q, E.getD (s.1 - f) [] = q := ⟨_, rfl⟩
            rw [hq] at hm
            obtain ⟨va2, vc2, rfl⟩ := hm.slice
            refine ⟨rfl, ?_⟩
            have HKR := Lib.hid hr
            have HM := Lib.hid hm
            have HS := Lib.hid (And.intro hs2 hs3)
            clear hr hm hs3 hrel0 hs2
            gi_wp2_with fail
            refine ⟨KeepsOthers.refl _, fun W₂ hc => ?_⟩
            have hr2 := HKR.out.calm hc
            have HR2 := Lib.hid hr2
            have HM2 := Lib.hid (HM.out.calm hc)
            have HS2 := Lib.hid (show ∃ c o, s'.2 = [(c, o)] ∧ W₂.heap[c]? = some o ∧ (∃ cs x, o = .cells cs 72 x) ∧ Y.heap.size ≤ c from by
              obtain ⟨c, o, e, ho, ⟨cs, x, e2⟩, hcb⟩ := HS.out.2
              exact ⟨c, o, e, hc.cells _ _ ho (by rw [e2]; rfl), ⟨cs, x, e2⟩, hcb⟩)
            obtain ⟨h1, -, c1, f1, -, lv, hlk, vs, hvs, hel⟩ := hr2
            have hlen : (E.take (s.1 - f)).length = s.1 - f := by rw [List.length_take]; omega
            rw [hlen] at hvs
            have hck : W₂.cell? ⟨kc, 0, none⟩ = some lv ∧ W₂.frozen? ⟨kc, 0, none⟩ = false := by
              refine ⟨?_, ?_⟩
              · simp only [World.cell?, hlk]; rfl
              · simp only [World.frozen?, hlk]; simp
            obtain ⟨ck, fk⟩ := hck
            obtain ⟨la, lc, rfl⟩ := own_slice hvs
            have HVS := Lib.hid (And.intro hlk (And.intro hvs hel))
            have hW2s := h1.size
            obtain ⟨sn, hsn⟩ : ∃ sn, sn = s.1 := ⟨_, rfl⟩
            have HSN := Lib.hid (And.intro hsn hq)
            clear hlen
            rw [← hsn] at c1 ck hs0 hs1 ⊢
            have hnn : ((sn : Int) != (sn : Int)) = false := by simp
            have hsb : sn ≤ 4611686018460000000 := by omega
            obtain ⟨V2, hV2⟩ : ∃ V2, V2 = (W₂.setCell ⟨kc + 1, 0, none⟩ (.int .i64 ((sn : Int) + 1))).alloc (.cells #[.slice va2 q.length vc2] 34) := ⟨_, rfl⟩
            have hal := below_alloc (W₂.setCell ⟨kc + 1, 0, none⟩ (.int .i64 ((sn : Int) + 1))) (.cells #[.slice va2 q.length vc2] 34)
            have hov : Only (fun j => j = kc + 1) W₂ V2 := by
              rw [hV2]
              exact ((Only.refl (fun j => j = kc + 1) W₂).setCell ⟨kc + 1, 0, none⟩ _ (.inl rfl)).alloc _
            have HLIT := Lib.hid (show Rd V2 1 (.slice (some ⟨W₂.heap.size, 0, none⟩) 1 1) 1 [.slice va2 q.length vc2] from by
              have := Rd.lit (w := W₂.setCell ⟨kc + 1, 0, none⟩ (.int .i64 ((sn : Int) + 1))) (cs := #[.slice va2 q.length vc2]) (e := 34) (n := 1) (sz := 1) rfl (by omega)
              rw [World.size_setCell] at this
              rw [hV2]; exact this)
            have HOW := Lib.hid (show V2.ownsRow Y.heap.size 34 1 (.slice la (sn - f) lc) (sn - f) vs from by
              rw [hsn]
              exact ownsRow_only hvs hov (fun g hg e => by have := (World.ownsRow.lt hvs g hg).1; omega))
            have HKO := Lib.hid (show KeepsOthers W₂ V2 from by rw [hV2]; exact (KeepsOthers.setCell _ _ _).trans (KeepsOthers.alloc _ _))
            have c2 : V2.cell? ⟨kc + 1, 0, none⟩ = some (.int .i64 ((sn : Int) + 1)) := by
              rw [hV2]
              exact cell_later (below_alloc _ _) (cell_set_same _ c1)
            have f2 : V2.frozen? ⟨kc + 1, 0, none⟩ = false := by
              have hlt := World.block_lt_of_cell? _ _ c1
              rw [hV2, World.frozen?_of_block (a := ⟨kc + 1, 0, none⟩) (w := W₂.setCell ⟨kc + 1, 0, none⟩ (.int .i64 ((sn : Int) + 1))) (Below.heap_alloc _ _ _ (by rw [World.size_setCell]; exact hlt)), frozen_set]
              exact f1
            have HC2 := Lib.hid (And.intro c2 (And.intro f2 hov))
            have hV2s : Y.heap.size ≤ V2.heap.size := Nat.le_trans hW2s hov.size
            have ck2 : V2.cell? ⟨kc, 0, none⟩ = some (.slice la (sn - f) lc) := by rw [hsn]; rw [hsn] at ck; exact hov.cell (b := kc) (o := 0) (by omega) ck
            have fk2 : V2.frozen? ⟨kc, 0, none⟩ = false := (hov.frozen (b := kc) (o := 0) (World.block_lt_of_cell? _ _ ck) (by omega)).trans fk
            have hmd : sn - f ≤ 20971520 := by omega
            have HNL := Lib.hid (show ∀ j, (Value.slice la (sn - f) lc).ownBlock = some j → Y.heap.size ≤ j from fun j hj => (World.ownsRow.lt HOW.out j hj).1)
            have HV2 := Lib.hid hV2
            rw [← hsn] at hlk
            clear hvs hel h1 c2 f2 hov hal hsn hq hV2
            gi_wp2_with (gi_at_builtin; rw [← HV2.out]; go_loud (refine app_listIn tyBytesL HOW.out HLIT.out (by simp [Value.oneCell']) (by omega) (by omega) hV2s rfl rfl rfl rfl ?_; intro lv3 w3 g1 g2 hn3; obtain ⟨ga, gc, rfl⟩ := own_slice g1; have HG1 := Lib.hid g1; have HG2 := Lib.hid g2; have ck3 := (Only.of_grown g2).cell (b := kc) (o := 0) (fun e => by have := HNL.out kc e; omega) ck2; have fk3 := ((Only.of_grown g2).frozen (b := kc) (o := 0) (World.block_lt_of_cell? _ _ ck2) (fun e => by have := HNL.out kc e; omega)).trans fk2; clear g1 g2 hn3))
            refine ⟨(HKO.out.trans (KeepsOthers.of_grownBy HG2.out (fun j o ej hj => own_cells HOW.out j o ej hj))).trans (KeepsOthers.setCell _ _ _), ?_⟩
            have hsn := HSN.out.1
            subst hsn
            obtain ⟨x1, x2, x3⟩ := HVS.out
            have hm := HM2.out
            rw [← HSN.out.2] at hm HG1
            exact EJ.push (by omega) (by omega) (by omega) HR2.out.1 HC2.out.2.2 HC2.out.1 HC2.out.2.1 x1 x2 x3 hm ⟨hs0, hs1⟩ HS.out.1 HS2.out HG1.out HG2.out
          case done =>
            intro DD s W hD hs hr hK
            obtain ⟨h1, -, c1, -, h5, lv, hlk, hml⟩ := hr
            have hse : s.1 = f + E.length := Nat.le_antisymm h5.2 hs
            rw [hse] at c1 hml
            rw [Nat.add_sub_cancel_left, List.take_length] at hml
            have hs1 := h1.size
            have hdk : DiskAt W B d D4 := by
              have := (HLY.out.only h1 (fun j e hf => by have := HFT.out.1 j hf; omega) HFT.out.2).disk
              rw [HLL.out.1] at this
              exact this
            have HDW := Lib.hid hdk
            have HLW := Lib.hid (HLY.out.only h1 (fun j e hf => by have := HFT.out.1 j hf; omega) HFT.out.2)
            have HFW := Lib.hid (show ∀ j, D4.foot d j → B ≤ j ∧ j < kc from fun j hj => HFT.out.1 j (.inr (by rw [HLL.out.1]; exact hj)))
            have HBW := Lib.hid (HBY.out.trans (h1.below HBY.out.size (fun j hj e => by omega)))
            have HRW := Lib.hid (HRY.out.only h1 (fun j e => by omega))
            have HWW := Lib.hid (HWY.out.only h1 HFT.out.2)
            have HKW := Lib.hid (And.intro c1 (And.intro hlk hml))
            have HDD := Lib.hid hK
            obtain ⟨YS, hYS⟩ : ∃ n, n = Y.heap.size := ⟨_, rfl⟩
            rw [← hYS] at hD hs1 HKW hYs
            have hfv : fv D4 other = fv D other := HAF.out.rest other (fun p _ => other_no p.base)
            have HSO := Lib.hid (show fileOf D4.now other = FO ∧ (mget D4.now other).isSome = hd3 from by
              have e1 := HFO.out.1
              have e2 := HFO.out.2
              have e3 := congrArg Option.isSome hfv
              unfold fv at hfv e3
              rw [Option.isSome_map, Option.isSome_map] at e3
              exact ⟨by unfold fileOf at e1 ⊢; rw [hfv]; exact e1, by rw [e3]; exact e2⟩)
            have hFO6 : FO.length ≤ 1048576 := by
              have := file_le D.now other
              have := HF20.out.used
              rw [← HFO.out.1]
              omega
            clear h1 c1 hlk hml hK hse hs h5 hdk hrel0 hYS HLY HBY HRY HWY hfv
            gi_wp2_with fail
            refine (callsIn_wide.2 (dread_calls d B D4 other W HDW.out (by rw [HSO.out.1]; omega))).mono ?_
            rintro e w6 ⟨nv, rfl, hm6, hb6⟩
            rw [HSO.out.1] at hm6
            rw [HSO.out.2]
            have HW6 := Lib.hid (HWW.out.below hb6)
            have HN6 := Lib.hid (Txt.of_mine hm6)
            obtain ⟨na, nc, rfl⟩ := hm6.slice
            have HD6 := Lib.hid (HDW.out.below hb6)
            have HL6 := Lib.hid (HLW.out.below hb6)
            have HB6 := Lib.hid (HBW.out.trans (hb6.mono HBW.out.size))
            have HR6 := Lib.hid (HRW.out.below hb6)
            have HK6 := Lib.hid (show w6.cell? ⟨kc + 1, 0, none⟩ = some (.int .i64 ((f + E.length : Nat) : Int)) ∧ w6.heap[kc]? = some (.cells #[lv] 22) ∧ Fr.MineL w6 YS lv E from
              ⟨cell_later hb6 HKW.out.1, (hb6.block kc (Array.getElem?_eq_some_iff.1 HKW.out.2.1).1).trans HKW.out.2.1, HKW.out.2.2.below hb6 (Nat.le_refl _)⟩)
            have HDD6 := Lib.hid (show w6.heap[DD]? = some (.deferred (some [])) from (hb6.block DD (Array.getElem?_eq_some_iff.1 HDD.out).1).trans HDD.out)
            have hs6 := hb6.size
            clear hm6 hb6 HDW HLW HBW HRW HWW HKW HDD
            gi_wp2_with fail
            refine (callsIn_wide.2 (dcrash_calls d B D4 none 0 0 w6 HD6.out HAF.out.dur.chg)).mono ?_
            rintro e w7 ⟨rfl, nb, hnb, hturn⟩
            have HAF7 := Lib.hid (HAF.out.crash HF20.out.fails nb)
            have HSM7 := Lib.hid (HF20.out.sm.view hturn.is HAF7.out.small)
            have HT7 := Lib.hid hturn
            have HB7 := Lib.hid (HB6.out.trans (hturn.only.below HB6.out.size (fun j hj e => by have := HFW.out j e; omega)))
            have HV7 := Lib.hid (HV.out.below HB7.out hw5)
            clear hturn hnb
            gi_wp2_with fail
            refine (callsIn_wide.2 (lopen_all d B (crD D4 nb) ⟨#[108, 111, 103]⟩ rm (baseOf ⟨#[108, 111, 103]⟩) w7 (openIn_sm HT7.out.is HSM7.out (Nat.le_refl _) lognm hroom HV7.out (by have := HB7.out.size; omega)) HAF7.out.dur rfl (fun f _ n h => (baseOf_some h).2) HV7.out h5B)).mono ?_
            rintro e w8 ⟨l2, L2, T2, D8, rfl, hl2, hld2, hon2, -, -, -, -, -, hTp2, hTo2, hps2, -⟩
            have HFN2 := Lib.hid (found_of HSM7.out hTp2 hps2)
            have hsame : L2.segs.map Seg.ps = L.segs.map Seg.ps := by
              rw [hps2, HTP.out.2.2]
              exact open_same HKN.out HT7.out.is.know (fun x n h => (baseOf_some h).2) HTP.out.1 HTP.out.2.1 HAF7.out hTp2 hTo2
            have HFE2 := Lib.hid (show firstOf L2 = f ∧ entsOf L2.segs = E from by
              rw [first_ps, ents_psL, hsame, ← first_ps, ← ents_psL]
              exact HFE.out)
            have on8 : Only (D4.foot d) w6 w8 := HT7.out.only.trans hon2 (fun j hj hf => (HT7.out.foot j hf).resolve_right (by omega))
            have hnf : ∀ j, kc ≤ j → ¬ D4.foot d j := fun j hj e => by have := HFW.out j e; omega
            have HL8 := Lib.hid (HL6.out.log.only on8 (fun j hj hf => foot_apart HL6.out.log HD6.out hf hj) (fun j hj => HD6.out.foot_u8 hj))
            have HK8 := Lib.hid (show w8.cell? ⟨kc + 1, 0, none⟩ = some (.int .i64 ((f + E.length : Nat) : Int)) ∧ w8.heap[kc]? = some (.cells #[lv] 22) ∧ Fr.MineL w8 YS lv E from
              ⟨on8.cell (b := kc + 1) (o := 0) (hnf _ (by omega)) HK6.out.1, (on8.block kc (Array.getElem?_eq_some_iff.1 HK6.out.2.1).1 (hnf _ (by omega))).trans HK6.out.2.1, HK6.out.2.2.blocks (fun j hj hl => on8.block j hl (hnf _ (by omega)))⟩)
            have HDD8 := Lib.hid (show w8.heap[DD]? = some (.deferred (some [])) from (on8.block DD (Array.getElem?_eq_some_iff.1 HDD6.out).1 (hnf _ (by omega))).trans HDD6.out)
            have HW8 := Lib.hid (HW6.out.only on8 (fun j hj => HD6.out.foot_u8 hj))
            have HN8 := Lib.hid (HN6.out.only on8 (fun j hj => HD6.out.foot_u8 hj))
            have HB8 := Lib.hid (HB6.out.trans (on8.below HB6.out.size (fun j hj e => by have := HFW.out j e; omega)))
            have HR8 := Lib.hid (HR6.out.only on8 (fun j e => (HFW.out j e).1))
            have HLD8 := Lib.hid hld2
            have hs8 := on8.size
            have HNX := Lib.hid (show ∀ W, LogAt W B l L → Calls Tryz.prog 14 #[.pointer (some ⟨l, 0, none⟩)] W fun e w' => e = .returned (.int .i64 ((f + E.length : Nat) : Int)) ∧ Below W.heap.size W w' from fun W h => by
              have := lnext_calls B l L W h (by rw [HFN.out.next, HFE.out.1, HFE.out.2]; omega) (by have := HFN.out.cnt; omega)
              rw [HFN.out.next, HFE.out.1, HFE.out.2] at this
              exact this)
            have HNX2 := Lib.hid (show ∀ W, LogAt W B l2 L2 → Calls Tryz.prog 14 #[.pointer (some ⟨l2, 0, none⟩)] W fun e w' => e = .returned (.int .i64 ((f + E.length : Nat) : Int)) ∧ Below W.heap.size W w' from fun W h => by
              have := lnext_calls B l2 L2 W h (by rw [HFN2.out.next, HFE2.out.1, HFE2.out.2]; omega) (by have := HFN2.out.cnt; omega)
              rw [HFN2.out.next, HFE2.out.1, HFE2.out.2] at this
              exact this)
            have HFX := Lib.hid (show ∀ W, LogAt W B l L → Calls Tryz.prog 12 #[.pointer (some ⟨l, 0, none⟩)] W fun e w' => e = .returned (.int .i64 (f : Nat)) ∧ w' = W from fun W h => by
              have := lfirst_calls B l L W h
              rw [HFE.out.1] at this
              exact this)
            have HFX2 := Lib.hid (show ∀ W, LogAt W B l2 L2 → Calls Tryz.prog 12 #[.pointer (some ⟨l2, 0, none⟩)] W fun e w' => e = .returned (.int .i64 (f : Nat)) ∧ w' = W from fun W h => by
              have := lfirst_calls B l2 L2 W h
              rw [HFE2.out.1] at this
              exact this)
            obtain ⟨n, hn⟩ : ∃ n, f + E.length = n := ⟨_, rfl⟩
            have HNN := Lib.hid hn
            rw [hn] at HNX HNX2 HK8
            have c8 := HK8.out.1
            have q1 : ((n : Int) != (n : Int)) = false := by simp
            have q2 : ((f : Int) != (f : Int)) = false := by simp
            have q3 : (hd3 != hd3) = false := by simp
            clear hTp2 hTo2 hps2 hsame on8 hnf hon2 hl2 hld2 hn HT7 HB6 HR6 HD6 HL6 HK6 HDD6 HW6 HN6 HAF HAF7 HSM7 HTP HKN
            gi_wp2_with fail
            refine region_mi [(0, false), (1, false), (2, false), (3, false), (4, false), (5, true), (6, false), (7, false), (8, false), (9, false), (11, false), (10, true), (12, true), (13, false), (14, false), (15, false), (16, false), (18, false), (17, true), (19, true), (20, false), (21, false), (22, false), (23, false), (24, false), (25, false), (26, false), (27, false), (28, false), (29, false), (30, true), (31, false), (32, false)] 33 (fun X => X.cell? ⟨kc + 1, 0, none⟩ = some (.int .i64 (n : Nat))) (by kernel_rfl) (by kernel_rfl) c8 ?_
            iterate 5
              first
              | (refine m_take (v := ?_) rfl rfl ?_ ?_
                 rotate_left
                 · intro W hW
                   go_simp
                   with_reducible rfl
                 simp only [Act.put, List.setIfInBounds_toArray, List.set_cons_zero, List.set_cons_succ])
              | (refine m_skip rfl rfl ?_
                 simp only [Act.put, List.setIfInBounds_toArray, List.set_cons_zero, List.set_cons_succ])
            refine m_loud rfl (fun K hK => ?_)
            have HK := Lib.hid hK
            clear hK
            go_simp
            refine (HNX.out _ (HL8.out.below ((Below.refl _ _).drew))).mono ?_
            rintro e w9 ⟨rfl, hb9⟩
            have hb9 : Below w8.heap.size w8 w9 := ((Below.refl w8.heap.size w8).drew).trans hb9
            have HB9 := Lib.hid hb9
            have c9 := cell_later hb9 c8
            refine HK.out _ _ c9 ?_
            clear HK
            iterate 5
              first
              | (refine m_take (v := ?_) rfl rfl ?_ ?_
                 rotate_left
                 · intro W hW
                   go_simp
                   with_reducible rfl
                 simp only [Act.put, List.setIfInBounds_toArray, List.set_cons_zero, List.set_cons_succ])
              | (refine m_skip rfl rfl ?_
                 simp only [Act.put, List.setIfInBounds_toArray, List.set_cons_zero, List.set_cons_succ])
            refine m_loud rfl (fun K hK => ?_)
            have HK := Lib.hid hK
            clear hK
            go_simp
            refine (HFX2.out _ (HLD8.out.log.below HB9.out)).mono ?_
            rintro e w10 ⟨rfl, rfl⟩
            refine HK.out _ _ c9 ?_
            clear HK
            refine m_loud rfl (fun K hK => ?_)
            have HK := Lib.hid hK
            clear hK
            go_simp
            refine (HFX.out _ (HL8.out.below HB9.out)).mono ?_
            rintro e w11 ⟨rfl, rfl⟩
            refine HK.out _ _ c9 ?_
            clear HK
            iterate 5
              first
              | (refine m_take (v := ?_) rfl rfl ?_ ?_
                 rotate_left
                 · intro W hW
                   go_simp
                   with_reducible rfl
                 simp only [Act.put, List.setIfInBounds_toArray, List.set_cons_zero, List.set_cons_succ])
              | (refine m_skip rfl rfl ?_
                 simp only [Act.put, List.setIfInBounds_toArray, List.set_cons_zero, List.set_cons_succ])
            refine m_loud rfl (fun K hK => ?_)
            have HK := Lib.hid hK
            clear hK
            go_simp
            refine (HNX2.out _ (HLD8.out.log.below HB9.out)).mono ?_
            rintro e w12 ⟨rfl, hb12⟩
            have HB12 := Lib.hid (HB9.out.trans (hb12.mono HB9.out.size))
            have c12 := cell_later hb12 c9
            refine HK.out _ _ c12 ?_
            clear HK
            refine m_loud rfl (fun K hK => ?_)
            have HK := Lib.hid hK
            clear hK
            go_simp
            refine (HNX.out _ (HL8.out.below HB12.out)).mono ?_
            rintro e w13 ⟨rfl, hb13⟩
            have HB13 := Lib.hid (HB12.out.trans (hb13.mono HB12.out.size))
            have c13 := cell_later hb13 c12
            refine HK.out _ _ c13 ?_
            clear HK
            iterate 10
              first
              | (refine m_take (v := ?_) rfl rfl ?_ ?_
                 rotate_left
                 · intro W hW
                   go_simp
                   with_reducible rfl
                 simp only [Act.put, List.setIfInBounds_toArray, List.set_cons_zero, List.set_cons_succ])
              | (refine m_skip rfl rfl ?_
                 simp only [Act.put, List.setIfInBounds_toArray, List.set_cons_zero, List.set_cons_succ])
            refine m_loud rfl (fun K hK => ?_)
            have HK := Lib.hid hK
            clear hK
            go_simp
            refine (same_calls _ _ FO FO _ (HW8.out.below HB13.out).1 (HN8.out.below HB13.out).1).mono ?_
            rintro e w14 ⟨rfl, rfl⟩
            rw [show (FO == FO) = true from by simp]
            refine HK.out _ _ c13 ?_
            clear HK
            iterate 2
              first
              | (refine m_take (v := ?_) rfl rfl ?_ ?_
                 rotate_left
                 · intro W hW
                   go_simp
                   with_reducible rfl
                 simp only [Act.put, List.setIfInBounds_toArray, List.set_cons_zero, List.set_cons_succ])
              | (refine m_skip rfl rfl ?_
                 simp only [Act.put, List.setIfInBounds_toArray, List.set_cons_zero, List.set_cons_succ])
            refine m_done ?_
            simp only [List.drop_succ_cons, List.drop_zero]
            have HL13 := Lib.hid (HLD8.out.below HB13.out)
            have HK13 := Lib.hid (show w14.heap[kc]? = some (.cells #[lv] 22) ∧ Fr.MineL w14 YS lv E from ⟨(HB13.out.block kc (Array.getElem?_eq_some_iff.1 HK8.out.2.1).1).trans HK8.out.2.1, HK8.out.2.2.below HB13.out (Nat.le_refl _)⟩)
            have HDD13 := Lib.hid (show w14.heap[DD]? = some (.deferred (some [])) from (HB13.out.block DD (Array.getElem?_eq_some_iff.1 HDD8.out).1).trans HDD8.out)
            have HBE := Lib.hid (HB8.out.trans (HB13.out.mono HB8.out.size))
            have HRE2 := Lib.hid (HR8.out.below HB13.out)
            have hs13 := HB13.out.size
            clear hb9 c9 hb12 c12 hb13 c13 c8 HB9 HB12 HB13 HW8 HN8 HL8 HK8 HDD8 HB8 HR8 HLD8
            go_wp2_with fail
            simp only [NP]
            gi_wp2_with (gi_at_call 18; refine (lall_calls (some ⟨l2, 0, none⟩) 0 _).mono ?_; rintro e w15 ⟨rfl, rfl⟩)
            obtain ⟨Z, hZ⟩ : ∃ Z, Z = ((w14.alloc (.cells #[.int .i64 0] 3)).alloc (.cells #[.pointer (some ⟨l2, 0, none⟩)] 29)).alloc (.cells #[.int .i64 0] 3) := ⟨_, rfl⟩
            obtain ⟨N, hN⟩ : ∃ N, N = w14.heap.size := ⟨_, rfl⟩
            have hZs : Z.heap.size = N + 3 := by rw [hZ, hN]; simp
            have hbZ : Below w14.heap.size w14 Z := by rw [hZ]; exact (((Below.refl _ _).alloc (Nat.le_refl _) _).alloc (by simp) _).alloc (by simp; omega) _
            have hzn : Z.heap[N]? = some (.cells #[.int .i64 0] 3) := by
              rw [hZ, hN, Below.heap_alloc _ _ _ (by simp; omega), Below.heap_alloc _ _ _ (by simp), World.alloc_heap_new]
            have hzl : Z.cell? ⟨N + 1, 0, none⟩ = some (.pointer (some ⟨l2, 0, none⟩)) := by
              rw [hZ, hN, World.cell?_alloc_past _ _ _ (by simp), World.cell?_alloc_at _ _ _ _ (by simp)]; rfl
            have hzf : Z.cell? ⟨N + 1 + 1, 0, none⟩ = some (.int .i64 (0 : Nat)) := by
              rw [hZ, hN, World.cell?_alloc_at _ _ _ _ (by simp)]; rfl
            have hncell : Z.cell? ⟨N, 0, none⟩ = some (.int .i64 (0 : Nat)) ∧ Z.frozen? ⟨N, 0, none⟩ = false := by
              refine ⟨?_, ?_⟩
              · simp only [World.cell?, hzn]; rfl
              · simp only [World.frozen?, hzn]; simp
            have hnu : ∀ j, j = N → ¬ IsU8 Z j := fun j e hu => by
              subst e; exact absurd ((show TyAt Z j 3 from ⟨_, _, hzn⟩).eq (show TyAt Z j 5 from hu)) (by decide)
            have hfoot : ∀ j, ldFoot l2 L2 D8 j → j < N := fun j hj => by rw [hN]; exact (HL13.out.foot_lt hj).2
            rw [← hZ, ← hN]
            have HLZ := Lib.hid (HL13.out.below hbZ)
            have HBZ := Lib.hid (HBE.out.trans (hbZ.mono HBE.out.size))
            have HRZ := Lib.hid (HRE2.out.below hbZ)
            have hkN : kc < N := by rw [hN]; exact (Array.getElem?_eq_some_iff.1 HK13.out.1).1
            have hDN : DD < N := by rw [hN]; exact (Array.getElem?_eq_some_iff.1 HDD13.out).1
            have HKZ := Lib.hid (show ∀ W, (∀ j, j < N → W.heap[j]? = Z.heap[j]?) → W.heap[kc]? = some (.cells #[lv] 22) ∧ Fr.MineL W YS lv E ∧ W.heap[DD]? = some (.deferred (some [])) from fun W hW => by
              have hb : ∀ j, j < N → W.heap[j]? = w14.heap[j]? := fun j hj => (hW j hj).trans (hbZ.block j (by rw [← hN]; exact hj))
              exact ⟨(hb kc hkN).trans HK13.out.1, HK13.out.2.blocks (fun j _ hj => hb j (by rw [hN]; exact hj)), (hb DD hDN).trans HDD13.out⟩)
            have HFT2 := Lib.hid (And.intro hfoot hnu)
            have HZL := Lib.hid (And.intro hzl hzf)
            have hwN : w.heap.size ≤ N := by rw [hN]; exact HBE.out.size
            have hrel2 : OJ Z N f E.length (max 0 f, []) Z := ⟨Only.refl _ _, (fun p hp => by cases hp), by rw [Nat.zero_max, Nat.sub_self]; exact hncell.1, hncell.2, ⟨by show f ≤ max 0 f; omega, by show max 0 f ≤ f + E.length; omega⟩⟩
            have hYl : kc + 4 ≤ YS := by omega
            clear hZ hN hbZ hzn hzl hzf hncell hnu hfoot HL13 HBE HRE2 HK13 HDD13 HNX HNX2 HFX HFX2 hb9 hYs HB7 HV7 HSO HYL HFT HLL HFW
            refine range_w (gf := 40) (lb := #[.pointer (some ⟨N + 1, 0, none⟩), .pointer (some ⟨N + 1 + 1, 0, none⟩)]) rfl (fun args w => rep_enter Tryz.func40 (by kernel_rfl) rfl args w)
              (fun s W => OJ Z N f E.length s W) (fun _ _ => False) (LStepT f E Z.heap.size) (fun s => f + E.length ≤ s.1) (max 0 f, [])
              (fun s W W' hc h => h.calm hc) (fun _ _ _ _ h => h) hrel2 ?iter2 ?body2 ?done2 (fun _ _ _ _ h => h.elim)
            case iter2 =>
              intro ly J' Jx' W hm _ hJJ hc hJ0 hy
              refine (lall1_iterW B l2 (N + 1) (N + 1 + 1) f 0 Z.heap.size ly L2 E J' Jx' W (fun i s hs => by rw [← HFE2.out.1]; exact HFN2.out.at_ i s hs) HFE2.out.2 (by omega) (by omega) (by have := HFN2.out.cnt; omega) (by omega) (fun s hs x hx => by have := HFN2.out.small s hs x hx; omega) hm (fun s W2 hj => ?_) hy hJ0).mono ?_
              · obtain ⟨h1, h2, -⟩ := hJJ s W2 hj
                refine ⟨HLZ.out.log.only h1 (fun j hj hf => ?_) (fun j hj => HFT2.out.2 j hj), h1.cell (by omega) HZL.out.1, h1.cell (by omega) HZL.out.2, h1.size, fun p hp => (h2 p hp).1⟩
                have := HFT2.out.1 j (.inl hf); omega
              · rintro e W' ⟨hv, (⟨s, hs, hj⟩ | hj)⟩
                · exact ⟨hv, .inl ⟨s, hs, hj⟩⟩
                · exact ⟨hv, .inr hj⟩
            case body2 =>
              intro ly s args s' W hr hst hsz
              obtain ⟨hs0, hs1, hs2, hs3, v, rfl, hm⟩ := hst
              obtain ⟨q, hq⟩ : ∃ q, E.getD (s.1 - f) [] = q := ⟨_, rfl⟩
              rw [hq] at hm
              obtain ⟨va2, vc2, rfl⟩ := hm.slice
              have HPUT := Lib.hid (fun (W3 : World) (hc : Calm Z.heap.size W W3) => OJ.put (by omega : N < Z.heap.size) hr hs2 hs1 hs3 hc)
              have HKR := Lib.hid hr
              have HM := Lib.hid hm
              refine ⟨rfl, ?_⟩
              clear hr hm hs3 hrel2 hs2
              gi_wp2_with fail
              refine ⟨KeepsOthers.refl _, fun W₂ hc => ?_⟩
              obtain ⟨h1, -, c1, f1, -⟩ := HKR.out.calm hc
              have HEND := Lib.hid (HPUT.out W₂ hc)
              have HM2 := Lib.hid (HM.out.calm hc)
              obtain ⟨k1, ⟨vs, hvs, hel⟩, -⟩ := HKZ.out W₂ (fun j hj => h1.block j (by omega) (by omega))
              obtain ⟨la, lc, rfl⟩ := own_slice hvs
              have hxl : vs.length = E.length := by have := hvs.1; omega
              obtain ⟨u, hu⟩ : ∃ u, vs[s.1 - f]? = some u := ⟨_, List.getElem?_eq_getElem (by omega)⟩
              have hqq : E[s.1 - f]? = some q := by
                rw [← hq, List.getD_eq_getElem?_getD, List.getElem?_eq_getElem (by omega)]; rfl
              have hmu := hel _ _ _ hu hqq
              obtain ⟨ua, uc, rfl⟩ := hmu.slice
              obtain ⟨g, hg, hgc, hgm, hcg⟩ := row_cell hvs _ _ hu
              subst hg
              have HMU := Lib.hid hmu
              have ck : W₂.cell? ⟨kc, 0, none⟩ = some (.slice (some ⟨g, 0, none⟩) E.length lc) := by simp only [World.cell?, k1]; rfl
              obtain ⟨k, hk⟩ : ∃ k, k = s.1 - f := ⟨_, rfl⟩
              rw [← hk] at c1 hcg HEND
              have hkE : k < E.length := by omega
              have hge : decide ((E.length : Int) ≤ (k : Int)) = false := decide_eq_false (by omega)
              have hgn : decide (E.length ≤ k) = false := decide_eq_false (by omega)
              have hngn : ¬ E.length ≤ k := by omega
              have hkc2 : k < lc := by omega
              clear hc h1 k1 hvs hel hxl hu hqq hmu hk hq HPUT HKR HM
              gi_wp2_with fail
              refine (CallsIn.inRound ly (callsIn_wide.2 (same_calls _ _ q q _ HM2.out.bytes HMU.out.bytes))).mono ?_
              rintro e W3 ⟨rfl, rfl⟩
              rw [show (q == q) = true from by simp]
              gi_wp2_with fail
              exact ⟨KeepsOthers.setCell _ _ _, HEND.out⟩
            case done2 =>
              intro DE s W hDE hs hr hK
              obtain ⟨h1, -, c1, -, h5⟩ := hr
              have hse : s.1 - f = E.length := by have := h5.2; omega
              rw [hse] at c1
              obtain ⟨k1, ⟨vs, hvs, -⟩, kD⟩ := HKZ.out W (fun j hj => h1.block j (by omega) (by omega))
              obtain ⟨la, lc, rfl⟩ := own_slice hvs
              have ck : W.cell? ⟨kc, 0, none⟩ = some (.slice la E.length lc) := by simp only [World.cell?, k1]; rfl
              have HRW := Lib.hid (HRZ.out.only h1 (fun j e => by omega))
              have hrc := HRW.out.rcl
              have hrz := HRW.out.rfz
              have HBW := Lib.hid (HBZ.out.trans (h1.below (B := w.heap.size) HBZ.out.size (fun j hj e => by omega)))
              have HKK := Lib.hid (And.intro hK kD)
              have hee : ((E.length : Int) == (E.length : Int)) = true := by simp
              clear h1 h5 hs hse k1 hvs kD hK hrel2
              gi_wp2_with fail
              have hwR := HRE.out
              have k2 : (W.setCell ⟨R, 0, none⟩ (.bool true)).heap[DE]? = some (.deferred (some [])) := (heap_setCell_other W ⟨R, 0, none⟩ DE _ (by simp; omega)).trans HKK.out.1
              have kd : (W.setCell ⟨R, 0, none⟩ (.bool true)).heap[DD]? = some (.deferred (some [])) := (heap_setCell_other W ⟨R, 0, none⟩ DD _ (by simp; omega)).trans HKK.out.2
              refine ⟨by simp, .inl ⟨_, _, rfl, run_takeDeferred k2, ?_⟩⟩
              have k3 : (World.putObj (W.setCell ⟨R, 0, none⟩ (.bool true)) DE (.deferred none)).heap[DD]? = some (.deferred (some [])) := (World.putObj_heap_other (by omega)).trans kd
              refine ⟨by simp, .inl ⟨_, _, rfl, run_takeDeferred k3, ?_⟩⟩
              have hcal := Calm.putObj (B := w.heap.size) (.deferred none) (by omega) k2 rfl
              have hcal2 := Calm.putObj (B := w.heap.size) (.deferred none) (by omega) k3 rfl
              have hcc := hcal2.cell (hcal.cell (cell_set_same (.bool true) hrc))
              refine ⟨.bool true, ?_, rfl, ((HBW.out.setCell (by simp; omega) _).trans hcal.below).trans hcal2.below⟩
              simp [results, Tryz.results5, go_sem, hcc]
        · have hb : rm < 1 ∨ 1048576 < rm := by omega
          gi_wp2_with fail
          refine (callsIn_wide.2 (lopen_arg d ⟨#[108, 111, 103]⟩ rm w3 lognm hb)).mono ?_
          rintro e w4 ⟨rfl, hb4⟩
          have HR4 := Lib.hid (HRC3.out.below hb4)
          have hrc := HR4.out.rcl
          have hrz := HR4.out.rfz
          have HB4 := Lib.hid (HBW3.out.trans (hb4.mono HBW3.out.size))
          clear hb4 HRC3 HBW3
          by_cases hlo : rm < 1
          · have d3 : decide (rm < 1) = true := decide_eq_true hlo
            gi_wp2_with fail
            have hwR := HRE.out
            have hcc := cell_set_same (.bool true) hrc
            refine ⟨.bool true, ?_, rfl, HB4.out.setCell (by simp; omega) _⟩
            simp [results, Tryz.results5, go_sem, hcc]
          · have d3 : decide (rm < 1) = false := decide_eq_false hlo
            have d4 : decide (1048576 < rm) = true := decide_eq_true (by omega)
            gi_wp2_with fail
            have hwR := HRE.out
            have hcc := cell_set_same (.bool true) hrc
            refine ⟨.bool true, ?_, rfl, HB4.out.setCell (by simp; omega) _⟩
            simp [results, Tryz.results5, go_sem, hcc]
      · have d1 : decide ((i : Int) < (es.length : Int)) = true := decide_eq_true (by omega)
        have d2 : decide ((i : Int) < 20) = false := decide_eq_false (by omega)
        clear hlt HF HE H0
        -- behind the files, in the world wr
        gi_wp2_with fail
        refine (callsIn_wide.2 (dread_calls d B D other wr HD.out (by have := file_le D.now other; have := HF20.out.used; omega))).mono ?_
        rintro e w3 ⟨wv, rfl, hm3, hb3⟩
        obtain ⟨FO, hFO⟩ : ∃ FO, fileOf D.now other = FO := ⟨_, rfl⟩
        obtain ⟨hd3, hhd⟩ : ∃ b, (mget D.now other).isSome = b := ⟨_, rfl⟩
        rw [hFO] at hm3
        rw [hhd]
        have HFO := Lib.hid (And.intro hFO hhd)
        have HW3 := Lib.hid (Txt.of_mine hm3)
        obtain ⟨wa, wc, rfl⟩ := hm3.slice
        have HD3 := Lib.hid (HD.out.below hb3)
        have HBW3 := Lib.hid (HBW.out.trans (hb3.mono HBW.out.size))
        have HRC3 := Lib.hid (HRC.out.below hb3)
        have HV3 := Lib.hid (HV.out.below HBW3.out hw5)
        clear hFO hhd hm3 hb3 HD HBW HRC
        by_cases hroom : 1 ≤ rm ∧ rm ≤ 1048576
        · have d3 : decide (rm < 1) = false := decide_eq_false (by omega)
          have d4 : decide (1048576 < rm) = false := decide_eq_false (by omega)
          gi_wp2_with fail
          refine (callsIn_wide.2 (lopen_all d B D ⟨#[108, 111, 103]⟩ rm (baseOf ⟨#[108, 111, 103]⟩) w3 (openIn_sm HD3.out HF20.out.sm (Nat.le_refl _) lognm hroom HV3.out (by have := HBW3.out.size; omega)) HF20.out.dur HF20.out.fails (fun f _ n h => (baseOf_some h).2) HV3.out h5B)).mono ?_
          rintro e w4 ⟨l, L, T, D4, rfl, hl, hld, hon, hfo, hLd, hLn, hLr, hLb, hTp, hTo, hps, haf⟩
          have HFN := Lib.hid (found_of HF20.out.sm hTp hps)
          have HLD := Lib.hid hld
          have HAF := Lib.hid haf
          have HTP := Lib.hid (And.intro hTp (And.intro hTo hps))
          have HLL := Lib.hid (And.intro hLd hLn)
          have hfB : ∀ j, D.foot d j → B ≤ j := fun j hj => (HD3.out.foot_lt hj).1
          have HBW4 := Lib.hid (HBW3.out.trans (hon.below HBW3.out.size (fun j hj e => by have := hfB j e; omega)))
          have HRC4 := Lib.hid (HRC3.out.only hon hfB)
          have HW4 := Lib.hid (HW3.out.only hon (fun j hj => HD3.out.foot_u8 hj))
          obtain ⟨f, hf⟩ : ∃ f, firstOf L = f := ⟨_, rfl⟩
          obtain ⟨E, hE⟩ : ∃ E, entsOf L.segs = E := ⟨_, rfl⟩
          have HFE := Lib.hid (And.intro hf hE)
          have hf62 : f ≤ 4611686018427387904 := by rw [← hf]; exact HFN.out.first
          have hEl : E.length ≤ 20971520 := by rw [← hE]; exact HFN.out.len
          have HKN := Lib.hid HD3.out.know
          clear hld haf hTp hTo hps hLd hLn hLr hLb hfB hon hfo hl hf hE HD3 HBW3 HRC3 HW3
          gi_wp2_with fail
          refine (callsIn_wide.2 (lfirst_calls B l L _ (HLD.out.log.below (below_alloc w4 (.cells #[.slice none 0 0] 22))))).mono ?_
          rintro e w5 ⟨rfl, rfl⟩
          rw [HFE.out.1]
          gi_wp2_with (gi_at_call 18; refine (lall_calls (some ⟨l, 0, none⟩) 0 _).mono ?_; rintro e w6 ⟨rfl, rfl⟩)
          obtain ⟨Y, hY⟩ : ∃ Y, Y = (((w4.alloc (.cells #[.slice none 0 0] 22)).alloc (.cells #[.int .i64 (f : Nat)] 3)).alloc (.cells #[.pointer (some ⟨l, 0, none⟩)] 29)).alloc (.cells #[.int .i64 0] 3) := ⟨_, rfl⟩
          obtain ⟨kc, hkc⟩ : ∃ kc, kc = w4.heap.size := ⟨_, rfl⟩
          have hYs : Y.heap.size = kc + 4 := by rw [hY, hkc]; simp
          have hbY : Below w4.heap.size w4 Y := by rw [hY]; exact ((((Below.refl _ _).alloc (Nat.le_refl _) _).alloc (by simp) _).alloc (by simp; omega) _).alloc (by simp; omega) _
          have hyk : Y.heap[kc]? = some (.cells #[.slice none 0 0] 22) := by
            rw [hY, hkc, Below.heap_alloc _ _ _ (by simp; omega), Below.heap_alloc _ _ _ (by simp; omega), Below.heap_alloc _ _ _ (by simp), World.alloc_heap_new]
          have hyn : Y.heap[kc + 1]? = some (.cells #[.int .i64 (f : Nat)] 3) := by
            rw [hY, hkc, Below.heap_alloc _ _ _ (by simp), Below.heap_alloc _ _ _ (by simp), ← World.size_alloc w4 (.cells #[.slice none 0 0] 22), World.alloc_heap_new]
          have hyl : Y.cell? ⟨kc + 2, 0, none⟩ = some (.pointer (some ⟨l, 0, none⟩)) := by
            rw [hY, hkc, World.cell?_alloc_past _ _ _ (by simp), World.cell?_alloc_at _ _ _ _ (by simp)]; rfl
          have hyf : Y.cell? ⟨kc + 3, 0, none⟩ = some (.int .i64 (0 : Nat)) := by
            rw [hY, hkc, World.cell?_alloc_at _ _ _ _ (by simp)]; rfl
          have hncell : Y.cell? ⟨kc + 1, 0, none⟩ = some (.int .i64 (f : Nat)) ∧ Y.frozen? ⟨kc + 1, 0, none⟩ = false := by
            refine ⟨?_, ?_⟩
            · simp only [World.cell?, hyn]; rfl
            · simp only [World.frozen?, hyn]; simp
          have hnu : ∀ j, (j = kc + 1 ∨ j = kc) → ¬ IsU8 Y j := fun j e hu => by
            rcases e with e | e
            · subst e; exact absurd ((show TyAt Y (kc + 1) 3 from ⟨_, _, hyn⟩).eq (show TyAt Y (kc + 1) 5 from hu)) (by decide)
            · subst e; exact absurd ((show TyAt Y j 22 from ⟨_, _, hyk⟩).eq (show TyAt Y j 5 from hu)) (by decide)
          have hfoot : ∀ j, ldFoot l L D4 j → B ≤ j ∧ j < kc := fun j hj => by rw [hkc]; exact HLD.out.foot_lt hj
          rw [← hY, ← hkc]
          have HLY := Lib.hid (HLD.out.below hbY)
          have HBY := Lib.hid (HBW4.out.trans (hbY.mono HBW4.out.size))
          have HRY := Lib.hid (HRC4.out.below hbY)
          have HWY := Lib.hid (HW4.out.below hbY)
          have HFT := Lib.hid (And.intro hfoot hnu)
          have HYL := Lib.hid (And.intro hyl hyf)
          have hkB : B ≤ kc := by have := hfoot _ (.inl (.inl rfl)); omega
          have hrel0 : EJ Y (kc + 1) kc f E (max 0 f, []) Y := ⟨Only.refl _ _, (fun p hp => by cases hp), by rw [Nat.zero_max]; exact hncell.1, hncell.2, ⟨by show f ≤ max 0 f; omega, by show max 0 f ≤ f + E.length; omega⟩, _, hyk, by
            rw [Nat.zero_max, Nat.sub_self, List.take_zero]
            exact Fr.MineL.nil _ _⟩
          clear hY hkc hbY hyk hyn hyl hyf hncell hnu hfoot HLD HBW4 HRC4 HW4
          refine range_w (gf := 40) (lb := #[.pointer (some ⟨kc + 1 + 1, 0, none⟩), .pointer (some ⟨kc + 1 + 1 + 1, 0, none⟩)]) rfl (fun args w => rep_enter Tryz.func40 (by kernel_rfl) rfl args w)
            (fun s W => EJ Y (kc + 1) kc f E s W) (fun _ _ => False) (LStepT f E Y.heap.size) (fun s => f + E.length ≤ s.1) (max 0 f, [])
            (fun s W W' hc h => h.calm hc) (fun _ _ _ _ h => h) hrel0 ?iter ?body ?done (fun _ _ _ _ h => h.elim)
          case iter =>
            intro ly J' Jx' W hm _ hJJ hc hJ0 hy
            refine (lall1_iterW B l (kc + 2) (kc + 3) f 0 Y.heap.size ly L E J' Jx' W (fun i s hs => by rw [← HFE.out.1]; exact HFN.out.at_ i s hs) HFE.out.2 (by omega) (by omega) (by have := HFN.out.cnt; omega) (by omega) (fun s hs x hx => by have := HFN.out.small s hs x hx; omega) hm (fun s W2 hj => ?_) hy hJ0).mono ?_
            · obtain ⟨h1, h2, -⟩ := hJJ s W2 hj
              refine ⟨HLY.out.log.only h1 (fun j hj hf => ?_) (fun j hj => HFT.out.2 j hj), h1.cell (by omega) HYL.out.1, h1.cell (by omega) HYL.out.2, h1.size, fun p hp => (h2 p hp).1⟩
              have := HFT.out.1 j (.inl hf); omega
            · rintro e W' ⟨hv, (⟨s, hs, hj⟩ | hj)⟩
              · exact ⟨hv, .inl ⟨s, hs, hj⟩⟩
              · exact ⟨hv, .inr hj⟩
          case body =>
            intro ly s args s' W hr hst hsz
            obtain ⟨hs0, hs1, hs2, hs3, v, rfl, hm⟩ := hst
            obtain ⟨q, hq⟩ : ∃ q, E.getD (s.1 - f) [] = q := ⟨_, rfl⟩
            rw [hq] at hm
            obtain ⟨va2, vc2, rfl⟩ := hm.slice
            refine ⟨rfl, ?_⟩
            have HKR := Lib.hid hr
            have HM := Lib.hid hm
            have HS := Lib.hid (And.intro hs2 hs3)
            clear hr hm hs3 hrel0 hs2
            gi_wp2_with fail
            refine ⟨KeepsOthers.refl _, fun W₂ hc => ?_⟩
            have hr2 := HKR.out.calm hc
            have HR2 := Lib.hid hr2
            have HM2 := Lib.hid (HM.out.calm hc)
            have HS2 := Lib.hid (show ∃ c o, s'.2 = [(c, o)] ∧ W₂.heap[c]? = some o ∧ (∃ cs x, o = .cells cs 72 x) ∧ Y.heap.size ≤ c from by
              obtain ⟨c, o, e, ho, ⟨cs, x, e2⟩, hcb⟩ := HS.out.2
              exact ⟨c, o, e, hc.cells _ _ ho (by rw [e2]; rfl), ⟨cs, x, e2⟩, hcb⟩)
            obtain ⟨h1, -, c1, f1, -, lv, hlk, vs, hvs, hel⟩ := hr2
            have hlen : (E.take (s.1 - f)).length = s.1 - f := by rw [List.length_take]; omega
            rw [hlen] at hvs
            have hck : W₂.cell? ⟨kc, 0, none⟩ = some lv ∧ W₂.frozen? ⟨kc, 0, none⟩ = false := by
              refine ⟨?_, ?_⟩
              · simp only [World.cell?, hlk]; rfl
              · simp only [World.frozen?, hlk]; simp
            obtain ⟨ck, fk⟩ := hck
            obtain ⟨la, lc, rfl⟩ := own_slice hvs
            have HVS := Lib.hid (And.intro hlk (And.intro hvs hel))
            have hW2s := h1.size
            obtain ⟨sn, hsn⟩ : ∃ sn, sn = s.1 := ⟨_, rfl⟩
            have HSN := Lib.hid (And.intro hsn hq)
            clear hlen
            rw [← hsn] at c1 ck hs0 hs1 ⊢
            have hnn : ((sn : Int) != (sn : Int)) = false := by simp
            have hsb : sn ≤ 4611686018460000000 := by omega
            obtain ⟨V2, hV2⟩ : ∃ V2, V2 = (W₂.setCell ⟨kc + 1, 0, none⟩ (.int .i64 ((sn : Int) + 1))).alloc (.cells #[.slice va2 q.length vc2] 34) := ⟨_, rfl⟩
            have hal := below_alloc (W₂.setCell ⟨kc + 1, 0, none⟩ (.int .i64 ((sn : Int) + 1))) (.cells #[.slice va2 q.length vc2] 34)
            have hov : Only (fun j => j = kc + 1) W₂ V2 := by
              rw [hV2]
              exact ((Only.refl (fun j => j = kc + 1) W₂).setCell ⟨kc + 1, 0, none⟩ _ (.inl rfl)).alloc _
            have HLIT := Lib.hid (show Rd V2 1 (.slice (some ⟨W₂.heap.size, 0, none⟩) 1 1) 1 [.slice va2 q.length vc2] from by
              have := Rd.lit (w := W₂.setCell ⟨kc + 1, 0, none⟩ (.int .i64 ((sn : Int) + 1))) (cs := #[.slice va2 q.length vc2]) (e := 34) (n := 1) (sz := 1) rfl (by omega)
              rw [World.size_setCell] at this
              rw [hV2]; exact this)
            have HOW := Lib.hid (show V2.ownsRow Y.heap.size 34 1 (.slice la (sn - f) lc) (sn - f) vs from by
              rw [hsn]
              exact ownsRow_only hvs hov (fun g hg e => by have := (World.ownsRow.lt hvs g hg).1; omega))
            have HKO := Lib.hid (show KeepsOthers W₂ V2 from by rw [hV2]; exact (KeepsOthers.setCell _ _ _).trans (KeepsOthers.alloc _ _))
            have c2 : V2.cell? ⟨kc + 1, 0, none⟩ = some (.int .i64 ((sn : Int) + 1)) := by
              rw [hV2]
              exact cell_later (below_alloc _ _) (cell_set_same _ c1)
            have f2 : V2.frozen? ⟨kc + 1, 0, none⟩ = false := by
              have hlt := World.block_lt_of_cell? _ _ c1
              rw [hV2, World.frozen?_of_block (a := ⟨kc + 1, 0, none⟩) (w := W₂.setCell ⟨kc + 1, 0, none⟩ (.int .i64 ((sn : Int) + 1))) (Below.heap_alloc _ _ _ (by rw [World.size_setCell]; exact hlt)), frozen_set]
              exact f1
            have HC2 := Lib.hid (And.intro c2 (And.intro f2 hov))
            have hV2s : Y.heap.size ≤ V2.heap.size := Nat.le_trans hW2s hov.size
            have ck2 : V2.cell? ⟨kc, 0, none⟩ = some (.slice la (sn - f) lc) := by rw [hsn]; rw [hsn] at ck; exact hov.cell (b := kc) (o := 0) (by omega) ck
            have fk2 : V2.frozen? ⟨kc, 0, none⟩ = false := (hov.frozen (b := kc) (o := 0) (World.block_lt_of_cell? _ _ ck) (by omega)).trans fk
            have hmd : sn - f ≤ 20971520 := by omega
            have HNL := Lib.hid (show ∀ j, (Value.slice la (sn - f) lc).ownBlock = some j → Y.heap.size ≤ j from fun j hj => (World.ownsRow.lt HOW.out j hj).1)
            have HV2 := Lib.hid hV2
            rw [← hsn] at hlk
            clear hvs hel h1 c2 f2 hov hal hsn hq hV2
            gi_wp2_with (gi_at_builtin; rw [← HV2.out]; go_loud (refine app_listIn tyBytesL HOW.out HLIT.out (by simp [Value.oneCell']) (by omega) (by omega) hV2s rfl rfl rfl rfl ?_; intro lv3 w3 g1 g2 hn3; obtain ⟨ga, gc, rfl⟩ := own_slice g1; have HG1 := Lib.hid g1; have HG2 := Lib.hid g2; have ck3 := (Only.of_grown g2).cell (b := kc) (o := 0) (fun e => by have := HNL.out kc e; omega) ck2; have fk3 := ((Only.of_grown g2).frozen (b := kc) (o := 0) (World.block_lt_of_cell? _ _ ck2) (fun e => by have := HNL.out kc e; omega)).trans fk2; clear g1 g2 hn3))
            refine ⟨(HKO.out.trans (KeepsOthers.of_grownBy HG2.out (fun j o ej hj => own_cells HOW.out j o ej hj))).trans (KeepsOthers.setCell _ _ _), ?_⟩
            have hsn := HSN.out.1
            subst hsn
            obtain ⟨x1, x2, x3⟩ := HVS.out
            have hm := HM2.out
            rw [← HSN.out.2] at hm HG1
            exact EJ.push (by omega) (by omega) (by omega) HR2.out.1 HC2.out.2.2 HC2.out.1 HC2.out.2.1 x1 x2 x3 hm ⟨hs0, hs1⟩ HS.out.1 HS2.out HG1.out HG2.out
          case done =>
            intro DD s W hD hs hr hK
            obtain ⟨h1, -, c1, -, h5, lv, hlk, hml⟩ := hr
            have hse : s.1 = f + E.length := Nat.le_antisymm h5.2 hs
            rw [hse] at c1 hml
            rw [Nat.add_sub_cancel_left, List.take_length] at hml
            have hs1 := h1.size
            have hdk : DiskAt W B d D4 := by
              have := (HLY.out.only h1 (fun j e hf => by have := HFT.out.1 j hf; omega) HFT.out.2).disk
              rw [HLL.out.1] at this
              exact this
            have HDW := Lib.hid hdk
            have HLW := Lib.hid (HLY.out.only h1 (fun j e hf => by have := HFT.out.1 j hf; omega) HFT.out.2)
            have HFW := Lib.hid (show ∀ j, D4.foot d j → B ≤ j ∧ j < kc from fun j hj => HFT.out.1 j (.inr (by rw [HLL.out.1]; exact hj)))
            have HBW := Lib.hid (HBY.out.trans (h1.below HBY.out.size (fun j hj e => by omega)))
            have HRW := Lib.hid (HRY.out.only h1 (fun j e => by omega))
            have HWW := Lib.hid (HWY.out.only h1 HFT.out.2)
            have HKW := Lib.hid (And.intro c1 (And.intro hlk hml))
            have HDD := Lib.hid hK
            obtain ⟨YS, hYS⟩ : ∃ n, n = Y.heap.size := ⟨_, rfl⟩
            rw [← hYS] at hD hs1 HKW hYs
            have hfv : fv D4 other = fv D other := HAF.out.rest other (fun p _ => other_no p.base)
            have HSO := Lib.hid (show fileOf D4.now other = FO ∧ (mget D4.now other).isSome = hd3 from by
              have e1 := HFO.out.1
              have e2 := HFO.out.2
              have e3 := congrArg Option.isSome hfv
              unfold fv at hfv e3
              rw [Option.isSome_map, Option.isSome_map] at e3
              exact ⟨by unfold fileOf at e1 ⊢; rw [hfv]; exact e1, by rw [e3]; exact e2⟩)
            have hFO6 : FO.length ≤ 1048576 := by
              have := file_le D.now other
              have := HF20.out.used
              rw [← HFO.out.1]
              omega
            clear h1 c1 hlk hml hK hse hs h5 hdk hrel0 hYS HLY HBY HRY HWY hfv
            gi_wp2_with fail
            refine (callsIn_wide.2 (dread_calls d B D4 other W HDW.out (by rw [HSO.out.1]; omega))).mono ?_
            rintro e w6 ⟨nv, rfl, hm6, hb6⟩
            rw [HSO.out.1] at hm6
            rw [HSO.out.2]
            have HW6 := Lib.hid (HWW.out.below hb6)
            have HN6 := Lib.hid (Txt.of_mine hm6)
            obtain ⟨na, nc, rfl⟩ := hm6.slice
            have HD6 := Lib.hid (HDW.out.below hb6)
            have HL6 := Lib.hid (HLW.out.below hb6)
            have HB6 := Lib.hid (HBW.out.trans (hb6.mono HBW.out.size))
            have HR6 := Lib.hid (HRW.out.below hb6)
            have HK6 := Lib.hid (show w6.cell? ⟨kc + 1, 0, none⟩ = some (.int .i64 ((f + E.length : Nat) : Int)) ∧ w6.heap[kc]? = some (.cells #[lv] 22) ∧ Fr.MineL w6 YS lv E from
              ⟨cell_later hb6 HKW.out.1, (hb6.block kc (Array.getElem?_eq_some_iff.1 HKW.out.2.1).1).trans HKW.out.2.1, HKW.out.2.2.below hb6 (Nat.le_refl _)⟩)
            have HDD6 := Lib.hid (show w6.heap[DD]? = some (.deferred (some [])) from (hb6.block DD (Array.getElem?_eq_some_iff.1 HDD.out).1).trans HDD.out)
            have hs6 := hb6.size
            clear hm6 hb6 HDW HLW HBW HRW HWW HKW HDD
            gi_wp2_with fail
            refine (callsIn_wide.2 (dcrash_calls d B D4 none 0 0 w6 HD6.out HAF.out.dur.chg)).mono ?_
            rintro e w7 ⟨rfl, nb, hnb, hturn⟩
            have HAF7 := Lib.hid (HAF.out.crash HF20.out.fails nb)
            have HSM7 := Lib.hid (HF20.out.sm.view hturn.is HAF7.out.small)
            have HT7 := Lib.hid hturn
            have HB7 := Lib.hid (HB6.out.trans (hturn.only.below HB6.out.size (fun j hj e => by have := HFW.out j e; omega)))
            have HV7 := Lib.hid (HV.out.below HB7.out hw5)
            clear hturn hnb
            gi_wp2_with fail
            refine (callsIn_wide.2 (lopen_all d B (crD D4 nb) ⟨#[108, 111, 103]⟩ rm (baseOf ⟨#[108, 111, 103]⟩) w7 (openIn_sm HT7.out.is HSM7.out (Nat.le_refl _) lognm hroom HV7.out (by have := HB7.out.size; omega)) HAF7.out.dur rfl (fun f _ n h => (baseOf_some h).2) HV7.out h5B)).mono ?_
            rintro e w8 ⟨l2, L2, T2, D8, rfl, hl2, hld2, hon2, -, -, -, -, -, hTp2, hTo2, hps2, -⟩
            have HFN2 := Lib.hid (found_of HSM7.out hTp2 hps2)
            have hsame : L2.segs.map Seg.ps = L.segs.map Seg.ps := by
              rw [hps2, HTP.out.2.2]
              exact open_same HKN.out HT7.out.is.know (fun x n h => (baseOf_some h).2) HTP.out.1 HTP.out.2.1 HAF7.out hTp2 hTo2
            have HFE2 := Lib.hid (show firstOf L2 = f ∧ entsOf L2.segs = E from by
              rw [first_ps, ents_psL, hsame, ← first_ps, ← ents_psL]
              exact HFE.out)
            have on8 : Only (D4.foot d) w6 w8 := HT7.out.only.trans hon2 (fun j hj hf => (HT7.out.foot j hf).resolve_right (by omega))
            have hnf : ∀ j, kc ≤ j → ¬ D4.foot d j := fun j hj e => by have := HFW.out j e; omega
            have HL8 := Lib.hid (HL6.out.log.only on8 (fun j hj hf => foot_apart HL6.out.log HD6.out hf hj) (fun j hj => HD6.out.foot_u8 hj))
            have HK8 := Lib.hid (show w8.cell? ⟨kc + 1, 0, none⟩ = some (.int .i64 ((f + E.length : Nat) : Int)) ∧ w8.heap[kc]? = some (.cells #[lv] 22) ∧ Fr.MineL w8 YS lv E from
              ⟨on8.cell (b := kc + 1) (o := 0) (hnf _ (by omega)) HK6.out.1, (on8.block kc (Array.getElem?_eq_some_iff.1 HK6.out.2.1).1 (hnf _ (by omega))).trans HK6.out.2.1, HK6.out.2.2.blocks (fun j hj hl => on8.block j hl (hnf _ (by omega)))⟩)
            have HDD8 := Lib.hid (show w8.heap[DD]? = some (.deferred (some [])) from (on8.block DD (Array.getElem?_eq_some_iff.1 HDD6.out).1 (hnf _ (by omega))).trans HDD6.out)
            have HW8 := Lib.hid (HW6.out.only on8 (fun j hj => HD6.out.foot_u8 hj))
            have HN8 := Lib.hid (HN6.out.only on8 (fun j hj => HD6.out.foot_u8 hj))
            have HB8 := Lib.hid (HB6.out.trans (on8.below HB6.out.size (fun j hj e => by have := HFW.out j e; omega)))
            have HR8 := Lib.hid (HR6.out.only on8 (fun j e => (HFW.out j e).1))
            have HLD8 := Lib.hid hld2
            have hs8 := on8.size
            have HNX := Lib.hid (show ∀ W, LogAt W B l L → Calls Tryz.prog 14 #[.pointer (some ⟨l, 0, none⟩)] W fun e w' => e = .returned (.int .i64 ((f + E.length : Nat) : Int)) ∧ Below W.heap.size W w' from fun W h => by
              have := lnext_calls B l L W h (by rw [HFN.out.next, HFE.out.1, HFE.out.2]; omega) (by have := HFN.out.cnt; omega)
              rw [HFN.out.next, HFE.out.1, HFE.out.2] at this
              exact this)
            have HNX2 := Lib.hid (show ∀ W, LogAt W B l2 L2 → Calls Tryz.prog 14 #[.pointer (some ⟨l2, 0, none⟩)] W fun e w' => e = .returned (.int .i64 ((f + E.length : Nat) : Int)) ∧ Below W.heap.size W w' from fun W h => by
              have := lnext_calls B l2 L2 W h (by rw [HFN2.out.next, HFE2.out.1, HFE2.out.2]; omega) (by have := HFN2.out.cnt; omega)
              rw [HFN2.out.next, HFE2.out.1, HFE2.out.2] at this
              exact this)
            have HFX := Lib.hid (show ∀ W, LogAt W B l L → Calls Tryz.prog 12 #[.pointer (some ⟨l, 0, none⟩)] W fun e w' => e = .returned (.int .i64 (f : Nat)) ∧ w' = W from fun W h => by
              have := lfirst_calls B l L W h
              rw [HFE.out.1] at this
              exact this)
            have HFX2 := Lib.hid (show ∀ W, LogAt W B l2 L2 → Calls Tryz.prog 12 #[.pointer (some ⟨l2, 0, none⟩)] W fun e w' => e = .returned (.int .i64 (f : Nat)) ∧ w' = W from fun W h => by
              have := lfirst_calls B l2 L2 W h
              rw [HFE2.out.1] at this
              exact this)
            obtain ⟨n, hn⟩ : ∃ n, f + E.length = n := ⟨_, rfl⟩
            have HNN := Lib.hid hn
            rw [hn] at HNX HNX2 HK8
            have c8 := HK8.out.1
            have q1 : ((n : Int) != (n : Int)) = false := by simp
            have q2 : ((f : Int) != (f : Int)) = false := by simp
            have q3 : (hd3 != hd3) = false := by simp
            clear hTp2 hTo2 hps2 hsame on8 hnf hon2 hl2 hld2 hn HT7 HB6 HR6 HD6 HL6 HK6 HDD6 HW6 HN6 HAF HAF7 HSM7 HTP HKN
            gi_wp2_with fail
            refine region_mi [(0, false), (1, false), (2, false), (3, false), (4, false), (5, true), (6, false), (7, false), (8, false), (9, false), (11, false), (10, true), (12, true), (13, false), (14, false), (15, false), (16, false), (18, false), (17, true), (19, true), (20, false), (21, false), (22, false), (23, false), (24, false), (25, false), (26, false), (27, false), (28, false), (29, false), (30, true), (31, false), (32, false)] 33 (fun X => X.cell? ⟨kc + 1, 0, none⟩ = some (.int .i64 (n : Nat))) (by kernel_rfl) (by kernel_rfl) c8 ?_
            iterate 5
              first
              | (refine m_take (v := ?_) rfl rfl ?_ ?_
                 rotate_left
                 · intro W hW
                   go_simp
                   with_reducible rfl
                 simp only [Act.put, List.setIfInBounds_toArray, List.set_cons_zero, List.set_cons_succ])
              | (refine m_skip rfl rfl ?_
                 simp only [Act.put, List.setIfInBounds_toArray, List.set_cons_zero, List.set_cons_succ])
            refine m_loud rfl (fun K hK => ?_)
            have HK := Lib.hid hK
            clear hK
            go_simp
            refine (HNX.out _ (HL8.out.below ((Below.refl _ _).drew))).mono ?_
            rintro e w9 ⟨rfl, hb9⟩
            have hb9 : Below w8.heap.size w8 w9 := ((Below.refl w8.heap.size w8).drew).trans hb9
            have HB9 := Lib.hid hb9
            have c9 := cell_later hb9 c8
            refine HK.out _ _ c9 ?_
            clear HK
            iterate 5
              first
              | (refine m_take (v := ?_) rfl rfl ?_ ?_
                 rotate_left
                 · intro W hW
                   go_simp
                   with_reducible rfl
                 simp only [Act.put, List.setIfInBounds_toArray, List.set_cons_zero, List.set_cons_succ])
              | (refine m_skip rfl rfl ?_
                 simp only [Act.put, List.setIfInBounds_toArray, List.set_cons_zero, List.set_cons_succ])
            refine m_loud rfl (fun K hK => ?_)
            have HK := Lib.hid hK
            clear hK
            go_simp
            refine (HFX2.out _ (HLD8.out.log.below HB9.out)).mono ?_
            rintro e w10 ⟨rfl, rfl⟩
            refine HK.out _ _ c9 ?_
            clear HK
            refine m_loud rfl (fun K hK => ?_)
            have HK := Lib.hid hK
            clear hK
            go_simp
            refine (HFX.out _ (HL8.out.below HB9.out)).mono ?_
            rintro e w11 ⟨rfl, rfl⟩
            refine HK.out _ _ c9 ?_
            clear HK
            iterate 5
              first
              | (refine m_take (v := ?_) rfl rfl ?_ ?_
                 rotate_left
                 · intro W hW
                   go_simp
                   with_reducible rfl
                 simp only [Act.put, List.setIfInBounds_toArray, List.set_cons_zero, List.set_cons_succ])
              | (refine m_skip rfl rfl ?_
                 simp only [Act.put, List.setIfInBounds_toArray, List.set_cons_zero, List.set_cons_succ])
            refine m_loud rfl (fun K hK => ?_)
            have HK := Lib.hid hK
            clear hK
            go_simp
            refine (HNX2.out _ (HLD8.out.log.below HB9.out)).mono ?_
            rintro e w12 ⟨rfl, hb12⟩
            have HB12 := Lib.hid (HB9.out.trans (hb12.mono HB9.out.size))
            have c12 := cell_later hb12 c9
            refine HK.out _ _ c12 ?_
            clear HK
            refine m_loud rfl (fun K hK => ?_)
            have HK := Lib.hid hK
            clear hK
            go_simp
            refine (HNX.out _ (HL8.out.below HB12.out)).mono ?_
            rintro e w13 ⟨rfl, hb13⟩
            have HB13 := Lib.hid (HB12.out.trans (hb13.mono HB12.out.size))
            have c13 := cell_later hb13 c12
            refine HK.out _ _ c13 ?_
            clear HK
            iterate 10
              first
              | (refine m_take (v := ?_) rfl rfl ?_ ?_
                 rotate_left
                 · intro W hW
                   go_simp
                   with_reducible rfl
                 simp only [Act.put, List.setIfInBounds_toArray, List.set_cons_zero, List.set_cons_succ])
              | (refine m_skip rfl rfl ?_
                 simp only [Act.put, List.setIfInBounds_toArray, List.set_cons_zero, List.set_cons_succ])
            refine m_loud rfl (fun K hK => ?_)
            have HK := Lib.hid hK
            clear hK
            go_simp
            refine (same_calls _ _ FO FO _ (HW8.out.below HB13.out).1 (HN8.out.below HB13.out).1).mono ?_
            rintro e w14 ⟨rfl, rfl⟩
            rw [show (FO == FO) = true from by simp]
            refine HK.out _ _ c13 ?_
            clear HK
            iterate 2
              first
              | (refine m_take (v := ?_) rfl rfl ?_ ?_
                 rotate_left
                 · intro W hW
                   go_simp
                   with_reducible rfl
                 simp only [Act.put, List.setIfInBounds_toArray, List.set_cons_zero, List.set_cons_succ])
              | (refine m_skip rfl rfl ?_
                 simp only [Act.put, List.setIfInBounds_toArray, List.set_cons_zero, List.set_cons_succ])
            refine m_done ?_
            simp only [List.drop_succ_cons, List.drop_zero]
            have HL13 := Lib.hid (HLD8.out.below HB13.out)
            have HK13 := Lib.hid (show w14.heap[kc]? = some (.cells #[lv] 22) ∧ Fr.MineL w14 YS lv E from ⟨(HB13.out.block kc (Array.getElem?_eq_some_iff.1 HK8.out.2.1).1).trans HK8.out.2.1, HK8.out.2.2.below HB13.out (Nat.le_refl _)⟩)
            have HDD13 := Lib.hid (show w14.heap[DD]? = some (.deferred (some [])) from (HB13.out.block DD (Array.getElem?_eq_some_iff.1 HDD8.out).1).trans HDD8.out)
            have HBE := Lib.hid (HB8.out.trans (HB13.out.mono HB8.out.size))
            have HRE2 := Lib.hid (HR8.out.below HB13.out)
            have hs13 := HB13.out.size
            clear hb9 c9 hb12 c12 hb13 c13 c8 HB9 HB12 HB13 HW8 HN8 HL8 HK8 HDD8 HB8 HR8 HLD8
            go_wp2_with fail
            simp only [NP]
            gi_wp2_with (gi_at_call 18; refine (lall_calls (some ⟨l2, 0, none⟩) 0 _).mono ?_; rintro e w15 ⟨rfl, rfl⟩)
            obtain ⟨Z, hZ⟩ : ∃ Z, Z = ((w14.alloc (.cells #[.int .i64 0] 3)).alloc (.cells #[.pointer (some ⟨l2, 0, none⟩)] 29)).alloc (.cells #[.int .i64 0] 3) := ⟨_, rfl⟩
            obtain ⟨N, hN⟩ : ∃ N, N = w14.heap.size := ⟨_, rfl⟩
            have hZs : Z.heap.size = N + 3 := by rw [hZ, hN]; simp
            have hbZ : Below w14.heap.size w14 Z := by rw [hZ]; exact (((Below.refl _ _).alloc (Nat.le_refl _) _).alloc (by simp) _).alloc (by simp; omega) _
            have hzn : Z.heap[N]? = some (.cells #[.int .i64 0] 3) := by
              rw [hZ, hN, Below.heap_alloc _ _ _ (by simp; omega), Below.heap_alloc _ _ _ (by simp), World.alloc_heap_new]
            have hzl : Z.cell? ⟨N + 1, 0, none⟩ = some (.pointer (some ⟨l2, 0, none⟩)) := by
              rw [hZ, hN, World.cell?_alloc_past _ _ _ (by simp), World.cell?_alloc_at _ _ _ _ (by simp)]; rfl
            have hzf : Z.cell? ⟨N + 1 + 1, 0, none⟩ = some (.int .i64 (0 : Nat)) := by
              rw [hZ, hN, World.cell?_alloc_at _ _ _ _ (by simp)]; rfl
            have hncell : Z.cell? ⟨N, 0, none⟩ = some (.int .i64 (0 : Nat)) ∧ Z.frozen? ⟨N, 0, none⟩ = false := by
              refine ⟨?_, ?_⟩
              · simp only [World.cell?, hzn]; rfl
              · simp only [World.frozen?, hzn]; simp
            have hnu : ∀ j, j = N → ¬ IsU8 Z j := fun j e hu => by
              subst e; exact absurd ((show TyAt Z j 3 from ⟨_, _, hzn⟩).eq (show TyAt Z j 5 from hu)) (by decide)
            have hfoot : ∀ j, ldFoot l2 L2 D8 j → j < N := fun j hj => by rw [hN]; exact (HL13.out.foot_lt hj).2
            rw [← hZ, ← hN]
            have HLZ := Lib.hid (HL13.out.below hbZ)
            have HBZ := Lib.hid (HBE.out.trans (hbZ.mono HBE.out.size))
            have HRZ := Lib.hid (HRE2.out.below hbZ)
            have hkN : kc < N := by rw [hN]; exact (Array.getElem?_eq_some_iff.1 HK13.out.1).1
            have hDN : DD < N := by rw [hN]; exact (Array.getElem?_eq_some_iff.1 HDD13.out).1
            have HKZ := Lib.hid (show ∀ W, (∀ j, j < N → W.heap[j]? = Z.heap[j]?) → W.heap[kc]? = some (.cells #[lv] 22) ∧ Fr.MineL W YS lv E ∧ W.heap[DD]? = some (.deferred (some [])) from fun W hW => by
              have hb : ∀ j, j < N → W.heap[j]? = w14.heap[j]? := fun j hj => (hW j hj).trans (hbZ.block j (by rw [← hN]; exact hj))
              exact ⟨(hb kc hkN).trans HK13.out.1, HK13.out.2.blocks (fun j _ hj => hb j (by rw [hN]; exact hj)), (hb DD hDN).trans HDD13.out⟩)
            have HFT2 := Lib.hid (And.intro hfoot hnu)
            have HZL := Lib.hid (And.intro hzl hzf)
            have hwN : w.heap.size ≤ N := by rw [hN]; exact HBE.out.size
            have hrel2 : OJ Z N f E.length (max 0 f, []) Z := ⟨Only.refl _ _, (fun p hp => by cases hp), by rw [Nat.zero_max, Nat.sub_self]; exact hncell.1, hncell.2, ⟨by show f ≤ max 0 f; omega, by show max 0 f ≤ f + E.length; omega⟩⟩
            have hYl : kc + 4 ≤ YS := by omega
            clear hZ hN hbZ hzn hzl hzf hncell hnu hfoot HL13 HBE HRE2 HK13 HDD13 HNX HNX2 HFX HFX2 hb9 hYs HB7 HV7 HSO HYL HFT HLL HFW
            refine range_w (gf := 40) (lb := #[.pointer (some ⟨N + 1, 0, none⟩), .pointer (some ⟨N + 1 + 1, 0, none⟩)]) rfl (fun args w => rep_enter Tryz.func40 (by kernel_rfl) rfl args w)
              (fun s W => OJ Z N f E.length s W) (fun _ _ => False) (LStepT f E Z.heap.size) (fun s => f + E.length ≤ s.1) (max 0 f, [])
              (fun s W W' hc h => h.calm hc) (fun _ _ _ _ h => h) hrel2 ?iter2 ?body2 ?done2 (fun _ _ _ _ h => h.elim)
            case iter2 =>
              intro ly J' Jx' W hm _ hJJ hc hJ0 hy
              refine (lall1_iterW B l2 (N + 1) (N + 1 + 1) f 0 Z.heap.size ly L2 E J' Jx' W (fun i s hs => by rw [← HFE2.out.1]; exact HFN2.out.at_ i s hs) HFE2.out.2 (by omega) (by omega) (by have := HFN2.out.cnt; omega) (by omega) (fun s hs x hx => by have := HFN2.out.small s hs x hx; omega) hm (fun s W2 hj => ?_) hy hJ0).mono ?_
              · obtain ⟨h1, h2, -⟩ := hJJ s W2 hj
                refine ⟨HLZ.out.log.only h1 (fun j hj hf => ?_) (fun j hj => HFT2.out.2 j hj), h1.cell (by omega) HZL.out.1, h1.cell (by omega) HZL.out.2, h1.size, fun p hp => (h2 p hp).1⟩
                have := HFT2.out.1 j (.inl hf); omega
              · rintro e W' ⟨hv, (⟨s, hs, hj⟩ | hj)⟩
                · exact ⟨hv, .inl ⟨s, hs, hj⟩⟩
                · exact ⟨hv, .inr hj⟩
            case body2 =>
              intro ly s args s' W hr hst hsz
              obtain ⟨hs0, hs1, hs2, hs3, v, rfl, hm⟩ := hst
              obtain ⟨q, hq⟩ : ∃ q, E.getD (s.1 - f) [] = q := ⟨_, rfl⟩
              rw [hq] at hm
              obtain ⟨va2, vc2, rfl⟩ := hm.slice
              have HPUT := Lib.hid (fun (W3 : World) (hc : Calm Z.heap.size W W3) => OJ.put (by omega : N < Z.heap.size) hr hs2 hs1 hs3 hc)
              have HKR := Lib.hid hr
              have HM := Lib.hid hm
              refine ⟨rfl, ?_⟩
              clear hr hm hs3 hrel2 hs2
              gi_wp2_with fail
              refine ⟨KeepsOthers.refl _, fun W₂ hc => ?_⟩
              obtain ⟨h1, -, c1, f1, -⟩ := HKR.out.calm hc
              have HEND := Lib.hid (HPUT.out W₂ hc)
              have HM2 := Lib.hid (HM.out.calm hc)
              obtain ⟨k1, ⟨vs, hvs, hel⟩, -⟩ := HKZ.out W₂ (fun j hj => h1.block j (by omega) (by omega))
              obtain ⟨la, lc, rfl⟩ := own_slice hvs
              have hxl : vs.length = E.length := by have := hvs.1; omega
              obtain ⟨u, hu⟩ : ∃ u, vs[s.1 - f]? = some u := ⟨_, List.getElem?_eq_getElem (by omega)⟩
              have hqq : E[s.1 - f]? = some q := by
                rw [← hq, List.getD_eq_getElem?_getD, List.getElem?_eq_getElem (by omega)]; rfl
              have hmu := hel _ _ _ hu hqq
              obtain ⟨ua, uc, rfl⟩ := hmu.slice
              obtain ⟨g, hg, hgc, hgm, hcg⟩ := row_cell hvs _ _ hu
              subst hg
              have HMU := Lib.hid hmu
              have ck : W₂.cell? ⟨kc, 0, none⟩ = some (.slice (some ⟨g, 0, none⟩) E.length lc) := by simp only [World.cell?, k1]; rfl
              obtain ⟨k, hk⟩ : ∃ k, k = s.1 - f := ⟨_, rfl⟩
              rw [← hk] at c1 hcg HEND
              have hkE : k < E.length := by omega
              have hge : decide ((E.length : Int) ≤ (k : Int)) = false := decide_eq_false (by omega)
              have hgn : decide (E.length ≤ k) = false := decide_eq_false (by omega)
              have hngn : ¬ E.length ≤ k := by omega
              have hkc2 : k < lc := by omega
              clear hc h1 k1 hvs hel hxl hu hqq hmu hk hq HPUT HKR HM
              gi_wp2_with fail
              refine (CallsIn.inRound ly (callsIn_wide.2 (same_calls _ _ q q _ HM2.out.bytes HMU.out.bytes))).mono ?_
              rintro e W3 ⟨rfl, rfl⟩
              rw [show (q == q) = true from by simp]
              gi_wp2_with fail
              exact ⟨KeepsOthers.setCell _ _ _, HEND.out⟩
            case done2 =>
              intro DE s W hDE hs hr hK
              obtain ⟨h1, -, c1, -, h5⟩ := hr
              have hse : s.1 - f = E.length := by have := h5.2; omega
              rw [hse] at c1
              obtain ⟨k1, ⟨vs, hvs, -⟩, kD⟩ := HKZ.out W (fun j hj => h1.block j (by omega) (by omega))
              obtain ⟨la, lc, rfl⟩ := own_slice hvs
              have ck : W.cell? ⟨kc, 0, none⟩ = some (.slice la E.length lc) := by simp only [World.cell?, k1]; rfl
              have HRW := Lib.hid (HRZ.out.only h1 (fun j e => by omega))
              have hrc := HRW.out.rcl
              have hrz := HRW.out.rfz
              have HBW := Lib.hid (HBZ.out.trans (h1.below (B := w.heap.size) HBZ.out.size (fun j hj e => by omega)))
              have HKK := Lib.hid (And.intro hK kD)
              have hee : ((E.length : Int) == (E.length : Int)) = true := by simp
              clear h1 h5 hs hse k1 hvs kD hK hrel2
              gi_wp2_with fail
              have hwR := HRE.out
              have k2 : (W.setCell ⟨R, 0, none⟩ (.bool true)).heap[DE]? = some (.deferred (some [])) := (heap_setCell_other W ⟨R, 0, none⟩ DE _ (by simp; omega)).trans HKK.out.1
              have kd : (W.setCell ⟨R, 0, none⟩ (.bool true)).heap[DD]? = some (.deferred (some [])) := (heap_setCell_other W ⟨R, 0, none⟩ DD _ (by simp; omega)).trans HKK.out.2
              refine ⟨by simp, .inl ⟨_, _, rfl, run_takeDeferred k2, ?_⟩⟩
              have k3 : (World.putObj (W.setCell ⟨R, 0, none⟩ (.bool true)) DE (.deferred none)).heap[DD]? = some (.deferred (some [])) := (World.putObj_heap_other (by omega)).trans kd
              refine ⟨by simp, .inl ⟨_, _, rfl, run_takeDeferred k3, ?_⟩⟩
              have hcal := Calm.putObj (B := w.heap.size) (.deferred none) (by omega) k2 rfl
              have hcal2 := Calm.putObj (B := w.heap.size) (.deferred none) (by omega) k3 rfl
              have hcc := hcal2.cell (hcal.cell (cell_set_same (.bool true) hrc))
              refine ⟨.bool true, ?_, rfl, ((HBW.out.setCell (by simp; omega) _).trans hcal.below).trans hcal2.below⟩
              simp [results, Tryz.results5, go_sem, hcc]
        · have hb : rm < 1 ∨ 1048576 < rm := by omega
          gi_wp2_with fail
          refine (callsIn_wide.2 (lopen_arg d ⟨#[108, 111, 103]⟩ rm w3 lognm hb)).mono ?_
          rintro e w4 ⟨rfl, hb4⟩
          have HR4 := Lib.hid (HRC3.out.below hb4)
          have hrc := HR4.out.rcl
          have hrz := HR4.out.rfz
          have HB4 := Lib.hid (HBW3.out.trans (hb4.mono HBW3.out.size))
          clear hb4 HRC3 HBW3
          by_cases hlo : rm < 1
          · have d3 : decide (rm < 1) = true := decide_eq_true hlo
            gi_wp2_with fail
            have hwR := HRE.out
            have hcc := cell_set_same (.bool true) hrc
            refine ⟨.bool true, ?_, rfl, HB4.out.setCell (by simp; omega) _⟩
            simp [results, Tryz.results5, go_sem, hcc]
          · have d3 : decide (rm < 1) = false := decide_eq_false hlo
            have d4 : decide (1048576 < rm) = true := decide_eq_true (by omega)
            gi_wp2_with fail
            have hwR := HRE.out
            have hcc := cell_set_same (.bool true) hrc
            refine ⟨.bool true, ?_, rfl, HB4.out.setCell (by simp; omega) _⟩
            simp [results, Tryz.results5, go_sem, hcc]
end Go.Proofs.YtcckoppbophidaaGreatDoor

/- Layer 6: what a row lays gives the library's variables that Open reads. -/
namespace Go.Proofs.YtcckoppbophidaaGreatDoor
open Go.RowKit Go.Shelf
set_option linter.unusedVariables false
set_option maxRecDepth 100000

theorem row_errString (u : TypeId) (h : Tryz.prog.typeName? 3 u = some "*errors.errorString") : u = 176 :=
  typeName_ptr_named (nm := "errors.errorString") (by rw [show "*" ++ "errors.errorString" = "*errors.errorString" from by decide]; kernel_rfl) (by kernel_rfl) (by decide) u (by rw [show "*" ++ "errors.errorString" = "*errors.errorString" from by decide]; exact h)
theorem tab_eq : (Rows.laid_internal_strconv_uint64pow10 : DataW Unit) = Lib.tabData .u64 Lib.pow10Tab := by kernel_rfl
theorem cell_var {w : World} {n : String} {g : Nat} {v : Value} (hg : Tryz.prog.globalNamed n = some g) (hv : w.var? Tryz.prog n = some #[v]) : w.cell? ⟨g, 0, none⟩ = some v := by
  have h0 := World.var?_cell hg hv 0
  simpa using h0
/-- The row's list, with its head left open. -/
theorem varsIn_of {l : List (String × DataW Unit)} {w : World} {n1 n2 n3 n4 n5 : String} {d1 d2 d3 d4 d5 : DataW Unit} (hl : l = [(n1, d1), (n2, d2), (n3, d3), (n4, d4), (n5, d5)])
    (e3 : d3 = Lib.tabData .u64 Lib.pow10Tab) (e4 : d4 = Rows.laid_strconv_ErrRange) (e5 : d5 = Rows.laid_strconv_ErrSyntax)
    (g3 : Tryz.prog.globalNamed n3 = some 2) (g4 : Tryz.prog.globalNamed n4 = some 1) (g5 : Tryz.prog.globalNamed n5 = some 0)
    (h : laidMet Tryz.prog l w) : VarsIn w := by
  subst hl
  subst e3
  subst e4
  subst e5
  have t3 := h.tail.tail
  have t4 := t3.tail
  have t5 := t4.tail
  have ht := Lib.tabIs_of_head (g := 2) (t := 181) (e := 36) (n := 20) g3 (by kernel_rfl) (by kernel_rfl) (by kernel_rfl) (by kernel_rfl) (by kernel_rfl) t3
  obtain ⟨a4, s4, hv4, -⟩ := laid_sentinel (ti := 101) (tp := 176) (te := 178) (ts := 9) t4 g4 (by kernel_rfl) Tryz.underlying101 row_errString Tryz.underlying176 Tryz.underlying178 rfl rfl Tryz.underlying9 (by kernel_rfl) (by kernel_rfl)
  obtain ⟨a5, s5, hv5, -⟩ := laid_sentinel (ti := 101) (tp := 176) (te := 178) (ts := 9) t5 g5 (by kernel_rfl) Tryz.underlying101 row_errString Tryz.underlying176 Tryz.underlying178 rfl rfl Tryz.underlying9 (by kernel_rfl) (by kernel_rfl)
  refine ⟨⟨_, _, cell_var g5 hv5⟩, ⟨_, _, cell_var g4 hv4⟩, ?_⟩
  unfold Lib.TabIs World.var? at ht
  rw [g3] at ht
  simp only [Option.bind_some] at ht
  split at ht
  · rename_i cs e x he
    simp only [Option.some.injEq] at ht
    exact ⟨e, x, by rw [he, ht]⟩
  · cases ht
theorem varsIn_laid {w : World} (h : laidMetH Tryz.prog Rows.seglogRepairsRow.laid w) : VarsIn w := by
  have h1 := (laidMetH_iff.1 h).1
  rw [show (Rows.seglogRepairsRow.laid.filter fun x => x.2.handleName?.isNone) = Rows.seglogRepairsRow.laid from by kernel_rfl] at h1
  exact varsIn_of (l := Rows.seglogRepairsRow.laid) rfl tab_eq rfl rfl (by kernel_rfl) (by kernel_rfl) (by kernel_rfl) h1
end Go.Proofs.YtcckoppbophidaaGreatDoor
