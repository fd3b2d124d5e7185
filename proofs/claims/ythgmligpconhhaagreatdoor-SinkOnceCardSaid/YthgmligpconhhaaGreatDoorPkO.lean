/- Walks and plain laws of the chapter, laid together; each part says what it proves. -/
import Derived.Test.YthgmligpconhhaaGreatDoorPkB
import Derived.Test.YthgmligpconhhaaGreatDoorPkC
import Derived.Test.YthgmligpconhhaaGreatDoorPkD
import Derived.Test.YthgmligpconhhaaGreatDoorPkE
import Derived.Test.YthgmligpconhhaaGreatDoorPkN
/- Layer 24: a durable log of up to 900 entries, opened again: no call walked. -/
namespace Go.Proofs.YthgmligpconhhaaGreatDoor
open Go.RowKit Go.Shelf
set_option linter.unusedVariables false
set_option linter.unusedSimpArgs false
set_option maxRecDepth 100000

theorem segs_files2 {N : ByteArray} {bs : ByteArray → Option Nat} {l : List Seg} {F : Files} (hF : (F.map (·.1)).Nodup) (h1 : ∀ s ∈ l, (mget F (fnm N s.base)).isSome = true ∧ fileOf F (fnm N s.base) = Fr.FrM.rowOf (s.evs.map Prod.snd)) (h2 : ∀ nm, (mget F nm).isSome = true → ∃ s ∈ l, nm = fnm N s.base)
    (hb : l.Pairwise (fun s t => s.base < t.base)) (hs : ∀ s ∈ l, ∀ x ∈ s.evs, x.2.length ≤ 65536) (hn : ∀ s ∈ l, bs (fnm N s.base) = some s.base) (hz : ∀ s ∈ l, s.size = (Fr.FrM.rowOf (s.evs.map Prod.snd)).length ∧ s.dirty = false) : (l.map Seg.ps).Perm (segF bs F) := by
  have hB : (l.map fun s => fnm N s.base).Nodup := by
    unfold List.Nodup
    rw [List.pairwise_map]
    exact hb.imp (fun h e => by have := fnm_inj e; omega)
  have hp : (F.map (·.1)).Perm (l.map fun s => fnm N s.base) := keys_perm hF hB (fun k => ⟨fun h => by
    obtain ⟨s, hs, e⟩ := h2 k h
    exact List.mem_map.2 ⟨s, hs, e.symm⟩, fun h => by
    obtain ⟨s, hs, e⟩ := List.mem_map.1 h
    rw [← e]
    exact (h1 s hs).1⟩)
  have e1 : segF bs F = (F.map (·.1)).filterMap (fun k => (bs k).map fun n => psOf n (fileOf F k)) := by
    unfold segF
    rw [List.filterMap_map]
    apply fm_congr
    intro f hf
    show (bs f.1).map (fun n => psOf n f.2.2) = (bs f.1).map fun n => psOf n (fileOf F f.1)
    rw [fileOf_mem hF hf]
  have e2 : (l.map fun s => fnm N s.base).filterMap (fun k => (bs k).map fun n => psOf n (fileOf F k)) = l.map Seg.ps := by
    rw [List.filterMap_map, ← List.filterMap_eq_map]
    apply fm_congr
    intro s hsm
    show (bs (fnm N s.base)).map (fun n => psOf n (fileOf F (fnm N s.base))) = some s.ps
    rw [hn s hsm, (h1 s hsm).2]
    show some (psOf s.base (Fr.FrM.rowOf (s.evs.map Prod.snd))) = some s.ps
    rw [psOf_row (fun p hp => by
      obtain ⟨x, hx, rfl⟩ := List.mem_map.1 hp
      exact hs s hsm x hx)]
    unfold Seg.ps
    rw [(hz s hsm).1, (hz s hsm).2]
  rw [e1, ← e2]
  exact (hp.symm).filterMap _
/-- What Open asks of the files behind a crash. -/
theorem GS.open2 {L : Lg} {D : Dk} {E : List (List UInt8)} (h : GS L D) (hg : GL L D 0 E) (hn : E.length ≤ 1000000) (hd : (D.dur.map (·.1)).Nodup) (nb : Nat) :
    (L.segs.map Seg.ps).Perm (segF (baseOf L.name) (crD D nb).now) ∧ (L.segs.map Seg.ps).Pairwise (fun p q => p.base < q.base) ∧ (∀ (i : Nat) (p q : PS), (L.segs.map Seg.ps)[i]? = some p → (L.segs.map Seg.ps)[i + 1]? = some q → q.base = p.base + p.ents.length) ∧ (∀ p ∈ L.segs.map Seg.ps, p.dirty = false) ∧ ∀ p ∈ L.segs.map Seg.ps, p.base + p.ents.length ≤ 4611686018427387904 := by
  have hz : ∀ s ∈ L.segs, s.size = (Fr.FrM.rowOf (s.evs.map Prod.snd)).length ∧ s.dirty = false := fun s hs => ⟨by rw [← h.txt s hs]; exact (hg.file s hs).2.symm, h.cl s hs⟩
  refine ⟨segs_files2 hd (fun s hs => ?_) (fun nm hnm => ?_) (chain_ord hg.chain) hg.small (fun s hs => baseOf_fnm _ (by have := hg.mem s hs; omega)) hz, ?_, fun i p q hp hq => ?_, fun p hp => ?_, fun p hp => ?_⟩
  · show (mget D.dur (fnm L.name s.base)).isSome = true ∧ fileOf D.dur (fnm L.name s.base) = _
    obtain ⟨e1, e2⟩ := h.same (fnm L.name s.base)
    exact ⟨by rw [e1]; exact (hg.file s hs).1, by rw [e2]; exact h.txt s hs⟩
  · have hnm : (mget D.dur nm).isSome = true := hnm
    rw [(h.same nm).1] at hnm
    exact h.onl nm hnm
  · rw [List.pairwise_map]
    exact chain_ord hg.chain
  · rw [List.getElem?_map] at hp hq
    cases hs : L.segs[i]? with
    | none => rw [hs] at hp; simp at hp
    | some s =>
      cases ht : L.segs[i + 1]? with
      | none => rw [ht] at hq; simp at hq
      | some t =>
        rw [hs] at hp
        rw [ht] at hq
        simp only [Option.map_some, Option.some.injEq] at hp hq
        subst hp hq
        have := chain_step hg.chain i s t hs ht
        simpa [Seg.ps] using this
  · obtain ⟨s, hs, rfl⟩ := List.mem_map.1 hp
    exact h.cl s hs
  · obtain ⟨s, hs, rfl⟩ := List.mem_map.1 hp
    have := hg.mem s hs
    simp only [Seg.ps, List.length_map]
    omega
/-- What Open asks of a durable disk behind a crash. -/
theorem open_in2 {w : World} {B d nb : Nat} {L : Lg} {D : Dk} {E : List (List UInt8)} {rm : Int} (hd : DiskAt w B d (crD D nb)) (h : GS L D) (hg : GL L D 0 E) (hn : E.length ≤ 1000) (hr : 1 ≤ rm ∧ rm ≤ 1048576) (hv : VarsIn w) (hw : 5 ≤ w.heap.size) : OpenIn w B d (crD D nb) L.name rm (baseOf L.name) := by
  have hdur : (D.dur.map (·.1)).Nodup := hd.kdur
  have hname : ∀ f ∈ D.dur, ∃ s ∈ L.segs, f.1 = fnm L.name s.base := fun f hf => by
    have : (mget D.dur f.1).isSome = true := mget_some.2 (List.mem_map.2 ⟨f, hf, rfl⟩)
    rw [(h.same f.1).1] at this
    exact h.onl _ this
  have hp : (D.dur.map (·.1)).Perm (L.segs.map fun s => fnm L.name s.base) := keys_perm hdur (by
    unfold List.Nodup
    rw [List.pairwise_map]
    exact (chain_ord hg.chain).imp (fun h e => by have := fnm_inj e; omega)) (fun k => by
    rw [(h.same k).1]
    constructor
    · intro hk
      obtain ⟨s, hs, e⟩ := h.onl k hk
      exact List.mem_map.2 ⟨s, hs, e.symm⟩
    · intro hk
      obtain ⟨s, hs, e⟩ := List.mem_map.1 hk
      rw [← e]
      exact (hg.file s hs).1)
  refine openIn_of hd hg.nm hr hv hw (fun f hf => ?_) (fun f hf => ?_) ?_
  · obtain ⟨s, hs, e⟩ := hname f hf
    rw [e, fnm_size]
    have h1 := rightNm_size hg.nm
    have h2 := istr_size s.base (by have := hg.mem s hs; omega)
    omega
  · have h1 := fileOf_mem (m := D.dur) hdur hf
    have h2 := (h.same f.1).2
    have h3 := file_le D.now f.1
    have h4 := hg.used
    rw [← h1, h2]
    omega
  · have h1 := hp.length_eq
    simp only [List.length_map] at h1
    show D.dur.length ≤ 100000
    have := hg.cost
    omega
end Go.Proofs.YthgmligpconhhaaGreatDoor

/- Layer 24: Open behind a crash: the lines are done again; walked. -/
namespace Go.Proofs.YthgmligpconhhaaGreatDoor
open Go.RowKit Go.Shelf
set_option linter.unusedVariables false
set_option linter.unusedSimpArgs false
set_option maxRecDepth 100000
attribute [local go_sem] Oper.semAt_some

theorem Only.calm {S : Nat → Prop} {Y W W' : World} (h : Only S Y W) (hc : Calm Y.heap.size W W') : Only S Y W' :=
  ⟨hc.os.trans h.os, hc.tape.trans h.tape, hc.output.trans h.output, Nat.le_trans h.size hc.size, fun k hk hs => (hc.block k hk).trans (h.block k hk hs)⟩
theorem SkAt.calm {w w' : World} {B C s : Nat} {S : Sk} (h : SkAt w B s S) (hc : Calm C w w') : SkAt w' B s S :=
  ⟨ownsRow_calm h.box hc, ownsRow_calm h.erow hc, fun x hx => ownsRow_calm (h.eps x hx) hc, ownsRow_calm h.grow hc, ownsRow_calm h.prow hc, h.gap⟩
theorem KeepsOthers.of_only {T : Nat → Prop} {W W' : World} (ho : Only T W W') (h : ∀ j, T j → ∃ e, TyAt W j e) : KeepsOthers W W' :=
  ⟨ho.size, fun k o hk hno => (ho.block k (Array.getElem?_eq_some_iff.1 hk).1 (fun hS => by
    obtain ⟨e, cs, x, hc⟩ := h k hS
    rw [hk] at hc
    cases hc
    cases hno)).trans hk⟩
/-- The lines done so far. -/
def RJ (Y : World) (B T l : Nat) (xs : List Ln) (s : LSt) (W : World) : Prop :=
  Only (fun j => j = T) Y W ∧ (∀ p ∈ s.2, W.heap[p.1]? = some p.2 ∧ ∃ cs x, p.2 = .cells cs 94 x) ∧ s.1 ≤ xs.length ∧ ∃ S : Sk, SkAt W B T S ∧ S.l = l ∧ S.broken = false ∧ play SM.new (xs.take s.1) = some S.m ∧ ∀ j, S.foot T j → j = T ∨ Y.heap.size ≤ j
theorem RJ.calm {Y W W' : World} {B T l : Nat} {xs : List Ln} {s : LSt} (h : RJ Y B T l xs s W) (hc : Calm Y.heap.size W W') : RJ Y B T l xs s W' := by
  obtain ⟨h1, h2, h3, S, h4, h5, h6, h7, h8⟩ := h
  exact ⟨h1.calm hc, fun p hp => ⟨hc.cells _ _ (h2 p hp).1 (by obtain ⟨cs, x, e⟩ := (h2 p hp).2; rw [e]; rfl), (h2 p hp).2⟩, h3, S, h4.calm hc, h5, h6, h7, h8⟩
/-- One more line. -/
theorem RJ.step {Y W2 W3 : World} {B T l : Nat} {xs : List Ln} {s s' : LSt} {S : Sk} {M' : SM} (h1 : Only (fun j => j = T) Y W2) (h2 : ∃ c o, s'.2 = [(c, o)] ∧ W2.heap[c]? = some o ∧ (∃ cs x, o = .cells cs 94 x) ∧ Y.heap.size ≤ c)
    (hs : s.1 < xs.length) (hs' : s'.1 = s.1 + 1) (hk : SkAt W2 B T S) (hl : S.l = l) (hb : S.broken = false) (hf : ∀ j, S.foot T j → j = T ∨ Y.heap.size ≤ j) (hp : play SM.new (xs.take (s.1 + 1)) = some M') (hd : DoneBy W2 W3 B T S M') : RJ Y B T l xs s' W3 := by
  obtain ⟨S', k1, k2, k3, k4, k5, k6⟩ := hd
  refine ⟨h1.trans k5 (fun j hj e => (hf j e).resolve_right (by omega)), fun p hp2 => ?_, by omega, S', k1, k3.trans hl, k4.trans hb, by rw [hs', k2]; exact hp, fun j hj => ?_⟩
  · obtain ⟨c, o, e, hc, ⟨cs, x, e2⟩, hcb⟩ := h2
    rw [e] at hp2
    obtain rfl := List.mem_singleton.1 hp2
    refine ⟨(k5.block c (Array.getElem?_eq_some_iff.1 hc).1 (fun hS => ?_)).trans hc, cs, x, e2⟩
    obtain ⟨e', he, ht⟩ := hk.foot_ty hS
    have := ht.eq (show TyAt W2 c 94 from ⟨cs, x, by rw [hc, e2]⟩)
    subst this
    rcases he with he | he | he <;> exact absurd he (by decide)
  · rcases k6 j hj with e | e
    · exact hf j e
    · exact .inr (Nat.le_trans h1.size e)
set_option maxHeartbeats 4000000 in
theorem sopen_back (B d nb : Nat) (L : Lg) (D : Dk) (xs : List Ln) (M : SM) (w : World) (h : DiskAt w B d (crD D nb)) (hgs : GS L D) (hgl : GL L D 0 (xs.map Ln.enc)) (hkn : (D.now.map (·.1)).Nodup) (hkd : (D.dur.map (·.1)).Nodup) (hLn : L.name = snm) (hLr : L.room = 65536) (hpl : play SM.new xs = some M) (hok : ∀ x ∈ xs, x.ok) (hn : xs.length ≤ 900) (hv : VarsIn w) (h5 : 5 ≤ B) (hB : B ≤ w.heap.size) :
    Calls Tryz.prog 8 #[.pointer (some ⟨d, 0, none⟩)] w fun e w' => ∃ (s : Nat) (S : Sk) (L' : Lg), e = .returned (.tuple #[.pointer (some ⟨s, 0, none⟩), .int .i64 0]) ∧ SD w' B s S L' (crD D nb) ∧ S.m = M ∧ SG S L' (crD D nb) xs ∧ L'.d = d ∧ L'.name = snm ∧ L'.room = 65536 ∧ Only ((crD D nb).foot d) w w' ∧ (∀ j, skFoot s S L' (crD D nb) j → (crD D nb).foot d j ∨ w.heap.size ≤ j) := by
  have HD := Lib.hid h
  have HGS := Lib.hid hgs
  have HGL := Lib.hid hgl
  have HKN := Lib.hid (And.intro hkn hkd)
  have HLN := Lib.hid (And.intro hLn hLr)
  have HPL := Lib.hid hpl
  have HOK := Lib.hid hok
  have HV := Lib.hid hv
  have hEl : (xs.map Ln.enc).length = xs.length := List.length_map ..
  have HEL := Lib.hid hEl
  clear h hgs hgl hkn hkd hLn hLr hpl hok hv hEl
  refine (callsIn_wide (n := 0)).1 ?_
  refine callsIn_of_wp_marks Tryz.func8 rfl trivial ?_
  simp only [Tryz.ntmps8, List.size_toArray, List.length_cons, List.length_nil, Nat.reduceAdd, Nat.reduceSub, Array.replicate_succ, Array.replicate_zero, List.push_toArray, List.append_toArray, List.nil_append, List.cons_append]
  have hb2 : Below w.heap.size w ((w.alloc (.cells #[.pointer none] 29)).alloc (.cells #[.int .i64 0] 26)) := ((Below.refl _ _).alloc (Nat.le_refl _) _).alloc (by simp) _
  have rc0 : ((w.alloc (.cells #[.pointer none] 29)).alloc (.cells #[.int .i64 0] 26)).cell? ⟨w.heap.size, 0, none⟩ = some (.pointer none) ∧ ((w.alloc (.cells #[.pointer none] 29)).alloc (.cells #[.int .i64 0] 26)).frozen? ⟨w.heap.size, 0, none⟩ = false := by
    refine ⟨?_, ?_⟩
    · rw [World.cell?_alloc_past _ _ _ (by simp), World.cell?_alloc_at _ _ _ _ rfl]; rfl
    · rw [World.frozen?_alloc_past _ _ _ (by simp), World.frozen?_alloc_at _ _ _ _ rfl]
  have rc1 : ((w.alloc (.cells #[.pointer none] 29)).alloc (.cells #[.int .i64 0] 26)).cell? ⟨w.heap.size + 1, 0, none⟩ = some (.int .i64 0) ∧ ((w.alloc (.cells #[.pointer none] 29)).alloc (.cells #[.int .i64 0] 26)).frozen? ⟨w.heap.size + 1, 0, none⟩ = false := by
    refine ⟨?_, ?_⟩
    · rw [World.cell?_alloc_at _ _ _ _ (by simp)]; rfl
    · rw [World.frozen?_alloc_at _ _ _ _ (by simp)]
  have rt0 : TyAt ((w.alloc (.cells #[.pointer none] 29)).alloc (.cells #[.int .i64 0] 26)) w.heap.size 29 := ⟨_, _, (Below.heap_alloc _ _ _ (by simp)).trans (World.alloc_heap_new w _)⟩
  have rt1 : TyAt ((w.alloc (.cells #[.pointer none] 29)).alloc (.cells #[.int .i64 0] 26)) (w.heap.size + 1) 26 := ⟨_, _, by have := World.alloc_heap_new (w.alloc (.cells #[.pointer none] 29)) (.cells #[.int .i64 0] 26); rwa [World.size_alloc] at this⟩
  obtain ⟨W2, hW2⟩ : ∃ W2, W2 = (w.alloc (.cells #[.pointer none] 29)).alloc (.cells #[.int .i64 0] 26) := ⟨_, rfl⟩
  have hs2 : W2.heap.size = w.heap.size + 2 := by rw [hW2]; simp
  rw [← hW2] at rc0 rc1 rt0 rt1 hb2
  have HRT := Lib.hid (And.intro rt0 rt1)
  have HRC := Lib.hid (And.intro rc0 rc1)
  have HW2 := Lib.hid hW2
  have HS2 := Lib.hid hs2
  clear rc0 rc1 rt0 rt1 hW2 hs2
  have HD2 := Lib.hid (HD.out.below hb2)
  have hop := HGS.out.open2 HGL.out (by rw [HEL.out]; omega) HKN.out.2 nb
  have hoi := open_in2 (rm := 65536) HD2.out HGS.out HGL.out (by rw [HEL.out]; omega) (by omega) (HV.out.below hb2 (by omega)) (by have := hb2.size; omega)
  rw [HLN.out.1] at hop hoi
  have HB2 := Lib.hid hb2
  clear hb2
  gi_wp2_with (gi_at_call 18; rw [← HW2.out]; refine (callsIn_wide.2 (lopen_good d B (crD D nb) snm 65536 (baseOf snm) (L.segs.map Seg.ps) W2 hoi hop.1 hop.2.1 hop.2.2.1 hop.2.2.2.1 hop.2.2.2.2)).mono ?_; rintro e w3 ⟨l, L', rfl, hl, hld, hon, hfo, hLd, hLn, hLr, hLb, hps⟩; have HON := Lib.hid hon; have HFO := Lib.hid hfo; have HLL := Lib.hid hl; have HLD := Lib.hid hld; have HLS := Lib.hid (And.intro hLd (And.intro hLn (And.intro hLr (And.intro hLb hps)))); clear hon hfo hl hld hLd hLn hLr hLb hps hoi hop)
  gi_wp2_with (gi_at_call 19; refine (lall_calls (some ⟨l, 0, none⟩) 0 _).mono ?_; rintro e w4 ⟨rfl, rfl⟩)
  obtain ⟨T, hT⟩ : ∃ T, T = w3.heap.size := ⟨_, rfl⟩
  have hsk := SkAt.new (l := l) (B := B) (w := w3) (by have := HON.out.size; have := HS2.out; omega)
  obtain ⟨X, hX⟩ : ∃ X, X = w3.alloc (.cells #[.pointer (some ⟨l, 0, none⟩), .bool false, .int .i64 0, .slice none 0 0, .slice none 0 0, .slice none 0 0, .bool false] 59) := ⟨_, rfl⟩
  have hXs : X.heap.size = T + 1 := by rw [hX, hT]; simp
  have hbX : Below w3.heap.size w3 X := by rw [hX]; exact below_alloc _ _
  rw [← hX] at hsk
  obtain ⟨Y, hY⟩ : ∃ Y, Y = ((X.alloc (.cells #[.pointer (some ⟨w3.heap.size, 0, none⟩)] 29)).alloc (.cells #[.pointer (some ⟨l, 0, none⟩)] 55)).alloc (.cells #[.int .i64 0] 3) := ⟨_, rfl⟩
  have hYs : Y.heap.size = T + 4 := by rw [hY]; simp [hXs]
  have hbY : Below X.heap.size X Y := by rw [hY]; exact (((Below.refl _ _).alloc (Nat.le_refl _) _).alloc (by simp) _).alloc (by simp; omega) _
  have hys : Y.cell? ⟨T + 1, 0, none⟩ = some (.pointer (some ⟨T, 0, none⟩)) := by
    rw [hY, ← hXs, World.cell?_alloc_past _ _ _ (by simp; omega), World.cell?_alloc_past _ _ _ (by simp), World.cell?_alloc_at _ _ _ _ rfl, hT]; rfl
  have hyl : Y.cell? ⟨T + 2, 0, none⟩ = some (.pointer (some ⟨l, 0, none⟩)) := by
    rw [hY, show T + 2 = X.heap.size + 1 by omega, World.cell?_alloc_past _ _ _ (by simp), World.cell?_alloc_at _ _ _ _ (by simp)]; rfl
  have hyf : Y.cell? ⟨T + 3, 0, none⟩ = some (.int .i64 (0 : Nat)) := by
    rw [hY, show T + 3 = X.heap.size + 2 by omega, World.cell?_alloc_at _ _ _ _ (by simp)]; rfl
  obtain ⟨r0, hr0⟩ : ∃ r, r = w.heap.size := ⟨_, rfl⟩
  obtain ⟨r1, hr1⟩ : ∃ r, r = r0 + 1 := ⟨_, rfl⟩
  have hbY3 : Below w3.heap.size w3 Y := hbX.trans (hbY.mono hbX.size)
  have hf0 : ¬ (crD D nb).foot d w.heap.size := fun hf => by have := (HD.out.foot_lt hf).2; omega
  have hf1 : ¬ (crD D nb).foot d (w.heap.size + 1) := fun hf => by have := (HD.out.foot_lt hf).2; omega
  have HRC2 := Lib.hid (show (Y.cell? ⟨r0, 0, none⟩ = some (.pointer none) ∧ Y.frozen? ⟨r0, 0, none⟩ = false) ∧ (Y.cell? ⟨r1, 0, none⟩ = some (.int .i64 0) ∧ Y.frozen? ⟨r1, 0, none⟩ = false) from by
    have hs2 := HS2.out
    obtain ⟨⟨a1, a2⟩, a3, a4⟩ := HRC.out
    rw [hr1, hr0]
    have b1 := HON.out.cell (b := w.heap.size) (o := 0) hf0 a1
    have b3 := HON.out.cell (b := w.heap.size + 1) (o := 0) hf1 a3
    have b2 := (HON.out.frozen (b := w.heap.size) (o := 0) (by omega) hf0).trans a2
    have b4 := (HON.out.frozen (b := w.heap.size + 1) (o := 0) (by omega) hf1).trans a4
    exact ⟨⟨cell_later hbY3 b1, frozen_later hbY3 b1 b2⟩, cell_later hbY3 b3, frozen_later hbY3 b3 b4⟩)
  have HRT2 := Lib.hid (show TyAt Y r0 29 ∧ TyAt Y r1 26 from by
    have hs2 := HS2.out
    obtain ⟨⟨c0, x0, e0⟩, c1, x1, e1⟩ := HRT.out
    rw [hr1, hr0]
    have g0 := (HON.out.block _ (by omega) hf0).trans e0
    have g1 := (HON.out.block _ (by omega) hf1).trans e1
    exact ⟨⟨c0, x0, (hbY3.block _ (Array.getElem?_eq_some_iff.1 g0).1).trans g0⟩, c1, x1, (hbY3.block _ (Array.getElem?_eq_some_iff.1 g1).1).trans g1⟩)
  rw [← hX, ← hY, ← hT]
  rw [← hr0]
  rw [← hr1]
  have HR0 := Lib.hid hr0
  have HR1 := Lib.hid hr1
  have HR2 := Lib.hid (show r1 < T by have := HON.out.size; have := HS2.out; omega)
  clear hr1 hr0 hf0 hf1
  have hskY : SkAt Y B T (newS l) := by rw [hT]; exact hsk.below hbY
  have HSK := Lib.hid hskY
  have HLDY := Lib.hid (HLD.out.below hbY3)
  have HBY := Lib.hid hbY3
  have HYL := Lib.hid hyl
  have HYF := Lib.hid hyf
  have HYS := Lib.hid hys
  have HT := Lib.hid hT
  have HYN := Lib.hid hYs
  obtain ⟨tb, htb⟩ : ∃ tb, tb = T + 1 := ⟨_, rfl⟩
  rw [← htb] at HYS ⊢
  rw [show T + 2 = tb + 1 by omega] at HYL
  rw [show T + 3 = tb + 1 + 1 by omega] at HYF
  have HTB := Lib.hid htb
  obtain ⟨hg4, hgs4, hdm4⟩ := HGS.out.again HGL.out HKN.out.1 HKN.out.2 nb (HLS.out.2.1.trans HLN.out.1.symm) HLS.out.2.2.2.1 (HLS.out.2.2.1.trans HLN.out.2.symm) HLS.out.2.2.2.2
  have HG4 := Lib.hid hg4
  have HGS4 := Lib.hid (And.intro hgs4 hdm4)
  clear hbX hbY hbY3 hsk hX hY hys hyl hyf htb hT hXs hYs hskY hg4 hgs4 hdm4
  have hft : ∀ j, (newS l).foot T j → j = T ∨ Y.heap.size ≤ j := by
    rintro j (e | e | e | e | ⟨x, hx, -⟩)
    · exact .inl e
    · simp [newS, Value.ownBlock] at e
    · simp [newS, Value.ownBlock] at e
    · simp [newS, Value.ownBlock] at e
    · simp [newS] at hx
  have hrel0 : RJ Y B T l xs (0, []) Y := ⟨Only.refl _ _, (fun p hp => by cases hp), Nat.zero_le _, newS l, HSK.out, rfl, rfl, (by rw [List.take_zero]; rfl), hft⟩
  refine range_w (σ := LSt) (gf := 41) (lb := #[.pointer (some ⟨tb + 1, 0, none⟩), .pointer (some ⟨tb + 1 + 1, 0, none⟩)]) rfl (fun args w => disk_enter Tryz.func41 (by kernel_rfl) rfl args w)
    (fun s W => RJ Y B T l xs s W) (fun _ _ => False) (LStepT 0 (xs.map Ln.enc) Y.heap.size) (fun s => xs.length ≤ s.1) (0, [])
    (fun s W W' hc h => h.calm hc) (fun _ _ _ _ h => h) hrel0 ?iter ?body ?done (fun _ _ _ _ h => h.elim)
  case iter =>
    intro ly J' Jx' W hm _ hJJ hc hJ0 hy
    refine (lall1_iterW B l (tb + 1) (tb + 1 + 1) 0 0 Y.heap.size ly L' (xs.map Ln.enc) J' Jx' W (fun i s hs => by
      have hil := (List.getElem?_eq_some_iff.1 hs).1
      have hS := (List.getElem?_eq_some_iff.1 hs).2
      have h := HG4.out.chain
      rw [← List.take_append_drop i L'.segs, chain_app, List.drop_eq_getElem_cons hil, hS] at h
      exact h.2.1) HG4.out.ents (by rw [HEL.out]; omega) (by rw [HEL.out]; omega) (by have := HG4.out.cost; rw [HEL.out] at this; omega) (by omega) (fun s hs x hx => by have := HG4.out.small s hs x hx; omega) hm (fun s W2 hj => ?_) hy hJ0).mono ?_
    · obtain ⟨h1, h2, -⟩ := hJJ s W2 hj
      have hn1 : ¬ tb + 1 = T := by have := HTB.out; omega
      have hn2 : ¬ tb + 1 + 1 = T := by have := HTB.out; omega
      have htT : TyAt Y T 59 := own_ty HSK.out.box rfl
      refine ⟨HLDY.out.log.only h1 (fun j hj hf => ?_) (fun j hj hu => ?_), h1.cell hn1 HYL.out, h1.cell hn2 HYF.out, h1.size, fun p hp => (h2 p hp).1⟩
      · subst hj
        exact HLDY.out.foot_not (.inl hf) (skTy_not (.inl rfl)) htT
      · subst hj
        exact absurd ((show TyAt Y j 5 from hu).eq htT) (by decide)
    · rintro e W' ⟨hv, (⟨s, hs, hj⟩ | hj)⟩
      · exact ⟨hv, .inl ⟨s, by simpa using hs, hj⟩⟩
      · exact ⟨hv, .inr hj⟩
  case body =>
    intro ly s args s' W hr hst hsz
    obtain ⟨-, hs1, hs2, hs3, v, rfl, hm⟩ := hst
    have hsl : s.1 < xs.length := by simpa using hs1
    obtain ⟨va, vc, hvv⟩ := hm.slice
    subst hvv
    have hE : (xs.map Ln.enc).getD (s.1 - 0) [] = xs[s.1].enc := by
      rw [Nat.sub_zero, List.getD_eq_getElem?_getD, List.getElem?_map, List.getElem?_eq_getElem hsl]
      rfl
    rw [hE] at hm
    refine ⟨rfl, ?_⟩
    have HR := Lib.hid hr
    have HM := Lib.hid hm
    have HS := Lib.hid (And.intro hs2 hs3)
    have HX := Lib.hid (HOK.out xs[s.1] (List.getElem_mem hsl))
    have HPT := Lib.hid (play_take HPL.out s.1 hsl)
    clear hr hm hs2 hs3 hrel0 hs1 hE hft
    gi_wp2_with fail
    refine ⟨KeepsOthers.refl _, fun W₂ hc => ?_⟩
    obtain ⟨k1, -, -, S, k4, k5, k6, k7, k8⟩ := HR.out.calm hc
    obtain ⟨Mi, Mj, p1, p2, p3⟩ := HPT.out
    obtain rfl : Mi = S.m := Option.some.inj (p1.symm.trans k7)
    have hle := play_le (M := SM.new) (n := 0) ⟨by simp [SM.new], by simp [SM.new], by simp [SM.new], fun e he => by simp [SM.new] at he⟩ (fun y hy => HOK.out y (List.mem_of_mem_take hy)) k7
    have htl : (xs.take s.1).length ≤ 900 := by rw [List.length_take]; omega
    have hg1 : S.gath.length ≤ 1000000 := by have := hle.2.1; have e : S.m.gath.length = S.gath.length := rfl; omega
    have hg2 : S.eps.length ≤ 1000000 := by have := hle.1; have e : S.m.eps.length = S.eps.length := by simp [Sk.m]
                                            omega
    have ctb := k1.cell (b := tb) (o := 0) (by have := HTB.out; omega) HYS.out
    have HLC := Lib.hid (line_calls B T S xs[s.1] Mj _ W₂ k4 (HM.out.calm hc).bytes HX.out p2 hg1 hg2)
    have HK := Lib.hid (And.intro k1 (And.intro k4 (And.intro k5 (And.intro k6 k8))))
    have HP3 := Lib.hid p3
    have HS2 := Lib.hid (show ∃ c o, s'.2 = [(c, o)] ∧ W₂.heap[c]? = some o ∧ (∃ cs x, o = .cells cs 94 x) ∧ Y.heap.size ≤ c from by
      obtain ⟨c, o, e1, e2, e3, e4⟩ := HS.out.2
      exact ⟨c, o, e1, hc.cells _ _ e2 (by obtain ⟨cs, x, e⟩ := e3; rw [e]; rfl), e3, e4⟩)
    clear k1 k4 k5 k6 k7 k8 p1 p2 p3 hle htl hg1 hg2 hc
    gi_wp2_with (gi_at_call 20; refine (callsIn_wide.2 HLC.out).mono ?_; rintro e w9 ⟨rfl, hdone⟩; have HDN := Lib.hid hdone; clear hdone)
    have hon : Only (S.foot T) W₂ w9 := by obtain ⟨S', -, -, -, -, h5, -⟩ := HDN.out; exact h5
    exact ⟨KeepsOthers.of_only hon (fun j hj => by obtain ⟨e, -, ht⟩ := HK.out.2.1.foot_ty hj; exact ⟨e, ht⟩), RJ.step HK.out.1 HS2.out hsl HS.out.1 HK.out.2.1 HK.out.2.2.1 HK.out.2.2.2.1 HK.out.2.2.2.2 HP3.out HDN.out⟩
  case done =>
    intro D2 s V hD2 hs hr hK2
    obtain ⟨k1, -, k3, S, k4, k5, k6, k7, k8⟩ := hr
    have hse : s.1 = xs.length := by omega
    rw [hse, List.take_length] at k7
    have hM : S.m = M := Option.some.inj (k7.symm.trans HPL.out)
    have ctb := k1.cell (b := tb) (o := 0) (by have := HTB.out; omega) HYS.out
    have htT : TyAt Y T 59 := own_ty HSK.out.box rfl
    have HLDV := Lib.hid (HLDY.out.only k1 (fun j hj hf => by
      subst hj
      exact HLDY.out.foot_not hf (skTy_not (.inl rfl)) htT) (fun j hj hu => by
      subst hj
      exact absurd ((show TyAt Y j 5 from hu).eq htT) (by decide)))
    have HS := Lib.hid (And.intro k4 (And.intro k5 (And.intro k6 (And.intro hM (And.intro k7 k8)))))
    have HON1 := Lib.hid k1
    have HK2 := Lib.hid hK2
    obtain ⟨⟨rc0, rf0⟩, rc1, rf1⟩ := HRC2.out
    have hr2 := HR2.out
    have nT0 : ¬ r0 = T := by have := HR1.out; omega
    have nT1 : ¬ r1 = T := by omega
    have hrY : r0 < Y.heap.size ∧ r1 < Y.heap.size := by have := HR1.out; have := HYN.out; omega
    have rf0 := (k1.frozen (b := r0) (o := 0) (by omega) nT0).trans rf0
    have rf1 := (k1.frozen (b := r1) (o := 0) (by omega) nT1).trans rf1
    have rc0 := k1.cell (b := r0) (o := 0) nT0 rc0
    have rc1 := k1.cell (b := r1) (o := 0) nT1 rc1
    have n01 : ¬ r0 = r1 := by have := HR1.out; omega
    have n10 : ¬ r1 = r0 := by omega
    have hVs := k1.size
    clear k1 k3 k4 k5 k6 k7 k8 hM htT hK2 hrel0 hft hse
    gi_wp2_with fail
    have hr01 := HR1.out
    have hYs := HYN.out
    have hDl : D2 < V.heap.size := (Array.getElem?_eq_some_iff.1 HK2.out).1
    have hrw := HR0.out
    have hws := HON.out.size
    have hs2 := HS2.out
    have hTw := HT.out
    obtain ⟨V3, hV3⟩ : ∃ V3, V3 = (V.setCell ⟨r0, 0, none⟩ (.pointer (some ⟨T, 0, none⟩))).setCell ⟨r1, 0, none⟩ (.int .i64 0) := ⟨_, rfl⟩
    rw [← hV3]
    have k2 : V3.heap[D2]? = some (.deferred (some [])) := by
      rw [hV3, heap_setCell_other _ ⟨r1, 0, none⟩ D2 _ (by simp; omega), heap_setCell_other _ ⟨r0, 0, none⟩ D2 _ (by simp; omega)]
      exact HK2.out
    have hoS : Only (fun j => j = r0 ∨ j = r1 ∨ j = D2) V V3 := by rw [hV3]; exact ((Only.refl _ _).setCell _ _ (.inl (.inl rfl))).setCell _ _ (.inl (.inr (.inl rfl)))
    have ho : Only (fun j => j = D2) V3 (V3.putObj D2 (.deferred none)) := ⟨rfl, rfl, rfl, by simp, fun k hk hs => World.putObj_heap_other (fun e => hs e)⟩
    have hoA := hoS.trans ho (fun j _ e => .inr (.inr e))
    have q0 : (V3.putObj D2 (.deferred none)).cell? ⟨r0, 0, none⟩ = some (.pointer (some ⟨T, 0, none⟩)) := ho.cell (b := r0) (by omega) (by rw [hV3, cell_set_block _ n01]; exact cell_set_same _ rc0)
    have q1 : (V3.putObj D2 (.deferred none)).cell? ⟨r1, 0, none⟩ = some (.int .i64 0) := ho.cell (b := r1) (by omega) (by rw [hV3]; exact cell_set_same _ (by rw [cell_set_block _ n10]; exact rc1))
    have t0 : TyAt V r0 29 := by obtain ⟨⟨c, x, e⟩, -⟩ := HRT2.out; exact ⟨c, x, (HON1.out.block _ (by omega) nT0).trans e⟩
    have t1 : TyAt V r1 26 := by obtain ⟨-, c, x, e⟩ := HRT2.out; exact ⟨c, x, (HON1.out.block _ (by omega) nT1).trans e⟩
    have hnu : ∀ j, (j = r0 ∨ j = r1 ∨ j = D2) → ¬ IsU8 V j := by
      rintro j (rfl | rfl | rfl) hu
      · exact absurd ((show TyAt V _ 5 from hu).eq t0) (by decide)
      · exact absurd ((show TyAt V _ 5 from hu).eq t1) (by decide)
      · obtain ⟨cs, x, hx⟩ := hu
        rw [HK2.out] at hx
        cases hx
    have HSDV : SD V B T S L' (crD D nb) := ⟨HS.out.1, by rw [HS.out.2.1]; exact HLDV.out⟩
    have hnf : ∀ j, (j = r0 ∨ j = r1 ∨ j = D2) → ¬ skFoot T S L' (crD D nb) j := by
      rintro j (rfl | rfl | rfl) hf
      · exact HSDV.foot_not hf ⟨by decide, by decide, fun h => by rcases h with h | h | h | h <;> exact absurd h (by decide)⟩ (fun h => by rcases h with h | h | h <;> exact absurd h (by decide)) t0
      · exact HSDV.foot_not hf ⟨by decide, by decide, fun h => by rcases h with h | h | h | h <;> exact absurd h (by decide)⟩ (fun h => by rcases h with h | h | h <;> exact absurd h (by decide)) t1
      · rcases hf with hf | hf
        · obtain ⟨e, -, cs, x, hx⟩ := HSDV.sk.foot_ty hf
          rw [HK2.out] at hx
          cases hx
        · rw [HS.out.2.1] at hf
          have := (HLDY.out.foot_lt hf).2
          omega
    refine ⟨by simp, .inl ⟨_, _, rfl, run_takeDeferred k2, ?_⟩⟩
    refine ⟨.tuple #[.pointer (some ⟨T, 0, none⟩), .int .i64 0], by simp [results, Tryz.results8, go_sem, q0, q1], T, S, L', rfl, ?_, HS.out.2.2.2.1, ?_, HLS.out.1, HLS.out.2.1, HLS.out.2.2.1, ?_, ?_⟩
    · exact ⟨HSDV.sk.only hoA (fun j hj hf => hnf j hj (.inl hf)), HSDV.ld.only hoA (fun j hj hf => hnf j hj (.inr hf)) hnu⟩
    · exact ⟨HG4.out, HGS4.out.2, HGS4.out.1, by rw [HS.out.2.2.2.1]; exact HPL.out, HOK.out, HS.out.2.2.1⟩
    · have w1 : Only ((crD D nb).foot d) w W2 := Only.of_below HB2.out
      have w2 := w1.trans HON.out (fun j _ e => e)
      have w3' := w2.trans (Only.of_below (S := (crD D nb).foot d) HBY.out) (fun j _ e => e)
      have w4 := w3'.trans HON1.out (fun j hj e => by omega)
      exact w4.trans hoA (fun j hj e => by omega)
    · intro j hf
      rcases hf with hf | hf
      · rcases HS.out.2.2.2.2.2 j hf with e | e
        · right; omega
        · right; omega
      · rw [HS.out.2.1] at hf
        rcases HFO.out j hf with e | e
        · exact .inl e
        · right; omega
end Go.Proofs.YthgmligpconhhaaGreatDoor

/- Layer 24: SinkOnce: the plain law; what was committed, kept beside the sink. -/
namespace Go.Proofs.YthgmligpconhhaaGreatDoor
open Go.RowKit Go.Shelf
set_option linter.unusedVariables false
set_option linter.unusedSimpArgs false
set_option maxRecDepth 100000

def J64 (n : Int) : Prop := -9223372036854775808 ≤ n ∧ n ≤ 9223372036854775807
theorem hdM_up (M : SM) (g n : Int) : (hdM M g n).gen = (if 0 ≤ g ∧ 0 ≤ n ∧ M.gen < g then g else M.gen) := by unfold hdM; split <;> rfl
/-- A call keeps or raises the generation. -/
def Up (M M' : SM) (g : Int) : Prop := M.gen ≤ M'.gen ∧ (J64 M.gen → J64 g → J64 M'.gen)
theorem Up.hd (M : SM) (g n : Int) {M' : SM} (h : M'.gen = (hdM M g n).gen) : Up M M' g := by
  unfold Up
  rw [h, hdM_up]
  split
  · exact ⟨by omega, fun _ h => h⟩
  · exact ⟨by omega, fun h _ => h⟩
theorem Up.trans {M M' M'' : SM} {g : Int} (h : Up M M' g) (k : Up M' M'' g) : Up M M'' g := ⟨Int.le_trans h.1 k.1, fun a b => k.2 (h.2 a b) b⟩
theorem pr_once (M : SM) (g n : Int) (out : List Pr) : (prM M g n out).eps = M.eps ∧ Up M (prM M g n out) g ∧ (prE M g n out = 0 → (prM M g n out).pairs = out) ∧ (prE M g n out ≠ 0 → (prM M g n out).pairs = M.pairs ∧ (prM M g n out).prep = M.prep) := by
  have hs := hdM_same M g n
  refine ⟨by unfold prM; split <;> exact hs.1, Up.hd M g n (by unfold prM; split <;> rfl), fun h => ?_, fun h => ?_⟩
  · unfold prM
    rw [if_pos]
    unfold prE at h
    split at h
    · contradiction
    · rename_i h0
      split at h
      · omega
      · rename_i h1
        split at h
        · omega
        · rename_i h2
          split at h
          · omega
          · rename_i h3
            exact ⟨by simpa using h0, by simpa using h1, by omega, by simpa using h3⟩
  · unfold prM
    rw [if_neg]
    · exact ⟨hs.2.2.1, hs.2.2.2⟩
    · rintro ⟨h0, h1, h2, h3⟩
      apply h
      unfold prE
      rw [if_neg (by simpa using h0), if_neg (by simpa using h1), if_neg (by omega), if_neg (by simpa using h3)]
theorem ab_once (M : SM) (g n : Int) : (abM M g n).eps = M.eps ∧ Up M (abM M g n) g ∧ ((abM M g n).prep = true → M.prep = true ∧ (abM M g n).pairs = M.pairs) := by
  have hs := hdM_same M g n
  refine ⟨by unfold abM; split <;> exact hs.1, Up.hd M g n (by unfold abM; split <;> rfl), ?_⟩
  unfold abM
  split
  · intro h; cases h
  · intro h
    exact ⟨by rw [← hs.2.2.2]; exact h, hs.2.2.1⟩
theorem cm_once (M : SM) (g n : Int) : Up M (cmM M g n) g ∧ (((cmM M g n).eps = M.eps ∧ (cmM M g n).pairs = M.pairs ∧ (cmM M g n).prep = M.prep ∧ (n = M.eps.length → M.prep = true → hdE M g n ≠ 0)) ∨ ((cmM M g n).eps = M.eps ++ [M.pairs] ∧ M.prep = true ∧ (cmM M g n).prep = false ∧ n = M.eps.length)) := by
  have hs := hdM_same M g n
  refine ⟨Up.hd M g n (by unfold cmM; split <;> rfl), ?_⟩
  unfold cmM
  split
  · rename_i h
    exact .inr ⟨rfl, h.2.2, rfl, h.2.1⟩
  · rename_i h
    exact .inl ⟨hs.1, hs.2.2.1, hs.2.2.2, fun h1 h2 h3 => h ⟨h3, h1, h2⟩⟩
/-- A commit, twice. -/
theorem cm2_once (M : SM) (g : Int) (n : Nat) (hn : n = M.eps.length) : Up M (cmM (cmM M g n) g n) g ∧ (((cmM (cmM M g n) g n).eps = M.eps ∧ (cmM (cmM M g n) g n).pairs = M.pairs ∧ (cmM (cmM M g n) g n).prep = M.prep) ∨ ((cmM (cmM M g n) g n).eps = M.eps ++ [M.pairs] ∧ M.prep = true ∧ (cmM (cmM M g n) g n).prep = false)) := by
  obtain ⟨u1, h1⟩ := cm_once M g n
  obtain ⟨u2, h2⟩ := cm_once (cmM M g n) g n
  refine ⟨u1.trans u2, ?_⟩
  rcases h1 with ⟨a1, a2, a3, a4⟩ | ⟨a1, a2, a3, a4⟩
  · rcases h2 with ⟨b1, b2, b3, b4⟩ | ⟨b1, b2, b3, b4⟩
    · exact .inl ⟨b1.trans a1, b2.trans a2, b3.trans a3⟩
    · exact .inr ⟨by rw [b1, a1, a2], by rw [← a3]; exact b2, b3⟩
  · rcases h2 with ⟨b1, b2, b3, b4⟩ | ⟨b1, b2, b3, b4⟩
    · exact .inr ⟨b1.trans a1, a2, by rw [b3, a3]⟩
    · rw [a1, List.length_append] at b4
      simp at b4
      omega

/-! ### What was committed -/
structure Was (w : World) (b : Nat) (wv : Value) (es : List (Value × List Pr)) : Prop where
  row : w.ownsRow b 23 1 wv es.length (es.map Prod.fst)
  els : ∀ x ∈ es, PRow w b x.1 x.2
def wasFoot (wv : Value) (es : List (Value × List Pr)) (j : Nat) : Prop := wv.ownBlock = some j ∨ ∃ x ∈ es, x.1.ownBlock = some j
theorem Was.nil (w : World) (b : Nat) : Was w b (.slice none 0 0) [] := ⟨World.ownsRow_nil _ _ _ _, fun x hx => by cases hx⟩
theorem Was.lt {w : World} {b : Nat} {wv : Value} {es : List (Value × List Pr)} (h : Was w b wv es) {j : Nat} (hj : wasFoot wv es j) : b ≤ j ∧ j < w.heap.size := by
  rcases hj with hj | ⟨x, hx, hj⟩
  · exact World.ownsRow.lt h.row j hj
  · exact (h.els x hx).lt hj
theorem Was.only {T : Nat → Prop} {w w' : World} {b : Nat} {wv : Value} {es : List (Value × List Pr)} (h : Was w b wv es) (ho : Only T w w') (hT : ∀ j, T j → ¬ wasFoot wv es j) : Was w' b wv es :=
  ⟨ownsRow_only h.row ho (fun g hg e => hT g e (.inl hg)), fun x hx => (h.els x hx).only ho (fun g hg e => hT g e (.inr ⟨x, hx, hg⟩))⟩
theorem Was.below {w w' : World} {b : Nat} {wv : Value} {es : List (Value × List Pr)} (h : Was w b wv es) (hb : Below w.heap.size w w') : Was w' b wv es :=
  h.only (Only.of_below (S := fun j => w.heap.size ≤ j) hb) (fun j hj hf => by have := (h.lt hf).2; omega)
theorem Was.push {w w' : World} {b g cap n : Nat} {wv v : Value} {es : List (Value × List Pr)} {l : List Pr} (hn : es.length = n) (h : Was w b wv es) (hv : PRow w b v l) (ho : w'.ownsRow b 23 1 (.slice (some ⟨g, 0, none⟩) (n + 1) cap) (n + 1) (es.map Prod.fst ++ [v])) (hg : w.grownBy w' wv.ownBlock) :
    Was w' b (.slice (some ⟨g, 0, none⟩) (n + 1) cap) (es ++ [(v, l)]) := by
  subst hn
  have hne : ∀ {u : Value} {k : List Pr}, PRow w b u k → PRow w' b u k := fun hu => hu.only (Only.of_grown hg) (fun j hj e => absurd ((hu.ty hj).eq (own_ty h.row e)) (by decide))
  refine ⟨by rw [List.map_append, List.length_append]; exact ho, fun x hx => ?_⟩
  rcases List.mem_append.1 hx with hx | hx
  · exact hne (h.els x hx)
  · rw [List.mem_singleton.1 hx]
    exact hne hv

/-! ### Behind a crash -/
/-- The disk is what it was, but for what a crash undoes. -/
theorem KIn.names {w : World} {B s : Nat} {S : Sk} {L : Lg} {D : Dk} {xs : List Ln} {k : Nat} (h : KIn w B s S L D xs k) : (D.now.map (·.1)).Nodup ∧ (D.dur.map (·.1)).Nodup := ⟨h.sd.ld.disk.know, h.sd.ld.disk.kdur⟩
theorem Rd.head_lt' {w : World} {b o n c : Nat} {es : List Pr} (h : Rd w 2 (.slice (some ⟨b, o, none⟩) n c) es.length (flatF Pr.cells es)) (hn : 0 < es.length) : b < w.heap.size := by
  obtain ⟨b', o', hb, h0, -⟩ := pr_at h 0 hn
  simp only [Option.some.injEq, Addr.mk.injEq, and_true] at hb
  obtain ⟨rfl, rfl⟩ := hb
  obtain ⟨ob, hob, -⟩ := cells_of_cell h0
  exact (Array.getElem?_eq_some_iff.1 hob).1
end Go.Proofs.YthgmligpconhhaaGreatDoor

/- Layer 24: SinkOnce: the state between its steps; no call walked. -/
namespace Go.Proofs.YthgmligpconhhaaGreatDoor
open Go.RowKit Go.Shelf
set_option linter.unusedVariables false
set_option linter.unusedSimpArgs false
set_option maxRecDepth 100000

structure OI (w0 : World) (B d : Nat) (W : World) (s : Nat) (S : Sk) (L : Lg) (D : Dk) (xs : List Ln) (k : Nat) (wv : Value) (es : List (Value × List Pr)) : Prop where
  kin : KIn W B s S L D xs k
  ld : L.d = d
  ln : L.name = snm
  lr : L.room = 65536
  was : Was W B wv es
  ap : ∀ j, wasFoot wv es j → ¬ skFoot s S L D j
  low : Below B w0 W
  gen : J64 S.gen
theorem OI.step {w0 W W' : World} {B d s : Nat} {S S' : Sk} {L L' : Lg} {D D' : Dk} {xs xs' : List Ln} {k k' : Nat} {wv : Value} {es : List (Value × List Pr)} (h : OI w0 B d W s S L D xs k wv es) (hst : ST W W' B s S L D S' L' D') (hk : KIn W' B s S' L' D' xs' k') (h1 : L'.d = L.d) (h2 : L'.name = L.name) (h3 : L'.room = L.room) (hg : J64 S'.gen) :
    OI w0 B d W' s S' L' D' xs' k' wv es :=
  ⟨hk, h1.trans h.ld, h2.trans h.ln, h3.trans h.lr, h.was.only hst.only (fun j hj hf => h.ap j hf hj), fun j hf hj => by
    rcases hst.foot j hj with e | e
    · exact h.ap j hf e
    · have := (h.was.lt hf).2; omega, h.low.trans (hst.lo h.kin.sd), hg⟩
theorem OI.less {w0 W : World} {B d s : Nat} {S : Sk} {L : Lg} {D : Dk} {xs : List Ln} {k k' : Nat} {wv : Value} {es : List (Value × List Pr)} (h : OI w0 B d W s S L D xs k wv es) (hk : k' ≤ k) : OI w0 B d W s S L D xs k' wv es :=
  ⟨h.kin.less hk, h.ld, h.ln, h.lr, h.was, h.ap, h.low, h.gen⟩
theorem OI.below {w0 W W' : World} {B d s : Nat} {S : Sk} {L : Lg} {D : Dk} {xs : List Ln} {k : Nat} {wv : Value} {es : List (Value × List Pr)} (h : OI w0 B d W s S L D xs k wv es) (hb : Below W.heap.size W W') : OI w0 B d W' s S L D xs k wv es :=
  ⟨h.kin.below hb, h.ld, h.ln, h.lr, h.was.below hb, h.ap, h.low.trans (hb.mono h.kin.size), h.gen⟩
/-- What was committed is kept, too. -/
theorem OI.push {w0 W W' : World} {B d s g cap n : Nat} {S : Sk} {L : Lg} {D : Dk} {xs : List Ln} {k : Nat} {wv v : Value} {es : List (Value × List Pr)} {l : List Pr} (hn : es.length = n) (h : OI w0 B d W s S L D xs k wv es) (hv : PRow W B v l) (ha : ∀ j, v.ownBlock = some j → ¬ skFoot s S L D j)
    (ho : W'.ownsRow B 23 1 (.slice (some ⟨g, 0, none⟩) (n + 1) cap) (n + 1) (es.map Prod.fst ++ [v])) (hg : W.grownBy W' wv.ownBlock) (hgc : (∃ k c, wv = .slice (some ⟨g, 0, none⟩) k c ∧ cap = c) ∨ W.heap.size ≤ g) : OI w0 B d W' s S L D xs k (.slice (some ⟨g, 0, none⟩) (n + 1) cap) (es ++ [(v, l)]) := by
  have hT : ∀ j, wv.ownBlock = some j → ¬ skFoot s S L D j := fun j hj => h.ap j (.inl hj)
  have hu : ∀ j, wv.ownBlock = some j → ¬ IsU8 W j := fun j hj hu => absurd ((own_ty h.was.row hj).eq (show TyAt W j _ from hu)) (by decide)
  have hlo : ∀ j, wv.ownBlock = some j → B ≤ j := fun j hj => (h.was.lt (.inl hj)).1
  refine ⟨⟨⟨h.kin.sd.sk.only (Only.of_grown hg) (fun j hj hf => hT j hj (.inl hf)), h.kin.sd.ld.only (Only.of_grown hg) (fun j hj hf => hT j hj (.inr hf)) hu⟩, h.kin.sg, h.kin.cnt, h.kin.cap, h.kin.room, h.kin.vars.below ((Only.of_grown hg).below h.kin.size (fun j hj hf => by have := hlo j hf; omega)) h.kin.b5, h.kin.b5⟩, h.ld, h.ln, h.lr, Was.push hn h.was hv ho hg, fun j hf hj => ?_, h.low.grown hg h.kin.size hlo, h.gen⟩
  rcases hf with hf | ⟨x, hx, hf⟩
  · have e : g = j := by simpa [Value.ownBlock] using hf
    subst e
    rcases hgc with ⟨k', c', e, -⟩ | e
    · exact hT g (by rw [e]; rfl) hj
    · have := (h.kin.sd.foot_lt hj).2; omega
  · rcases List.mem_append.1 hx with hx | hx
    · exact h.ap j (.inr ⟨x, hx, hf⟩) hj
    · rw [List.mem_singleton.1 hx] at hf
      exact ha j hf hj
/-- A crash, and Open. -/
theorem OI.reopen {w0 W W1 W2 : World} {B d s s' nb : Nat} {S S' : Sk} {L L' : Lg} {D : Dk} {xs : List Ln} {k : Nat} {wv : Value} {es : List (Value × List Pr)} (h : OI w0 B d W s S L D xs k wv es) (hT : Turned W W1 B d D (crD D nb)) (hsd : SD W2 B s' S' L' (crD D nb)) (hm : S'.m = S.m) (hsg : SG S' L' (crD D nb) xs)
    (h1 : L'.d = d) (h2 : L'.name = snm) (h3 : L'.room = 65536) (hon : Only ((crD D nb).foot d) W1 W2) (hfo : ∀ j, skFoot s' S' L' (crD D nb) j → (crD D nb).foot d j ∨ W1.heap.size ≤ j) : OI w0 B d W2 s' S' L' (crD D nb) xs k wv es := by
  have hd : ∀ j, D.foot d j → skFoot s S L D j := fun j hj => .inr (.inr (by rw [h.ld]; exact hj))
  have ho : Only (D.foot d) W W2 := hT.only.trans hon (fun j hj e => (hT.foot j e).resolve_right (by omega))
  have hlo : Below B W W2 := ho.below h.kin.size (fun j hj e => by have := (h.kin.sd.foot_lt (hd j e)).1; omega)
  have hsz := hT.only.size
  refine ⟨⟨hsd, hsg, h.kin.cnt, h.kin.cap, h.kin.room, h.kin.vars.below hlo h.kin.b5, h.kin.b5⟩, h1, h2, h3, h.was.only ho (fun j hj hf => h.ap j hf (hd j hj)), fun j hf hj => ?_, h.low.trans hlo, by rw [show S'.gen = S'.m.gen from rfl, hm]; exact h.gen⟩
  have hl := (h.was.lt hf).2
  rcases hfo j hj with e | e
  · rcases hT.foot j e with e | e
    · exact h.ap j hf (hd j e)
    · omega
  · omega
/-- Steps of the script. -/
structure St24 where
  kind : Int
  gen : Int
  by_ : Int
  ov : Value
  out : List Pr
  pv : Value
instance : Inhabited St24 := ⟨⟨0, 0, 0, .slice none 0 0, [], .slice none 0 0⟩⟩
def St24.cells (x : St24) : List Value := [.int .i64 x.kind, .int .i64 x.gen, .int .i64 x.by_, x.ov, x.pv]
theorem st5 (x : St24) : x.cells.length = 5 := rfl
structure St24.Ok (w : World) (x : St24) : Prop where
  gen : J64 x.gen
  rd : Rd w 2 x.ov x.out.length (flatF Pr.cells x.out)
  keys : ∀ p ∈ x.out, p.key.size ≤ 9223372036854775807
  vals : ∀ p ∈ x.out, U32 p.val
  pick : ∃ a n c, x.pv = .slice a n c
end Go.Proofs.YthgmligpconhhaaGreatDoor

/- Layer 24: SinkOnce, walked. -/
namespace Go.Proofs.YthgmligpconhhaaGreatDoor
open Go.RowKit Go.Shelf
set_option linter.unusedVariables false
set_option linter.unusedSimpArgs false
set_option maxRecDepth 100000

set_option maxHeartbeats 4000000 in
theorem once_calls (sv : Value) (ss : List St24) (w : World) (hs : Rd w 5 sv ss.length (flatF St24.cells ss)) (hok : ∀ x ∈ ss, x.Ok w) (hv : VarsIn w) (h5 : 5 ≤ w.heap.size) :
    Calls Tryz.prog 5 #[sv] w fun e w' => e = .returned (.bool true) ∧ Below w.heap.size w w' := by
  have HS := Lib.hid hs
  have HOK := Lib.hid hok
  obtain ⟨sa, sc, rfl, hsl, hsc⟩ := hs.slice
  have HV := Lib.hid hv
  clear hs hok hv
  go_enter Tryz.func5, Tryz.ntmps5
  go_wp2_with fail
  refine (known_calls w HV.out h5).mono ?_
  rintro e w1 ⟨rfl, hb1⟩
  have HBW := Lib.hid hb1
  have HV1 := Lib.hid (HV.out.below hb1 h5)
  have H51 := Lib.hid (show 5 ≤ w1.heap.size by have := hb1.size; omega)
  clear hb1
  go_wp2_with fail
  refine (dnew_calls 1073741824 w1 (by omega) (by omega)).mono ?_
  rintro e w2 ⟨rfl, hd2, hb2⟩
  have HD2 := Lib.hid hd2
  clear hd2
  go_wp2_with fail
  refine (sopen_new (w1.heap.size + 2) w1.heap.size (newD 1073741824 w1.heap.size) w2 HD2.out rfl hb2.size).mono ?_
  rintro e w3 ⟨s0, l0, rfl, hb3, hsd3, hs3, hl3⟩
  have HB13 := Lib.hid (hb2.trans (hb3.mono hb2.size))
  have HO3 := Lib.hid (show OI w1 w1.heap.size (w1.heap.size + 2) w3 s0 (newS l0) (newL (w1.heap.size + 2) snm 65536) (newD 1073741824 w1.heap.size) [] (8 * (60 - 0)) (.slice none 0 0) [] from
    ⟨kin_new hsd3 (by omega) (by omega) (by omega) (HV1.out.below HB13.out H51.out) H51.out, rfl, rfl, rfl, Was.nil _ _, (fun j hf _ => by
      rcases hf with hf | ⟨x, hx, -⟩
      · simp [Value.ownBlock] at hf
      · cases hx), HB13.out, (by constructor <;> simp [newS])⟩)
  clear hb2 hb3 hsd3
  go_wp2_with fail
  go_loopw [5, 7, 8, 9, 10] (fun pv wv lv gv iv wr => ∃ (i s : Nat) (S : Sk) (L : Lg) (D : Dk) (xs : List Ln) (es : List (Value × List Pr)) (last : List Pr) (g : Int), i ≤ 60 ∧ pv = .pointer (some ⟨s, 0, none⟩) ∧ gv = .int .i64 g ∧ iv = .int .i64 i ∧ OI w1 w1.heap.size (w1.heap.size + 2) wr s S L D xs (8 * (60 - i)) wv es ∧ es.map Prod.snd = S.m.eps ∧ (S.prep = true → S.pairs = last) ∧ g ≤ S.gen ∧ Rd w 2 lv last.length (flatF Pr.cells last)) (fun _ _ _ _ iv _ => 100 - (intOf iv).toNat)
  case atStart => exact ⟨0, s0, _, _, _, _, [], [], 0, by omega, rfl, rfl, rfl, HO3.out, rfl, by simp [newS], by simp [newS], Rd.nil _ _⟩
  case round =>
    clear HO3 HB13
    obtain ⟨i, s, S, L, D, xs, es, last, g, hi, hpv, hgv, hiv, ho, heq, hpl, hge, hrl⟩ := hrel
    obtain ⟨N, hN⟩ : ∃ N, S.eps.length = N := ⟨_, rfl⟩
    have hesl : es.length = N := by rw [← hN]; have := congrArg List.length heq; simpa [Sk.m] using this
    obtain ⟨wa, wc, hwv⟩ := own_slice ho.was.row
    rw [hesl] at hwv
    obtain ⟨la, lc, hlv, hll, hlc⟩ := hrl.slice
    subst hpv hgv hiv hwv hlv
    have HO := Lib.hid ho
    have HEQ := Lib.hid heq
    have HPL := Lib.hid hpl
    have HGE := Lib.hid hge
    have HRL := Lib.hid hrl
    have HN := Lib.hid hN
    have hNb : N ≤ 900 := by
      have h1 := HO.out.kin.sg.le.1
      have h2 := HO.out.kin.cnt
      rw [show S.m.eps.length = N from (by simp [Sk.m]; exact hN)] at h1
      omega
    have HESL := Lib.hid hesl
    clear ho heq hpl hge hrl hN hesl
    have d2 : decide ((i : Int) < (ss.length : Int)) = decide (i < ss.length) := by apply decide_eq_decide.2; omega
    by_cases hin : i < ss.length ∧ i < 60
    · obtain ⟨hi1, hi2⟩ := hin
      obtain ⟨sb, so, hsa, hcell⟩ := rdF_at (k := 5) (f := St24.cells) st5 HS.out i hi1
      subst hsa
      have HXK := Lib.hid (HOK.out ss[i] (List.getElem_mem hi1))
      have hB := HBW.out.trans (HO.out.low.mono HBW.out.size)
      have c0 := cell_later hB (hcell 0 _ (by omega) rfl)
      have c1 := cell_later hB (hcell 1 _ (by omega) rfl)
      have c2 := cell_later hB (hcell 2 _ (by omega) rfl)
      have c3 := cell_later hB (hcell 3 _ (by omega) rfl)
      have c4 := cell_later hB (hcell 4 _ (by omega) rfl)
      generalize ss[i] = X at *
      obtain ⟨xk, xg, xb, xo, xout, xp⟩ := X
      obtain ⟨xg64, xrd, xkeys, xvals, ⟨pa, pn, pc, hxp⟩⟩ := HXK.out
      obtain ⟨oa, oc, hxo, hol, hoc⟩ := xrd.slice
      simp only at hxp hxo xg64 xrd xkeys xvals
      subst hxp hxo
      have c0 : wr.cell? ⟨sb, so + i * 5, none⟩ = some (.int .i64 xk) := c0
      have c1 : wr.cell? ⟨sb, so + i * 5 + 1, none⟩ = some (.int .i64 xg) := c1
      have c2 : wr.cell? ⟨sb, so + i * 5 + 2, none⟩ = some (.int .i64 xb) := c2
      have c3 : wr.cell? ⟨sb, so + i * 5 + 3, none⟩ = some (.slice oa xout.length oc) := c3
      have c4 : wr.cell? ⟨sb, so + i * 5 + 4, none⟩ = some (.slice pa pn pc) := c4
      have XG := Lib.hid xg64
      have XR := Lib.hid xrd
      have XK := Lib.hid (And.intro xkeys xvals)
      clear xg64 xrd xkeys xvals HXK hcell hB d2
      have d60 : decide ((i : Int) < 60) = true := decide_eq_true (by omega)
      have hal := below_alloc wr (.cells #[.int .i64 xk, .int .i64 xg, .int .i64 xb, .slice oa xout.length oc, .slice pa pn pc] 48)
      have HAL := Lib.hid hal
      have HO5 := Lib.hid (HO.out.below hal)
      clear hal
      go_upto_region 12 with fail
      have b0 : (wr.alloc (.cells #[.int .i64 xk, .int .i64 xg, .int .i64 xb, .slice oa xout.length oc, .slice pa pn pc] 48)).cell? ⟨wr.heap.size, 0, none⟩ = some (.int .i64 xk) := by simp only [World.cell?, heap_alloc_new]; rfl
      have b1 : (wr.alloc (.cells #[.int .i64 xk, .int .i64 xg, .int .i64 xb, .slice oa xout.length oc, .slice pa pn pc] 48)).cell? ⟨wr.heap.size, 1, none⟩ = some (.int .i64 xg) := by simp only [World.cell?, heap_alloc_new]; rfl
      have b3 : (wr.alloc (.cells #[.int .i64 xk, .int .i64 xg, .int .i64 xb, .slice oa xout.length oc, .slice pa pn pc] 48)).cell? ⟨wr.heap.size, 3, none⟩ = some (.slice oa xout.length oc) := by simp only [World.cell?, heap_alloc_new]; rfl
      have b4 : (wr.alloc (.cells #[.int .i64 xk, .int .i64 xg, .int .i64 xb, .slice oa xout.length oc, .slice pa pn pc] 48)).cell? ⟨wr.heap.size, 4, none⟩ = some (.slice pa pn pc) := by simp only [World.cell?, heap_alloc_new]; rfl
      obtain ⟨bx, hbx⟩ : ∃ x, x = wr.heap.size := ⟨_, rfl⟩
      have HBX := Lib.hid (show ∀ j, skFoot s S L D j → j ≠ bx from fun j hj e => by have := (HO.out.kin.sd.foot_lt hj).2; omega)
      obtain ⟨W5, hW5⟩ : ∃ W, W = wr.alloc (.cells #[.int .i64 xk, .int .i64 xg, .int .i64 xb, .slice oa xout.length oc, .slice pa pn pc] 48) := ⟨_, rfl⟩
      rw [← hW5] at HAL HO5
      rw [← hW5, ← hbx] at b0 b1 b3 b4 ⊢
      clear hW5 hbx c0 c1 c2 c3 c4
      go_wp2_with fail
      refine (count_calls _ _ _ _ HO5.out.kin.sd.sk).mono ?_
      rintro r v5 ⟨rfl, hv5⟩
      obtain rfl : W5 = v5 := hv5.symm
      rw [HN.out]
      by_cases k0 : xk = 0
      · subst k0
        go_wp2_with fail
        have hB5 := HBW.out.trans (HO5.out.low.mono HBW.out.size)
        refine (prepare_calls w1.heap.size s S L D xs (8 * (60 - (i + 1))) 7 xg N _ xout W5 (by omega) (HO5.out.kin.less (by omega)) XG.out (XR.out.below hB5 (Nat.le_refl _)) ?_ XK.out.1 XK.out.2).mono ?_
        · intro a m c e h0 hf
          have h1 := (HO5.out.kin.sd.foot_lt hf).1
          have hp := XR.out
          try simp only at hp
          rw [e] at hp
          obtain ⟨b', o', hb', -, -⟩ := pr_at hp 0 h0
          simp only [Option.some.injEq] at hb'
          subst hb'
          have h2 := Rd.head_lt' hp h0
          have h3 := HBW.out.size
          simp only at h1
          omega
        rintro r w6 ⟨rfl, S6, L6, D6, xs6, hst6, hk6, hm6, hs6⟩
        obtain ⟨E, hE⟩ : ∃ E, prE S.m xg N xout = E := ⟨_, rfl⟩
        obtain ⟨e6, u6, q6, q7⟩ := pr_once S.m xg N xout
        rw [← hm6] at e6 u6 q6 q7
        rw [hE] at q6 q7 ⊢
        have HO6 := Lib.hid ((HO5.out.step hst6 hk6 hs6.2.1 hs6.2.2.2.1 hs6.2.2.2.2 (u6.2 HO5.out.gen XG.out)).less (k' := 8 * (60 - (i + 1))) (by omega))
        have HE6 := Lib.hid e6
        have HU6 := Lib.hid u6.1
        have b3 := hst6.only.cell (b := bx) (o := 3) (fun hf => HBX.out bx hf rfl) b3
        have b0 := hst6.only.cell (b := bx) (o := 0) (fun hf => HBX.out bx hf rfl) b0
        clear hst6 hk6 hm6 hs6 e6 u6 hE hB5
        by_cases hE0 : E = 0
        · have HL6 := Lib.hid (show S6.prep = true → S6.pairs = xout from fun _ => q6 hE0)
          subst hE0
          clear q6 q7
          go_wp2_with fail
          -- nothing was committed: s the sink's address, S6 the sink, in w6 (HO6, HE6, HU6, HL6)
          have hg6 : decide ((S6).gen < g) = false := decide_eq_false (by have h1 := HGE.out; have h2 := HU6.out; have e1 : (S6).m.gen = (S6).gen := rfl; have e2 : S.m.gen = S.gen := rfl; omega)
          have HN6 := Lib.hid (show (S6).eps.length = N from by have e := congrArg List.length HE6.out; simp only [Sk.m, List.length_map] at e; rw [e]; exact HN.out)
          refine (gen_calls _ _ _ _ HO6.out.kin.sd.sk).mono ?_
          rintro r v5 ⟨rfl, hv5⟩
          obtain rfl : w6 = v5 := hv5.symm
          go_wp2_with fail
          refine (count_calls _ _ _ _ HO6.out.kin.sd.sk).mono ?_
          rintro r v5 ⟨rfl, hv5⟩
          obtain rfl : w6 = v5 := hv5.symm
          rw [HN6.out]
          go_wp2_with fail
          refine (count_calls _ _ _ _ HO6.out.kin.sd.sk).mono ?_
          rintro r v5 ⟨rfl, hv5⟩
          obtain rfl : w6 = v5 := hv5.symm
          rw [HN6.out]
          go_wp2_with fail
          refine (count_calls _ _ _ _ HO6.out.kin.sd.sk).mono ?_
          rintro r v5 ⟨rfl, hv5⟩
          obtain rfl : w6 = v5 := hv5.symm
          rw [HN6.out]
          go_wp2_with fail
          refine (gen_calls _ _ _ _ HO6.out.kin.sd.sk).mono ?_
          rintro r v5 ⟨rfl, hv5⟩
          obtain rfl : w6 = v5 := hv5.symm
          go_wp2_with fail
          refine (count_calls _ _ _ _ HO6.out.kin.sd.sk).mono ?_
          rintro r v5 ⟨rfl, hv5⟩
          obtain rfl : w6 = v5 := hv5.symm
          rw [HN6.out]
          go_wp2_with fail
          have HO8 := HO6
          have HQ8 := Lib.hid (HEQ.out.trans HE6.out.symm)
          have hesn : es.length = N := HESL.out
          have HES8 := Lib.hid hesn
          clear hesn
          obtain ⟨w8, hw8⟩ : ∃ x, x = w6 := ⟨_, rfl⟩
          subst hw8
          have HLS8 := HL6
          -- what was committed is held against the sink: s the sink's address, S6 the sink, es what was kept, N how many, in w8; xout the last pairs, XR.out that they read, L6 S6 D6 of OI
          go_loopw [15] (fun kv wr => ∃ q : Nat, q ≤ N ∧ kv = .int .i64 q ∧ Below w8.heap.size w8 wr) (fun kv _ => N - (intOf kv).toNat)
          case atStart => exact ⟨0, by omega, rfl, Below.refl _ _⟩
          case round =>
            obtain ⟨q, hq, rfl, hbq⟩ := hrel
            have HBQ := Lib.hid hbq
            by_cases hql : q < N
            · have hoq := HO8.out.below hbq
              have hes8 := HES8.out
              obtain ⟨y, hy⟩ : ∃ y, (es)[q]? = some y := ⟨_, List.getElem?_eq_getElem (by omega)⟩
              have hrow := hoq.was.row
              rw [hes8] at hrow
              obtain ⟨yb, hyb, hyc, hym, hycell⟩ := row_cell hrow q y.1 (by rw [List.getElem?_map, hy]; rfl)
              have hyr := hoq.was.els y (List.mem_of_getElem? hy)
              obtain ⟨x, hx, hxp⟩ := eps_at (S := S6) (i := q) (l := y.2) (by rw [← HQ8.out, List.getElem?_map, hy]; rfl)
              have hyl : y.2.length ≤ 1000000 := by
                have h1 := hoq.kin.sg.le.2.2.2 x.2 (List.mem_map.2 ⟨x, List.mem_of_getElem? hx, rfl⟩)
                have h2 := hoq.kin.cnt
                rw [hxp] at h1
                omega
              have HX := Lib.hid (epoch_calls w1.heap.size (s) q (S6) wr hoq.kin.sd.sk x hx (by rw [hxp]; exact hyl))
              have HXP := Lib.hid hxp
              have HYR := Lib.hid hyr
              clear hoq hes8 hy hrow hyr hx hxp hyl hbq
              first | subst hyb | (simp only [Option.some.injEq, Addr.mk.injEq, and_true] at hyb; subst hyb)
              go_wp2_with fail
              refine HX.out.mono ?_
              rintro r w9 ⟨ev9, rfl, hr9, hb9⟩
              rw [HXP.out] at hr9
              obtain ⟨ea9, ec9, rfl⟩ := own_slice hr9
              have HR9 := Lib.hid hr9
              have HB9 := Lib.hid hb9
              have hycell := cell_later hb9 hycell
              clear hr9 hb9
              go_wp2_with fail
              refine (samep_calls _ _ y.2 w9 (Rd.of_own HR9.out) (Rd.of_own (ownsRow_below HYR.out HB9.out (Nat.le_refl _)))).mono ?_
              rintro r w10 ⟨rfl, hb10⟩
              have HB10 := Lib.hid (HBQ.out.trans ((HB9.out.trans (hb10.mono HB9.out.size)).mono HBQ.out.size))
              clear hb10
              go_wp2_with fail
              go_roundw
              case rel => exact ⟨q + 1, by omega, by go_num, HB10.out⟩
              case measure => simp [intOf]; omega
            · have hqe : q = N := by omega
              go_wp2_with fail
              refine ⟨⟨i + 1, s, S6, L6, D6, _, es, xout, (S6).gen, by omega, rfl, rfl, by go_num, HO8.out.below HBQ.out, HQ8.out, HLS8.out, Int.le_refl _, XR.out⟩, by simp [intOf]; omega⟩
        · have HL6 := Lib.hid (show S6.prep = true → S6.pairs = last from fun h => (q7 hE0).1.trans (HPL.out ((q7 hE0).2.symm.trans h)))
          have zE : (E == 0) = false := by simpa using hE0
          clear q6 q7 hE0
          go_wp2_with fail
          -- nothing was committed: s the sink's address, S6 the sink, in w6 (HO6, HE6, HU6, HL6)
          have hg6 : decide ((S6).gen < g) = false := decide_eq_false (by have h1 := HGE.out; have h2 := HU6.out; have e1 : (S6).m.gen = (S6).gen := rfl; have e2 : S.m.gen = S.gen := rfl; omega)
          have HN6 := Lib.hid (show (S6).eps.length = N from by have e := congrArg List.length HE6.out; simp only [Sk.m, List.length_map] at e; rw [e]; exact HN.out)
          refine (gen_calls _ _ _ _ HO6.out.kin.sd.sk).mono ?_
          rintro r v5 ⟨rfl, hv5⟩
          obtain rfl : w6 = v5 := hv5.symm
          go_wp2_with fail
          refine (count_calls _ _ _ _ HO6.out.kin.sd.sk).mono ?_
          rintro r v5 ⟨rfl, hv5⟩
          obtain rfl : w6 = v5 := hv5.symm
          rw [HN6.out]
          go_wp2_with fail
          refine (count_calls _ _ _ _ HO6.out.kin.sd.sk).mono ?_
          rintro r v5 ⟨rfl, hv5⟩
          obtain rfl : w6 = v5 := hv5.symm
          rw [HN6.out]
          go_wp2_with fail
          refine (count_calls _ _ _ _ HO6.out.kin.sd.sk).mono ?_
          rintro r v5 ⟨rfl, hv5⟩
          obtain rfl : w6 = v5 := hv5.symm
          rw [HN6.out]
          go_wp2_with fail
          refine (gen_calls _ _ _ _ HO6.out.kin.sd.sk).mono ?_
          rintro r v5 ⟨rfl, hv5⟩
          obtain rfl : w6 = v5 := hv5.symm
          go_wp2_with fail
          refine (count_calls _ _ _ _ HO6.out.kin.sd.sk).mono ?_
          rintro r v5 ⟨rfl, hv5⟩
          obtain rfl : w6 = v5 := hv5.symm
          rw [HN6.out]
          go_wp2_with fail
          have HO8 := HO6
          have HQ8 := Lib.hid (HEQ.out.trans HE6.out.symm)
          have hesn : es.length = N := HESL.out
          have HES8 := Lib.hid hesn
          clear hesn
          obtain ⟨w8, hw8⟩ : ∃ x, x = w6 := ⟨_, rfl⟩
          subst hw8
          have HLS8 := HL6
          -- what was committed is held against the sink: s the sink's address, S6 the sink, es what was kept, N how many, in w8; last the last pairs, HRL.out that they read, L6 S6 D6 of OI
          go_loopw [15] (fun kv wr => ∃ q : Nat, q ≤ N ∧ kv = .int .i64 q ∧ Below w8.heap.size w8 wr) (fun kv _ => N - (intOf kv).toNat)
          case atStart => exact ⟨0, by omega, rfl, Below.refl _ _⟩
          case round =>
            obtain ⟨q, hq, rfl, hbq⟩ := hrel
            have HBQ := Lib.hid hbq
            by_cases hql : q < N
            · have hoq := HO8.out.below hbq
              have hes8 := HES8.out
              obtain ⟨y, hy⟩ : ∃ y, (es)[q]? = some y := ⟨_, List.getElem?_eq_getElem (by omega)⟩
              have hrow := hoq.was.row
              rw [hes8] at hrow
              obtain ⟨yb, hyb, hyc, hym, hycell⟩ := row_cell hrow q y.1 (by rw [List.getElem?_map, hy]; rfl)
              have hyr := hoq.was.els y (List.mem_of_getElem? hy)
              obtain ⟨x, hx, hxp⟩ := eps_at (S := S6) (i := q) (l := y.2) (by rw [← HQ8.out, List.getElem?_map, hy]; rfl)
              have hyl : y.2.length ≤ 1000000 := by
                have h1 := hoq.kin.sg.le.2.2.2 x.2 (List.mem_map.2 ⟨x, List.mem_of_getElem? hx, rfl⟩)
                have h2 := hoq.kin.cnt
                rw [hxp] at h1
                omega
              have HX := Lib.hid (epoch_calls w1.heap.size (s) q (S6) wr hoq.kin.sd.sk x hx (by rw [hxp]; exact hyl))
              have HXP := Lib.hid hxp
              have HYR := Lib.hid hyr
              clear hoq hes8 hy hrow hyr hx hxp hyl hbq
              first | subst hyb | (simp only [Option.some.injEq, Addr.mk.injEq, and_true] at hyb; subst hyb)
              go_wp2_with fail
              refine HX.out.mono ?_
              rintro r w9 ⟨ev9, rfl, hr9, hb9⟩
              rw [HXP.out] at hr9
              obtain ⟨ea9, ec9, rfl⟩ := own_slice hr9
              have HR9 := Lib.hid hr9
              have HB9 := Lib.hid hb9
              have hycell := cell_later hb9 hycell
              clear hr9 hb9
              go_wp2_with fail
              refine (samep_calls _ _ y.2 w9 (Rd.of_own HR9.out) (Rd.of_own (ownsRow_below HYR.out HB9.out (Nat.le_refl _)))).mono ?_
              rintro r w10 ⟨rfl, hb10⟩
              have HB10 := Lib.hid (HBQ.out.trans ((HB9.out.trans (hb10.mono HB9.out.size)).mono HBQ.out.size))
              clear hb10
              go_wp2_with fail
              go_roundw
              case rel => exact ⟨q + 1, by omega, by go_num, HB10.out⟩
              case measure => simp [intOf]; omega
            · have hqe : q = N := by omega
              go_wp2_with fail
              refine ⟨⟨i + 1, s, S6, L6, D6, _, es, last, (S6).gen, by omega, rfl, rfl, by go_num, HO8.out.below HBQ.out, HQ8.out, HLS8.out, Int.le_refl _, HRL.out⟩, by simp [intOf]; omega⟩
      · have z0 : (xk == 0) = false := by simpa using k0
        by_cases k1 : xk = 1
        · subst k1
          go_wp2_with fail
          refine (commit_calls w1.heap.size s S L D xs (8 * (60 - (i + 1)) + 6) xg N W5 (HO5.out.kin.less (by omega)) XG.out).mono ?_
          rintro r v6 ⟨rfl, T6, M6, E6, ys6, hst5, hk5, hm5, hs5⟩
          have HOA := Lib.hid (HO5.out.step hst5 hk5 hs5.2.1 hs5.2.2.2.1 hs5.2.2.2.2 (by have := (cm_once S.m xg N).1.2 HO5.out.gen XG.out; rw [← hm5] at this; exact this))
          have HMA := Lib.hid hm5
          have b1 := hst5.only.cell (b := bx) (o := 1) (fun hf => HBX.out bx hf rfl) b1
          have b0 := hst5.only.cell (b := bx) (o := 0) (fun hf => HBX.out bx hf rfl) b0
          have HBY := Lib.hid (show ∀ j, skFoot s T6 M6 E6 j → j ≠ bx from fun j hj e => by
            rcases hst5.foot j hj with h | h
            · exact HBX.out j h e
            · obtain ⟨ob, hob, -⟩ := cells_of_cell b3
              have := (Array.getElem?_eq_some_iff.1 hob).1
              simp only at this
              omega)
          clear hst5 hk5 hm5 hs5
          go_wp2_with fail
          refine (commit_calls w1.heap.size s T6 M6 E6 ys6 (8 * (60 - (i + 1)) + 4) xg N v6 (HOA.out.kin.less (by omega)) XG.out).mono ?_
          rintro r w6 ⟨rfl, S6, L6, D6, xs6, hst6, hk6, hm6, hs6⟩
          have HO6 := Lib.hid ((HOA.out.step hst6 hk6 hs6.2.1 hs6.2.2.2.1 hs6.2.2.2.2 (by have := (cm_once T6.m xg N).1.2 HOA.out.gen XG.out; rw [← hm6] at this; exact this)).less (k' := 8 * (60 - (i + 1))) (by omega))
          rw [HMA.out] at hm6
          have b0 := hst6.only.cell (b := bx) (o := 0) (fun hf => HBY.out bx hf rfl) b0
          obtain ⟨u6, q6⟩ := cm2_once S.m xg N (by simp [Sk.m]; exact HN.out.symm)
          rw [← hm6] at u6 q6
          have HU6 := Lib.hid u6.1
          clear hst6 hk6 hm6 hs6 u6
          rcases q6 with ⟨a1, a2, a3⟩ | ⟨a1, a2, a3⟩
          · have HE6 := Lib.hid a1
            have HL6 := Lib.hid (show S6.prep = true → S6.pairs = last from fun h => a2.trans (HPL.out (a3.symm.trans h)))
            clear a1 a2 a3
            go_wp2_with fail
            -- nothing was committed: s the sink's address, S6 the sink, in w6 (HO6, HE6, HU6, HL6)
            have hg6 : decide ((S6).gen < g) = false := decide_eq_false (by have h1 := HGE.out; have h2 := HU6.out; have e1 : (S6).m.gen = (S6).gen := rfl; have e2 : S.m.gen = S.gen := rfl; omega)
            have HN6 := Lib.hid (show (S6).eps.length = N from by have e := congrArg List.length HE6.out; simp only [Sk.m, List.length_map] at e; rw [e]; exact HN.out)
            refine (gen_calls _ _ _ _ HO6.out.kin.sd.sk).mono ?_
            rintro r v5 ⟨rfl, hv5⟩
            obtain rfl : w6 = v5 := hv5.symm
            go_wp2_with fail
            refine (count_calls _ _ _ _ HO6.out.kin.sd.sk).mono ?_
            rintro r v5 ⟨rfl, hv5⟩
            obtain rfl : w6 = v5 := hv5.symm
            rw [HN6.out]
            go_wp2_with fail
            refine (count_calls _ _ _ _ HO6.out.kin.sd.sk).mono ?_
            rintro r v5 ⟨rfl, hv5⟩
            obtain rfl : w6 = v5 := hv5.symm
            rw [HN6.out]
            go_wp2_with fail
            refine (count_calls _ _ _ _ HO6.out.kin.sd.sk).mono ?_
            rintro r v5 ⟨rfl, hv5⟩
            obtain rfl : w6 = v5 := hv5.symm
            rw [HN6.out]
            go_wp2_with fail
            refine (gen_calls _ _ _ _ HO6.out.kin.sd.sk).mono ?_
            rintro r v5 ⟨rfl, hv5⟩
            obtain rfl : w6 = v5 := hv5.symm
            go_wp2_with fail
            refine (count_calls _ _ _ _ HO6.out.kin.sd.sk).mono ?_
            rintro r v5 ⟨rfl, hv5⟩
            obtain rfl : w6 = v5 := hv5.symm
            rw [HN6.out]
            go_wp2_with fail
            have HO8 := HO6
            have HQ8 := Lib.hid (HEQ.out.trans HE6.out.symm)
            have hesn : es.length = N := HESL.out
            have HES8 := Lib.hid hesn
            clear hesn
            obtain ⟨w8, hw8⟩ : ∃ x, x = w6 := ⟨_, rfl⟩
            subst hw8
            have HLS8 := HL6
            -- what was committed is held against the sink: s the sink's address, S6 the sink, es what was kept, N how many, in w8; last the last pairs, HRL.out that they read, L6 S6 D6 of OI
            go_loopw [15] (fun kv wr => ∃ q : Nat, q ≤ N ∧ kv = .int .i64 q ∧ Below w8.heap.size w8 wr) (fun kv _ => N - (intOf kv).toNat)
            case atStart => exact ⟨0, by omega, rfl, Below.refl _ _⟩
            case round =>
              obtain ⟨q, hq, rfl, hbq⟩ := hrel
              have HBQ := Lib.hid hbq
              by_cases hql : q < N
              · have hoq := HO8.out.below hbq
                have hes8 := HES8.out
                obtain ⟨y, hy⟩ : ∃ y, (es)[q]? = some y := ⟨_, List.getElem?_eq_getElem (by omega)⟩
                have hrow := hoq.was.row
                rw [hes8] at hrow
                obtain ⟨yb, hyb, hyc, hym, hycell⟩ := row_cell hrow q y.1 (by rw [List.getElem?_map, hy]; rfl)
                have hyr := hoq.was.els y (List.mem_of_getElem? hy)
                obtain ⟨x, hx, hxp⟩ := eps_at (S := S6) (i := q) (l := y.2) (by rw [← HQ8.out, List.getElem?_map, hy]; rfl)
                have hyl : y.2.length ≤ 1000000 := by
                  have h1 := hoq.kin.sg.le.2.2.2 x.2 (List.mem_map.2 ⟨x, List.mem_of_getElem? hx, rfl⟩)
                  have h2 := hoq.kin.cnt
                  rw [hxp] at h1
                  omega
                have HX := Lib.hid (epoch_calls w1.heap.size (s) q (S6) wr hoq.kin.sd.sk x hx (by rw [hxp]; exact hyl))
                have HXP := Lib.hid hxp
                have HYR := Lib.hid hyr
                clear hoq hes8 hy hrow hyr hx hxp hyl hbq
                first | subst hyb | (simp only [Option.some.injEq, Addr.mk.injEq, and_true] at hyb; subst hyb)
                go_wp2_with fail
                refine HX.out.mono ?_
                rintro r w9 ⟨ev9, rfl, hr9, hb9⟩
                rw [HXP.out] at hr9
                obtain ⟨ea9, ec9, rfl⟩ := own_slice hr9
                have HR9 := Lib.hid hr9
                have HB9 := Lib.hid hb9
                have hycell := cell_later hb9 hycell
                clear hr9 hb9
                go_wp2_with fail
                refine (samep_calls _ _ y.2 w9 (Rd.of_own HR9.out) (Rd.of_own (ownsRow_below HYR.out HB9.out (Nat.le_refl _)))).mono ?_
                rintro r w10 ⟨rfl, hb10⟩
                have HB10 := Lib.hid (HBQ.out.trans ((HB9.out.trans (hb10.mono HB9.out.size)).mono HBQ.out.size))
                clear hb10
                go_wp2_with fail
                go_roundw
                case rel => exact ⟨q + 1, by omega, by go_num, HB10.out⟩
                case measure => simp [intOf]; omega
              · have hqe : q = N := by omega
                go_wp2_with fail
                refine ⟨⟨i + 1, s, S6, L6, D6, _, es, last, (S6).gen, by omega, rfl, rfl, by go_num, HO8.out.below HBQ.out, HQ8.out, HLS8.out, Int.le_refl _, HRL.out⟩, by simp [intOf]; omega⟩
          · have HE6 := Lib.hid a1
            have HP6 := Lib.hid (HPL.out a2)
            have HL6 := Lib.hid (show S6.prep = true → S6.pairs = last from fun h => by rw [show S6.prep = false from a3] at h; cases h)
            clear a1 a2 a3
            go_wp2_with fail
            -- one more was committed: S6 in w6 (HO6, HE6, HU6, HP6: it is what was prepared last), at s
            have hg6 : decide (S6.gen < g) = false := decide_eq_false (by have h1 := HGE.out; have h2 := HU6.out; have e1 : S6.m.gen = S6.gen := rfl; have e2 : S.m.gen = S.gen := rfl; omega)
            have HN6 := Lib.hid (show S6.eps.length = N + 1 from by have e := congrArg List.length HE6.out; simp only [Sk.m, List.length_map, List.length_append, List.length_singleton] at e; rw [e, HN.out])
            refine (gen_calls _ _ _ _ HO6.out.kin.sd.sk).mono ?_
            rintro r v5 ⟨rfl, hv5⟩
            obtain rfl : w6 = v5 := hv5.symm
            go_wp2_with fail
            refine (count_calls _ _ _ _ HO6.out.kin.sd.sk).mono ?_
            rintro r v5 ⟨rfl, hv5⟩
            obtain rfl : w6 = v5 := hv5.symm
            rw [HN6.out, show ((N + 1 : Nat) : Int) = (N : Int) + 1 from rfl]
            go_wp2_with fail
            refine (count_calls _ _ _ _ HO6.out.kin.sd.sk).mono ?_
            rintro r v5 ⟨rfl, hv5⟩
            obtain rfl : w6 = v5 := hv5.symm
            rw [HN6.out, show ((N + 1 : Nat) : Int) = (N : Int) + 1 from rfl]
            go_wp2_with fail
            refine (count_calls _ _ _ _ HO6.out.kin.sd.sk).mono ?_
            rintro r v5 ⟨rfl, hv5⟩
            obtain rfl : w6 = v5 := hv5.symm
            rw [HN6.out, show ((N + 1 : Nat) : Int) = (N : Int) + 1 from rfl]
            go_wp2_with fail
            refine (gen_calls _ _ _ _ HO6.out.kin.sd.sk).mono ?_
            rintro r v5 ⟨rfl, hv5⟩
            obtain rfl : w6 = v5 := hv5.symm
            go_wp2_with fail
            refine (count_calls _ _ _ _ HO6.out.kin.sd.sk).mono ?_
            rintro r v5 ⟨rfl, hv5⟩
            obtain rfl : w6 = v5 := hv5.symm
            rw [HN6.out, show ((N + 1 : Nat) : Int) = (N : Int) + 1 from rfl]
            have hlit := World.ownsRow_lit (base := w6.heap.size) (size := 2) (e := 39) w6 #[] 0 (Nat.le_refl _) (by unfold maxLen; omega) (by simp)
            have hal7 := below_alloc w6 (.cells #[] 39)
            obtain ⟨W7, hW7⟩ : ∃ W, W = w6.alloc (.cells #[] 39) := ⟨_, rfl⟩
            rw [← hW7] at hlit hal7
            have HLIT := Lib.hid hlit
            have HAL7 := Lib.hid hal7
            have HW7 := Lib.hid hW7
            have HRL7 := Lib.hid (HRL.out.below ((HBW.out.trans (HO6.out.low.mono HBW.out.size)).trans (hal7.mono (by have := HBW.out.size; have := HO6.out.low.size; omega))) (Nat.le_refl _))
            have hb7 : w6.heap.size ≤ W7.heap.size := hal7.size
            have hone := pr_one last
            have hlast : last.length ≤ 1000000 := by
              have h1 := HO5.out.kin.sg.le.2.2.1
              have h2 := HO5.out.kin.cnt
              have h3 : S.pairs = last := HP6.out
              rw [show S.m.pairs = last from h3] at h1
              omega
            clear hlit hal7 hW7
            go_wp2_with (
              at_builtin
              first
              | (rw [← HW7.out]
                 refine app_list tyPairs HLIT.out HRL7.out hone (by omega) (by omega) hb7 rfl rfl rfl rfl ?_
                 intro iv w8 h2 h3 h4
                 rw [Nat.zero_add] at h2
                 obtain ⟨ia, ic, hiv⟩ := own_slice h2
                 subst hiv
                 have H2 := Lib.hid h2
                 have hb68 : Below w6.heap.size w6 w8 := HAL7.out.grown h3 hb7 (fun j hj => by simp only [Value.ownBlock, Option.some.injEq] at hj; omega)
                 have hal9 := below_alloc w8 (.cells #[.slice ia last.length ic] 23)
                 have HLIT9 := Lib.hid (show Rd (w8.alloc (.cells #[.slice ia last.length ic] 23)) 1 (.slice (some ⟨w8.heap.size, 0, none⟩) 1 1) 1 [.slice ia last.length ic] from Rd.lit (w := w8) (cs := #[.slice ia last.length ic]) (e := 23) (n := 1) (sz := 1) rfl (by omega))
                 obtain ⟨W9, hW9⟩ : ∃ W, W = w8.alloc (.cells #[.slice ia last.length ic] 23) := ⟨_, rfl⟩
                 rw [← hW9] at hal9 HLIT9
                 have HW9 := Lib.hid hW9
                 have HO9 := Lib.hid (HO6.out.below (hb68.trans (hal9.mono hb68.size)))
                 have HIV := Lib.hid (show PRow W9 w1.heap.size (.slice ia last.length ic) last from ownsRow_mono (ownsRow_below H2.out hal9 (Nat.le_refl _)) (by have := HO6.out.low.size; omega))
                 have HIB := Lib.hid (show ∀ j, (Value.slice ia last.length ic).ownBlock = some j → ¬ skFoot s S6 L6 D6 j from fun j hj hf => by
                   have h1 := (World.ownsRow.lt H2.out j hj).1
                   have h2 := (HO6.out.kin.sd.foot_lt hf).2
                   omega)
                 have HROW := Lib.hid (show W9.ownsRow w1.heap.size 23 1 (.slice wa N wc) N (es.map Prod.fst) from by have h := HO9.out.was.row; rw [HESL.out] at h; exact h)
                 have hbs : w1.heap.size ≤ W9.heap.size := HO9.out.low.size
                 clear hb68 hal9 hW9 h2 h3 h4)
              | (rw [← HW9.out]
                 refine app_keep tyPairsL HROW.out HLIT9.out (by simp [Value.oneCell']) (by omega) (by omega) (by omega) hbs rfl rfl rfl rfl ?_
                 intro g2 gcap w10 h2 h3 h4 h5
                 have HO8 := Lib.hid (OI.push HESL.out HO9.out HIV.out HIB.out h2 h4 h5)
                 clear h2 h3 h4 h5))
            have HQ8 := Lib.hid (show (es ++ [(Value.slice ia last.length ic, last)]).map Prod.snd = S6.m.eps from by rw [HE6.out, List.map_append, HEQ.out, ← HP6.out]; rfl)
            have HES8 := Lib.hid (show (es ++ [(Value.slice ia last.length ic, last)]).length = N + 1 from by rw [List.length_append, HESL.out]; rfl)
            have HLS8 := HL6
            obtain ⟨w8, hw8⟩ : ∃ x, x = w10 := ⟨_, rfl⟩
            subst hw8
            -- what was committed is held against the sink: s the sink's address, S6 the sink, (es ++ [(Value.slice ia last.length ic, last)]) what was kept, (N + 1) how many, in w8; last the last pairs, HRL.out that they read, L6 S6 D6 of OI
            go_loopw [15] (fun kv wr => ∃ q : Nat, q ≤ (N + 1) ∧ kv = .int .i64 q ∧ Below w8.heap.size w8 wr) (fun kv _ => (N + 1) - (intOf kv).toNat)
            case atStart => exact ⟨0, by omega, rfl, Below.refl _ _⟩
            case round =>
              obtain ⟨q, hq, rfl, hbq⟩ := hrel
              have HBQ := Lib.hid hbq
              by_cases hql : q < (N + 1)
              · have hoq := HO8.out.below hbq
                have hes8 := HES8.out
                obtain ⟨y, hy⟩ : ∃ y, ((es ++ [(Value.slice ia last.length ic, last)]))[q]? = some y := ⟨_, List.getElem?_eq_getElem (by omega)⟩
                have hrow := hoq.was.row
                rw [hes8] at hrow
                obtain ⟨yb, hyb, hyc, hym, hycell⟩ := row_cell hrow q y.1 (by rw [List.getElem?_map, hy]; rfl)
                have hyr := hoq.was.els y (List.mem_of_getElem? hy)
                obtain ⟨x, hx, hxp⟩ := eps_at (S := S6) (i := q) (l := y.2) (by rw [← HQ8.out, List.getElem?_map, hy]; rfl)
                have hyl : y.2.length ≤ 1000000 := by
                  have h1 := hoq.kin.sg.le.2.2.2 x.2 (List.mem_map.2 ⟨x, List.mem_of_getElem? hx, rfl⟩)
                  have h2 := hoq.kin.cnt
                  rw [hxp] at h1
                  omega
                have HX := Lib.hid (epoch_calls w1.heap.size (s) q (S6) wr hoq.kin.sd.sk x hx (by rw [hxp]; exact hyl))
                have HXP := Lib.hid hxp
                have HYR := Lib.hid hyr
                clear hoq hes8 hy hrow hyr hx hxp hyl hbq
                first | subst hyb | (simp only [Option.some.injEq, Addr.mk.injEq, and_true] at hyb; subst hyb)
                go_wp2_with fail
                refine HX.out.mono ?_
                rintro r w9 ⟨ev9, rfl, hr9, hb9⟩
                rw [HXP.out] at hr9
                obtain ⟨ea9, ec9, rfl⟩ := own_slice hr9
                have HR9 := Lib.hid hr9
                have HB9 := Lib.hid hb9
                have hycell := cell_later hb9 hycell
                clear hr9 hb9
                go_wp2_with fail
                refine (samep_calls _ _ y.2 w9 (Rd.of_own HR9.out) (Rd.of_own (ownsRow_below HYR.out HB9.out (Nat.le_refl _)))).mono ?_
                rintro r w10 ⟨rfl, hb10⟩
                have HB10 := Lib.hid (HBQ.out.trans ((HB9.out.trans (hb10.mono HB9.out.size)).mono HBQ.out.size))
                clear hb10
                go_wp2_with fail
                go_roundw
                case rel => exact ⟨q + 1, by omega, by go_num, HB10.out⟩
                case measure => simp [intOf]; omega
              · have hqe : q = (N + 1) := by omega
                go_wp2_with fail
                refine ⟨⟨i + 1, s, S6, L6, D6, _, (es ++ [(Value.slice ia last.length ic, last)]), last, (S6).gen, by omega, rfl, rfl, by go_num, HO8.out.below HBQ.out, HQ8.out, HLS8.out, Int.le_refl _, HRL.out⟩, by simp [intOf]; omega⟩
        · have z1 : (xk == 1) = false := by simpa using k1
          by_cases k2 : xk = 2
          · subst k2
            go_wp2_with fail
            refine (abort_calls w1.heap.size s S L D xs (8 * (60 - (i + 1)) + 6) xg N W5 (HO5.out.kin.less (by omega)) XG.out).mono ?_
            rintro r w6 ⟨rfl, S6, L6, D6, xs6, hst6, hk6, hm6, hs6⟩
            obtain ⟨e6, u6, q6⟩ := ab_once S.m xg N
            rw [← hm6] at e6 u6 q6
            have HO6 := Lib.hid ((HO5.out.step hst6 hk6 hs6.2.1 hs6.2.2.2.1 hs6.2.2.2.2 (u6.2 HO5.out.gen XG.out)).less (k' := 8 * (60 - (i + 1))) (by omega))
            have HE6 := Lib.hid e6
            have HU6 := Lib.hid u6.1
            have HL6 := Lib.hid (show S6.prep = true → S6.pairs = last from fun h => (q6 h).2.trans (HPL.out (q6 h).1))
            clear hst6 hk6 hm6 hs6 e6 u6 q6
            go_wp2_with fail
            -- nothing was committed: s the sink's address, S6 the sink, in w6 (HO6, HE6, HU6, HL6)
            have hg6 : decide ((S6).gen < g) = false := decide_eq_false (by have h1 := HGE.out; have h2 := HU6.out; have e1 : (S6).m.gen = (S6).gen := rfl; have e2 : S.m.gen = S.gen := rfl; omega)
            have HN6 := Lib.hid (show (S6).eps.length = N from by have e := congrArg List.length HE6.out; simp only [Sk.m, List.length_map] at e; rw [e]; exact HN.out)
            refine (gen_calls _ _ _ _ HO6.out.kin.sd.sk).mono ?_
            rintro r v5 ⟨rfl, hv5⟩
            obtain rfl : w6 = v5 := hv5.symm
            go_wp2_with fail
            refine (count_calls _ _ _ _ HO6.out.kin.sd.sk).mono ?_
            rintro r v5 ⟨rfl, hv5⟩
            obtain rfl : w6 = v5 := hv5.symm
            rw [HN6.out]
            go_wp2_with fail
            refine (count_calls _ _ _ _ HO6.out.kin.sd.sk).mono ?_
            rintro r v5 ⟨rfl, hv5⟩
            obtain rfl : w6 = v5 := hv5.symm
            rw [HN6.out]
            go_wp2_with fail
            refine (count_calls _ _ _ _ HO6.out.kin.sd.sk).mono ?_
            rintro r v5 ⟨rfl, hv5⟩
            obtain rfl : w6 = v5 := hv5.symm
            rw [HN6.out]
            go_wp2_with fail
            refine (gen_calls _ _ _ _ HO6.out.kin.sd.sk).mono ?_
            rintro r v5 ⟨rfl, hv5⟩
            obtain rfl : w6 = v5 := hv5.symm
            go_wp2_with fail
            refine (count_calls _ _ _ _ HO6.out.kin.sd.sk).mono ?_
            rintro r v5 ⟨rfl, hv5⟩
            obtain rfl : w6 = v5 := hv5.symm
            rw [HN6.out]
            go_wp2_with fail
            have HO8 := HO6
            have HQ8 := Lib.hid (HEQ.out.trans HE6.out.symm)
            have hesn : es.length = N := HESL.out
            have HES8 := Lib.hid hesn
            clear hesn
            obtain ⟨w8, hw8⟩ : ∃ x, x = w6 := ⟨_, rfl⟩
            subst hw8
            have HLS8 := HL6
            -- what was committed is held against the sink: s the sink's address, S6 the sink, es what was kept, N how many, in w8; last the last pairs, HRL.out that they read, L6 S6 D6 of OI
            go_loopw [15] (fun kv wr => ∃ q : Nat, q ≤ N ∧ kv = .int .i64 q ∧ Below w8.heap.size w8 wr) (fun kv _ => N - (intOf kv).toNat)
            case atStart => exact ⟨0, by omega, rfl, Below.refl _ _⟩
            case round =>
              obtain ⟨q, hq, rfl, hbq⟩ := hrel
              have HBQ := Lib.hid hbq
              by_cases hql : q < N
              · have hoq := HO8.out.below hbq
                have hes8 := HES8.out
                obtain ⟨y, hy⟩ : ∃ y, (es)[q]? = some y := ⟨_, List.getElem?_eq_getElem (by omega)⟩
                have hrow := hoq.was.row
                rw [hes8] at hrow
                obtain ⟨yb, hyb, hyc, hym, hycell⟩ := row_cell hrow q y.1 (by rw [List.getElem?_map, hy]; rfl)
                have hyr := hoq.was.els y (List.mem_of_getElem? hy)
                obtain ⟨x, hx, hxp⟩ := eps_at (S := S6) (i := q) (l := y.2) (by rw [← HQ8.out, List.getElem?_map, hy]; rfl)
                have hyl : y.2.length ≤ 1000000 := by
                  have h1 := hoq.kin.sg.le.2.2.2 x.2 (List.mem_map.2 ⟨x, List.mem_of_getElem? hx, rfl⟩)
                  have h2 := hoq.kin.cnt
                  rw [hxp] at h1
                  omega
                have HX := Lib.hid (epoch_calls w1.heap.size (s) q (S6) wr hoq.kin.sd.sk x hx (by rw [hxp]; exact hyl))
                have HXP := Lib.hid hxp
                have HYR := Lib.hid hyr
                clear hoq hes8 hy hrow hyr hx hxp hyl hbq
                first | subst hyb | (simp only [Option.some.injEq, Addr.mk.injEq, and_true] at hyb; subst hyb)
                go_wp2_with fail
                refine HX.out.mono ?_
                rintro r w9 ⟨ev9, rfl, hr9, hb9⟩
                rw [HXP.out] at hr9
                obtain ⟨ea9, ec9, rfl⟩ := own_slice hr9
                have HR9 := Lib.hid hr9
                have HB9 := Lib.hid hb9
                have hycell := cell_later hb9 hycell
                clear hr9 hb9
                go_wp2_with fail
                refine (samep_calls _ _ y.2 w9 (Rd.of_own HR9.out) (Rd.of_own (ownsRow_below HYR.out HB9.out (Nat.le_refl _)))).mono ?_
                rintro r w10 ⟨rfl, hb10⟩
                have HB10 := Lib.hid (HBQ.out.trans ((HB9.out.trans (hb10.mono HB9.out.size)).mono HBQ.out.size))
                clear hb10
                go_wp2_with fail
                go_roundw
                case rel => exact ⟨q + 1, by omega, by go_num, HB10.out⟩
                case measure => simp [intOf]; omega
              · have hqe : q = N := by omega
                go_wp2_with fail
                refine ⟨⟨i + 1, s, S6, L6, D6, _, es, last, (S6).gen, by omega, rfl, rfl, by go_num, HO8.out.below HBQ.out, HQ8.out, HLS8.out, Int.le_refl _, HRL.out⟩, by simp [intOf]; omega⟩
          · have z2 : (xk == 2) = false := by simpa using k2
            go_wp2_with fail
            refine (dcrash_calls (w1.heap.size + 2) w1.heap.size D pa pn pc W5 (by have := HO5.out.kin.sd.ld.disk; rw [HO5.out.ld] at this; exact this) HO5.out.kin.sg.gs.chg).mono ?_
            rintro r v6 ⟨rfl, nb, hnb, hT⟩
            have HT := Lib.hid hT
            clear hT
            go_wp2_with fail
            refine (sopen_back w1.heap.size (w1.heap.size + 2) nb L D xs S.m v6 HT.out.is HO5.out.kin.sg.gs HO5.out.kin.sg.gl HO5.out.kin.names.1 HO5.out.kin.names.2 HO5.out.ln HO5.out.lr HO5.out.kin.sg.pl HO5.out.kin.sg.ok (by have := HO5.out.kin.cnt; omega) (HO5.out.kin.vars.below (HT.out.only.below HO5.out.kin.size (fun j hj hf => by have := (HO5.out.kin.sd.foot_lt (.inr (.inr (by rw [HO5.out.ld]; exact hf)))).1; omega)) H51.out) H51.out (by have := HT.out.only.size; have := HO5.out.kin.size; omega)).mono ?_
            rintro r w6 ⟨s6, S6, L6, rfl, hsd, hm, hsg, h1, h2, h3, hon, hfo⟩
            have HO6 := Lib.hid ((HO5.out.reopen HT.out hsd hm hsg h1 h2 h3 hon hfo).less (k' := 8 * (60 - (i + 1))) (by omega))
            have HE6 := Lib.hid (show S6.m.eps = S.m.eps by rw [hm])
            have HU6 := Lib.hid (show S.m.gen ≤ S6.m.gen by rw [hm]; exact Int.le_refl _)
            have HL6 := Lib.hid (show S6.prep = true → S6.pairs = last from fun h => by
              have e1 : S6.pairs = S.pairs := congrArg SM.pairs hm
              have e2 : S6.prep = S.prep := congrArg SM.prep hm
              exact e1.trans (HPL.out (e2.symm.trans h)))
            clear hsd hm hsg h1 h2 h3 hon hfo
            go_wp2_with fail
            -- nothing was committed: s6 the sink's address, S6 the sink, in w6 (HO6, HE6, HU6, HL6)
            have hg6 : decide ((S6).gen < g) = false := decide_eq_false (by have h1 := HGE.out; have h2 := HU6.out; have e1 : (S6).m.gen = (S6).gen := rfl; have e2 : S.m.gen = S.gen := rfl; omega)
            have HN6 := Lib.hid (show (S6).eps.length = N from by have e := congrArg List.length HE6.out; simp only [Sk.m, List.length_map] at e; rw [e]; exact HN.out)
            refine (gen_calls _ _ _ _ HO6.out.kin.sd.sk).mono ?_
            rintro r v5 ⟨rfl, hv5⟩
            obtain rfl : w6 = v5 := hv5.symm
            go_wp2_with fail
            refine (count_calls _ _ _ _ HO6.out.kin.sd.sk).mono ?_
            rintro r v5 ⟨rfl, hv5⟩
            obtain rfl : w6 = v5 := hv5.symm
            rw [HN6.out]
            go_wp2_with fail
            refine (count_calls _ _ _ _ HO6.out.kin.sd.sk).mono ?_
            rintro r v5 ⟨rfl, hv5⟩
            obtain rfl : w6 = v5 := hv5.symm
            rw [HN6.out]
            go_wp2_with fail
            refine (count_calls _ _ _ _ HO6.out.kin.sd.sk).mono ?_
            rintro r v5 ⟨rfl, hv5⟩
            obtain rfl : w6 = v5 := hv5.symm
            rw [HN6.out]
            go_wp2_with fail
            refine (gen_calls _ _ _ _ HO6.out.kin.sd.sk).mono ?_
            rintro r v5 ⟨rfl, hv5⟩
            obtain rfl : w6 = v5 := hv5.symm
            go_wp2_with fail
            refine (count_calls _ _ _ _ HO6.out.kin.sd.sk).mono ?_
            rintro r v5 ⟨rfl, hv5⟩
            obtain rfl : w6 = v5 := hv5.symm
            rw [HN6.out]
            go_wp2_with fail
            have HO8 := HO6
            have HQ8 := Lib.hid (HEQ.out.trans HE6.out.symm)
            have hesn : es.length = N := HESL.out
            have HES8 := Lib.hid hesn
            clear hesn
            obtain ⟨w8, hw8⟩ : ∃ x, x = w6 := ⟨_, rfl⟩
            subst hw8
            have HLS8 := HL6
            -- what was committed is held against the sink: s6 the sink's address, S6 the sink, es what was kept, N how many, in w8; last the last pairs, HRL.out that they read, L6 S6 (crD D nb) of OI
            go_loopw [15] (fun kv wr => ∃ q : Nat, q ≤ N ∧ kv = .int .i64 q ∧ Below w8.heap.size w8 wr) (fun kv _ => N - (intOf kv).toNat)
            case atStart => exact ⟨0, by omega, rfl, Below.refl _ _⟩
            case round =>
              obtain ⟨q, hq, rfl, hbq⟩ := hrel
              have HBQ := Lib.hid hbq
              by_cases hql : q < N
              · have hoq := HO8.out.below hbq
                have hes8 := HES8.out
                obtain ⟨y, hy⟩ : ∃ y, (es)[q]? = some y := ⟨_, List.getElem?_eq_getElem (by omega)⟩
                have hrow := hoq.was.row
                rw [hes8] at hrow
                obtain ⟨yb, hyb, hyc, hym, hycell⟩ := row_cell hrow q y.1 (by rw [List.getElem?_map, hy]; rfl)
                have hyr := hoq.was.els y (List.mem_of_getElem? hy)
                obtain ⟨x, hx, hxp⟩ := eps_at (S := S6) (i := q) (l := y.2) (by rw [← HQ8.out, List.getElem?_map, hy]; rfl)
                have hyl : y.2.length ≤ 1000000 := by
                  have h1 := hoq.kin.sg.le.2.2.2 x.2 (List.mem_map.2 ⟨x, List.mem_of_getElem? hx, rfl⟩)
                  have h2 := hoq.kin.cnt
                  rw [hxp] at h1
                  omega
                have HX := Lib.hid (epoch_calls w1.heap.size (s6) q (S6) wr hoq.kin.sd.sk x hx (by rw [hxp]; exact hyl))
                have HXP := Lib.hid hxp
                have HYR := Lib.hid hyr
                clear hoq hes8 hy hrow hyr hx hxp hyl hbq
                first | subst hyb | (simp only [Option.some.injEq, Addr.mk.injEq, and_true] at hyb; subst hyb)
                go_wp2_with fail
                refine HX.out.mono ?_
                rintro r w9 ⟨ev9, rfl, hr9, hb9⟩
                rw [HXP.out] at hr9
                obtain ⟨ea9, ec9, rfl⟩ := own_slice hr9
                have HR9 := Lib.hid hr9
                have HB9 := Lib.hid hb9
                have hycell := cell_later hb9 hycell
                clear hr9 hb9
                go_wp2_with fail
                refine (samep_calls _ _ y.2 w9 (Rd.of_own HR9.out) (Rd.of_own (ownsRow_below HYR.out HB9.out (Nat.le_refl _)))).mono ?_
                rintro r w10 ⟨rfl, hb10⟩
                have HB10 := Lib.hid (HBQ.out.trans ((HB9.out.trans (hb10.mono HB9.out.size)).mono HBQ.out.size))
                clear hb10
                go_wp2_with fail
                go_roundw
                case rel => exact ⟨q + 1, by omega, by go_num, HB10.out⟩
                case measure => simp [intOf]; omega
              · have hqe : q = N := by omega
                go_wp2_with fail
                refine ⟨⟨i + 1, s6, S6, L6, (crD D nb), _, es, last, (S6).gen, by omega, rfl, rfl, by go_num, HO8.out.below HBQ.out, HQ8.out, HLS8.out, Int.le_refl _, HRL.out⟩, by simp [intOf]; omega⟩
    · by_cases hi1 : i < ss.length
      · have hi2 : ¬ i < 60 := fun h => hin ⟨hi1, h⟩
        clear hin d2
        go_wp2_with fail
        refine (count_calls _ _ _ _ HO.out.kin.sd.sk).mono ?_
        rintro r v5 ⟨rfl, hv5⟩
        obtain rfl : wr = v5 := hv5.symm
        rw [HN.out]
        go_wp2_with fail
        go_ret
        exact ⟨rfl, HBW.out.trans (HO.out.low.mono HBW.out.size)⟩
      · clear hin d2
        go_wp2_with fail
        refine (count_calls _ _ _ _ HO.out.kin.sd.sk).mono ?_
        rintro r v5 ⟨rfl, hv5⟩
        obtain rfl : wr = v5 := hv5.symm
        rw [HN.out]
        go_wp2_with fail
        go_ret
        exact ⟨rfl, HBW.out.trans (HO.out.low.mono HBW.out.size)⟩
end Go.Proofs.YthgmligpconhhaaGreatDoor
