/- Walks and plain laws of the chapter, laid together; each part says what it proves. -/
import Derived.SliceStrings
import Derived.Test.YtmafnjidhjabgaaPkA
import Derived.Test.YtmafnjidhjabgaaPkL
import Derived.Test.YtmafnjidhjabgaaPkN
import Derived.Test.YtmafnjidhjabgaaPkO
/- Layer 22: a tree that lives: put, delete, and the commit of a leaf, as contracts of its state. -/
namespace Go.Proofs.Ytmafnjidhjabgaa
open Go.RowKit Go.Shelf
set_option linter.unusedVariables false
set_option linter.unusedSectionVars false
set_option linter.unusedSimpArgs false
set_option maxRecDepth 100000
variable [Inhabited Pgs]

/-! ### blocks of a tree's own types -/
def TyB (w : World) (j : Nat) : Prop := IsT 91 w j ∨ IsT 9 w j ∨ IsT 63 w j
theorem TyB.lt {w : World} {j : Nat} (h : TyB w j) : j < w.heap.size := h.elim (·.lt) (fun h => h.elim (·.lt) (·.lt))
theorem TyB.ne {w : World} {j : Nat} (h : TyB w j) {T : TypeId} (k : IsT T w j) (h1 : T ≠ 91) (h2 : T ≠ 9) (h3 : T ≠ 63) : False := by
  rcases h with h | h | h
  · exact h1 (k.eq h)
  · exact h2 (k.eq h)
  · exact h3 (k.eq h)
theorem TyB.u8 {w : World} {j : Nat} (h : TyB w j) : ¬ IsU8 w j := fun k => h.ne (T := 5) k (by decide) (by decide) (by decide)
theorem notMap {w : World} {r j : Nat} {m : Ents} (h : MapIs w r m) (e : j = r) : ¬ TyB w j := by
  subst e
  rintro (⟨cs, x, hc⟩ | ⟨cs, x, hc⟩ | ⟨cs, x, hc⟩)
  · exact h.cell cs _ x hc
  · exact h.cell cs _ x hc
  · exact h.cell cs _ x hc
theorem TyB.foot {w : World} {B d : Nat} {D : Dk} (h : DiskAt w B d D) {j : Nat} (k : TyB w j) : ¬ D.foot d j := by
  rintro (hj | hj | hj | hj)
  · exact k.ne (T := 58) (IsT.of_own h.box (j := j) (by rw [hj]; rfl)) (by decide) (by decide) (by decide)
  · exact notMap h.nowM hj k
  · exact notMap h.durM hj k
  · exact k.ne (T := 96) (IsT.of_own h.row hj) (by decide) (by decide) (by decide)
theorem Row.typ {w : World} {F : Nat → Prop} {T : TypeId} {v : Value} {n : Nat} {cs : List Value} (h : Row w F T v n cs) (hT : T = 9 ∨ T = 63) : Row w (fun k => F k ∧ TyB w k) T v n cs :=
  ⟨h.rd, fun a k c e => ⟨⟨(h.ty a k c e).1, by
    have := (h.ty a k c e).2
    rcases hT with rfl | rfl
    · exact .inr (.inl this)
    · exact .inr (.inr this)⟩, (h.ty a k c e).2⟩⟩
theorem NdAt.typ {w : World} {F : Nat → Prop} {p : Nat} {kv vv cv : Value} {es : List KV} {ps : List Nat} (h : NdAt w F p kv vv cv es ps) : NdAt w (fun k => F k ∧ TyB w k) p kv vv cv es ps :=
  ⟨⟨h.inF, .inl h.ty⟩, h.c0, h.c1, h.c2, h.c3, h.fz, h.ty, h.rk.typ (.inl rfl), h.rv.typ (.inl rfl), h.rc.typ (.inr rfl)⟩
theorem TreeAt.typ {w : World} {F : Nat → Prop} : ∀ {h : Nat} {t : BT h} {p : Nat}, TreeAt w F h t p → TreeAt w (fun k => F k ∧ TyB w k) h t p
  | 0, t, p, h => by
    obtain ⟨kv, vv, cv, hn⟩ := h
    exact ⟨kv, vv, cv, hn.typ⟩
  | h + 1, t, p, ht => by
    obtain ⟨kv, vv, cv, ps, hn, hl, hk⟩ := ht
    exact ⟨kv, vv, cv, ps, hn.typ, hl, fun i c q hc hq => TreeAt.typ (hk i c q hc hq)⟩
theorem RootAt.typ {w : World} {F : Nat → Prop} {r : Root} {now : Option Addr} (h : RootAt w F r now) : RootAt w (fun k => F k ∧ TyB w k) r now := by
  cases r with
  | none => exact h
  | some ht =>
    obtain ⟨h', t⟩ := ht
    obtain ⟨p, e, ht⟩ := h
    exact ⟨p, e, ht.typ⟩
theorem RootAt.mono {w : World} {F G : Nat → Prop} {r : Root} {now : Option Addr} (h : RootAt w F r now) (hFG : ∀ k, F k → G k) : RootAt w G r now := by
  cases r with
  | none => exact h
  | some ht =>
    obtain ⟨h', t⟩ := ht
    obtain ⟨p, e, ht⟩ := h
    exact ⟨p, e, ht.mono hFG⟩
theorem RootAt.fr {w w' : World} {F : Nat → Prop} {r : Root} {now : Option Addr} (h : RootAt w F r now) (hf : Fr F w w') : RootAt w' F r now := by
  cases r with
  | none => exact h
  | some ht =>
    obtain ⟨h', t⟩ := ht
    obtain ⟨p, e, ht⟩ := h
    exact ⟨p, e, ht.fr hf⟩

/-- A tree that lives: its block, and the root that its now leads to, in blocks of F. -/
structure TS (w : World) (B T d : Nat) (t : Tr) (F : Nat → Prop) (r : Root) : Prop where
  tr : TrAt w B T d t
  root : RootAt w F r t.now
  ok : ROk r
  typ : ∀ j, F j → TyB w j
theorem TS.hF {w : World} {B T d : Nat} {t : Tr} {F : Nat → Prop} {r : Root} (h : TS w B T d t F r) : ∀ j, F j → j < w.heap.size := fun j hj => (h.typ j hj).lt
theorem TS.hTF {w : World} {B T d : Nat} {t : Tr} {F : Nat → Prop} {r : Root} (h : TS w B T d t F r) : ¬ F T := fun hj => (h.typ T hj).ne (IsT.of_own h.tr (j := T) rfl) (by decide) (by decide) (by decide)
theorem TyB.only {S : Nat → Prop} {w w' : World} {j : Nat} (h : TyB w j) (ho : Only S w w') (hS : ¬ S j) : TyB w' j := by
  have hb := ho.block j h.lt hS
  rcases h with ⟨cs, x, hc⟩ | ⟨cs, x, hc⟩ | ⟨cs, x, hc⟩
  · exact .inl ⟨cs, x, hb.trans hc⟩
  · exact .inr (.inl ⟨cs, x, hb.trans hc⟩)
  · exact .inr (.inr ⟨cs, x, hb.trans hc⟩)
theorem TS.only {S : Nat → Prop} {w w' : World} {B T d : Nat} {t : Tr} {F : Nat → Prop} {r : Root} (h : TS w B T d t F r) (ho : Only S w w') (hS : ∀ j, F j → ¬ S j) (hT : ¬ S T) : TS w' B T d t F r :=
  ⟨h.tr.only ho hT, h.root.fr (Fr.of_only ho (fun k hk _ => hS k hk)), h.ok, fun j hj => (h.typ j hj).only ho (hS j hj)⟩
theorem TS.below {w w' : World} {B T d : Nat} {t : Tr} {F : Nat → Prop} {r : Root} (h : TS w B T d t F r) (hb : Below w.heap.size w w') : TS w' B T d t F r :=
  h.only (S := fun _ => False) (Only.of_below hb) (fun _ _ h => h) (fun h => h)
theorem TS.new {w : World} {B T d : Nat} {t : Tr} (h : TrAt w B T d t) (hn : t.now = none) : TS w B T d t (fun _ => False) none := ⟨h, hn, trivial, fun _ h => h.elim⟩
/-- What a step leaves that turned the tree's now. -/
def Stepped (w w' : World) (B T d : Nat) (t : Tr) (F : Nat → Prop) (r : Root) : Prop := (∃ now F', TS w' B T d { t with now := now } F' r ∧ ∀ j, F' j → F j ∨ w.heap.size ≤ j) ∧ Only (fun j => j = T) w w'
theorem TS.turn {w w' : World} {B T d : Nat} {t : Tr} {F : Nat → Prop} {r r' : Root} (h : TS w B T d t F r) (ok : ROk r') (hw : Turned6 w F T r' w') : Stepped w w' B T d t F r' := by
  obtain ⟨now, u, hb, rfl, hr⟩ := hw
  refine ⟨⟨now, fun k => (F k ∨ w.heap.size ≤ k) ∧ TyB (u.setCell ⟨T, 6, none⟩ (.pointer now)) k, ⟨(h.tr.below hb).setNow now, hr.typ, ok, fun j hj => hj.2⟩, fun j hj => hj.1⟩, ?_⟩
  exact (Only.of_below (S := fun j => j = T) hb).setCell _ _ (.inl rfl)
theorem tput_step {w : World} {B T d : Nat} {t : Tr} {F : Nat → Prop} {r : Root} (h : TS w B T d t F r) (k v : Str) (hk : k.length ≤ 4096) (hv : v.length ≤ 4096) :
    Calls Try.prog 9 #[.pointer (some ⟨T, 0, none⟩), .string (bstr k), .string (bstr v)] w fun e w' => e = .returned (.int .i64 0) ∧ Stepped w w' B T d t F (rput k v r) := by
  obtain ⟨-, -, -, -, -, -, c6, -, fz⟩ := h.tr.at
  refine (tput_calls F r T t.now k v w h.hF h.hTF h.root h.ok c6 (fz 6) hk hv).mono ?_
  rintro e w' ⟨rfl, hw⟩
  exact ⟨rfl, h.turn (rput_spec k v h.ok).2 hw⟩
def DelR (w w' : World) (B T d : Nat) (t : Tr) (F : Nat → Prop) (k : Str) (r : Root) (e : Ending) : Prop :=
  ((look k (rflat r)).isSome = false ∧ e = .returned (.tuple #[.bool false, .int .i64 0]) ∧ w' = w) ∨ ((look k (rflat r)).isSome = true ∧ e = .returned (.tuple #[.bool true, .int .i64 0]) ∧ Stepped w w' B T d t F (rdel k r))
theorem look_mem {k : Str} {l : List KV} (h : (look k l).isSome = true) : ∃ v, (k, v) ∈ l := by
  refine Classical.byContradiction fun hn => ?_
  have h1 : look k l = none := look_no (fun e he hk => hn ⟨e.2, by rw [← hk]; exact he⟩)
  rw [h1] at h
  cases h
theorem tdel_step {w : World} {B T d : Nat} {t : Tr} {F : Nat → Prop} {r : Root} (h : TS w B T d t F r) (k : Str) :
    Calls Try.prog 13 #[.pointer (some ⟨T, 0, none⟩), .string (bstr k)] w fun e w' => DelR w w' B T d t F k r e := by
  obtain ⟨-, -, -, -, -, -, c6, -, fz⟩ := h.tr.at
  refine (tdel_calls F r T t.now k w h.hF h.hTF h.root h.ok c6 (fz 6)).mono ?_
  rintro e w' (⟨h1, rfl, rfl⟩ | ⟨h1, rfl, hw⟩)
  · exact .inl ⟨h1, rfl, rfl⟩
  · exact .inr ⟨h1, rfl, h.turn (rdel_spec k h.ok (look_mem h1)).2 hw⟩
theorem DiskAt.turned {w w' : World} {B Bd T d : Nat} {D : Dk} {t : Tr} (h : DiskAt w Bd d D) (ht : TrAt w B T d t) (hT : ¬ D.foot d T) (ho : Only (fun j => j = T) w w') : DiskAt w' Bd d D :=
  h.only ho (fun j e hf => hT (e ▸ hf)) (fun j e hu => absurd ((IsT.of_own ht (j := j) (by rw [e]; rfl)).eq hu) (by decide))
/-! ### the first commit, of a leaf -/
theorem TyB.fr {F : Nat → Prop} {w w' : World} {j : Nat} (h : TyB w j) (hf : Fr F w w') (hj : F j) : TyB w' j := by
  rcases h with h | h | h
  · exact .inl (h.fr hf hj)
  · exact .inr (.inl (h.fr hf hj))
  · exact .inr (.inr (h.fr hf hj))
def LJ (F : Nat → Prop) (t0 : List KV) (now : Option Addr) (i : Nat) (xs : List UInt8) (ats : List Int) (w : World) : Prop :=
  (RootAt w F (some ⟨0, t0⟩) now ∧ ∀ j, F j → TyB w j) ∧ ((i = 0 ∧ xs = [] ∧ ats = []) ∨ (i = 1 ∧ xs.length ≤ 65548 ∧ ∃ a, ats = [a] ∧ 0 ≤ a ∧ a ≤ 1099511627776))
theorem leaf_pager (hP : ∀ p pg, (default : Pgs).ok p pg ↔ (0 ≤ pg ∧ pg ≤ 1099511627776)) (F : Nat → Prop) (t0 : List KV) (now : Option Addr) (tag : Int) (N size : Nat) (hF : ∀ j, F j → j < N) (he : ∀ e ∈ t0, e.1.length ≤ 4096 ∧ e.2.length ≤ 4096) (h7 : t0.length ≤ 7) (hs : size ≤ 4096) :
    Pager F (LJ F t0 now) [(tag, now)] N size := by
  refine ⟨?_, ?_, ?_⟩
  · rintro i xs ats W W' ⟨⟨h1, h3⟩, h2⟩ ho
    have hf : Fr F W W' := Fr.of_only ho (fun k hk _ h => h hk)
    exact ⟨⟨h1.fr hf, fun j hj => (h3 j hj).fr hf hj⟩, h2⟩
  · rintro i xs ats W ⟨h1, ⟨rfl, rfl, rfl⟩ | ⟨rfl, hx, a, rfl, ha, hb⟩⟩
    · exact ⟨by simp, rfl, fun a h => by cases h⟩
    · exact ⟨by omega, rfl, fun x hx => by rw [List.mem_singleton.1 hx]; exact ⟨by omega, by omega⟩⟩
  · rintro i hi xs ats b W ⟨⟨h1, h3⟩, h2⟩ hb hN
    obtain rfl : i = 0 := by simp at hi; exact hi
    obtain ⟨-, rfl, rfl⟩ : (0 : Nat) = 0 ∧ xs = [] ∧ ats = [] := by
      rcases h2 with h | ⟨h, -⟩
      · exact h
      · cases h
    obtain ⟨p, hp, kv, vv, cv, hn⟩ := h1
    obtain ⟨ba, bc, rfl⟩ := own_slice hb
    have hbn : ∀ j, F j → (Value.slice ba ([] : List UInt8).length bc).ownBlock ≠ some j := fun j hj e => by
      have := (World.ownsRow.lt hb j e).1
      have := hF j hj
      omega
    obtain ⟨pg, hc, hok⟩ := hn.c3
    subst hp
    rcases hok with rfl | hok
    · refine (write_leaf F p kv vv cv t0 _ [] N size W hn hc hb (hbn p hn.inF) hbn he h7 (by simp) (by omega) hN (.inr ((hP _ _).2 ⟨by omega, by simp; omega⟩))).mono ?_
      rintro e w' ⟨b', rfl, ho, hfr, hon, -⟩
      refine ⟨b', _, Fr.FrM.frameOf (enc (nodeE t0 [])), rfl, ho, ⟨⟨⟨p, rfl, kv, vv, cv, hn.fr hfr⟩, fun j hj => (h3 j hj).fr hfr hj⟩, .inr ⟨rfl, ?_, _, rfl, by omega, by simp; omega⟩⟩, hon.weak (fun j _ h => by
        rcases h with rfl | h
        · exact .inl hn.inF
        · exact .inr h)⟩
      have h1 := Fr.FrM.frameOf_length (enc (nodeE t0 []))
      have h2 := nodeE_len (es := t0) (ks := []) he h7 (by simp)
      rw [List.nil_append]
      omega
    · obtain ⟨h0, h1⟩ := (hP _ _).1 hok
      refine (write_old p pg _ bc ba (size : Nat) W hc h0).mono ?_
      rintro e w' ⟨rfl, hbw⟩
      exact ⟨_, pg, [], rfl, ownsRow_below hb hbw (Nat.le_refl _), ⟨⟨⟨p, rfl, kv, vv, cv, hn.fr (Fr.of_below hbw)⟩, fun j hj => (h3 j hj).fr (Fr.of_below (F := F) hbw) hj⟩, .inr ⟨rfl, by simp, pg, rfl, h0, h1⟩⟩, Only.of_below hbw⟩
/-- What the first commit leaves. -/
structure Com1 (w w' : World) (B T d Bd Bs : Nat) (t : Tr) (F : Nat → Prop) (r : Root) (tag : Int) : Prop where
  it : ∃ rv size s D, TS w' B T d { t with rv := rv, size := size } F r ∧ w'.ownsRow w.heap.size 81 2 rv 1 (flatF Rt.cells [(tag, t.now)]) ∧ SlotAt w' Bs t.sl d s ∧ DiskAt w' Bd d D
  lo : Below B w w'
theorem commit_leaf (hP : ∀ p pg, (default : Pgs).ok p pg ↔ (0 ≤ pg ∧ pg ≤ 1099511627776)) {w : World} {B T d Bd Bs : Nat} {t : Tr} {s : Sl} {D : Dk} {F : Nat → Prop} {t0 : List KV} (h : TS w B T d t F (some ⟨0, t0⟩)) (hs : SlotAt w Bs t.sl d s) (hd : DiskAt w Bd d D)
    (hFB : ∀ j, F j → B ≤ j) (hsB : B ≤ Bs) (hdB : B ≤ Bd) (he : ∀ e ∈ t0, e.1.length ≤ 4096 ∧ e.2.length ≤ 4096) (h7 : t0.length ≤ 7) (hrv : t.rv = .slice none 0 0) (hsz : t.size = 0) (hfl : t.file = 0) (hbr : t.broken = false) (hfit : Fit D 72000) (hchg : D.chg.length ≤ 800000) (hTd : ¬ D.foot d T) (hsd : ¬ D.foot d t.sl) (hTs : T ≠ t.sl)
    (hnm : t.nm.size ≤ 10) (hsn : s.nm.size ≤ 10) (hsb : s.broken = false) (hver : s.ver ≤ 1000000000) (hg1 : goodNm (tfn t.nm t.file).data.toList = true) (hg2 : goodNm (sfn s.nm (toOf s)).data.toList = true) (tag : Int) (h0 : 0 ≤ tag) (h1 : tag ≤ 9223372036854775807) :
    Calls Try.prog 18 #[.pointer (some ⟨T, 0, none⟩), .int .i64 tag] w fun e w' => e = .returned (.int .i64 0) ∧ Com1 w w' B T d Bd Bs t F (some ⟨0, t0⟩) tag := by
  have hsF : ¬ F t.sl := fun hj => (h.typ _ hj).ne (IsT.of_own hs (j := t.sl) rfl) (by decide) (by decide) (by decide)
  have hdF : ∀ j, F j → ¬ D.foot d j := fun j hj => (h.typ j hj).foot hd
  refine (commit_calls F (LJ F t0 t.now) T d Bd B Bs t s D [] tag w h.tr hs hd h.hF h.hTF hsF hdF (fun j hj => (h.typ j hj).u8) (by rw [hrv]; exact Rd.nil _ _) (by simp) (fun r hr => by cases hr) h0 h1 (fun r hr => by cases hr)
    (fun N hN => leaf_pager hP F t0 t.now tag N t.size (fun j hj => Nat.lt_of_lt_of_le (h.hF j hj) hN) he h7 (by omega)) ⟨⟨h.root, h.typ⟩, .inl ⟨rfl, rfl, rfl⟩⟩ (by omega) hbr (by omega) 70000 ?_ hfit hchg (by omega) hTd hsd hTs hnm hsn hsb hver hg1 hg2).mono ?_
  · rintro i xs ats W ⟨-, ⟨-, rfl, -⟩ | ⟨-, hx, -⟩⟩
    · simp
    · omega
  · rintro e w' ⟨rfl, ⟨xs, ats, rv, D', hj, hrow, hsv⟩⟩
    refine ⟨rfl, ⟨rv, _, _, D', ⟨hsv.tree, hj.1.1, h.ok, hj.1.2⟩, hrow, hsv.slot, hsv.disk⟩, hsv.only.below (by have := h.tr.lt; omega) (fun j hjB hj => ?_)⟩
    rcases hj with hj | hj | rfl | rfl
    · have := hFB j hj; omega
    · have := (hd.foot_lt hj).1; omega
    · have := hs.lt.1; omega
    · have := h.tr.lt.1; omega
end Go.Proofs.Ytmafnjidhjabgaa

/- Layer 22: the chapter's example, walked. -/
namespace Go.Proofs.Ytmafnjidhjabgaa
open Go.RowKit Go.Shelf
set_option linter.unusedVariables false
set_option linter.unusedSectionVars false
set_option linter.unusedSimpArgs false
set_option maxRecDepth 100000

instance pagesAny : Inhabited Pgs := ⟨⟨fun _ pg => 0 ≤ pg ∧ pg ≤ 1099511627776⟩⟩
theorem pagesAny_ok : ∀ p pg, (default : Pgs).ok p pg ↔ (0 ≤ pg ∧ pg ≤ 1099511627776) := fun _ _ => Iff.rfl
def nmT : ByteArray := ⟨#[116]⟩
theorem nmT_low : lowName nmT := by
  intro c hc
  simp [nmT] at hc
  subst hc
  decide
theorem nmT_good : goodNm (tfn nmT 0).data.toList = true ∧ goodNm (sfn nmT 0).data.toList = true := by decide
theorem root1 : rput [98] [50] none = some ⟨0, [([98], [50])]⟩ := by kernel_rfl
theorem root2 : rput [97] [49] (some ⟨0, [([98], [50])]⟩) = some ⟨0, [([97], [49]), ([98], [50])]⟩ := by kernel_rfl
theorem root3 : rdel [97] (some ⟨0, [([97], [49]), ([98], [50])]⟩) = some ⟨0, [([98], [50])]⟩ := by kernel_rfl
theorem TrAt.mono {w : World} {B B' T d : Nat} {t : Tr} (h : TrAt w B T d t) (hb : B' ≤ B) : TrAt w B' T d t := ownsRow_mono h hb
set_option maxHeartbeats 4000000 in
theorem known_calls (w : World) : Calls Try.prog 6 #[] w fun e w' => e = .returned (.bool true) ∧ Below w.heap.size w w' := by
  go_enter Try.func6, Try.ntmps6
  go_wp2_with fail
  refine (dnew_calls 1048576 w (by omega) (by omega)).mono ?_
  rintro e w1 ⟨rfl, hd1, hb1⟩
  have HB1 := Lib.hid hb1
  have HD1 := Lib.hid hd1
  have hs1 := hb1.size
  clear hd1 hb1
  go_wp2_with fail
  refine (topen_new (w.heap.size + 2) w.heap.size (newD 1048576 w.heap.size) nmT w1 HD1.out (by decide) (by decide) nmT_low (fun i hi => by simp [newD, fileOf, mget]) (fun i hi => by simp [newD, fileOf, mget]; decide) (fun i hi => rfl)).mono ?_
  rintro e w2 ⟨T, sl, rfl, ht2, hsl2, hb2⟩
  have HD2 := Lib.hid (HD1.out.below hb2)
  have HB2 := Lib.hid (HB1.out.trans (hb2.mono hs1))
  have HS2 := Lib.hid hsl2
  have HT2 := Lib.hid (TS.new (ht2.mono hs1) rfl)
  have hTl := ht2.lt
  have hsll := hsl2.lt
  have hTs : T ≠ sl := fun e => absurd ((IsT.of_own ht2 (j := T) rfl).eq (IsT.of_own hsl2 (j := T) (by rw [e]; rfl))) (by decide)
  have hTd : ¬ (newD 1048576 w.heap.size).foot (w.heap.size + 2) T := fun h => by have := (HD1.out.foot_lt h).2; omega
  have hsd : ¬ (newD 1048576 w.heap.size).foot (w.heap.size + 2) sl := fun h => by have := (HD1.out.foot_lt h).2; omega
  have HX := Lib.hid (And.intro hTs (And.intro hTd hsd))
  clear ht2 hsl2 hb2 hTs hTd hsd
  go_wp2_with fail
  refine (tput_step HT2.out [98] [50] (by decide) (by decide)).mono ?_
  rintro e w3 ⟨rfl, ⟨now3, F3, ht3, hF3⟩, ho3⟩
  rw [root1] at ht3
  have HT3 := Lib.hid ht3
  have HF3 := Lib.hid hF3
  have HO3 := Lib.hid ho3
  have HD3 := Lib.hid (HD2.out.turned HT2.out.tr HX.out.2.1 ho3)
  have HS3 := Lib.hid (HS2.out.only ho3 (fun e => HX.out.1 e.symm))
  clear ht3 hF3 ho3
  go_wp2_with fail
  refine (tput_step HT3.out [97] [49] (by decide) (by decide)).mono ?_
  rintro e w4 ⟨rfl, ⟨now4, F4, ht4, hF4⟩, ho4⟩
  rw [root2] at ht4
  have HT4 := Lib.hid ht4
  have HD4 := Lib.hid (HD3.out.turned HT3.out.tr HX.out.2.1 ho4)
  have HS4 := Lib.hid (HS3.out.only ho4 (fun e => HX.out.1 e.symm))
  have hz3 := HO3.out.size
  have hz4 := ho4.size
  have hz2 := HB2.out.size
  have hFB := fun j (hj : F4 j) => show w.heap.size ≤ j from (hF4 j hj).elim (fun h => (HF3.out j h).elim (fun h => h.elim) (fun h => by omega)) (fun h => by omega)
  have HB4 := Lib.hid ((HB2.out.trans (HO3.out.below hz2 (fun j hj e => by omega))).trans (ho4.below (by omega) (fun j hj e => by omega)))
  have HFB := Lib.hid hFB
  clear ht4 hF4 ho4 hFB
  go_wp2_with fail
  refine (commit_leaf pagesAny_ok HT4.out HS4.out HD4.out HFB.out hs1 (Nat.le_refl _) (fun e he => by simp at he; rcases he with rfl | rfl <;> decide) (by decide) rfl rfl rfl rfl ⟨rfl, by simp [newD, usedOf], by simp [newD], by simp [newD]⟩ (by simp [newD]) HX.out.2.1 HX.out.2.2 HX.out.1 (show (1 : Nat) ≤ 10 by omega) (show (1 : Nat) ≤ 10 by omega) rfl (by simp [sNew]) nmT_good.1 nmT_good.2 3 (by omega) (by omega)).mono ?_
  rintro e w5 ⟨rfl, ⟨rv, size, s5, D5, ht5, hrow, hs5, hd5⟩, hlo5⟩
  have HT5 := Lib.hid ht5
  have hrow : w5.ownsRow w4.heap.size 81 2 rv 1 (flatF Rt.cells [(3, now4)]) := hrow
  have HR5 := Lib.hid hrow
  have HB5 := Lib.hid (HB4.out.trans hlo5)
  have hz5 := hlo5.size
  clear ht5 hs5 hd5 hlo5 hrow HB4 HFB HD4 HS4 HD3 HS3 HT3
  go_wp2_with fail
  refine (tdel_step HT5.out [97]).mono ?_
  rintro e w6 (⟨h, -, -⟩ | ⟨-, rfl, ⟨now6, F6, ht6, hF6⟩, ho6⟩)
  · exact absurd h (by decide)
  rw [root3] at ht6
  have HT6 := Lib.hid ht6
  have hz6 := ho6.size
  have HR6 := Lib.hid (ownsRow_only HR5.out ho6 (fun g hg e => by have := (World.ownsRow.lt HR5.out g hg).1; omega))
  have HB6 := Lib.hid (HB5.out.trans (ho6.below (by omega) (fun j hj e => by omega)))
  obtain ⟨-, -, -, -, -, -, c6, -, -⟩ := ht6.tr.at
  clear ht6 hF6 ho6
  go_wp2_with fail
  refine (tget_calls F6 _ T now6 [98] w6 HT6.out.root HT6.out.ok c6).mono ?_
  rintro e w7 ⟨rfl, hw7⟩
  obtain rfl : w6 = w7 := hw7.symm
  have hlk : look [98] (rflat (some ⟨0, [([98], [50])]⟩)) = some [50] := by decide
  rw [hlk]
  have hbt : (bstr [50]).toList = [50] := bstr_toList [50]
  go_wp2_with fail
  refine (len_calls F6 _ T now6 w6 HT6.out.root HT6.out.ok (by decide) c6).mono ?_
  rintro e w7 ⟨rfl, hb7⟩
  have HT7 := Lib.hid (HT6.out.below hb7)
  have HR7 := Lib.hid (ownsRow_below HR6.out hb7 (Nat.le_refl _))
  have HB7 := Lib.hid (HB6.out.trans (hb7.mono (by omega)))
  clear hb7 c6
  go_wp2_with fail
  refine (commit_low w.heap.size T (w.heap.size + 2) _ [] (3, now4) 3 w7 HT7.out.tr rfl (Rd.of_own HR7.out) (by omega) (by simp) (by simp)).mono ?_
  rintro e w8 ⟨rfl, hb8⟩
  have HB8 := Lib.hid (HB7.out.trans (hb8.mono HB7.out.size))
  clear hb8
  go_wp2_with fail
  go_ret
  exact ⟨rfl, HB8.out⟩
end Go.Proofs.Ytmafnjidhjabgaa

/- Layer 22: a put of what is too long; a range over a tree as one law over its rounds. -/
namespace Go.Proofs.Ytmafnjidhjabgaa
open Go.RowKit Go.Shelf
set_option linter.unusedVariables false
set_option linter.unusedSectionVars false
set_option linter.unusedSimpArgs false
set_option maxRecDepth 100000

theorem tput_long (T : Nat) (k v : Str) (w : World) (h : 4096 < k.length ∨ 4096 < v.length) : Calls Try.prog 9 #[.pointer (some ⟨T, 0, none⟩), .string (bstr k), .string (bstr v)] w fun e w' => e = .returned (.int .i64 2) ∧ w' = w := by
  have hks : (bstr k).size = k.length := rfl
  have hvs : (bstr v).size = v.length := rfl
  by_cases hk : 4096 < k.length
  · have d1 : decide ((4096 : Int) < (k.length : Int)) = true := decide_eq_true (by omega)
    go_enter Try.func9, Try.ntmps9
    go_wp2_with fail
    go_ret
    exact ⟨rfl, rfl⟩
  · have d1 : decide ((4096 : Int) < (k.length : Int)) = false := decide_eq_false (by omega)
    have hv : 4096 < v.length := h.resolve_left hk
    have d2 : decide ((4096 : Int) < (v.length : Int)) = true := decide_eq_true (by omega)
    go_enter Try.func9, Try.ntmps9
    go_wp2_with fail
    go_ret
    exact ⟨rfl, rfl⟩

/-- What a round leaves: below B all but X, and every block of cells but X. -/
structure Tn (X : Nat → Prop) (B : Nat) (W W' : World) : Prop where
  os : W'.os = W.os
  tape : W'.tape = W.tape
  output : W'.output = W.output
  size : W.heap.size ≤ W'.heap.size
  block : ∀ k, k < B → k < W.heap.size → ¬ X k → W'.heap[k]? = W.heap[k]?
  cells : ∀ k o, W.heap[k]? = some o → o.isCells = true → ¬ X k → W'.heap[k]? = some o
theorem Tn.of_calm {X : Nat → Prop} {B : Nat} {W W' : World} (h : Calm B W W') : Tn X B W W' := ⟨h.os, h.tape, h.output, h.size, fun k hk _ _ => h.block k hk, fun k o hk hc _ => h.cells k o hk hc⟩
theorem Tn.trans {X : Nat → Prop} {B : Nat} {a b c : World} (h : Tn X B a b) (k : Tn X B b c) : Tn X B a c :=
  ⟨k.os.trans h.os, k.tape.trans h.tape, k.output.trans h.output, Nat.le_trans h.size k.size, fun i hi hl hx => (k.block i hi (Nat.lt_of_lt_of_le hl h.size) hx).trans (h.block i hi hl hx), fun i o hi hc hx => k.cells i o (h.cells i o hi hc hx) hc hx⟩
theorem Tn.of_only {X : Nat → Prop} {B : Nat} {W W' : World} (h : Only X W W') : Tn X B W W' :=
  ⟨h.os, h.tape, h.output, h.size, fun k _ hl hx => h.block k hl hx, fun k o hk hc hx => (h.block k (Array.getElem?_eq_some_iff.1 hk).1 hx).trans hk⟩
/-- A range over a tree's closure, as a law over its rounds; what the rounds turn lies in X. -/
theorem tree_range {g : Operand} {ps : Array Tmp} {assign body : Code} {Q : Exit → Act → World → Prop} {a : Act} {V0 Y : World} (F : Nat → Prop) (r : Root) (T S : Nat) (now : Option Addr) (av bv : Str) (X : Nat → Prop) (I : List KV → World → Prop)
    (hg : a.eval g = .func (.func 32) #[] #[.pointer (some ⟨S, 0, none⟩), .pointer (some ⟨S + 1, 0, none⟩), .pointer (some ⟨S + 2, 0, none⟩)]) (hS : S = V0.heap.size)
    (hY : Y = ((V0.alloc (.cells #[.pointer (some ⟨T, 0, none⟩)] 28)).alloc (.cells #[.string (bstr av)] 9)).alloc (.cells #[.string (bstr bv)] 9))
    (hr : RootAt V0 F r now) (hok : ROk r) (hT : V0.cell? ⟨T, 6, none⟩ = some (.pointer now)) (hX : ∀ j, X j → ¬ F j ∧ j ≠ T ∧ j < S)
    (hI : ∀ l W W', Calm Y.heap.size W W' → I l W → I l W') (h0 : I (upTo bv (ge av (rflat r))) Y) (hps : ps.size = 2)
    (hbody : ∀ (l : Nat) (x : KV) (rest : List KV) (W : World), I (x :: rest) W → Only X V0 W → Y.heap.size ≤ W.heap.size →
      assign.wpIn (Fence.wide.inRound l) 0 Try.prog (Exit.then (fun a₁ W₁ => KeepsOthers W W₁ ∧ ∀ W₂, Calm Y.heap.size W₁ W₂ → body.wpIn (Fence.wide.inRound l) 0 Try.prog (roundEnds (fun W₃ => I rest W₃ ∧ Tn X Y.heap.size W W₃) (fun _ => False) (fun _ _ => False) W₂) a₁ W₂) (fun _ _ _ => False))
        { tmps := (ps.zip #[.string (bstr x.1), .string (bstr x.2)]).foldl (fun t (p, v) => t.setIfInBounds p v) a.tmps, defers := [] } W)
    (hdone : ∀ (D : Nat) (W : World), Y.heap.size ≤ D → I [] W → Only X V0 W → W.heap[D]? = some (.deferred (some [])) → Q .normal { a with defers := { target := .collected D, args := #[] } :: a.defers } W) :
    (Code.rangeFunc g ps assign body).wpIn Fence.wide 0 Try.prog Q a Y := by
  have hYs : Y.heap.size = S + 3 := by rw [hY, hS]; simp
  have hbY : Below V0.heap.size V0 Y := by rw [hY]; exact (((Below.refl _ _).alloc (Nat.le_refl _) _).alloc (by simp) _).alloc (by simp; omega) _
  have y0 : Y.cell? ⟨S, 0, none⟩ = some (.pointer (some ⟨T, 0, none⟩)) := by rw [hY, hS, World.cell?_alloc_past _ _ _ (by simp <;> omega), World.cell?_alloc_past _ _ _ (by simp), World.cell?_alloc_at _ _ _ _ rfl]; rfl
  have y1 : Y.cell? ⟨S + 1, 0, none⟩ = some (.string (bstr av)) := by rw [hY, hS, World.cell?_alloc_past _ _ _ (by simp), World.cell?_alloc_at _ _ _ _ (by simp)]; rfl
  have y2 : Y.cell? ⟨S + 2, 0, none⟩ = some (.string (bstr bv)) := by rw [hY, hS, World.cell?_alloc_at _ _ _ _ (by simp)]; rfl
  refine range_wx (σ := RSt) (gf := 32) (lb := #[.pointer (some ⟨S, 0, none⟩), .pointer (some ⟨S + 1, 0, none⟩), .pointer (some ⟨S + 2, 0, none⟩)]) hg (fun args w => enter_r Try.func32 (by kernel_rfl) rfl args w)
    (fun s W => I s.1 W ∧ Only X V0 W ∧ S + 3 ≤ W.heap.size ∧ W.cell? ⟨S, 0, none⟩ = some (.pointer (some ⟨T, 0, none⟩)) ∧ W.cell? ⟨S + 1, 0, none⟩ = some (.string (bstr av)) ∧ W.cell? ⟨S + 2, 0, none⟩ = some (.string (bstr bv)) ∧ ∀ p ∈ s.2, W.heap[p.1]? = some p.2 ∧ p.2.isCells = true ∧ S + 3 ≤ p.1)
    (fun _ _ => False) (RStep (S + 3)) (fun s => s.1 = []) (upTo bv (ge av (rflat r)), []) ?calm (fun _ _ _ _ h => h) ⟨h0, Only.of_below hbY, by omega, y0, y1, y2, fun p hp => absurd hp (by simp)⟩ ?iter ?body ?done (fun _ _ _ _ h => h.elim)
  case calm =>
    rintro s W W' hc ⟨h1, h2, h3, h4, h5, h6, h7⟩
    refine ⟨hI _ _ _ hc h1, h2.trans (T := fun k => Y.heap.size ≤ k) ⟨hc.os, hc.tape, hc.output, hc.size, fun k hk hn => hc.block k (by omega)⟩ (fun j hj h => by omega), Nat.le_trans h3 hc.size, hc.cell h4, hc.cell h5, hc.cell h6, fun p hp => ?_⟩
    obtain ⟨k1, k2, k3⟩ := h7 p hp
    exact ⟨hc.cells _ _ k1 k2, k2, k3⟩
  case iter =>
    intro ly J' Jx' W hm _ hJJ hxx hc hJ0 hy
    refine rng1_iter F r av bv T S (S + 1) (S + 2) ly (S + 3) now V0 J' Jx' W hr hok (by have := hc.size; omega) ?_ ?_ hm hy hJ0
    · intro s V hj
      obtain ⟨h1, h2, h3, h4, h5, h6, h7⟩ := hJJ _ _ hj
      exact ⟨⟨Fr.of_only h2 (fun k hk _ hx => (hX k hx).1 hk), h4, h5, h6, h2.cell (fun hx => (hX T hx).2.1 rfl) hT⟩, fun p hp => (h7 p hp).1⟩
    · intro V hx
      obtain ⟨c, h⟩ := hxx V hx
      exact h.elim
  case body =>
    rintro l s args s' W ⟨h1, h2, h3, h4, h5, h6, h7⟩ hst hsz
    have hst' := hst
    obtain ⟨x, hs, rfl, c, o, e1, e2, e3, e4⟩ := hst'
    refine ⟨by rw [hps]; rfl, ?_⟩
    rw [hs] at h1
    refine wpIn_mono (hbody l x s'.1 W h1 h2 hsz) ?_
    rintro e a₁ W₁ hp
    cases e <;> try exact (hp : False).elim
    obtain ⟨hk, hb⟩ := hp
    refine ⟨hk, fun W₂ hc => wpIn_mono (hb W₂ hc) ?_⟩
    rintro e a₂ W₃ hp
    cases e <;> try exact (hp : False).elim
    · obtain ⟨k1, k2, k3⟩ := hp
      have hcell : ∀ k v, S ≤ k → W.cell? ⟨k, 0, none⟩ = some v → W₃.cell? ⟨k, 0, none⟩ = some v := fun k v hk hc => by
        obtain ⟨ob, q1, q2⟩ := cells_of_cell hc
        rw [← hc]
        exact World.cell?_of_block ((k3.cells k ob q1 q2 (fun hx => by have := (hX k hx).2.2; omega)).trans q1.symm)
      refine ⟨k1, k2, ?_, Nat.le_trans h3 k3.size, hcell _ _ (Nat.le_refl _) h4, hcell _ _ (by omega) h5, hcell _ _ (by omega) h6, fun p hp => ?_⟩
      · exact h2.trans (T := fun k => X k ∨ Y.heap.size ≤ k) ⟨k3.os, k3.tape, k3.output, k3.size, fun k hk hn => k3.block k (by omega) hk (fun hx => hn (.inl hx))⟩ (fun j hj h => h.elim id (fun h => by omega))
      · rw [e1] at hp
        obtain rfl := List.mem_singleton.1 hp
        exact ⟨k3.cells _ _ e2 e3 (fun hx => by have := (hX _ hx).2.2; omega), e3, e4⟩
    · exact ⟨hp.1, hp.2⟩
    · exact ⟨hp.1, hp.2⟩
  case done =>
    rintro D s V hD hs ⟨h1, h2, -⟩ hK
    rw [hs] at h1
    exact hdone D V hD h1 h2 hK
end Go.Proofs.Ytmafnjidhjabgaa

/- Layer 22: CowtreeRanges, walked. -/
namespace Go.Proofs.Ytmafnjidhjabgaa
open Go.RowKit Go.Shelf
set_option linter.unusedVariables false
set_option linter.unusedSectionVars false
set_option linter.unusedSimpArgs false
set_option maxRecDepth 100000
attribute [local go_sem] Oper.semAt_some

theorem ins_len2 (k v : Str) (l : List KV) : (ins k v l).length ≤ l.length + 1 := by
  have : ∀ l : List KV, (l.filter (fun e => decide (e.1 < k))).length + (l.filter (fun e => decide (k < e.1))).length ≤ l.length := by
    intro l
    induction l with
    | nil => simp
    | cons e l ih =>
      by_cases h : e.1 < k
      · have h2 : ¬ k < e.1 := fun h2 => slt_irr k (slt_trans h2 h)
        rw [List.filter_cons_of_pos (by simpa using h), List.filter_cons_of_neg (by simpa using h2), List.length_cons, List.length_cons]
        omega
      · rw [List.filter_cons_of_neg (by simpa using h), List.length_cons]
        by_cases h2 : k < e.1
        · rw [List.filter_cons_of_pos (by simpa using h2), List.length_cons]; omega
        · rw [List.filter_cons_of_neg (by simpa using h2)]; omega
  unfold ins
  rw [List.length_append, List.length_cons]
  exact Nat.succ_le_succ (this l)
/-- The boxes of the law's own variables. -/
structure RB (w W : World) (T tb : Nat) (av cv : Str) : Prop where
  c0 : W.cell? ⟨w.heap.size, 0, none⟩ = some (.string (bstr av))
  c1 : W.cell? ⟨w.heap.size + 1, 0, none⟩ = some (.string (bstr cv))
  c2 : W.cell? ⟨w.heap.size + 2, 0, none⟩ = some (.bool false)
  f2 : W.frozen? ⟨w.heap.size + 2, 0, none⟩ = false
  ct : W.cell? ⟨tb, 0, none⟩ = some (.pointer (some ⟨T, 0, none⟩))
theorem RB.only {w W W' : World} {T tb : Nat} {av cv : Str} {X : Nat → Prop} (h : RB w W T tb av cv) (ho : Only X W W') (h0 : ¬ X w.heap.size) (h1 : ¬ X (w.heap.size + 1)) (h2 : ¬ X (w.heap.size + 2)) (ht : ¬ X tb) : RB w W' T tb av cv := by
  obtain ⟨ob, q, -⟩ := cells_of_cell h.c2
  exact ⟨ho.cell h0 h.c0, ho.cell h1 h.c1, ho.cell h2 h.c2, (ho.frozen (Array.getElem?_eq_some_iff.1 q).1 h2).trans h.f2, ho.cell ht h.ct⟩
theorem RB.below {w W W' : World} {T tb : Nat} {av cv : Str} (h : RB w W T tb av cv) (hb : Below W.heap.size W W') : RB w W' T tb av cv := h.only (X := fun _ => False) (Only.of_below hb) id id id id
theorem RB.calm {w W W' : World} {T tb B : Nat} {av cv : Str} (h : RB w W T tb av cv) (hc : Calm B W W') : RB w W' T tb av cv := ⟨hc.cell h.c0, hc.cell h.c1, hc.cell h.c2, (hc.frozen h.c2).trans h.f2, hc.cell h.ct⟩
def lastk (pre : List KV) : Str := match pre.getLast? with | some e => e.1 | none => []
theorem lastk_snoc (pre : List KV) (x : KV) : lastk (pre ++ [x]) = x.1 := by simp [lastk]
/-- While all keys from one on are told. -/
structure R1 (w W : World) (T tb lb nb : Nat) (av cv : Str) (L rest : List KV) : Prop where
  it : ∃ pre, pre ++ rest = L ∧ W.cell? ⟨lb, 0, none⟩ = some (.string (bstr (lastk pre))) ∧ W.frozen? ⟨lb, 0, none⟩ = false ∧ W.cell? ⟨nb, 0, none⟩ = some (.int .i64 (pre.length : Nat)) ∧ W.frozen? ⟨nb, 0, none⟩ = false
  box : RB w W T tb av cv
theorem R1.calm {w W W' : World} {T tb lb nb B : Nat} {av cv : Str} {L rest : List KV} (h : R1 w W T tb lb nb av cv L rest) (hc : Calm B W W') : R1 w W' T tb lb nb av cv L rest := by
  obtain ⟨pre, h1, h2, h3, h4, h5⟩ := h.it
  exact ⟨⟨pre, h1, hc.cell h2, (hc.frozen h2).trans h3, hc.cell h4, (hc.frozen h4).trans h5⟩, h.box.calm hc⟩
theorem Only.calm {X : Nat → Prop} {V0 W W' : World} {B : Nat} (h : Only X V0 W) (hc : Calm B W W') (hB : V0.heap.size ≤ B) : Only X V0 W' :=
  h.trans (T := fun k => B ≤ k) ⟨hc.os, hc.tape, hc.output, hc.size, fun k hk hn => hc.block k (by omega)⟩ (fun j hj h => by omega)
theorem upTo_sorted {c : Str} (hc : c.isEmpty = false) : ∀ {m : List KV}, Srt m → upTo c m = m.filter (fun e => decide (e.1 < c))
  | [], _ => rfl
  | x :: m, hs => by
    obtain ⟨h1, h2⟩ := srt_cons.1 hs
    have ih := upTo_sorted hc h2
    unfold upTo at ih ⊢
    have hb : below c x = decide (x.1 < c) := by unfold below; rw [hc, Bool.false_or]
    by_cases hx : x.1 < c
    · rw [List.takeWhile_cons_of_pos (by rw [hb]; exact decide_eq_true hx), List.filter_cons_of_pos (by simpa using hx), ih]
    · rw [List.takeWhile_cons_of_neg (by rw [hb]; simpa using hx), List.filter_cons_of_neg (by simpa using hx)]
      exact (filter_no (fun e he => decide_eq_false (fun h => hx (slt_trans (h1 e he) h)))).symm
theorem ge_ge {a c : Str} (hac : a < c) (l : List KV) : (ge a l).filter (fun e => !decide (e.1 < c)) = ge c l := by
  unfold ge
  rw [List.filter_filter]
  refine List.filter_congr (fun e _ => ?_)
  by_cases h : e.1 < c
  · simp [h]
  · have h2 : ¬ e.1 < a := fun h2 => h (slt_trans h2 hac)
    simp [h, h2]
theorem cut_len {a c : Str} (hac : a < c) {l : List KV} (hs : Srt l) : (upTo c (ge a l)).length + (ge c l).length = (ge a l).length := by
  have hc : c.isEmpty = false := by
    cases c with
    | nil => exact absurd hac (snil_le a)
    | cons _ _ => rfl
  rw [upTo_sorted hc (show Srt (ge a l) from hs.sub List.filter_sublist), ← ge_ge hac l]
  have : ∀ (m : List KV) (p : KV → Bool), (m.filter p).length + (m.filter (fun e => !p e)).length = m.length := by
    intro m p
    induction m with
    | nil => rfl
    | cons x m ih =>
      cases h : p x
      · rw [List.filter_cons_of_neg (by simp [h]), List.filter_cons_of_pos (by simp [h]), List.length_cons, List.length_cons]; omega
      · rw [List.filter_cons_of_pos h, List.filter_cons_of_neg (by simp [h]), List.length_cons, List.length_cons]; omega
  exact this _ _
/-- While keys are counted. -/
structure R2 (w W : World) (T tb mb c : Nat) (av cv : Str) (L rest : List KV) : Prop where
  it : ∃ pre, pre ++ rest = L ∧ W.cell? ⟨mb, 0, none⟩ = some (.int .i64 ((c + pre.length : Nat))) ∧ W.frozen? ⟨mb, 0, none⟩ = false
  box : RB w W T tb av cv
theorem R2.calm {w W W' : World} {T tb mb c B : Nat} {av cv : Str} {L rest : List KV} (h : R2 w W T tb mb c av cv L rest) (hc : Calm B W W') : R2 w W' T tb mb c av cv L rest := by
  obtain ⟨pre, h1, h2, h3⟩ := h.it
  exact ⟨⟨pre, h1, hc.cell h2, (hc.frozen h2).trans h3⟩, h.box.calm hc⟩
/-- Behind the puts. -/
structure RS1 (w W : World) (T d tb n : Nat) (av cv : Str) : Prop where
  box : RB w W T tb av cv
  it : ∃ t F r, TS W w.heap.size T d t F r ∧ (∀ e ∈ rflat r, e.2 = e.1 ++ [33] ∧ e.1.length ≤ 4096) ∧ (rflat r).length ≤ n
  lo : Below w.heap.size w W
  pl : w.heap.size + 2 < T ∧ T < tb ∧ tb < W.heap.size
theorem RS1.below {w W W' : World} {T d tb n : Nat} {av cv : Str} (h : RS1 w W T d tb n av cv) (hb : Below W.heap.size W W') : RS1 w W' T d tb n av cv := by
  obtain ⟨t, F, r, ht, h1, h2⟩ := h.it
  exact ⟨h.box.below hb, ⟨t, F, r, ht.below hb, h1, h2⟩, below_go h.lo hb, h.pl.1, h.pl.2.1, Nat.lt_of_lt_of_le h.pl.2.2 hb.size⟩
theorem ins_mem {k v : Str} {l : List KV} {e : KV} (h : e ∈ ins k v l) : e = (k, v) ∨ e ∈ l := by
  unfold ins at h
  rcases List.mem_append.1 h with h | h
  · exact .inr (List.mem_filter.1 h).1
  · rcases List.mem_cons.1 h with h | h
    · exact .inl h
    · exact .inr (List.mem_filter.1 h).1
theorem RS1.put {w W : World} {T d tb n : Nat} {av cv : Str} (h : RS1 w W T d tb n av cv) (k : Str) :
    Calls Try.prog 9 #[.pointer (some ⟨T, 0, none⟩), .string (bstr k), .string (bstr (k ++ [33]))] W fun e w' => (∃ c, e = .returned (.int .i64 c)) ∧ RS1 w w' T d tb (n + 1) av cv := by
  obtain ⟨t, F, r, ht, hv, hl⟩ := h.it
  by_cases hk : (k ++ [33]).length ≤ 4096
  · have hk' : k.length ≤ 4096 := by rw [List.length_append] at hk; omega
    refine (tput_step ht k (k ++ [33]) hk' hk).mono ?_
    rintro e w' ⟨rfl, ⟨now, F', ht', -⟩, ho⟩
    obtain ⟨p1, p2, p3⟩ := h.pl
    have hsp := rput_spec k (k ++ [33]) ht.ok
    refine ⟨⟨0, rfl⟩, h.box.only ho (by omega) (by omega) (by omega) (by omega), ⟨_, F', _, ht', fun e he => ?_, ?_⟩, h.lo.trans (ho.below h.lo.size (fun j hj e => by omega)), p1, p2, Nat.lt_of_lt_of_le p3 ho.size⟩
    · rw [hsp.1] at he
      rcases ins_mem he with rfl | he
      · exact ⟨rfl, hk'⟩
      · exact hv e he
    · rw [hsp.1]
      have : (ins k (k ++ [33]) (rflat r)).length ≤ (rflat r).length + 1 := ins_len2 k _ _
      omega
  · refine (tput_long T k (k ++ [33]) W (.inr (by omega))).mono ?_
    rintro e w' ⟨rfl, rfl⟩
    exact ⟨⟨2, rfl⟩, h.box, ⟨t, F, r, ht, hv, by omega⟩, h.lo, h.pl⟩
theorem bstr_bang (k : Str) : bstr k ++ ⟨#[33]⟩ = bstr (k ++ [33]) := by
  apply ByteArray.ext
  simp [bstr]

set_option maxHeartbeats 8000000 in
theorem ranges_calls (kv : Value) (ks : List Str) (av cv : Str) (w : World) (hk : Rd w 1 kv ks.length (ks.map strV)) (hks : ∀ k ∈ ks, k.length ≤ 140737488351232) :
    Calls Try.prog 3 #[kv, .string (bstr av), .string (bstr cv)] w fun e w' => e = .returned (.bool true) ∧ Below w.heap.size w w' := by
  have HK := Lib.hid hk
  have HKS := Lib.hid hks
  obtain ⟨ka, kc, rfl, hk1, hk2⟩ := Rd.slice hk
  clear hk hks
  refine (callsIn_wide (n := 0)).1 ?_
  refine callsIn_of_wp_marks Try.func3 rfl trivial ?_
  simp only [Try.ntmps3, List.size_toArray, List.length_cons, List.length_nil, Nat.reduceAdd, Nat.reduceSub, Array.replicate_succ, Array.replicate_zero, List.push_toArray, List.append_toArray, List.nil_append, List.cons_append]
  gi_wp2_with fail
  obtain ⟨W0, hW0⟩ : ∃ W0, W0 = ((w.alloc (.cells #[.string (bstr av)] 9)).alloc (.cells #[.string (bstr cv)] 9)).alloc (.cells #[.bool false] 4) := ⟨_, rfl⟩
  have hs0 : W0.heap.size = w.heap.size + 3 := by rw [hW0]; simp
  have HB0 := Lib.hid (show Below w.heap.size w W0 by rw [hW0]; exact (((Below.refl _ _).alloc (Nat.le_refl _) _).alloc (by simp) _).alloc (by simp; omega) _)
  have HC0 := Lib.hid (show W0.cell? ⟨w.heap.size, 0, none⟩ = some (.string (bstr av)) ∧ W0.cell? ⟨w.heap.size + 1, 0, none⟩ = some (.string (bstr cv)) ∧ W0.cell? ⟨w.heap.size + 2, 0, none⟩ = some (.bool false) ∧ W0.frozen? ⟨w.heap.size + 2, 0, none⟩ = false by
    refine ⟨?_, ?_, ?_, ?_⟩
    · rw [hW0, World.cell?_alloc_past _ _ _ (by simp <;> omega), World.cell?_alloc_past _ _ _ (by simp), World.cell?_alloc_at _ _ _ _ rfl]; rfl
    · rw [hW0, World.cell?_alloc_past _ _ _ (by simp), World.cell?_alloc_at _ _ _ _ (by simp)]; rfl
    · rw [hW0, World.cell?_alloc_at _ _ _ _ (by simp)]; rfl
    · rw [hW0, World.frozen?_alloc_at _ _ _ _ (by simp)])
  rw [← hW0]
  clear hW0
  refine (callsIn_wide.2 (known_calls W0)).mono ?_
  rintro e w1 ⟨rfl, hb1⟩
  have hs1 := hb1.size
  have HB1 := Lib.hid hb1
  clear hb1
  gi_wp2_with fail
  refine (callsIn_wide.2 (dnew_calls 1073741824 w1 (by omega) (by omega))).mono ?_
  rintro e w2 ⟨rfl, hd2, hb2⟩
  have HD2 := Lib.hid hd2
  have HB2 := Lib.hid (HB1.out.trans (hb2.mono hs1))
  have hs2 := hb2.size
  clear hd2 hb2
  gi_wp2_with fail
  refine (callsIn_wide.2 (topen_new (w1.heap.size + 2) w1.heap.size (newD 1073741824 w1.heap.size) nmT w2 HD2.out (by decide) (by decide) nmT_low (fun i hi => by simp [newD, fileOf, mget]) (fun i hi => by simp [newD, fileOf, mget]; decide) (fun i hi => rfl))).mono ?_
  rintro e w3 ⟨T, sl, rfl, ht3, -, hb3⟩
  have hTl := ht3.lt
  have hal := below_alloc w3 (.cells #[.pointer (some ⟨T, 0, none⟩)] 28)
  have HB4 := Lib.hid (below_go (HB2.out.trans (hb3.mono (by omega))) hal)
  have HT4 := Lib.hid ((TS.new (ht3.mono (show w.heap.size ≤ w2.heap.size by omega)) rfl).below hal)
  have hz4 : (w3.alloc (.cells #[.pointer (some ⟨T, 0, none⟩)] 28)).heap.size = w3.heap.size + 1 := by simp
  have HR4 := Lib.hid (show RS1 w (w3.alloc (.cells #[.pointer (some ⟨T, 0, none⟩)] 28)) T (w1.heap.size + 2) w3.heap.size 0 av cv from
    ⟨⟨cell_later HB4.out HC0.out.1, cell_later HB4.out HC0.out.2.1, cell_later HB4.out HC0.out.2.2.1, (World.frozen?_of_block (a := ⟨w.heap.size + 2, 0, none⟩) (HB4.out.block _ (by show w.heap.size + 2 < _; omega))).trans HC0.out.2.2.2, box_self 0 _ rfl⟩,
      ⟨_, _, _, HT4.out, fun e he => absurd he (by simp [rflat]), Nat.le_refl _⟩, HB0.out.trans (HB4.out.mono (by omega)), by omega, by omega, by omega⟩)
  gi_wp2_with fail
  clear HT4 HB4 HB2 HD2 HB1 HC0 HB0 ht3 hb3 hal hTl hs2 hs1 hs0 hz4
  generalize w3.alloc (.cells #[.pointer (some ⟨T, 0, none⟩)] 28) = W4 at *
  generalize w3.heap.size = tb at *
  generalize w1.heap.size + 2 = dd at *
  gi_loopw [11] (fun iv wr => ∃ i : Nat, i ≤ ks.length ∧ i ≤ 200 ∧ iv = .int .i64 (i : Nat) ∧ RS1 w wr T dd tb i av cv) (fun iv _ => ks.length - (intOf iv).toNat)
  case atStart => exact ⟨0, by omega, by omega, rfl, HR4.out⟩
  case round =>
    clear HR4
    obtain ⟨i, hi, hi2, rfl, hr⟩ := hrel
    have HR := Lib.hid hr
    have ct := hr.box.ct
    clear hr
    by_cases hlt : i < ks.length ∧ i < 200
    · obtain ⟨hlt, hlt2⟩ := hlt
      have z1 : (i : Int) < (ks.length : Int) := by omega
      have z2 : (i : Int) < 200 := by omega
      obtain ⟨kb, ko, c', e, -, -, hc⟩ := rd1_at HK.out (i := i) (u := strV ks[i]) (by rw [List.getElem?_map, List.getElem?_eq_getElem hlt]; rfl)
      simp only [Value.slice.injEq] at e
      obtain ⟨rfl, -, rfl⟩ := e
      have hc := cell_later HR.out.lo hc
      have hsz := HKS.out _ (List.getElem_mem hlt)
      generalize ks[i] = k at *
      have hc : wr.cell? ⟨kb, ko + i, none⟩ = some (.string (bstr k)) := hc
      have hsum : ¬ 9223372036854775807 < (bstr k).size + 1 := by
        rw [show (bstr k).size = k.length by show k.toArray.size = _; simp]
        omega
      have k1 : (0 : Int) ≤ (i : Int) := by omega
      clear hsz
      gi_upto_region 8 with fail
      refine region_mi [(0, false), (1, false), (2, false), (3, false), (4, false), (5, false), (6, false), (7, false), (8, false), (9, false)] 10 (fun V => V.cell? ⟨tb, 0, none⟩ = some (.pointer (some ⟨T, 0, none⟩)) ∧ V.cell? ⟨kb, ko + i, none⟩ = some (.string (bstr k))) (by kernel_rfl) (by kernel_rfl) ⟨ct, hc⟩ ?_
      iterate 10
        first
        | (refine m_take (v := ?_) rfl rfl ?_ ?_
           rotate_left
           · intro W hW
             go_simp
             with_reducible rfl
           simp only [Act.put, List.setIfInBounds_toArray, List.set_cons_zero, List.set_cons_succ])
        | (refine m_skip rfl rfl ?_
           simp only [Act.put, List.setIfInBounds_toArray, List.set_cons_zero, List.set_cons_succ])
      refine m_done ?_
      simp only [List.drop_succ_cons, List.drop_zero]
      have hbb := bstr_bang k
      go_wp2_with fail
      rw [hbb]
      have HR2 := Lib.hid (show RS1 w wr.drew T dd tb i av cv from HR.out.below (Below.refl _ _).drew)
      refine (HR2.out.put k).mono ?_
      rintro e w5 ⟨⟨c5, rfl⟩, hr5⟩
      have HR5 := Lib.hid hr5
      clear hr5 hbb hsum hc ct
      go_wp2_with fail
      try simp only [NP]
      gi_wp2_with fail
      exact ⟨⟨i + 1, by omega, by omega, by go_num, HR5.out⟩, by simp [intOf]; omega⟩
    · by_cases hlp : i < ks.length
      · have z1 : (i : Int) < (ks.length : Int) := by omega
        have z2 : ¬ (i : Int) < 200 := by omega
        clear hlt hlp ct
        gi_upto_region 10 with fail
        obtain ⟨t, F, r, ht, hv, hl⟩ := HR.out.it
        have hbU : Below wr.heap.size wr ((wr.alloc (.cells #[.string ⟨#[]⟩] 9)).alloc (.cells #[.int .i64 0] 3)) := ((Below.refl _ _).alloc (Nat.le_refl _) _).alloc (by simp) _
        have l0 : ((wr.alloc (.cells #[.string ⟨#[]⟩] 9)).alloc (.cells #[.int .i64 0] 3)).cell? ⟨wr.heap.size, 0, none⟩ = some (.string ⟨#[]⟩) := by rw [World.cell?_alloc_past _ _ _ (by simp), World.cell?_alloc_at _ _ _ _ rfl]; rfl
        have l1 : ((wr.alloc (.cells #[.string ⟨#[]⟩] 9)).alloc (.cells #[.int .i64 0] 3)).frozen? ⟨wr.heap.size, 0, none⟩ = false := by rw [World.frozen?_alloc_past _ _ _ (by simp), World.frozen?_alloc_at _ _ _ _ rfl]
        have n0 : ((wr.alloc (.cells #[.string ⟨#[]⟩] 9)).alloc (.cells #[.int .i64 0] 3)).cell? ⟨wr.heap.size + 1, 0, none⟩ = some (.int .i64 0) := by rw [World.cell?_alloc_at _ _ _ _ (by simp)]; rfl
        have n1 : ((wr.alloc (.cells #[.string ⟨#[]⟩] 9)).alloc (.cells #[.int .i64 0] 3)).frozen? ⟨wr.heap.size + 1, 0, none⟩ = false := by rw [World.frozen?_alloc_at _ _ _ _ (by simp)]
        have hzU : ((wr.alloc (.cells #[.string ⟨#[]⟩] 9)).alloc (.cells #[.int .i64 0] 3)).heap.size = wr.heap.size + 2 := by simp
        have HTU := Lib.hid (ht.below hbU)
        have HBU := Lib.hid (HR.out.box.below hbU)
        have HLU := Lib.hid (below_go HR.out.lo hbU)
        have hpl := HR.out.pl
        have HFW := Lib.hid (ht.hF)
        have HV := Lib.hid hv
        have HN := Lib.hid (And.intro hl hi2)
        clear ht hv hl hbU HR
        generalize (wr.alloc (.cells #[.string ⟨#[]⟩] 9)).alloc (.cells #[.int .i64 0] 3) = U at *
        have ct := HBU.out.ct
        have cf := HBU.out.c0
        gi_wp2_with (gi_at_call 10; refine (range_calls (some ⟨T, 0, none⟩) av [] _).mono ?_; rintro e w6 ⟨rfl, rfl⟩)
        clear hi hi2 ct cf
        obtain ⟨L, hL⟩ : ∃ L, L = ge av (rflat r) := ⟨_, rfl⟩
        have HL := Lib.hid hL
        have HSL := Lib.hid (show Srt L by rw [hL]; exact HTU.out.ok.srt.sub List.filter_sublist)
        have HTC := Lib.hid (HTU.out.tr.at.2.2.2.2.2.2.1)
        have hSU : wr.heap.size + 2 = U.heap.size := hzU.symm
        have HZU := Lib.hid hzU
        refine tree_range F r T (wr.heap.size + 2) t.now av [] (fun j => j = wr.heap.size ∨ j = wr.heap.size + 1) (fun rest W => R1 w W T tb wr.heap.size (wr.heap.size + 1) av cv L rest) rfl hSU rfl HTU.out.root HTU.out.ok HTC.out ?hX (fun l W W' hc h => h.calm hc) ?h0 rfl ?hbody ?hdone
        case hX =>
          rintro j (rfl | rfl)
          · exact ⟨fun h => by have := HFW.out _ h; omega, by omega, by omega⟩
          · exact ⟨fun h => by have := HFW.out _ h; omega, by omega, by omega⟩
        case h0 =>
          rw [upTo_nil, ← hL]
          have hb : Below U.heap.size U (((U.alloc (.cells #[.pointer (some ⟨T, 0, none⟩)] 28)).alloc (.cells #[.string (bstr av)] 9)).alloc (.cells #[.string (bstr [])] 9)) := (((Below.refl _ _).alloc (Nat.le_refl _) _).alloc (by simp) _).alloc (by simp; omega) _
          have hfr : ∀ k, k < U.heap.size → U.frozen? ⟨k, 0, none⟩ = false → (((U.alloc (.cells #[.pointer (some ⟨T, 0, none⟩)] 28)).alloc (.cells #[.string (bstr av)] 9)).alloc (.cells #[.string (bstr [])] 9)).frozen? ⟨k, 0, none⟩ = false := fun k hk hf => (World.frozen?_of_block (a := ⟨k, 0, none⟩) (hb.block k hk)).trans hf
          exact ⟨⟨[], rfl, cell_later hb l0, hfr _ (by omega) l1, cell_later hb n0, hfr _ (by omega) n1⟩, HBU.out.below hb⟩
        case hbody =>
          intro l x rest W hI hon hsW
          obtain ⟨pre, hpre, q0, q1, q2, q3⟩ := hI.it
          have HBX := Lib.hid hI.box
          have ct := hI.box.ct
          have cf := hI.box.c0
          have HSW := Lib.hid (hsW)
          have HON := Lib.hid hon
          have HI := Lib.hid hI
          have hmem : x ∈ rflat r := by
            have : x ∈ L := by rw [← hpre]; simp
            rw [hL] at this
            exact (List.mem_filter.1 this).1
          have hgef : Op.bytesLess (bstr x.1).toList (bstr av).toList = false := by
            have : x ∈ L := by rw [← hpre]; simp
            rw [hL] at this
            rw [bytes_lt]
            exact decide_eq_false (by simpa using (List.mem_filter.1 this).2)
          have hlk := Lib.hid (mem_look HTU.out.ok.srt (show (x.1, x.2) ∈ rflat r from hmem))
          have hxv := Lib.hid (HV.out x hmem).1
          have hxl := (HV.out x hmem).2
          have hlast : ∀ e ∈ pre, e.1 < x.1 := fun e he => by
            have h := HSL.out
            rw [← hpre] at h
            exact (srt_app.1 h).2.2 e he x (by simp)
          have hplen : pre.length ≤ 200 := by
            have h1 : pre.length ≤ L.length := by rw [← hpre]; simp
            have h2 : L.length ≤ (rflat r).length := by rw [hL]; exact List.length_filter_le _ _
            have h3 := HN.out
            omega
          have HPRE := Lib.hid hpre
          have HLA := Lib.hid hlast
          obtain ⟨xk, xv⟩ := x
          simp only at hgef hlk hxv hxl
          have hsum : ¬ 9223372036854775807 < (bstr xk).size + 1 := by
            rw [show (bstr xk).size = xk.length by show xk.toArray.size = _; simp]
            omega
          have hadd : (bstr xv).toList = (bstr xk ++ ⟨#[33]⟩).toList := by rw [bstr_bang, hxv.out]
          clear hI l0 l1 n0 n1 hzU hSU hL hon hsW hpre hlast hmem hxl
          gi_wp2_with fail
          refine ⟨KeepsOthers.refl _, fun W₂ hcm => ?_⟩
          have HCM := Lib.hid hcm
          have ct := hcm.cell ct
          have cf := hcm.cell cf
          have q0' := hcm.cell q0
          have q1' := (hcm.frozen q0).trans q1
          have q2' := hcm.cell q2
          have q3' := (hcm.frozen q2).trans q3
          have HON2 := Lib.hid (HON.out.calm hcm (by omega))
          clear hcm
          gi_wp2_with fail
          have hnl : ∀ j, F j → ¬ (j = wr.heap.size ∨ j = wr.heap.size + 1) := fun j hj e => by have := HFW.out j hj; omega
          refine (CallsIn.inRound l (callsIn_wide.2 (tget_calls F r T t.now xk W₂ (HTU.out.root.fr (Fr.of_only HON2.out (fun k hk _ => hnl k hk))) HTU.out.ok (HON2.out.cell (by omega) HTC.out)))).mono ?_
          rintro e w7 ⟨rfl, hw7⟩
          obtain rfl : W₂ = w7 := hw7.symm
          rw [hlk.out]
          have HQ := Lib.hid (And.intro q0' (And.intro q1' (And.intro q2' q3')))
          by_cases hp0 : 0 < pre.length
          · have hll : lastk pre < xk := by
              unfold lastk
              cases hgl : pre.getLast? with
              | none => rw [List.getLast?_eq_none_iff] at hgl; subst hgl; simp at hp0
              | some e => exact HLA.out e (List.mem_of_getLast? hgl)
            have f1 : Op.bytesLess (bstr xk).toList (bstr (lastk pre)).toList = false := by rw [bytes_lt]; exact decide_eq_false (fun h => slt_irr _ (slt_trans h hll))
            have f2 : ((bstr xk).toList == (bstr (lastk pre)).toList) = false := by
              rw [bstr_toList, bstr_toList, beq_eq_false_iff_ne]
              intro e
              rw [e] at hll
              exact slt_irr _ hll
            clear hll
            gi_wp2_with fail
            have ho3 : Only (fun j => j = wr.heap.size ∨ j = wr.heap.size + 1) W₂ ((W₂.setCell ⟨wr.heap.size, 0, none⟩ (.string (bstr xk))).setCell ⟨wr.heap.size + 1, 0, none⟩ (.int .i64 ((pre.length : Int) + 1))) := ((Only.refl _ W₂).setCell ⟨wr.heap.size, 0, none⟩ _ (.inl (.inl rfl))).setCell ⟨wr.heap.size + 1, 0, none⟩ _ (.inl (.inr rfl))
            refine ⟨(KeepsOthers.setCell _ _ _).trans (KeepsOthers.setCell _ _ _), ⟨⟨pre ++ [(xk, xv)], by rw [← HPRE.out]; simp, ?_, ?_, ?_, ?_⟩, (HBX.out.calm HCM.out).only ho3 (by omega) (by omega) (by omega) (by omega)⟩, (Tn.of_calm HCM.out).trans (Tn.of_only ho3)⟩
            · rw [lastk_snoc, cell_set_block _ (by omega)]
              exact cell_set_same _ HQ.out.1
            · rw [frozen_set, frozen_set]
              exact HQ.out.2.1
            · rw [List.length_append]
              exact cell_set_same (u := .int .i64 (pre.length : Nat)) _ (by rw [cell_set_block _ (by omega)]; exact HQ.out.2.2.1)
            · rw [frozen_set, frozen_set]
              exact HQ.out.2.2.2
          · skip
            gi_wp2_with fail
            have ho3 : Only (fun j => j = wr.heap.size ∨ j = wr.heap.size + 1) W₂ ((W₂.setCell ⟨wr.heap.size, 0, none⟩ (.string (bstr xk))).setCell ⟨wr.heap.size + 1, 0, none⟩ (.int .i64 ((pre.length : Int) + 1))) := ((Only.refl _ W₂).setCell ⟨wr.heap.size, 0, none⟩ _ (.inl (.inl rfl))).setCell ⟨wr.heap.size + 1, 0, none⟩ _ (.inl (.inr rfl))
            refine ⟨(KeepsOthers.setCell _ _ _).trans (KeepsOthers.setCell _ _ _), ⟨⟨pre ++ [(xk, xv)], by rw [← HPRE.out]; simp, ?_, ?_, ?_, ?_⟩, (HBX.out.calm HCM.out).only ho3 (by omega) (by omega) (by omega) (by omega)⟩, (Tn.of_calm HCM.out).trans (Tn.of_only ho3)⟩
            · rw [lastk_snoc, cell_set_block _ (by omega)]
              exact cell_set_same _ HQ.out.1
            · rw [frozen_set, frozen_set]
              exact HQ.out.2.1
            · rw [List.length_append]
              exact cell_set_same (u := .int .i64 (pre.length : Nat)) _ (by rw [cell_set_block _ (by omega)]; exact HQ.out.2.2.1)
            · rw [frozen_set, frozen_set]
              exact HQ.out.2.2.2
        case hdone =>
          intro D W hD hI hon hdef
          obtain ⟨pre, hpre, -, -, q2, q3⟩ := hI.it
          rw [List.append_nil] at hpre
          rw [hpre] at q2
          have hDU : U.heap.size ≤ D := by simp only [World.size_alloc] at hD; omega
          have HBX := Lib.hid hI.box
          have HQ2 := Lib.hid q2
          have ct := hI.box.ct
          have cf := hI.box.c0
          have cc := hI.box.c1
          have c2 : W.cell? ⟨w.heap.size + 1 + 1, 0, none⟩ = some (.bool false) := hI.box.c2
          have f2 : W.frozen? ⟨w.heap.size + 1 + 1, 0, none⟩ = false := hI.box.f2
          have HON := Lib.hid hon
          have HDE := Lib.hid hdef
          have HLB := Lib.hid (HLU.out.trans (hon.below HLU.out.size (fun j hj e => by omega)))
          clear l0 l1 n0 n1 hzU hSU hL hI hpre q2 q3 hon hdef hD
          by_cases hcut : av < cv
          · have g1 : Op.bytesLess (bstr cv).toList (bstr av).toList = false := by rw [bytes_lt]; exact decide_eq_false (fun h => slt_irr _ (slt_trans h hcut))
            have g2 : ((bstr cv).toList == (bstr av).toList) = false := by
              rw [bstr_toList, bstr_toList, beq_eq_false_iff_ne]
              intro e
              rw [e] at hcut
              exact slt_irr _ hcut
            have HCU := Lib.hid hcut
            clear hcut
            gi_upto_region 21 with fail
            have hbM := below_alloc W (.cells #[.int .i64 0] 3)
            have m0 := box_self (w := W) (cs := #[.int .i64 0]) (e := 3) 0 _ rfl
            have m1 : (W.alloc (.cells #[.int .i64 0] 3)).frozen? ⟨W.heap.size, 0, none⟩ = false := World.frozen?_alloc_at _ _ _ _ rfl
            have HZM := Lib.hid (show (W.alloc (.cells #[.int .i64 0] 3)).heap.size = W.heap.size + 1 by simp)
            have HBM := Lib.hid (HBX.out.below hbM)
            have HLM := Lib.hid (below_go HLB.out hbM)
            have hnl : ∀ j, F j → ¬ (j = wr.heap.size ∨ j = wr.heap.size + 1) := fun j hj e => by have := HFW.out j hj; omega
            have HRM := Lib.hid ((HTU.out.root.fr (Fr.of_only HON.out (fun k hk _ => hnl k hk))).fr (Fr.of_below hbM))
            have HTM := Lib.hid (cell_later hbM (HON.out.cell (by omega) HTC.out))
            have HQM := Lib.hid (cell_later hbM HQ2.out)
            have hWU : wr.heap.size + 2 ≤ W.heap.size := by have := HON.out.size; have := HZU.out; omega
            have HDM := Lib.hid (show (W.alloc (.cells #[.int .i64 0] 3)).heap[D]? = some (.deferred (some [])) from (hbM.block D (Array.getElem?_eq_some_iff.1 HDE.out).1).trans HDE.out)
            have HDL := Lib.hid (Array.getElem?_eq_some_iff.1 HDE.out).1
            clear hnl hbM HDE HQ2 HON HLB HBX ct cf cc c2 f2
            generalize W.alloc (.cells #[.int .i64 0] 3) = M at *
            have ct := HBM.out.ct
            have cf := HBM.out.c0
            have cc := HBM.out.c1
            gi_wp2_with (gi_at_call 10; refine (range_calls (some ⟨T, 0, none⟩) av cv _).mono ?_; rintro e w8 ⟨rfl, rfl⟩)
            clear ct cf cc
            refine tree_range F r T M.heap.size t.now av cv (fun j => j = W.heap.size) (fun rest V => R2 w V T tb W.heap.size 0 av cv (upTo cv (ge av (rflat r))) rest) rfl rfl rfl HRM.out HTU.out.ok HTM.out ?hX2 (fun l W W' hc h => h.calm hc) ?h02 rfl ?hbody2 ?hdone2
            case hX2 =>
              rintro j rfl
              have hzm := HZM.out
              exact ⟨fun h => by have := HFW.out _ h; omega, by omega, by omega⟩
            case h02 =>
              have hb : Below M.heap.size M (((M.alloc (.cells #[.pointer (some ⟨T, 0, none⟩)] 28)).alloc (.cells #[.string (bstr av)] 9)).alloc (.cells #[.string (bstr cv)] 9)) := (((Below.refl _ _).alloc (Nat.le_refl _) _).alloc (by simp) _).alloc (by simp; omega) _
              have hzm := HZM.out
              exact ⟨⟨[], rfl, cell_later hb m0, (World.frozen?_of_block (a := ⟨W.heap.size, 0, none⟩) (hb.block _ (by show W.heap.size < M.heap.size; omega))).trans m1⟩, HBM.out.below hb⟩
            case hbody2 =>
              intro l x rest V hI hon hsV
              obtain ⟨pre, hpre, q0, q1⟩ := hI.it
              have hxm : x ∈ upTo cv (ge av (rflat r)) := by rw [← hpre]; simp
              have hxc : x.1 < cv := by
                have hce : cv.isEmpty = false := by
                  cases hcv : cv with
                  | nil => have := HCU.out; rw [hcv] at this; exact absurd this (snil_le av)
                  | cons _ _ => rfl
                rw [upTo_sorted hce (show Srt (ge av (rflat r)) from HTU.out.ok.srt.sub List.filter_sublist)] at hxm
                simpa using (List.mem_filter.1 hxm).2
              obtain ⟨xk, xv⟩ := x
              have g1 : Op.bytesLess (bstr xk).toList (bstr cv).toList = true := by rw [bytes_lt]; exact decide_eq_true hxc
              have g2 : Op.bytesLess (bstr cv).toList (bstr xk).toList = false := by rw [bytes_lt]; exact decide_eq_false (fun h => slt_irr _ (slt_trans h hxc))
              have g3 : ((bstr xk).toList == (bstr cv).toList) = false := by
                rw [bstr_toList, bstr_toList, beq_eq_false_iff_ne]
                intro e
                rw [← e] at hxc
                exact slt_irr _ hxc
              have hplen : 0 + pre.length ≤ 400 := by
                have h1 : pre.length ≤ (upTo cv (ge av (rflat r))).length := by rw [← hpre]; simp
                have h2 : (upTo cv (ge av (rflat r))).length ≤ (ge av (rflat r)).length := (List.takeWhile_sublist _).length_le
                have h3 : (ge av (rflat r)).length ≤ (rflat r).length := List.length_filter_le _ _
                have h4 := HN.out
                omega
              have HPR2 := Lib.hid hpre
              have HI2 := Lib.hid hI
              have cc := hI.box.c1
              clear m0 m1 hxm hxc hpre hI hon hsV
              obtain ⟨N, hN⟩ : ∃ N, N = 0 + pre.length := ⟨_, rfl⟩
              rw [← hN] at q0 hplen
              have HNN := Lib.hid hN
              clear hN
              gi_wp2_with fail
              refine ⟨KeepsOthers.refl _, fun W₂ hcm => ?_⟩
              have HCM := Lib.hid hcm
              have cc := hcm.cell cc
              have q0' := hcm.cell q0
              have q1' := (hcm.frozen q0).trans q1
              have HQ := Lib.hid (And.intro q0' q1')
              clear hcm
              gi_wp2_with fail
              have ho3 := only_set W₂ W.heap.size 0 (.int .i64 ((N : Int) + 1))
              refine ⟨KeepsOthers.setCell _ _ _, ⟨⟨pre ++ [(xk, xv)], by rw [← HPR2.out]; simp, ?_, ?_⟩, (HI2.out.box.calm HCM.out).only ho3 (by omega) (by omega) (by omega) (by omega)⟩, (Tn.of_calm HCM.out).trans (Tn.of_only ho3)⟩
              · rw [List.length_append, List.length_singleton, ← Nat.add_assoc, ← HNN.out]
                exact cell_set_same _ HQ.out.1
              · rw [frozen_set]
                exact HQ.out.2
            case hdone2 =>
              intro D2 V hD2 hI hon2 hdef2
              obtain ⟨pre, hpre, q0, q1⟩ := hI.it
              rw [List.append_nil] at hpre
              rw [hpre, Nat.zero_add] at q0
              obtain ⟨L2N, hL2⟩ : ∃ n, n = (upTo cv (ge av (rflat r))).length := ⟨_, rfl⟩
              rw [← hL2] at q0
              have HL2 := Lib.hid hL2
              clear hL2
              have hDM : M.heap.size ≤ D2 := by simp only [World.size_alloc] at hD2; omega
              have hMV := hon2.size
              have hzm := HZM.out
              have HZV := Lib.hid (show W.heap.size < V.heap.size by omega)
              have HBV := Lib.hid hI.box
              have hnl2 : ∀ j, F j → ¬ j = W.heap.size := fun j hj e => by have := HFW.out j hj; omega
              have HRV := Lib.hid (HRM.out.fr (Fr.of_only hon2 (fun k hk _ => hnl2 k hk)))
              have HTV := Lib.hid (hon2.cell (by omega) HTM.out)
              have HQV := Lib.hid (And.intro (hon2.cell (by omega) HQM.out) q0)
              have HF1 := Lib.hid q1
              have HDV := Lib.hid (show V.heap[D]? = some (.deferred (some [])) from (hon2.block D (by have := HDL.out; omega) (by have := HDL.out; omega)).trans HDM.out)
              have HE2 := Lib.hid (And.intro hDM hdef2)
              have HLV := Lib.hid (HLM.out.trans (hon2.below HLM.out.size (fun j hj e => by omega)))
              have ct := hI.box.ct
              have cc := hI.box.c1
              clear m0 m1 hI hpre q0 q1 hon2 hdef2 hD2 hnl2 hDM hMV hzm
              gi_wp2_with (gi_at_call 10; refine (range_calls (some ⟨T, 0, none⟩) cv [] _).mono ?_; rintro e w9 ⟨rfl, rfl⟩)
              clear ct cc
              refine tree_range F r T V.heap.size t.now cv [] (fun j => j = W.heap.size) (fun rest Z => R2 w Z T tb W.heap.size L2N av cv (ge cv (rflat r)) rest) rfl rfl rfl HRV.out HTU.out.ok HTV.out ?hX3 (fun l W W' hc h => h.calm hc) ?h03 rfl ?hbody3 ?hdone3
              case hX3 =>
                rintro j rfl
                have hzv := HZV.out
                exact ⟨fun h => by have := HFW.out _ h; omega, by omega, by omega⟩
              case h03 =>
                rw [upTo_nil]
                have hb : Below V.heap.size V (((V.alloc (.cells #[.pointer (some ⟨T, 0, none⟩)] 28)).alloc (.cells #[.string (bstr cv)] 9)).alloc (.cells #[.string (bstr [])] 9)) := (((Below.refl _ _).alloc (Nat.le_refl _) _).alloc (by simp) _).alloc (by simp; omega) _
                exact ⟨⟨[], rfl, cell_later hb HQV.out.2, (World.frozen?_of_block (a := ⟨W.heap.size, 0, none⟩) (hb.block _ HZV.out)).trans HF1.out⟩, HBV.out.below hb⟩
              case hbody3 =>
                intro l x rest Z hI hon hsV
                obtain ⟨pre, hpre, q0, q1⟩ := hI.it
                have hxm : x ∈ ge cv (rflat r) := by rw [← hpre]; simp
                have hxc : ¬ x.1 < cv := by simpa using (List.mem_filter.1 hxm).2
                obtain ⟨xk, xv⟩ := x
                have g1 : Op.bytesLess (bstr xk).toList (bstr cv).toList = false := by rw [bytes_lt]; exact decide_eq_false hxc
                have hplen : L2N + pre.length ≤ 400 := by
                  rw [HL2.out]
                  have h1 : pre.length ≤ (ge cv (rflat r)).length := by rw [← hpre]; simp
                  have h2 := cut_len HCU.out HTU.out.ok.srt
                  have h3 : (ge av (rflat r)).length ≤ (rflat r).length := List.length_filter_le _ _
                  have h4 := HN.out
                  omega
                have HPR2 := Lib.hid hpre
                have HI2 := Lib.hid hI
                have cc := hI.box.c1
                clear hxm hxc hpre hI hon hsV
                obtain ⟨N, hN⟩ : ∃ N, N = L2N + pre.length := ⟨_, rfl⟩
                rw [← hN] at q0 hplen
                have HNN := Lib.hid hN
                clear hN
                gi_wp2_with fail
                refine ⟨KeepsOthers.refl _, fun W₂ hcm => ?_⟩
                have HCM := Lib.hid hcm
                have cc := hcm.cell cc
                have q0' := hcm.cell q0
                have q1' := (hcm.frozen q0).trans q1
                have HQ := Lib.hid (And.intro q0' q1')
                clear hcm
                gi_wp2_with fail
                have ho3 := only_set W₂ W.heap.size 0 (.int .i64 ((N : Int) + 1))
                refine ⟨KeepsOthers.setCell _ _ _, ⟨⟨pre ++ [(xk, xv)], by rw [← HPR2.out]; simp, ?_, ?_⟩, (HI2.out.box.calm HCM.out).only ho3 (by omega) (by omega) (by omega) (by omega)⟩, (Tn.of_calm HCM.out).trans (Tn.of_only ho3)⟩
                · rw [List.length_append, List.length_singleton, ← Nat.add_assoc, ← HNN.out]
                  exact cell_set_same _ HQ.out.1
                · rw [frozen_set]
                  exact HQ.out.2
              case hdone3 =>
                intro D3 Z hD3 hI hon3 hdef3
                obtain ⟨pre, hpre, q0, q1⟩ := hI.it
                rw [List.append_nil] at hpre
                rw [hpre] at q0
                have hDV : V.heap.size ≤ D3 := by simp only [World.size_alloc] at hD3; omega
                have HQ := Lib.hid (And.intro (hon3.cell (by have := HZV.out; omega) HQV.out.1) q0)
                have nn := HQ.out.1
                have hle := cut_len HCU.out HTU.out.ok.srt
                rw [← HL2.out, ← HL.out] at hle
                obtain ⟨L3N, hL3⟩ : ∃ n, n = (ge cv (rflat r)).length := ⟨_, rfl⟩
                rw [← hL3] at q0 hle
                have heq : ((L.length : Int) == (L2N : Int) + (L3N : Int)) = true := beq_iff_eq.2 (by omega)
                have c2 : Z.cell? ⟨w.heap.size + 1 + 1, 0, none⟩ = some (.bool false) := hI.box.c2
                have f2 : Z.frozen? ⟨w.heap.size + 1 + 1, 0, none⟩ = false := hI.box.f2
                have HC2 := Lib.hid c2
                have HDZ := Lib.hid (show Z.heap[D]? = some (.deferred (some [])) from (hon3.block D (Array.getElem?_eq_some_iff.1 HDV.out).1 (by have := HDL.out; omega)).trans HDV.out)
                have HD2Z := Lib.hid (show Z.heap[D2]? = some (.deferred (some [])) from (hon3.block D2 (Array.getElem?_eq_some_iff.1 HE2.out.2).1 (by have := HE2.out.1; have := HZM.out; omega)).trans HE2.out.2)
                have HD3Z := Lib.hid (And.intro hDV hdef3)
                have HLZ := Lib.hid (HLV.out.trans (hon3.below HLV.out.size (fun j hj e => by omega)))
                clear hle hL3 hI hpre q1 hon3 hD3 hDV hdef3
                gi_wp2_with fail
                have ho := only_set Z (w.heap.size + 1 + 1) 0 (.bool true)
                have hzu := HZU.out
                have hzm := HZM.out
                have hz1 := HDL.out
                have hz2 := HE2.out.1
                have hz3 := (Array.getElem?_eq_some_iff.1 HE2.out.2).1
                have hz4 := HD3Z.out.1
                have hz5 := (Array.getElem?_eq_some_iff.1 HD3Z.out.2).1
                have hz6 := (Array.getElem?_eq_some_iff.1 HD2Z.out).1
                have hz7 := (Array.getElem?_eq_some_iff.1 HDZ.out).1
                have e3 := (ho.block D3 hz5 (by omega)).trans HD3Z.out.2
                have e2 := (World.putObj_heap_other (o := .deferred none) (show D2 ≠ D3 by omega)).trans ((ho.block D2 hz6 (by omega)).trans HD2Z.out)
                have e1 := (World.putObj_heap_other (o := .deferred none) (show D ≠ D2 by omega)).trans ((World.putObj_heap_other (o := .deferred none) (show D ≠ D3 by omega)).trans ((ho.block D hz7 (by omega)).trans HDZ.out))
                refine ⟨by simp, .inl ⟨_, _, rfl, run_takeDeferred e3, ?_⟩⟩
                refine ⟨by simp, .inl ⟨_, _, rfl, run_takeDeferred e2, ?_⟩⟩
                refine ⟨by simp, .inl ⟨_, _, rfl, run_takeDeferred e1, ?_⟩⟩
                have hcl := (World.cell?_of_block (a := ⟨w.heap.size + 1 + 1, 0, none⟩) ((World.putObj_heap_other (o := .deferred none) (show w.heap.size + 1 + 1 ≠ D by omega)).trans ((World.putObj_heap_other (o := .deferred none) (show w.heap.size + 1 + 1 ≠ D2 by omega)).trans (World.putObj_heap_other (w := Z.setCell ⟨w.heap.size + 1 + 1, 0, none⟩ (.bool true)) (o := .deferred none) (show w.heap.size + 1 + 1 ≠ D3 by omega))))).trans (cell_set_same (.bool true) HC2.out)
                refine ⟨.bool true, by simp [results, Try.results3, go_sem, hcl], rfl, ?_⟩
                exact (((HLZ.out.trans (ho.below HLZ.out.size (fun j hj e => by omega))).trans ((Calm.putObj (B := w.heap.size) _ (by omega) e3 rfl).below)).trans ((Calm.putObj (B := w.heap.size) _ (by omega) e2 rfl).below)).trans ((Calm.putObj (B := w.heap.size) _ (by omega) e1 rfl).below)
          · have g0 : Op.bytesLess (bstr cv).toList (bstr av).toList = true ∨ ((bstr cv).toList == (bstr av).toList) = true := by
              rw [bytes_lt, bstr_toList, bstr_toList]
              rcases slt_tri av cv with h | h | h
              · exact absurd h hcut
              · exact .inr (by rw [h]; simp)
              · exact .inl (decide_eq_true h)
            clear hcut
            have HC2 := Lib.hid c2
            rcases g0 with g0 | g0
            all_goals
              gi_wp2_with fail
              have ho := only_set W (w.heap.size + 1 + 1) 0 (.bool true)
              have hDl := (Array.getElem?_eq_some_iff.1 HDE.out).1
              have hzu := HZU.out
              have hdd := (ho.block D hDl (by omega)).trans HDE.out
              refine ⟨by simp, .inl ⟨_, _, rfl, run_takeDeferred hdd, ?_⟩⟩
              have hcl := (World.cell?_of_block (a := ⟨w.heap.size + 1 + 1, 0, none⟩) (World.putObj_heap_other (w := W.setCell ⟨w.heap.size + 1 + 1, 0, none⟩ (.bool true)) (o := .deferred none) (show w.heap.size + 1 + 1 ≠ D by omega))).trans (cell_set_same (.bool true) HC2.out)
              refine ⟨.bool true, by simp [results, Try.results3, go_sem, hcl], rfl, ?_⟩
              exact (HLB.out.trans (ho.below HLB.out.size (fun j hj e => by omega))).trans ((Calm.putObj (B := w.heap.size) _ (by omega) hdd rfl).below)
      · have z1 : ¬ (i : Int) < (ks.length : Int) := by omega
        clear hlt hlp ct
        gi_upto_region 10 with fail
        obtain ⟨t, F, r, ht, hv, hl⟩ := HR.out.it
        have hbU : Below wr.heap.size wr ((wr.alloc (.cells #[.string ⟨#[]⟩] 9)).alloc (.cells #[.int .i64 0] 3)) := ((Below.refl _ _).alloc (Nat.le_refl _) _).alloc (by simp) _
        have l0 : ((wr.alloc (.cells #[.string ⟨#[]⟩] 9)).alloc (.cells #[.int .i64 0] 3)).cell? ⟨wr.heap.size, 0, none⟩ = some (.string ⟨#[]⟩) := by rw [World.cell?_alloc_past _ _ _ (by simp), World.cell?_alloc_at _ _ _ _ rfl]; rfl
        have l1 : ((wr.alloc (.cells #[.string ⟨#[]⟩] 9)).alloc (.cells #[.int .i64 0] 3)).frozen? ⟨wr.heap.size, 0, none⟩ = false := by rw [World.frozen?_alloc_past _ _ _ (by simp), World.frozen?_alloc_at _ _ _ _ rfl]
        have n0 : ((wr.alloc (.cells #[.string ⟨#[]⟩] 9)).alloc (.cells #[.int .i64 0] 3)).cell? ⟨wr.heap.size + 1, 0, none⟩ = some (.int .i64 0) := by rw [World.cell?_alloc_at _ _ _ _ (by simp)]; rfl
        have n1 : ((wr.alloc (.cells #[.string ⟨#[]⟩] 9)).alloc (.cells #[.int .i64 0] 3)).frozen? ⟨wr.heap.size + 1, 0, none⟩ = false := by rw [World.frozen?_alloc_at _ _ _ _ (by simp)]
        have hzU : ((wr.alloc (.cells #[.string ⟨#[]⟩] 9)).alloc (.cells #[.int .i64 0] 3)).heap.size = wr.heap.size + 2 := by simp
        have HTU := Lib.hid (ht.below hbU)
        have HBU := Lib.hid (HR.out.box.below hbU)
        have HLU := Lib.hid (below_go HR.out.lo hbU)
        have hpl := HR.out.pl
        have HFW := Lib.hid (ht.hF)
        have HV := Lib.hid hv
        have HN := Lib.hid (And.intro hl hi2)
        clear ht hv hl hbU HR
        generalize (wr.alloc (.cells #[.string ⟨#[]⟩] 9)).alloc (.cells #[.int .i64 0] 3) = U at *
        have ct := HBU.out.ct
        have cf := HBU.out.c0
        gi_wp2_with (gi_at_call 10; refine (range_calls (some ⟨T, 0, none⟩) av [] _).mono ?_; rintro e w6 ⟨rfl, rfl⟩)
        clear hi hi2 ct cf
        obtain ⟨L, hL⟩ : ∃ L, L = ge av (rflat r) := ⟨_, rfl⟩
        have HL := Lib.hid hL
        have HSL := Lib.hid (show Srt L by rw [hL]; exact HTU.out.ok.srt.sub List.filter_sublist)
        have HTC := Lib.hid (HTU.out.tr.at.2.2.2.2.2.2.1)
        have hSU : wr.heap.size + 2 = U.heap.size := hzU.symm
        have HZU := Lib.hid hzU
        refine tree_range F r T (wr.heap.size + 2) t.now av [] (fun j => j = wr.heap.size ∨ j = wr.heap.size + 1) (fun rest W => R1 w W T tb wr.heap.size (wr.heap.size + 1) av cv L rest) rfl hSU rfl HTU.out.root HTU.out.ok HTC.out ?hX (fun l W W' hc h => h.calm hc) ?h0 rfl ?hbody ?hdone
        case hX =>
          rintro j (rfl | rfl)
          · exact ⟨fun h => by have := HFW.out _ h; omega, by omega, by omega⟩
          · exact ⟨fun h => by have := HFW.out _ h; omega, by omega, by omega⟩
        case h0 =>
          rw [upTo_nil, ← hL]
          have hb : Below U.heap.size U (((U.alloc (.cells #[.pointer (some ⟨T, 0, none⟩)] 28)).alloc (.cells #[.string (bstr av)] 9)).alloc (.cells #[.string (bstr [])] 9)) := (((Below.refl _ _).alloc (Nat.le_refl _) _).alloc (by simp) _).alloc (by simp; omega) _
          have hfr : ∀ k, k < U.heap.size → U.frozen? ⟨k, 0, none⟩ = false → (((U.alloc (.cells #[.pointer (some ⟨T, 0, none⟩)] 28)).alloc (.cells #[.string (bstr av)] 9)).alloc (.cells #[.string (bstr [])] 9)).frozen? ⟨k, 0, none⟩ = false := fun k hk hf => (World.frozen?_of_block (a := ⟨k, 0, none⟩) (hb.block k hk)).trans hf
          exact ⟨⟨[], rfl, cell_later hb l0, hfr _ (by omega) l1, cell_later hb n0, hfr _ (by omega) n1⟩, HBU.out.below hb⟩
        case hbody =>
          intro l x rest W hI hon hsW
          obtain ⟨pre, hpre, q0, q1, q2, q3⟩ := hI.it
          have HBX := Lib.hid hI.box
          have ct := hI.box.ct
          have cf := hI.box.c0
          have HSW := Lib.hid (hsW)
          have HON := Lib.hid hon
          have HI := Lib.hid hI
          have hmem : x ∈ rflat r := by
            have : x ∈ L := by rw [← hpre]; simp
            rw [hL] at this
            exact (List.mem_filter.1 this).1
          have hgef : Op.bytesLess (bstr x.1).toList (bstr av).toList = false := by
            have : x ∈ L := by rw [← hpre]; simp
            rw [hL] at this
            rw [bytes_lt]
            exact decide_eq_false (by simpa using (List.mem_filter.1 this).2)
          have hlk := Lib.hid (mem_look HTU.out.ok.srt (show (x.1, x.2) ∈ rflat r from hmem))
          have hxv := Lib.hid (HV.out x hmem).1
          have hxl := (HV.out x hmem).2
          have hlast : ∀ e ∈ pre, e.1 < x.1 := fun e he => by
            have h := HSL.out
            rw [← hpre] at h
            exact (srt_app.1 h).2.2 e he x (by simp)
          have hplen : pre.length ≤ 200 := by
            have h1 : pre.length ≤ L.length := by rw [← hpre]; simp
            have h2 : L.length ≤ (rflat r).length := by rw [hL]; exact List.length_filter_le _ _
            have h3 := HN.out
            omega
          have HPRE := Lib.hid hpre
          have HLA := Lib.hid hlast
          obtain ⟨xk, xv⟩ := x
          simp only at hgef hlk hxv hxl
          have hsum : ¬ 9223372036854775807 < (bstr xk).size + 1 := by
            rw [show (bstr xk).size = xk.length by show xk.toArray.size = _; simp]
            omega
          have hadd : (bstr xv).toList = (bstr xk ++ ⟨#[33]⟩).toList := by rw [bstr_bang, hxv.out]
          clear hI l0 l1 n0 n1 hzU hSU hL hon hsW hpre hlast hmem hxl
          gi_wp2_with fail
          refine ⟨KeepsOthers.refl _, fun W₂ hcm => ?_⟩
          have HCM := Lib.hid hcm
          have ct := hcm.cell ct
          have cf := hcm.cell cf
          have q0' := hcm.cell q0
          have q1' := (hcm.frozen q0).trans q1
          have q2' := hcm.cell q2
          have q3' := (hcm.frozen q2).trans q3
          have HON2 := Lib.hid (HON.out.calm hcm (by omega))
          clear hcm
          gi_wp2_with fail
          have hnl : ∀ j, F j → ¬ (j = wr.heap.size ∨ j = wr.heap.size + 1) := fun j hj e => by have := HFW.out j hj; omega
          refine (CallsIn.inRound l (callsIn_wide.2 (tget_calls F r T t.now xk W₂ (HTU.out.root.fr (Fr.of_only HON2.out (fun k hk _ => hnl k hk))) HTU.out.ok (HON2.out.cell (by omega) HTC.out)))).mono ?_
          rintro e w7 ⟨rfl, hw7⟩
          obtain rfl : W₂ = w7 := hw7.symm
          rw [hlk.out]
          have HQ := Lib.hid (And.intro q0' (And.intro q1' (And.intro q2' q3')))
          by_cases hp0 : 0 < pre.length
          · have hll : lastk pre < xk := by
              unfold lastk
              cases hgl : pre.getLast? with
              | none => rw [List.getLast?_eq_none_iff] at hgl; subst hgl; simp at hp0
              | some e => exact HLA.out e (List.mem_of_getLast? hgl)
            have f1 : Op.bytesLess (bstr xk).toList (bstr (lastk pre)).toList = false := by rw [bytes_lt]; exact decide_eq_false (fun h => slt_irr _ (slt_trans h hll))
            have f2 : ((bstr xk).toList == (bstr (lastk pre)).toList) = false := by
              rw [bstr_toList, bstr_toList, beq_eq_false_iff_ne]
              intro e
              rw [e] at hll
              exact slt_irr _ hll
            clear hll
            gi_wp2_with fail
            have ho3 : Only (fun j => j = wr.heap.size ∨ j = wr.heap.size + 1) W₂ ((W₂.setCell ⟨wr.heap.size, 0, none⟩ (.string (bstr xk))).setCell ⟨wr.heap.size + 1, 0, none⟩ (.int .i64 ((pre.length : Int) + 1))) := ((Only.refl _ W₂).setCell ⟨wr.heap.size, 0, none⟩ _ (.inl (.inl rfl))).setCell ⟨wr.heap.size + 1, 0, none⟩ _ (.inl (.inr rfl))
            refine ⟨(KeepsOthers.setCell _ _ _).trans (KeepsOthers.setCell _ _ _), ⟨⟨pre ++ [(xk, xv)], by rw [← HPRE.out]; simp, ?_, ?_, ?_, ?_⟩, (HBX.out.calm HCM.out).only ho3 (by omega) (by omega) (by omega) (by omega)⟩, (Tn.of_calm HCM.out).trans (Tn.of_only ho3)⟩
            · rw [lastk_snoc, cell_set_block _ (by omega)]
              exact cell_set_same _ HQ.out.1
            · rw [frozen_set, frozen_set]
              exact HQ.out.2.1
            · rw [List.length_append]
              exact cell_set_same (u := .int .i64 (pre.length : Nat)) _ (by rw [cell_set_block _ (by omega)]; exact HQ.out.2.2.1)
            · rw [frozen_set, frozen_set]
              exact HQ.out.2.2.2
          · skip
            gi_wp2_with fail
            have ho3 : Only (fun j => j = wr.heap.size ∨ j = wr.heap.size + 1) W₂ ((W₂.setCell ⟨wr.heap.size, 0, none⟩ (.string (bstr xk))).setCell ⟨wr.heap.size + 1, 0, none⟩ (.int .i64 ((pre.length : Int) + 1))) := ((Only.refl _ W₂).setCell ⟨wr.heap.size, 0, none⟩ _ (.inl (.inl rfl))).setCell ⟨wr.heap.size + 1, 0, none⟩ _ (.inl (.inr rfl))
            refine ⟨(KeepsOthers.setCell _ _ _).trans (KeepsOthers.setCell _ _ _), ⟨⟨pre ++ [(xk, xv)], by rw [← HPRE.out]; simp, ?_, ?_, ?_, ?_⟩, (HBX.out.calm HCM.out).only ho3 (by omega) (by omega) (by omega) (by omega)⟩, (Tn.of_calm HCM.out).trans (Tn.of_only ho3)⟩
            · rw [lastk_snoc, cell_set_block _ (by omega)]
              exact cell_set_same _ HQ.out.1
            · rw [frozen_set, frozen_set]
              exact HQ.out.2.1
            · rw [List.length_append]
              exact cell_set_same (u := .int .i64 (pre.length : Nat)) _ (by rw [cell_set_block _ (by omega)]; exact HQ.out.2.2.1)
            · rw [frozen_set, frozen_set]
              exact HQ.out.2.2.2
        case hdone =>
          intro D W hD hI hon hdef
          obtain ⟨pre, hpre, -, -, q2, q3⟩ := hI.it
          rw [List.append_nil] at hpre
          rw [hpre] at q2
          have hDU : U.heap.size ≤ D := by simp only [World.size_alloc] at hD; omega
          have HBX := Lib.hid hI.box
          have HQ2 := Lib.hid q2
          have ct := hI.box.ct
          have cf := hI.box.c0
          have cc := hI.box.c1
          have c2 : W.cell? ⟨w.heap.size + 1 + 1, 0, none⟩ = some (.bool false) := hI.box.c2
          have f2 : W.frozen? ⟨w.heap.size + 1 + 1, 0, none⟩ = false := hI.box.f2
          have HON := Lib.hid hon
          have HDE := Lib.hid hdef
          have HLB := Lib.hid (HLU.out.trans (hon.below HLU.out.size (fun j hj e => by omega)))
          clear l0 l1 n0 n1 hzU hSU hL hI hpre q2 q3 hon hdef hD
          by_cases hcut : av < cv
          · have g1 : Op.bytesLess (bstr cv).toList (bstr av).toList = false := by rw [bytes_lt]; exact decide_eq_false (fun h => slt_irr _ (slt_trans h hcut))
            have g2 : ((bstr cv).toList == (bstr av).toList) = false := by
              rw [bstr_toList, bstr_toList, beq_eq_false_iff_ne]
              intro e
              rw [e] at hcut
              exact slt_irr _ hcut
            have HCU := Lib.hid hcut
            clear hcut
            gi_upto_region 21 with fail
            have hbM := below_alloc W (.cells #[.int .i64 0] 3)
            have m0 := box_self (w := W) (cs := #[.int .i64 0]) (e := 3) 0 _ rfl
            have m1 : (W.alloc (.cells #[.int .i64 0] 3)).frozen? ⟨W.heap.size, 0, none⟩ = false := World.frozen?_alloc_at _ _ _ _ rfl
            have HZM := Lib.hid (show (W.alloc (.cells #[.int .i64 0] 3)).heap.size = W.heap.size + 1 by simp)
            have HBM := Lib.hid (HBX.out.below hbM)
            have HLM := Lib.hid (below_go HLB.out hbM)
            have hnl : ∀ j, F j → ¬ (j = wr.heap.size ∨ j = wr.heap.size + 1) := fun j hj e => by have := HFW.out j hj; omega
            have HRM := Lib.hid ((HTU.out.root.fr (Fr.of_only HON.out (fun k hk _ => hnl k hk))).fr (Fr.of_below hbM))
            have HTM := Lib.hid (cell_later hbM (HON.out.cell (by omega) HTC.out))
            have HQM := Lib.hid (cell_later hbM HQ2.out)
            have hWU : wr.heap.size + 2 ≤ W.heap.size := by have := HON.out.size; have := HZU.out; omega
            have HDM := Lib.hid (show (W.alloc (.cells #[.int .i64 0] 3)).heap[D]? = some (.deferred (some [])) from (hbM.block D (Array.getElem?_eq_some_iff.1 HDE.out).1).trans HDE.out)
            have HDL := Lib.hid (Array.getElem?_eq_some_iff.1 HDE.out).1
            clear hnl hbM HDE HQ2 HON HLB HBX ct cf cc c2 f2
            generalize W.alloc (.cells #[.int .i64 0] 3) = M at *
            have ct := HBM.out.ct
            have cf := HBM.out.c0
            have cc := HBM.out.c1
            gi_wp2_with (gi_at_call 10; refine (range_calls (some ⟨T, 0, none⟩) av cv _).mono ?_; rintro e w8 ⟨rfl, rfl⟩)
            clear ct cf cc
            refine tree_range F r T M.heap.size t.now av cv (fun j => j = W.heap.size) (fun rest V => R2 w V T tb W.heap.size 0 av cv (upTo cv (ge av (rflat r))) rest) rfl rfl rfl HRM.out HTU.out.ok HTM.out ?hX2 (fun l W W' hc h => h.calm hc) ?h02 rfl ?hbody2 ?hdone2
            case hX2 =>
              rintro j rfl
              have hzm := HZM.out
              exact ⟨fun h => by have := HFW.out _ h; omega, by omega, by omega⟩
            case h02 =>
              have hb : Below M.heap.size M (((M.alloc (.cells #[.pointer (some ⟨T, 0, none⟩)] 28)).alloc (.cells #[.string (bstr av)] 9)).alloc (.cells #[.string (bstr cv)] 9)) := (((Below.refl _ _).alloc (Nat.le_refl _) _).alloc (by simp) _).alloc (by simp; omega) _
              have hzm := HZM.out
              exact ⟨⟨[], rfl, cell_later hb m0, (World.frozen?_of_block (a := ⟨W.heap.size, 0, none⟩) (hb.block _ (by show W.heap.size < M.heap.size; omega))).trans m1⟩, HBM.out.below hb⟩
            case hbody2 =>
              intro l x rest V hI hon hsV
              obtain ⟨pre, hpre, q0, q1⟩ := hI.it
              have hxm : x ∈ upTo cv (ge av (rflat r)) := by rw [← hpre]; simp
              have hxc : x.1 < cv := by
                have hce : cv.isEmpty = false := by
                  cases hcv : cv with
                  | nil => have := HCU.out; rw [hcv] at this; exact absurd this (snil_le av)
                  | cons _ _ => rfl
                rw [upTo_sorted hce (show Srt (ge av (rflat r)) from HTU.out.ok.srt.sub List.filter_sublist)] at hxm
                simpa using (List.mem_filter.1 hxm).2
              obtain ⟨xk, xv⟩ := x
              have g1 : Op.bytesLess (bstr xk).toList (bstr cv).toList = true := by rw [bytes_lt]; exact decide_eq_true hxc
              have g2 : Op.bytesLess (bstr cv).toList (bstr xk).toList = false := by rw [bytes_lt]; exact decide_eq_false (fun h => slt_irr _ (slt_trans h hxc))
              have g3 : ((bstr xk).toList == (bstr cv).toList) = false := by
                rw [bstr_toList, bstr_toList, beq_eq_false_iff_ne]
                intro e
                rw [← e] at hxc
                exact slt_irr _ hxc
              have hplen : 0 + pre.length ≤ 400 := by
                have h1 : pre.length ≤ (upTo cv (ge av (rflat r))).length := by rw [← hpre]; simp
                have h2 : (upTo cv (ge av (rflat r))).length ≤ (ge av (rflat r)).length := (List.takeWhile_sublist _).length_le
                have h3 : (ge av (rflat r)).length ≤ (rflat r).length := List.length_filter_le _ _
                have h4 := HN.out
                omega
              have HPR2 := Lib.hid hpre
              have HI2 := Lib.hid hI
              have cc := hI.box.c1
              clear m0 m1 hxm hxc hpre hI hon hsV
              obtain ⟨N, hN⟩ : ∃ N, N = 0 + pre.length := ⟨_, rfl⟩
              rw [← hN] at q0 hplen
              have HNN := Lib.hid hN
              clear hN
              gi_wp2_with fail
              refine ⟨KeepsOthers.refl _, fun W₂ hcm => ?_⟩
              have HCM := Lib.hid hcm
              have cc := hcm.cell cc
              have q0' := hcm.cell q0
              have q1' := (hcm.frozen q0).trans q1
              have HQ := Lib.hid (And.intro q0' q1')
              clear hcm
              gi_wp2_with fail
              have ho3 := only_set W₂ W.heap.size 0 (.int .i64 ((N : Int) + 1))
              refine ⟨KeepsOthers.setCell _ _ _, ⟨⟨pre ++ [(xk, xv)], by rw [← HPR2.out]; simp, ?_, ?_⟩, (HI2.out.box.calm HCM.out).only ho3 (by omega) (by omega) (by omega) (by omega)⟩, (Tn.of_calm HCM.out).trans (Tn.of_only ho3)⟩
              · rw [List.length_append, List.length_singleton, ← Nat.add_assoc, ← HNN.out]
                exact cell_set_same _ HQ.out.1
              · rw [frozen_set]
                exact HQ.out.2
            case hdone2 =>
              intro D2 V hD2 hI hon2 hdef2
              obtain ⟨pre, hpre, q0, q1⟩ := hI.it
              rw [List.append_nil] at hpre
              rw [hpre, Nat.zero_add] at q0
              obtain ⟨L2N, hL2⟩ : ∃ n, n = (upTo cv (ge av (rflat r))).length := ⟨_, rfl⟩
              rw [← hL2] at q0
              have HL2 := Lib.hid hL2
              clear hL2
              have hDM : M.heap.size ≤ D2 := by simp only [World.size_alloc] at hD2; omega
              have hMV := hon2.size
              have hzm := HZM.out
              have HZV := Lib.hid (show W.heap.size < V.heap.size by omega)
              have HBV := Lib.hid hI.box
              have hnl2 : ∀ j, F j → ¬ j = W.heap.size := fun j hj e => by have := HFW.out j hj; omega
              have HRV := Lib.hid (HRM.out.fr (Fr.of_only hon2 (fun k hk _ => hnl2 k hk)))
              have HTV := Lib.hid (hon2.cell (by omega) HTM.out)
              have HQV := Lib.hid (And.intro (hon2.cell (by omega) HQM.out) q0)
              have HF1 := Lib.hid q1
              have HDV := Lib.hid (show V.heap[D]? = some (.deferred (some [])) from (hon2.block D (by have := HDL.out; omega) (by have := HDL.out; omega)).trans HDM.out)
              have HE2 := Lib.hid (And.intro hDM hdef2)
              have HLV := Lib.hid (HLM.out.trans (hon2.below HLM.out.size (fun j hj e => by omega)))
              have ct := hI.box.ct
              have cc := hI.box.c1
              clear m0 m1 hI hpre q0 q1 hon2 hdef2 hD2 hnl2 hDM hMV hzm
              gi_wp2_with (gi_at_call 10; refine (range_calls (some ⟨T, 0, none⟩) cv [] _).mono ?_; rintro e w9 ⟨rfl, rfl⟩)
              clear ct cc
              refine tree_range F r T V.heap.size t.now cv [] (fun j => j = W.heap.size) (fun rest Z => R2 w Z T tb W.heap.size L2N av cv (ge cv (rflat r)) rest) rfl rfl rfl HRV.out HTU.out.ok HTV.out ?hX3 (fun l W W' hc h => h.calm hc) ?h03 rfl ?hbody3 ?hdone3
              case hX3 =>
                rintro j rfl
                have hzv := HZV.out
                exact ⟨fun h => by have := HFW.out _ h; omega, by omega, by omega⟩
              case h03 =>
                rw [upTo_nil]
                have hb : Below V.heap.size V (((V.alloc (.cells #[.pointer (some ⟨T, 0, none⟩)] 28)).alloc (.cells #[.string (bstr cv)] 9)).alloc (.cells #[.string (bstr [])] 9)) := (((Below.refl _ _).alloc (Nat.le_refl _) _).alloc (by simp) _).alloc (by simp; omega) _
                exact ⟨⟨[], rfl, cell_later hb HQV.out.2, (World.frozen?_of_block (a := ⟨W.heap.size, 0, none⟩) (hb.block _ HZV.out)).trans HF1.out⟩, HBV.out.below hb⟩
              case hbody3 =>
                intro l x rest Z hI hon hsV
                obtain ⟨pre, hpre, q0, q1⟩ := hI.it
                have hxm : x ∈ ge cv (rflat r) := by rw [← hpre]; simp
                have hxc : ¬ x.1 < cv := by simpa using (List.mem_filter.1 hxm).2
                obtain ⟨xk, xv⟩ := x
                have g1 : Op.bytesLess (bstr xk).toList (bstr cv).toList = false := by rw [bytes_lt]; exact decide_eq_false hxc
                have hplen : L2N + pre.length ≤ 400 := by
                  rw [HL2.out]
                  have h1 : pre.length ≤ (ge cv (rflat r)).length := by rw [← hpre]; simp
                  have h2 := cut_len HCU.out HTU.out.ok.srt
                  have h3 : (ge av (rflat r)).length ≤ (rflat r).length := List.length_filter_le _ _
                  have h4 := HN.out
                  omega
                have HPR2 := Lib.hid hpre
                have HI2 := Lib.hid hI
                have cc := hI.box.c1
                clear hxm hxc hpre hI hon hsV
                obtain ⟨N, hN⟩ : ∃ N, N = L2N + pre.length := ⟨_, rfl⟩
                rw [← hN] at q0 hplen
                have HNN := Lib.hid hN
                clear hN
                gi_wp2_with fail
                refine ⟨KeepsOthers.refl _, fun W₂ hcm => ?_⟩
                have HCM := Lib.hid hcm
                have cc := hcm.cell cc
                have q0' := hcm.cell q0
                have q1' := (hcm.frozen q0).trans q1
                have HQ := Lib.hid (And.intro q0' q1')
                clear hcm
                gi_wp2_with fail
                have ho3 := only_set W₂ W.heap.size 0 (.int .i64 ((N : Int) + 1))
                refine ⟨KeepsOthers.setCell _ _ _, ⟨⟨pre ++ [(xk, xv)], by rw [← HPR2.out]; simp, ?_, ?_⟩, (HI2.out.box.calm HCM.out).only ho3 (by omega) (by omega) (by omega) (by omega)⟩, (Tn.of_calm HCM.out).trans (Tn.of_only ho3)⟩
                · rw [List.length_append, List.length_singleton, ← Nat.add_assoc, ← HNN.out]
                  exact cell_set_same _ HQ.out.1
                · rw [frozen_set]
                  exact HQ.out.2
              case hdone3 =>
                intro D3 Z hD3 hI hon3 hdef3
                obtain ⟨pre, hpre, q0, q1⟩ := hI.it
                rw [List.append_nil] at hpre
                rw [hpre] at q0
                have hDV : V.heap.size ≤ D3 := by simp only [World.size_alloc] at hD3; omega
                have HQ := Lib.hid (And.intro (hon3.cell (by have := HZV.out; omega) HQV.out.1) q0)
                have nn := HQ.out.1
                have hle := cut_len HCU.out HTU.out.ok.srt
                rw [← HL2.out, ← HL.out] at hle
                obtain ⟨L3N, hL3⟩ : ∃ n, n = (ge cv (rflat r)).length := ⟨_, rfl⟩
                rw [← hL3] at q0 hle
                have heq : ((L.length : Int) == (L2N : Int) + (L3N : Int)) = true := beq_iff_eq.2 (by omega)
                have c2 : Z.cell? ⟨w.heap.size + 1 + 1, 0, none⟩ = some (.bool false) := hI.box.c2
                have f2 : Z.frozen? ⟨w.heap.size + 1 + 1, 0, none⟩ = false := hI.box.f2
                have HC2 := Lib.hid c2
                have HDZ := Lib.hid (show Z.heap[D]? = some (.deferred (some [])) from (hon3.block D (Array.getElem?_eq_some_iff.1 HDV.out).1 (by have := HDL.out; omega)).trans HDV.out)
                have HD2Z := Lib.hid (show Z.heap[D2]? = some (.deferred (some [])) from (hon3.block D2 (Array.getElem?_eq_some_iff.1 HE2.out.2).1 (by have := HE2.out.1; have := HZM.out; omega)).trans HE2.out.2)
                have HD3Z := Lib.hid (And.intro hDV hdef3)
                have HLZ := Lib.hid (HLV.out.trans (hon3.below HLV.out.size (fun j hj e => by omega)))
                clear hle hL3 hI hpre q1 hon3 hD3 hDV hdef3
                gi_wp2_with fail
                have ho := only_set Z (w.heap.size + 1 + 1) 0 (.bool true)
                have hzu := HZU.out
                have hzm := HZM.out
                have hz1 := HDL.out
                have hz2 := HE2.out.1
                have hz3 := (Array.getElem?_eq_some_iff.1 HE2.out.2).1
                have hz4 := HD3Z.out.1
                have hz5 := (Array.getElem?_eq_some_iff.1 HD3Z.out.2).1
                have hz6 := (Array.getElem?_eq_some_iff.1 HD2Z.out).1
                have hz7 := (Array.getElem?_eq_some_iff.1 HDZ.out).1
                have e3 := (ho.block D3 hz5 (by omega)).trans HD3Z.out.2
                have e2 := (World.putObj_heap_other (o := .deferred none) (show D2 ≠ D3 by omega)).trans ((ho.block D2 hz6 (by omega)).trans HD2Z.out)
                have e1 := (World.putObj_heap_other (o := .deferred none) (show D ≠ D2 by omega)).trans ((World.putObj_heap_other (o := .deferred none) (show D ≠ D3 by omega)).trans ((ho.block D hz7 (by omega)).trans HDZ.out))
                refine ⟨by simp, .inl ⟨_, _, rfl, run_takeDeferred e3, ?_⟩⟩
                refine ⟨by simp, .inl ⟨_, _, rfl, run_takeDeferred e2, ?_⟩⟩
                refine ⟨by simp, .inl ⟨_, _, rfl, run_takeDeferred e1, ?_⟩⟩
                have hcl := (World.cell?_of_block (a := ⟨w.heap.size + 1 + 1, 0, none⟩) ((World.putObj_heap_other (o := .deferred none) (show w.heap.size + 1 + 1 ≠ D by omega)).trans ((World.putObj_heap_other (o := .deferred none) (show w.heap.size + 1 + 1 ≠ D2 by omega)).trans (World.putObj_heap_other (w := Z.setCell ⟨w.heap.size + 1 + 1, 0, none⟩ (.bool true)) (o := .deferred none) (show w.heap.size + 1 + 1 ≠ D3 by omega))))).trans (cell_set_same (.bool true) HC2.out)
                refine ⟨.bool true, by simp [results, Try.results3, go_sem, hcl], rfl, ?_⟩
                exact (((HLZ.out.trans (ho.below HLZ.out.size (fun j hj e => by omega))).trans ((Calm.putObj (B := w.heap.size) _ (by omega) e3 rfl).below)).trans ((Calm.putObj (B := w.heap.size) _ (by omega) e2 rfl).below)).trans ((Calm.putObj (B := w.heap.size) _ (by omega) e1 rfl).below)
          · have g0 : Op.bytesLess (bstr cv).toList (bstr av).toList = true ∨ ((bstr cv).toList == (bstr av).toList) = true := by
              rw [bytes_lt, bstr_toList, bstr_toList]
              rcases slt_tri av cv with h | h | h
              · exact absurd h hcut
              · exact .inr (by rw [h]; simp)
              · exact .inl (decide_eq_true h)
            clear hcut
            have HC2 := Lib.hid c2
            rcases g0 with g0 | g0
            all_goals
              gi_wp2_with fail
              have ho := only_set W (w.heap.size + 1 + 1) 0 (.bool true)
              have hDl := (Array.getElem?_eq_some_iff.1 HDE.out).1
              have hzu := HZU.out
              have hdd := (ho.block D hDl (by omega)).trans HDE.out
              refine ⟨by simp, .inl ⟨_, _, rfl, run_takeDeferred hdd, ?_⟩⟩
              have hcl := (World.cell?_of_block (a := ⟨w.heap.size + 1 + 1, 0, none⟩) (World.putObj_heap_other (w := W.setCell ⟨w.heap.size + 1 + 1, 0, none⟩ (.bool true)) (o := .deferred none) (show w.heap.size + 1 + 1 ≠ D by omega))).trans (cell_set_same (.bool true) HC2.out)
              refine ⟨.bool true, by simp [results, Try.results3, go_sem, hcl], rfl, ?_⟩
              exact (HLB.out.trans (ho.below HLB.out.size (fun j hj e => by omega))).trans ((Calm.putObj (B := w.heap.size) _ (by omega) hdd rfl).below)
end Go.Proofs.Ytmafnjidhjabgaa

/- From a reading of []uint16, of []string and of a string to what the walks ask. -/
namespace Go.Proofs.Ytmafnjidhjabgaa
open Go.RowKit Go.ChangeShapes Go.WideShapes Go.ChangeAt
set_option maxRecDepth 100000
theorem u16s_get (ns : List Int) (i : Nat) (hi : i < ns.length) : (ns.map (Value.int .u16))[i]? = some (.int .u16 ns[i]) := by simp [hi]
/-- []uint16 -/
theorem open_u16s {H : Type} {enc : TypeId × Value → H} {W : World} {B : Nat} {held : Bool} {v : Value} {d : DataW H} {p : List MemPlace}
    (ok : Value.okWide Try.prog W .any B 38 v) (h : DataW.Trod enc Try.prog W 0 (fun _ => true) held 38 v d p) : ∃ ns : List Int, Rd W 1 v ns.length (ns.map (Value.int .u16)) ∧ (∀ n ∈ ns, 0 ≤ n ∧ n < 65536) := by
  obtain ⟨a, len, cap, rfl⟩ := okWide_slice Try.underlying38 ok
  obtain ⟨fuel, hf⟩ := h
  rcases open_ints Try.underlying38 Try.underlying40 (by kernel_rfl) hf with ⟨hcs, he⟩ | ⟨x, len', cap', zs, hcs, _, hl, hm, hz, he, hcell, hwz⟩
  · simp [Value.cells] at hcs
    obtain ⟨rfl, rfl, rfl⟩ := hcs
    obtain ⟨rfl, rfl⟩ := Prod.mk.inj he
    exact ⟨[], Rd.nil W 1, fun n hn => by simp at hn⟩
  · simp [Value.cells] at hcs
    obtain ⟨rfl, rfl, rfl⟩ := hcs
    obtain ⟨rfl, rfl⟩ := Prod.mk.inj he
    simp only [if_true] at hz
    have htl : (zs.take len).length = len := by simp; omega
    refine ⟨zs.take len, ⟨some x, cap, by rw [htl], by rw [List.length_map]; omega, by omega, by unfold maxLen at hm; omega, ?_⟩, fun n hn => by have := Go.bounds_u16 (hwz n (List.mem_of_mem_take hn)); omega⟩
    by_cases h0 : cap = 0
    · exact .inl h0
    · have hs := addr_spot (hcell 0 (by omega))
      refine .inr ⟨x.block, x.off, by rw [← hs], fun j u hj => ?_⟩
      have hjl : j < (zs.take len).length := by have := (List.getElem?_eq_some_iff.1 hj).1; simpa using this
      rw [u16s_get _ j hjl] at hj
      have := hcell j (by omega)
      rw [hs, add_off] at this
      rw [this, ← Option.some.inj hj]
      congr 2
      rw [List.getElem_take, List.getD_eq_getElem?_getD, List.getElem?_eq_getElem (by omega)]
      rfl
theorem flatF_strl (ss : List Str) : flatF (fun s : Str => [strV s]) ss = ss.map strV := by
  induction ss with
  | nil => rfl
  | cons n ns ih => simp only [flatF, List.flatMap_cons, List.map_cons] at ih ⊢; rw [ih]; rfl
/-- string -/
theorem open_strV {H : Type} {enc : TypeId × Value → H} {W : World} {B : Nat} {held : Bool} {v : Value} {d : DataW H} {p : List MemPlace}
    (ok : Value.okWide Try.prog W .any B 9 v) (h : DataW.Trod enc Try.prog W 0 (fun _ => true) held 9 v d p) : ∃ s : Str, v = strV s ∧ s.length ≤ maxLen := by
  obtain ⟨s, rfl⟩ := okWide_string Try.underlying9 ok
  obtain ⟨fuel, hf⟩ := h
  obtain ⟨s', hs, hz, ws⟩ := DataW.trod_string Try.underlying9 hf
  simp [Value.cells] at hs
  subst hs
  exact ⟨s.data.toList, (strV_of s).symm, by rw [Array.length_toList]; exact ws⟩
/-- []string -/
theorem open_strl {H : Type} {enc : TypeId × Value → H} {W : World} {B : Nat} {held : Bool} {v : Value} {d : DataW H} {p : List MemPlace}
    (ok : Value.okWide Try.prog W .any B 22 v) (h : DataW.Trod enc Try.prog W 0 (fun _ => true) held 22 v d p) : ∃ ss : List Str, Rd W 1 v ss.length (ss.map strV) ∧ (d = .nil ∧ ss = [] ∨ ∃ sp, d = .slice (ss.map fun s => .lit (.string s)) sp) := by
  obtain ⟨a, len, cap, rfl⟩ := okWide_slice Try.underlying22 ok
  obtain ⟨fuel, hf⟩ := h
  rcases open_strings Try.underlying22 Try.underlying9 (by kernel_rfl) hf with ⟨hcs, he⟩ | ⟨x, len', cap', ss, hcs, _, hl, hm, hz, he, hcell, hsz⟩
  · simp [Value.cells] at hcs
    obtain ⟨rfl, rfl, rfl⟩ := hcs
    obtain ⟨rfl, rfl⟩ := Prod.mk.inj he
    exact ⟨[], Rd.nil W 1, .inl ⟨rfl, rfl⟩⟩
  · simp [Value.cells] at hcs
    obtain ⟨rfl, rfl, rfl⟩ := hcs
    obtain ⟨rfl, rfl⟩ := Prod.mk.inj he
    simp only [if_true] at hz
    have htl : ((ss.take len).map fun s => s.data.toList).length = len := by simp; omega
    refine ⟨(ss.take len).map fun s => s.data.toList, ⟨some x, cap, by rw [htl], by rw [List.length_map, Nat.mul_one], by omega, by unfold maxLen at hm; omega, ?_⟩, .inr ⟨strs (ss.drop len), ?_⟩⟩
    · by_cases h0 : cap = 0
      · exact .inl h0
      · have hs := addr_spot (hcell 0 (by omega))
        refine .inr ⟨x.block, x.off, by rw [← hs], fun j u hj => ?_⟩
        have hjl : j < len := by have := (List.getElem?_eq_some_iff.1 hj).1; simp at this; omega
        have hc := hcell j (by omega)
        rw [hs, add_off] at hc
        rw [hc]
        rw [List.map_map, List.getElem?_map, List.getElem?_take_of_lt hjl, List.getElem?_eq_getElem (by omega)] at hj
        rw [← hj]
        show some (Value.string (ss.getD j ByteArray.empty)) = some (strV (ss[j]'(by omega)).data.toList)
        rw [strV_of, List.getD_eq_getElem?_getD, List.getElem?_eq_getElem (by omega)]
        rfl
    · rw [List.map_map]
      rfl
theorem weights_strs {H : Type} (P : Program) (e : TypeId) (s : Str) : ∀ ss : List Str, s ∈ ss → s.length ∈ DataW.weightsAll P e (ss.map fun s => (.lit (.string s) : DataW H))
  | x :: ss, h => by
    simp only [List.map_cons, DataW.weightsAll, DataW.weights]
    rcases List.mem_cons.1 h with rfl | h
    · simp
    · exact List.mem_append_right _ (weights_strs P e s ss h)
theorem reach_strs {H : Type} {ts : List TypeId} {ds : List (DataW H)} {d : DataW H} {j : Nat} {ss : List Str} (h : (DataW.weightsEach Try.prog ts ds).all (· ≤ reachBytes) = true) (ht : ts[j]? = some 22) (hd : ds[j]? = some d) (hs : d = .nil ∧ ss = [] ∨ ∃ sp, d = .slice (ss.map fun s => .lit (.string s)) sp) : ∀ s ∈ ss, s.length ≤ 140737488351232 := by
  intro s hm
  rcases hs with ⟨-, rfl⟩ | ⟨sp, rfl⟩
  · cases hm
  · have h1 : s.length ∈ (DataW.slice (ss.map fun s => .lit (.string s)) sp : DataW H).weights Try.prog 22 := by
      simp only [DataW.weights, Try.underlying22]
      exact List.mem_cons_of_mem _ (List.mem_append_left _ (weights_strs _ _ s ss hm))
    have := List.all_eq_true.1 h _ (DataW.weights_mem_each ht hd _ h1)
    have hr : reachBytes = 140737488351232 := rfl
    rw [hr] at this
    simpa using this
end Go.Proofs.Ytmafnjidhjabgaa
