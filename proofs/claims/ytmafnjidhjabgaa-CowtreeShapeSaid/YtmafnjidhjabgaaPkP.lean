/- Walks and plain laws of the chapter, laid together; each part says what it proves. -/
import Derived.Test.YtmafnjidhjabgaaPkA
import Derived.Test.YtmafnjidhjabgaaPkL
import Derived.Test.YtmafnjidhjabgaaPkN
import Derived.Test.YtmafnjidhjabgaaPkO
/- Layer 22: a tree that lives: put, delete, and the commit of a leaf, as contracts of its state. -/
namespace Go.Proofs.Ytmafnjidhjabgaa
open Go.RowKit Go.Shelf
set_option linter.unusedVariables false
set_option linter.unusedSectionVars false
set_option linter.unusedSimpArgs false
set_option maxRecDepth 100000
variable [Inhabited Pgs]

/-! ### blocks of a tree's own types -/
def TyB (w : World) (j : Nat) : Prop := IsT 91 w j ∨ IsT 9 w j ∨ IsT 63 w j
theorem TyB.lt {w : World} {j : Nat} (h : TyB w j) : j < w.heap.size := h.elim (·.lt) (fun h => h.elim (·.lt) (·.lt))
theorem TyB.ne {w : World} {j : Nat} (h : TyB w j) {T : TypeId} (k : IsT T w j) (h1 : T ≠ 91) (h2 : T ≠ 9) (h3 : T ≠ 63) : False := by
  rcases h with h | h | h
  · exact h1 (k.eq h)
  · exact h2 (k.eq h)
  · exact h3 (k.eq h)
theorem TyB.u8 {w : World} {j : Nat} (h : TyB w j) : ¬ IsU8 w j := fun k => h.ne (T := 5) k (by decide) (by decide) (by decide)
theorem notMap {w : World} {r j : Nat} {m : Ents} (h : MapIs w r m) (e : j = r) : ¬ TyB w j := by
  subst e
  rintro (⟨cs, x, hc⟩ | ⟨cs, x, hc⟩ | ⟨cs, x, hc⟩)
  · exact h.cell cs _ x hc
  · exact h.cell cs _ x hc
  · exact h.cell cs _ x hc
theorem TyB.foot {w : World} {B d : Nat} {D : Dk} (h : DiskAt w B d D) {j : Nat} (k : TyB w j) : ¬ D.foot d j := by
  rintro (hj | hj | hj | hj)
  · exact k.ne (T := 58) (IsT.of_own h.box (j := j) (by rw [hj]; rfl)) (by decide) (by decide) (by decide)
  · exact notMap h.nowM hj k
  · exact notMap h.durM hj k
  · exact k.ne (T := 96) (IsT.of_own h.row hj) (by decide) (by decide) (by decide)
theorem Row.typ {w : World} {F : Nat → Prop} {T : TypeId} {v : Value} {n : Nat} {cs : List Value} (h : Row w F T v n cs) (hT : T = 9 ∨ T = 63) : Row w (fun k => F k ∧ TyB w k) T v n cs :=
  ⟨h.rd, fun a k c e => ⟨⟨(h.ty a k c e).1, by
    have := (h.ty a k c e).2
    rcases hT with rfl | rfl
    · exact .inr (.inl this)
    · exact .inr (.inr this)⟩, (h.ty a k c e).2⟩⟩
theorem NdAt.typ {w : World} {F : Nat → Prop} {p : Nat} {kv vv cv : Value} {es : List KV} {ps : List Nat} (h : NdAt w F p kv vv cv es ps) : NdAt w (fun k => F k ∧ TyB w k) p kv vv cv es ps :=
  ⟨⟨h.inF, .inl h.ty⟩, h.c0, h.c1, h.c2, h.c3, h.fz, h.ty, h.rk.typ (.inl rfl), h.rv.typ (.inl rfl), h.rc.typ (.inr rfl)⟩
theorem TreeAt.typ {w : World} {F : Nat → Prop} : ∀ {h : Nat} {t : BT h} {p : Nat}, TreeAt w F h t p → TreeAt w (fun k => F k ∧ TyB w k) h t p
  | 0, t, p, h => by
    obtain ⟨kv, vv, cv, hn⟩ := h
    exact ⟨kv, vv, cv, hn.typ⟩
  | h + 1, t, p, ht => by
    obtain ⟨kv, vv, cv, ps, hn, hl, hk⟩ := ht
    exact ⟨kv, vv, cv, ps, hn.typ, hl, fun i c q hc hq => TreeAt.typ (hk i c q hc hq)⟩
theorem RootAt.typ {w : World} {F : Nat → Prop} {r : Root} {now : Option Addr} (h : RootAt w F r now) : RootAt w (fun k => F k ∧ TyB w k) r now := by
  cases r with
  | none => exact h
  | some ht =>
    obtain ⟨h', t⟩ := ht
    obtain ⟨p, e, ht⟩ := h
    exact ⟨p, e, ht.typ⟩
theorem RootAt.mono {w : World} {F G : Nat → Prop} {r : Root} {now : Option Addr} (h : RootAt w F r now) (hFG : ∀ k, F k → G k) : RootAt w G r now := by
  cases r with
  | none => exact h
  | some ht =>
    obtain ⟨h', t⟩ := ht
    obtain ⟨p, e, ht⟩ := h
    exact ⟨p, e, ht.mono hFG⟩
theorem RootAt.fr {w w' : World} {F : Nat → Prop} {r : Root} {now : Option Addr} (h : RootAt w F r now) (hf : Fr F w w') : RootAt w' F r now := by
  cases r with
  | none => exact h
  | some ht =>
    obtain ⟨h', t⟩ := ht
    obtain ⟨p, e, ht⟩ := h
    exact ⟨p, e, ht.fr hf⟩

/-- A tree that lives: its block, and the root that its now leads to, in blocks of F. -/
structure TS (w : World) (B T d : Nat) (t : Tr) (F : Nat → Prop) (r : Root) : Prop where
  tr : TrAt w B T d t
  root : RootAt w F r t.now
  ok : ROk r
  typ : ∀ j, F j → TyB w j
theorem TS.hF {w : World} {B T d : Nat} {t : Tr} {F : Nat → Prop} {r : Root} (h : TS w B T d t F r) : ∀ j, F j → j < w.heap.size := fun j hj => (h.typ j hj).lt
theorem TS.hTF {w : World} {B T d : Nat} {t : Tr} {F : Nat → Prop} {r : Root} (h : TS w B T d t F r) : ¬ F T := fun hj => (h.typ T hj).ne (IsT.of_own h.tr (j := T) rfl) (by decide) (by decide) (by decide)
theorem TyB.only {S : Nat → Prop} {w w' : World} {j : Nat} (h : TyB w j) (ho : Only S w w') (hS : ¬ S j) : TyB w' j := by
  have hb := ho.block j h.lt hS
  rcases h with ⟨cs, x, hc⟩ | ⟨cs, x, hc⟩ | ⟨cs, x, hc⟩
  · exact .inl ⟨cs, x, hb.trans hc⟩
  · exact .inr (.inl ⟨cs, x, hb.trans hc⟩)
  · exact .inr (.inr ⟨cs, x, hb.trans hc⟩)
theorem TS.only {S : Nat → Prop} {w w' : World} {B T d : Nat} {t : Tr} {F : Nat → Prop} {r : Root} (h : TS w B T d t F r) (ho : Only S w w') (hS : ∀ j, F j → ¬ S j) (hT : ¬ S T) : TS w' B T d t F r :=
  ⟨h.tr.only ho hT, h.root.fr (Fr.of_only ho (fun k hk _ => hS k hk)), h.ok, fun j hj => (h.typ j hj).only ho (hS j hj)⟩
theorem TS.below {w w' : World} {B T d : Nat} {t : Tr} {F : Nat → Prop} {r : Root} (h : TS w B T d t F r) (hb : Below w.heap.size w w') : TS w' B T d t F r :=
  h.only (S := fun _ => False) (Only.of_below hb) (fun _ _ h => h) (fun h => h)
theorem TS.new {w : World} {B T d : Nat} {t : Tr} (h : TrAt w B T d t) (hn : t.now = none) : TS w B T d t (fun _ => False) none := ⟨h, hn, trivial, fun _ h => h.elim⟩
/-- What a step leaves that turned the tree's now. -/
def Stepped (w w' : World) (B T d : Nat) (t : Tr) (F : Nat → Prop) (r : Root) : Prop := (∃ now F', TS w' B T d { t with now := now } F' r ∧ ∀ j, F' j → F j ∨ w.heap.size ≤ j) ∧ Only (fun j => j = T) w w'
theorem TS.turn {w w' : World} {B T d : Nat} {t : Tr} {F : Nat → Prop} {r r' : Root} (h : TS w B T d t F r) (ok : ROk r') (hw : Turned6 w F T r' w') : Stepped w w' B T d t F r' := by
  obtain ⟨now, u, hb, rfl, hr⟩ := hw
  refine ⟨⟨now, fun k => (F k ∨ w.heap.size ≤ k) ∧ TyB (u.setCell ⟨T, 6, none⟩ (.pointer now)) k, ⟨(h.tr.below hb).setNow now, hr.typ, ok, fun j hj => hj.2⟩, fun j hj => hj.1⟩, ?_⟩
  exact (Only.of_below (S := fun j => j = T) hb).setCell _ _ (.inl rfl)
theorem tput_step {w : World} {B T d : Nat} {t : Tr} {F : Nat → Prop} {r : Root} (h : TS w B T d t F r) (k v : Str) (hk : k.length ≤ 4096) (hv : v.length ≤ 4096) :
    Calls Try.prog 9 #[.pointer (some ⟨T, 0, none⟩), .string (bstr k), .string (bstr v)] w fun e w' => e = .returned (.int .i64 0) ∧ Stepped w w' B T d t F (rput k v r) := by
  obtain ⟨-, -, -, -, -, -, c6, -, fz⟩ := h.tr.at
  refine (tput_calls F r T t.now k v w h.hF h.hTF h.root h.ok c6 (fz 6) hk hv).mono ?_
  rintro e w' ⟨rfl, hw⟩
  exact ⟨rfl, h.turn (rput_spec k v h.ok).2 hw⟩
def DelR (w w' : World) (B T d : Nat) (t : Tr) (F : Nat → Prop) (k : Str) (r : Root) (e : Ending) : Prop :=
  ((look k (rflat r)).isSome = false ∧ e = .returned (.tuple #[.bool false, .int .i64 0]) ∧ w' = w) ∨ ((look k (rflat r)).isSome = true ∧ e = .returned (.tuple #[.bool true, .int .i64 0]) ∧ Stepped w w' B T d t F (rdel k r))
theorem look_mem {k : Str} {l : List KV} (h : (look k l).isSome = true) : ∃ v, (k, v) ∈ l := by
  refine Classical.byContradiction fun hn => ?_
  have h1 : look k l = none := look_no (fun e he hk => hn ⟨e.2, by rw [← hk]; exact he⟩)
  rw [h1] at h
  cases h
theorem tdel_step {w : World} {B T d : Nat} {t : Tr} {F : Nat → Prop} {r : Root} (h : TS w B T d t F r) (k : Str) :
    Calls Try.prog 13 #[.pointer (some ⟨T, 0, none⟩), .string (bstr k)] w fun e w' => DelR w w' B T d t F k r e := by
  obtain ⟨-, -, -, -, -, -, c6, -, fz⟩ := h.tr.at
  refine (tdel_calls F r T t.now k w h.hF h.hTF h.root h.ok c6 (fz 6)).mono ?_
  rintro e w' (⟨h1, rfl, rfl⟩ | ⟨h1, rfl, hw⟩)
  · exact .inl ⟨h1, rfl, rfl⟩
  · exact .inr ⟨h1, rfl, h.turn (rdel_spec k h.ok (look_mem h1)).2 hw⟩
theorem DiskAt.turned {w w' : World} {B Bd T d : Nat} {D : Dk} {t : Tr} (h : DiskAt w Bd d D) (ht : TrAt w B T d t) (hT : ¬ D.foot d T) (ho : Only (fun j => j = T) w w') : DiskAt w' Bd d D :=
  h.only ho (fun j e hf => hT (e ▸ hf)) (fun j e hu => absurd ((IsT.of_own ht (j := j) (by rw [e]; rfl)).eq hu) (by decide))
/-! ### the first commit, of a leaf -/
theorem TyB.fr {F : Nat → Prop} {w w' : World} {j : Nat} (h : TyB w j) (hf : Fr F w w') (hj : F j) : TyB w' j := by
  rcases h with h | h | h
  · exact .inl (h.fr hf hj)
  · exact .inr (.inl (h.fr hf hj))
  · exact .inr (.inr (h.fr hf hj))
def LJ (F : Nat → Prop) (t0 : List KV) (now : Option Addr) (i : Nat) (xs : List UInt8) (ats : List Int) (w : World) : Prop :=
  (RootAt w F (some ⟨0, t0⟩) now ∧ ∀ j, F j → TyB w j) ∧ ((i = 0 ∧ xs = [] ∧ ats = []) ∨ (i = 1 ∧ xs.length ≤ 65548 ∧ ∃ a, ats = [a] ∧ 0 ≤ a ∧ a ≤ 1099511627776))
theorem leaf_pager (hP : ∀ p pg, (default : Pgs).ok p pg ↔ (0 ≤ pg ∧ pg ≤ 1099511627776)) (F : Nat → Prop) (t0 : List KV) (now : Option Addr) (tag : Int) (N size : Nat) (hF : ∀ j, F j → j < N) (he : ∀ e ∈ t0, e.1.length ≤ 4096 ∧ e.2.length ≤ 4096) (h7 : t0.length ≤ 7) (hs : size ≤ 4096) :
    Pager F (LJ F t0 now) [(tag, now)] N size := by
  refine ⟨?_, ?_, ?_⟩
  · rintro i xs ats W W' ⟨⟨h1, h3⟩, h2⟩ ho
    have hf : Fr F W W' := Fr.of_only ho (fun k hk _ h => h hk)
    exact ⟨⟨h1.fr hf, fun j hj => (h3 j hj).fr hf hj⟩, h2⟩
  · rintro i xs ats W ⟨h1, ⟨rfl, rfl, rfl⟩ | ⟨rfl, hx, a, rfl, ha, hb⟩⟩
    · exact ⟨by simp, rfl, fun a h => by cases h⟩
    · exact ⟨by omega, rfl, fun x hx => by rw [List.mem_singleton.1 hx]; exact ⟨by omega, by omega⟩⟩
  · rintro i hi xs ats b W ⟨⟨h1, h3⟩, h2⟩ hb hN
    obtain rfl : i = 0 := by simp at hi; exact hi
    obtain ⟨-, rfl, rfl⟩ : (0 : Nat) = 0 ∧ xs = [] ∧ ats = [] := by
      rcases h2 with h | ⟨h, -⟩
      · exact h
      · cases h
    obtain ⟨p, hp, kv, vv, cv, hn⟩ := h1
    obtain ⟨ba, bc, rfl⟩ := own_slice hb
    have hbn : ∀ j, F j → (Value.slice ba ([] : List UInt8).length bc).ownBlock ≠ some j := fun j hj e => by
      have := (World.ownsRow.lt hb j e).1
      have := hF j hj
      omega
    obtain ⟨pg, hc, hok⟩ := hn.c3
    subst hp
    rcases hok with rfl | hok
    · refine (write_leaf F p kv vv cv t0 _ [] N size W hn hc hb (hbn p hn.inF) hbn he h7 (by simp) (by omega) hN (.inr ((hP _ _).2 ⟨by omega, by simp; omega⟩))).mono ?_
      rintro e w' ⟨b', rfl, ho, hfr, hon, -⟩
      refine ⟨b', _, Fr.FrM.frameOf (enc (nodeE t0 [])), rfl, ho, ⟨⟨⟨p, rfl, kv, vv, cv, hn.fr hfr⟩, fun j hj => (h3 j hj).fr hfr hj⟩, .inr ⟨rfl, ?_, _, rfl, by omega, by simp; omega⟩⟩, hon.weak (fun j _ h => by
        rcases h with rfl | h
        · exact .inl hn.inF
        · exact .inr h)⟩
      have h1 := Fr.FrM.frameOf_length (enc (nodeE t0 []))
      have h2 := nodeE_len (es := t0) (ks := []) he h7 (by simp)
      rw [List.nil_append]
      omega
    · obtain ⟨h0, h1⟩ := (hP _ _).1 hok
      refine (write_old p pg _ bc ba (size : Nat) W hc h0).mono ?_
      rintro e w' ⟨rfl, hbw⟩
      exact ⟨_, pg, [], rfl, ownsRow_below hb hbw (Nat.le_refl _), ⟨⟨⟨p, rfl, kv, vv, cv, hn.fr (Fr.of_below hbw)⟩, fun j hj => (h3 j hj).fr (Fr.of_below (F := F) hbw) hj⟩, .inr ⟨rfl, by simp, pg, rfl, h0, h1⟩⟩, Only.of_below hbw⟩
/-- What the first commit leaves. -/
structure Com1 (w w' : World) (B T d Bd Bs : Nat) (t : Tr) (F : Nat → Prop) (r : Root) (tag : Int) : Prop where
  it : ∃ rv size s D, TS w' B T d { t with rv := rv, size := size } F r ∧ w'.ownsRow w.heap.size 81 2 rv 1 (flatF Rt.cells [(tag, t.now)]) ∧ SlotAt w' Bs t.sl d s ∧ DiskAt w' Bd d D
  lo : Below B w w'
theorem commit_leaf (hP : ∀ p pg, (default : Pgs).ok p pg ↔ (0 ≤ pg ∧ pg ≤ 1099511627776)) {w : World} {B T d Bd Bs : Nat} {t : Tr} {s : Sl} {D : Dk} {F : Nat → Prop} {t0 : List KV} (h : TS w B T d t F (some ⟨0, t0⟩)) (hs : SlotAt w Bs t.sl d s) (hd : DiskAt w Bd d D)
    (hFB : ∀ j, F j → B ≤ j) (hsB : B ≤ Bs) (hdB : B ≤ Bd) (he : ∀ e ∈ t0, e.1.length ≤ 4096 ∧ e.2.length ≤ 4096) (h7 : t0.length ≤ 7) (hrv : t.rv = .slice none 0 0) (hsz : t.size = 0) (hfl : t.file = 0) (hbr : t.broken = false) (hfit : Fit D 72000) (hchg : D.chg.length ≤ 800000) (hTd : ¬ D.foot d T) (hsd : ¬ D.foot d t.sl) (hTs : T ≠ t.sl)
    (hnm : t.nm.size ≤ 10) (hsn : s.nm.size ≤ 10) (hsb : s.broken = false) (hver : s.ver ≤ 1000000000) (hg1 : goodNm (tfn t.nm t.file).data.toList = true) (hg2 : goodNm (sfn s.nm (toOf s)).data.toList = true) (tag : Int) (h0 : 0 ≤ tag) (h1 : tag ≤ 9223372036854775807) :
    Calls Try.prog 18 #[.pointer (some ⟨T, 0, none⟩), .int .i64 tag] w fun e w' => e = .returned (.int .i64 0) ∧ Com1 w w' B T d Bd Bs t F (some ⟨0, t0⟩) tag := by
  have hsF : ¬ F t.sl := fun hj => (h.typ _ hj).ne (IsT.of_own hs (j := t.sl) rfl) (by decide) (by decide) (by decide)
  have hdF : ∀ j, F j → ¬ D.foot d j := fun j hj => (h.typ j hj).foot hd
  refine (commit_calls F (LJ F t0 t.now) T d Bd B Bs t s D [] tag w h.tr hs hd h.hF h.hTF hsF hdF (fun j hj => (h.typ j hj).u8) (by rw [hrv]; exact Rd.nil _ _) (by simp) (fun r hr => by cases hr) h0 h1 (fun r hr => by cases hr)
    (fun N hN => leaf_pager hP F t0 t.now tag N t.size (fun j hj => Nat.lt_of_lt_of_le (h.hF j hj) hN) he h7 (by omega)) ⟨⟨h.root, h.typ⟩, .inl ⟨rfl, rfl, rfl⟩⟩ (by omega) hbr (by omega) 70000 ?_ hfit hchg (by omega) hTd hsd hTs hnm hsn hsb hver hg1 hg2).mono ?_
  · rintro i xs ats W ⟨-, ⟨-, rfl, -⟩ | ⟨-, hx, -⟩⟩
    · simp
    · omega
  · rintro e w' ⟨rfl, ⟨xs, ats, rv, D', hj, hrow, hsv⟩⟩
    refine ⟨rfl, ⟨rv, _, _, D', ⟨hsv.tree, hj.1.1, h.ok, hj.1.2⟩, hrow, hsv.slot, hsv.disk⟩, hsv.only.below (by have := h.tr.lt; omega) (fun j hjB hj => ?_)⟩
    rcases hj with hj | hj | rfl | rfl
    · have := hFB j hj; omega
    · have := (hd.foot_lt hj).1; omega
    · have := hs.lt.1; omega
    · have := h.tr.lt.1; omega
end Go.Proofs.Ytmafnjidhjabgaa

/- Layer 22: the chapter's example, walked. -/
namespace Go.Proofs.Ytmafnjidhjabgaa
open Go.RowKit Go.Shelf
set_option linter.unusedVariables false
set_option linter.unusedSectionVars false
set_option linter.unusedSimpArgs false
set_option maxRecDepth 100000

instance pagesAny : Inhabited Pgs := ⟨⟨fun _ pg => 0 ≤ pg ∧ pg ≤ 1099511627776⟩⟩
theorem pagesAny_ok : ∀ p pg, (default : Pgs).ok p pg ↔ (0 ≤ pg ∧ pg ≤ 1099511627776) := fun _ _ => Iff.rfl
def nmT : ByteArray := ⟨#[116]⟩
theorem nmT_low : lowName nmT := by
  intro c hc
  simp [nmT] at hc
  subst hc
  decide
theorem nmT_good : goodNm (tfn nmT 0).data.toList = true ∧ goodNm (sfn nmT 0).data.toList = true := by decide
theorem root1 : rput [98] [50] none = some ⟨0, [([98], [50])]⟩ := by kernel_rfl
theorem root2 : rput [97] [49] (some ⟨0, [([98], [50])]⟩) = some ⟨0, [([97], [49]), ([98], [50])]⟩ := by kernel_rfl
theorem root3 : rdel [97] (some ⟨0, [([97], [49]), ([98], [50])]⟩) = some ⟨0, [([98], [50])]⟩ := by kernel_rfl
theorem TrAt.mono {w : World} {B B' T d : Nat} {t : Tr} (h : TrAt w B T d t) (hb : B' ≤ B) : TrAt w B' T d t := ownsRow_mono h hb
set_option maxHeartbeats 4000000 in
theorem known_calls (w : World) : Calls Try.prog 6 #[] w fun e w' => e = .returned (.bool true) ∧ Below w.heap.size w w' := by
  go_enter Try.func6, Try.ntmps6
  go_wp2_with fail
  refine (dnew_calls 1048576 w (by omega) (by omega)).mono ?_
  rintro e w1 ⟨rfl, hd1, hb1⟩
  have HB1 := Lib.hid hb1
  have HD1 := Lib.hid hd1
  have hs1 := hb1.size
  clear hd1 hb1
  go_wp2_with fail
  refine (topen_new (w.heap.size + 2) w.heap.size (newD 1048576 w.heap.size) nmT w1 HD1.out (by decide) (by decide) nmT_low (fun i hi => by simp [newD, fileOf, mget]) (fun i hi => by simp [newD, fileOf, mget]; decide) (fun i hi => rfl)).mono ?_
  rintro e w2 ⟨T, sl, rfl, ht2, hsl2, hb2⟩
  have HD2 := Lib.hid (HD1.out.below hb2)
  have HB2 := Lib.hid (HB1.out.trans (hb2.mono hs1))
  have HS2 := Lib.hid hsl2
  have HT2 := Lib.hid (TS.new (ht2.mono hs1) rfl)
  have hTl := ht2.lt
  have hsll := hsl2.lt
  have hTs : T ≠ sl := fun e => absurd ((IsT.of_own ht2 (j := T) rfl).eq (IsT.of_own hsl2 (j := T) (by rw [e]; rfl))) (by decide)
  have hTd : ¬ (newD 1048576 w.heap.size).foot (w.heap.size + 2) T := fun h => by have := (HD1.out.foot_lt h).2; omega
  have hsd : ¬ (newD 1048576 w.heap.size).foot (w.heap.size + 2) sl := fun h => by have := (HD1.out.foot_lt h).2; omega
  have HX := Lib.hid (And.intro hTs (And.intro hTd hsd))
  clear ht2 hsl2 hb2 hTs hTd hsd
  go_wp2_with fail
  refine (tput_step HT2.out [98] [50] (by decide) (by decide)).mono ?_
  rintro e w3 ⟨rfl, ⟨now3, F3, ht3, hF3⟩, ho3⟩
  rw [root1] at ht3
  have HT3 := Lib.hid ht3
  have HF3 := Lib.hid hF3
  have HO3 := Lib.hid ho3
  have HD3 := Lib.hid (HD2.out.turned HT2.out.tr HX.out.2.1 ho3)
  have HS3 := Lib.hid (HS2.out.only ho3 (fun e => HX.out.1 e.symm))
  clear ht3 hF3 ho3
  go_wp2_with fail
  refine (tput_step HT3.out [97] [49] (by decide) (by decide)).mono ?_
  rintro e w4 ⟨rfl, ⟨now4, F4, ht4, hF4⟩, ho4⟩
  rw [root2] at ht4
  have HT4 := Lib.hid ht4
  have HD4 := Lib.hid (HD3.out.turned HT3.out.tr HX.out.2.1 ho4)
  have HS4 := Lib.hid (HS3.out.only ho4 (fun e => HX.out.1 e.symm))
  have hz3 := HO3.out.size
  have hz4 := ho4.size
  have hz2 := HB2.out.size
  have hFB := fun j (hj : F4 j) => show w.heap.size ≤ j from (hF4 j hj).elim (fun h => (HF3.out j h).elim (fun h => h.elim) (fun h => by omega)) (fun h => by omega)
  have HB4 := Lib.hid ((HB2.out.trans (HO3.out.below hz2 (fun j hj e => by omega))).trans (ho4.below (by omega) (fun j hj e => by omega)))
  have HFB := Lib.hid hFB
  clear ht4 hF4 ho4 hFB
  go_wp2_with fail
  refine (commit_leaf pagesAny_ok HT4.out HS4.out HD4.out HFB.out hs1 (Nat.le_refl _) (fun e he => by simp at he; rcases he with rfl | rfl <;> decide) (by decide) rfl rfl rfl rfl ⟨rfl, by simp [newD, usedOf], by simp [newD], by simp [newD]⟩ (by simp [newD]) HX.out.2.1 HX.out.2.2 HX.out.1 (show (1 : Nat) ≤ 10 by omega) (show (1 : Nat) ≤ 10 by omega) rfl (by simp [sNew]) nmT_good.1 nmT_good.2 3 (by omega) (by omega)).mono ?_
  rintro e w5 ⟨rfl, ⟨rv, size, s5, D5, ht5, hrow, hs5, hd5⟩, hlo5⟩
  have HT5 := Lib.hid ht5
  have hrow : w5.ownsRow w4.heap.size 81 2 rv 1 (flatF Rt.cells [(3, now4)]) := hrow
  have HR5 := Lib.hid hrow
  have HB5 := Lib.hid (HB4.out.trans hlo5)
  have hz5 := hlo5.size
  clear ht5 hs5 hd5 hlo5 hrow HB4 HFB HD4 HS4 HD3 HS3 HT3
  go_wp2_with fail
  refine (tdel_step HT5.out [97]).mono ?_
  rintro e w6 (⟨h, -, -⟩ | ⟨-, rfl, ⟨now6, F6, ht6, hF6⟩, ho6⟩)
  · exact absurd h (by decide)
  rw [root3] at ht6
  have HT6 := Lib.hid ht6
  have hz6 := ho6.size
  have HR6 := Lib.hid (ownsRow_only HR5.out ho6 (fun g hg e => by have := (World.ownsRow.lt HR5.out g hg).1; omega))
  have HB6 := Lib.hid (HB5.out.trans (ho6.below (by omega) (fun j hj e => by omega)))
  obtain ⟨-, -, -, -, -, -, c6, -, -⟩ := ht6.tr.at
  clear ht6 hF6 ho6
  go_wp2_with fail
  refine (tget_calls F6 _ T now6 [98] w6 HT6.out.root HT6.out.ok c6).mono ?_
  rintro e w7 ⟨rfl, hw7⟩
  obtain rfl : w6 = w7 := hw7.symm
  have hlk : look [98] (rflat (some ⟨0, [([98], [50])]⟩)) = some [50] := by decide
  rw [hlk]
  have hbt : (bstr [50]).toList = [50] := bstr_toList [50]
  go_wp2_with fail
  refine (len_calls F6 _ T now6 w6 HT6.out.root HT6.out.ok (by decide) c6).mono ?_
  rintro e w7 ⟨rfl, hb7⟩
  have HT7 := Lib.hid (HT6.out.below hb7)
  have HR7 := Lib.hid (ownsRow_below HR6.out hb7 (Nat.le_refl _))
  have HB7 := Lib.hid (HB6.out.trans (hb7.mono (by omega)))
  clear hb7 c6
  go_wp2_with fail
  refine (commit_low w.heap.size T (w.heap.size + 2) _ [] (3, now4) 3 w7 HT7.out.tr rfl (Rd.of_own HR7.out) (by omega) (by simp) (by simp)).mono ?_
  rintro e w8 ⟨rfl, hb8⟩
  have HB8 := Lib.hid (HB7.out.trans (hb8.mono HB7.out.size))
  clear hb8
  go_wp2_with fail
  go_ret
  exact ⟨rfl, HB8.out⟩
end Go.Proofs.Ytmafnjidhjabgaa

/- Layer 22: a number's key; is a tree as full as its depth says: walked. -/
namespace Go.Proofs.Ytmafnjidhjabgaa
open Go.RowKit Go.Shelf
set_option linter.unusedVariables false
set_option linter.unusedSectionVars false
set_option linter.unusedSimpArgs false
set_option maxRecDepth 100000

set_option maxHeartbeats 1000000 in
theorem key_calls (n : Int) (w : World) (h0 : 0 ≤ n) (h1 : n < 65536) : Calls Try.prog 12 #[.int .u16 n] w fun e w' => (∃ k : Str, e = .returned (.string (bstr k)) ∧ k.length = 2) ∧ Below w.heap.size w w' := by
  obtain ⟨m, rfl⟩ := Int.eq_ofNat_of_zero_le h0
  have hm : m < 65536 := by omega
  have hx : bvs [UInt8.ofNat (m / 256), UInt8.ofNat (m % 256)] = [.int .u8 ((m : Int) / 256), .int .u8 ((m : Int) % 256)] := by
    have e1 : (UInt8.ofNat (m / 256)).toNat = m / 256 := by rw [UInt8.toNat_ofNat']; omega
    have e2 : (UInt8.ofNat (m % 256)).toNat = m % 256 := by rw [UInt8.toNat_ofNat']; omega
    show [Value.int .u8 (((UInt8.ofNat (m / 256)).toNat : Nat) : Int), Value.int .u8 (((UInt8.ofNat (m % 256)).toNat : Nat) : Int)] = _
    rw [e1, e2]
    rfl
  have hl := Mine.lit w w.heap.size 2 #[.int .u8 ((m : Int) / 256), .int .u8 ((m : Int) % 256)] [UInt8.ofNat (m / 256), UInt8.ofNat (m % 256)] (Nat.le_refl _) (by omega) rfl hx
  have hs := run_bytes_str (P := Try.prog) (src := 46) (e := 5) (dst := 9) Try.underlying46 Try.underlying5 Try.underlying9 hl.bytes
  clear hx hl
  go_enter Try.func12, Try.ntmps12
  go_wp2_with fail
  go_ret
  exact ⟨⟨_, rfl, rfl⟩, below_alloc _ _⟩

/-- As many keys as the depth says. -/
theorem depth_many {r : Root} (o : ROk r) (h : (rflat r).length ≤ 1000) : rdepth r ≤ 5 ∧ (0 < rdepth r → 2 * 4 ^ (rdepth r - 1) ≤ (rflat r).length + 1) ∧ (rdepth r = 0 → (rflat r).length = 0) ∧ ((rflat r).length = 0 → rdepth r = 0) := by
  cases r with
  | none => exact ⟨by simp [rdepth], fun h => by simp [rdepth] at h, fun _ => rfl, fun _ => rfl⟩
  | some ht =>
    obtain ⟨k, t⟩ := ht
    have hm : 2 * 4 ^ k ≤ (flat k t).length + 1 := root_many o.1
    have hl : (flat k t).length ≤ 1000 := h
    have h4 : k ≤ 4 := by
      refine Classical.byContradiction fun hk => ?_
      have : 4 ^ 5 ≤ 4 ^ k := Nat.pow_le_pow_right (by omega) (by omega)
      omega
    have hp : 1 ≤ 4 ^ k := Nat.pos_of_ne_zero (by simp)
    refine ⟨by show k + 1 ≤ 5; omega, fun _ => hm, fun h => by simp [rdepth] at h, fun h => ?_⟩
    have h : (flat k t).length = 0 := h
    omega

set_option maxHeartbeats 4000000 in
theorem deep_calls (w : World) (B T d : Nat) (t : Tr) (F : Nat → Prop) (r : Root) (h : TS w B T d t F r) (hn : (rflat r).length ≤ 1000) : Calls Try.prog 14 #[.pointer (some ⟨T, 0, none⟩)] w fun e w' => e = .returned (.bool true) ∧ Below w.heap.size w w' := by
  obtain ⟨h5, hmany, hz1, hz2⟩ := depth_many h.ok hn
  obtain ⟨-, -, -, -, -, -, c6, -, -⟩ := h.tr.at
  have HD := Lib.hid (fun W (hb : Below w.heap.size w W) => depth_calls F r T t.now W (h.below hb).root h.ok (by omega) (cell_later hb c6))
  have HL := Lib.hid (fun W (hb : Below w.heap.size w W) => len_calls F r T t.now W (h.below hb).root h.ok (by omega) (cell_later hb c6))
  have HZ := Lib.hid (And.intro hmany (And.intro hz1 hz2))
  clear h c6 hmany hz1 hz2
  generalize rdepth r = D at *
  generalize (rflat r).length = N at *
  go_enter Try.func14, Try.ntmps14
  go_wp2_with fail
  go_loopw [3, 4] (fun lv iv wr => ∃ j L : Nat, 1 ≤ j ∧ (j ≤ D ∨ j = 1) ∧ iv = .int .i64 (j : Nat) ∧ lv = .int .i64 (L : Nat) ∧ L ≤ 2048 ∧ Hid (L = 2 * 4 ^ (j - 1)) ∧ wr = w) (fun _ iv _ => D + 1 - (intOf iv).toNat)
  case atStart => exact ⟨1, 2, by omega, .inr rfl, rfl, rfl, by omega, Lib.hid rfl, rfl⟩
  case round =>
    obtain ⟨j, L, hj1, hj2, rfl, rfl, hL, HLL, hw⟩ := hrel
    obtain rfl : w = wr := hw.symm
    go_wp2_with fail
    refine (HD.out w (Below.refl _ _)).mono ?_
    rintro e w1 ⟨rfl, hw1⟩
    obtain rfl : w = w1 := hw1.symm
    by_cases hlt : j < D
    · have z1 : (j : Int) < (D : Int) := by omega
      have z2 : (j : Int) < 20 := by omega
      go_wp2_with fail
      refine ⟨⟨j + 1, L * 4, by omega, .inl (by omega), by go_num, by go_num, ?_, Lib.hid ?_, trivial⟩, by simp [intOf]; omega⟩
      · have hjj : j - 1 ≤ 3 := by omega
        have : 4 ^ (j - 1) ≤ 4 ^ 3 := Nat.pow_le_pow_right (by omega) hjj
        rw [HLL.out]
        omega
      · rw [HLL.out, show j + 1 - 1 = (j - 1) + 1 by omega, Nat.pow_succ]
        omega
    · have z1 : ¬ (j : Int) < (D : Int) := by omega
      by_cases hD : D = 0
      · have d0 : ((D : Int) == 0) = true := by rw [hD]; rfl
        have hN := HZ.out.2.1 hD
        have d1 : ((N : Int) == 0) = true := by rw [hN]; rfl
        clear hN hD
        go_wp2_with fail
        refine (HD.out w (Below.refl _ _)).mono ?_
        rintro e w1 ⟨rfl, hw1⟩
        obtain rfl : w = w1 := hw1.symm
        go_wp2_with fail
        refine (HL.out w (Below.refl _ _)).mono ?_
        rintro e w2 ⟨rfl, hb2⟩
        have HB2 := Lib.hid hb2
        clear hb2
        go_wp2_with fail
        go_ret
        exact ⟨rfl, HB2.out⟩
      · have d0 : ((D : Int) == 0) = false := by rw [beq_eq_false_iff_ne]; omega
        have z3 : (0 : Int) < (D : Int) := by omega
        have z4 : (D : Int) < 20 := by omega
        have hjD : j = D := by omega
        have z5 : (L : Int) - 1 ≤ (N : Int) := by
          have h1 := HZ.out.1 (by omega)
          rw [← hjD, ← HLL.out] at h1
          omega
        clear hjD hD
        go_wp2_with fail
        refine (HD.out w (Below.refl _ _)).mono ?_
        rintro e w1 ⟨rfl, hw1⟩
        obtain rfl : w = w1 := hw1.symm
        go_wp2_with fail
        refine (HD.out w (Below.refl _ _)).mono ?_
        rintro e w1 ⟨rfl, hw1⟩
        obtain rfl : w = w1 := hw1.symm
        go_wp2_with fail
        refine (HD.out w (Below.refl _ _)).mono ?_
        rintro e w1 ⟨rfl, hw1⟩
        obtain rfl : w = w1 := hw1.symm
        go_wp2_with fail
        refine (HL.out w (Below.refl _ _)).mono ?_
        rintro e w2 ⟨rfl, hb2⟩
        have HB2 := Lib.hid hb2
        clear hb2
        go_wp2_with fail
        go_ret
        exact ⟨rfl, HB2.out⟩
end Go.Proofs.Ytmafnjidhjabgaa

/- Layer 22: CowtreeShape, walked. -/
namespace Go.Proofs.Ytmafnjidhjabgaa
open Go.RowKit Go.Shelf
set_option linter.unusedVariables false
set_option linter.unusedSectionVars false
set_option linter.unusedSimpArgs false
set_option maxRecDepth 100000

theorem ins_len (k v : Str) (l : List KV) : (ins k v l).length ≤ l.length + 1 := by
  have : ∀ l : List KV, (l.filter (fun e => decide (e.1 < k))).length + (l.filter (fun e => decide (k < e.1))).length ≤ l.length := by
    intro l
    induction l with
    | nil => simp
    | cons e l ih =>
      by_cases h : e.1 < k
      · have h2 : ¬ k < e.1 := fun h2 => slt_irr k (slt_trans h2 h)
        rw [List.filter_cons_of_pos (by simpa using h), List.filter_cons_of_neg (by simpa using h2), List.length_cons, List.length_cons]
        omega
      · rw [List.filter_cons_of_neg (by simpa using h), List.length_cons]
        by_cases h2 : k < e.1
        · rw [List.filter_cons_of_pos (by simpa using h2), List.length_cons]; omega
        · rw [List.filter_cons_of_neg (by simpa using h2)]; omega
  unfold ins
  rw [List.length_append, List.length_cons]
  exact Nat.succ_le_succ (this l)
theorem rm_len (k : Str) (l : List KV) : (rm k l).length ≤ l.length := List.length_filter_le _ _
/-- A tree that lives in what a call has made. -/
structure LV (w W : World) (T d n : Nat) : Prop where
  it : ∃ t F r, TS W w.heap.size T d t F r ∧ (rflat r).length ≤ n
  lo : Below w.heap.size w W
theorem LV.below {w W W' : World} {T d n : Nat} (h : LV w W T d n) (hb : Below W.heap.size W W') : LV w W' T d n := by
  obtain ⟨t, F, r, ht, hl⟩ := h.it
  exact ⟨⟨t, F, r, ht.below hb, hl⟩, below_go h.lo hb⟩
theorem LV.mono {w W : World} {T d n m : Nat} (h : LV w W T d n) (hm : n ≤ m) : LV w W T d m := by
  obtain ⟨t, F, r, ht, hl⟩ := h.it
  exact ⟨⟨t, F, r, ht, by omega⟩, h.lo⟩
theorem LV.stepped {w W W' : World} {T d n m : Nat} {t : Tr} {F : Nat → Prop} {r r' : Root} (h : LV w W T d n) (ht : TS W w.heap.size T d t F r) (hs : Stepped W W' w.heap.size T d t F r') (hm : (rflat r').length ≤ m) : LV w W' T d m := by
  obtain ⟨⟨now, F', ht', -⟩, ho⟩ := hs
  have hT := ht.tr.lt.1
  exact ⟨⟨_, _, _, ht', hm⟩, h.lo.trans (ho.below h.lo.size (fun j hj e => by omega))⟩
theorem LV.put {w W : World} {T d n : Nat} (h : LV w W T d n) (k v : Str) (hk : k.length ≤ 4096) (hv : v.length ≤ 4096) :
    Calls Try.prog 9 #[.pointer (some ⟨T, 0, none⟩), .string (bstr k), .string (bstr v)] W fun e w' => e = .returned (.int .i64 0) ∧ LV w w' T d (n + 1) := by
  obtain ⟨t, F, r, ht, hl⟩ := h.it
  refine (tput_step ht k v hk hv).mono ?_
  rintro e w' ⟨rfl, hs⟩
  refine ⟨rfl, h.stepped ht hs ?_⟩
  rw [(rput_spec k v ht.ok).1]
  have := ins_len k v (rflat r)
  omega
theorem LV.del {w W : World} {T d n : Nat} (h : LV w W T d n) (k : Str) :
    Calls Try.prog 13 #[.pointer (some ⟨T, 0, none⟩), .string (bstr k)] W fun e w' => (∃ b : Bool, e = .returned (.tuple #[.bool b, .int .i64 0])) ∧ LV w w' T d n := by
  obtain ⟨t, F, r, ht, hl⟩ := h.it
  refine (tdel_step ht k).mono ?_
  rintro e w' (⟨-, rfl, rfl⟩ | ⟨h1, rfl, hs⟩)
  · exact ⟨⟨false, rfl⟩, h⟩
  · refine ⟨⟨true, rfl⟩, h.stepped ht hs ?_⟩
    rw [(rdel_spec k ht.ok (look_mem h1)).1]
    have := rm_len k (rflat r)
    omega
theorem LV.deep {w W : World} {T d n : Nat} (h : LV w W T d n) (hn : n ≤ 1000) : Calls Try.prog 14 #[.pointer (some ⟨T, 0, none⟩)] W fun e w' => e = .returned (.bool true) ∧ LV w w' T d n := by
  obtain ⟨t, F, r, ht, hl⟩ := h.it
  refine (deep_calls W w.heap.size T d t F r ht (by omega)).mono ?_
  rintro e w' ⟨rfl, hb⟩
  exact ⟨rfl, h.below hb⟩
/-- Depth and Len of one tree: neither is nothing alone. -/
theorem LV.ends {w W : World} {T d n : Nat} (h : LV w W T d n) (hn : n ≤ 1000) : ∃ D N : Nat, ((D : Int) == 0) = ((N : Int) == 0) ∧ (∀ W', Below W.heap.size W W' → Calls Try.prog 15 #[.pointer (some ⟨T, 0, none⟩)] W' fun e w' => e = .returned (.int .i64 (D : Nat)) ∧ w' = W') ∧
    (∀ W', Below W.heap.size W W' → Calls Try.prog 16 #[.pointer (some ⟨T, 0, none⟩)] W' fun e w' => e = .returned (.int .i64 (N : Nat)) ∧ Below W'.heap.size W' w') := by
  obtain ⟨t, F, r, ht, hl⟩ := h.it
  obtain ⟨h5, hmany, hz1, hz2⟩ := depth_many ht.ok (by omega)
  obtain ⟨-, -, -, -, -, -, c6, -, -⟩ := ht.tr.at
  refine ⟨rdepth r, (rflat r).length, ?_, fun W' hb => depth_calls F r T t.now W' (ht.below hb).root ht.ok (by omega) (cell_later hb c6), fun W' hb => len_calls F r T t.now W' (ht.below hb).root ht.ok (by omega) (cell_later hb c6)⟩
  rw [Bool.eq_iff_iff, beq_iff_eq, beq_iff_eq]
  constructor
  · intro h; have := hz1 (by omega); omega
  · intro h; have := hz2 (by omega); omega

set_option maxHeartbeats 8000000 in
theorem shape_calls (pv dv : Value) (ps ds : List Int) (w : World) (hp : Rd w 1 pv ps.length (ps.map (Value.int .u16))) (hd : Rd w 1 dv ds.length (ds.map (Value.int .u16))) (hpb : ∀ n ∈ ps, 0 ≤ n ∧ n < 65536) (hdb : ∀ n ∈ ds, 0 ≤ n ∧ n < 65536) :
    Calls Try.prog 4 #[pv, dv] w fun e w' => e = .returned (.bool true) ∧ Below w.heap.size w w' := by
  have HP := Lib.hid hp
  have HD := Lib.hid hd
  have HPB := Lib.hid hpb
  have HDB := Lib.hid hdb
  obtain ⟨pa, pc, rfl, hp1, hp2⟩ := Rd.slice hp
  obtain ⟨da, dc, rfl, hd1, hd2⟩ := Rd.slice hd
  clear hp hd hpb hdb
  go_enter Try.func4, Try.ntmps4
  go_wp2_with fail
  refine (known_calls w).mono ?_
  rintro e w1 ⟨rfl, hb1⟩
  have hs1 := hb1.size
  have HB1 := Lib.hid hb1
  clear hb1
  go_wp2_with fail
  refine (dnew_calls 1073741824 w1 (by omega) (by omega)).mono ?_
  rintro e w2 ⟨rfl, hd2, hb2⟩
  have HD2 := Lib.hid hd2
  have HB2 := Lib.hid (HB1.out.trans (hb2.mono hs1))
  have hs2 := hb2.size
  clear hd2 hb2
  go_wp2_with fail
  refine (topen_new (w1.heap.size + 2) w1.heap.size (newD 1073741824 w1.heap.size) nmT w2 HD2.out (by decide) (by decide) nmT_low (fun i hi => by simp [newD, fileOf, mget]) (fun i hi => by simp [newD, fileOf, mget]; decide) (fun i hi => rfl)).mono ?_
  rintro e w3 ⟨T, sl, rfl, ht3, -, hb3⟩
  have HL3 := Lib.hid (show LV w w3 T (w1.heap.size + 2) 0 from ⟨⟨_, _, _, TS.new (ht3.mono (by omega)) rfl, Nat.le_refl _⟩, HB2.out.trans (hb3.mono (by omega))⟩)
  clear ht3 hb3 HB1 HB2 HD2
  generalize w1.heap.size + 2 = dd at *
  go_wp2_with fail
  go_loopw [9] (fun iv wr => ∃ i : Nat, i ≤ ps.length ∧ i ≤ 400 ∧ iv = .int .i64 (i : Nat) ∧ LV w wr T dd i) (fun iv _ => ps.length - (intOf iv).toNat)
  case atStart => exact ⟨0, by omega, by omega, rfl, HL3.out⟩
  case round =>
    clear HL3
    obtain ⟨i, hi, hi4, rfl, hl⟩ := hrel
    have HL := Lib.hid hl
    clear hl
    by_cases hlt : i < ps.length ∧ i < 400
    · obtain ⟨hlt, hlt4⟩ := hlt
      have z1 : (i : Int) < (ps.length : Int) := by omega
      have z2 : (i : Int) < 400 := by omega
      obtain ⟨pb, po, c', e, -, -, hc⟩ := rd1_at HP.out (i := i) (u := .int .u16 ps[i]) (by rw [List.getElem?_map, List.getElem?_eq_getElem hlt]; rfl)
      simp only [Value.slice.injEq] at e
      obtain ⟨rfl, -, rfl⟩ := e
      have hc := cell_later HL.out.lo hc
      have hkb := HPB.out _ (List.getElem_mem hlt)
      generalize ps[i] = n at *
      go_wp2_with fail
      refine (key_calls n wr hkb.1 hkb.2).mono ?_
      rintro e w4 ⟨⟨k, rfl, hk⟩, hb4⟩
      have HL4 := Lib.hid (HL.out.below hb4)
      clear hb4
      go_wp2_with fail
      refine (HL4.out.put k [118] (by omega) (by decide)).mono ?_
      rintro e w5 ⟨rfl, hl5⟩
      have HL5 := Lib.hid hl5
      clear hl5 hk hkb hc
      by_cases hdl : i < ds.length
      · have y1 : (i : Int) < (ds.length : Int) := by omega
        by_cases hodd : i % 2 = 1
        · have y2 : (i : Int) % 2 = 1 := by omega
          obtain ⟨db, do_, c', e, -, -, hc⟩ := rd1_at HD.out (i := i) (u := .int .u16 ds[i]) (by rw [List.getElem?_map, List.getElem?_eq_getElem hdl]; rfl)
          simp only [Value.slice.injEq] at e
          obtain ⟨rfl, -, rfl⟩ := e
          have hc := cell_later HL5.out.lo hc
          have hkb := HDB.out _ (List.getElem_mem hdl)
          generalize ds[i] = n2 at *
          go_wp2_with fail
          refine (key_calls n2 w5 hkb.1 hkb.2).mono ?_
          rintro e w6 ⟨⟨k2, rfl, hk2⟩, hb6⟩
          have HL6 := Lib.hid (HL5.out.below hb6)
          clear hb6
          go_wp2_with fail
          refine (HL6.out.del k2).mono ?_
          rintro e w7 ⟨⟨b7, rfl⟩, hl7⟩
          have HL7 := Lib.hid hl7
          clear hl7 hk2 hkb hc
          go_wp2_with fail
          refine (HL7.out.deep (by omega)).mono ?_
          rintro e w8 ⟨rfl, hl8⟩
          have HL8 := Lib.hid hl8
          clear hl8
          go_wp2_with fail
          exact ⟨⟨i + 1, by omega, by omega, by go_num, HL8.out⟩, by simp [intOf]; omega⟩
        · have y2 : ¬ (i : Int) % 2 = 1 := by omega
          obtain ⟨w7, hw7⟩ : ∃ w7, w7 = w5 := ⟨_, rfl⟩
          rw [← hw7] at HL5 ⊢
          have HL7 := HL5
          clear hw7
          go_wp2_with fail
          refine (HL7.out.deep (by omega)).mono ?_
          rintro e w8 ⟨rfl, hl8⟩
          have HL8 := Lib.hid hl8
          clear hl8
          go_wp2_with fail
          exact ⟨⟨i + 1, by omega, by omega, by go_num, HL8.out⟩, by simp [intOf]; omega⟩
      · have y1 : ¬ (i : Int) < (ds.length : Int) := by omega
        obtain ⟨w7, hw7⟩ : ∃ w7, w7 = w5 := ⟨_, rfl⟩
        rw [← hw7] at HL5 ⊢
        have HL7 := HL5
        clear hw7
        go_wp2_with fail
        refine (HL7.out.deep (by omega)).mono ?_
        rintro e w8 ⟨rfl, hl8⟩
        have HL8 := Lib.hid hl8
        clear hl8
        go_wp2_with fail
        exact ⟨⟨i + 1, by omega, by omega, by go_num, HL8.out⟩, by simp [intOf]; omega⟩
    · by_cases hlp : i < ps.length
      · have z1 : (i : Int) < (ps.length : Int) := by omega
        have z2 : ¬ (i : Int) < 400 := by omega
        clear hlt hlp
        go_wp2_with fail
        have HLX := Lib.hid (HL.out.mono hi4)
        clear HL hi hi4 z1
        go_loopw [10] (fun iv wr => ∃ i : Nat, i ≤ ps.length ∧ i ≤ 400 ∧ iv = .int .i64 (i : Nat) ∧ LV w wr T dd 400) (fun iv _ => ps.length - (intOf iv).toNat)
        case atStart => exact ⟨0, by omega, by omega, rfl, HLX.out⟩
        case round =>
          clear HLX
          obtain ⟨i, hi, hi4, rfl, hl⟩ := hrel
          have HL := Lib.hid hl
          clear hl
          by_cases hlt : i < ps.length ∧ i < 400
          · obtain ⟨hlt, hlt4⟩ := hlt
            have z1 : (i : Int) < (ps.length : Int) := by omega
            have z2 : (i : Int) < 400 := by omega
            obtain ⟨pb, po, c', e, -, -, hc⟩ := rd1_at HP.out (i := i) (u := .int .u16 ps[i]) (by rw [List.getElem?_map, List.getElem?_eq_getElem hlt]; rfl)
            simp only [Value.slice.injEq] at e
            obtain ⟨rfl, -, rfl⟩ := e
            have hc := cell_later HL.out.lo hc
            have hkb := HPB.out _ (List.getElem_mem hlt)
            generalize ps[i] = n at *
            go_wp2_with fail
            refine (key_calls n _ hkb.1 hkb.2).mono ?_
            rintro e w4 ⟨⟨k, rfl, hk⟩, hb4⟩
            have HL4 := Lib.hid (HL.out.below hb4)
            clear hb4
            go_wp2_with fail
            refine (HL4.out.del k).mono ?_
            rintro e w5 ⟨⟨b5, rfl⟩, hl5⟩
            have HL5 := Lib.hid hl5
            clear hl5 hk hkb hc
            go_wp2_with fail
            refine (HL5.out.deep (by omega)).mono ?_
            rintro e w8 ⟨rfl, hl8⟩
            have HL8 := Lib.hid hl8
            clear hl8
            go_wp2_with fail
            exact ⟨⟨i + 1, by omega, by omega, by go_num, HL8.out⟩, by simp [intOf]; omega⟩
          · by_cases hlp : i < ps.length
            · have z1 : (i : Int) < (ps.length : Int) := by omega
              have z2 : ¬ (i : Int) < 400 := by omega
              clear hlt hlp
              go_wp2_with fail
              clear z1
              go_loopw [11] (fun iv wr => ∃ i : Nat, i ≤ ds.length ∧ iv = .int .i64 (i : Nat) ∧ LV w wr T dd 400) (fun iv _ => ds.length - (intOf iv).toNat)
              case atStart => exact ⟨0, by omega, rfl, HL.out⟩
              case round =>
                clear HL
                obtain ⟨i, hi, rfl, hl⟩ := hrel
                have HL := Lib.hid hl
                clear hl
                by_cases hlt : i < ds.length
                · have z1 : (i : Int) < (ds.length : Int) := by omega
                  obtain ⟨db, do_, c', e, -, -, hc⟩ := rd1_at HD.out (i := i) (u := .int .u16 ds[i]) (by rw [List.getElem?_map, List.getElem?_eq_getElem hlt]; rfl)
                  simp only [Value.slice.injEq] at e
                  obtain ⟨rfl, -, rfl⟩ := e
                  have hc := cell_later HL.out.lo hc
                  have hkb := HDB.out _ (List.getElem_mem hlt)
                  generalize ds[i] = n at *
                  go_wp2_with fail
                  refine (key_calls n _ hkb.1 hkb.2).mono ?_
                  rintro e w4 ⟨⟨k, rfl, hk⟩, hb4⟩
                  have HL4 := Lib.hid (HL.out.below hb4)
                  clear hb4
                  go_wp2_with fail
                  refine (HL4.out.del k).mono ?_
                  rintro e w5 ⟨⟨b5, rfl⟩, hl5⟩
                  have HL5 := Lib.hid hl5
                  clear hl5 hk hkb hc
                  go_wp2_with fail
                  exact ⟨⟨i + 1, by omega, by go_num, HL5.out⟩, by simp [intOf]; omega⟩
                · have z1 : ¬ (i : Int) < (ds.length : Int) := by omega
                  obtain ⟨D, N, hdn, hdep, hlen⟩ := HL.out.ends (by omega)
                  have HDN := Lib.hid hdn
                  have HDE := Lib.hid hdep
                  have HLE := Lib.hid hlen
                  clear hdn hdep hlen hlt
                  obtain ⟨b1, hb1⟩ : ∃ b1, b1 = ((D : Int) == 0) := ⟨_, rfl⟩
                  have d0 := hb1.symm
                  have d1 := HDN.out.symm.trans d0
                  clear hb1
                  cases b1
                  all_goals
                    go_wp2_with fail
                    refine (HDE.out wr (Below.refl _ _)).mono ?_
                    rintro e w4 ⟨rfl, hw4⟩
                    obtain rfl : wr = w4 := hw4.symm
                    go_wp2_with fail
                    refine (HLE.out wr (Below.refl _ _)).mono ?_
                    rintro e w5 ⟨rfl, hb5⟩
                    have HB5 := Lib.hid (below_go HL.out.lo hb5)
                    clear hb5
                    go_wp2_with fail
                    go_ret
                    exact ⟨rfl, HB5.out⟩
            · have z1 : ¬ (i : Int) < (ps.length : Int) := by omega
              clear hlt hlp
              go_wp2_with fail
              clear z1
              go_loopw [11] (fun iv wr => ∃ i : Nat, i ≤ ds.length ∧ iv = .int .i64 (i : Nat) ∧ LV w wr T dd 400) (fun iv _ => ds.length - (intOf iv).toNat)
              case atStart => exact ⟨0, by omega, rfl, HL.out⟩
              case round =>
                clear HL
                obtain ⟨i, hi, rfl, hl⟩ := hrel
                have HL := Lib.hid hl
                clear hl
                by_cases hlt : i < ds.length
                · have z1 : (i : Int) < (ds.length : Int) := by omega
                  obtain ⟨db, do_, c', e, -, -, hc⟩ := rd1_at HD.out (i := i) (u := .int .u16 ds[i]) (by rw [List.getElem?_map, List.getElem?_eq_getElem hlt]; rfl)
                  simp only [Value.slice.injEq] at e
                  obtain ⟨rfl, -, rfl⟩ := e
                  have hc := cell_later HL.out.lo hc
                  have hkb := HDB.out _ (List.getElem_mem hlt)
                  generalize ds[i] = n at *
                  go_wp2_with fail
                  refine (key_calls n _ hkb.1 hkb.2).mono ?_
                  rintro e w4 ⟨⟨k, rfl, hk⟩, hb4⟩
                  have HL4 := Lib.hid (HL.out.below hb4)
                  clear hb4
                  go_wp2_with fail
                  refine (HL4.out.del k).mono ?_
                  rintro e w5 ⟨⟨b5, rfl⟩, hl5⟩
                  have HL5 := Lib.hid hl5
                  clear hl5 hk hkb hc
                  go_wp2_with fail
                  exact ⟨⟨i + 1, by omega, by go_num, HL5.out⟩, by simp [intOf]; omega⟩
                · have z1 : ¬ (i : Int) < (ds.length : Int) := by omega
                  obtain ⟨D, N, hdn, hdep, hlen⟩ := HL.out.ends (by omega)
                  have HDN := Lib.hid hdn
                  have HDE := Lib.hid hdep
                  have HLE := Lib.hid hlen
                  clear hdn hdep hlen hlt
                  obtain ⟨b1, hb1⟩ : ∃ b1, b1 = ((D : Int) == 0) := ⟨_, rfl⟩
                  have d0 := hb1.symm
                  have d1 := HDN.out.symm.trans d0
                  clear hb1
                  cases b1
                  all_goals
                    go_wp2_with fail
                    refine (HDE.out wr (Below.refl _ _)).mono ?_
                    rintro e w4 ⟨rfl, hw4⟩
                    obtain rfl : wr = w4 := hw4.symm
                    go_wp2_with fail
                    refine (HLE.out wr (Below.refl _ _)).mono ?_
                    rintro e w5 ⟨rfl, hb5⟩
                    have HB5 := Lib.hid (below_go HL.out.lo hb5)
                    clear hb5
                    go_wp2_with fail
                    go_ret
                    exact ⟨rfl, HB5.out⟩
      · have z1 : ¬ (i : Int) < (ps.length : Int) := by omega
        clear hlt hlp
        go_wp2_with fail
        have HLX := Lib.hid (HL.out.mono hi4)
        clear HL hi hi4 z1
        go_loopw [10] (fun iv wr => ∃ i : Nat, i ≤ ps.length ∧ i ≤ 400 ∧ iv = .int .i64 (i : Nat) ∧ LV w wr T dd 400) (fun iv _ => ps.length - (intOf iv).toNat)
        case atStart => exact ⟨0, by omega, by omega, rfl, HLX.out⟩
        case round =>
          clear HLX
          obtain ⟨i, hi, hi4, rfl, hl⟩ := hrel
          have HL := Lib.hid hl
          clear hl
          by_cases hlt : i < ps.length ∧ i < 400
          · obtain ⟨hlt, hlt4⟩ := hlt
            have z1 : (i : Int) < (ps.length : Int) := by omega
            have z2 : (i : Int) < 400 := by omega
            obtain ⟨pb, po, c', e, -, -, hc⟩ := rd1_at HP.out (i := i) (u := .int .u16 ps[i]) (by rw [List.getElem?_map, List.getElem?_eq_getElem hlt]; rfl)
            simp only [Value.slice.injEq] at e
            obtain ⟨rfl, -, rfl⟩ := e
            have hc := cell_later HL.out.lo hc
            have hkb := HPB.out _ (List.getElem_mem hlt)
            generalize ps[i] = n at *
            go_wp2_with fail
            refine (key_calls n _ hkb.1 hkb.2).mono ?_
            rintro e w4 ⟨⟨k, rfl, hk⟩, hb4⟩
            have HL4 := Lib.hid (HL.out.below hb4)
            clear hb4
            go_wp2_with fail
            refine (HL4.out.del k).mono ?_
            rintro e w5 ⟨⟨b5, rfl⟩, hl5⟩
            have HL5 := Lib.hid hl5
            clear hl5 hk hkb hc
            go_wp2_with fail
            refine (HL5.out.deep (by omega)).mono ?_
            rintro e w8 ⟨rfl, hl8⟩
            have HL8 := Lib.hid hl8
            clear hl8
            go_wp2_with fail
            exact ⟨⟨i + 1, by omega, by omega, by go_num, HL8.out⟩, by simp [intOf]; omega⟩
          · by_cases hlp : i < ps.length
            · have z1 : (i : Int) < (ps.length : Int) := by omega
              have z2 : ¬ (i : Int) < 400 := by omega
              clear hlt hlp
              go_wp2_with fail
              clear z1
              go_loopw [11] (fun iv wr => ∃ i : Nat, i ≤ ds.length ∧ iv = .int .i64 (i : Nat) ∧ LV w wr T dd 400) (fun iv _ => ds.length - (intOf iv).toNat)
              case atStart => exact ⟨0, by omega, rfl, HL.out⟩
              case round =>
                clear HL
                obtain ⟨i, hi, rfl, hl⟩ := hrel
                have HL := Lib.hid hl
                clear hl
                by_cases hlt : i < ds.length
                · have z1 : (i : Int) < (ds.length : Int) := by omega
                  obtain ⟨db, do_, c', e, -, -, hc⟩ := rd1_at HD.out (i := i) (u := .int .u16 ds[i]) (by rw [List.getElem?_map, List.getElem?_eq_getElem hlt]; rfl)
                  simp only [Value.slice.injEq] at e
                  obtain ⟨rfl, -, rfl⟩ := e
                  have hc := cell_later HL.out.lo hc
                  have hkb := HDB.out _ (List.getElem_mem hlt)
                  generalize ds[i] = n at *
                  go_wp2_with fail
                  refine (key_calls n _ hkb.1 hkb.2).mono ?_
                  rintro e w4 ⟨⟨k, rfl, hk⟩, hb4⟩
                  have HL4 := Lib.hid (HL.out.below hb4)
                  clear hb4
                  go_wp2_with fail
                  refine (HL4.out.del k).mono ?_
                  rintro e w5 ⟨⟨b5, rfl⟩, hl5⟩
                  have HL5 := Lib.hid hl5
                  clear hl5 hk hkb hc
                  go_wp2_with fail
                  exact ⟨⟨i + 1, by omega, by go_num, HL5.out⟩, by simp [intOf]; omega⟩
                · have z1 : ¬ (i : Int) < (ds.length : Int) := by omega
                  obtain ⟨D, N, hdn, hdep, hlen⟩ := HL.out.ends (by omega)
                  have HDN := Lib.hid hdn
                  have HDE := Lib.hid hdep
                  have HLE := Lib.hid hlen
                  clear hdn hdep hlen hlt
                  obtain ⟨b1, hb1⟩ : ∃ b1, b1 = ((D : Int) == 0) := ⟨_, rfl⟩
                  have d0 := hb1.symm
                  have d1 := HDN.out.symm.trans d0
                  clear hb1
                  cases b1
                  all_goals
                    go_wp2_with fail
                    refine (HDE.out wr (Below.refl _ _)).mono ?_
                    rintro e w4 ⟨rfl, hw4⟩
                    obtain rfl : wr = w4 := hw4.symm
                    go_wp2_with fail
                    refine (HLE.out wr (Below.refl _ _)).mono ?_
                    rintro e w5 ⟨rfl, hb5⟩
                    have HB5 := Lib.hid (below_go HL.out.lo hb5)
                    clear hb5
                    go_wp2_with fail
                    go_ret
                    exact ⟨rfl, HB5.out⟩
            · have z1 : ¬ (i : Int) < (ps.length : Int) := by omega
              clear hlt hlp
              go_wp2_with fail
              clear z1
              go_loopw [11] (fun iv wr => ∃ i : Nat, i ≤ ds.length ∧ iv = .int .i64 (i : Nat) ∧ LV w wr T dd 400) (fun iv _ => ds.length - (intOf iv).toNat)
              case atStart => exact ⟨0, by omega, rfl, HL.out⟩
              case round =>
                clear HL
                obtain ⟨i, hi, rfl, hl⟩ := hrel
                have HL := Lib.hid hl
                clear hl
                by_cases hlt : i < ds.length
                · have z1 : (i : Int) < (ds.length : Int) := by omega
                  obtain ⟨db, do_, c', e, -, -, hc⟩ := rd1_at HD.out (i := i) (u := .int .u16 ds[i]) (by rw [List.getElem?_map, List.getElem?_eq_getElem hlt]; rfl)
                  simp only [Value.slice.injEq] at e
                  obtain ⟨rfl, -, rfl⟩ := e
                  have hc := cell_later HL.out.lo hc
                  have hkb := HDB.out _ (List.getElem_mem hlt)
                  generalize ds[i] = n at *
                  go_wp2_with fail
                  refine (key_calls n _ hkb.1 hkb.2).mono ?_
                  rintro e w4 ⟨⟨k, rfl, hk⟩, hb4⟩
                  have HL4 := Lib.hid (HL.out.below hb4)
                  clear hb4
                  go_wp2_with fail
                  refine (HL4.out.del k).mono ?_
                  rintro e w5 ⟨⟨b5, rfl⟩, hl5⟩
                  have HL5 := Lib.hid hl5
                  clear hl5 hk hkb hc
                  go_wp2_with fail
                  exact ⟨⟨i + 1, by omega, by go_num, HL5.out⟩, by simp [intOf]; omega⟩
                · have z1 : ¬ (i : Int) < (ds.length : Int) := by omega
                  obtain ⟨D, N, hdn, hdep, hlen⟩ := HL.out.ends (by omega)
                  have HDN := Lib.hid hdn
                  have HDE := Lib.hid hdep
                  have HLE := Lib.hid hlen
                  clear hdn hdep hlen hlt
                  obtain ⟨b1, hb1⟩ : ∃ b1, b1 = ((D : Int) == 0) := ⟨_, rfl⟩
                  have d0 := hb1.symm
                  have d1 := HDN.out.symm.trans d0
                  clear hb1
                  cases b1
                  all_goals
                    go_wp2_with fail
                    refine (HDE.out wr (Below.refl _ _)).mono ?_
                    rintro e w4 ⟨rfl, hw4⟩
                    obtain rfl : wr = w4 := hw4.symm
                    go_wp2_with fail
                    refine (HLE.out wr (Below.refl _ _)).mono ?_
                    rintro e w5 ⟨rfl, hb5⟩
                    have HB5 := Lib.hid (below_go HL.out.lo hb5)
                    clear hb5
                    go_wp2_with fail
                    go_ret
                    exact ⟨rfl, HB5.out⟩
end Go.Proofs.Ytmafnjidhjabgaa

/- From a reading of []uint16, of []string and of a string to what the walks ask. -/
namespace Go.Proofs.Ytmafnjidhjabgaa
open Go.RowKit Go.ChangeShapes Go.WideShapes Go.ChangeAt
set_option maxRecDepth 100000
theorem u16s_get (ns : List Int) (i : Nat) (hi : i < ns.length) : (ns.map (Value.int .u16))[i]? = some (.int .u16 ns[i]) := by simp [hi]
/-- []uint16 -/
theorem open_u16s {H : Type} {enc : TypeId × Value → H} {W : World} {B : Nat} {held : Bool} {v : Value} {d : DataW H} {p : List MemPlace}
    (ok : Value.okWide Try.prog W .any B 38 v) (h : DataW.Trod enc Try.prog W 0 (fun _ => true) held 38 v d p) : ∃ ns : List Int, Rd W 1 v ns.length (ns.map (Value.int .u16)) ∧ (∀ n ∈ ns, 0 ≤ n ∧ n < 65536) := by
  obtain ⟨a, len, cap, rfl⟩ := okWide_slice Try.underlying38 ok
  obtain ⟨fuel, hf⟩ := h
  rcases open_ints Try.underlying38 Try.underlying40 (by kernel_rfl) hf with ⟨hcs, he⟩ | ⟨x, len', cap', zs, hcs, _, hl, hm, hz, he, hcell, hwz⟩
  · simp [Value.cells] at hcs
    obtain ⟨rfl, rfl, rfl⟩ := hcs
    obtain ⟨rfl, rfl⟩ := Prod.mk.inj he
    exact ⟨[], Rd.nil W 1, fun n hn => by simp at hn⟩
  · simp [Value.cells] at hcs
    obtain ⟨rfl, rfl, rfl⟩ := hcs
    obtain ⟨rfl, rfl⟩ := Prod.mk.inj he
    simp only [if_true] at hz
    have htl : (zs.take len).length = len := by simp; omega
    refine ⟨zs.take len, ⟨some x, cap, by rw [htl], by rw [List.length_map]; omega, by omega, by unfold maxLen at hm; omega, ?_⟩, fun n hn => by have := Go.bounds_u16 (hwz n (List.mem_of_mem_take hn)); omega⟩
    by_cases h0 : cap = 0
    · exact .inl h0
    · have hs := addr_spot (hcell 0 (by omega))
      refine .inr ⟨x.block, x.off, by rw [← hs], fun j u hj => ?_⟩
      have hjl : j < (zs.take len).length := by have := (List.getElem?_eq_some_iff.1 hj).1; simpa using this
      rw [u16s_get _ j hjl] at hj
      have := hcell j (by omega)
      rw [hs, add_off] at this
      rw [this, ← Option.some.inj hj]
      congr 2
      rw [List.getElem_take, List.getD_eq_getElem?_getD, List.getElem?_eq_getElem (by omega)]
      rfl
theorem flatF_strl (ss : List Str) : flatF (fun s : Str => [strV s]) ss = ss.map strV := by
  induction ss with
  | nil => rfl
  | cons n ns ih => simp only [flatF, List.flatMap_cons, List.map_cons] at ih ⊢; rw [ih]; rfl
/-- string -/
theorem open_strV {H : Type} {enc : TypeId × Value → H} {W : World} {B : Nat} {held : Bool} {v : Value} {d : DataW H} {p : List MemPlace}
    (ok : Value.okWide Try.prog W .any B 9 v) (h : DataW.Trod enc Try.prog W 0 (fun _ => true) held 9 v d p) : ∃ s : Str, v = strV s ∧ s.length ≤ maxLen := by
  obtain ⟨s, rfl⟩ := okWide_string Try.underlying9 ok
  obtain ⟨fuel, hf⟩ := h
  obtain ⟨s', hs, hz, ws⟩ := DataW.trod_string Try.underlying9 hf
  simp [Value.cells] at hs
  subst hs
  exact ⟨s.data.toList, (strV_of s).symm, by rw [Array.length_toList]; exact ws⟩
/-- []string -/
theorem open_strl {H : Type} {enc : TypeId × Value → H} {W : World} {B : Nat} {held : Bool} {v : Value} {d : DataW H} {p : List MemPlace}
    (ok : Value.okWide Try.prog W .any B 22 v) (h : DataW.Trod enc Try.prog W 0 (fun _ => true) held 22 v d p) : ∃ ss : List Str, Rd W 1 v ss.length (ss.map strV) ∧ ∀ s ∈ ss, s.length ≤ maxLen := by
  obtain ⟨a, len, cap, rfl⟩ := okWide_slice Try.underlying22 ok
  obtain ⟨fuel, hf⟩ := h
  obtain ⟨v, ss, hcs, h1, h2, -⟩ := cells_structs (f := fun s : Str => [strV s]) (k := 1) (Q := fun s => s.length ≤ maxLen) Try.underlying22 (by kernel_rfl) (fun _ => rfl) (by omega) (fun fuel cs z h => by
    obtain ⟨s, hs, hz, ws⟩ := DataW.trod_string Try.underlying9 h
    exact ⟨s.data.toList, by rw [hs, strV_of], by rw [Array.length_toList]; exact ws⟩) hf
  rw [flatF_strl] at h1
  simp [Value.cells] at hcs
  subst hcs
  exact ⟨ss, h1, h2⟩
end Go.Proofs.Ytmafnjidhjabgaa
