/- Walks and plain laws of the chapter, laid together; each part says what it proves. -/
import Derived.SliceStrings
import Derived.Test.YtmafnjidhjabgaaPkA
import Derived.Test.YtmafnjidhjabgaaPkL
import Derived.Test.YtmafnjidhjabgaaPkN
import Derived.Test.YtmafnjidhjabgaaPkO
namespace Go.Proofs.Ytmafnjidhjabgaa
open Go.RowKit Go.Shelf
set_option linter.unusedVariables false
set_option linter.unusedSectionVars false
set_option linter.unusedSimpArgs false
set_option maxRecDepth 100000
variable [Inhabited Pgs]
def TyB (w : World) (j : Nat) : Prop := IsT 91 w j ∨ IsT 9 w j ∨ IsT 63 w j
theorem TyB.lt {w : World} {j : Nat} (h : TyB w j) : j < w.heap.size := h.elim (·.lt) (fun h => h.elim (·.lt) (·.lt))
theorem TyB.ne {w : World} {j : Nat} (h : TyB w j) {T : TypeId} (k : IsT T w j) (h1 : T ≠ 91) (h2 : T ≠ 9) (h3 : T ≠ 63) : False := by
 rcases h with h | h | h
 · exact h1 (k.eq h)
 · exact h2 (k.eq h)
 · exact h3 (k.eq h)
theorem TyB.u8 {w : World} {j : Nat} (h : TyB w j) : ¬ IsU8 w j := fun k => h.ne (T := 5) k (by decide) (by decide) (by decide)
theorem notMap {w : World} {r j : Nat} {m : Ents} (h : MapIs w r m) (e : j = r) : ¬ TyB w j := by
 subst e
 rintro (⟨cs, x, hc⟩ | ⟨cs, x, hc⟩ | ⟨cs, x, hc⟩)
 · exact h.cell cs _ x hc
 · exact h.cell cs _ x hc
 · exact h.cell cs _ x hc
theorem TyB.foot {w : World} {B d : Nat} {D : Dk} (h : DiskAt w B d D) {j : Nat} (k : TyB w j) : ¬ D.foot d j := by
 rintro (hj | hj | hj | hj)
 · exact k.ne (T := 58) (IsT.of_own h.box (j := j) (by rw [hj]; rfl)) (by decide) (by decide) (by decide)
 · exact notMap h.nowM hj k
 · exact notMap h.durM hj k
 · exact k.ne (T := 96) (IsT.of_own h.row hj) (by decide) (by decide) (by decide)
theorem Row.typ {w : World} {F : Nat → Prop} {T : TypeId} {v : Value} {n : Nat} {cs : List Value} (h : Row w F T v n cs) (hT : T = 9 ∨ T = 63) : Row w (fun k => F k ∧ TyB w k) T v n cs :=
 ⟨h.rd, fun a k c e => ⟨⟨(h.ty a k c e).1, by
  have := (h.ty a k c e).2
  rcases hT with rfl | rfl
  · exact .inr (.inl this)
  · exact .inr (.inr this)⟩, (h.ty a k c e).2⟩⟩
theorem NdAt.typ {w : World} {F : Nat → Prop} {p : Nat} {kv vv cv : Value} {es : List KV} {ps : List Nat} (h : NdAt w F p kv vv cv es ps) : NdAt w (fun k => F k ∧ TyB w k) p kv vv cv es ps :=
 ⟨⟨h.inF, .inl h.ty⟩, h.c0, h.c1, h.c2, h.c3, h.fz, h.ty, h.rk.typ (.inl rfl), h.rv.typ (.inl rfl), h.rc.typ (.inr rfl)⟩
theorem TreeAt.typ {w : World} {F : Nat → Prop} : ∀ {h : Nat} {t : BT h} {p : Nat}, TreeAt w F h t p → TreeAt w (fun k => F k ∧ TyB w k) h t p
 | 0, t, p, h => by
  obtain ⟨kv, vv, cv, hn⟩ := h
  exact ⟨kv, vv, cv, hn.typ⟩
 | h + 1, t, p, ht => by
  obtain ⟨kv, vv, cv, ps, hn, hl, hk⟩ := ht
  exact ⟨kv, vv, cv, ps, hn.typ, hl, fun i c q hc hq => TreeAt.typ (hk i c q hc hq)⟩
theorem RootAt.typ {w : World} {F : Nat → Prop} {r : Root} {now : Option Addr} (h : RootAt w F r now) : RootAt w (fun k => F k ∧ TyB w k) r now := by
 cases r with
 | none => exact h
 | some ht =>
  obtain ⟨h', t⟩ := ht
  obtain ⟨p, e, ht⟩ := h
  exact ⟨p, e, ht.typ⟩
theorem RootAt.mono {w : World} {F G : Nat → Prop} {r : Root} {now : Option Addr} (h : RootAt w F r now) (hFG : ∀ k, F k → G k) : RootAt w G r now := by
 cases r with
 | none => exact h
 | some ht =>
  obtain ⟨h', t⟩ := ht
  obtain ⟨p, e, ht⟩ := h
  exact ⟨p, e, ht.mono hFG⟩
theorem RootAt.fr {w w' : World} {F : Nat → Prop} {r : Root} {now : Option Addr} (h : RootAt w F r now) (hf : Fr F w w') : RootAt w' F r now := by
 cases r with
 | none => exact h
 | some ht =>
  obtain ⟨h', t⟩ := ht
  obtain ⟨p, e, ht⟩ := h
  exact ⟨p, e, ht.fr hf⟩
structure TS (w : World) (B T d : Nat) (t : Tr) (F : Nat → Prop) (r : Root) : Prop where
 tr : TrAt w B T d t
 root : RootAt w F r t.now
 ok : ROk r
 typ : ∀ j, F j → TyB w j
theorem TS.hF {w : World} {B T d : Nat} {t : Tr} {F : Nat → Prop} {r : Root} (h : TS w B T d t F r) : ∀ j, F j → j < w.heap.size := fun j hj => (h.typ j hj).lt
theorem TS.hTF {w : World} {B T d : Nat} {t : Tr} {F : Nat → Prop} {r : Root} (h : TS w B T d t F r) : ¬ F T := fun hj => (h.typ T hj).ne (IsT.of_own h.tr (j := T) rfl) (by decide) (by decide) (by decide)
theorem TyB.only {S : Nat → Prop} {w w' : World} {j : Nat} (h : TyB w j) (ho : Only S w w') (hS : ¬ S j) : TyB w' j := by
 have hb := ho.block j h.lt hS
 rcases h with ⟨cs, x, hc⟩ | ⟨cs, x, hc⟩ | ⟨cs, x, hc⟩
 · exact .inl ⟨cs, x, hb.trans hc⟩
 · exact .inr (.inl ⟨cs, x, hb.trans hc⟩)
 · exact .inr (.inr ⟨cs, x, hb.trans hc⟩)
theorem TS.only {S : Nat → Prop} {w w' : World} {B T d : Nat} {t : Tr} {F : Nat → Prop} {r : Root} (h : TS w B T d t F r) (ho : Only S w w') (hS : ∀ j, F j → ¬ S j) (hT : ¬ S T) : TS w' B T d t F r :=
 ⟨h.tr.only ho hT, h.root.fr (Fr.of_only ho (fun k hk _ => hS k hk)), h.ok, fun j hj => (h.typ j hj).only ho (hS j hj)⟩
theorem TS.below {w w' : World} {B T d : Nat} {t : Tr} {F : Nat → Prop} {r : Root} (h : TS w B T d t F r) (hb : Below w.heap.size w w') : TS w' B T d t F r :=
 h.only (S := fun _ => False) (Only.of_below hb) (fun _ _ h => h) (fun h => h)
theorem TS.new {w : World} {B T d : Nat} {t : Tr} (h : TrAt w B T d t) (hn : t.now = none) : TS w B T d t (fun _ => False) none := ⟨h, hn, trivial, fun _ h => h.elim⟩
def Stepped (w w' : World) (B T d : Nat) (t : Tr) (F : Nat → Prop) (r : Root) : Prop := (∃ now F', TS w' B T d { t with now := now } F' r ∧ ∀ j, F' j → F j ∨ w.heap.size ≤ j) ∧ Only (fun j => j = T) w w'
theorem TS.turn {w w' : World} {B T d : Nat} {t : Tr} {F : Nat → Prop} {r r' : Root} (h : TS w B T d t F r) (ok : ROk r') (hw : Turned6 w F T r' w') : Stepped w w' B T d t F r' := by
 obtain ⟨now, u, hb, rfl, hr⟩ := hw
 refine ⟨⟨now, fun k => (F k ∨ w.heap.size ≤ k) ∧ TyB (u.setCell ⟨T, 6, none⟩ (.pointer now)) k, ⟨(h.tr.below hb).setNow now, hr.typ, ok, fun j hj => hj.2⟩, fun j hj => hj.1⟩, ?_⟩
 exact (Only.of_below (S := fun j => j = T) hb).setCell _ _ (.inl rfl)
theorem tput_step {w : World} {B T d : Nat} {t : Tr} {F : Nat → Prop} {r : Root} (h : TS w B T d t F r) (k v : Str) (hk : k.length ≤ 4096) (hv : v.length ≤ 4096) :
  Calls Try.prog 9 #[.pointer (some ⟨T, 0, none⟩), .string (bstr k), .string (bstr v)] w fun e w' => e = .returned (.int .i64 0) ∧ Stepped w w' B T d t F (rput k v r) := by
 obtain ⟨-, -, -, -, -, -, c6, -, fz⟩ := h.tr.at
 refine (tput_calls F r T t.now k v w h.hF h.hTF h.root h.ok c6 (fz 6) hk hv).mono ?_
 rintro e w' ⟨rfl, hw⟩
 exact ⟨rfl, h.turn (rput_spec k v h.ok).2 hw⟩
def DelR (w w' : World) (B T d : Nat) (t : Tr) (F : Nat → Prop) (k : Str) (r : Root) (e : Ending) : Prop :=
 ((look k (rflat r)).isSome = false ∧ e = .returned (.tuple #[.bool false, .int .i64 0]) ∧ w' = w) ∨ ((look k (rflat r)).isSome = true ∧ e = .returned (.tuple #[.bool true, .int .i64 0]) ∧ Stepped w w' B T d t F (rdel k r))
theorem look_mem {k : Str} {l : List KV} (h : (look k l).isSome = true) : ∃ v, (k, v) ∈ l := by
 refine Classical.byContradiction fun hn => ?_
 have h1 : look k l = none := look_no (fun e he hk => hn ⟨e.2, by rw [← hk]; exact he⟩)
 rw [h1] at h
 cases h
theorem tdel_step {w : World} {B T d : Nat} {t : Tr} {F : Nat → Prop} {r : Root} (h : TS w B T d t F r) (k : Str) :
  Calls Try.prog 13 #[.pointer (some ⟨T, 0, none⟩), .string (bstr k)] w fun e w' => DelR w w' B T d t F k r e := by
 obtain ⟨-, -, -, -, -, -, c6, -, fz⟩ := h.tr.at
 refine (tdel_calls F r T t.now k w h.hF h.hTF h.root h.ok c6 (fz 6)).mono ?_
 rintro e w' (⟨h1, rfl, rfl⟩ | ⟨h1, rfl, hw⟩)
 · exact .inl ⟨h1, rfl, rfl⟩
 · exact .inr ⟨h1, rfl, h.turn (rdel_spec k h.ok (look_mem h1)).2 hw⟩
theorem DiskAt.turned {w w' : World} {B Bd T d : Nat} {D : Dk} {t : Tr} (h : DiskAt w Bd d D) (ht : TrAt w B T d t) (hT : ¬ D.foot d T) (ho : Only (fun j => j = T) w w') : DiskAt w' Bd d D :=
 h.only ho (fun j e hf => hT (e ▸ hf)) (fun j e hu => absurd ((IsT.of_own ht (j := j) (by rw [e]; rfl)).eq hu) (by decide))
theorem TyB.fr {F : Nat → Prop} {w w' : World} {j : Nat} (h : TyB w j) (hf : Fr F w w') (hj : F j) : TyB w' j := by
 rcases h with h | h | h
 · exact .inl (h.fr hf hj)
 · exact .inr (.inl (h.fr hf hj))
 · exact .inr (.inr (h.fr hf hj))
def LJ (F : Nat → Prop) (t0 : List KV) (now : Option Addr) (i : Nat) (xs : List UInt8) (ats : List Int) (w : World) : Prop :=
 (RootAt w F (some ⟨0, t0⟩) now ∧ ∀ j, F j → TyB w j) ∧ ((i = 0 ∧ xs = [] ∧ ats = []) ∨ (i = 1 ∧ xs.length ≤ 65548 ∧ ∃ a, ats = [a] ∧ 0 ≤ a ∧ a ≤ 1099511627776))
theorem leaf_pager (hP : ∀ p pg, (default : Pgs).ok p pg ↔ (0 ≤ pg ∧ pg ≤ 1099511627776)) (F : Nat → Prop) (t0 : List KV) (now : Option Addr) (tag : Int) (N size : Nat) (hF : ∀ j, F j → j < N) (he : ∀ e ∈ t0, e.1.length ≤ 4096 ∧ e.2.length ≤ 4096) (h7 : t0.length ≤ 7) (hs : size ≤ 4096) :
  Pager F (LJ F t0 now) [(tag, now)] N size := by
 refine ⟨?_, ?_, ?_⟩
 ·
  rintro i xs ats W W' ⟨⟨h1, h3⟩, h2⟩ ho
  have hf : Fr F W W' := Fr.of_only ho (fun k hk _ h => h hk)
  exact ⟨⟨h1.fr hf, fun j hj => (h3 j hj).fr hf hj⟩, h2⟩
 ·
  rintro i xs ats W ⟨h1, ⟨rfl, rfl, rfl⟩ | ⟨rfl, hx, a, rfl, ha, hb⟩⟩
  · exact ⟨by simp, rfl, fun a h => by cases h⟩
  · exact ⟨by omega, rfl, fun x hx => by rw [List.mem_singleton.1 hx]; exact ⟨by omega, by omega⟩⟩
 ·
  rintro i hi xs ats b W ⟨⟨h1, h3⟩, h2⟩ hb hN
  obtain rfl : i = 0 := by simp at hi; exact hi
  obtain ⟨-, rfl, rfl⟩ : (0 : Nat) = 0 ∧ xs = [] ∧ ats = [] := by
   rcases h2 with h | ⟨h, -⟩
   · exact h
   · cases h
  obtain ⟨p, hp, kv, vv, cv, hn⟩ := h1
  obtain ⟨ba, bc, rfl⟩ := own_slice hb
  have hbn : ∀ j, F j → (Value.slice ba ([] : List UInt8).length bc).ownBlock ≠ some j := fun j hj e => by
   have := (World.ownsRow.lt hb j e).1
   have := hF j hj
   omega
  obtain ⟨pg, hc, hok⟩ := hn.c3
  subst hp
  rcases hok with rfl | hok
  ·
   refine (write_leaf F p kv vv cv t0 _ [] N size W hn hc hb (hbn p hn.inF) hbn he h7 (by simp) (by omega) hN (.inr ((hP _ _).2 ⟨by omega, by simp; omega⟩))).mono ?_
   rintro e w' ⟨b', rfl, ho, hfr, hon, -⟩
   refine ⟨b', _, Fr.FrM.frameOf (enc (nodeE t0 [])), rfl, ho, ⟨⟨⟨p, rfl, kv, vv, cv, hn.fr hfr⟩, fun j hj => (h3 j hj).fr hfr hj⟩, .inr ⟨rfl, ?_, _, rfl, by omega, by simp; omega⟩⟩, hon.weak (fun j _ h => by
    rcases h with rfl | h
    · exact .inl hn.inF
    · exact .inr h)⟩
   have h1 := Fr.FrM.frameOf_length (enc (nodeE t0 []))
   have h2 := nodeE_len (es := t0) (ks := []) he h7 (by simp)
   rw [List.nil_append]
   omega
  ·
   obtain ⟨h0, h1⟩ := (hP _ _).1 hok
   refine (write_old p pg _ bc ba (size : Nat) W hc h0).mono ?_
   rintro e w' ⟨rfl, hbw⟩
   exact ⟨_, pg, [], rfl, ownsRow_below hb hbw (Nat.le_refl _), ⟨⟨⟨p, rfl, kv, vv, cv, hn.fr (Fr.of_below hbw)⟩, fun j hj => (h3 j hj).fr (Fr.of_below (F := F) hbw) hj⟩, .inr ⟨rfl, by simp, pg, rfl, h0, h1⟩⟩, Only.of_below hbw⟩
structure Com1 (w w' : World) (B T d Bd Bs : Nat) (t : Tr) (F : Nat → Prop) (r : Root) (tag : Int) : Prop where
 it : ∃ rv size s D, TS w' B T d { t with rv := rv, size := size } F r ∧ w'.ownsRow w.heap.size 81 2 rv 1 (flatF Rt.cells [(tag, t.now)]) ∧ SlotAt w' Bs t.sl d s ∧ DiskAt w' Bd d D
 lo : Below B w w'
theorem commit_leaf (hP : ∀ p pg, (default : Pgs).ok p pg ↔ (0 ≤ pg ∧ pg ≤ 1099511627776)) {w : World} {B T d Bd Bs : Nat} {t : Tr} {s : Sl} {D : Dk} {F : Nat → Prop} {t0 : List KV} (h : TS w B T d t F (some ⟨0, t0⟩)) (hs : SlotAt w Bs t.sl d s) (hd : DiskAt w Bd d D)
  (hFB : ∀ j, F j → B ≤ j) (hsB : B ≤ Bs) (hdB : B ≤ Bd) (he : ∀ e ∈ t0, e.1.length ≤ 4096 ∧ e.2.length ≤ 4096) (h7 : t0.length ≤ 7) (hrv : t.rv = .slice none 0 0) (hsz : t.size = 0) (hfl : t.file = 0) (hbr : t.broken = false) (hfit : Fit D 72000) (hchg : D.chg.length ≤ 800000) (hTd : ¬ D.foot d T) (hsd : ¬ D.foot d t.sl) (hTs : T ≠ t.sl)
  (hnm : t.nm.size ≤ 10) (hsn : s.nm.size ≤ 10) (hsb : s.broken = false) (hver : s.ver ≤ 1000000000) (hg1 : goodNm (tfn t.nm t.file).data.toList = true) (hg2 : goodNm (sfn s.nm (toOf s)).data.toList = true) (tag : Int) (h0 : 0 ≤ tag) (h1 : tag ≤ 9223372036854775807) :
  Calls Try.prog 18 #[.pointer (some ⟨T, 0, none⟩), .int .i64 tag] w fun e w' => e = .returned (.int .i64 0) ∧ Com1 w w' B T d Bd Bs t F (some ⟨0, t0⟩) tag := by
 have hsF : ¬ F t.sl := fun hj => (h.typ _ hj).ne (IsT.of_own hs (j := t.sl) rfl) (by decide) (by decide) (by decide)
 have hdF : ∀ j, F j → ¬ D.foot d j := fun j hj => (h.typ j hj).foot hd
 refine (commit_calls F (LJ F t0 t.now) T d Bd B Bs t s D [] tag w h.tr hs hd h.hF h.hTF hsF hdF (fun j hj => (h.typ j hj).u8) (by rw [hrv]; exact Rd.nil _ _) (by simp) (fun r hr => by cases hr) h0 h1 (fun r hr => by cases hr)
  (fun N hN => leaf_pager hP F t0 t.now tag N t.size (fun j hj => Nat.lt_of_lt_of_le (h.hF j hj) hN) he h7 (by omega)) ⟨⟨h.root, h.typ⟩, .inl ⟨rfl, rfl, rfl⟩⟩ (by omega) hbr (by omega) 70000 ?_ hfit hchg (by omega) hTd hsd hTs hnm hsn hsb hver hg1 hg2).mono ?_
 ·
  rintro i xs ats W ⟨-, ⟨-, rfl, -⟩ | ⟨-, hx, -⟩⟩
  · simp
  · omega
 ·
  rintro e w' ⟨rfl, ⟨xs, ats, rv, D', hj, hrow, hsv⟩⟩
  refine ⟨rfl, ⟨rv, _, _, D', ⟨hsv.tree, hj.1.1, h.ok, hj.1.2⟩, hrow, hsv.slot, hsv.disk⟩, hsv.only.below (by have := h.tr.lt; omega) (fun j hjB hj => ?_)⟩
  rcases hj with hj | hj | rfl | rfl
  · have := hFB j hj; omega
  · have := (hd.foot_lt hj).1; omega
  · have := hs.lt.1; omega
  · have := h.tr.lt.1; omega
end Go.Proofs.Ytmafnjidhjabgaa
namespace Go.Proofs.Ytmafnjidhjabgaa
open Go.RowKit Go.Shelf
set_option linter.unusedVariables false
set_option linter.unusedSectionVars false
set_option linter.unusedSimpArgs false
set_option maxRecDepth 100000
instance pagesAny : Inhabited Pgs := ⟨⟨fun _ pg => 0 ≤ pg ∧ pg ≤ 1099511627776⟩⟩
theorem pagesAny_ok : ∀ p pg, (default : Pgs).ok p pg ↔ (0 ≤ pg ∧ pg ≤ 1099511627776) := fun _ _ => Iff.rfl
def nmT : ByteArray := ⟨#[116]⟩
theorem nmT_low : lowName nmT := by
 intro c hc
 simp [nmT] at hc
 subst hc
 decide
theorem nmT_good : goodNm (tfn nmT 0).data.toList = true ∧ goodNm (sfn nmT 0).data.toList = true := by decide
theorem root1 : rput [98] [50] none = some ⟨0, [([98], [50])]⟩ := by kernel_rfl
theorem root2 : rput [97] [49] (some ⟨0, [([98], [50])]⟩) = some ⟨0, [([97], [49]), ([98], [50])]⟩ := by kernel_rfl
theorem root3 : rdel [97] (some ⟨0, [([97], [49]), ([98], [50])]⟩) = some ⟨0, [([98], [50])]⟩ := by kernel_rfl
theorem TrAt.mono {w : World} {B B' T d : Nat} {t : Tr} (h : TrAt w B T d t) (hb : B' ≤ B) : TrAt w B' T d t := ownsRow_mono h hb
set_option maxHeartbeats 4000000 in
theorem known_calls (w : World) : Calls Try.prog 6 #[] w fun e w' => e = .returned (.bool true) ∧ Below w.heap.size w w' := by
 go_enter Try.func6, Try.ntmps6
 go_wp2_with fail
 refine (dnew_calls 1048576 w (by omega) (by omega)).mono ?_
 rintro e w1 ⟨rfl, hd1, hb1⟩
 have HB1 := Lib.hid hb1
 have HD1 := Lib.hid hd1
 have hs1 := hb1.size
 clear hd1 hb1
 go_wp2_with fail
 refine (topen_new (w.heap.size + 2) w.heap.size (newD 1048576 w.heap.size) nmT w1 HD1.out (by decide) (by decide) nmT_low (fun i hi => by simp [newD, fileOf, mget]) (fun i hi => by simp [newD, fileOf, mget]; decide) (fun i hi => rfl)).mono ?_
 rintro e w2 ⟨T, sl, rfl, ht2, hsl2, hb2⟩
 have HD2 := Lib.hid (HD1.out.below hb2)
 have HB2 := Lib.hid (HB1.out.trans (hb2.mono hs1))
 have HS2 := Lib.hid hsl2
 have HT2 := Lib.hid (TS.new (ht2.mono hs1) rfl)
 have hTl := ht2.lt
 have hsll := hsl2.lt
 have hTs : T ≠ sl := fun e => absurd ((IsT.of_own ht2 (j := T) rfl).eq (IsT.of_own hsl2 (j := T) (by rw [e]; rfl))) (by decide)
 have hTd : ¬ (newD 1048576 w.heap.size).foot (w.heap.size + 2) T := fun h => by have := (HD1.out.foot_lt h).2; omega
 have hsd : ¬ (newD 1048576 w.heap.size).foot (w.heap.size + 2) sl := fun h => by have := (HD1.out.foot_lt h).2; omega
 have HX := Lib.hid (And.intro hTs (And.intro hTd hsd))
 clear ht2 hsl2 hb2 hTs hTd hsd
 go_wp2_with fail
 refine (tput_step HT2.out [98] [50] (by decide) (by decide)).mono ?_
 rintro e w3 ⟨rfl, ⟨now3, F3, ht3, hF3⟩, ho3⟩
 rw [root1] at ht3
 have HT3 := Lib.hid ht3
 have HF3 := Lib.hid hF3
 have HO3 := Lib.hid ho3
 have HD3 := Lib.hid (HD2.out.turned HT2.out.tr HX.out.2.1 ho3)
 have HS3 := Lib.hid (HS2.out.only ho3 (fun e => HX.out.1 e.symm))
 clear ht3 hF3 ho3
 go_wp2_with fail
 refine (tput_step HT3.out [97] [49] (by decide) (by decide)).mono ?_
 rintro e w4 ⟨rfl, ⟨now4, F4, ht4, hF4⟩, ho4⟩
 rw [root2] at ht4
 have HT4 := Lib.hid ht4
 have HD4 := Lib.hid (HD3.out.turned HT3.out.tr HX.out.2.1 ho4)
 have HS4 := Lib.hid (HS3.out.only ho4 (fun e => HX.out.1 e.symm))
 have hz3 := HO3.out.size
 have hz4 := ho4.size
 have hz2 := HB2.out.size
 have hFB := fun j (hj : F4 j) => show w.heap.size ≤ j from (hF4 j hj).elim (fun h => (HF3.out j h).elim (fun h => h.elim) (fun h => by omega)) (fun h => by omega)
 have HB4 := Lib.hid ((HB2.out.trans (HO3.out.below hz2 (fun j hj e => by omega))).trans (ho4.below (by omega) (fun j hj e => by omega)))
 have HFB := Lib.hid hFB
 clear ht4 hF4 ho4 hFB
 go_wp2_with fail
 refine (commit_leaf pagesAny_ok HT4.out HS4.out HD4.out HFB.out hs1 (Nat.le_refl _) (fun e he => by simp at he; rcases he with rfl | rfl <;> decide) (by decide) rfl rfl rfl rfl ⟨rfl, by simp [newD, usedOf], by simp [newD], by simp [newD]⟩ (by simp [newD]) HX.out.2.1 HX.out.2.2 HX.out.1 (show (1 : Nat) ≤ 10 by omega) (show (1 : Nat) ≤ 10 by omega) rfl (by simp [sNew]) nmT_good.1 nmT_good.2 3 (by omega) (by omega)).mono ?_
 rintro e w5 ⟨rfl, ⟨rv, size, s5, D5, ht5, hrow, hs5, hd5⟩, hlo5⟩
 have HT5 := Lib.hid ht5
 have hrow : w5.ownsRow w4.heap.size 81 2 rv 1 (flatF Rt.cells [(3, now4)]) := hrow
 have HR5 := Lib.hid hrow
 have HB5 := Lib.hid (HB4.out.trans hlo5)
 have hz5 := hlo5.size
 clear ht5 hs5 hd5 hlo5 hrow HB4 HFB HD4 HS4 HD3 HS3 HT3
 go_wp2_with fail
 refine (tdel_step HT5.out [97]).mono ?_
 rintro e w6 (⟨h, -, -⟩ | ⟨-, rfl, ⟨now6, F6, ht6, hF6⟩, ho6⟩)
 · exact absurd h (by decide)
 rw [root3] at ht6
 have HT6 := Lib.hid ht6
 have hz6 := ho6.size
 have HR6 := Lib.hid (ownsRow_only HR5.out ho6 (fun g hg e => by have := (World.ownsRow.lt HR5.out g hg).1; omega))
 have HB6 := Lib.hid (HB5.out.trans (ho6.below (by omega) (fun j hj e => by omega)))
 obtain ⟨-, -, -, -, -, -, c6, -, -⟩ := ht6.tr.at
 clear ht6 hF6 ho6
 go_wp2_with fail
 refine (tget_calls F6 _ T now6 [98] w6 HT6.out.root HT6.out.ok c6).mono ?_
 rintro e w7 ⟨rfl, hw7⟩
 obtain rfl : w6 = w7 := hw7.symm
 have hlk : look [98] (rflat (some ⟨0, [([98], [50])]⟩)) = some [50] := by decide
 rw [hlk]
 have hbt : (bstr [50]).toList = [50] := bstr_toList [50]
 go_wp2_with fail
 refine (len_calls F6 _ T now6 w6 HT6.out.root HT6.out.ok (by decide) c6).mono ?_
 rintro e w7 ⟨rfl, hb7⟩
 have HT7 := Lib.hid (HT6.out.below hb7)
 have HR7 := Lib.hid (ownsRow_below HR6.out hb7 (Nat.le_refl _))
 have HB7 := Lib.hid (HB6.out.trans (hb7.mono (by omega)))
 clear hb7 c6
 go_wp2_with fail
 refine (commit_low w.heap.size T (w.heap.size + 2) _ [] (3, now4) 3 w7 HT7.out.tr rfl (Rd.of_own HR7.out) (by omega) (by simp) (by simp)).mono ?_
 rintro e w8 ⟨rfl, hb8⟩
 have HB8 := Lib.hid (HB7.out.trans (hb8.mono HB7.out.size))
 clear hb8
 go_wp2_with fail
 go_ret
 exact ⟨rfl, HB8.out⟩
end Go.Proofs.Ytmafnjidhjabgaa
namespace Go.Proofs.Ytmafnjidhjabgaa
open Go.RowKit Go.Shelf
set_option linter.unusedVariables false
set_option linter.unusedSectionVars false
set_option linter.unusedSimpArgs false
set_option maxRecDepth 100000
theorem tput_long (T : Nat) (k v : Str) (w : World) (h : 4096 < k.length ∨ 4096 < v.length) : Calls Try.prog 9 #[.pointer (some ⟨T, 0, none⟩), .string (bstr k), .string (bstr v)] w fun e w' => e = .returned (.int .i64 2) ∧ w' = w := by
 have hks : (bstr k).size = k.length := rfl
 have hvs : (bstr v).size = v.length := rfl
 by_cases hk : 4096 < k.length
 ·
  have d1 : decide ((4096 : Int) < (k.length : Int)) = true := decide_eq_true (by omega)
  go_enter Try.func9, Try.ntmps9
  go_wp2_with fail
  go_ret
  exact ⟨rfl, rfl⟩
 ·
  have d1 : decide ((4096 : Int) < (k.length : Int)) = false := decide_eq_false (by omega)
  have hv : 4096 < v.length := h.resolve_left hk
  have d2 : decide ((4096 : Int) < (v.length : Int)) = true := decide_eq_true (by omega)
  go_enter Try.func9, Try.ntmps9
  go_wp2_with fail
  go_ret
  exact ⟨rfl, rfl⟩
structure Tn (X : Nat → Prop) (B : Nat) (W W' : World) : Prop where
 os : W'.os = W.os
 tape : W'.tape = W.tape
 output : W'.output = W.output
 size : W.heap.size ≤ W'.heap.size
 block : ∀ k, k < B → k < W.heap.size → ¬ X k → W'.heap[k]? = W.heap[k]?
 cells : ∀ k o, W.heap[k]? = some o → o.isCells = true → ¬ X k → W'.heap[k]? = some o
theorem Tn.of_calm {X : Nat → Prop} {B : Nat} {W W' : World} (h : Calm B W W') : Tn X B W W' := ⟨h.os, h.tape, h.output, h.size, fun k hk _ _ => h.block k hk, fun k o hk hc _ => h.cells k o hk hc⟩
theorem Tn.trans {X : Nat → Prop} {B : Nat} {a b c : World} (h : Tn X B a b) (k : Tn X B b c) : Tn X B a c :=
 ⟨k.os.trans h.os, k.tape.trans h.tape, k.output.trans h.output, Nat.le_trans h.size k.size, fun i hi hl hx => (k.block i hi (Nat.lt_of_lt_of_le hl h.size) hx).trans (h.block i hi hl hx), fun i o hi hc hx => k.cells i o (h.cells i o hi hc hx) hc hx⟩
theorem Tn.of_only {X : Nat → Prop} {B : Nat} {W W' : World} (h : Only X W W') : Tn X B W W' :=
 ⟨h.os, h.tape, h.output, h.size, fun k _ hl hx => h.block k hl hx, fun k o hk hc hx => (h.block k (Array.getElem?_eq_some_iff.1 hk).1 hx).trans hk⟩
theorem tree_range {g : Operand} {ps : Array Tmp} {assign body : Code} {Q : Exit → Act → World → Prop} {a : Act} {V0 Y : World} (F : Nat → Prop) (r : Root) (T S : Nat) (now : Option Addr) (av bv : Str) (X : Nat → Prop) (I : List KV → World → Prop)
  (hg : a.eval g = .func (.func 32) #[] #[.pointer (some ⟨S, 0, none⟩), .pointer (some ⟨S + 1, 0, none⟩), .pointer (some ⟨S + 2, 0, none⟩)]) (hS : S = V0.heap.size)
  (hY : Y = ((V0.alloc (.cells #[.pointer (some ⟨T, 0, none⟩)] 28)).alloc (.cells #[.string (bstr av)] 9)).alloc (.cells #[.string (bstr bv)] 9))
  (hr : RootAt V0 F r now) (hok : ROk r) (hT : V0.cell? ⟨T, 6, none⟩ = some (.pointer now)) (hX : ∀ j, X j → ¬ F j ∧ j ≠ T ∧ j < S)
  (hI : ∀ l W W', Calm Y.heap.size W W' → I l W → I l W') (h0 : I (upTo bv (ge av (rflat r))) Y) (hps : ps.size = 2)
  (hbody : ∀ (l : Nat) (x : KV) (rest : List KV) (W : World), I (x :: rest) W → Only X V0 W → Y.heap.size ≤ W.heap.size →
   assign.wpIn (Fence.wide.inRound l) 0 Try.prog (Exit.then (fun a₁ W₁ => KeepsOthers W W₁ ∧ ∀ W₂, Calm Y.heap.size W₁ W₂ → body.wpIn (Fence.wide.inRound l) 0 Try.prog (roundEnds (fun W₃ => I rest W₃ ∧ Tn X Y.heap.size W W₃) (fun _ => False) (fun _ _ => False) W₂) a₁ W₂) (fun _ _ _ => False))
    { tmps := (ps.zip #[.string (bstr x.1), .string (bstr x.2)]).foldl (fun t (p, v) => t.setIfInBounds p v) a.tmps, defers := [] } W)
  (hdone : ∀ (D : Nat) (W : World), Y.heap.size ≤ D → I [] W → Only X V0 W → W.heap[D]? = some (.deferred (some [])) → Q .normal { a with defers := { target := .collected D, args := #[] } :: a.defers } W) :
  (Code.rangeFunc g ps assign body).wpIn Fence.wide 0 Try.prog Q a Y := by
 have hYs : Y.heap.size = S + 3 := by rw [hY, hS]; simp
 have hbY : Below V0.heap.size V0 Y := by rw [hY]; exact (((Below.refl _ _).alloc (Nat.le_refl _) _).alloc (by simp) _).alloc (by simp; omega) _
 have y0 : Y.cell? ⟨S, 0, none⟩ = some (.pointer (some ⟨T, 0, none⟩)) := by rw [hY, hS, World.cell?_alloc_past _ _ _ (by simp <;> omega), World.cell?_alloc_past _ _ _ (by simp), World.cell?_alloc_at _ _ _ _ rfl]; rfl
 have y1 : Y.cell? ⟨S + 1, 0, none⟩ = some (.string (bstr av)) := by rw [hY, hS, World.cell?_alloc_past _ _ _ (by simp), World.cell?_alloc_at _ _ _ _ (by simp)]; rfl
 have y2 : Y.cell? ⟨S + 2, 0, none⟩ = some (.string (bstr bv)) := by rw [hY, hS, World.cell?_alloc_at _ _ _ _ (by simp)]; rfl
 refine range_wx (σ := RSt) (gf := 32) (lb := #[.pointer (some ⟨S, 0, none⟩), .pointer (some ⟨S + 1, 0, none⟩), .pointer (some ⟨S + 2, 0, none⟩)]) hg (fun args w => enter_r Try.func32 (by kernel_rfl) rfl args w)
  (fun s W => I s.1 W ∧ Only X V0 W ∧ S + 3 ≤ W.heap.size ∧ W.cell? ⟨S, 0, none⟩ = some (.pointer (some ⟨T, 0, none⟩)) ∧ W.cell? ⟨S + 1, 0, none⟩ = some (.string (bstr av)) ∧ W.cell? ⟨S + 2, 0, none⟩ = some (.string (bstr bv)) ∧ ∀ p ∈ s.2, W.heap[p.1]? = some p.2 ∧ p.2.isCells = true ∧ S + 3 ≤ p.1)
  (fun _ _ => False) (RStep (S + 3)) (fun s => s.1 = []) (upTo bv (ge av (rflat r)), []) ?calm (fun _ _ _ _ h => h) ⟨h0, Only.of_below hbY, by omega, y0, y1, y2, fun p hp => absurd hp (by simp)⟩ ?iter ?body ?done (fun _ _ _ _ h => h.elim)
 case calm =>
  rintro s W W' hc ⟨h1, h2, h3, h4, h5, h6, h7⟩
  refine ⟨hI _ _ _ hc h1, h2.trans (T := fun k => Y.heap.size ≤ k) ⟨hc.os, hc.tape, hc.output, hc.size, fun k hk hn => hc.block k (by omega)⟩ (fun j hj h => by omega), Nat.le_trans h3 hc.size, hc.cell h4, hc.cell h5, hc.cell h6, fun p hp => ?_⟩
  obtain ⟨k1, k2, k3⟩ := h7 p hp
  exact ⟨hc.cells _ _ k1 k2, k2, k3⟩
 case iter =>
  intro ly J' Jx' W hm _ hJJ hxx hc hJ0 hy
  refine rng1_iter F r av bv T S (S + 1) (S + 2) ly (S + 3) now V0 J' Jx' W hr hok (by have := hc.size; omega) ?_ ?_ hm hy hJ0
  ·
   intro s V hj
   obtain ⟨h1, h2, h3, h4, h5, h6, h7⟩ := hJJ _ _ hj
   exact ⟨⟨Fr.of_only h2 (fun k hk _ hx => (hX k hx).1 hk), h4, h5, h6, h2.cell (fun hx => (hX T hx).2.1 rfl) hT⟩, fun p hp => (h7 p hp).1⟩
  ·
   intro V hx
   obtain ⟨c, h⟩ := hxx V hx
   exact h.elim
 case body =>
  rintro l s args s' W ⟨h1, h2, h3, h4, h5, h6, h7⟩ hst hsz
  have hst' := hst
  obtain ⟨x, hs, rfl, c, o, e1, e2, e3, e4⟩ := hst'
  refine ⟨by rw [hps]; rfl, ?_⟩
  rw [hs] at h1
  refine wpIn_mono (hbody l x s'.1 W h1 h2 hsz) ?_
  rintro e a₁ W₁ hp
  cases e <;> try exact (hp : False).elim
  obtain ⟨hk, hb⟩ := hp
  refine ⟨hk, fun W₂ hc => wpIn_mono (hb W₂ hc) ?_⟩
  rintro e a₂ W₃ hp
  cases e <;> try exact (hp : False).elim
  ·
   obtain ⟨k1, k2, k3⟩ := hp
   have hcell : ∀ k v, S ≤ k → W.cell? ⟨k, 0, none⟩ = some v → W₃.cell? ⟨k, 0, none⟩ = some v := fun k v hk hc => by
    obtain ⟨ob, q1, q2⟩ := cells_of_cell hc
    rw [← hc]
    exact World.cell?_of_block ((k3.cells k ob q1 q2 (fun hx => by have := (hX k hx).2.2; omega)).trans q1.symm)
   refine ⟨k1, k2, ?_, Nat.le_trans h3 k3.size, hcell _ _ (Nat.le_refl _) h4, hcell _ _ (by omega) h5, hcell _ _ (by omega) h6, fun p hp => ?_⟩
   · exact h2.trans (T := fun k => X k ∨ Y.heap.size ≤ k) ⟨k3.os, k3.tape, k3.output, k3.size, fun k hk hn => k3.block k (by omega) hk (fun hx => hn (.inl hx))⟩ (fun j hj h => h.elim id (fun h => by omega))
   ·
    rw [e1] at hp
    obtain rfl := List.mem_singleton.1 hp
    exact ⟨k3.cells _ _ e2 e3 (fun hx => by have := (hX _ hx).2.2; omega), e3, e4⟩
  · exact ⟨hp.1, hp.2⟩
  · exact ⟨hp.1, hp.2⟩
 case done =>
  rintro D s V hD hs ⟨h1, h2, -⟩ hK
  rw [hs] at h1
  exact hdone D V hD h1 h2 hK
end Go.Proofs.Ytmafnjidhjabgaa
namespace Go.Proofs.Ytmafnjidhjabgaa
open Go.RowKit Go.Shelf
set_option linter.unusedVariables false
set_option linter.unusedSectionVars false
set_option linter.unusedSimpArgs false
set_option maxRecDepth 100000
attribute [local go_sem] Oper.semAt_some
theorem ins_len2 (k v : Str) (l : List KV) : (ins k v l).length ≤ l.length + 1 := by
 have : ∀ l : List KV, (l.filter (fun e => decide (e.1 < k))).length + (l.filter (fun e => decide (k < e.1))).length ≤ l.length := by
  intro l
  induction l with
  | nil => simp
  | cons e l ih =>
   by_cases h : e.1 < k
   ·
    have h2 : ¬ k < e.1 := fun h2 => slt_irr k (slt_trans h2 h)
    rw [List.filter_cons_of_pos (by simpa using h), List.filter_cons_of_neg (by simpa using h2), List.length_cons, List.length_cons]
    omega
   ·
    rw [List.filter_cons_of_neg (by simpa using h), List.length_cons]
    by_cases h2 : k < e.1
    · rw [List.filter_cons_of_pos (by simpa using h2), List.length_cons]; omega
    · rw [List.filter_cons_of_neg (by simpa using h2)]; omega
 unfold ins
 rw [List.length_append, List.length_cons]
 exact Nat.succ_le_succ (this l)
structure RB (w W : World) (T tb : Nat) (av cv : Str) : Prop where
 c0 : W.cell? ⟨w.heap.size, 0, none⟩ = some (.string (bstr av))
 c1 : W.cell? ⟨w.heap.size + 1, 0, none⟩ = some (.string (bstr cv))
 c2 : W.cell? ⟨w.heap.size + 2, 0, none⟩ = some (.bool false)
 f2 : W.frozen? ⟨w.heap.size + 2, 0, none⟩ = false
 ct : W.cell? ⟨tb, 0, none⟩ = some (.pointer (some ⟨T, 0, none⟩))
theorem RB.only {w W W' : World} {T tb : Nat} {av cv : Str} {X : Nat → Prop} (h : RB w W T tb av cv) (ho : Only X W W') (h0 : ¬ X w.heap.size) (h1 : ¬ X (w.heap.size + 1)) (h2 : ¬ X (w.heap.size + 2)) (ht : ¬ X tb) : RB w W' T tb av cv := by
 obtain ⟨ob, q, -⟩ := cells_of_cell h.c2
 exact ⟨ho.cell h0 h.c0, ho.cell h1 h.c1, ho.cell h2 h.c2, (ho.frozen (Array.getElem?_eq_some_iff.1 q).1 h2).trans h.f2, ho.cell ht h.ct⟩
theorem RB.below {w W W' : World} {T tb : Nat} {av cv : Str} (h : RB w W T tb av cv) (hb : Below W.heap.size W W') : RB w W' T tb av cv := h.only (X := fun _ => False) (Only.of_below hb) id id id id
theorem RB.calm {w W W' : World} {T tb B : Nat} {av cv : Str} (h : RB w W T tb av cv) (hc : Calm B W W') : RB w W' T tb av cv := ⟨hc.cell h.c0, hc.cell h.c1, hc.cell h.c2, (hc.frozen h.c2).trans h.f2, hc.cell h.ct⟩
def lastk (pre : List KV) : Str := match pre.getLast? with | some e => e.1 | none => []
structure R1 (w W : World) (T tb lb nb : Nat) (av cv : Str) (L rest : List KV) : Prop where
 it : ∃ pre, pre ++ rest = L ∧ W.cell? ⟨lb, 0, none⟩ = some (.string (bstr (lastk pre))) ∧ W.frozen? ⟨lb, 0, none⟩ = false ∧ W.cell? ⟨nb, 0, none⟩ = some (.int .i64 (pre.length : Nat)) ∧ W.frozen? ⟨nb, 0, none⟩ = false
 box : RB w W T tb av cv
theorem R1.calm {w W W' : World} {T tb lb nb B : Nat} {av cv : Str} {L rest : List KV} (h : R1 w W T tb lb nb av cv L rest) (hc : Calm B W W') : R1 w W' T tb lb nb av cv L rest := by
 obtain ⟨pre, h1, h2, h3, h4, h5⟩ := h.it
 exact ⟨⟨pre, h1, hc.cell h2, (hc.frozen h2).trans h3, hc.cell h4, (hc.frozen h4).trans h5⟩, h.box.calm hc⟩
theorem Only.calm {X : Nat → Prop} {V0 W W' : World} {B : Nat} (h : Only X V0 W) (hc : Calm B W W') (hB : V0.heap.size ≤ B) : Only X V0 W' :=
 h.trans (T := fun k => B ≤ k) ⟨hc.os, hc.tape, hc.output, hc.size, fun k hk hn => hc.block k (by omega)⟩ (fun j hj h => by omega)
structure R2 (w W : World) (T tb mb c : Nat) (av cv : Str) (L rest : List KV) : Prop where
 it : ∃ pre, pre ++ rest = L ∧ W.cell? ⟨mb, 0, none⟩ = some (.int .i64 ((c + pre.length : Nat))) ∧ W.frozen? ⟨mb, 0, none⟩ = false
 box : RB w W T tb av cv
theorem R2.calm {w W W' : World} {T tb mb c B : Nat} {av cv : Str} {L rest : List KV} (h : R2 w W T tb mb c av cv L rest) (hc : Calm B W W') : R2 w W' T tb mb c av cv L rest := by
 obtain ⟨pre, h1, h2, h3⟩ := h.it
 exact ⟨⟨pre, h1, hc.cell h2, (hc.frozen h2).trans h3⟩, h.box.calm hc⟩
structure RS1 (w W : World) (T d tb n : Nat) (av cv : Str) : Prop where
 box : RB w W T tb av cv
 it : ∃ t F r, TS W w.heap.size T d t F r ∧ (∀ e ∈ rflat r, e.2 = e.1 ++ [33] ∧ e.1.length ≤ 4096) ∧ (rflat r).length ≤ n
 lo : Below w.heap.size w W
 pl : w.heap.size + 2 < T ∧ T < tb ∧ tb < W.heap.size
theorem RS1.below {w W W' : World} {T d tb n : Nat} {av cv : Str} (h : RS1 w W T d tb n av cv) (hb : Below W.heap.size W W') : RS1 w W' T d tb n av cv := by
 obtain ⟨t, F, r, ht, h1, h2⟩ := h.it
 exact ⟨h.box.below hb, ⟨t, F, r, ht.below hb, h1, h2⟩, below_go h.lo hb, h.pl.1, h.pl.2.1, Nat.lt_of_lt_of_le h.pl.2.2 hb.size⟩
theorem ins_mem {k v : Str} {l : List KV} {e : KV} (h : e ∈ ins k v l) : e = (k, v) ∨ e ∈ l := by
 unfold ins at h
 rcases List.mem_append.1 h with h | h
 · exact .inr (List.mem_filter.1 h).1
 ·
  rcases List.mem_cons.1 h with h | h
  · exact .inl h
  · exact .inr (List.mem_filter.1 h).1
theorem RS1.put {w W : World} {T d tb n : Nat} {av cv : Str} (h : RS1 w W T d tb n av cv) (k : Str) :
  Calls Try.prog 9 #[.pointer (some ⟨T, 0, none⟩), .string (bstr k), .string (bstr (k ++ [33]))] W fun e w' => (∃ c, e = .returned (.int .i64 c)) ∧ RS1 w w' T d tb (n + 1) av cv := by
 obtain ⟨t, F, r, ht, hv, hl⟩ := h.it
 by_cases hk : (k ++ [33]).length ≤ 4096
 ·
  have hk' : k.length ≤ 4096 := by rw [List.length_append] at hk; omega
  refine (tput_step ht k (k ++ [33]) hk' hk).mono ?_
  rintro e w' ⟨rfl, ⟨now, F', ht', -⟩, ho⟩
  obtain ⟨p1, p2, p3⟩ := h.pl
  have hsp := rput_spec k (k ++ [33]) ht.ok
  refine ⟨⟨0, rfl⟩, h.box.only ho (by omega) (by omega) (by omega) (by omega), ⟨_, F', _, ht', fun e he => ?_, ?_⟩, h.lo.trans (ho.below h.lo.size (fun j hj e => by omega)), p1, p2, Nat.lt_of_lt_of_le p3 ho.size⟩
  ·
   rw [hsp.1] at he
   rcases ins_mem he with rfl | he
   · exact ⟨rfl, hk'⟩
   · exact hv e he
  ·
   rw [hsp.1]
   have : (ins k (k ++ [33]) (rflat r)).length ≤ (rflat r).length + 1 := ins_len2 k _ _
   omega
 ·
  refine (tput_long T k (k ++ [33]) W (.inr (by omega))).mono ?_
  rintro e w' ⟨rfl, rfl⟩
  exact ⟨⟨2, rfl⟩, h.box, ⟨t, F, r, ht, hv, by omega⟩, h.lo, h.pl⟩
end Go.Proofs.Ytmafnjidhjabgaa
namespace Go.Proofs.Ytmafnjidhjabgaa
open Go.RowKit Go.ChangeShapes Go.WideShapes Go.ChangeAt
set_option maxRecDepth 100000
theorem open_strV {H : Type} {enc : TypeId × Value → H} {W : World} {B : Nat} {held : Bool} {v : Value} {d : DataW H} {p : List MemPlace}
  (ok : Value.okWide Try.prog W .any B 9 v) (h : DataW.Trod enc Try.prog W 0 (fun _ => true) held 9 v d p) : ∃ s : Str, v = strV s ∧ s.length ≤ maxLen := by
 obtain ⟨s, rfl⟩ := okWide_string Try.underlying9 ok
 obtain ⟨fuel, hf⟩ := h
 obtain ⟨s', hs, hz, ws⟩ := DataW.trod_string Try.underlying9 hf
 simp [Value.cells] at hs
 subst hs
 exact ⟨s.data.toList, (strV_of s).symm, by rw [Array.length_toList]; exact ws⟩
end Go.Proofs.Ytmafnjidhjabgaa
