/- Walks and plain laws of the chapter, laid together; each part says what it proves. -/
import Derived.WalkMore
import Derived.Deep.LoopGhost
import Derived.Deep.CutRange
import Derived.Deep.CutBlock
import Derived.Scope
import Derived.Test.YtmafnjidhjabgaaPkL
namespace Go.Proofs.Ytmafnjidhjabgaa
open Go.RowKit Go.Shelf
set_option linter.unusedVariables false
set_option linter.unusedSectionVars false
set_option linter.unusedSimpArgs false
set_option maxRecDepth 100000
def IsT (T : TypeId) (w : World) (j : Nat) : Prop := ∃ cs x, w.heap[j]? = some (Obj.cells cs T x)
def ptrV (p : Nat) : Value := .pointer (some ⟨p, 0, none⟩)
theorem ptrs_one (ps : List Nat) : ∀ u ∈ ps.map ptrV, u.oneCell' = true := by
 intro u hu; obtain ⟨p, -, rfl⟩ := List.mem_map.1 hu; rfl
theorem keys_one (es : List KV) : ∀ u ∈ es.map (fun e => strV e.1), u.oneCell' = true := by
 intro u hu; obtain ⟨p, -, rfl⟩ := List.mem_map.1 hu; rfl
theorem vals_one (es : List KV) : ∀ u ∈ es.map (fun e => strV e.2), u.oneCell' = true := by
 intro u hu; obtain ⟨p, -, rfl⟩ := List.mem_map.1 hu; rfl
theorem IsT.lt {T : TypeId} {w : World} {j : Nat} (h : IsT T w j) : j < w.heap.size := by
 obtain ⟨cs, x, h⟩ := h
 exact (Array.getElem?_eq_some_iff.1 h).1
theorem IsT.of_own {w : World} {B sz n : Nat} {e : TypeId} {v : Value} {xs : List Value} (h : w.ownsRow B e sz v n xs) {j : Nat} (hj : v.ownBlock = some j) : IsT e w j := by
 rcases h.2 with ⟨rfl, -⟩ | ⟨g, cap, cur, rfl, -, hh, -⟩
 · simp [Value.ownBlock] at hj
 ·
  simp only [Value.ownBlock, Option.some.injEq] at hj
  subst hj
  exact ⟨cur, _, hh⟩
theorem IsT.eq {T U : TypeId} {w : World} {j : Nat} (h : IsT T w j) (k : IsT U w j) : T = U := by
 obtain ⟨cs, x, h⟩ := h
 obtain ⟨cs', x', k⟩ := k
 rw [h] at k
 simp only [Option.some.injEq, Obj.cells.injEq] at k
 exact k.2.1
structure Row (w : World) (F : Nat → Prop) (T : TypeId) (v : Value) (n : Nat) (cs : List Value) : Prop where
 rd : Rd w 1 v n cs
 ty : ∀ a k c, v = .slice (some a) k c → F a.block ∧ IsT T w a.block
theorem Row.of_own {w : World} {B n : Nat} {T : TypeId} {v : Value} {cs : List Value} (h : w.ownsRow B T 1 v n cs) {F : Nat → Prop} (hF : ∀ j, v.ownBlock = some j → F j) : Row w F T v n cs := by
 refine ⟨Rd.of_own h, fun a k c e => ?_⟩
 rcases h.2 with ⟨rfl, -⟩ | ⟨g, cap, cur, rfl, -, hh, -⟩
 · cases e
 ·
  simp only [Value.slice.injEq, Option.some.injEq] at e
  obtain ⟨rfl, -, -⟩ := e
  exact ⟨hF g rfl, cur, _, hh⟩
theorem Row.mono {w : World} {F G : Nat → Prop} {T : TypeId} {v : Value} {n : Nat} {cs : List Value} (h : Row w F T v n cs) (hFG : ∀ k, F k → G k) : Row w G T v n cs := ⟨h.rd, fun a k c e => ⟨hFG _ (h.ty a k c e).1, (h.ty a k c e).2⟩⟩
structure Pgs where
 ok : Nat → Int → Prop
variable [Inhabited Pgs]
def okPg (p : Nat) (pg : Int) : Prop := pg = -1 ∨ (default : Pgs).ok p pg
structure Fr (F : Nat → Prop) (w w' : World) : Prop where
 size : w.heap.size ≤ w'.heap.size
 row : ∀ k, F k → k < w.heap.size → ¬ IsT 91 w k → w'.heap[k]? = w.heap[k]?
 nd : ∀ k cs x, F k → w.heap[k]? = some (.cells cs 91 x) → ∃ cs', w'.heap[k]? = some (.cells cs' 91 x) ∧ (∀ i, i < 3 → cs'[i]? = cs[i]?) ∧ ∀ pg, cs[3]? = some (.int .i64 pg) → okPg k pg → ∃ pg', cs'[3]? = some (.int .i64 pg') ∧ okPg k pg'
theorem Fr.of_only {S F : Nat → Prop} {w w' : World} (h : Only S w w') (hS : ∀ k, F k → k < w.heap.size → ¬ S k) : Fr F w w' := by
 refine ⟨h.size, fun k hk hl _ => h.block k hl (hS k hk hl), fun k cs x hk hc => ?_⟩
 have hl := (Array.getElem?_eq_some_iff.1 hc).1
 exact ⟨cs, (h.block k hl (hS k hk hl)).trans hc, fun _ _ => rfl, fun pg h o => ⟨pg, h, o⟩⟩
theorem Fr.of_below {F : Nat → Prop} {w w' : World} (h : Below w.heap.size w w') : Fr F w w' := Fr.of_only (S := fun _ => False) (Only.of_below h) (fun _ _ _ h => h)
theorem Fr.refl (F : Nat → Prop) (w : World) : Fr F w w := Fr.of_below (Below.refl _ _)
theorem Fr.trans {F : Nat → Prop} {a b c : World} (h : Fr F a b) (k : Fr F b c) : Fr F a c := by
 refine ⟨Nat.le_trans h.size k.size, fun i hi hl hn => ?_, fun i cs x hi hc => ?_⟩
 ·
  have e := h.row i hi hl hn
  refine (k.row i hi (Nat.lt_of_lt_of_le hl h.size) (fun ⟨cs, x, hc⟩ => hn ⟨cs, x, e ▸ hc⟩)).trans e
 ·
  obtain ⟨cs1, h1, h2, h3⟩ := h.nd i cs x hi hc
  obtain ⟨cs2, k1, k2, k3⟩ := k.nd i cs1 x hi h1
  refine ⟨cs2, k1, fun j hj => (k2 j hj).trans (h2 j hj), fun pg hp o => ?_⟩
  obtain ⟨pg1, hp1, o1⟩ := h3 pg hp o
  exact k3 pg1 hp1 o1
theorem Fr.mono {F G : Nat → Prop} {a b : World} (h : Fr G a b) (hFG : ∀ k, F k → G k) : Fr F a b := ⟨h.size, fun k hk => h.row k (hFG k hk), fun k cs x hk => h.nd k cs x (hFG k hk)⟩
theorem IsT.fr {F : Nat → Prop} {w w' : World} {T : TypeId} {j : Nat} (h : IsT T w j) (hf : Fr F w w') (hF : F j) : IsT T w' j := by
 obtain ⟨cs, x, hc⟩ := h
 by_cases hT : T = 91
 ·
  subst hT
  obtain ⟨cs', h1, -⟩ := hf.nd j cs x hF hc
  exact ⟨cs', x, h1⟩
 ·
  refine ⟨cs, x, (hf.row j hF (Array.getElem?_eq_some_iff.1 hc).1 ?_).trans hc⟩
  rintro ⟨cs', x', hc'⟩
  rw [hc] at hc'
  simp only [Option.some.injEq, Obj.cells.injEq] at hc'
  exact hT hc'.2.1
theorem Row.fr {F : Nat → Prop} {w w' : World} {T : TypeId} {v : Value} {n : Nat} {cs : List Value} (h : Row w F T v n cs) (hT : T ≠ 91) (hf : Fr F w w') : Row w' F T v n cs := by
 refine ⟨?_, fun a k c e => ⟨(h.ty a k c e).1, (h.ty a k c e).2.fr hf (h.ty a k c e).1⟩⟩
 obtain ⟨a, cap, rfl, h0, h1, h2, h3⟩ := h.rd
 refine ⟨a, cap, rfl, h0, h1, h2, ?_⟩
 rcases h3 with h3 | ⟨b, o, rfl, hc⟩
 · exact .inl h3
 ·
  obtain ⟨hF, cs', x, hb⟩ := h.ty _ _ _ rfl
  refine .inr ⟨b, o, rfl, fun j u hj => ?_⟩
  rw [← hc j u hj]
  refine World.cell?_of_block (a := ⟨b, o + j, none⟩) (hf.row b hF (Array.getElem?_eq_some_iff.1 hb).1 ?_)
  rintro ⟨cs2, x2, hc2⟩
  simp only at hb
  rw [hb] at hc2
  simp only [Option.some.injEq, Obj.cells.injEq] at hc2
  exact hT hc2.2.1
structure NdAt (w : World) (F : Nat → Prop) (p : Nat) (kv vv cv : Value) (es : List KV) (ps : List Nat) : Prop where
 inF : F p
 c0 : w.cell? ⟨p, 0, none⟩ = some kv
 c1 : w.cell? ⟨p, 1, none⟩ = some vv
 c2 : w.cell? ⟨p, 2, none⟩ = some cv
 c3 : ∃ pg, w.cell? ⟨p, 3, none⟩ = some (.int .i64 pg) ∧ okPg p pg
 fz : ∀ o, w.frozen? ⟨p, o, none⟩ = false
 ty : IsT 91 w p
 rk : Row w F 9 kv es.length (es.map fun e => strV e.1)
 rv : Row w F 9 vv es.length (es.map fun e => strV e.2)
 rc : Row w F 63 cv ps.length (ps.map ptrV)
theorem cell_cells {w : World} {p o : Nat} {cs : Array Value} {T : TypeId} {x : Nat × Nat} (h : w.heap[p]? = some (.cells cs T x)) : w.cell? ⟨p, o, none⟩ = cs[o]? := by simp [World.cell?, h]
theorem NdAt.fr {F : Nat → Prop} {w w' : World} {p : Nat} {kv vv cv : Value} {es : List KV} {ps : List Nat} (h : NdAt w F p kv vv cv es ps) (hf : Fr F w w') : NdAt w' F p kv vv cv es ps := by
 obtain ⟨cs, x, hb⟩ := h.ty
 obtain ⟨cs', h1, h2, h3⟩ := hf.nd p cs x h.inF hb
 refine ⟨h.inF, ?_, ?_, ?_, ?_, fun o => ?_, ⟨cs', x, h1⟩, h.rk.fr (by decide) hf, h.rv.fr (by decide) hf, h.rc.fr (by decide) hf⟩
 · rw [cell_cells h1, h2 0 (by omega), ← cell_cells hb]; exact h.c0
 · rw [cell_cells h1, h2 1 (by omega), ← cell_cells hb]; exact h.c1
 · rw [cell_cells h1, h2 2 (by omega), ← cell_cells hb]; exact h.c2
 ·
  obtain ⟨pg, hp, o⟩ := h.c3
  rw [cell_cells hb] at hp
  obtain ⟨pg', hp', o'⟩ := h3 pg hp o
  exact ⟨pg', by rw [cell_cells h1]; exact hp', o'⟩
 ·
  have := h.fz o
  unfold World.frozen? at this ⊢
  rw [hb] at this
  rw [h1]
  exact this
theorem NdAt.mono {F G : Nat → Prop} {w : World} {p : Nat} {kv vv cv : Value} {es : List KV} {ps : List Nat} (h : NdAt w F p kv vv cv es ps) (hFG : ∀ k, F k → G k) : NdAt w G p kv vv cv es ps :=
 ⟨hFG _ h.inF, h.c0, h.c1, h.c2, h.c3, h.fz, h.ty, h.rk.mono hFG, h.rv.mono hFG, h.rc.mono hFG⟩
def Kids {h : Nat} (A : BT h → Nat → Prop) (ks : List (BT h)) (ps : List Nat) : Prop := ps.length = ks.length ∧ ∀ (i : Nat) (c : BT h) (q : Nat), ks[i]? = some c → ps[i]? = some q → A c q
def TreeAt (w : World) (F : Nat → Prop) : (h : Nat) → BT h → Nat → Prop
 | 0, t, p => ∃ kv vv cv, NdAt w F p kv vv cv t []
 | h + 1, t, p => ∃ kv vv cv ps, NdAt w F p kv vv cv t.1 ps ∧ Kids (TreeAt w F h) t.2 ps
theorem TreeAt.fr {F : Nat → Prop} {w w' : World} (hf : Fr F w w') : ∀ {h : Nat} {t : BT h} {p : Nat}, TreeAt w F h t p → TreeAt w' F h t p
 | 0, t, p, h => by
  obtain ⟨kv, vv, cv, hn⟩ := h
  exact ⟨kv, vv, cv, hn.fr hf⟩
 | h + 1, t, p, ht => by
  obtain ⟨kv, vv, cv, ps, hn, hl, hk⟩ := ht
  exact ⟨kv, vv, cv, ps, hn.fr hf, hl, fun i c q hc hq => TreeAt.fr hf (hk i c q hc hq)⟩
theorem TreeAt.mono {F G : Nat → Prop} {w : World} (hFG : ∀ k, F k → G k) : ∀ {h : Nat} {t : BT h} {p : Nat}, TreeAt w F h t p → TreeAt w G h t p
 | 0, t, p, h => by
  obtain ⟨kv, vv, cv, hn⟩ := h
  exact ⟨kv, vv, cv, hn.mono hFG⟩
 | h + 1, t, p, ht => by
  obtain ⟨kv, vv, cv, ps, hn, hl, hk⟩ := ht
  exact ⟨kv, vv, cv, ps, hn.mono hFG, hl, fun i c q hc hq => TreeAt.mono hFG (hk i c q hc hq)⟩
theorem Kids.fr {F : Nat → Prop} {w w' : World} (hf : Fr F w w') {h : Nat} {ks : List (BT h)} {ps : List Nat} (k : Kids (TreeAt w F h) ks ps) : Kids (TreeAt w' F h) ks ps := ⟨k.1, fun i c q hc hq => (k.2 i c q hc hq).fr hf⟩
theorem Kids.mono {F G : Nat → Prop} {w : World} (hFG : ∀ k, F k → G k) {h : Nat} {ks : List (BT h)} {ps : List Nat} (k : Kids (TreeAt w F h) ks ps) : Kids (TreeAt w G h) ks ps := ⟨k.1, fun i c q hc hq => (k.2 i c q hc hq).mono hFG⟩
def KidsOf (w : World) (F : Nat → Prop) : (h : Nat) → BT h → List Nat → Prop
 | 0, _, ps => ps = []
 | h + 1, t, ps => Kids (TreeAt w F h) t.2 ps
theorem TreeAt.top {F : Nat → Prop} {w : World} : ∀ {h : Nat} {t : BT h} {p : Nat}, TreeAt w F h t p → ∃ kv vv cv ps, NdAt w F p kv vv cv t.es ps ∧ KidsOf w F h t ps
 | 0, t, p, h => by
  obtain ⟨kv, vv, cv, hn⟩ := h
  exact ⟨kv, vv, cv, [], hn, rfl⟩
 | h + 1, t, p, ht => by
  obtain ⟨kv, vv, cv, ps, hn, hk⟩ := ht
  exact ⟨kv, vv, cv, ps, hn, hk⟩
theorem TreeAt.mk {F : Nat → Prop} {w : World} : ∀ {h : Nat} {t : BT h} {p : Nat} {kv vv cv : Value} {ps : List Nat}, NdAt w F p kv vv cv t.es ps → KidsOf w F h t ps → TreeAt w F h t p
 | 0, t, p, kv, vv, cv, ps, hn, hk => by
  cases (hk : ps = [])
  exact ⟨kv, vv, cv, hn⟩
 | h + 1, t, p, kv, vv, cv, ps, hn, hk => ⟨kv, vv, cv, ps, hn, hk⟩
theorem KidsOf.fr {F : Nat → Prop} {w w' : World} (hf : Fr F w w') : ∀ {h : Nat} {t : BT h} {ps : List Nat}, KidsOf w F h t ps → KidsOf w' F h t ps
 | 0, _, _, h => h
 | _ + 1, _, _, h => Kids.fr hf h
theorem KidsOf.mono {F G : Nat → Prop} {w : World} (hFG : ∀ k, F k → G k) : ∀ {h : Nat} {t : BT h} {ps : List Nat}, KidsOf w F h t ps → KidsOf w G h t ps
 | 0, _, _, h => h
 | _ + 1, _, _, h => Kids.mono hFG h
theorem KidsOf.len {F : Nat → Prop} {w : World} {lo : Nat} : ∀ {h : Nat} {t : BT h} {ps : List Nat}, KidsOf w F h t ps → BT.Ok h lo t → ps.length ≤ 8 ∧ (h = 0 → ps.length = 0) ∧ (0 < h → ps.length = t.es.length + 1)
 | 0, _, ps, h, o => by
  cases (h : ps = [])
  exact ⟨by simp, fun _ => rfl, fun h => by omega⟩
 | _ + 1, t, ps, h, o => by
  have h1 := h.1
  have h2 := o.2.1
  have h3 := o.2.2.1
  exact ⟨by omega, fun e => by omega, fun _ => by show ps.length = t.1.length + 1; omega⟩
structure Wk (w : World) (B p : Nat) (kv vv cv : Value) (ks vs cs : List Value) : Prop where
 box : w.ownsRow B 91 4 (.slice (some ⟨p, 0, none⟩) 1 1) 1 [kv, vv, cv, .int .i64 (-1)]
 k : w.ownsRow B 9 1 kv ks.length ks
 v : w.ownsRow B 9 1 vv vs.length vs
 c : w.ownsRow B 63 1 cv cs.length cs
 ne : ∀ j, kv.ownBlock = some j → vv.ownBlock ≠ some j
theorem Wk.cells {w : World} {B p : Nat} {kv vv cv : Value} {ks vs cs : List Value} (h : Wk w B p kv vv cv ks vs cs) :
  w.cell? ⟨p, 0, none⟩ = some kv ∧ w.cell? ⟨p, 1, none⟩ = some vv ∧ w.cell? ⟨p, 2, none⟩ = some cv ∧ w.cell? ⟨p, 3, none⟩ = some (.int .i64 (-1)) ∧ ∀ o, w.frozen? ⟨p, o, none⟩ = false := by
 have hc := World.ownsRow.cells h.box rfl
 refine ⟨?_, ?_, ?_, ?_, fun o => World.ownsRow.frozenAt h.box o⟩
 · have := hc 0 kv rfl; rwa [add_off] at this
 · have := hc 1 vv rfl; rwa [add_off] at this
 · have := hc 2 cv rfl; rwa [add_off] at this
 · have := hc 3 _ rfl; rwa [add_off] at this
theorem Wk.lt {w : World} {B p : Nat} {kv vv cv : Value} {ks vs cs : List Value} (h : Wk w B p kv vv cv ks vs cs) : B ≤ p ∧ p < w.heap.size := World.ownsRow.lt h.box _ rfl
def wkB (p : Nat) (kv vv cv : Value) (j : Nat) : Prop := j = p ∨ kv.ownBlock = some j ∨ vv.ownBlock = some j ∨ cv.ownBlock = some j
theorem Wk.foot {w : World} {B p : Nat} {kv vv cv : Value} {ks vs cs : List Value} (h : Wk w B p kv vv cv ks vs cs) {j : Nat} (hj : wkB p kv vv cv j) : B ≤ j ∧ j < w.heap.size := by
 rcases hj with rfl | hj | hj | hj
 · exact h.lt
 · exact World.ownsRow.lt h.k _ hj
 · exact World.ownsRow.lt h.v _ hj
 · exact World.ownsRow.lt h.c _ hj
theorem Wk.nd {w : World} {B p : Nat} {kv vv cv : Value} {es : List KV} {ps : List Nat} (h : Wk w B p kv vv cv (es.map fun e => strV e.1) (es.map fun e => strV e.2) (ps.map ptrV)) {F : Nat → Prop} (hF : ∀ j, wkB p kv vv cv j → F j) : NdAt w F p kv vv cv es ps := by
 obtain ⟨c0, c1, c2, c3, fz⟩ := h.cells
 have hk := h.k
 have hv := h.v
 have hc := h.c
 rw [List.length_map] at hk hv hc
 exact ⟨hF p (.inl rfl), c0, c1, c2, ⟨_, c3, .inl rfl⟩, fz, IsT.of_own h.box rfl, Row.of_own hk (fun j hj => hF j (.inr (.inl hj))), Row.of_own hv (fun j hj => hF j (.inr (.inr (.inl hj)))), Row.of_own hc (fun j hj => hF j (.inr (.inr (.inr hj))))⟩
theorem Wk.only {S : Nat → Prop} {w w' : World} {B p : Nat} {kv vv cv : Value} {ks vs cs : List Value} (h : Wk w B p kv vv cv ks vs cs) (ho : Only S w w') (hS : ∀ j, wkB p kv vv cv j → ¬ S j) : Wk w' B p kv vv cv ks vs cs :=
 ⟨ownsRow_only h.box ho (fun g hg => hS g (.inl (by simpa [Value.ownBlock] using hg.symm))), ownsRow_only h.k ho (fun g hg => hS g (.inr (.inl hg))), ownsRow_only h.v ho (fun g hg => hS g (.inr (.inr (.inl hg)))), ownsRow_only h.c ho (fun g hg => hS g (.inr (.inr (.inr hg)))), h.ne⟩
theorem Wk.below {w w' : World} {B p : Nat} {kv vv cv : Value} {ks vs cs : List Value} (h : Wk w B p kv vv cv ks vs cs) (hb : Below w.heap.size w w') : Wk w' B p kv vv cv ks vs cs := h.only (S := fun _ => False) (Only.of_below hb) (fun _ _ h => h)
set_option maxHeartbeats 400000 in
theorem fresh_calls (ka va ca : Option Addr) (kn kc vn vc cn cc : Nat) (w : World) :
  Calls Try.prog 30 #[.slice ka kn kc, .slice va vn vc, .slice ca cn cc] w fun e w' => e = .returned (ptrV w.heap.size) ∧ w' = w.alloc (.cells #[.slice ka kn kc, .slice va vn vc, .slice ca cn cc, .int .i64 (-1)] 91) := by
 go_enter Try.func30, Try.ntmps30
 go_wp2
 go_ret
 exact ⟨rfl, rfl⟩
theorem Wk.make {w : World} {B : Nat} {kv vv cv : Value} {ks vs cs : List Value} (hk : w.ownsRow B 9 1 kv ks.length ks) (hv : w.ownsRow B 9 1 vv vs.length vs) (hc : w.ownsRow B 63 1 cv cs.length cs) (hne : ∀ j, kv.ownBlock = some j → vv.ownBlock ≠ some j) (hB : B ≤ w.heap.size) :
  Wk (w.alloc (.cells #[kv, vv, cv, .int .i64 (-1)] 91)) B w.heap.size kv vv cv ks vs cs := by
 have hb := below_alloc w (.cells #[kv, vv, cv, .int .i64 (-1)] 91)
 refine ⟨?_, ownsRow_below hk hb (Nat.le_refl _), ownsRow_below hv hb (Nat.le_refl _), ownsRow_below hc hb (Nat.le_refl _), hne⟩
 have := World.ownsRow_lit (base := B) (size := 4) (e := 91) w #[kv, vv, cv, .int .i64 (-1)] 1 hB (by unfold maxLen; omega) rfl
 simpa using this
set_option maxHeartbeats 2000000 in
theorem own_calls (F : Nat → Prop) (p : Nat) (kv vv cv : Value) (es : List KV) (ps : List Nat) (w : World) (h : NdAt w F p kv vv cv es ps) (he : es.length ≤ 1000) (hp : ps.length ≤ 1000) :
  Calls Try.prog 54 #[ptrV p] w fun e w' => ∃ q kv' vv' cv', e = .returned (ptrV q) ∧ Wk w' w.heap.size q kv' vv' cv' (es.map fun e => strV e.1) (es.map fun e => strV e.2) (ps.map ptrV) ∧ Below w.heap.size w w' := by
 have c0 := h.c0
 have c1 := h.c1
 have c2 := h.c2
 obtain ⟨ka, kc, rfl, hk1, hk2⟩ := Rd.slice h.rk.rd
 obtain ⟨va, vc, rfl, hv1, hv2⟩ := Rd.slice h.rv.rd
 obtain ⟨ca, cc, rfl, hc1, hc2⟩ := Rd.slice h.rc.rd
 have RK := Lib.hid h.rk.rd
 have RV := Lib.hid h.rv.rd
 have RC := Lib.hid h.rc.rd
 clear h
 unfold ptrV
 go_enter Try.func54, Try.ntmps54
 go_wp2_with fail
 refine region_m [(0, false), (1, false), (2, false), (3, false), (5, false), (6, false), (7, false), (8, false), (10, false), (11, false), (12, false), (13, false), (4, true), (9, true), (14, true), (15, true), (16, false)] 17 (fun V => V.cell? ⟨p, 0, none⟩ = some (.slice ka es.length kc) ∧ V.cell? ⟨p, 1, none⟩ = some (.slice va es.length vc) ∧ V.cell? ⟨p, 2, none⟩ = some (.slice ca ps.length cc)) (by kernel_rfl) (by kernel_rfl) ⟨c0, c1, c2⟩ ?_
 iterate 12
  refine m_take (v := ?_) rfl rfl ?_ ?_
  rotate_left
  ·
   intro W hW
   go_simp
   with_reducible rfl
  simp only [Act.put, List.setIfInBounds_toArray, List.set_cons_zero, List.set_cons_succ]
 refine m_loud rfl (fun K hK => ?_)
 have HK := Lib.hid hK
 clear hK
 go_simp
 refine (clS_calls _ _ _ _ (RK.out.below (Below.refl w.heap.size w).drew (Nat.le_refl _)) (keys_one es) (by omega)).mono ?_
 rintro e w1 ⟨k', rfl, ho1, hb1⟩
 have hb1 : Below w.heap.size w w1 := ((Below.refl w.heap.size w).drew).trans hb1
 obtain ⟨k1a, k1c, rfl⟩ := own_slice ho1
 have HO1 := Lib.hid (show w1.ownsRow w.heap.size 9 1 (.slice k1a es.length k1c) es.length (es.map fun e => strV e.1) from ho1)
 refine HK.out _ _ ⟨cell_later hb1 c0, cell_later hb1 c1, cell_later hb1 c2⟩ ?_
 clear HK
 refine m_loud rfl (fun K hK => ?_)
 have HK := Lib.hid hK
 clear hK
 go_simp
 refine (clS_calls _ _ _ _ (RV.out.below hb1 (Nat.le_refl _)) (vals_one es) (by omega)).mono ?_
 rintro e w2 ⟨v', rfl, ho2, hb2⟩
 have hlt := fun j hj => (World.ownsRow.lt HO1.out j hj).2
 have HNE := Lib.hid (show ∀ j, (Value.slice k1a es.length k1c).ownBlock = some j → v'.ownBlock ≠ some j from fun j hj hj2 => by
  have h1 := hlt j hj
  have h2 := (World.ownsRow.lt ho2 j hj2).1
  omega)
 have hb2' := below_go hb1 hb2
 obtain ⟨v1a, v1c, rfl⟩ := own_slice ho2
 have HO1 := Lib.hid (ownsRow_below HO1.out hb2 (Nat.le_refl _))
 have HO2 := Lib.hid (ownsRow_mono ho2 hb1.size)
 clear ho1 hlt
 refine HK.out _ _ ⟨cell_later hb2' c0, cell_later hb2' c1, cell_later hb2' c2⟩ ?_
 clear HK
 refine m_loud rfl (fun K hK => ?_)
 have HK := Lib.hid hK
 clear hK
 go_simp
 refine (clP_calls _ _ _ _ (RC.out.below hb2' (Nat.le_refl _)) (ptrs_one ps) (by omega)).mono ?_
 rintro e w3 ⟨c', rfl, ho3, hb3⟩
 have hb3' := below_go hb2' hb3
 obtain ⟨c1a, c1c, rfl⟩ := own_slice ho3
 have HO1 := Lib.hid (ownsRow_below HO1.out hb3 (Nat.le_refl _))
 have HO2 := Lib.hid (ownsRow_below HO2.out hb3 (Nat.le_refl _))
 have HO3 := Lib.hid (ownsRow_mono ho3 hb2'.size)
 refine HK.out _ _ ⟨cell_later hb3' c0, cell_later hb3' c1, cell_later hb3' c2⟩ ?_
 clear HK
 refine m_loud rfl (fun K hK => ?_)
 have HK := Lib.hid hK
 clear hK
 go_simp
 refine (fresh_calls _ _ _ _ _ _ _ _ _ _).mono ?_
 rintro e w4 ⟨rfl, hw4⟩
 have hb4 : Below w.heap.size w w4 := by rw [hw4]; exact below_box hb3' _
 have HW := Lib.hid (show Wk w4 w.heap.size w3.heap.size (.slice k1a es.length k1c) (.slice v1a es.length v1c) (.slice c1a ps.length c1c) (es.map fun e => strV e.1) (es.map fun e => strV e.2) (ps.map ptrV) by
  rw [hw4]
  exact Wk.make (by rw [List.length_map]; exact HO1.out) (by rw [List.length_map]; exact HO2.out) (by rw [List.length_map]; exact HO3.out) HNE.out hb3'.size)
 have HB4 := Lib.hid hb4
 refine HK.out _ _ ⟨cell_later hb4 c0, cell_later hb4 c1, cell_later hb4 c2⟩ ?_
 clear HK
 clear hw4 hb4 hb1 hb2 hb3 ho2 ho3 hb2' hb3' c0 c1 c2
 unfold ptrV
 iterate 1
  first
  | (
    refine m_take (v := ?_) rfl rfl ?_ ?_
    rotate_left
    ·
     intro W hW
     go_simp
     with_reducible rfl
    simp only [Act.put, List.setIfInBounds_toArray, List.set_cons_zero, List.set_cons_succ])
  | (
    refine m_skip rfl rfl ?_
    simp only [Act.put, List.setIfInBounds_toArray, List.set_cons_zero, List.set_cons_succ])
 refine m_done ?_
 simp only [List.drop_succ_cons, List.drop_zero]
 go_wp2_with fail
 simp only [NP]
 go_wp2_with fail
 go_ret
 exact ⟨w3.heap.size, _, _, _, rfl, HW.out, HB4.out⟩
end Go.Proofs.Ytmafnjidhjabgaa
namespace Go.Proofs.Ytmafnjidhjabgaa
open Go.RowKit Go.Shelf
set_option linter.unusedVariables false
set_option linter.unusedSectionVars false
set_option linter.unusedSimpArgs false
set_option maxRecDepth 100000
variable [Inhabited Pgs]
theorem Row.at {w : World} {F : Nat → Prop} {T : TypeId} {a : Option Addr} {n c : Nat} {cs : List Value} (h : Row w F T (.slice a n c) n cs) {i : Nat} {u : Value} (hi : cs[i]? = some u) : ∃ b o, a = some ⟨b, o, none⟩ ∧ n ≤ c ∧ c ≤ 9223372036854775807 ∧ w.cell? ⟨b, o + i, none⟩ = some u := by
 obtain ⟨b, o, c', e, h1, h2, h3⟩ := rd1_at h.rd hi
 simp only [Value.slice.injEq] at e
 obtain ⟨rfl, -, rfl⟩ := e
 exact ⟨b, o, rfl, h1, h2, h3⟩
theorem keys_at {es : List KV} {i : Nat} (h : i < es.length) : (es.map fun e => strV e.1)[i]? = some (.string (bstr (es[i]).1)) := esV_get h
theorem vals_at {es : List KV} {i : Nat} (h : i < es.length) : (es.map fun e => strV e.2)[i]? = some (.string (bstr (es[i]).2)) := esV_get h
theorem ptrs_at {ps : List Nat} {i : Nat} (h : i < ps.length) : (ps.map ptrV)[i]? = some (.pointer (some ⟨ps[i], 0, none⟩)) := by rw [List.getElem?_map, List.getElem?_eq_getElem h]; rfl
theorem ptrs_get {ps : List Nat} {i q : Nat} (h : ps[i]? = some q) : (ps.map ptrV)[i]? = some (.pointer (some ⟨q, 0, none⟩)) := by rw [List.getElem?_map, h]; rfl
theorem kid_step {w : World} {F : Nat → Prop} {h lo : Nat} {t : BT (h + 1)} {ps : List Nat} (hk : KidsOf w F (h + 1) t ps) (ho : BT.Ok (h + 1) lo t) (hs : Srt (flat (h + 1) t)) (k : Str) :
  ∃ C Q, t.2[pos t.es k]? = some C ∧ ps[pos t.es k]? = some Q ∧ TreeAt w F h C Q ∧ BT.Ok h 3 C ∧ Srt (flat h C) ∧ ps.length = t.es.length + 1 := by
 have hk : Kids (TreeAt w F h) t.2 ps := hk
 obtain ⟨A, B, K1, K2, c, pp⟩ := parts_of ho k
 have h3 := ho.2.2.1
 have h4 := (List.getElem?_eq_some_iff.1 pp.kid).1
 have h1 := hk.1
 have hq : ps[pos t.1 k]? = some (ps[pos t.1 k]'(by omega)) := List.getElem?_eq_getElem (by omega)
 exact ⟨c, _, pp.kid, hq, hk.2 _ _ _ pp.kid hq, kids_ok ho pp.kid, pp.kid_srt hs, by show ps.length = t.1.length + 1; omega⟩
def GetOut (o : Option Str) (w : World) (e : Ending) (w' : World) : Prop := e = .returned (.tuple #[.string (bstr (o.getD [])), .bool o.isSome]) ∧ w' = w
theorem getB_hit {h : Nat} {t : BT h} {k : Str} (hh : hit t.es k = true) : getB h t k = some (esD t.es (pos t.es k)).2 := by
 cases h with
 | zero => exact if_pos hh
 | succ h => exact if_pos hh
theorem getB_leaf {t : BT 0} {k : Str} (hh : hit t.es k = false) : getB 0 t k = none := if_neg (by rw [show hit t k = hit t.es k from rfl, hh]; simp)
theorem getB_kid {h : Nat} {t : BT (h + 1)} {k : Str} {c : BT h} (hh : hit t.1 k = false) (hc : t.2[pos t.1 k]? = some c) : getB (h + 1) t k = getB h c k := by
 conv => lhs; unfold getB
 rw [hh]
 simp only [hc]
 rfl
set_option maxHeartbeats 4000000 in
theorem get_calls (F : Nat → Prop) (k : Str) (h lo : Nat) (t : BT h) (p : Nat) (w : World) (ht : TreeAt w F h t p) (ho : BT.Ok h lo t) (hs : Srt (flat h t)) :
  Calls Try.prog 35 #[ptrV p, .string (bstr k)] w fun e w' => GetOut (getB h t k) w e w' := by
 have HR := Lib.hid (And.intro ht (And.intro ho hs))
 obtain ⟨R, hR⟩ : ∃ R, R = getB h t k := ⟨_, rfl⟩
 have HE := Lib.hid hR.symm
 rw [← hR]
 clear ht ho hs hR
 unfold ptrV
 go_enter Try.func35, Try.ntmps35
 go_wp2_with fail
 go_loopg [0] h (fun k' v wr => ∃ (lo : Nat) (t' : BT k') (p' : Nat), v = .pointer (some ⟨p', 0, none⟩) ∧ TreeAt w F k' t' p' ∧ BT.Ok k' lo t' ∧ Srt (flat k' t') ∧ getB k' t' k = R ∧ wr = w)
 case atStart => exact ⟨lo, t, p, rfl, HR.out.1, HR.out.2.1, HR.out.2.2, HE.out, rfl⟩
 case round =>
  clear HR HE
  obtain ⟨lo', t', p', rfl, ht, ho, hs, hg, hw⟩ := hrel
  obtain rfl : w = wr := hw.symm
  have HT := Lib.hid ht
  have HO := Lib.hid ho
  have HS := Lib.hid hs
  have HG := Lib.hid hg
  obtain ⟨kv, vv, cv, ps, hn, hks⟩ := ht.top
  have HKS := Lib.hid hks
  clear hks
  have HN := Lib.hid hn
  have hes := ho.es
  have hsr := es_srt ho hs
  have HSP := Lib.hid (Sp.of_srt (k := k) hsr)
  have hpl := pos_le t'.es k
  have c0 := hn.c0
  have c1 := hn.c1
  have c2 := hn.c2
  obtain ⟨ka, kc, rfl, hk1, hk2⟩ := Rd.slice hn.rk.rd
  obtain ⟨va, vc, rfl, hv1, hv2⟩ := Rd.slice hn.rv.rd
  obtain ⟨ca, cc, rfl, hc1, hc2⟩ := Rd.slice hn.rc.rd
  have RK := Lib.hid hn.rk.rd
  have hle : t'.es.length ≤ 7 := hes.2
  by_cases hh : hit t'.es k = true
  ·
   obtain ⟨v, hl, hgt⟩ := hit_yes hh
   have hv := esD_hit hgt
   obtain ⟨vb, vo, rfl, -, -, hcell⟩ := hn.rv.at (vals_at hl)
   have hval : (t'.es[pos t'.es k]).2 = v := by
    rw [List.getElem?_eq_getElem hl] at hgt
    rw [Option.some.inj hgt]
   rw [hval] at hcell
   have HF := Lib.hid (show R = some v by rw [← hg, getB_hit hh, hv])
   clear ht ho hs hg hn hsr hgt hv hval HT HO HS HG HN hes
   have HH := Lib.hid hh
   clear hh
   generalize hP : pos t'.es k = P at *
   have HP := Lib.hid hP
   clear hP
   go_wp2_with (go_at_call 55; refine (bs_calls _ _ _ _ RK.out HSP.out (by omega)).mono ?_; rintro e w' ⟨rfl, hw'⟩; rw [HH.out, HP.out]; obtain rfl : w = w' := hw'.symm)
   go_ret2
   exact ⟨by rw [HF.out]; rfl, rfl⟩
  ·
   have hh : hit t'.es k = false := by simpa using hh
   cases gk with
   | zero =>
    obtain rfl : ps = [] := HKS.out
    have HF := Lib.hid (show R = none by rw [← hg]; exact getB_leaf hh)
    clear ht ho hs hg hn hsr HT HO HS HG HN hes
    have HH := Lib.hid hh
    clear hh
    generalize hP : pos t'.es k = P at *
    have HP := Lib.hid hP
    clear hP
    simp only [List.length_nil] at c2
    go_wp2_with (go_at_call 55; refine (bs_calls _ _ _ _ RK.out HSP.out (by omega)).mono ?_; rintro e w' ⟨rfl, hw'⟩; rw [HH.out, HP.out]; obtain rfl : w = w' := hw'.symm)
    go_ret2
    exact ⟨by rw [HF.out]; rfl, rfl⟩
   | succ gk =>
    obtain ⟨C, Q, hC, hQ, htk, hok, hsk, hkl⟩ := kid_step HKS.out ho hs k
    obtain ⟨cb, co, rfl, -, -, hcell⟩ := hn.rc.at (ptrs_get hQ)
    have HX := Lib.hid (And.intro htk (And.intro hok (And.intro hsk (show getB gk C k = R by rw [← hg]; exact (getB_kid hh hC).symm))))
    have hpl' : pos t'.es k < ps.length := by omega
    have hpos : 0 < ps.length := by omega
    clear ht ho hs hg hn hsr HKS htk hok hsk hC hQ HT HO HS HG HN hes
    have HH := Lib.hid hh
    clear hh
    generalize hP : pos t'.es k = P at *
    have HP := Lib.hid hP
    clear hP hkl
    have hne : ((ps.length : Int) == 0) = false := by rw [beq_eq_false_iff_ne]; omega
    go_wp2_with (go_at_call 55; refine (bs_calls _ _ _ _ RK.out HSP.out (by omega)).mono ?_; rintro e w' ⟨rfl, hw'⟩; rw [HH.out, HP.out]; obtain rfl : w = w' := hw'.symm)
    go_roundg gk
    case measure => omega
    case rel => exact ⟨3, C, Q, rfl, HX.out.1, HX.out.2.1, HX.out.2.2.1, HX.out.2.2.2, rfl⟩
def LastOut (x : KV) (w : World) (e : Ending) (w' : World) : Prop := e = .returned (.tuple #[.string (bstr x.1), .string (bstr x.2)]) ∧ Below w.heap.size w w'
theorem lastE_leaf (t : BT 0) : lastE 0 t = esD t.es (t.es.length - 1) := rfl
theorem lastE_kid {h : Nat} {t : BT (h + 1)} {c : BT h} (hc : t.2[t.2.length - 1]? = some c) : lastE (h + 1) t = lastE h c := by
 conv => lhs; unfold lastE
 rw [hc]
set_option maxHeartbeats 4000000 in
theorem last_calls (F : Nat → Prop) (h lo : Nat) (t : BT h) (p : Nat) (w : World) (ht : TreeAt w F h t p) (ho : BT.Ok h lo t) (hlo : 0 < lo) :
  Calls Try.prog 61 #[ptrV p] w fun e w' => LastOut (lastE h t) w e w' := by
 have HR := Lib.hid (And.intro ht ho)
 obtain ⟨R, hR⟩ : ∃ R, R = lastE h t := ⟨_, rfl⟩
 have HE := Lib.hid hR.symm
 rw [← hR]
 clear ht ho hR
 unfold ptrV
 go_enter Try.func61, Try.ntmps61
 go_wp2_with fail
 go_loopg [0] h (fun k' v wr => ∃ (lo : Nat) (t' : BT k') (p' : Nat), v = .pointer (some ⟨p', 0, none⟩) ∧ TreeAt wr F k' t' p' ∧ BT.Ok k' lo t' ∧ 0 < lo ∧ lastE k' t' = R ∧ Below w.heap.size w wr)
 case atStart => exact ⟨lo, t, p, rfl, HR.out.1, HR.out.2, hlo, HE.out, Below.refl _ _⟩
 case round =>
  clear HR HE
  obtain ⟨lo', t', p', rfl, ht, ho, hl0, hg, hb⟩ := hrel
  have HB := Lib.hid hb
  have HT := Lib.hid ht
  have HG := Lib.hid hg
  obtain ⟨kv, vv, cv, ps, hn, hks⟩ := ht.top
  have HKS := Lib.hid hks
  have hes := ho.es
  have c0 := hn.c0
  have c1 := hn.c1
  have c2 := hn.c2
  obtain ⟨ka, kc, rfl, hk1, hk2⟩ := Rd.slice hn.rk.rd
  obtain ⟨va, vc, rfl, hv1, hv2⟩ := Rd.slice hn.rv.rd
  obtain ⟨ca, cc, rfl, hc1, hc2⟩ := Rd.slice hn.rc.rd
  have hle : t'.es.length ≤ 7 := hes.2
  have hle0 : 0 < t'.es.length := by omega
  cases gk with
  | zero =>
   obtain rfl : ps = [] := HKS.out
   have hil : t'.es.length - 1 < t'.es.length := by omega
   obtain ⟨kb, ko, rfl, -, -, hcell⟩ := hn.rk.at (keys_at hil)
   obtain ⟨vb, vo, rfl, -, -, hcell2⟩ := hn.rv.at (vals_at hil)
   have HF := Lib.hid (show R = (t'.es)[t'.es.length - 1] by rw [← hg, lastE_leaf, esD_at hil])
   clear ht ho hg hn hks HKS HT HG hes hb
   generalize (t'.es)[t'.es.length - 1] = X at *
   obtain ⟨xk, xv⟩ := X
   simp only at hcell hcell2
   simp only [List.length_nil] at c2
   generalize hN : t'.es.length = N at *
   have HN := Lib.hid hN
   clear hN
   obtain ⟨m, hm⟩ : ∃ m, N = m + 1 := ⟨N - 1, by omega⟩
   subst hm
   simp only [Nat.add_sub_cancel] at hcell hcell2 hil
   have i1 : IntKind.i64.wrap (((m + 1 : Nat) : Int) - 1) = (m : Int) := by rw [IntKind.wrap_i64]; omega
   have i0 : IntKind.i64.wrap (m : Int) = (m : Int) := by rw [IntKind.wrap_i64]; omega
   have i3 : (m : Int) < (m : Int) + 1 := by omega
   go_wp2_with fail
   refine region_m [(0, false), (1, false), (2, false), (3, false), (4, false), (5, false), (6, false), (7, false), (8, false), (9, false), (10, false), (11, false), (12, false), (13, false), (14, false), (15, false), (16, false), (17, false), (18, false), (19, false), (20, false), (21, false), (22, false), (23, false), (24, false), (25, false)] 26 (fun V => V.cell? ⟨p', 0, none⟩ = some (.slice (some ⟨kb, ko, none⟩) (m + 1) kc) ∧ V.cell? ⟨p', 1, none⟩ = some (.slice (some ⟨vb, vo, none⟩) (m + 1) vc) ∧ V.cell? ⟨kb, ko + m, none⟩ = some (.string (bstr xk)) ∧ V.cell? ⟨vb, vo + m, none⟩ = some (.string (bstr xv))) (by kernel_rfl) (by kernel_rfl) ⟨c0, c1, hcell, hcell2⟩ ?_
   iterate 26
    refine m_take (v := ?_) rfl rfl ?_ ?_
    rotate_left
    ·
     intro W hW
     go_simp
     with_reducible rfl
    simp only [Act.put, List.setIfInBounds_toArray, List.set_cons_zero, List.set_cons_succ]
   refine m_done ?_
   simp only [List.drop_succ_cons, List.drop_zero]
   go_wp2_with fail
   simp only [NP]
   go_wp2_with fail
   go_ret2
   exact ⟨by rw [HF.out]; rfl, HB.out.drew⟩
  | succ gk =>
   have hks : Kids (TreeAt wr F gk) t'.2 ps := hks
   have hkl := hks.1
   have h3 := ho.2.2.1
   have hil : ps.length - 1 < ps.length := by omega
   have hgc : t'.2[t'.2.length - 1]? = some (t'.2[t'.2.length - 1]'(by omega)) := List.getElem?_eq_getElem (by omega)
   obtain ⟨cb, co, rfl, -, -, hcell⟩ := hn.rc.at (ptrs_at hil)
   have hq : ps[t'.2.length - 1]? = some ps[ps.length - 1] := by rw [← hkl]; exact List.getElem?_eq_getElem hil
   have HX := Lib.hid (And.intro (hks.2 _ _ _ hgc hq) (And.intro (kids_ok ho hgc) (show lastE gk _ = R by rw [← hg]; exact (lastE_kid hgc).symm)))
   generalize (t'.2[t'.2.length - 1]'(by omega)) = C at *
   generalize ps[ps.length - 1] = Q at *
   clear ht ho hg hn hks HKS HT HG hes hb hgc hq h3 hkl
   generalize hN : ps.length = N at *
   have HN := Lib.hid hN
   clear hN
   obtain ⟨m, hm⟩ : ∃ m, N = m + 1 := ⟨N - 1, by omega⟩
   subst hm
   simp only [Nat.add_sub_cancel] at hcell hil
   have i1 : IntKind.i64.wrap (((m + 1 : Nat) : Int) - 1) = (m : Int) := by rw [IntKind.wrap_i64]; omega
   have i0 : IntKind.i64.wrap (m : Int) = (m : Int) := by rw [IntKind.wrap_i64]; omega
   have i3 : (m : Int) < (m : Int) + 1 := by omega
   go_wp2_with fail
   refine region_m [(0, false), (1, false), (2, false), (3, false), (4, false), (5, false), (6, false), (7, false), (8, false), (9, false), (10, false), (11, false), (12, false)] 13 (fun V => V.cell? ⟨p', 2, none⟩ = some (.slice (some ⟨cb, co, none⟩) (m + 1) cc) ∧ V.cell? ⟨cb, co + m, none⟩ = some (.pointer (some ⟨Q, 0, none⟩))) (by kernel_rfl) (by kernel_rfl) ⟨c2, hcell⟩ ?_
   iterate 13
    refine m_take (v := ?_) rfl rfl ?_ ?_
    rotate_left
    ·
     intro W hW
     go_simp
     with_reducible rfl
    simp only [Act.put, List.setIfInBounds_toArray, List.set_cons_zero, List.set_cons_succ]
   refine m_done ?_
   simp only [List.drop_succ_cons, List.drop_zero]
   go_wp2_with fail
   simp only [NP]
   go_wp2_with fail
   go_roundg gk
   case measure => omega
   case rel => exact ⟨3, C, Q, rfl, HX.out.1.fr (Fr.of_below (Below.refl _ _).drew), HX.out.2.1, by omega, HX.out.2.2, HB.out.drew⟩
end Go.Proofs.Ytmafnjidhjabgaa
namespace Go.Proofs.Ytmafnjidhjabgaa
open Go.RowKit Go.Shelf
set_option linter.unusedVariables false
set_option linter.unusedSectionVars false
set_option linter.unusedSimpArgs false
set_option maxRecDepth 100000
variable [Inhabited Pgs]
section
variable {w w0 w1 : World} {B p : Nat} {kv vv cv v' : Value} {ks vs cs xs : List Value}
theorem Wk.kp (h : Wk w B p kv vv cv ks vs cs) {j : Nat} (hj : kv.ownBlock = some j) : j ≠ p := by
 rintro rfl
 exact own_apart h.k h.box (by decide) j hj rfl
theorem Wk.vp (h : Wk w B p kv vv cv ks vs cs) {j : Nat} (hj : vv.ownBlock = some j) : j ≠ p := by
 rintro rfl
 exact own_apart h.v h.box (by decide) j hj rfl
theorem Wk.cp (h : Wk w B p kv vv cv ks vs cs) {j : Nat} (hj : cv.ownBlock = some j) : j ≠ p := by
 rintro rfl
 exact own_apart h.c h.box (by decide) j hj rfl
theorem Wk.kc (h : Wk w B p kv vv cv ks vs cs) {j : Nat} (hj : kv.ownBlock = some j) : cv.ownBlock ≠ some j := own_apart h.k h.c (by decide) j hj
theorem Wk.vc (h : Wk w B p kv vv cv ks vs cs) {j : Nat} (hj : vv.ownBlock = some j) : cv.ownBlock ≠ some j := own_apart h.v h.c (by decide) j hj
theorem own_setBox (h : w.ownsRow B 91 4 (.slice (some ⟨p, 0, none⟩) 1 1) 1 xs) (o : Nat) (u : Value) : (w.setCell ⟨p, o, none⟩ u).ownsRow B 91 4 (.slice (some ⟨p, 0, none⟩) 1 1) 1 (xs.set o u) := (World.ownsRow.stored h o u).1
theorem only_set (w : World) (p o : Nat) (u : Value) : Only (fun j => j = p) w (w.setCell ⟨p, o, none⟩ u) := (Only.refl (fun j => j = p) w).setCell ⟨p, o, none⟩ u (.inl rfl)
theorem Wk.setK (h : Wk w B p kv vv cv ks vs cs) (hb : Only (fun _ => False) w w0) (ho : w1.ownsRow B 9 1 v' xs.length xs) (hon : Only (fun j => kv.ownBlock = some j) w0 w1) (hf : ∀ j, v'.ownBlock = some j → kv.ownBlock = some j ∨ w0.heap.size ≤ j) :
  Wk (w1.setCell ⟨p, 0, none⟩ v') B p v' vv cv xs vs cs ∧ Only (wkB p kv vv cv) w (w1.setCell ⟨p, 0, none⟩ v') := by
 have hall : Only (fun j => kv.ownBlock = some j) w w1 := (hb.weak (fun _ _ h => h.elim)).trans hon (fun _ _ h => h)
 have hne : ∀ j, v'.ownBlock = some j → ∀ q, q < w.heap.size → ¬ kv.ownBlock = some q → j ≠ q := by
  rintro j hj q hq hk rfl
  rcases hf j hj with h1 | h1
  · exact hk h1
  · have := hb.size; omega
 have hpk : ¬ kv.ownBlock = some p := fun e => h.kp e rfl
 have hvp : ∀ j, v'.ownBlock = some j → j ≠ p := fun j hj => hne j hj p h.lt.2 hpk
 refine ⟨⟨?_, ?_, ?_, ?_, ?_⟩, ?_⟩
 ·
  have := own_setBox (ownsRow_only h.box hall (fun g hg => by simp only [Value.ownBlock, Option.some.injEq] at hg; subst hg; exact hpk)) 0 v'
  simpa using this
 · exact ownsRow_only ho (only_set w1 p 0 v') (fun g hg => hvp g hg)
 · exact ownsRow_only (ownsRow_only h.v hall (fun g hg hk => h.ne g hk hg)) (only_set w1 p 0 v') (fun g hg => h.vp hg)
 · exact ownsRow_only (ownsRow_only h.c hall (fun g hg hk => h.kc hk hg)) (only_set w1 p 0 v') (fun g hg => h.cp hg)
 ·
  intro j hj hv
  exact hne j hj j (World.ownsRow.lt h.v j hv).2 (fun hk => h.ne j hk hv) rfl
 · exact (hall.weak (fun j _ hj => .inr (.inl hj))).trans (only_set w1 p 0 v') (fun j _ hj => .inl hj)
theorem Wk.setV (h : Wk w B p kv vv cv ks vs cs) (hb : Only (fun _ => False) w w0) (ho : w1.ownsRow B 9 1 v' xs.length xs) (hon : Only (fun j => vv.ownBlock = some j) w0 w1) (hf : ∀ j, v'.ownBlock = some j → vv.ownBlock = some j ∨ w0.heap.size ≤ j) :
  Wk (w1.setCell ⟨p, 1, none⟩ v') B p kv v' cv ks xs cs ∧ Only (wkB p kv vv cv) w (w1.setCell ⟨p, 1, none⟩ v') := by
 have hall : Only (fun j => vv.ownBlock = some j) w w1 := (hb.weak (fun _ _ h => h.elim)).trans hon (fun _ _ h => h)
 have hne : ∀ j, v'.ownBlock = some j → ∀ q, q < w.heap.size → ¬ vv.ownBlock = some q → j ≠ q := by
  rintro j hj q hq hk rfl
  rcases hf j hj with h1 | h1
  · exact hk h1
  · have := hb.size; omega
 have hpk : ¬ vv.ownBlock = some p := fun e => h.vp e rfl
 have hvp : ∀ j, v'.ownBlock = some j → j ≠ p := fun j hj => hne j hj p h.lt.2 hpk
 refine ⟨⟨?_, ?_, ?_, ?_, ?_⟩, ?_⟩
 ·
  have := own_setBox (ownsRow_only h.box hall (fun g hg => by simp only [Value.ownBlock, Option.some.injEq] at hg; subst hg; exact hpk)) 1 v'
  simpa using this
 · exact ownsRow_only (ownsRow_only h.k hall (fun g hg hk => h.ne g hg hk)) (only_set w1 p 1 v') (fun g hg => h.kp hg)
 · exact ownsRow_only ho (only_set w1 p 1 v') (fun g hg => hvp g hg)
 · exact ownsRow_only (ownsRow_only h.c hall (fun g hg hk => h.vc hk hg)) (only_set w1 p 1 v') (fun g hg => h.cp hg)
 ·
  intro j hk hj
  exact hne j hj j (World.ownsRow.lt h.k j hk).2 (fun hv => h.ne j hk hv) rfl
 · exact (hall.weak (fun j _ hj => .inr (.inr (.inl hj)))).trans (only_set w1 p 1 v') (fun j _ hj => .inl hj)
theorem Wk.setC (h : Wk w B p kv vv cv ks vs cs) (hb : Only (fun _ => False) w w0) (ho : w1.ownsRow B 63 1 v' xs.length xs) (hon : Only (fun j => cv.ownBlock = some j) w0 w1) (hf : ∀ j, v'.ownBlock = some j → cv.ownBlock = some j ∨ w0.heap.size ≤ j) :
  Wk (w1.setCell ⟨p, 2, none⟩ v') B p kv vv v' ks vs xs ∧ Only (wkB p kv vv cv) w (w1.setCell ⟨p, 2, none⟩ v') := by
 have hall : Only (fun j => cv.ownBlock = some j) w w1 := (hb.weak (fun _ _ h => h.elim)).trans hon (fun _ _ h => h)
 have hpk : ¬ cv.ownBlock = some p := fun e => h.cp e rfl
 have hvp : ∀ j, v'.ownBlock = some j → j ≠ p := by
  rintro j hj rfl
  rcases hf j hj with h1 | h1
  · exact hpk h1
  · have := hb.size; have := h.lt.2; omega
 refine ⟨⟨?_, ?_, ?_, ?_, h.ne⟩, ?_⟩
 ·
  have := own_setBox (ownsRow_only h.box hall (fun g hg => by simp only [Value.ownBlock, Option.some.injEq] at hg; subst hg; exact hpk)) 2 v'
  simpa using this
 · exact ownsRow_only (ownsRow_only h.k hall (fun g hg hk => h.kc hg hk)) (only_set w1 p 2 v') (fun g hg => h.kp hg)
 · exact ownsRow_only (ownsRow_only h.v hall (fun g hg hk => h.vc hg hk)) (only_set w1 p 2 v') (fun g hg => h.vp hg)
 · exact ownsRow_only ho (only_set w1 p 2 v') (fun g hg => hvp g hg)
 · exact (hall.weak (fun j _ hj => .inr (.inr (.inr hj)))).trans (only_set w1 p 2 v') (fun j _ hj => .inl hj)
theorem Wk.putK {g c n : Nat} (h : Wk w B p (.slice (some ⟨g, 0, none⟩) n c) vv cv ks vs cs) (o : Nat) (u : Value) : Wk (w.setCell ⟨g, o, none⟩ u) B p (.slice (some ⟨g, 0, none⟩) n c) vv cv (ks.set o u) vs cs ∧ Only (wkB p (.slice (some ⟨g, 0, none⟩) n c) vv cv) w (w.setCell ⟨g, o, none⟩ u) := by
 have hl := h.k
 obtain ⟨a', c', e⟩ := own_slice hl
 simp only [Value.slice.injEq] at e
 obtain ⟨-, rfl, -⟩ := e
 have e : (ks.set o u).length = ks.length := List.length_set
 refine ⟨⟨ownsRow_only h.box (only_set w g o u) (fun q hq => ?_), by rw [e]; exact (World.ownsRow.stored hl o u).1, ownsRow_only h.v (only_set w g o u) (fun q hq => ?_), ownsRow_only h.c (only_set w g o u) (fun q hq => ?_), h.ne⟩, (only_set w g o u).weak (fun j _ hj => .inr (.inl (by rw [hj]; rfl)))⟩
 · rintro rfl; exact h.kp rfl (by simpa [Value.ownBlock] using hq.symm)
 · rintro rfl; exact h.ne q rfl hq
 · rintro rfl; exact h.kc rfl hq
theorem Wk.putV {g c n : Nat} (h : Wk w B p kv (.slice (some ⟨g, 0, none⟩) n c) cv ks vs cs) (o : Nat) (u : Value) : Wk (w.setCell ⟨g, o, none⟩ u) B p kv (.slice (some ⟨g, 0, none⟩) n c) cv ks (vs.set o u) cs ∧ Only (wkB p kv (.slice (some ⟨g, 0, none⟩) n c) cv) w (w.setCell ⟨g, o, none⟩ u) := by
 have hl := h.v
 obtain ⟨a', c', e⟩ := own_slice hl
 simp only [Value.slice.injEq] at e
 obtain ⟨-, rfl, -⟩ := e
 have e : (vs.set o u).length = vs.length := List.length_set
 refine ⟨⟨ownsRow_only h.box (only_set w g o u) (fun q hq => ?_), ownsRow_only h.k (only_set w g o u) (fun q hq => ?_), by rw [e]; exact (World.ownsRow.stored hl o u).1, ownsRow_only h.c (only_set w g o u) (fun q hq => ?_), h.ne⟩, (only_set w g o u).weak (fun j _ hj => .inr (.inr (.inl (by rw [hj]; rfl))))⟩
 · rintro rfl; exact h.vp rfl (by simpa [Value.ownBlock] using hq.symm)
 · rintro rfl; exact h.ne q hq rfl
 · rintro rfl; exact h.vc rfl hq
theorem Wk.putC {g c n : Nat} (h : Wk w B p kv vv (.slice (some ⟨g, 0, none⟩) n c) ks vs cs) (o : Nat) (u : Value) : Wk (w.setCell ⟨g, o, none⟩ u) B p kv vv (.slice (some ⟨g, 0, none⟩) n c) ks vs (cs.set o u) ∧ Only (wkB p kv vv (.slice (some ⟨g, 0, none⟩) n c)) w (w.setCell ⟨g, o, none⟩ u) := by
 have hl := h.c
 obtain ⟨a', c', e⟩ := own_slice hl
 simp only [Value.slice.injEq] at e
 obtain ⟨-, rfl, -⟩ := e
 have e : (cs.set o u).length = cs.length := List.length_set
 refine ⟨⟨ownsRow_only h.box (only_set w g o u) (fun q hq => ?_), ownsRow_only h.k (only_set w g o u) (fun q hq => ?_), ownsRow_only h.v (only_set w g o u) (fun q hq => ?_), by rw [e]; exact (World.ownsRow.stored hl o u).1, h.ne⟩, (only_set w g o u).weak (fun j _ hj => .inr (.inr (.inr (by rw [hj]; rfl))))⟩
 · rintro rfl; exact h.cp rfl (by simpa [Value.ownBlock] using hq.symm)
 · rintro rfl; exact h.kc hq rfl
 · rintro rfl; exact h.vc hq rfl
end
def cutT : (h : Nat) → BT h → PR (BT h)
 | 0, t => cut0 t
 | _ + 1, t => cutN t.1 t.2
theorem map_insAt {α β : Type} (f : α → β) (l : List α) (i : Nat) (x : α) : (insAt l i x).map f = insAt (l.map f) i (f x) := by
 simp [insAt, List.map_take, List.map_drop]
theorem Kids.set {h : Nat} {A : BT h → Nat → Prop} {ks : List (BT h)} {ps : List Nat} (k : Kids A ks ps) (i : Nat) {c : BT h} {q : Nat} (hc : A c q) : Kids A (ks.set i c) (ps.set i q) := by
 refine ⟨by rw [List.length_set, List.length_set]; exact k.1, fun j c' q' hj hq => ?_⟩
 rw [List.getElem?_set] at hj hq
 split at hj
 ·
  rename_i e
  subst e
  rw [if_pos rfl] at hq
  split at hj
  ·
   cases hj
   split at hq
   · cases hq; exact hc
   · cases hq
  · cases hj
 ·
  rename_i e
  rw [if_neg e] at hq
  exact k.2 j c' q' hj hq
theorem Kids.insAt {h : Nat} {A : BT h → Nat → Prop} {ks : List (BT h)} {ps : List Nat} (k : Kids A ks ps) {i : Nat} (hi : i ≤ ks.length) {c : BT h} {q : Nat} (hc : A c q) : Kids A (Proofs.Ytmafnjidhjabgaa.insAt ks i c) (Proofs.Ytmafnjidhjabgaa.insAt ps i q) := by
 have hl := k.1
 refine ⟨by rw [insAt_length hi, insAt_length (by omega), hl], fun j c' q' hj hq => ?_⟩
 unfold Proofs.Ytmafnjidhjabgaa.insAt at hj hq
 rcases Nat.lt_trichotomy j i with hlt | rfl | hgt
 ·
  rw [List.getElem?_append_left (by rw [List.length_take]; omega), List.getElem?_take, if_pos hlt] at hj hq
  exact k.2 j c' q' hj hq
 ·
  rw [List.getElem?_append_right (by rw [List.length_take]; omega), List.length_take, Nat.min_eq_left (by omega), Nat.sub_self] at hj hq
  cases hj
  cases hq
  exact hc
 ·
  rw [List.getElem?_append_right (by rw [List.length_take]; omega), List.length_take, Nat.min_eq_left (by omega), show j - i = (j - i - 1) + 1 by omega, List.getElem?_cons_succ, List.getElem?_drop] at hj hq
  exact k.2 _ c' q' hj hq
theorem Kids.take {h : Nat} {A : BT h → Nat → Prop} {ks : List (BT h)} {ps : List Nat} (k : Kids A ks ps) (m : Nat) : Kids A (ks.take m) (ps.take m) := by
 refine ⟨by rw [List.length_take, List.length_take, k.1], fun j c' q' hj hq => ?_⟩
 rw [List.getElem?_take] at hj hq
 split at hj
 ·
  rw [if_pos (by assumption)] at hq
  exact k.2 j c' q' hj hq
 · cases hj
theorem Kids.drop {h : Nat} {A : BT h → Nat → Prop} {ks : List (BT h)} {ps : List Nat} (k : Kids A ks ps) (m : Nat) : Kids A (ks.drop m) (ps.drop m) := by
 refine ⟨by rw [List.length_drop, List.length_drop, k.1], fun j c' q' hj hq => ?_⟩
 rw [List.getElem?_drop] at hj hq
 exact k.2 _ c' q' hj hq
theorem Kids.append {h : Nat} {A : BT h → Nat → Prop} {ks ks' : List (BT h)} {ps ps' : List Nat} (k : Kids A ks ps) (k' : Kids A ks' ps') : Kids A (ks ++ ks') (ps ++ ps') := by
 have hl := k.1
 refine ⟨by rw [List.length_append, List.length_append, k.1, k'.1], fun j c' q' hj hq => ?_⟩
 rcases Nat.lt_or_ge j ks.length with hlt | hge
 ·
  rw [List.getElem?_append_left (by omega)] at hj hq
  exact k.2 j c' q' hj hq
 ·
  rw [List.getElem?_append_right (by omega)] at hj hq
  rw [hl] at hq
  exact k'.2 _ c' q' hj hq
theorem Kids.nil {h : Nat} {A : BT h → Nat → Prop} : Kids A [] [] := ⟨rfl, fun j c q hj _ => by simp at hj⟩
theorem Kids.cons {h : Nat} {A : BT h → Nat → Prop} {ks : List (BT h)} {ps : List Nat} {c : BT h} {q : Nat} (hc : A c q) (k : Kids A ks ps) : Kids A (c :: ks) (q :: ps) :=
 ⟨by simp [k.1], fun j c' q' hj hq => by
  cases j with
  | zero => simp at hj hq; subst hj hq; exact hc
  | succ j => simp at hj hq; exact k.2 j c' q' hj hq⟩
def withEs : (h : Nat) → BT h → List KV → BT h
 | 0, _, es => es
 | _ + 1, t, es => (es, t.2)
theorem withEs_es : ∀ {h : Nat} (t : BT h) (es : List KV), (withEs h t es).es = es
 | 0, _, _ => rfl
 | _ + 1, _, _ => rfl
theorem KidsOf.withEs {w : World} {F : Nat → Prop} : ∀ {h : Nat} {t : BT h} {ps : List Nat}, KidsOf w F h t ps → ∀ es, KidsOf w F h (Proofs.Ytmafnjidhjabgaa.withEs h t es) ps
 | 0, _, _, h, _ => h
 | _ + 1, _, _, h, _ => h
theorem put_hit (k v : Str) : ∀ {h : Nat} (t : BT h), hit t.es k = true → put h t k v = .one (withEs h t (t.es.set (pos t.es k) (k, v)))
 | 0, t, hh => if_pos hh
 | _ + 1, t, hh => if_pos hh
theorem put_leafE {k v : Str} {t : BT 0} (hh : hit t.es k = false) : put 0 t k v = cutT 0 (insAt t.es (pos t.es k) (k, v)) := if_neg (by rw [show hit t k = hit t.es k from rfl, hh]; simp)
theorem put_kid {k v : Str} {h : Nat} {t : BT (h + 1)} {c : BT h} (hh : hit t.1 k = false) (hc : t.2[pos t.1 k]? = some c) (h7 : t.1.length ≤ 7) : put (h + 1) t k v = (match put h c k v with
  | .one l => cutT (h + 1) (t.1, t.2.set (pos t.1 k) l)
  | .two l r e => cutT (h + 1) (insAt t.1 (pos t.1 k) e, insAt (t.2.set (pos t.1 k) l) (pos t.1 k + 1) r)) := by
 conv => lhs; unfold put
 rw [hh]
 simp only [hc]
 cases put h c k v with
 | one l => exact (if_pos h7).symm
 | two l r e => rfl
theorem keys_set {es : List KV} {i : Nat} {k v v0 : Str} (h : es[i]? = some (k, v0)) : (es.set i (k, v)).map (fun e => strV e.1) = es.map (fun e => strV e.1) := by
 rw [List.map_set]
 obtain ⟨hi, hx⟩ := List.getElem?_eq_some_iff.1 h
 have hl : i < (es.map fun e => strV e.1).length := by rw [List.length_map]; exact hi
 have : (es.map fun e => strV e.1)[i]'hl = strV k := by rw [List.getElem_map, hx]
 have e := @List.set_getElem_self _ (es.map fun e => strV e.1) i hl
 rw [this] at e
 exact e
theorem own_some {w : World} {B n c : Nat} {T : TypeId} {a : Option Addr} {cs : List Value} (h : w.ownsRow B T 1 (.slice a n c) n cs) (hn : 0 < n) : ∃ g, a = some ⟨g, 0, none⟩ ∧ n ≤ c ∧ c ≤ 9223372036854775807 ∧ g < w.heap.size ∧ (∀ i u, cs[i]? = some u → w.cell? ⟨g, i, none⟩ = some u) ∧ ∀ o, w.frozen? ⟨g, o, none⟩ = false := by
 obtain ⟨m, rfl⟩ : ∃ m, n = m + 1 := ⟨n - 1, by omega⟩
 obtain ⟨g, cap, e, h1, h2, h3, h4⟩ := own_succ h
 simp only [Value.slice.injEq, true_and] at e
 obtain ⟨rfl, rfl⟩ := e
 refine ⟨g, rfl, h3, h4, h2, fun i u hi => ?_, fun o => World.ownsRow.frozenAt h o⟩
 have := World.ownsRow.cells h rfl i u hi
 rwa [add_off, Nat.zero_add] at this
theorem lit_ne {w : World} {B sz n : Nat} {T : TypeId} {v : Value} {cs : List Value} (h : w.ownsRow B T sz v n cs) : ∀ j, v.ownBlock = some j → w.heap.size ≠ j := fun j hj => by
 have := (World.ownsRow.lt h j hj).2
 omega
theorem only_alloc (w : World) (o : Obj) : Only (fun _ => False) w (w.alloc o) := Only.of_below (below_alloc w o)
def tkT : (h : Nat) → BT h → BT h
 | 0, t => List.take (α := KV) 4 t
 | _ + 1, t => (t.1.take 4, t.2.take 5)
def drT : (h : Nat) → BT h → BT h
 | 0, t => List.drop (α := KV) 5 t
 | _ + 1, t => (t.1.drop 5, t.2.drop 5)
theorem cut0_le {es : List KV} (h : es.length ≤ 7) : cut0 es = .one es := if_pos h
theorem cut0_gt {es : List KV} (h : es.length = 8) : cut0 es = .two (es.take 4) (es.drop 5) (esD es 4) := by
 unfold cut0
 rw [if_neg (by omega), h]
theorem cutT_le : ∀ {h : Nat} {t : BT h}, t.es.length ≤ 7 → cutT h t = .one t
 | 0, t, hl => cut0_le hl
 | _ + 1, t, hl => if_pos hl
theorem cutT_gt : ∀ {h : Nat} {t : BT h}, t.es.length = 8 → cutT h t = .two (tkT h t) (drT h t) (esD t.es 4)
 | 0, t, hl => cut0_gt hl
 | h + 1, t, hl => by
  show cutN t.1 t.2 = _
  unfold cutN
  have hl' : t.1.length = 8 := hl
  rw [if_neg (by omega), hl']
  rfl
theorem Rd.own_drop {w : World} {base e n m g cap : Nat} {xs : List Value} (h : w.ownsRow base e 1 (.slice (some ⟨g, 0, none⟩) n cap) n xs) (hm : m ≤ n) : Rd w 1 (.slice (some ⟨g, m, none⟩) (n - m) (cap - m)) (n - m) (xs.drop m) := by
 have hl := h.1
 obtain ⟨a, cap', hv, -, h1, h2, -⟩ := Rd.of_own h
 simp only [Value.slice.injEq] at hv
 obtain ⟨-, -, rfl⟩ := hv
 refine ⟨_, cap - m, rfl, by rw [List.length_drop]; omega, by omega, by omega, .inr ⟨g, m, rfl, fun j u hj => ?_⟩⟩
 rw [List.getElem?_drop] at hj
 have := World.ownsRow.cells h rfl _ _ hj
 rwa [add_off, Nat.zero_add] at this
theorem Wk.new {w1 w2 : World} {B B1 : Nat} {kv vv : Value} {ks vs : List Value} (hk : w1.ownsRow B1 9 1 kv ks.length ks) (hB : B ≤ B1) (hb : Below w1.heap.size w1 w2) (hv : w2.ownsRow w1.heap.size 9 1 vv vs.length vs) (hB1 : B1 ≤ w1.heap.size) :
  Wk (w2.alloc (.cells #[kv, vv, .slice none 0 0, .int .i64 (-1)] 91)) B w2.heap.size kv vv (.slice none 0 0) ks vs [] := by
 have hs := hb.size
 refine Wk.make (ownsRow_mono (ownsRow_below hk hb (Nat.le_refl _)) hB) (ownsRow_mono hv (by omega)) (World.ownsRow_nil _ _ _ _) (fun j hj hj2 => ?_) (by omega)
 have h1 := (World.ownsRow.lt hk j hj).2
 have h2 := (World.ownsRow.lt hv j hj2).1
 omega
theorem Wk.kid {w z : World} {B p : Nat} {kv vv cv v' : Value} {ks vs cs xs : List Value} (h : Wk w B p kv vv cv ks vs cs) (hb : Below w.heap.size w z) (ho : z.ownsRow w.heap.size 63 1 v' xs.length xs) (hB : B ≤ w.heap.size) :
  Wk (z.setCell ⟨p, 2, none⟩ v') B p kv vv v' ks vs xs ∧ Only (fun j => j = p) w (z.setCell ⟨p, 2, none⟩ v') ∧ (∀ j, wkB p kv vv v' j → wkB p kv vv cv j ∨ w.heap.size ≤ j) := by
 refine ⟨(h.setC (w0 := w) (Only.refl _ w) (ownsRow_mono ho hB) (Only.of_below hb) (fun j hj => .inr (World.ownsRow.lt ho j hj).1)).1, (Only.of_below hb).trans (only_set z p 2 v') (fun _ _ h => h), fun j hj => ?_⟩
 unfold wkB at hj ⊢
 rcases hj with hj | hj | hj | hj
 · exact .inl (.inl hj)
 · exact .inl (.inr (.inl hj))
 · exact .inl (.inr (.inr (.inl hj)))
 · exact .inr (World.ownsRow.lt ho j hj).1
end Go.Proofs.Ytmafnjidhjabgaa
namespace Go.Proofs.Ytmafnjidhjabgaa
open Go.RowKit Go.Shelf
set_option linter.unusedVariables false
set_option linter.unusedSectionVars false
set_option linter.unusedSimpArgs false
set_option maxRecDepth 100000
variable [Inhabited Pgs]
section
variable {w : World} {B p : Nat} {kv vv cv : Value} {ks vs cs : List Value}
theorem Wk.keep {S : Nat → Prop} {w1 : World} (h : Wk w B p kv vv cv ks vs cs) (ho : Only S w w1) (hS : ¬ S p) : w1.cell? ⟨p, 0, none⟩ = some kv ∧ w1.cell? ⟨p, 1, none⟩ = some vv ∧ w1.cell? ⟨p, 2, none⟩ = some cv ∧ ∀ o, w1.frozen? ⟨p, o, none⟩ = false := by
 obtain ⟨c0, c1, c2, -, fz⟩ := h.cells
 exact ⟨ho.cell hS c0, ho.cell hS c1, ho.cell hS c2, fun o => (ho.frozen h.lt.2 hS).trans (fz o)⟩
structure InsK (w : World) (B p : Nat) (kv vv cv : Value) (ks vs cs : List Value) (v' : Value) (w' : World) : Prop where
 wk : Wk (w'.setCell ⟨p, 0, none⟩ v') B p v' vv cv ks vs cs
 only : Only (wkB p kv vv cv) w (w'.setCell ⟨p, 0, none⟩ v')
 c0 : w'.cell? ⟨p, 0, none⟩ = some kv
 fz : w'.frozen? ⟨p, 0, none⟩ = false
 new : ∀ j, wkB p v' vv cv j → wkB p kv vv cv j ∨ w.heap.size ≤ j
structure InsV (w : World) (B p : Nat) (kv vv cv : Value) (ks vs cs : List Value) (v' : Value) (w' : World) : Prop where
 wk : Wk (w'.setCell ⟨p, 1, none⟩ v') B p kv v' cv ks vs cs
 only : Only (wkB p kv vv cv) w (w'.setCell ⟨p, 1, none⟩ v')
 c0 : w'.cell? ⟨p, 1, none⟩ = some vv
 fz : w'.frozen? ⟨p, 1, none⟩ = false
 new : ∀ j, wkB p kv v' cv j → wkB p kv vv cv j ∨ w.heap.size ≤ j
structure InsC (w : World) (B p : Nat) (kv vv cv : Value) (ks vs cs : List Value) (v' : Value) (w' : World) : Prop where
 wk : Wk (w'.setCell ⟨p, 2, none⟩ v') B p kv vv v' ks vs cs
 only : Only (wkB p kv vv cv) w (w'.setCell ⟨p, 2, none⟩ v')
 c0 : w'.cell? ⟨p, 2, none⟩ = some cv
 fz : w'.frozen? ⟨p, 2, none⟩ = false
 new : ∀ j, wkB p kv vv v' j → wkB p kv vv cv j ∨ w.heap.size ≤ j
theorem Wk.insK (h : Wk w B p kv vv cv ks vs cs) (h1 : ∀ u ∈ ks, u.oneCell' = true) (hB : B ≤ w.heap.size) (n i : Nat) (hn : n = ks.length) (hi : i ≤ n) (hm : n ≤ 1000000) (x : Str) :
  Calls Try.prog 56 #[kv, .int .i64 i, .slice (some ⟨w.heap.size, 0, none⟩) 1 1] (w.alloc (.cells #[.string (bstr x)] 9)) fun e w' => ∃ a c, e = .returned (.slice a (n + 1) c) ∧ InsK w B p kv vv cv (insAt ks i (strV x)) vs cs (.slice a (n + 1) c) w' := by
 subst hn
 have hb := below_alloc w (.cells #[.string (bstr x)] 9)
 refine (insS_calls B ks.length w.heap.size i kv ks (strV x) _ (ownsRow_below h.k hb (Nat.le_refl _)) h1 (LitS.of w (strV x) rfl) (lit_ne h.k) hm hi (by have := hb.size; omega)).mono ?_
 rintro e w' ⟨v', rfl, ho, hon, hf⟩
 obtain ⟨a, c, rfl⟩ := own_slice ho
 have hl : (insAt ks i (strV x)).length = ks.length + 1 := insAt_length hi
 have hall : Only (fun j => kv.ownBlock = some j) w w' := ((only_alloc w _).weak (fun _ _ h => h.elim)).trans hon (fun _ _ h => h)
 obtain ⟨c0, -, -, fz⟩ := h.keep hall (fun e => h.kp e rfl)
 obtain ⟨k1, k2⟩ := h.setK (only_alloc w _) (v' := .slice a (ks.length + 1) c) (xs := insAt ks i (strV x)) (by rw [hl]; exact ho) hon hf
 refine ⟨a, c, rfl, k1, k2, c0, fz 0, fun j hj => ?_⟩
 have hsz := hb.size
 have hfj := hf j
 unfold wkB at hj ⊢
 rcases hj with hj | hj | hj | hj
 · exact .inl (.inl hj)
 · exact (hfj hj).imp (fun e => .inr (.inl e)) (fun e => by omega)
 · exact .inl (.inr (.inr (.inl hj)))
 · exact .inl (.inr (.inr (.inr hj)))
theorem Wk.insV (h : Wk w B p kv vv cv ks vs cs) (h1 : ∀ u ∈ vs, u.oneCell' = true) (hB : B ≤ w.heap.size) (n i : Nat) (hn : n = vs.length) (hi : i ≤ n) (hm : n ≤ 1000000) (x : Str) :
  Calls Try.prog 56 #[vv, .int .i64 i, .slice (some ⟨w.heap.size, 0, none⟩) 1 1] (w.alloc (.cells #[.string (bstr x)] 9)) fun e w' => ∃ a c, e = .returned (.slice a (n + 1) c) ∧ InsV w B p kv vv cv ks (insAt vs i (strV x)) cs (.slice a (n + 1) c) w' := by
 subst hn
 have hb := below_alloc w (.cells #[.string (bstr x)] 9)
 refine (insS_calls B vs.length w.heap.size i vv vs (strV x) _ (ownsRow_below h.v hb (Nat.le_refl _)) h1 (LitS.of w (strV x) rfl) (lit_ne h.v) hm hi (by have := hb.size; omega)).mono ?_
 rintro e w' ⟨v', rfl, ho, hon, hf⟩
 obtain ⟨a, c, rfl⟩ := own_slice ho
 have hl : (insAt vs i (strV x)).length = vs.length + 1 := insAt_length hi
 have hall : Only (fun j => vv.ownBlock = some j) w w' := ((only_alloc w _).weak (fun _ _ h => h.elim)).trans hon (fun _ _ h => h)
 obtain ⟨-, c0, -, fz⟩ := h.keep hall (fun e => h.vp e rfl)
 obtain ⟨k1, k2⟩ := h.setV (only_alloc w _) (v' := .slice a (vs.length + 1) c) (xs := insAt vs i (strV x)) (by rw [hl]; exact ho) hon hf
 refine ⟨a, c, rfl, k1, k2, c0, fz 1, fun j hj => ?_⟩
 have hsz := hb.size
 have hfj := hf j
 unfold wkB at hj ⊢
 rcases hj with hj | hj | hj | hj
 · exact .inl (.inl hj)
 · exact .inl (.inr (.inl hj))
 · exact (hfj hj).imp (fun e => .inr (.inr (.inl e))) (fun e => by omega)
 · exact .inl (.inr (.inr (.inr hj)))
theorem Wk.insC (h : Wk w B p kv vv cv ks vs cs) (h1 : ∀ u ∈ cs, u.oneCell' = true) (hB : B ≤ w.heap.size) (n i : Nat) (hn : n = cs.length) (hi : i ≤ n) (hm : n ≤ 1000000) (x : Nat) :
  Calls Try.prog 57 #[cv, .int .i64 i, .slice (some ⟨w.heap.size, 0, none⟩) 1 1] (w.alloc (.cells #[.pointer (some ⟨x, 0, none⟩)] 63)) fun e w' => ∃ a c, e = .returned (.slice a (n + 1) c) ∧ InsC w B p kv vv cv ks vs (insAt cs i (ptrV x)) (.slice a (n + 1) c) w' := by
 subst hn
 have hb := below_alloc w (.cells #[.pointer (some ⟨x, 0, none⟩)] 63)
 refine (insP_calls B cs.length w.heap.size i cv cs (ptrV x) _ (ownsRow_below h.c hb (Nat.le_refl _)) h1 (LitP.of w (ptrV x) rfl) (lit_ne h.c) hm hi (by have := hb.size; omega)).mono ?_
 rintro e w' ⟨v', rfl, ho, hon, hf⟩
 obtain ⟨a, c, rfl⟩ := own_slice ho
 have hl : (insAt cs i (ptrV x)).length = cs.length + 1 := insAt_length hi
 have hall : Only (fun j => cv.ownBlock = some j) w w' := ((only_alloc w _).weak (fun _ _ h => h.elim)).trans hon (fun _ _ h => h)
 obtain ⟨-, -, c0, fz⟩ := h.keep hall (fun e => h.cp e rfl)
 obtain ⟨k1, k2⟩ := h.setC (only_alloc w _) (v' := .slice a (cs.length + 1) c) (xs := insAt cs i (ptrV x)) (by rw [hl]; exact ho) hon hf
 refine ⟨a, c, rfl, k1, k2, c0, fz 2, fun j hj => ?_⟩
 have hsz := hb.size
 have hfj := hf j
 unfold wkB at hj ⊢
 rcases hj with hj | hj | hj | hj
 · exact .inl (.inl hj)
 · exact .inl (.inr (.inl hj))
 · exact .inl (.inr (.inr (.inl hj)))
 · exact (hfj hj).imp (fun e => .inr (.inr (.inr e))) (fun e => by omega)
def Ft (B C D : Nat) (p : Nat) (kv vv cv : Value) : Prop := ∀ j, wkB p kv vv cv j → (B ≤ j ∧ j < C) ∨ D ≤ j
theorem Ft.step {B C D p p' : Nat} {w : World} {kv vv cv kv' vv' cv' : Value} (h : Ft B C D p kv vv cv) (hn : ∀ j, wkB p' kv' vv' cv' j → wkB p kv vv cv j ∨ w.heap.size ≤ j) (hD : D ≤ w.heap.size) : Ft B C D p' kv' vv' cv' := fun j hj => by
 rcases hn j hj with h1 | h1
 · exact h j h1
 · exact .inr (by omega)
def FtS (B C D : Nat) (j : Nat) : Prop := (B ≤ j ∧ j < C) ∨ D ≤ j
theorem Ft.only {B C D p : Nat} {w w' : World} {kv vv cv : Value} (h : Ft B C D p kv vv cv) (ho : Only (wkB p kv vv cv) w w') : Only (FtS B C D) w w' := ho.weak (fun j _ hj => h j hj)
theorem ft_trans {B C D : Nat} {a b c : World} (h : Only (FtS B C D) a b) (k : Only (FtS B C D) b c) : Only (FtS B C D) a c := h.trans k (fun _ _ h => h)
theorem Wk.ft {C : Nat} (h : Wk w B p kv vv cv ks vs cs) (hC : w.heap.size ≤ C) (D : Nat) : Ft B C D p kv vv cv := fun j hj => .inl ⟨(h.foot hj).1, Nat.lt_of_lt_of_le (h.foot hj).2 hC⟩
theorem ft_fr {B C D : Nat} {a b : World} {F : Nat → Prop} (h : Only (FtS B C D) a b) (hF : ∀ k, F k → k < a.heap.size → ¬ FtS B C D k) : Fr F a b := Fr.of_only h hF
theorem kids_mid {B C D h : Nat} {F : Nat → Prop} {w2 wx : World} {ks : List (BT h)} {ps : List Nat} (hF : ∀ j, F j → j < B) (hBC : B ≤ C) (hCD : C ≤ D) (hk : Kids (TreeAt w2 F h) ks ps) (ho : Only (FtS B C D) w2 wx) : Kids (TreeAt wx (fun j => F j ∨ B ≤ j) h) ks ps :=
 (hk.fr (ft_fr ho (fun k hk _ hS => by
  have := hF k hk
  rcases hS with hS | hS <;> omega))).mono (fun k hk => .inl hk)
theorem tree_mid {B C D h : Nat} {F : Nat → Prop} {w2 wx : World} {l : BT h} {q : Nat} (hF : ∀ j, F j → j < B) (hBC : B ≤ C) (hCD : C ≤ D) (hD : w2.heap.size ≤ D) (ht : TreeAt w2 (fun j => F j ∨ C ≤ j) h l q) (ho : Only (FtS B C D) w2 wx) : TreeAt wx (fun j => F j ∨ B ≤ j) h l q :=
 (ht.fr (ft_fr ho (fun k hk hl hS => by
  rcases hk with hk | hk
  ·
   have := hF k hk
   rcases hS with hS | hS <;> omega
  · rcases hS with hS | hS <;> omega))).mono (fun k hk => hk.imp id (fun h => by omega))
end
end Go.Proofs.Ytmafnjidhjabgaa
namespace Go.Proofs.Ytmafnjidhjabgaa
open Go.RowKit Go.Shelf
set_option linter.unusedVariables false
set_option linter.unusedSectionVars false
set_option linter.unusedSimpArgs false
set_option maxRecDepth 100000
variable [Inhabited Pgs]
def NPutOut (w' : World) (G : Nat → Prop) (h : Nat) : PR (BT h) → Ending → Prop
 | .one t, e => ∃ q, e = .returned (.tuple #[ptrV q, .pointer none, .string ⟨#[]⟩, .string ⟨#[]⟩]) ∧ TreeAt w' G h t q
 | .two l r x, e => ∃ q1 q2, e = .returned (.tuple #[ptrV q1, ptrV q2, .string (bstr x.1), .string (bstr x.2)]) ∧ TreeAt w' G h l q1 ∧ TreeAt w' G h r q2
def PutPost (w : World) (F : Nat → Prop) (h : Nat) (R : PR (BT h)) (e : Ending) (w' : World) : Prop := NPutOut w' (fun j => F j ∨ w.heap.size ≤ j) h R e ∧ Below w.heap.size w w'
def NPutSpec (k v : Str) (h : Nat) : Prop := ∀ (lo : Nat) (t : BT h) (F : Nat → Prop) (p : Nat) (w : World), (∀ j, F j → j < w.heap.size) → TreeAt w F h t p → BT.Ok h lo t → Srt (flat h t) → Calls Try.prog 31 #[ptrV p, .string (bstr k), .string (bstr v)] w fun e w' => PutPost w F h (put h t k v) e w'
def PutMid (w : World) (F : Nat → Prop) (h : Nat) (R : PR (BT h)) (q : Nat) (wx : World) : Prop :=
 ∃ (t' : BT h) (kv vv cv : Value) (ps : List Nat), R = cutT h t' ∧ t'.es.length ≤ 8 ∧ ps.length ≤ 9 ∧ (h = 0 → ps = []) ∧ (0 < h → ps.length = t'.es.length + 1) ∧ Wk wx w.heap.size q kv vv cv (t'.es.map fun e => strV e.1) (t'.es.map fun e => strV e.2) (ps.map ptrV) ∧ KidsOf wx (fun j => F j ∨ w.heap.size ≤ j) h t' ps ∧ Below w.heap.size w wx
set_option maxHeartbeats 4000000 in
theorem put_hit_calls (k v : Str) (h : Nat) (lo : Nat) (t : BT h) (F : Nat → Prop) (p : Nat) (w : World) (hF : ∀ j, F j → j < w.heap.size) (ht : TreeAt w F h t p) (ho : BT.Ok h lo t) (hs : Srt (flat h t)) (hh : hit t.es k = true) : Calls Try.prog 31 #[ptrV p, .string (bstr k), .string (bstr v)] w fun e w' => PutPost w F h (put h t k v) e w' := by
 obtain ⟨kv, vv, cv, ps, hn, hks⟩ := ht.top
 have hlen := hks.len ho
 have hes := ho.es
 have HO := Lib.hid ho
 have HS := Lib.hid hs
 have HKS := Lib.hid hks
 have HOWN := Lib.hid (own_calls F p kv vv cv t.es ps w hn (by omega) (by omega))
 have HSP := Lib.hid (Sp.of_srt (k := k) (es_srt ho hs))
 have HF := Lib.hid hF
 have HHT := Lib.hid hh
 have hle : t.es.length ≤ 7 := hes.2
 obtain ⟨R, hR⟩ : ∃ R, R = put h t k v := ⟨_, rfl⟩
 rw [← hR]
 have HR := Lib.hid hR
 clear hh ht ho hs hks hn hes hF hR
 unfold ptrV
 go_enter Try.func31, Try.ntmps31
 go_upto_block 0 with (first
  | (
   go_at_call 54; refine HOWN.out.mono ?_; rintro e w1 ⟨q, kv1, vv1, cv1, rfl, hwk, hb1⟩; obtain ⟨-, c0, c1, c2, fz⟩ := And.intro trivial (And.intro hwk.cells.1 (And.intro hwk.cells.2.1 (And.intro hwk.cells.2.2.1 hwk.cells.2.2.2.2)))
   obtain ⟨ka, kc, hkv⟩ := own_slice hwk.k; obtain ⟨va, vc, hvv⟩ := own_slice hwk.v; obtain ⟨ca, cc, hcv⟩ := own_slice hwk.c; rw [List.length_map] at hkv hvv hcv; subst hkv hvv hcv; have HW := Lib.hid hwk; have HB1 := Lib.hid hb1; clear hwk hb1; unfold ptrV)
  | (go_at_call 55; refine (bs_calls _ t.es _ _ (by have := Rd.of_own HW.out.k; rw [List.length_map] at this; exact this) HSP.out (by omega)).mono ?_; rintro e w2 ⟨rfl, hw2⟩; obtain rfl : w1 = w2 := hw2.symm))
 have hh := HHT.out
 obtain ⟨v0, hl, hgt⟩ := hit_yes hh
 have HH := Lib.hid hgt
 have HR1 := Lib.hid (HR.out.trans (put_hit k v t hh))
 obtain ⟨g, rfl, g1, g2, g3, g4, g5⟩ := own_some (by have := HW.out.v; rw [List.length_map] at this; exact this) (show 0 < t.es.length by omega)
 have hcell := g4 _ _ (vals_at hl)
 have hfr := g5 (pos t.es k)
 have HP := Lib.hid (HW.out.putV (pos t.es k) (strV v))
 clear hgt g4 g5
 rw [hh]
 generalize hP : pos t.es k = P at *
 go_wp2_with fail
 refine bodyPost_ret (v := .tuple #[ptrV q, .pointer none, .string ⟨#[]⟩, .string ⟨#[]⟩]) (by simp [results, Try.results31, go_sem]; rfl) rfl ?_
 rw [HR1.out]
 have hwk := HP.out.1
 have hbx : Below w.heap.size w (w1.setCell ⟨g, P, none⟩ (strV v)) := HB1.out.trans (HP.out.2.below HB1.out.size (fun j hj hS => by have := (HW.out.foot hS).1; omega))
 refine ⟨⟨q, rfl, TreeAt.mk (kv := .slice ka t.es.length kc) (vv := .slice (some ⟨g, 0, none⟩) t.es.length vc) (cv := .slice ca ps.length cc) (ps := ps) ?_ ?_⟩, hbx⟩
 ·
  rw [withEs_es]
  refine Wk.nd (B := w.heap.size) ?_ (fun j hj => .inr (HW.out.foot hj).1)
  rw [keys_set HH.out, List.map_set]
  exact hwk
 · exact ((HKS.out.withEs _).fr (Fr.of_below hbx)).mono (fun k hk => .inl hk)
set_option maxHeartbeats 4000000 in
theorem put_miss_calls (k v : Str) (h : Nat) (ih : ∀ h', h = h' + 1 → NPutSpec k v h') (lo : Nat) (t : BT h) (F : Nat → Prop) (p : Nat) (w : World) (hF : ∀ j, F j → j < w.heap.size) (ht : TreeAt w F h t p) (ho : BT.Ok h lo t) (hs : Srt (flat h t)) (hh : hit t.es k = false) : Calls Try.prog 31 #[ptrV p, .string (bstr k), .string (bstr v)] w fun e w' => PutPost w F h (put h t k v) e w' := by
 obtain ⟨kv, vv, cv, ps, hn, hks⟩ := ht.top
 have hlen := hks.len ho
 have hes := ho.es
 have HO := Lib.hid ho
 have HS := Lib.hid hs
 have HKS := Lib.hid hks
 have HOWN := Lib.hid (own_calls F p kv vv cv t.es ps w hn (by omega) (by omega))
 have HSP := Lib.hid (Sp.of_srt (k := k) (es_srt ho hs))
 have HF := Lib.hid hF
 have HHT := Lib.hid hh
 have HIH := Lib.hid ih
 have hle : t.es.length ≤ 7 := hes.2
 obtain ⟨R, hR⟩ : ∃ R, R = put h t k v := ⟨_, rfl⟩
 rw [← hR]
 have HR := Lib.hid hR
 clear hh ht ho hs hks hn hes hF ih hR
 unfold ptrV
 go_enter Try.func31, Try.ntmps31
 go_upto_block 0 with (first
  | (
    go_at_call 54; refine HOWN.out.mono ?_; rintro e w1 ⟨q, kv1, vv1, cv1, rfl, hwk, hb1⟩; obtain ⟨-, c0, c1, c2, fz⟩ := And.intro trivial (And.intro hwk.cells.1 (And.intro hwk.cells.2.1 (And.intro hwk.cells.2.2.1 hwk.cells.2.2.2.2)))
    obtain ⟨ka, kc, hkv⟩ := own_slice hwk.k; obtain ⟨va, vc, hvv⟩ := own_slice hwk.v; obtain ⟨ca, cc, hcv⟩ := own_slice hwk.c; rw [List.length_map] at hkv hvv hcv; subst hkv hvv hcv; have HW := Lib.hid hwk; have HB1 := Lib.hid hb1; clear hwk hb1; unfold ptrV)
  | (go_at_call 55; refine (bs_calls _ t.es _ _ (by have := Rd.of_own HW.out.k; rw [List.length_map] at this; exact this) HSP.out (by omega)).mono ?_; rintro e w2 ⟨rfl, hw2⟩; obtain rfl : w1 = w2 := hw2.symm))
 rw [HHT.out]
 have hpl := pos_le t.es k
 obtain ⟨P, hP⟩ : ∃ P, P = pos t.es k := ⟨_, rfl⟩
 rw [← hP] at hpl ⊢
 have HPP := Lib.hid hP
 clear hP
 go_cut [6, 7, 8, 9, 12, 13, 14, 15] from 30 to 126 (fun _ _ _ _ _ _ _ _ wx => PutMid w F h R q wx)
 case first =>
  cases h with
  | zero =>
   obtain rfl : ps = [] := HKS.out
   have HR1 := Lib.hid (HR.out.trans (put_leafE HHT.out))
   rw [← HPP.out] at HR1
   simp only [List.length_nil] at c2
   have HIK := Lib.hid (HW.out.insK (keys_one _) HB1.out.size t.es.length P (by simp) hpl (by omega) k)
   go_upto_region 14 with (go_at_call 56; refine HIK.out.mono ?_; rintro e w3 ⟨a3, cc3, rfl, hik⟩; have hc0 := hik.c0; have hfz0 := hik.fz; have HI := Lib.hid hik; clear hik)
   have hwk4 := HI.out.wk
   have hb4 : Below w.heap.size w (w3.setCell ⟨q, 0, none⟩ (.slice a3 (t.es.length + 1) cc3)) := HB1.out.trans (HI.out.only.below HB1.out.size (fun j hj hS => by have := (HW.out.foot hS).1; omega))
   generalize (w3.setCell ⟨q, 0, none⟩ (.slice a3 (t.es.length + 1) cc3)) = W4 at *
   have HW4 := Lib.hid hwk4
   have HB4 := Lib.hid hb4
   have d1 := hwk4.cells.2.1
   clear hwk4 hb4 hc0 hfz0 c0 c1 c2 fz HI
   have HIV := Lib.hid (HW4.out.insV (vals_one _) HB4.out.size t.es.length P (by simp) hpl (by omega) v)
   go_wp2_with (go_at_call 56; refine HIV.out.mono ?_; rintro e w5 ⟨a5, cc5, rfl, hik⟩; have hc0 := hik.c0; have hfz0 := hik.fz; have HI := Lib.hid hik; clear hik)
   have hwk6 := HI.out.wk
   have hb6 : Below w.heap.size w (w5.setCell ⟨q, 1, none⟩ (.slice a5 (t.es.length + 1) cc5)) := HB4.out.trans (HI.out.only.below HB4.out.size (fun j hj hS => by have := (HW4.out.foot hS).1; omega))
   go_meet
   have hle2 : (insAt t.es P (k, v)).length = t.es.length + 1 := insAt_length hpl
   have e1 := map_insAt (fun e : KV => strV e.1) t.es P (k, v)
   have e2 := map_insAt (fun e : KV => strV e.2) t.es P (k, v)
   exact ⟨insAt t.es P (k, v), .slice a3 (t.es.length + 1) cc3, .slice a5 (t.es.length + 1) cc5, .slice ca 0 cc, [], HR1.out, by show (insAt t.es P (k, v)).length ≤ 8; omega, by simp, fun _ => rfl, fun h => by omega, by show Wk _ _ _ _ _ _ ((insAt t.es P (k, v)).map _) ((insAt t.es P (k, v)).map _) _; rw [e1, e2]; exact hwk6, rfl, hb6⟩
  | succ h =>
   obtain ⟨C, Q, hC, hQ, htk, hok, hsk, hkl⟩ := kid_step HKS.out HO.out HS.out k
   have hkl2 : t.2.length = t.es.length + 1 := HO.out.2.2.1
   have hih := HIH.out h rfl 3 C F Q w1 (fun j hj => Nat.lt_of_lt_of_le (HF.out j hj) HB1.out.size) (htk.fr (Fr.of_below HB1.out)) hok hsk
   have hrr := HR.out.trans (put_kid (v := v) (show hit t.1 k = false from HHT.out) hC hle)
   rw [show pos t.1 k = P from HPP.out.symm] at hrr
   rw [← HPP.out] at hC hQ
   obtain ⟨cg, rfl, g1, g2, g3, g4, g5⟩ := own_some (by have := HW.out.c; rw [List.length_map] at this; exact this) (show 0 < ps.length by omega)
   have hcell := g4 _ _ (ptrs_get hQ)
   have hfr := g5 P
   have hpq : P < ps.length := by omega
   have hne : ((ps.length : Int) == 0) = false := by rw [beq_eq_false_iff_ne]; omega
   have HKL := Lib.hid hkl
   have HKL2 := Lib.hid hkl2
   have hl8 := hlen.1
   clear hC hQ htk hok hsk g4 g5 hkl hkl2 hlen
   cases hq : put h C k v with
   | one l =>
     rw [hq] at hrr hih
     have HRR := Lib.hid hrr
     have HI2 := Lib.hid hih
     clear hrr hih hq
     go_wp2_with (go_at_call 31; refine HI2.out.mono ?_; rintro e w2 ⟨⟨ql, rfl, htl⟩, hb2⟩; have hc0 := cell_later hb2 c0; have hc2 := cell_later hb2 c2; have hcl2 := cell_later hb2 hcell; have hfr2 := frozen_later hb2 hcell hfr; have HTL := Lib.hid htl; have HB2 := Lib.hid hb2; clear htl hb2; unfold ptrV)
     obtain ⟨hw3, ho3⟩ := (HW.out.below HB2.out).putC P (ptrV ql)
     have hft := Ft.only (HW.out.ft (Nat.le_refl _) w2.heap.size) ho3
     have hks3 := kids_mid HF.out HB1.out.size HB2.out.size (Kids.fr (Fr.of_below HB2.out) (Kids.fr (Fr.of_below HB1.out) HKS.out)) hft
     have htl3 := tree_mid HF.out HB1.out.size HB2.out.size (Nat.le_refl _) HTL.out hft
     have hbx : Below w.heap.size w (w2.setCell ⟨cg, P, none⟩ (ptrV ql)) := (HB1.out.trans (HB2.out.mono HB1.out.size)).trans (ho3.below (Nat.le_trans HB1.out.size HB2.out.size) (fun j hj hS => by have := (HW.out.foot hS).1; omega))
     go_meet
     have hl2 := HKL2.out
     refine ⟨(t.1, t.2.set P l), .slice ka t.es.length kc, .slice va t.es.length vc, .slice (some ⟨cg, 0, none⟩) ps.length cc, ps.set P ql, HRR.out, by show t.es.length ≤ 8; omega, by rw [List.length_set]; omega, fun h => by omega, fun _ => by rw [List.length_set]; exact HKL.out, ?_, hks3.set P htl3, hbx⟩
     rw [List.map_set]
     exact hw3
   | two l r x =>
     obtain ⟨xk, xv⟩ := x
     rw [hq] at hrr hih
     have HRR := Lib.hid hrr
     have HI2 := Lib.hid hih
     clear hrr hih hq
     go_upto_region 6 with (go_at_call 31; refine HI2.out.mono ?_; rintro e w2 ⟨⟨ql, qr, rfl, htl, htr⟩, hb2⟩; have hc0 := cell_later hb2 c0; have hc2 := cell_later hb2 c2; have hcl2 := cell_later hb2 hcell; have hfr2 := frozen_later hb2 hcell hfr; have HTL := Lib.hid (And.intro htl htr); have HB2 := Lib.hid hb2; clear htl htr hb2; unfold ptrV)
     obtain ⟨hw3, ho3⟩ := (HW.out.below HB2.out).putC P (ptrV ql)
     have hft := HW.out.ft (Nat.le_refl _) w2.heap.size
     have HFS := Lib.hid (hft.only ho3)
     have hsz3 : w2.heap.size ≤ (w2.setCell ⟨cg, P, none⟩ (ptrV ql)).heap.size := ho3.size
     rw [← List.map_set] at hw3
     unfold ptrV at hsz3 HFS
     rw [show (w2.setCell ⟨cg, P, none⟩ (ptrV ql)) = w2.setCell ⟨cg, P, none⟩ (.pointer (some ⟨ql, 0, none⟩)) from rfl] at hw3
     generalize w2.setCell ⟨cg, P, none⟩ (.pointer (some ⟨ql, 0, none⟩)) = W3 at *
     obtain ⟨d0, d1, d2, -, dz⟩ := hw3.cells
     have HW3 := Lib.hid hw3
     have HFT := Lib.hid hft
     have HSZ3 := Lib.hid hsz3
     have hBW3 : w.heap.size ≤ W3.heap.size := Nat.le_trans (Nat.le_trans HB1.out.size HB2.out.size) hsz3
     clear hw3 hft hsz3 ho3 hc0 hc2 hcl2 hfr2 c0 c1 c2 fz hcell hfr dz
     have HIK := Lib.hid (HW3.out.insK (keys_one _) hBW3 t.es.length P (by simp) hpl (by omega) xk)
     go_upto_region 7 with (go_at_call 56; refine HIK.out.mono ?_; rintro e w4 ⟨a4, cc4, rfl, hik⟩; have hc0 := hik.c0; have hfz0 := hik.fz; have HI := Lib.hid hik; clear hik)
     have hwk4 := HI.out.wk
     have HFS4 := Lib.hid (ft_trans HFS.out (HFT.out.only HI.out.only))
     have HFT4 := Lib.hid (HFT.out.step HI.out.new HSZ3.out)
     have hsz4 : w2.heap.size ≤ (w4.setCell ⟨q, 0, none⟩ (.slice a4 (t.es.length + 1) cc4)).heap.size := HFS4.out.size
     generalize (w4.setCell ⟨q, 0, none⟩ (.slice a4 (t.es.length + 1) cc4)) = W4 at *
     obtain ⟨-, e1, e2, -, -⟩ := hwk4.cells
     have HW4 := Lib.hid hwk4
     have HSZ4 := Lib.hid hsz4
     have hBW4 : w.heap.size ≤ W4.heap.size := Nat.le_trans (Nat.le_trans HB1.out.size HB2.out.size) hsz4
     clear hwk4 hsz4 hc0 hfz0 d0 d1 d2 HI HFS HFT
     have HIV := Lib.hid (HW4.out.insV (vals_one _) hBW4 t.es.length P (by simp) hpl (by omega) xv)
     go_upto_region 8 with (go_at_call 56; refine HIV.out.mono ?_; rintro e w5 ⟨a5, cc5, rfl, hik⟩; have hc0 := hik.c0; have hfz0 := hik.fz; have HI := Lib.hid hik; clear hik)
     have hwk5 := HI.out.wk
     have HFS5 := Lib.hid (ft_trans HFS4.out (HFT4.out.only HI.out.only))
     have HFT5 := Lib.hid (HFT4.out.step HI.out.new HSZ4.out)
     have hsz5 : w2.heap.size ≤ (w5.setCell ⟨q, 1, none⟩ (.slice a5 (t.es.length + 1) cc5)).heap.size := HFS5.out.size
     generalize (w5.setCell ⟨q, 1, none⟩ (.slice a5 (t.es.length + 1) cc5)) = W5 at *
     obtain ⟨-, -, f2, -, -⟩ := hwk5.cells
     have HW5 := Lib.hid hwk5
     have HSZ5 := Lib.hid hsz5
     have hBW5 : w.heap.size ≤ W5.heap.size := Nat.le_trans (Nat.le_trans HB1.out.size HB2.out.size) hsz5
     clear hwk5 hsz5 hc0 hfz0 e1 e2 HI HFS4 HFT4
     have HIC := Lib.hid (HW5.out.insC (ptrs_one _) hBW5 ps.length (P + 1) (by simp) (by omega) (by omega) qr)
     rw [show ((P + 1 : Nat) : Int) = (P : Int) + 1 from by omega] at HIC
     go_wp2_with (go_at_call 57; (with_reducible refine HIC.out.mono ?_); rintro e w6 ⟨a6, cc6, rfl, hik⟩; have hc0 := hik.c0; have hfz0 := hik.fz; have HI := Lib.hid hik; clear hik)
     have hwk6 := HI.out.wk
     have hfs6 := ft_trans HFS5.out (HFT5.out.only HI.out.only)
     go_meet
     have hks3 := kids_mid HF.out HB1.out.size HB2.out.size (Kids.fr (Fr.of_below HB2.out) (Kids.fr (Fr.of_below HB1.out) HKS.out)) hfs6
     have htl3 := tree_mid HF.out HB1.out.size HB2.out.size (Nat.le_refl _) HTL.out.1 hfs6
     have htr3 := tree_mid HF.out HB1.out.size HB2.out.size (Nat.le_refl _) HTL.out.2 hfs6
     have hb1s := HB1.out.size
     have hb2s := HB2.out.size
     have hbx : Below w.heap.size w (w6.setCell ⟨q, 2, none⟩ (.slice a6 (ps.length + 1) cc6)) := (HB1.out.trans (HB2.out.mono HB1.out.size)).trans (hfs6.below (Nat.le_trans hb1s hb2s) (fun j hj hS => by rcases hS with hS | hS <;> omega))
     have hl2 := HKL2.out
     have hl3 := HKL.out
     have hie : (insAt t.es P (xk, xv)).length = t.es.length + 1 := insAt_length hpl
     have hip : (insAt (ps.set P ql) (P + 1) qr).length = ps.length + 1 := by rw [insAt_length (by rw [List.length_set]; omega), List.length_set]
     refine ⟨(insAt t.1 P (xk, xv), insAt (t.2.set P l) (P + 1) r), .slice a4 (t.es.length + 1) cc4, .slice a5 (t.es.length + 1) cc5, .slice a6 (ps.length + 1) cc6, insAt (ps.set P ql) (P + 1) qr, HRR.out, by show (insAt t.es P (xk, xv)).length ≤ 8; omega, by omega, fun h => by omega, fun _ => by rw [hip]; show _ = (insAt t.es P (xk, xv)).length + 1; omega, ?_, (hks3.set P htl3).insAt (by rw [List.length_set]; omega) htr3, hbx⟩
     have e1 := map_insAt (fun e : KV => strV e.1) t.es P (xk, xv)
     have e2 := map_insAt (fun e : KV => strV e.2) t.es P (xk, xv)
     have e3 := map_insAt ptrV (ps.set P ql) (P + 1) qr
     show Wk _ _ _ _ _ _ ((insAt t.es P (xk, xv)).map _) ((insAt t.es P (xk, xv)).map _) _
     rw [e1, e2, e3]
     exact hwk6
 case rest =>
  clear HO HS HKS HOWN HSP HIH HR HW HB1 HHT HPP c0 c1 c2 fz hlen hle hpl
  obtain ⟨t', kv, vv, cv, ps', hR, hl8, hp9, hz, hnz, hwk, hks, hb⟩ := hcut
  have HKS := Lib.hid hks
  have HB := Lib.hid hb
  obtain ⟨c0, c1, c2, -, fz⟩ := hwk.cells
  obtain ⟨ka, kc, hkv⟩ := own_slice hwk.k
  obtain ⟨va, vc, hvv⟩ := own_slice hwk.v
  obtain ⟨ca, cc, hcv⟩ := own_slice hwk.c
  rw [List.length_map] at hkv hvv hcv
  subst hkv hvv hcv
  have HW := Lib.hid hwk
  clear hwk hks hb
  by_cases h7 : t'.es.length ≤ 7
  ·
   have HR := Lib.hid (hR.trans (cutT_le h7))
   clear hz hnz hR
   have hd : decide ((t'.es.length : Int) ≤ 7) = true := decide_eq_true (by omega)
   go_wp2_with fail
   refine bodyPost_ret (v := .tuple #[ptrV q, .pointer none, .string ⟨#[]⟩, .string ⟨#[]⟩]) (by simp [results, Try.results31, go_sem]; rfl) rfl ?_
   rw [HR.out]
   exact ⟨⟨q, rfl, TreeAt.mk (HW.out.nd (fun j hj => .inr (HW.out.foot hj).1)) HKS.out⟩, HB.out⟩
  ·
   have h8 : t'.es.length = 8 := by omega
   have HR := Lib.hid (hR.trans (cutT_gt h8))
   rw [h8] at c0 c1
   have hk8 := HW.out.k
   rw [List.length_map, h8] at hk8
   have hv8 := HW.out.v
   rw [List.length_map, h8] at hv8
   obtain ⟨kg, rfl, k1, k2, k3, k4, k5⟩ := own_some hk8 (by omega)
   obtain ⟨vg, rfl, v1, v2, v3, v4, v5⟩ := own_some hv8 (by omega)
   have hkc := k4 4 _ (keys_at (by omega))
   have hvc := v4 4 _ (vals_at (by omega))
   have hes4 := esD_at (es := t'.es) (i := 4) (by omega)
   rw [← hes4] at hkc hvc
   generalize hX : esD t'.es 4 = X at *
   obtain ⟨xk, xv⟩ := X
   simp only at hkc hvc
   have RK1 := Lib.hid (Rd.own_take hk8 (m := 4) (by omega))
   have RK2 := Lib.hid (Rd.own_drop hk8 (m := 5) (by omega))
   have RV1 := Lib.hid (Rd.own_take hv8 (m := 4) (by omega))
   have RV2 := Lib.hid (Rd.own_drop hv8 (m := 5) (by omega))
   have HH8 := Lib.hid h8
   have hkn : ¬ kc = 5 := by omega
   have hvn : ¬ vc = 5 := by omega
   have w5 : IntKind.i64.wrap 5 = 5 := by rw [IntKind.wrap_i64]; omega
   have ki4 : (4 : Int) ≤ (kc : Int) := by omega
   have vi4 : (4 : Int) ≤ (vc : Int) := by omega
   have ki5 : (5 : Int) ≤ (kc : Int) := by omega
   have vi5 : (5 : Int) ≤ (vc : Int) := by omega
   clear hk8 hv8 k4 k5 v4 v5 hes4 h8 h7 hR hX
   have hkl4 : ((t'.es.map fun e => strV e.1).take (4 * 1)).length = 4 := by rw [List.length_take, List.length_map, HH8.out]; rfl
   have hkl3 : ((t'.es.map fun e => strV e.1).drop 5).length = 3 := by rw [List.length_drop, List.length_map, HH8.out]
   have hvl4 : ((t'.es.map fun e => strV e.2).take (4 * 1)).length = 4 := by rw [List.length_take, List.length_map, HH8.out]; rfl
   have hvl3 : ((t'.es.map fun e => strV e.2).drop 5).length = 3 := by rw [List.length_drop, List.length_map, HH8.out]
   have HK4 := Lib.hid hkl4
   have HK3 := Lib.hid hkl3
   have HV4 := Lib.hid hvl4
   have HV3 := Lib.hid hvl3
   have k1o := fun u (hu : u ∈ (t'.es.map fun e => strV e.1).take (4 * 1)) => keys_one t'.es u (List.mem_of_mem_take hu)
   have k2o := fun u (hu : u ∈ (t'.es.map fun e => strV e.1).drop 5) => keys_one t'.es u (List.mem_of_mem_drop hu)
   have v1o := fun u (hu : u ∈ (t'.es.map fun e => strV e.2).take (4 * 1)) => vals_one t'.es u (List.mem_of_mem_take hu)
   have v2o := fun u (hu : u ∈ (t'.es.map fun e => strV e.2).drop 5) => vals_one t'.es u (List.mem_of_mem_drop hu)
   have K1O := Lib.hid k1o
   have K2O := Lib.hid k2o
   have V1O := Lib.hid v1o
   have V2O := Lib.hid v2o
   clear k1o k2o v1o v2o hkl4 hkl3 hvl4 hvl3
   go_upto_region 18 with fail
   refine region_m [(0, false), (1, false), (2, false), (3, false), (4, false), (5, false), (7, false), (8, false), (9, false), (10, false), (11, false), (12, false), (6, true), (13, true), (14, true), (15, false)] 16 (fun V => V.cell? ⟨q, 0, none⟩ = some (.slice (some ⟨kg, 0, none⟩) 8 kc) ∧ V.cell? ⟨q, 1, none⟩ = some (.slice (some ⟨vg, 0, none⟩) 8 vc) ∧ V.cell? ⟨q, 2, none⟩ = some (.slice ca ps'.length cc) ∧ V.cell? ⟨kg, 4, none⟩ = some (.string (bstr xk)) ∧ V.cell? ⟨vg, 4, none⟩ = some (.string (bstr xv))) (by kernel_rfl) (by kernel_rfl) ⟨c0, c1, c2, hkc, hvc⟩ ?_
   iterate 12
     refine m_take (v := ?_) rfl rfl ?_ ?_
     rotate_left
     ·
      intro W hW
      go_simp
      with_reducible rfl
     simp only [Act.put, List.setIfInBounds_toArray, List.set_cons_zero, List.set_cons_succ]
   refine m_loud rfl (fun K hK => ?_)
   have HK := Lib.hid hK
   clear hK
   go_simp
   refine (clS_calls _ _ _ _ (RK1.out.below (Below.refl wc.heap.size wc).drew (Nat.le_refl _)) K1O.out (by omega)).mono ?_
   rintro e x1 ⟨kk, rfl, ho1, hb1⟩
   have hb1 : Below wc.heap.size wc x1 := ((Below.refl wc.heap.size wc).drew).trans hb1
   obtain ⟨k1a, k1c, rfl⟩ := own_slice ho1
   have HO1 := Lib.hid (show x1.ownsRow wc.heap.size 9 1 (.slice k1a 4 k1c) 4 _ from ho1)
   refine HK.out _ _ ⟨cell_later hb1 c0, cell_later hb1 c1, cell_later hb1 c2, cell_later hb1 hkc, cell_later hb1 hvc⟩ ?_
   clear HK
   refine m_loud rfl (fun K hK => ?_)
   have HK := Lib.hid hK
   clear hK
   go_simp
   refine (clS_calls _ _ _ _ (RV1.out.below hb1 (Nat.le_refl _)) V1O.out (by omega)).mono ?_
   rintro e x2 ⟨vv', rfl, ho2, hb2⟩
   obtain ⟨v1a, v1c, rfl⟩ := own_slice ho2
   have HNW := Lib.hid (Wk.new (B := wc.heap.size) (by rw [HK4.out]; exact HO1.out) (Nat.le_refl _) hb2 (by rw [HV4.out]; exact ho2) hb1.size)
   have hb2' := below_go hb1 hb2
   clear ho1 ho2 hb1 hb2 HO1
   refine HK.out _ _ ⟨cell_later hb2' c0, cell_later hb2' c1, cell_later hb2' c2, cell_later hb2' hkc, cell_later hb2' hvc⟩ ?_
   clear HK
   refine m_loud rfl (fun K hK => ?_)
   have HK := Lib.hid hK
   clear hK
   go_simp
   refine (fresh_calls _ _ _ _ _ _ _ _ _ _).mono ?_
   rintro e x3 ⟨rfl, hx3⟩
   have hb3 : Below wc.heap.size wc x3 := by rw [hx3]; exact below_box hb2' _
   rw [← hx3] at HNW
   have hql : wc.heap.size ≤ x2.heap.size := hb2'.size
   generalize x2.heap.size = ql at *
   have d0 := cell_later hb3 c0
   have d1 := cell_later hb3 c1
   have d2 := cell_later hb3 c2
   have dk := cell_later hb3 hkc
   have dv := cell_later hb3 hvc
   have HL := Lib.hid HNW.out
   have HB3 := Lib.hid hb3
   refine HK.out _ _ ⟨d0, d1, d2, dk, dv⟩ ?_
   clear HK
   clear hx3 hb3 hb2' HNW
   unfold ptrV
   iterate 1
     first
     | (
       refine m_take (v := ?_) rfl rfl ?_ ?_
       rotate_left
       ·
         intro W hW
         go_simp
         with_reducible rfl
       simp only [Act.put, List.setIfInBounds_toArray, List.set_cons_zero, List.set_cons_succ])
     | (
       refine m_skip rfl rfl ?_
       simp only [Act.put, List.setIfInBounds_toArray, List.set_cons_zero, List.set_cons_succ])
   refine m_done ?_
   simp only [List.drop_succ_cons, List.drop_zero]
   go_upto_region 19 with fail
   simp only [NP]
   go_upto_region 19 with fail
   refine region_m [(0, false), (1, false), (2, false), (3, false), (4, false), (5, false), (6, false), (8, false), (9, false), (10, false), (11, false), (12, false), (13, false), (14, false), (7, true), (15, true), (16, true), (17, false)] 18 (fun V => V.cell? ⟨q, 0, none⟩ = some (.slice (some ⟨kg, 0, none⟩) 8 kc) ∧ V.cell? ⟨q, 1, none⟩ = some (.slice (some ⟨vg, 0, none⟩) 8 vc) ∧ V.cell? ⟨q, 2, none⟩ = some (.slice ca ps'.length cc) ∧ V.cell? ⟨kg, 4, none⟩ = some (.string (bstr xk)) ∧ V.cell? ⟨vg, 4, none⟩ = some (.string (bstr xv))) (by kernel_rfl) (by kernel_rfl) ⟨d0, d1, d2, dk, dv⟩ ?_
   iterate 14
     refine m_take (v := ?_) rfl rfl ?_ ?_
     rotate_left
     ·
      intro W hW
      go_simp
      with_reducible rfl
     simp only [Act.put, List.setIfInBounds_toArray, List.set_cons_zero, List.set_cons_succ]
   refine m_loud rfl (fun K hK => ?_)
   have HK := Lib.hid hK
   clear hK
   go_simp
   refine (clS_calls _ 3 _ _ (show Rd _ 1 (.slice (some ⟨kg, 5, none⟩) 3 (kc - 5)) 3 _ from RK2.out.below (HB3.out.drew) (Nat.le_refl _)) K2O.out (by omega)).mono ?_
   rintro e y1 ⟨kk, rfl, ho1, hb1⟩
   have hb1 : Below x3.heap.size x3 y1 := ((Below.refl x3.heap.size x3).drew).trans hb1
   obtain ⟨k2a, k2c, rfl⟩ := own_slice ho1
   have HO1 := Lib.hid (show y1.ownsRow x3.heap.size 9 1 (.slice k2a 3 k2c) 3 _ from ho1)
   refine HK.out _ _ ⟨cell_later hb1 d0, cell_later hb1 d1, cell_later hb1 d2, cell_later hb1 dk, cell_later hb1 dv⟩ ?_
   clear HK
   refine m_loud rfl (fun K hK => ?_)
   have HK := Lib.hid hK
   clear hK
   go_simp
   refine (clS_calls _ 3 _ _ (show Rd _ 1 (.slice (some ⟨vg, 5, none⟩) 3 (vc - 5)) 3 _ from RV2.out.below (below_go HB3.out hb1) (Nat.le_refl _)) V2O.out (by omega)).mono ?_
   rintro e y2 ⟨vv', rfl, ho2, hb2⟩
   obtain ⟨v2a, v2c, rfl⟩ := own_slice ho2
   have HNW := Lib.hid (Wk.new (B := x3.heap.size) (by rw [HK3.out]; exact HO1.out) (Nat.le_refl _) hb2 (by rw [HV3.out]; exact ho2) hb1.size)
   have hb2' := below_go hb1 hb2
   clear ho1 ho2 hb1 hb2 HO1
   refine HK.out _ _ ⟨cell_later hb2' d0, cell_later hb2' d1, cell_later hb2' d2, cell_later hb2' dk, cell_later hb2' dv⟩ ?_
   clear HK
   refine m_loud rfl (fun K hK => ?_)
   have HK := Lib.hid hK
   clear hK
   go_simp
   refine (fresh_calls _ _ _ _ _ _ _ _ _ _).mono ?_
   rintro e y3 ⟨rfl, hy3⟩
   have hb3 : Below x3.heap.size x3 y3 := by rw [hy3]; exact below_box hb2' _
   rw [← hy3] at HNW
   have hqr : x3.heap.size ≤ y2.heap.size := hb2'.size
   generalize y2.heap.size = qr at *
   have f0 := cell_later hb3 d0
   have f1 := cell_later hb3 d1
   have f2 := cell_later hb3 d2
   have fk := cell_later hb3 dk
   have fv := cell_later hb3 dv
   have HRN := Lib.hid HNW.out
   have HLN := Lib.hid (HL.out.below hb3)
   have HB4 := Lib.hid (below_go HB3.out hb3)
   have hqx : ql < x3.heap.size := HL.out.lt.2
   have HLF := Lib.hid (fun j (hj : wkB ql (.slice k1a 4 k1c) (.slice v1a 4 v1c) (.slice none 0 0) j) => (HL.out.foot hj).2)
   have hry : qr < y3.heap.size := HRN.out.lt.2
   refine HK.out _ _ ⟨f0, f1, f2, fk, fv⟩ ?_
   clear HK
   clear hy3 hb3 hb2' HNW HL d0 d1 d2 dk dv c0 c1 c2 hkc hvc
   unfold ptrV
   iterate 1
     first
     | (
       refine m_take (v := ?_) rfl rfl ?_ ?_
       rotate_left
       ·
         intro W hW
         go_simp
         with_reducible rfl
       simp only [Act.put, List.setIfInBounds_toArray, List.set_cons_zero, List.set_cons_succ])
     | (
       refine m_skip rfl rfl ?_
       simp only [Act.put, List.setIfInBounds_toArray, List.set_cons_zero, List.set_cons_succ])
   refine m_done ?_
   simp only [List.drop_succ_cons, List.drop_zero]
   cases h with
   | zero =>
     obtain rfl : ps' = [] := HKS.out
     simp only [List.length_nil] at f2
     go_upto_region 23 with fail
     simp only [NP]
     go_upto_region 23 with fail
     refine region_m [(0, false), (1, false), (2, false), (3, false), (4, false), (5, false), (6, false), (7, false), (8, false), (9, false), (10, false), (11, false), (12, false), (13, false), (14, false), (15, false), (16, false), (17, false), (18, false), (19, false)] 20 (fun V => V.cell? ⟨q, 0, none⟩ = some (.slice (some ⟨kg, 0, none⟩) 8 kc) ∧ V.cell? ⟨q, 1, none⟩ = some (.slice (some ⟨vg, 0, none⟩) 8 vc) ∧ V.cell? ⟨kg, 4, none⟩ = some (.string (bstr xk)) ∧ V.cell? ⟨vg, 4, none⟩ = some (.string (bstr xv))) (by kernel_rfl) (by kernel_rfl) ⟨f0, f1, fk, fv⟩ ?_
     iterate 20
      refine m_take (v := ?_) rfl rfl ?_ ?_
      rotate_left
      ·
        intro W hW
        go_simp
        with_reducible rfl
      simp only [Act.put, List.setIfInBounds_toArray, List.set_cons_zero, List.set_cons_succ]
     refine m_done ?_
     simp only [List.drop_succ_cons, List.drop_zero]
     go_wp2_with fail
     simp only [NP]
     go_wp2_with fail
     refine bodyPost_ret (v := .tuple #[ptrV ql, ptrV qr, .string (bstr xk), .string (bstr xv)]) (by simp [results, Try.results31, go_sem]; exact ⟨rfl, rfl⟩) rfl ?_
     rw [HR.out]
     have hwL := HLN.out
     have hwR := HRN.out
     rw [← List.map_take, ← List.map_take] at hwL
     rw [← List.map_drop, ← List.map_drop] at hwR
     have hbe := HB.out.trans (HB4.out.mono HB.out.size)
     have hge : ∀ j, wc.heap.size ≤ j → w.heap.size ≤ j := fun j hj => Nat.le_trans HB.out.size hj
     refine ⟨⟨ql, qr, rfl, TreeAt.mk (ps := []) (NdAt.fr (Wk.nd (es := t'.es.take 4) (ps := []) hwL (fun j hj => .inr (hge j (hwL.foot hj).1))) (Fr.of_below (Below.refl _ _).drew)) rfl, TreeAt.mk (ps := []) (NdAt.fr (Wk.nd (es := t'.es.drop 5) (ps := []) hwR (fun j hj => .inr (hge j (Nat.le_trans HB3.out.size (hwR.foot hj).1)))) (Fr.of_below (Below.refl _ _).drew)) rfl⟩, hbe.drew⟩
   | succ h =>
     have h9 : ps'.length = 9 := by have := hnz (by omega); have := HH8.out; omega
     have hc9 := HW.out.c
     rw [List.length_map, h9] at hc9
     rw [h9] at f2
     obtain ⟨cg, rfl, g1, g2, g3, g4, g5⟩ := own_some hc9 (by omega)
     have RC1 := Lib.hid (Rd.own_take hc9 (m := 5) (by omega))
     have RC2 := Lib.hid (Rd.own_drop hc9 (m := 5) (by omega))
     have c1o := fun u (hu : u ∈ (ps'.map ptrV).take (5 * 1)) => ptrs_one ps' u (List.mem_of_mem_take hu)
     have c2o := fun u (hu : u ∈ (ps'.map ptrV).drop 5) => ptrs_one ps' u (List.mem_of_mem_drop hu)
     have C1O := Lib.hid c1o
     have C2O := Lib.hid c2o
     have hcl5 : ((ps'.map ptrV).take (5 * 1)).length = 5 := by rw [List.length_take, List.length_map, h9]; rfl
     have hcl4 : ((ps'.map ptrV).drop 5).length = 4 := by rw [List.length_drop, List.length_map, h9]
     have HC5 := Lib.hid hcl5
     have HC4 := Lib.hid hcl4
     have hcn : ¬ cc = 5 := by omega
     have ci5 : (5 : Int) ≤ (cc : Int) := by omega
     obtain ⟨-, -, l2, -, lz⟩ := HLN.out.cells
     obtain ⟨-, -, r2, -, rz⟩ := HRN.out.cells
     have lz2 := lz 2
     have rz2 := rz 2
     clear c1o c2o hcl5 hcl4 hc9 g4 g5 hnz hz h9 lz rz hp9
     go_upto_region 22 with fail
     simp only [NP]
     go_upto_region 22 with (go_at_call 59; (with_reducible refine (clP_calls _ 5 _ _ (RC1.out.below HB4.out (Nat.le_refl _)) C1O.out (by omega)).mono ?_); rintro e z1 ⟨cl', rfl, ho1, hb1⟩; obtain ⟨cla, clc, rfl⟩ := own_slice ho1; have l2 := cell_later hb1 l2; have lz2 := (World.frozen?_of_block (a := ⟨ql, 2, none⟩) (hb1.block ql (by have := hqx; have := hry; omega))).trans lz2; have HO1 := Lib.hid ho1; have HZ1 := Lib.hid hb1; clear ho1 hb1)
     obtain ⟨hlw, hlo, hlb⟩ := HLN.out.kid HZ1.out (by rw [HC5.out]; exact HO1.out) HB4.out.size
     have hqw : q < wc.heap.size := HW.out.lt.2
     have hZs := hlo.size
     have hrw := HRN.out.only hlo (fun j hj e => by have := (HRN.out.foot hj).1; omega)
     have HBZ := Lib.hid (HB4.out.trans (hlo.below HB4.out.size (fun j hj e => by omega)))
     have f0 := hlo.cell (by omega) f0
     have f1 := hlo.cell (by omega) f1
     have f2 := hlo.cell (by omega) f2
     have fk := hlo.cell (by omega) fk
     have fv := hlo.cell (by omega) fv
     have r2 := hlo.cell (by omega) r2
     have rz2 := (hlo.frozen (b := qr) (o := 2) hry (by omega)).trans rz2
     have HLW := Lib.hid hlw
     have HRW := Lib.hid hrw
     have HLB := Lib.hid hlb
     have HZS := Lib.hid hZs
     clear hlw hrw hlo hlb l2 lz2 HO1 HZ1 hZs
     generalize z1.setCell ⟨ql, 2, none⟩ (.slice cla 5 clc) = Z at *
     go_upto_region 23 with (go_at_call 59; (with_reducible refine (clP_calls _ 4 _ _ (show Rd _ 1 (.slice (some ⟨cg, 5, none⟩) 4 (cc - 5)) 4 _ from RC2.out.below HBZ.out (Nat.le_refl _)) C2O.out (by omega)).mono ?_); rintro e z2 ⟨cr', rfl, ho1, hb1⟩; obtain ⟨cra, crc, rfl⟩ := own_slice ho1; have r2 := cell_later hb1 r2; have rz2 := (World.frozen?_of_block (a := ⟨qr, 2, none⟩) (hb1.block qr (by have := HZS.out; have := hry; omega))).trans rz2; have HO1 := Lib.hid ho1; have HZ1 := Lib.hid hb1; clear ho1 hb1)
     obtain ⟨hrw, hro, hrb⟩ := HRW.out.kid HZ1.out (by rw [HC4.out]; exact HO1.out) (by have := HZS.out; have := hry; omega)
     have hlw := HLW.out.only hro (fun j hj e => by
      subst e
      rcases HLB.out j hj with h1 | h1
      · have := HLF.out j h1; omega
      · omega)
     have HBE := Lib.hid (HBZ.out.trans (hro.below HBZ.out.size (fun j hj e => by omega)))
     have f0 := hro.cell (by omega) f0
     have f1 := hro.cell (by omega) f1
     have fk := hro.cell (by omega) fk
     have fv := hro.cell (by omega) fv
     have HLW := Lib.hid hlw
     have HRW := Lib.hid hrw
     clear hlw hrw hro hrb r2 rz2 HO1 HZ1
     generalize z2.setCell ⟨qr, 2, none⟩ (.slice cra 4 crc) = Y at *
     refine region_m [(0, false), (1, false), (2, false), (3, false), (4, false), (5, false), (6, false), (7, false), (8, false), (9, false), (10, false), (11, false), (12, false), (13, false), (14, false), (15, false), (16, false), (17, false), (18, false), (19, false)] 20 (fun V => V.cell? ⟨q, 0, none⟩ = some (.slice (some ⟨kg, 0, none⟩) 8 kc) ∧ V.cell? ⟨q, 1, none⟩ = some (.slice (some ⟨vg, 0, none⟩) 8 vc) ∧ V.cell? ⟨kg, 4, none⟩ = some (.string (bstr xk)) ∧ V.cell? ⟨vg, 4, none⟩ = some (.string (bstr xv))) (by kernel_rfl) (by kernel_rfl) ⟨f0, f1, fk, fv⟩ ?_
     iterate 20
      refine m_take (v := ?_) rfl rfl ?_ ?_
      rotate_left
      ·
        intro W hW
        go_simp
        with_reducible rfl
      simp only [Act.put, List.setIfInBounds_toArray, List.set_cons_zero, List.set_cons_succ]
     refine m_done ?_
     simp only [List.drop_succ_cons, List.drop_zero]
     go_wp2_with fail
     simp only [NP]
     go_wp2_with fail
     refine bodyPost_ret (v := .tuple #[ptrV ql, ptrV qr, .string (bstr xk), .string (bstr xv)]) (by simp [results, Try.results31, go_sem]; exact ⟨rfl, rfl⟩) rfl ?_
     rw [HR.out]
     have hwL := HLW.out
     have hwR := HRW.out
     rw [← List.map_take, ← List.map_take, ← List.map_take] at hwL
     rw [← List.map_drop, ← List.map_drop, ← List.map_drop] at hwR
     have hbe := HB.out.trans (HBE.out.mono HB.out.size)
     have hge : ∀ j, wc.heap.size ≤ j → w.heap.size ≤ j := fun j hj => Nat.le_trans HB.out.size hj
     have hkd : Kids (TreeAt Y (fun j => F j ∨ w.heap.size ≤ j) h) t'.2 ps' := Kids.fr (Fr.of_below HBE.out) HKS.out
     refine ⟨⟨ql, qr, rfl, TreeAt.mk (ps := ps'.take 5) (NdAt.fr (Wk.nd (es := t'.es.take 4) (ps := ps'.take 5) hwL (fun j hj => .inr (hge j (hwL.foot hj).1))) (Fr.of_below (Below.refl _ _).drew)) (Kids.fr (Fr.of_below (Below.refl _ _).drew) (hkd.take 5)), TreeAt.mk (ps := ps'.drop 5) (NdAt.fr (Wk.nd (es := t'.es.drop 5) (ps := ps'.drop 5) hwR (fun j hj => .inr (hge j (Nat.le_trans HB3.out.size (hwR.foot hj).1)))) (Fr.of_below (Below.refl _ _).drew)) (Kids.fr (Fr.of_below (Below.refl _ _).drew) (hkd.drop 5))⟩, hbe.drew⟩
theorem nput_calls (k v : Str) : ∀ h, NPutSpec k v h := by
 intro h
 induction h with
 | zero =>
  intro lo t F p w hF ht ho hs
  by_cases hh : hit t.es k = true
  · exact put_hit_calls k v 0 lo t F p w hF ht ho hs hh
  · exact put_miss_calls k v 0 (fun h' e => by omega) lo t F p w hF ht ho hs (by simpa using hh)
 | succ h ih =>
  intro lo t F p w hF ht ho hs
  by_cases hh : hit t.es k = true
  · exact put_hit_calls k v _ lo t F p w hF ht ho hs hh
  · exact put_miss_calls k v _ (fun h' e => by cases e; exact ih) lo t F p w hF ht ho hs (by simpa using hh)
end Go.Proofs.Ytmafnjidhjabgaa
namespace Go.Proofs.Ytmafnjidhjabgaa
open Go.RowKit Go.Shelf
set_option linter.unusedVariables false
set_option linter.unusedSectionVars false
set_option linter.unusedSimpArgs false
set_option maxRecDepth 100000
variable [Inhabited Pgs]
section
variable {w w' : World} {B p : Nat} {kv vv cv v' : Value} {ks vs cs : List Value}
theorem InsK.cell (h : InsK w B p kv vv cv ks vs cs v' w') {b o : Nat} {u : Value} (hb : ¬ wkB p kv vv cv b) (hc : w.cell? ⟨b, o, none⟩ = some u) : w'.cell? ⟨b, o, none⟩ = some u := by
 have := h.only.cell hb hc
 rwa [cell_set_block _ (fun e => hb (.inl e))] at this
theorem InsV.cell (h : InsV w B p kv vv cv ks vs cs v' w') {b o : Nat} {u : Value} (hb : ¬ wkB p kv vv cv b) (hc : w.cell? ⟨b, o, none⟩ = some u) : w'.cell? ⟨b, o, none⟩ = some u := by
 have := h.only.cell hb hc
 rwa [cell_set_block _ (fun e => hb (.inl e))] at this
theorem InsC.cell (h : InsC w B p kv vv cv ks vs cs v' w') {b o : Nat} {u : Value} (hb : ¬ wkB p kv vv cv b) (hc : w.cell? ⟨b, o, none⟩ = some u) : w'.cell? ⟨b, o, none⟩ = some u := by
 have := h.only.cell hb hc
 rwa [cell_set_block _ (fun e => hb (.inl e))] at this
end
theorem Row.take {w : World} {F : Nat → Prop} {T : TypeId} {a : Option Addr} {n c : Nat} {cs : List Value} (h : Row w F T (.slice a n c) n cs) {m : Nat} (hm : m ≤ n) : Row w F T (.slice a m c) m (cs.take m) := by
 obtain ⟨a', cap, e, h0, h1, h2, h3⟩ := h.rd
 simp only [Value.slice.injEq] at e
 obtain ⟨rfl, -, rfl⟩ := e
 refine ⟨⟨a, c, rfl, by rw [List.length_take]; omega, by omega, h2, ?_⟩, fun x k c' e => ?_⟩
 ·
  rcases h3 with h3 | ⟨b, o, rfl, hc⟩
  · exact .inl h3
  ·
   refine .inr ⟨b, o, rfl, fun j u hj => hc j u ?_⟩
   rw [List.getElem?_take] at hj
   split at hj
   · exact hj
   · cases hj
 ·
  simp only [Value.slice.injEq] at e
  exact h.ty x n c (by rw [e.1])
theorem Row.drop1 {w : World} {F : Nat → Prop} {T : TypeId} {b o n c : Nat} {cs : List Value} (h : Row w F T (.slice (some ⟨b, o, none⟩) (n + 1) c) (n + 1) cs) : Row w F T (.slice (some ⟨b, o + 1, none⟩) n (c - 1)) n (cs.drop 1) := by
 obtain ⟨a', cap, e, h0, h1, h2, h3⟩ := h.rd
 simp only [Value.slice.injEq] at e
 obtain ⟨rfl, -, rfl⟩ := e
 refine ⟨⟨some ⟨b, o + 1, none⟩, c - 1, rfl, by rw [List.length_drop]; omega, by omega, by omega, ?_⟩, fun x k c' e => ?_⟩
 ·
  rcases h3 with h3 | ⟨b', o', e, hc⟩
  · omega
  ·
   simp only [Option.some.injEq, Addr.mk.injEq, and_true] at e
   obtain ⟨rfl, rfl⟩ := e
   refine .inr ⟨b, o + 1, rfl, fun j u hj => ?_⟩
   rw [List.getElem?_drop] at hj
   have := hc _ _ hj
   rw [show o + 1 + j = o + (1 + j) by omega]
   exact this
 ·
  simp only [Value.slice.injEq, Option.some.injEq] at e
  have := h.ty _ _ _ rfl
  rw [← e.1]
  exact this
theorem Row.store {w : World} {F : Nat → Prop} {T : TypeId} {v : Value} {n : Nat} {cs : List Value} (h : Row w F T v n cs) (a : Addr) (u : Value) (hne : ¬ IsT T w a.block) : Row (w.setCell a u) F T v n cs := by
 have hblk : ∀ k, IsT T w k → (w.setCell a u).heap[k]? = w.heap[k]? := fun k hk => heap_setCell_other w a k u (by rintro rfl; exact hne hk)
 refine ⟨?_, fun x k c e => ?_⟩
 ·
  obtain ⟨x, cap, rfl, h0, h1, h2, h3⟩ := h.rd
  refine ⟨x, cap, rfl, h0, h1, h2, ?_⟩
  rcases h3 with h3 | ⟨b, o, rfl, hc⟩
  · exact .inl h3
  ·
   refine .inr ⟨b, o, rfl, fun j q hj => ?_⟩
   rw [← hc j q hj]
   exact World.cell?_of_block (a := ⟨b, o + j, none⟩) (hblk b (h.ty _ _ _ rfl).2)
 ·
  obtain ⟨h1, cs', x', h2⟩ := h.ty x k c e
  exact ⟨h1, cs', x', by rw [hblk _ ⟨cs', x', h2⟩]; exact h2⟩
theorem isT_set {w : World} {T : TypeId} {j : Nat} (h : IsT T w j) (a : Addr) (u : Value) : IsT T (w.setCell a u) j := by
 obtain ⟨cs, x, hc⟩ := h
 by_cases e : a.block = j
 ·
  subst e
  refine ⟨if a.spot.isSome = true then cs else cs.setIfInBounds a.off u, x, ?_⟩
  unfold World.setCell
  simp only [Array.getElem?_modify, hc, if_true]
  rfl
 · exact ⟨cs, x, by rw [heap_setCell_other w a j u (fun h => e h.symm)]; exact hc⟩
theorem NdAt.setKV {w : World} {F : Nat → Prop} {p : Nat} {kv vv cv kv' vv' : Value} {es es' : List KV} {ps : List Nat} (h : NdAt w F p kv vv cv es ps) (hk : Row w F 9 kv' es'.length (es'.map fun e => strV e.1)) (hv : Row w F 9 vv' es'.length (es'.map fun e => strV e.2)) :
  NdAt ((w.setCell ⟨p, 0, none⟩ kv').setCell ⟨p, 1, none⟩ vv') F p kv' vv' cv es' ps := by
 have hn : ∀ T, T ≠ 91 → ¬ IsT T w p := fun T hT hT2 => hT (hT2.eq h.ty)
 have hn1 : ∀ T, T ≠ 91 → ¬ IsT T (w.setCell ⟨p, 0, none⟩ kv') p := fun T hT hT2 => hT (hT2.eq (isT_set h.ty _ _))
 have c1 : (w.setCell ⟨p, 0, none⟩ kv').cell? ⟨p, 1, none⟩ = some vv := by rw [cell_set_off _ (by omega)]; exact h.c1
 refine ⟨h.inF, ?_, ?_, ?_, ?_, fun o => ?_, isT_set (isT_set h.ty _ _) _ _, ?_, ?_, ?_⟩
 · rw [cell_set_off _ (by omega)]; exact cell_set_same _ h.c0
 · exact cell_set_same _ c1
 · rw [cell_set_off _ (by omega), cell_set_off _ (by omega)]; exact h.c2
 ·
  obtain ⟨pg, hp, o⟩ := h.c3
  exact ⟨pg, by rw [cell_set_off _ (by omega), cell_set_off _ (by omega)]; exact hp, o⟩
 · rw [frozen_set, frozen_set]; exact h.fz o
 · exact (hk.store _ _ (hn _ (by decide))).store _ _ (hn1 _ (by decide))
 · exact (hv.store _ _ (hn _ (by decide))).store _ _ (hn1 _ (by decide))
 · exact (h.rc.store _ _ (hn _ (by decide))).store _ _ (hn1 _ (by decide))
theorem NdAt.setC {w : World} {F : Nat → Prop} {p : Nat} {kv vv cv cv' : Value} {es : List KV} {ps ps' : List Nat} (h : NdAt w F p kv vv cv es ps) (hc : Row w F 63 cv' ps'.length (ps'.map ptrV)) :
  NdAt (w.setCell ⟨p, 2, none⟩ cv') F p kv vv cv' es ps' := by
 have hn : ∀ T, T ≠ 91 → ¬ IsT T w p := fun T hT hT2 => hT (hT2.eq h.ty)
 refine ⟨h.inF, ?_, ?_, ?_, ?_, fun o => ?_, isT_set h.ty _ _, ?_, ?_, ?_⟩
 · rw [cell_set_off _ (by omega)]; exact h.c0
 · rw [cell_set_off _ (by omega)]; exact h.c1
 · exact cell_set_same _ h.c2
 ·
  obtain ⟨pg, hp, o⟩ := h.c3
  exact ⟨pg, by rw [cell_set_off _ (by omega)]; exact hp, o⟩
 · rw [frozen_set]; exact h.fz o
 · exact h.rk.store _ _ (hn _ (by decide))
 · exact h.rv.store _ _ (hn _ (by decide))
 · exact hc.store _ _ (hn _ (by decide))
theorem NdAt.only {S F : Nat → Prop} {w w' : World} {p : Nat} {kv vv cv : Value} {es : List KV} {ps : List Nat} (h : NdAt w F p kv vv cv es ps) (ho : Only S w w') (hS : ∀ k, F k → k < w.heap.size → ¬ S k) : NdAt w' F p kv vv cv es ps := h.fr (Fr.of_only ho hS)
structure Bo (w X : World) (s1 s2 B q : Nat) (kv vv cv : Value) (nks nvs ncs : List Value) (qa : Nat) (ka va ca : Value) (aks avs acs : List Value) (qb : Nat) (kb vb cb : Value) (bes : List KV) (bps : List Nat) : Prop where
 n : Wk X B q kv vv cv nks nvs ncs
 nl : ∀ j, wkB q kv vv cv j → j < w.heap.size
 a : Wk X w.heap.size qa ka va ca aks avs acs
 al : Ft w.heap.size s1 s2 qa ka va ca
 b : NdAt X (fun k => s1 ≤ k ∧ k < s2) qb kb vb cb bes bps
 o1 : w.heap.size ≤ s1
 o2 : s1 ≤ s2
 o3 : s2 ≤ X.heap.size
 only : Only (wkB q kv vv cv) w X
section
variable {w X X' : World} {s1 s2 B q qa qb : Nat} {kv vv cv ka va ca kb vb cb v' kb' vb' cb' : Value} {nks nvs ncs aks avs acs ks' : List Value} {bes bes' : List KV} {bps bps' : List Nat}
theorem Bo.drew (h : Bo w X s1 s2 B q kv vv cv nks nvs ncs qa ka va ca aks avs acs qb kb vb cb bes bps) : Bo w X.drew s1 s2 B q kv vv cv nks nvs ncs qa ka va ca aks avs acs qb kb vb cb bes bps :=
 ⟨h.n.below (Below.refl _ _).drew, h.nl, h.a.below (Below.refl _ _).drew, h.al, h.b.fr (Fr.of_below (Below.refl _ _).drew), h.o1, h.o2, h.o3, h.only.drew⟩
theorem Bo.below (h : Bo w X s1 s2 B q kv vv cv nks nvs ncs qa ka va ca aks avs acs qb kb vb cb bes bps) (hb : Below X.heap.size X X') : Bo w X' s1 s2 B q kv vv cv nks nvs ncs qa ka va ca aks avs acs qb kb vb cb bes bps :=
 ⟨h.n.below hb, h.nl, h.a.below hb, h.al, h.b.fr (Fr.of_below hb), h.o1, h.o2, Nat.le_trans h.o3 hb.size, h.only.trans (Only.of_below (S := fun _ => False) hb) (fun _ _ h => h.elim)⟩
theorem Bo.doA {ka' va' ca' : Value} {aks' avs' acs' : List Value} (h : Bo w X s1 s2 B q kv vv cv nks nvs ncs qa ka va ca aks avs acs qb kb vb cb bes bps) (hw : Wk X' w.heap.size qa ka' va' ca' aks' avs' acs') (ho : Only (wkB qa ka va ca) X X') (hn : ∀ j, wkB qa ka' va' ca' j → wkB qa ka va ca j ∨ X.heap.size ≤ j) :
  Bo w X' s1 s2 B q kv vv cv nks nvs ncs qa ka' va' ca' aks' avs' acs' qb kb vb cb bes bps := by
 have hge : ∀ j, wkB qa ka va ca j → w.heap.size ≤ j := fun j hj => (h.a.foot hj).1
 refine ⟨h.n.only ho (fun j hj hj2 => ?_), h.nl, hw, h.al.step hn h.o3, h.b.only ho (fun k hk _ hS => ?_), h.o1, h.o2, Nat.le_trans h.o3 ho.size, h.only.trans ho (fun j hj hS => ?_)⟩
 ·
  have h1 := h.nl j hj
  have h2 := hge j hj2
  omega
 · rcases h.al k hS with h1 | h1 <;> omega
 ·
  have h2 := hge j hS
  omega
theorem Bo.doN {nks' nvs' ncs' : List Value} (h : Bo w X s1 s2 B q kv vv cv nks nvs ncs qa ka va ca aks avs acs qb kb vb cb bes bps) (hw : Wk X' B q kv vv cv nks' nvs' ncs') (ho : Only (wkB q kv vv cv) X X') :
  Bo w X' s1 s2 B q kv vv cv nks' nvs' ncs' qa ka va ca aks avs acs qb kb vb cb bes bps := by
 have h1 := h.o1
 refine ⟨hw, h.nl, h.a.only ho (fun j hj hS => ?_), h.al, h.b.only ho (fun k hk _ hS => ?_), h.o1, h.o2, Nat.le_trans h.o3 ho.size, h.only.trans ho (fun j hj hS => hS)⟩
 ·
  have h1 := h.nl j hS
  have h2 := (h.a.foot hj).1
  omega
 ·
  have h1 := h.nl k hS
  omega
theorem Bo.doB (h : Bo w X s1 s2 B q kv vv cv nks nvs ncs qa ka va ca aks avs acs qb kb vb cb bes bps) (hb : NdAt X' (fun k => s1 ≤ k ∧ k < s2) qb kb' vb' cb' bes' bps') (ho : Only (fun j => j = qb) X X') :
  Bo w X' s1 s2 B q kv vv cv nks nvs ncs qa ka va ca aks avs acs qb kb' vb' cb' bes' bps' := by
 have h1 := h.o1
 have h2 : s1 ≤ qb ∧ qb < s2 := h.b.inF
 refine ⟨h.n.only ho (fun j hj hS => ?_), h.nl, h.a.only ho (fun j hj hS => ?_), h.al, hb, h.o1, h.o2, Nat.le_trans h.o3 ho.size, h.only.trans ho (fun j hj hS => ?_)⟩
 ·
  have h1 := h.nl j hj
  omega
 · rcases h.al j hj with h1 | h1 <;> omega
 · omega
theorem Bo.qaN (h : Bo w X s1 s2 B q kv vv cv nks nvs ncs qa ka va ca aks avs acs qb kb vb cb bes bps) {x : Nat} (hx : x < w.heap.size) : ¬ wkB qa ka va ca x := fun hj => by have := (h.a.foot hj).1; omega
theorem Bo.qaB (h : Bo w X s1 s2 B q kv vv cv nks nvs ncs qa ka va ca aks avs acs qb kb vb cb bes bps) {x : Nat} (h1 : s1 ≤ x) (h2 : x < s2) : ¬ wkB qa ka va ca x := fun hj => by
 have := h.al x hj
 have := h.o1
 omega
end
theorem giveR_es {h : Nat} (b a : BT h) (e : KV) : (giveR h b a e).1.es = b.es.take (b.es.length - 1) ∧ (giveR h b a e).2.1 = esD b.es (b.es.length - 1) ∧ (giveR h b a e).2.2.es = e :: a.es := by
 cases h <;> exact ⟨rfl, rfl, rfl⟩
theorem giveL_es {h : Nat} (a b : BT h) (e : KV) : (giveL h a b e).1.es = a.es ++ [e] ∧ (giveL h a b e).2.1 = esD b.es 0 ∧ (giveL h a b e).2.2.es = b.es.drop 1 := by
 cases h <;> exact ⟨rfl, rfl, rfl⟩
theorem insAt_zero {α : Type} (l : List α) (x : α) : insAt l 0 x = x :: l := by simp [insAt]
theorem drop_last {α : Type} {l : List α} {m : Nat} {x : α} (hl : l.length = m + 1) (hx : l[m]? = some x) : l.drop m = [x] := by
 obtain ⟨h1, h2⟩ := List.getElem?_eq_some_iff.1 hx
 rw [List.drop_eq_getElem_cons h1, h2, List.drop_eq_nil_of_le (by omega)]
theorem own_cell {w : World} {B n c g sz : Nat} {T : TypeId} {cs : List Value} (h : w.ownsRow B T sz (.slice (some ⟨g, 0, none⟩) n c) n cs) {i : Nat} {u : Value} (hi : cs[i]? = some u) : w.cell? ⟨g, i, none⟩ = some u ∧ w.frozen? ⟨g, i, none⟩ = false := by
 refine ⟨?_, World.ownsRow.frozenAt h i⟩
 have := World.ownsRow.cells h rfl i u hi
 rwa [add_off, Nat.zero_add] at this
section
variable {w w0 w' : World} {B p g cap : Nat} {kv vv cv x : Value} {ks vs cs : List Value}
theorem Wk.appK (h : Wk w B p kv vv cv ks vs cs) (n n1 : Nat) (hn : n = ks.length) (hn1 : n1 = n + 1) (o : Obj) (ho : w'.ownsRow B 9 1 (.slice (some ⟨g, 0, none⟩) (n + 1) cap) (n + 1) (ks ++ [x])) (hg : (w.alloc o).grownBy w' kv.ownBlock) (hnew : (∃ k c, kv = .slice (some ⟨g, 0, none⟩) k c ∧ cap = c) ∨ (w.alloc o).heap.size ≤ g) :
  InsK w B p kv vv cv (ks ++ [x]) vs cs (.slice (some ⟨g, 0, none⟩) n1 cap) w' := by
 subst hn1 hn
 have hf : ∀ j, (Value.slice (some ⟨g, 0, none⟩) (ks.length + 1) cap).ownBlock = some j → kv.ownBlock = some j ∨ (w.alloc o).heap.size ≤ j := fun j hj => by
  simp only [Value.ownBlock, Option.some.injEq] at hj
  subst hj
  rcases hnew with ⟨k, c, rfl, -⟩ | h1
  · exact .inl rfl
  · exact .inr h1
 have hon : Only (fun j => kv.ownBlock = some j) (w.alloc o) w' := Only.of_grown hg
 have hall : Only (fun j => kv.ownBlock = some j) w w' := ((only_alloc w o).weak (fun _ _ h => h.elim)).trans hon (fun _ _ h => h)
 obtain ⟨c0, -, -, fz⟩ := h.keep hall (fun e => h.kp e rfl)
 have hl : (ks ++ [x]).length = ks.length + 1 := by simp
 obtain ⟨k1, k2⟩ := h.setK (only_alloc w o) (v' := .slice (some ⟨g, 0, none⟩) (ks.length + 1) cap) (xs := ks ++ [x]) (by rw [hl]; exact ho) hon hf
 refine ⟨k1, k2, c0, fz 0, fun j hj => ?_⟩
 have hsz := (only_alloc w o).size
 have hfj := hf j
 unfold wkB at hj ⊢
 rcases hj with hj | hj | hj | hj
 · exact .inl (.inl hj)
 · exact (hfj hj).imp (fun e => .inr (.inl e)) (fun e => by omega)
 · exact .inl (.inr (.inr (.inl hj)))
 · exact .inl (.inr (.inr (.inr hj)))
theorem Wk.appV (h : Wk w B p kv vv cv ks vs cs) (n n1 : Nat) (hn : n = vs.length) (hn1 : n1 = n + 1) (o : Obj) (ho : w'.ownsRow B 9 1 (.slice (some ⟨g, 0, none⟩) (n + 1) cap) (n + 1) (vs ++ [x])) (hg : (w.alloc o).grownBy w' vv.ownBlock) (hnew : (∃ k c, vv = .slice (some ⟨g, 0, none⟩) k c ∧ cap = c) ∨ (w.alloc o).heap.size ≤ g) :
  InsV w B p kv vv cv ks (vs ++ [x]) cs (.slice (some ⟨g, 0, none⟩) n1 cap) w' := by
 subst hn1 hn
 have hf : ∀ j, (Value.slice (some ⟨g, 0, none⟩) (vs.length + 1) cap).ownBlock = some j → vv.ownBlock = some j ∨ (w.alloc o).heap.size ≤ j := fun j hj => by
  simp only [Value.ownBlock, Option.some.injEq] at hj
  subst hj
  rcases hnew with ⟨k, c, rfl, -⟩ | h1
  · exact .inl rfl
  · exact .inr h1
 have hon : Only (fun j => vv.ownBlock = some j) (w.alloc o) w' := Only.of_grown hg
 have hall : Only (fun j => vv.ownBlock = some j) w w' := ((only_alloc w o).weak (fun _ _ h => h.elim)).trans hon (fun _ _ h => h)
 obtain ⟨-, c0, -, fz⟩ := h.keep hall (fun e => h.vp e rfl)
 have hl : (vs ++ [x]).length = vs.length + 1 := by simp
 obtain ⟨k1, k2⟩ := h.setV (only_alloc w o) (v' := .slice (some ⟨g, 0, none⟩) (vs.length + 1) cap) (xs := vs ++ [x]) (by rw [hl]; exact ho) hon hf
 refine ⟨k1, k2, c0, fz 1, fun j hj => ?_⟩
 have hsz := (only_alloc w o).size
 have hfj := hf j
 unfold wkB at hj ⊢
 rcases hj with hj | hj | hj | hj
 · exact .inl (.inl hj)
 · exact .inl (.inr (.inl hj))
 · exact (hfj hj).imp (fun e => .inr (.inr (.inl e))) (fun e => by omega)
 · exact .inl (.inr (.inr (.inr hj)))
theorem Wk.appC (h : Wk w B p kv vv cv ks vs cs) (n n1 : Nat) (hn : n = cs.length) (hn1 : n1 = n + 1) (o : Obj) (ho : w'.ownsRow B 63 1 (.slice (some ⟨g, 0, none⟩) (n + 1) cap) (n + 1) (cs ++ [x])) (hg : (w.alloc o).grownBy w' cv.ownBlock) (hnew : (∃ k c, cv = .slice (some ⟨g, 0, none⟩) k c ∧ cap = c) ∨ (w.alloc o).heap.size ≤ g) :
  InsC w B p kv vv cv ks vs (cs ++ [x]) (.slice (some ⟨g, 0, none⟩) n1 cap) w' := by
 subst hn1 hn
 have hf : ∀ j, (Value.slice (some ⟨g, 0, none⟩) (cs.length + 1) cap).ownBlock = some j → cv.ownBlock = some j ∨ (w.alloc o).heap.size ≤ j := fun j hj => by
  simp only [Value.ownBlock, Option.some.injEq] at hj
  subst hj
  rcases hnew with ⟨k, c, rfl, -⟩ | h1
  · exact .inl rfl
  · exact .inr h1
 have hon : Only (fun j => cv.ownBlock = some j) (w.alloc o) w' := Only.of_grown hg
 have hall : Only (fun j => cv.ownBlock = some j) w w' := ((only_alloc w o).weak (fun _ _ h => h.elim)).trans hon (fun _ _ h => h)
 obtain ⟨-, -, c0, fz⟩ := h.keep hall (fun e => h.cp e rfl)
 have hl : (cs ++ [x]).length = cs.length + 1 := by simp
 obtain ⟨k1, k2⟩ := h.setC (only_alloc w o) (v' := .slice (some ⟨g, 0, none⟩) (cs.length + 1) cap) (xs := cs ++ [x]) (by rw [hl]; exact ho) hon hf
 refine ⟨k1, k2, c0, fz 2, fun j hj => ?_⟩
 have hsz := (only_alloc w o).size
 have hfj := hf j
 unfold wkB at hj ⊢
 rcases hj with hj | hj | hj | hj
 · exact .inl (.inl hj)
 · exact .inl (.inr (.inl hj))
 · exact .inl (.inr (.inr (.inl hj)))
 · exact (hfj hj).imp (fun e => .inr (.inr (.inr e))) (fun e => by omega)
end
end Go.Proofs.Ytmafnjidhjabgaa
namespace Go.Proofs.Ytmafnjidhjabgaa
open Go.RowKit Go.Shelf
set_option linter.unusedVariables false
set_option linter.unusedSectionVars false
set_option linter.unusedSimpArgs false
set_option maxRecDepth 100000
variable [Inhabited Pgs]
def BorrowOut (w : World) (B q : Nat) (kv vv cv : Value) (F : Nat → Prop) (h : Nat) (es' : List KV) (ps : List Nat) (i j : Nat) (a' b' : BT h) (e : Ending) (w' : World) : Prop :=
 (∃ v, e = .returned v) ∧ ∃ qa qb, Wk w' B q kv vv cv (es'.map fun e => strV e.1) (es'.map fun e => strV e.2) (((ps.set i qa).set j qb).map ptrV) ∧
  TreeAt w' (fun k => F k ∨ w.heap.size ≤ k) h a' qa ∧ TreeAt w' (fun k => F k ∨ w.heap.size ≤ k) h b' qb ∧ Only (wkB q kv vv cv) w w'
set_option maxHeartbeats 8000000 in
theorem borrowL_calls (B q pa pb i j : Nat) (kv vv cv : Value) (F : Nat → Prop) (h : Nat) (a b : BT h) (es : List KV) (ps : List Nat) (w : World) (hw : Wk w B q kv vv cv (es.map fun e => strV e.1) (es.map fun e => strV e.2) (ps.map ptrV)) (hF : ∀ k, F k → k < w.heap.size → ¬ wkB q kv vv cv k)
  (hij : j + 1 = i) (hpi : ps[i]? = some pa) (hpj : ps[j]? = some pb) (hie : i ≤ es.length) (he7 : es.length ≤ 7) (hps : ps.length = es.length + 1) (hta : TreeAt w F h a pa) (htb : TreeAt w F h b pb) (hoa : BT.Ok h 2 a) (ha2 : a.es.length = 2) (hob : BT.Ok h 4 b) :
  Calls Try.prog 85 #[ptrV q, .int .i64 i, .int .i64 j] w fun e w' => BorrowOut w B q kv vv cv F h (es.set j (giveR h b a (esD es j)).2.1) ps i j (giveR h b a (esD es j)).2.2 (giveR h b a (esD es j)).1 e w' := by
 have hpos : 0 < es.length := by omega
 have hposp : 0 < ps.length := by omega
 have HPS := Lib.hid hps
 have hpsl : ps.length ≤ 8 := by omega
 have hipl : i < ps.length := by omega
 have hjpl : j < ps.length := by omega
 have hjel : j < es.length := by omega
 have hji : j < i := by omega
 have HIJ := Lib.hid hij
 clear hps hij
 -- the two kids become copies of their own
 obtain ⟨kva, vva, cva, psa, hna, hka⟩ := hta.top
 obtain ⟨kvb, vvb, cvb, psb, hnb, hkb⟩ := htb.top
 have hlpa := hka.len hoa
 have hlpb := hkb.len hob
 have hesa := hoa.es
 have hesb := hob.es
 have HF := Lib.hid hF
 have HW := Lib.hid hw
 have HKA := Lib.hid hka
 have HKB := Lib.hid hkb
 have HOA := Lib.hid hoa
 have HOB := Lib.hid hob
 have HNB := Lib.hid hnb
 have HNL := Lib.hid (fun x (hx : wkB q kv vv cv x) => (hw.foot hx).2)
 have HOWNA := Lib.hid (own_calls F pa kva vva cva a.es psa w.drew (hna.fr (Fr.of_below (Below.refl _ _).drew)) (by omega) (by omega))
 have hbs := hw.cells
 obtain ⟨c0, c1, c2, -, fz⟩ := hbs
 obtain ⟨ka, kc, hkv⟩ := own_slice hw.k
 obtain ⟨va, vc, hvv⟩ := own_slice hw.v
 obtain ⟨ca, cc, hcv⟩ := own_slice hw.c
 rw [List.length_map] at hkv hvv hcv
 subst hkv hvv hcv
 have hk8 := hw.k
 have hv8 := hw.v
 have hc8 := hw.c
 rw [List.length_map] at hk8 hv8 hc8
 obtain ⟨kg, rfl, k1, k2, k3, k4, k5⟩ := own_some hk8 (by omega)
 obtain ⟨vg, rfl, v1, v2, v3, v4, v5⟩ := own_some hv8 (by omega)
 obtain ⟨cg, rfl, g1, g2, g3, g4, g5⟩ := own_some hc8 (by omega)
 have hci := g4 _ _ (ptrs_get hpi)
 have hcj := g4 _ _ (ptrs_get hpj)
 have hfi := g5 i
 have hfj := g5 j
 clear hta htb hna hnb hka hkb hoa hob hF hw hk8 hv8 hc8 g4 g5 hpi hpj
 unfold ptrV
 go_enter Try.func85, Try.ntmps85
 go_wp2_with fail
 refine region_m [(0, false), (1, false), (2, false), (3, false), (4, false), (5, false), (6, false), (8, false), (9, false), (10, false), (11, false), (12, false), (13, false), (14, false), (7, true), (15, true), (16, false), (17, false)] 18 (fun V => V.cell? ⟨q, 2, none⟩ = some (.slice (some ⟨cg, 0, none⟩) ps.length cc) ∧ V.cell? ⟨cg, i, none⟩ = some (.pointer (some ⟨pa, 0, none⟩)) ∧ V.cell? ⟨cg, j, none⟩ = some (.pointer (some ⟨pb, 0, none⟩))) (by kernel_rfl) (by kernel_rfl) ⟨c2, hci, hcj⟩ ?_
 iterate 14
  refine m_take (v := ?_) rfl rfl ?_ ?_
  rotate_left
  ·
   intro W hW
   go_simp
   with_reducible rfl
  simp only [Act.put, List.setIfInBounds_toArray, List.set_cons_zero, List.set_cons_succ]
 refine m_loud rfl (fun K hK => ?_)
 have HK := Lib.hid hK
 clear hK
 go_simp
 refine HOWNA.out.mono ?_
 rintro e w1 ⟨qa, kva1, vva1, cva1, rfl, hwa, hb1⟩
 have hb1 : Below w.heap.size w w1 := ((Below.refl w.heap.size w).drew).trans hb1
 have hwa : Wk w1 w.heap.size qa kva1 vva1 cva1 _ _ _ := hwa
 refine HK.out _ _ ⟨cell_later hb1 c2, cell_later hb1 hci, cell_later hb1 hcj⟩ ?_
 clear HK
 refine m_loud rfl (fun K hK => ?_)
 have HK := Lib.hid hK
 clear hK
 go_simp
 refine (own_calls F pb kvb vvb cvb b.es psb w1 (HNB.out.fr (Fr.of_below hb1)) (by omega) (by omega)).mono ?_
 rintro e w2 ⟨qb, kvb1, vvb1, cvb1, rfl, hwb, hb2⟩
 have hb2' := below_go hb1 hb2
 have HWA := Lib.hid (hwa.below hb2)
 have HAF := Lib.hid (fun x (hx : wkB qa kva1 vva1 cva1 x) => (hwa.foot hx).2)
 have HWB := Lib.hid hwb
 have HWN := Lib.hid (HW.out.below hb2')
 have HB2 := Lib.hid hb2'
 have HW1S := Lib.hid (And.intro hb1.size hb2.size)
 have hcj2 := cell_later hb2' hcj
 have hci2 := cell_later hb2' hci
 have hc22 := cell_later hb2' c2
 have hfi2 := frozen_later hb2' hci hfi
 have hfj2 := frozen_later hb2' hcj hfj
 refine HK.out _ _ ⟨cell_later hb2' c2, cell_later hb2' hci, cell_later hb2' hcj⟩ ?_
 clear HK
 clear hb1 hb2 hb2' hwa hwb c2 hci hcj hfi hfj c0 c1
 unfold ptrV
 iterate 2
  first
  | (
    refine m_take (v := ?_) rfl rfl ?_ ?_
    rotate_left
    ·
      intro W hW
      go_simp
      with_reducible rfl
    simp only [Act.put, List.setIfInBounds_toArray, List.set_cons_zero, List.set_cons_succ])
  | (
    refine m_skip rfl rfl ?_
    simp only [Act.put, List.setIfInBounds_toArray, List.set_cons_zero, List.set_cons_succ])
 refine m_done ?_
 simp only [List.drop_succ_cons, List.drop_zero]
 go_upto_region 1 with fail
 simp only [NP]
 go_upto_region 1 with fail
 have hqcg : q ≠ cg := by
  have h1 : cg ≠ q := HWN.out.cp (by rfl)
  exact fun e => h1 e.symm
 -- they stand among the node's kids
 have HP1 := Lib.hid (HWN.out.putC i (ptrV qa))
 have HP2 := Lib.hid (HP1.out.1.putC j (ptrV qb))
 refine region_m [(0, false), (1, false), (2, false), (3, false), (4, false), (5, false), (6, false), (7, false), (8, false), (9, false), (10, false), (11, false), (12, false), (13, true)] 14 (fun V => V.cell? ⟨q, 2, none⟩ = some (.slice (some ⟨cg, 0, none⟩) ps.length cc)) (by kernel_rfl) (by kernel_rfl) hc22 ?_
 iterate 13
  refine m_take (v := ?_) rfl rfl ?_ ?_
  rotate_left
  ·
   intro W hW
   go_simp
   with_reducible rfl
  simp only [Act.put, List.setIfInBounds_toArray, List.set_cons_zero, List.set_cons_succ]
 refine m_loud rfl (fun K hK => ?_)
 have HK := Lib.hid hK
 clear hK
 go_simp
 refine HK.out _ _ (by rw [World.cell?_drew, cell_set_block _ hqcg]; exact hc22) ?_
 clear HK
 refine m_done ?_
 simp only [List.drop_succ_cons, List.drop_zero]
 go_upto_region 2 with fail
 simp only [NP]
 go_upto_region 2 with fail
 have hbo := (Bo.mk (w := w) (X := w2) (s1 := w1.heap.size) (s2 := w2.heap.size) HWN.out HNL.out HWA.out (fun j hj => .inl ⟨(HWA.out.foot hj).1, HAF.out j hj⟩) (HWB.out.nd (fun j hj => HWB.out.foot hj)) HW1S.out.1 HW1S.out.2 (Nat.le_refl _) ((Only.of_below HB2.out))).doN HP1.out.1 HP1.out.2
 have hbo := (hbo.doN HP2.out.1 HP2.out.2).drew
 clear HP1 HP2 HWA HWB HWN HAF HB2 hci2 hcj2 hc22 hfi2 hfj2
 generalize hXX : ((w2.setCell ⟨cg, i, none⟩ (ptrV qa)).setCell ⟨cg, j, none⟩ (ptrV qb)).drew = X at hbo
 rw [show ((w2.setCell ⟨cg, i, none⟩ (.pointer (some ⟨qa, 0, none⟩))).setCell ⟨cg, j, none⟩ (.pointer (some ⟨qb, 0, none⟩))).drew = X from hXX]
 clear hXX
 generalize w1.heap.size = s1 at *
 generalize w2.heap.size = s2 at *
 have HE := Lib.hid (giveR_es b a (esD es j))
 have hjd := esD_at hjel
 obtain ⟨m, hm⟩ : ∃ m, b.es.length = m + 1 := ⟨b.es.length - 1, by omega⟩
 have hbm := esD_at (es := b.es) (i := m) (by omega)
 obtain ⟨kba, kbc, rfl, kb1, kb2⟩ := Rd.slice hbo.b.rk.rd
 obtain ⟨vba, vbc, rfl, vb1, vb2⟩ := Rd.slice hbo.b.rv.rd
 obtain ⟨kbb, kbo, rfl, -, -, hkbm⟩ := hbo.b.rk.at (keys_at (i := m) (by omega))
 obtain ⟨vbb, vbo, rfl, -, -, hvbm⟩ := hbo.b.rv.at (vals_at (i := m) (by omega))
 rw [← hbm] at hkbm hvbm
 obtain ⟨aka, akc, hak⟩ := own_slice hbo.a.k
 obtain ⟨ava, avc, hav⟩ := own_slice hbo.a.v
 obtain ⟨aca, acc, hac⟩ := own_slice hbo.a.c
 rw [List.length_map] at hak hav hac
 rw [ha2] at hak hav
 subst hak hav hac
 have hm7 : m + 1 ≤ 7 := by omega
 have HM := Lib.hid hm
 have HJD := Lib.hid hjd
 rw [hm] at kb1 vb1
 have hkbF := (hbo.b.rk.ty _ _ _ rfl).1
 have hvbF := (hbo.b.rv.ty _ _ _ rfl).1
 simp only at hkbF hvbF
 have hNK := hbo.n.k
 have hNV := hbo.n.v
 rw [List.length_map] at hNK hNV
 have hnk := own_cell hNK (keys_at hjel)
 have hnv := own_cell hNV (vals_at hjel)
 have hqlt : q < w.heap.size := hbo.nl q (.inl rfl)
 have hkglt : kg < w.heap.size := hbo.nl kg (.inr (.inl rfl))
 have hvglt : vg < w.heap.size := hbo.nl vg (.inr (.inr (.inl rfl)))
 have ho1 := hbo.o1
 have ho2 := hbo.o2
 have hqF : s1 ≤ qb ∧ qb < s2 := hbo.b.inF
 have hcA := hbo.a.cells
 have hcN := hbo.n.cells
 have bc0 := hbo.b.c0
 have bc1 := hbo.b.c1
 have bc2 := hbo.b.c2
 have bfz := hbo.b.fz
 rw [HM.out] at bc0 bc1
 have HBO := Lib.hid hbo
 obtain ⟨xk, hxk⟩ : ∃ x, x = (es[j]).1 := ⟨_, rfl⟩
 obtain ⟨xv, hxv⟩ : ∃ x, x = (es[j]).2 := ⟨_, rfl⟩
 obtain ⟨yk, hyk⟩ : ∃ x, x = (esD b.es m).1 := ⟨_, rfl⟩
 obtain ⟨yv, hyv⟩ : ∃ x, x = (esD b.es m).2 := ⟨_, rfl⟩
 rw [← hxk] at hnk
 rw [← hxv] at hnv
 rw [← hyk] at hkbm
 rw [← hyv] at hvbm
 have HXY := Lib.hid (And.intro (And.intro hxk hxv) (And.intro hyk hyv))
 obtain ⟨a0, a1, a2', -, az⟩ := hcA
 obtain ⟨n0, n1, n2, -, nz⟩ := hcN
 have n00 := n0
 clear hNK hNV hbo hxk hxv hyk hyv hjd hbm hm hesb hlpa hlpb hesa
 go_upto_region 4 with fail
 -- the entry of n comes into a
 have HK4 := Lib.hid (HBO.out.drew.a.insK (keys_one _) (Nat.le_trans (Nat.le_trans ho1 ho2) HBO.out.drew.o3) 2 0 (by rw [List.length_map, ha2]) (by omega) (by omega) xk)
 rw [show ((0 : Nat) : Int) = 0 from rfl] at HK4
 refine region_m [(0, false), (1, false), (2, false), (3, false), (4, false), (5, false), (6, false), (7, false), (8, false), (9, false), (10, false), (11, false), (12, true), (13, true)] 14 (fun V => V.cell? ⟨qa, 0, none⟩ = some (.slice aka 2 akc) ∧ V.cell? ⟨q, 0, none⟩ = some (.slice (some ⟨kg, 0, none⟩) es.length kc) ∧ V.cell? ⟨kg, j, none⟩ = some (.string (bstr xk))) (by kernel_rfl) (by kernel_rfl) ⟨a0, n0, hnk.1⟩ ?_
 iterate 12
  refine m_take (v := ?_) rfl rfl ?_ ?_
  rotate_left
  ·
   intro W hW
   go_simp
   with_reducible rfl
  simp only [Act.put, List.setIfInBounds_toArray, List.set_cons_zero, List.set_cons_succ]
 refine m_loud rfl (fun K hK => ?_)
 have HK := Lib.hid hK
 clear hK
 go_simp
 have hbl := below_alloc X.drew (.cells #[.string (bstr xk)] 9)
 refine HK.out _ _ ⟨cell_later hbl a0, cell_later hbl n0, cell_later hbl hnk.1⟩ ?_
 clear HK
 refine m_loud rfl (fun K hK => ?_)
 have HK := Lib.hid hK
 clear hK
 go_simp
 refine HK4.out.mono ?_
 rintro e w4 ⟨a4, cc4, rfl, hik⟩
 have hc0 := hik.c0
 have hfz := hik.fz
 have HI := Lib.hid hik
 refine HK.out _ _ ⟨hc0, hik.cell (HBO.out.drew.qaN hqlt) n0, hik.cell (HBO.out.drew.qaN hkglt) hnk.1⟩ ?_
 clear HK
 clear hik
 refine m_done ?_
 simp only [List.drop_succ_cons, List.drop_zero]
 go_upto_region 5 with fail
 simp only [NP]
 go_upto_region 5 with fail
 have hbo := HBO.out.drew.doA HI.out.wk HI.out.only HI.out.new
 have HKM := Lib.hid (And.intro (HI.out.only.cell (HBO.out.drew.qaB hkbF.1 hkbF.2) hkbm) (HI.out.only.cell (HBO.out.drew.qaB hvbF.1 hvbF.2) hvbm))
 have HNJ := Lib.hid (And.intro (HI.out.only.cell (HBO.out.drew.qaN hvglt) hnv.1) (HI.out.only.cell (HBO.out.drew.qaN hkglt) hnk.1))
 generalize w4.setCell ⟨qa, 0, none⟩ (.slice a4 (2 + 1) cc4) = X4 at *
 clear HI HK4 hc0 hfz n00
 clear a0 a1 a2' az n0 n1 n2 nz bc0 bc1 bc2 bfz HBO
 (try clear hnk); (try clear hnv); (try clear hkbm); (try clear hvbm)
 obtain ⟨a0, a1, a2', -, az⟩ := hbo.a.cells
 obtain ⟨n0, n1, n2, -, nz⟩ := hbo.n.cells
 have bc0 := hbo.b.c0
 have bc1 := hbo.b.c1
 have bc2 := hbo.b.c2
 have bfz := hbo.b.fz
 have HBO := Lib.hid hbo
 rw [HM.out] at bc0 bc1
 have hkbm := HKM.out.1
 have hvbm := HKM.out.2
 have hnv := HNJ.out.1
 have hnk := HNJ.out.2
 clear hbo hbl HKM HNJ
 have HK5 := Lib.hid (HBO.out.drew.a.insV (vals_one _) (Nat.le_trans (Nat.le_trans ho1 ho2) HBO.out.drew.o3) 2 0 (by rw [List.length_map, ha2]) (by omega) (by omega) xv)
 rw [show ((0 : Nat) : Int) = 0 from rfl] at HK5
 refine region_m [(0, false), (1, false), (2, false), (3, false), (4, false), (5, false), (6, false), (7, false), (8, false), (9, false), (10, false), (11, false), (12, true), (13, true)] 14 (fun V => V.cell? ⟨qa, 1, none⟩ = some (.slice ava 2 avc) ∧ V.cell? ⟨q, 1, none⟩ = some (.slice (some ⟨vg, 0, none⟩) es.length vc) ∧ V.cell? ⟨vg, j, none⟩ = some (.string (bstr xv))) (by kernel_rfl) (by kernel_rfl) ⟨a1, n1, hnv⟩ ?_
 iterate 12
  refine m_take (v := ?_) rfl rfl ?_ ?_
  rotate_left
  ·
   intro W hW
   go_simp
   with_reducible rfl
  simp only [Act.put, List.setIfInBounds_toArray, List.set_cons_zero, List.set_cons_succ]
 refine m_loud rfl (fun K hK => ?_)
 have HK := Lib.hid hK
 clear hK
 go_simp
 have hbl := below_alloc X4.drew (.cells #[.string (bstr xv)] 9)
 refine HK.out _ _ ⟨cell_later hbl a1, cell_later hbl n1, cell_later hbl hnv⟩ ?_
 clear HK
 refine m_loud rfl (fun K hK => ?_)
 have HK := Lib.hid hK
 clear hK
 go_simp
 refine HK5.out.mono ?_
 rintro e w5 ⟨a5, cc5, rfl, hik⟩
 have hc0 := hik.c0
 have hfz := hik.fz
 have HI := Lib.hid hik
 refine HK.out _ _ ⟨hc0, hik.cell (HBO.out.drew.qaN hqlt) n1, hik.cell (HBO.out.drew.qaN hvglt) hnv⟩ ?_
 clear HK
 clear hik
 refine m_done ?_
 simp only [List.drop_succ_cons, List.drop_zero]
 go_upto_region 6 with fail
 simp only [NP]
 go_upto_region 6 with fail
 have hbo := HBO.out.drew.doA HI.out.wk HI.out.only HI.out.new
 have HKM := Lib.hid (And.intro (HI.out.only.cell (HBO.out.drew.qaB hkbF.1 hkbF.2) hkbm) (HI.out.only.cell (HBO.out.drew.qaB hvbF.1 hvbF.2) hvbm))
 have HNJ := Lib.hid (And.intro (HI.out.only.cell (HBO.out.drew.qaN hvglt) hnv) (HI.out.only.cell (HBO.out.drew.qaN hkglt) hnk))
 generalize w5.setCell ⟨qa, 1, none⟩ (.slice a5 (2 + 1) cc5) = X5 at *
 clear HI HK5 hc0 hfz
 clear a0 a1 a2' az n0 n1 n2 nz bc0 bc1 bc2 bfz HBO
 (try clear hnk); (try clear hnv); (try clear hkbm); (try clear hvbm)
 obtain ⟨a0, a1, a2', -, az⟩ := hbo.a.cells
 obtain ⟨n0, n1, n2, -, nz⟩ := hbo.n.cells
 have bc0 := hbo.b.c0
 have bc1 := hbo.b.c1
 have bc2 := hbo.b.c2
 have bfz := hbo.b.fz
 have HBO := Lib.hid hbo
 rw [HM.out] at bc0 bc1
 have hkbm := HKM.out.1
 have hvbm := HKM.out.2
 have hnv := HNJ.out.1
 have hnk := HNJ.out.2
 clear hbo hbl HKM HNJ
 -- the entry of b comes into n
 have hNK := HBO.out.n.k
 have hNV := HBO.out.n.v
 rw [List.length_map] at hNK hNV
 have hfk := (own_cell hNK (keys_at hjel)).2
 have hfv := (own_cell hNV (vals_at hjel)).2
 have HP1 := Lib.hid (HBO.out.drew.n.putK j (strV yk))
 have HP2 := Lib.hid (HP1.out.1.putV j (strV yv))
 have hkq : q ≠ kg := fun e => HBO.out.n.kp (j := kg) (by rfl) e.symm
 have hkv : vg ≠ kg := fun e => HBO.out.n.ne kg (by rfl) (by rw [← e]; rfl)
 clear hNK hNV
 have ri : IntKind.i64.wrap (m : Int) = (m : Int) := by rw [IntKind.wrap_i64]; omega
 have ri2 : (m : Int) < (m : Int) + 1 := by omega
 refine region_m [(0, false), (1, false), (2, false), (3, false), (4, false), (5, false), (6, false), (7, false), (8, false), (9, false), (10, false), (11, false), (12, false), (13, false), (14, false), (15, false), (16, false), (17, false), (18, false), (19, false), (20, false), (21, false), (22, false), (23, false), (24, false), (25, true)] 26 (fun V => V.cell? ⟨q, 0, none⟩ = some (.slice (some ⟨kg, 0, none⟩) es.length kc) ∧ V.cell? ⟨q, 1, none⟩ = some (.slice (some ⟨vg, 0, none⟩) es.length vc) ∧ V.cell? ⟨qb, 0, none⟩ = some (.slice (some ⟨kbb, kbo, none⟩) (m + 1) kbc) ∧ V.cell? ⟨qb, 1, none⟩ = some (.slice (some ⟨vbb, vbo, none⟩) (m + 1) vbc) ∧ V.cell? ⟨kbb, kbo + m, none⟩ = some (.string (bstr yk)) ∧ V.cell? ⟨vbb, vbo + m, none⟩ = some (.string (bstr yv))) (by kernel_rfl) (by kernel_rfl) ⟨n0, n1, bc0, bc1, hkbm, hvbm⟩ ?_
 iterate 25
  refine m_take (v := ?_) rfl rfl ?_ ?_
  rotate_left
  ·
   intro W hW
   go_simp
   with_reducible rfl
  simp only [Act.put, List.setIfInBounds_toArray, List.set_cons_zero, List.set_cons_succ]
 refine m_loud rfl (fun K hK => ?_)
 have HK := Lib.hid hK
 clear hK
 go_simp
 refine HK.out _ _ ⟨by rw [World.cell?_drew, cell_set_block _ hkq]; exact n0, by rw [World.cell?_drew, cell_set_block _ hkq]; exact n1, by rw [World.cell?_drew, cell_set_block _ (by omega)]; exact bc0, by rw [World.cell?_drew, cell_set_block _ (by omega)]; exact bc1, by rw [World.cell?_drew, cell_set_block _ (by omega)]; exact hkbm, by rw [World.cell?_drew, cell_set_block _ (by omega)]; exact hvbm⟩ ?_
 clear HK
 refine m_done ?_
 simp only [List.drop_succ_cons, List.drop_zero]
 go_upto_region 7 with fail
 simp only [NP]
 go_upto_region 7 with fail
 have hbo := (HBO.out.drew.doN HP1.out.1 HP1.out.2).doN HP2.out.1 HP2.out.2
 generalize hXX : (X5.drew.setCell ⟨kg, j, none⟩ (strV yk)).setCell ⟨vg, j, none⟩ (strV yv) = X6 at hbo
 rw [show ((X5.setCell ⟨kg, j, none⟩ (.string (bstr yk))).setCell ⟨vg, j, none⟩ (.string (bstr yv))).drew = X6 from hXX]
 clear HP1 HP2 hXX hfk hfv
 clear a0 a1 a2' az n0 n1 n2 nz bc0 bc1 bc2 bfz HBO
 (try clear hnk); (try clear hnv); (try clear hkbm); (try clear hvbm)
 obtain ⟨a0, a1, a2', -, az⟩ := hbo.a.cells
 obtain ⟨n0, n1, n2, -, nz⟩ := hbo.n.cells
 have bc0 := hbo.b.c0
 have bc1 := hbo.b.c1
 have bc2 := hbo.b.c2
 have bfz := hbo.b.fz
 have HBO := Lib.hid hbo
 rw [HM.out] at bc0 bc1
 have bf0 := bfz 0
 have bf1 := bfz 1
 have hrk := hbo.b.rk.take (m := m) (by have := HM.out; omega)
 have hrv := hbo.b.rv.take (m := m) (by have := HM.out; omega)
 have hlm : (b.es.take m).length = m := by rw [List.length_take]; have := HM.out; omega
 rw [← List.map_take] at hrk hrv
 have HRK := Lib.hid hrk
 have HRV := Lib.hid hrv
 have HLM := Lib.hid hlm
 have mi0 : (m : Int) ≤ (kbc : Int) := by omega
 have mi1 : (m : Int) ≤ (vbc : Int) := by omega
 clear hbo hrk hrv hlm
 -- b is cut
 refine region_m [(0, false), (1, false), (2, false), (3, false), (4, false), (6, false), (8, false), (9, false), (10, false), (11, false), (12, false), (13, false), (5, true), (7, false), (14, false), (15, false), (16, true)] 17 (fun V => V.cell? ⟨qb, 1, none⟩ = some (.slice (some ⟨vbb, vbo, none⟩) (m + 1) vbc)) (by kernel_rfl) (by kernel_rfl) bc1 ?_
 iterate 12
  refine m_take (v := ?_) rfl rfl ?_ ?_
  rotate_left
  ·
   intro W hW
   go_simp
   with_reducible rfl
  simp only [Act.put, List.setIfInBounds_toArray, List.set_cons_zero, List.set_cons_succ]
 refine m_loud rfl (fun K hK => ?_)
 have HK := Lib.hid hK
 clear hK
 go_simp
 refine HK.out _ _ bc1 ?_
 clear HK
 iterate 3
  refine m_take (v := ?_) rfl rfl ?_ ?_
  rotate_left
  ·
   intro W hW
   go_simp
   with_reducible rfl
  simp only [Act.put, List.setIfInBounds_toArray, List.set_cons_zero, List.set_cons_succ]
 refine m_loud rfl (fun K hK => ?_)
 have HK := Lib.hid hK
 clear hK
 go_simp
 refine HK.out _ _ (by rw [World.cell?_drew, cell_set_off _ (by omega)]; exact bc1) ?_
 clear HK
 refine m_done ?_
 simp only [List.drop_succ_cons, List.drop_zero]
 go_upto_region 8 with fail
 simp only [NP]
 go_upto_region 8 with fail
 have hst : Only (fun x => x = qb) X6.drew ((X6.drew.setCell ⟨qb, 0, none⟩ (.slice (some ⟨kbb, kbo, none⟩) m kbc)).setCell ⟨qb, 1, none⟩ (.slice (some ⟨vbb, vbo, none⟩) m vbc)) := (only_set _ _ _ _).trans (only_set _ _ _ _) (fun _ _ h => h)
 have hbo := HBO.out.drew.doB (NdAt.setKV HBO.out.drew.b (es' := b.es.take m) (kv' := .slice (some ⟨kbb, kbo, none⟩) m kbc) (vv' := .slice (some ⟨vbb, vbo, none⟩) m vbc) (by rw [HLM.out]; exact Row.fr HRK.out (by decide) (Fr.of_below (Below.refl _ _).drew)) (by rw [HLM.out]; exact Row.fr HRV.out (by decide) (Fr.of_below (Below.refl _ _).drew))) hst
 generalize hXX : (X6.drew.setCell ⟨qb, 0, none⟩ (.slice (some ⟨kbb, kbo, none⟩) m kbc)).setCell ⟨qb, 1, none⟩ (.slice (some ⟨vbb, vbo, none⟩) m vbc) = X7 at hbo hst
 rw [show ((X6.setCell ⟨qb, 0, none⟩ (.slice (some ⟨kbb, kbo, none⟩) m kbc)).setCell ⟨qb, 1, none⟩ (.slice (some ⟨vbb, vbo, none⟩) m vbc)).drew = X7 from hXX]
 clear hXX hst HRK HRV bf0 bf1
 clear a0 a1 a2' az n0 n1 n2 nz bc0 bc1 bc2 bfz HBO
 (try clear hnk); (try clear hnv); (try clear hkbm); (try clear hvbm)
 obtain ⟨a0, a1, a2', -, az⟩ := hbo.a.cells
 obtain ⟨n0, n1, n2, -, nz⟩ := hbo.n.cells
 have bc0 := hbo.b.c0
 have bc1 := hbo.b.c1
 have bc2 := hbo.b.c2
 have bfz := hbo.b.fz
 have HBO := Lib.hid hbo
 clear hbo
 cases h with
 | zero =>
  obtain rfl : psb = [] := HKB.out
  obtain rfl : psa = [] := HKA.out
  obtain ⟨cba, cbc, rfl, -, -⟩ := Rd.slice HBO.out.b.rc.rd
  simp only [List.length_nil] at bc2
  go_wp2_with fail
  refine bodyPost_ret (results_none rfl _ _ _) rfl ?_
  obtain ⟨⟨x1, x2⟩, y1, y2⟩ := HXY.out
  obtain ⟨e1, e2, e3⟩ := HE.out
  have hge : ∀ x, wkB qa (.slice a4 (2 + 1) cc4) (.slice a5 (2 + 1) cc5) (.slice aca 0 acc) x → w.heap.size ≤ x := fun x hx => (HBO.out.a.foot hx).1
  refine ⟨⟨_, rfl⟩, qa, qb, ?_, TreeAt.mk (ps := []) (kv := .slice a4 (2 + 1) cc4) (vv := .slice a5 (2 + 1) cc5) (cv := .slice aca 0 acc) ?_ rfl, TreeAt.mk (ps := []) (by rw [e1, HM.out]; exact HBO.out.b.mono (fun k hk => .inr (Nat.le_trans ho1 hk.1))) rfl, HBO.out.only⟩
  ·
   have hn := HBO.out.n
   rw [e2, HM.out, Nat.add_sub_cancel, List.map_set, List.map_set, List.map_set, List.map_set, ← y1, ← y2]
   exact hn
  ·
   rw [e3]
   have ha := HBO.out.a
   rw [insAt_zero, insAt_zero, x1, x2] at ha
   refine Wk.nd (B := w.heap.size) (ps := []) ?_ (fun x hx => .inr (hge x hx))
   rw [List.map_cons, List.map_cons, HJD.out]
   exact ha
 | succ h =>
  have hkB : Kids (TreeAt w F h) b.2 psb := HKB.out
  have hkA : Kids (TreeAt w F h) a.2 psa := HKA.out
  have hbl2 : b.2.length = m + 2 := by have := HOB.out.2.2.1; have := HM.out; have h3 : b.es = b.1 := rfl; rw [h3] at this; omega
  have hpb : psb.length = m + 1 + 1 := by rw [hkB.1, hbl2]
  have hpa3 : psa.length = 3 := by have := HOA.out.2.2.1; have h3 : a.es = a.1 := rfl; rw [h3] at ha2; rw [hkA.1]; omega
  have hlt1 : m + 1 < psb.length := by omega
  obtain ⟨pl, hpl⟩ : ∃ pl, psb[m + 1]? = some pl := ⟨_, List.getElem?_eq_getElem hlt1⟩
  obtain ⟨cl, hcl⟩ : ∃ cl, b.2[m + 1]? = some cl := ⟨_, List.getElem?_eq_getElem (by omega)⟩
  obtain ⟨cba, cbc, rfl, cb1, cb2⟩ := Rd.slice HBO.out.b.rc.rd
  obtain ⟨cbb, cbo, rfl, -, -, hcbm⟩ := HBO.out.b.rc.at (ptrs_get hpl)
  have hcbF := (HBO.out.b.rc.ty _ _ _ rfl).1
  simp only at hcbF
  rw [hpb] at bc2 cb1
  rw [hpa3] at a2'
  have HPB := Lib.hid hpb
  have HPA := Lib.hid hpa3
  have HKL := Lib.hid (And.intro hpl hcl)
  have HBL := Lib.hid hbl2
  have r1 : IntKind.i64.wrap ((m : Int) + 1) = (m : Int) + 1 := by rw [IntKind.wrap_i64]; omega
  have r2 : (m : Int) + 1 < (m : Int) + 1 + 1 := by omega
  have r3 : (0 : Int) ≤ (m : Int) + 1 := by omega
  have r4 : ((m : Int) + 1).toNat = m + 1 := by omega
  have r5 : (m : Int) + 1 ≤ (cbc : Int) := by omega
  clear hkB hkA hbl2 hpb hpa3 hlt1 hpl hcl
  have HK9 := Lib.hid (HBO.out.drew.a.insC (ptrs_one _) (Nat.le_trans (Nat.le_trans ho1 ho2) HBO.out.drew.o3) 3 0 (by rw [List.length_map]; exact HPA.out.symm) (by omega) (by omega) pl)
  rw [show ((0 : Nat) : Int) = 0 from rfl, HPA.out] at HK9
  go_upto_region 9 with fail
  refine region_m [(0, false), (1, false), (2, false), (3, false), (4, false), (5, false), (6, false), (7, false), (8, false), (9, false), (10, false), (11, false), (12, false), (13, true), (14, true)] 15 (fun V => V.cell? ⟨qa, 2, none⟩ = some (.slice aca 3 acc) ∧ V.cell? ⟨qb, 2, none⟩ = some (.slice (some ⟨cbb, cbo, none⟩) (m + 1 + 1) cbc) ∧ V.cell? ⟨cbb, cbo + (m + 1), none⟩ = some (.pointer (some ⟨pl, 0, none⟩))) (by kernel_rfl) (by kernel_rfl) ⟨a2', bc2, hcbm⟩ ?_
  iterate 13
   refine m_take (v := ?_) rfl rfl ?_ ?_
   rotate_left
   ·
     intro W hW
     go_simp
     with_reducible rfl
   simp only [Act.put, List.setIfInBounds_toArray, List.set_cons_zero, List.set_cons_succ]
  refine m_loud rfl (fun K hK => ?_)
  have HK := Lib.hid hK
  clear hK
  go_simp
  have hbl := below_alloc X7.drew (.cells #[.pointer (some ⟨pl, 0, none⟩)] 63)
  refine HK.out _ _ ⟨cell_later hbl a2', cell_later hbl bc2, cell_later hbl hcbm⟩ ?_
  clear HK
  refine m_loud rfl (fun K hK => ?_)
  have HK := Lib.hid hK
  clear hK
  go_simp
  refine HK9.out.mono ?_
  rintro e w9 ⟨a9, cc9, rfl, hik⟩
  have hc0 := hik.c0
  have hfz := hik.fz
  have HI := Lib.hid hik
  refine HK.out _ _ ⟨hc0, hik.cell (by rw [← HPA.out]; exact HBO.out.drew.qaB hqF.1 hqF.2) bc2, hik.cell (by rw [← HPA.out]; exact HBO.out.drew.qaB hcbF.1 hcbF.2) hcbm⟩ ?_
  clear HK
  clear hik
  refine m_done ?_
  simp only [List.drop_succ_cons, List.drop_zero]
  go_upto_region 10 with fail
  simp only [NP]
  go_upto_region 10 with fail
  have hbo := HBO.out.drew.doA HI.out.wk (by rw [HPA.out]; exact HI.out.only) (by rw [HPA.out]; exact HI.out.new)
  generalize w9.setCell ⟨qa, 2, none⟩ (.slice a9 (3 + 1) cc9) = X9 at *
  clear HI HK9 hc0 hfz hcbm
  clear a0 a1 a2' az n0 n1 n2 nz bc0 bc1 bc2 bfz HBO
  (try clear hnk); (try clear hnv); (try clear hkbm); (try clear hvbm)
  obtain ⟨a0, a1, a2', -, az⟩ := hbo.a.cells
  obtain ⟨n0, n1, n2, -, nz⟩ := hbo.n.cells
  have bc0 := hbo.b.c0
  have bc1 := hbo.b.c1
  have bc2 := hbo.b.c2
  have bfz := hbo.b.fz
  have HBO := Lib.hid hbo
  rw [HPB.out] at bc2
  have bf2 := bfz 2
  have hrc := hbo.b.rc.take (m := m + 1) (by rw [HPB.out]; omega)
  have hlm : (psb.take (m + 1)).length = m + 1 := by rw [List.length_take, HPB.out]; omega
  rw [← List.map_take] at hrc
  have hb10 := hbo.doB (NdAt.setC hbo.b (ps' := psb.take (m + 1)) (cv' := .slice (some ⟨cbb, cbo, none⟩) (m + 1) cbc) (by rw [hlm]; exact hrc)) (only_set _ _ _ _)
  have HB10 := Lib.hid hb10
  clear hbo hrc hlm hbl hb10
  go_wp2_with fail
  refine bodyPost_ret (results_none rfl _ _ _) rfl ?_
  obtain ⟨⟨x1, x2⟩, y1, y2⟩ := HXY.out
  obtain ⟨e1, e2, e3⟩ := HE.out
  have hbt := HB10.out
  generalize X9.setCell ⟨qb, 2, none⟩ (.slice (some ⟨cbb, cbo, none⟩) (m + 1) cbc) = Y at *
  have hge : ∀ x, wkB qa (.slice a4 (2 + 1) cc4) (.slice a5 (2 + 1) cc5) (.slice a9 (3 + 1) cc9) x → w.heap.size ≤ x := fun x hx => (hbt.a.foot hx).1
  have hfr : Fr F w Y := Fr.of_only hbt.only HF.out
  have hkB : Kids (TreeAt Y F h) b.2 psb := Kids.fr hfr HKB.out
  have hkA : Kids (TreeAt Y F h) a.2 psa := Kids.fr hfr HKA.out
  have hcl := hkB.2 _ _ _ HKL.out.2 HKL.out.1
  refine ⟨⟨_, rfl⟩, qa, qb, ?_, TreeAt.mk (ps := pl :: psa) (kv := .slice a4 (2 + 1) cc4) (vv := .slice a5 (2 + 1) cc5) (cv := .slice a9 (3 + 1) cc9) ?_ ?_, TreeAt.mk (ps := psb.take (m + 1)) (by rw [e1, HM.out]; exact hbt.b.mono (fun k hk => .inr (Nat.le_trans ho1 hk.1))) ?_, hbt.only⟩
  ·
   have hn := hbt.n
   rw [e2, HM.out, Nat.add_sub_cancel, List.map_set, List.map_set, List.map_set, List.map_set, ← y1, ← y2]
   exact hn
  ·
   rw [e3]
   have ha := hbt.a
   rw [insAt_zero, insAt_zero, insAt_zero, x1, x2] at ha
   refine Wk.nd (B := w.heap.size) (ps := pl :: psa) ?_ (fun x hx => .inr (hge x hx))
   rw [List.map_cons, List.map_cons, List.map_cons, HJD.out]
   exact ha
  ·
   show Kids _ (b.2.drop b.1.length ++ a.2) (pl :: psa)
   rw [show b.1.length = m + 1 from HM.out, drop_last (m := m + 1) HBL.out HKL.out.2]
   exact Kids.mono (fun k hk => .inl hk) (Kids.cons hcl hkA)
  ·
   show Kids _ (b.2.take b.1.length) (psb.take (m + 1))
   rw [show b.1.length = m + 1 from HM.out]
   exact Kids.mono (fun k hk => .inl hk) (hkB.take (m + 1))
end Go.Proofs.Ytmafnjidhjabgaa
namespace Go.Proofs.Ytmafnjidhjabgaa
open Go.RowKit Go.Shelf
set_option linter.unusedVariables false
set_option linter.unusedSectionVars false
set_option linter.unusedSimpArgs false
set_option maxRecDepth 100000
variable [Inhabited Pgs]
set_option maxHeartbeats 8000000 in
theorem borrowR_calls (B q pa pb i j : Nat) (kv vv cv : Value) (F : Nat → Prop) (h : Nat) (a b : BT h) (es : List KV) (ps : List Nat) (w : World) (hw : Wk w B q kv vv cv (es.map fun e => strV e.1) (es.map fun e => strV e.2) (ps.map ptrV)) (hF : ∀ k, F k → k < w.heap.size → ¬ wkB q kv vv cv k)
  (hij : i + 1 = j) (hpi : ps[i]? = some pa) (hpj : ps[j]? = some pb) (hie : j ≤ es.length) (he7 : es.length ≤ 7) (hps : ps.length = es.length + 1) (hta : TreeAt w F h a pa) (htb : TreeAt w F h b pb) (hoa : BT.Ok h 2 a) (ha2 : a.es.length = 2) (hob : BT.Ok h 4 b) :
  Calls Try.prog 85 #[ptrV q, .int .i64 i, .int .i64 j] w fun e w' => BorrowOut w B q kv vv cv F h (es.set i (giveL h a b (esD es i)).2.1) ps i j (giveL h a b (esD es i)).1 (giveL h a b (esD es i)).2.2 e w' := by
 have hpos : 0 < es.length := by omega
 have hposp : 0 < ps.length := by omega
 have HPS := Lib.hid hps
 have hpsl : ps.length ≤ 8 := by omega
 have hipl : i < ps.length := by omega
 have hjpl : j < ps.length := by omega
 have hiel : i < es.length := by omega
 have hji : i < j := by omega
 have HIJ := Lib.hid hij
 clear hps hij
 -- the two kids become copies of their own
 obtain ⟨kva, vva, cva, psa, hna, hka⟩ := hta.top
 obtain ⟨kvb, vvb, cvb, psb, hnb, hkb⟩ := htb.top
 have hlpa := hka.len hoa
 have hlpb := hkb.len hob
 have hesa := hoa.es
 have hesb := hob.es
 have HF := Lib.hid hF
 have HW := Lib.hid hw
 have HKA := Lib.hid hka
 have HKB := Lib.hid hkb
 have HOA := Lib.hid hoa
 have HOB := Lib.hid hob
 have HNB := Lib.hid hnb
 have HNL := Lib.hid (fun x (hx : wkB q kv vv cv x) => (hw.foot hx).2)
 have HOWNA := Lib.hid (own_calls F pa kva vva cva a.es psa w.drew (hna.fr (Fr.of_below (Below.refl _ _).drew)) (by omega) (by omega))
 have hbs := hw.cells
 obtain ⟨c0, c1, c2, -, fz⟩ := hbs
 obtain ⟨ka, kc, hkv⟩ := own_slice hw.k
 obtain ⟨va, vc, hvv⟩ := own_slice hw.v
 obtain ⟨ca, cc, hcv⟩ := own_slice hw.c
 rw [List.length_map] at hkv hvv hcv
 subst hkv hvv hcv
 have hk8 := hw.k
 have hv8 := hw.v
 have hc8 := hw.c
 rw [List.length_map] at hk8 hv8 hc8
 obtain ⟨kg, rfl, k1, k2, k3, k4, k5⟩ := own_some hk8 (by omega)
 obtain ⟨vg, rfl, v1, v2, v3, v4, v5⟩ := own_some hv8 (by omega)
 obtain ⟨cg, rfl, g1, g2, g3, g4, g5⟩ := own_some hc8 (by omega)
 have hci := g4 _ _ (ptrs_get hpi)
 have hcj := g4 _ _ (ptrs_get hpj)
 have hfi := g5 i
 have hfj := g5 j
 clear hta htb hna hnb hka hkb hoa hob hF hw hk8 hv8 hc8 g4 g5 hpi hpj
 unfold ptrV
 go_enter Try.func85, Try.ntmps85
 go_wp2_with fail
 refine region_m [(0, false), (1, false), (2, false), (3, false), (4, false), (5, false), (6, false), (8, false), (9, false), (10, false), (11, false), (12, false), (13, false), (14, false), (7, true), (15, true), (16, false), (17, false)] 18 (fun V => V.cell? ⟨q, 2, none⟩ = some (.slice (some ⟨cg, 0, none⟩) ps.length cc) ∧ V.cell? ⟨cg, i, none⟩ = some (.pointer (some ⟨pa, 0, none⟩)) ∧ V.cell? ⟨cg, j, none⟩ = some (.pointer (some ⟨pb, 0, none⟩))) (by kernel_rfl) (by kernel_rfl) ⟨c2, hci, hcj⟩ ?_
 iterate 14
  refine m_take (v := ?_) rfl rfl ?_ ?_
  rotate_left
  ·
   intro W hW
   go_simp
   with_reducible rfl
  simp only [Act.put, List.setIfInBounds_toArray, List.set_cons_zero, List.set_cons_succ]
 refine m_loud rfl (fun K hK => ?_)
 have HK := Lib.hid hK
 clear hK
 go_simp
 refine HOWNA.out.mono ?_
 rintro e w1 ⟨qa, kva1, vva1, cva1, rfl, hwa, hb1⟩
 have hb1 : Below w.heap.size w w1 := ((Below.refl w.heap.size w).drew).trans hb1
 have hwa : Wk w1 w.heap.size qa kva1 vva1 cva1 _ _ _ := hwa
 refine HK.out _ _ ⟨cell_later hb1 c2, cell_later hb1 hci, cell_later hb1 hcj⟩ ?_
 clear HK
 refine m_loud rfl (fun K hK => ?_)
 have HK := Lib.hid hK
 clear hK
 go_simp
 refine (own_calls F pb kvb vvb cvb b.es psb w1 (HNB.out.fr (Fr.of_below hb1)) (by omega) (by omega)).mono ?_
 rintro e w2 ⟨qb, kvb1, vvb1, cvb1, rfl, hwb, hb2⟩
 have hb2' := below_go hb1 hb2
 have HWA := Lib.hid (hwa.below hb2)
 have HAF := Lib.hid (fun x (hx : wkB qa kva1 vva1 cva1 x) => (hwa.foot hx).2)
 have HWB := Lib.hid hwb
 have HWN := Lib.hid (HW.out.below hb2')
 have HB2 := Lib.hid hb2'
 have HW1S := Lib.hid (And.intro hb1.size hb2.size)
 have hcj2 := cell_later hb2' hcj
 have hci2 := cell_later hb2' hci
 have hc22 := cell_later hb2' c2
 have hfi2 := frozen_later hb2' hci hfi
 have hfj2 := frozen_later hb2' hcj hfj
 refine HK.out _ _ ⟨cell_later hb2' c2, cell_later hb2' hci, cell_later hb2' hcj⟩ ?_
 clear HK
 clear hb1 hb2 hb2' hwa hwb c2 hci hcj hfi hfj c0 c1
 unfold ptrV
 iterate 2
  first
  | (
    refine m_take (v := ?_) rfl rfl ?_ ?_
    rotate_left
    ·
      intro W hW
      go_simp
      with_reducible rfl
    simp only [Act.put, List.setIfInBounds_toArray, List.set_cons_zero, List.set_cons_succ])
  | (
    refine m_skip rfl rfl ?_
    simp only [Act.put, List.setIfInBounds_toArray, List.set_cons_zero, List.set_cons_succ])
 refine m_done ?_
 simp only [List.drop_succ_cons, List.drop_zero]
 go_upto_region 1 with fail
 simp only [NP]
 go_upto_region 1 with fail
 have hqcg : q ≠ cg := by
  have h1 : cg ≠ q := HWN.out.cp (by rfl)
  exact fun e => h1 e.symm
 -- they stand among the node's kids
 have HP1 := Lib.hid (HWN.out.putC i (ptrV qa))
 have HP2 := Lib.hid (HP1.out.1.putC j (ptrV qb))
 refine region_m [(0, false), (1, false), (2, false), (3, false), (4, false), (5, false), (6, false), (7, false), (8, false), (9, false), (10, false), (11, false), (12, false), (13, true)] 14 (fun V => V.cell? ⟨q, 2, none⟩ = some (.slice (some ⟨cg, 0, none⟩) ps.length cc)) (by kernel_rfl) (by kernel_rfl) hc22 ?_
 iterate 13
  refine m_take (v := ?_) rfl rfl ?_ ?_
  rotate_left
  ·
   intro W hW
   go_simp
   with_reducible rfl
  simp only [Act.put, List.setIfInBounds_toArray, List.set_cons_zero, List.set_cons_succ]
 refine m_loud rfl (fun K hK => ?_)
 have HK := Lib.hid hK
 clear hK
 go_simp
 refine HK.out _ _ (by rw [World.cell?_drew, cell_set_block _ hqcg]; exact hc22) ?_
 clear HK
 refine m_done ?_
 simp only [List.drop_succ_cons, List.drop_zero]
 go_upto_region 2 with fail
 simp only [NP]
 go_upto_region 2 with fail
 have hbo := (Bo.mk (w := w) (X := w2) (s1 := w1.heap.size) (s2 := w2.heap.size) HWN.out HNL.out HWA.out (fun j hj => .inl ⟨(HWA.out.foot hj).1, HAF.out j hj⟩) (HWB.out.nd (fun j hj => HWB.out.foot hj)) HW1S.out.1 HW1S.out.2 (Nat.le_refl _) ((Only.of_below HB2.out))).doN HP1.out.1 HP1.out.2
 have hbo := (hbo.doN HP2.out.1 HP2.out.2).drew
 clear HP1 HP2 HWA HWB HWN HAF HB2 hci2 hcj2 hc22 hfi2 hfj2
 generalize hXX : ((w2.setCell ⟨cg, i, none⟩ (ptrV qa)).setCell ⟨cg, j, none⟩ (ptrV qb)).drew = X at hbo
 rw [show ((w2.setCell ⟨cg, i, none⟩ (.pointer (some ⟨qa, 0, none⟩))).setCell ⟨cg, j, none⟩ (.pointer (some ⟨qb, 0, none⟩))).drew = X from hXX]
 clear hXX
 generalize w1.heap.size = s1 at *
 generalize w2.heap.size = s2 at *
 have HE := Lib.hid (giveL_es a b (esD es i))
 have hjd := esD_at hiel
 obtain ⟨m, hm⟩ : ∃ m, b.es.length = m + 1 := ⟨b.es.length - 1, by omega⟩
 have hb0 := esD_at (es := b.es) (i := 0) (by omega)
 obtain ⟨kba, kbc, rfl, kb1, kb2⟩ := Rd.slice hbo.b.rk.rd
 obtain ⟨vba, vbc, rfl, vb1, vb2⟩ := Rd.slice hbo.b.rv.rd
 obtain ⟨kbb, kbo, rfl, -, -, hkbm⟩ := hbo.b.rk.at (keys_at (i := 0) (by omega))
 obtain ⟨vbb, vbo, rfl, -, -, hvbm⟩ := hbo.b.rv.at (vals_at (i := 0) (by omega))
 rw [← hb0] at hkbm hvbm
 rw [Nat.add_zero] at hkbm hvbm
 obtain ⟨aka, akc, hak⟩ := own_slice hbo.a.k
 obtain ⟨ava, avc, hav⟩ := own_slice hbo.a.v
 obtain ⟨aca, acc, hac⟩ := own_slice hbo.a.c
 rw [List.length_map] at hak hav hac
 rw [ha2] at hak hav
 subst hak hav hac
 have hm7 : m + 1 ≤ 7 := by omega
 have HM := Lib.hid hm
 have HJD := Lib.hid hjd
 rw [hm] at kb1 vb1
 have hm3 : 3 ≤ m := by omega
 have hkbF := (hbo.b.rk.ty _ _ _ rfl).1
 have hvbF := (hbo.b.rv.ty _ _ _ rfl).1
 simp only at hkbF hvbF
 have hNK := hbo.n.k
 have hNV := hbo.n.v
 rw [List.length_map] at hNK hNV
 have hnk := own_cell hNK (keys_at hiel)
 have hnv := own_cell hNV (vals_at hiel)
 have hqlt : q < w.heap.size := hbo.nl q (.inl rfl)
 have hkglt : kg < w.heap.size := hbo.nl kg (.inr (.inl rfl))
 have hvglt : vg < w.heap.size := hbo.nl vg (.inr (.inr (.inl rfl)))
 have ho1 := hbo.o1
 have ho2 := hbo.o2
 have hqF : s1 ≤ qb ∧ qb < s2 := hbo.b.inF
 have hcA := hbo.a.cells
 have hcN := hbo.n.cells
 have bc0 := hbo.b.c0
 have bc1 := hbo.b.c1
 have bc2 := hbo.b.c2
 have bfz := hbo.b.fz
 rw [HM.out] at bc0 bc1
 have HBO := Lib.hid hbo
 obtain ⟨xk, hxk⟩ : ∃ x, x = (es[i]).1 := ⟨_, rfl⟩
 obtain ⟨xv, hxv⟩ : ∃ x, x = (es[i]).2 := ⟨_, rfl⟩
 obtain ⟨yk, hyk⟩ : ∃ x, x = (esD b.es 0).1 := ⟨_, rfl⟩
 obtain ⟨yv, hyv⟩ : ∃ x, x = (esD b.es 0).2 := ⟨_, rfl⟩
 rw [← hxk] at hnk
 rw [← hxv] at hnv
 rw [← hyk] at hkbm
 rw [← hyv] at hvbm
 have HXY := Lib.hid (And.intro (And.intro hxk hxv) (And.intro hyk hyv))
 obtain ⟨a0, a1, a2', -, az⟩ := hcA
 obtain ⟨n0, n1, n2, -, nz⟩ := hcN
 have hd0 : decide ((j : Int) < (i : Int)) = false := decide_eq_false (by omega)
 have hd1 : decide (j < i) = false := decide_eq_false (by omega)
 have hd2 : ¬ j < i := by omega
 clear hNK hNV hbo hxk hxv hyk hyv hjd hb0 hm hesb hlpa hlpb hesa
 go_upto_region 11 with fail
 -- the entry of n comes into a
 have haK := HBO.out.drew.a.k
 rw [List.length_map, ha2] at haK
 have hsz0 : w.heap.size ≤ X.drew.heap.size := Nat.le_trans (Nat.le_trans ho1 ho2) HBO.out.drew.o3
 have HAK := Lib.hid haK
 clear haK
 refine region_m [(0, false), (1, false), (2, false), (3, false), (4, false), (5, false), (6, false), (7, false), (8, false), (9, false), (10, false), (11, false), (12, true), (13, true)] 14 (fun V => V.cell? ⟨qa, 0, none⟩ = some (.slice aka 2 akc) ∧ V.cell? ⟨q, 0, none⟩ = some (.slice (some ⟨kg, 0, none⟩) es.length kc) ∧ V.cell? ⟨kg, i, none⟩ = some (.string (bstr xk))) (by kernel_rfl) (by kernel_rfl) ⟨a0, n0, hnk.1⟩ ?_
 iterate 12
  refine m_take (v := ?_) rfl rfl ?_ ?_
  rotate_left
  ·
   intro W hW
   go_simp
   with_reducible rfl
  simp only [Act.put, List.setIfInBounds_toArray, List.set_cons_zero, List.set_cons_succ]
 refine m_loud rfl (fun K hK => ?_)
 have HK := Lib.hid hK
 clear hK
 go_simp
 have hbl := below_alloc X.drew (.cells #[.string (bstr xk)] 9)
 refine HK.out _ _ ⟨cell_later hbl a0, cell_later hbl n0, cell_later hbl hnk.1⟩ ?_
 clear HK
 refine m_app tyS (ownsRow_below HAK.out hbl (Nat.le_refl _)) (Rd.lit (w := X.drew) (cs := #[.string (bstr xk)]) (e := 9) (n := 1) (sz := 1) rfl (by omega)) (fun u hu => by rw [List.mem_singleton.1 hu]; rfl) (by omega) (by omega) (by omega) (Nat.le_trans hsz0 hbl.size) rfl rfl rfl rfl rfl ?_
 intro g4 cc4 w4 hm4 hm4' hg4 hn4
 have hik := HBO.out.drew.a.appK 2 3 (by rw [List.length_map, ha2]) rfl _ hm4 hg4 hn4
 have hc0 := hik.c0
 have hfz := hik.fz
 have HI := Lib.hid hik
 refine ⟨⟨hc0, hik.cell (HBO.out.drew.qaN hqlt) n0, hik.cell (HBO.out.drew.qaN hkglt) hnk.1⟩, ?_⟩
 clear hik hm4 hm4' hg4 hn4
 refine m_done ?_
 simp only [List.drop_succ_cons, List.drop_zero]
 go_upto_region 12 with fail
 simp only [NP]
 go_upto_region 12 with fail
 have hbo := HBO.out.drew.doA HI.out.wk HI.out.only HI.out.new
 have HKM := Lib.hid (And.intro (HI.out.only.cell (HBO.out.drew.qaB hkbF.1 hkbF.2) hkbm) (HI.out.only.cell (HBO.out.drew.qaB hvbF.1 hvbF.2) hvbm))
 have HNJ := Lib.hid (And.intro (HI.out.only.cell (HBO.out.drew.qaN hvglt) hnv.1) (HI.out.only.cell (HBO.out.drew.qaN hkglt) hnk.1))
 generalize w4.setCell ⟨qa, 0, none⟩ (.slice (some ⟨g4, 0, none⟩) 3 cc4) = X4 at *
 clear HI HAK hc0 hfz hsz0
 clear a0 a1 a2' az n0 n1 n2 nz bc0 bc1 bc2 bfz HBO
 (try clear hnk); (try clear hnv); (try clear hkbm); (try clear hvbm)
 obtain ⟨a0, a1, a2', -, az⟩ := hbo.a.cells
 obtain ⟨n0, n1, n2, -, nz⟩ := hbo.n.cells
 have bc0 := hbo.b.c0
 have bc1 := hbo.b.c1
 have bc2 := hbo.b.c2
 have bfz := hbo.b.fz
 have HBO := Lib.hid hbo
 rw [HM.out] at bc0 bc1
 have hkbm := HKM.out.1
 have hvbm := HKM.out.2
 have hnv := HNJ.out.1
 have hnk := HNJ.out.2
 clear hbo hbl HKM HNJ
 have haK := HBO.out.drew.a.v
 rw [List.length_map, ha2] at haK
 have hsz0 : w.heap.size ≤ X4.drew.heap.size := Nat.le_trans (Nat.le_trans ho1 ho2) HBO.out.drew.o3
 have HAK := Lib.hid haK
 clear haK
 refine region_m [(0, false), (1, false), (2, false), (3, false), (4, false), (5, false), (6, false), (7, false), (8, false), (9, false), (10, false), (11, false), (12, true), (13, true)] 14 (fun V => V.cell? ⟨qa, 1, none⟩ = some (.slice ava 2 avc) ∧ V.cell? ⟨q, 1, none⟩ = some (.slice (some ⟨vg, 0, none⟩) es.length vc) ∧ V.cell? ⟨vg, i, none⟩ = some (.string (bstr xv))) (by kernel_rfl) (by kernel_rfl) ⟨a1, n1, hnv⟩ ?_
 iterate 12
  refine m_take (v := ?_) rfl rfl ?_ ?_
  rotate_left
  ·
   intro W hW
   go_simp
   with_reducible rfl
  simp only [Act.put, List.setIfInBounds_toArray, List.set_cons_zero, List.set_cons_succ]
 refine m_loud rfl (fun K hK => ?_)
 have HK := Lib.hid hK
 clear hK
 go_simp
 have hbl := below_alloc X4.drew (.cells #[.string (bstr xv)] 9)
 refine HK.out _ _ ⟨cell_later hbl a1, cell_later hbl n1, cell_later hbl hnv⟩ ?_
 clear HK
 refine m_app tyS (ownsRow_below HAK.out hbl (Nat.le_refl _)) (Rd.lit (w := X4.drew) (cs := #[.string (bstr xv)]) (e := 9) (n := 1) (sz := 1) rfl (by omega)) (fun u hu => by rw [List.mem_singleton.1 hu]; rfl) (by omega) (by omega) (by omega) (Nat.le_trans hsz0 hbl.size) rfl rfl rfl rfl rfl ?_
 intro g5' cc5 w5 hm5 hm5' hg5 hn5
 have hik := HBO.out.drew.a.appV 2 3 (by rw [List.length_map, ha2]) rfl _ hm5 hg5 hn5
 have hc0 := hik.c0
 have hfz := hik.fz
 have HI := Lib.hid hik
 refine ⟨⟨hc0, hik.cell (HBO.out.drew.qaN hqlt) n1, hik.cell (HBO.out.drew.qaN hvglt) hnv⟩, ?_⟩
 clear hik hm5 hm5' hg5 hn5
 refine m_done ?_
 simp only [List.drop_succ_cons, List.drop_zero]
 go_upto_region 13 with fail
 simp only [NP]
 go_upto_region 13 with fail
 have hbo := HBO.out.drew.doA HI.out.wk HI.out.only HI.out.new
 have HKM := Lib.hid (And.intro (HI.out.only.cell (HBO.out.drew.qaB hkbF.1 hkbF.2) hkbm) (HI.out.only.cell (HBO.out.drew.qaB hvbF.1 hvbF.2) hvbm))
 have HNJ := Lib.hid (And.intro (HI.out.only.cell (HBO.out.drew.qaN hvglt) hnv) (HI.out.only.cell (HBO.out.drew.qaN hkglt) hnk))
 generalize w5.setCell ⟨qa, 1, none⟩ (.slice (some ⟨g5', 0, none⟩) 3 cc5) = X5 at *
 clear HI HAK hc0 hfz hsz0
 clear a0 a1 a2' az n0 n1 n2 nz bc0 bc1 bc2 bfz HBO
 (try clear hnk); (try clear hnv); (try clear hkbm); (try clear hvbm)
 obtain ⟨a0, a1, a2', -, az⟩ := hbo.a.cells
 obtain ⟨n0, n1, n2, -, nz⟩ := hbo.n.cells
 have bc0 := hbo.b.c0
 have bc1 := hbo.b.c1
 have bc2 := hbo.b.c2
 have bfz := hbo.b.fz
 have HBO := Lib.hid hbo
 rw [HM.out] at bc0 bc1
 have hkbm := HKM.out.1
 have hvbm := HKM.out.2
 have hnv := HNJ.out.1
 have hnk := HNJ.out.2
 clear hbo hbl HKM HNJ
 -- the entry of b comes into n
 have hNK := HBO.out.n.k
 have hNV := HBO.out.n.v
 rw [List.length_map] at hNK hNV
 have hfk := (own_cell hNK (keys_at hiel)).2
 have hfv := (own_cell hNV (vals_at hiel)).2
 have HP1 := Lib.hid (HBO.out.drew.n.putK i (strV yk))
 have HP2 := Lib.hid (HP1.out.1.putV i (strV yv))
 have hkq : q ≠ kg := fun e => HBO.out.n.kp (j := kg) (by rfl) e.symm
 have hkv : vg ≠ kg := fun e => HBO.out.n.ne kg (by rfl) (by rw [← e]; rfl)
 clear hNK hNV
 have ri2 : (0 : Int) < (m : Int) + 1 := by omega
 refine region_m [(0, false), (1, false), (2, false), (3, false), (4, false), (5, false), (6, false), (7, false), (8, false), (9, false), (10, false), (11, false), (12, false), (13, false), (14, false), (15, false), (16, false), (17, false), (18, false), (19, false), (20, false), (21, false), (22, false), (23, true)] 24 (fun V => V.cell? ⟨q, 0, none⟩ = some (.slice (some ⟨kg, 0, none⟩) es.length kc) ∧ V.cell? ⟨q, 1, none⟩ = some (.slice (some ⟨vg, 0, none⟩) es.length vc) ∧ V.cell? ⟨qb, 0, none⟩ = some (.slice (some ⟨kbb, kbo, none⟩) (m + 1) kbc) ∧ V.cell? ⟨qb, 1, none⟩ = some (.slice (some ⟨vbb, vbo, none⟩) (m + 1) vbc) ∧ V.cell? ⟨kbb, kbo, none⟩ = some (.string (bstr yk)) ∧ V.cell? ⟨vbb, vbo, none⟩ = some (.string (bstr yv))) (by kernel_rfl) (by kernel_rfl) ⟨n0, n1, bc0, bc1, hkbm, hvbm⟩ ?_
 iterate 23
  refine m_take (v := ?_) rfl rfl ?_ ?_
  rotate_left
  ·
   intro W hW
   go_simp
   with_reducible rfl
  simp only [Act.put, List.setIfInBounds_toArray, List.set_cons_zero, List.set_cons_succ]
 refine m_loud rfl (fun K hK => ?_)
 have HK := Lib.hid hK
 clear hK
 go_simp
 refine HK.out _ _ ⟨by rw [World.cell?_drew, cell_set_block _ hkq]; exact n0, by rw [World.cell?_drew, cell_set_block _ hkq]; exact n1, by rw [World.cell?_drew, cell_set_block _ (by omega)]; exact bc0, by rw [World.cell?_drew, cell_set_block _ (by omega)]; exact bc1, by rw [World.cell?_drew, cell_set_block _ (by omega)]; exact hkbm, by rw [World.cell?_drew, cell_set_block _ (by omega)]; exact hvbm⟩ ?_
 clear HK
 refine m_done ?_
 simp only [List.drop_succ_cons, List.drop_zero]
 go_upto_region 14 with fail
 simp only [NP]
 go_upto_region 14 with fail
 have hbo := (HBO.out.drew.doN HP1.out.1 HP1.out.2).doN HP2.out.1 HP2.out.2
 generalize hXX : (X5.drew.setCell ⟨kg, i, none⟩ (strV yk)).setCell ⟨vg, i, none⟩ (strV yv) = X6 at hbo
 rw [show ((X5.setCell ⟨kg, i, none⟩ (.string (bstr yk))).setCell ⟨vg, i, none⟩ (.string (bstr yv))).drew = X6 from hXX]
 clear HP1 HP2 hXX hfk hfv
 clear a0 a1 a2' az n0 n1 n2 nz bc0 bc1 bc2 bfz HBO
 (try clear hnk); (try clear hnv); (try clear hkbm); (try clear hvbm)
 obtain ⟨a0, a1, a2', -, az⟩ := hbo.a.cells
 obtain ⟨n0, n1, n2, -, nz⟩ := hbo.n.cells
 have bc0 := hbo.b.c0
 have bc1 := hbo.b.c1
 have bc2 := hbo.b.c2
 have bfz := hbo.b.fz
 have HBO := Lib.hid hbo
 have bf0 := bfz 0
 have bf1 := bfz 1
 have hrk := hbo.b.rk
 have hrv := hbo.b.rv
 rw [HM.out] at bc0 bc1 hrk hrv
 have hrk := hrk.drop1
 have hrv := hrv.drop1
 have hlm : (b.es.drop 1).length = m := by rw [List.length_drop]; have := HM.out; omega
 rw [← List.map_drop] at hrk hrv
 have HRK := Lib.hid hrk
 have HRV := Lib.hid hrv
 have HLM := Lib.hid hlm
 have mi0 : (1 : Int) ≤ (kbc : Int) := by omega
 have mi1 : (1 : Int) ≤ (vbc : Int) := by omega
 have mi2 : ¬ kbc = 1 := by omega
 have mi3 : ¬ vbc = 1 := by omega
 have mi4 : (1 : Int) ≤ (m : Int) + 1 := by omega
 clear hbo hrk hrv hlm
 -- b is cut
 refine region_m [(0, false), (1, false), (2, false), (3, false), (4, false), (7, false), (8, false), (9, false), (10, false), (11, false), (5, true), (6, false), (12, false), (13, false), (14, true)] 15 (fun V => V.cell? ⟨qb, 1, none⟩ = some (.slice (some ⟨vbb, vbo, none⟩) (m + 1) vbc)) (by kernel_rfl) (by kernel_rfl) bc1 ?_
 iterate 10
  refine m_take (v := ?_) rfl rfl ?_ ?_
  rotate_left
  ·
   intro W hW
   go_simp
   with_reducible rfl
  simp only [Act.put, List.setIfInBounds_toArray, List.set_cons_zero, List.set_cons_succ]
 refine m_loud rfl (fun K hK => ?_)
 have HK := Lib.hid hK
 clear hK
 go_simp
 refine HK.out _ _ bc1 ?_
 clear HK
 iterate 3
  refine m_take (v := ?_) rfl rfl ?_ ?_
  rotate_left
  ·
   intro W hW
   go_simp
   with_reducible rfl
  simp only [Act.put, List.setIfInBounds_toArray, List.set_cons_zero, List.set_cons_succ]
 refine m_loud rfl (fun K hK => ?_)
 have HK := Lib.hid hK
 clear hK
 go_simp
 refine HK.out _ _ (by rw [World.cell?_drew, cell_set_off _ (by omega)]; exact bc1) ?_
 clear HK
 refine m_done ?_
 simp only [List.drop_succ_cons, List.drop_zero]
 go_upto_region 15 with fail
 simp only [NP]
 go_upto_region 15 with fail
 have hst : Only (fun x => x = qb) X6.drew ((X6.drew.setCell ⟨qb, 0, none⟩ (.slice (some ⟨kbb, kbo + 1, none⟩) m (kbc - 1))).setCell ⟨qb, 1, none⟩ (.slice (some ⟨vbb, vbo + 1, none⟩) m (vbc - 1))) := (only_set _ _ _ _).trans (only_set _ _ _ _) (fun _ _ h => h)
 have hbo := HBO.out.drew.doB (NdAt.setKV HBO.out.drew.b (es' := b.es.drop 1) (kv' := .slice (some ⟨kbb, kbo + 1, none⟩) m (kbc - 1)) (vv' := .slice (some ⟨vbb, vbo + 1, none⟩) m (vbc - 1)) (by rw [HLM.out]; exact Row.fr HRK.out (by decide) (Fr.of_below (Below.refl _ _).drew)) (by rw [HLM.out]; exact Row.fr HRV.out (by decide) (Fr.of_below (Below.refl _ _).drew))) hst
 generalize hXX : (X6.drew.setCell ⟨qb, 0, none⟩ (.slice (some ⟨kbb, kbo + 1, none⟩) m (kbc - 1))).setCell ⟨qb, 1, none⟩ (.slice (some ⟨vbb, vbo + 1, none⟩) m (vbc - 1)) = X7 at hbo hst
 rw [show ((X6.setCell ⟨qb, 0, none⟩ (.slice (some ⟨kbb, kbo + 1, none⟩) m (kbc - 1))).setCell ⟨qb, 1, none⟩ (.slice (some ⟨vbb, vbo + 1, none⟩) m (vbc - 1))).drew = X7 from hXX]
 clear hXX hst HRK HRV bf0 bf1
 clear a0 a1 a2' az n0 n1 n2 nz bc0 bc1 bc2 bfz HBO
 (try clear hnk); (try clear hnv); (try clear hkbm); (try clear hvbm)
 obtain ⟨a0, a1, a2', -, az⟩ := hbo.a.cells
 obtain ⟨n0, n1, n2, -, nz⟩ := hbo.n.cells
 have bc0 := hbo.b.c0
 have bc1 := hbo.b.c1
 have bc2 := hbo.b.c2
 have bfz := hbo.b.fz
 have HBO := Lib.hid hbo
 clear hbo
 cases h with
 | zero =>
  obtain rfl : psb = [] := HKB.out
  obtain rfl : psa = [] := HKA.out
  obtain ⟨cba, cbc, rfl, -, -⟩ := Rd.slice HBO.out.b.rc.rd
  simp only [List.length_nil] at bc2
  go_wp2_with fail
  go_end0
  obtain ⟨⟨x1, x2⟩, y1, y2⟩ := HXY.out
  obtain ⟨e1, e2, e3⟩ := HE.out
  have hge : ∀ x, wkB qa (.slice (some ⟨g4, 0, none⟩) 3 cc4) (.slice (some ⟨g5', 0, none⟩) 3 cc5) (.slice aca 0 acc) x → w.heap.size ≤ x := fun x hx => (HBO.out.a.foot hx).1
  refine ⟨⟨_, rfl⟩, qa, qb, ?_, TreeAt.mk (ps := []) (kv := .slice (some ⟨g4, 0, none⟩) 3 cc4) (vv := .slice (some ⟨g5', 0, none⟩) 3 cc5) (cv := .slice aca 0 acc) ?_ rfl, TreeAt.mk (ps := []) (by rw [e3]; exact HBO.out.b.mono (fun k hk => .inr (Nat.le_trans ho1 hk.1))) rfl, HBO.out.only⟩
  ·
   have hn := HBO.out.n
   rw [e2, List.map_set, List.map_set, List.map_set, List.map_set, ← y1, ← y2]
   exact hn
  ·
   rw [e1]
   have ha := HBO.out.a
   rw [x1, x2] at ha
   refine Wk.nd (B := w.heap.size) (ps := []) ?_ (fun x hx => .inr (hge x hx))
   rw [List.map_append, List.map_append, HJD.out]
   exact ha
 | succ h =>
  have hkB : Kids (TreeAt w F h) b.2 psb := HKB.out
  have hkA : Kids (TreeAt w F h) a.2 psa := HKA.out
  have hbl2 : b.2.length = m + 2 := by have := HOB.out.2.2.1; have := HM.out; have h3 : b.es = b.1 := rfl; rw [h3] at this; omega
  have hpb : psb.length = m + 1 + 1 := by rw [hkB.1, hbl2]
  have hpa3 : psa.length = 3 := by have := HOA.out.2.2.1; have h3 : a.es = a.1 := rfl; rw [h3] at ha2; rw [hkA.1]; omega
  obtain ⟨pl, hpl⟩ : ∃ pl, psb[0]? = some pl := ⟨_, List.getElem?_eq_getElem (by omega)⟩
  obtain ⟨cl, hcl⟩ : ∃ cl, b.2[0]? = some cl := ⟨_, List.getElem?_eq_getElem (by omega)⟩
  obtain ⟨cba, cbc, rfl, cb1, cb2⟩ := Rd.slice HBO.out.b.rc.rd
  obtain ⟨cbb, cbo, rfl, -, -, hcbm⟩ := HBO.out.b.rc.at (ptrs_get hpl)
  rw [Nat.add_zero] at hcbm
  have hcbF := (HBO.out.b.rc.ty _ _ _ rfl).1
  simp only at hcbF
  rw [hpb] at bc2 cb1
  rw [hpa3] at a2'
  have HPB := Lib.hid hpb
  have HPA := Lib.hid hpa3
  have HKL := Lib.hid (And.intro hpl hcl)
  have r2 : (0 : Int) < (m : Int) + 1 + 1 := by omega
  have r5 : (1 : Int) ≤ (cbc : Int) := by omega
  have r6 : ¬ cbc = 1 := by omega
  have r7 : (1 : Int) ≤ (m : Int) + 1 + 1 := by omega
  have haK := HBO.out.drew.a.c
  rw [List.length_map, HPA.out] at haK
  have hsz0 : w.heap.size ≤ X7.drew.heap.size := Nat.le_trans (Nat.le_trans ho1 ho2) HBO.out.drew.o3
  have HAK := Lib.hid haK
  clear hkB hkA hbl2 hpb hpa3 hpl hcl haK
  go_upto_region 16 with fail
  refine region_m [(0, false), (1, false), (2, false), (3, false), (4, false), (5, false), (6, false), (7, false), (8, false), (9, false), (10, false), (11, true), (12, true)] 13 (fun V => V.cell? ⟨qa, 2, none⟩ = some (.slice aca 3 acc) ∧ V.cell? ⟨qb, 2, none⟩ = some (.slice (some ⟨cbb, cbo, none⟩) (m + 1 + 1) cbc) ∧ V.cell? ⟨cbb, cbo, none⟩ = some (.pointer (some ⟨pl, 0, none⟩))) (by kernel_rfl) (by kernel_rfl) ⟨a2', bc2, hcbm⟩ ?_
  iterate 11
   refine m_take (v := ?_) rfl rfl ?_ ?_
   rotate_left
   ·
     intro W hW
     go_simp
     with_reducible rfl
   simp only [Act.put, List.setIfInBounds_toArray, List.set_cons_zero, List.set_cons_succ]
  refine m_loud rfl (fun K hK => ?_)
  have HK := Lib.hid hK
  clear hK
  go_simp
  have hbl := below_alloc X7.drew (.cells #[.pointer (some ⟨pl, 0, none⟩)] 63)
  refine HK.out _ _ ⟨cell_later hbl a2', cell_later hbl bc2, cell_later hbl hcbm⟩ ?_
  clear HK
  refine m_app tyP (ownsRow_below HAK.out hbl (Nat.le_refl _)) (Rd.lit (w := X7.drew) (cs := #[.pointer (some ⟨pl, 0, none⟩)]) (e := 63) (n := 1) (sz := 1) rfl (by omega)) (fun u hu => by rw [List.mem_singleton.1 hu]; rfl) (by omega) (by omega) (by omega) (Nat.le_trans hsz0 hbl.size) rfl rfl rfl rfl rfl ?_
  intro g9 cc9 w9 hm9 hm9' hg9 hn9
  have hik := HBO.out.drew.a.appC 3 4 (by rw [List.length_map]; exact HPA.out.symm) rfl _ hm9 (by rw [HPA.out]; exact hg9) (by rw [HPA.out]; exact hn9)
  rw [HPA.out] at hik
  have hc0 := hik.c0
  have hfz := hik.fz
  have HI := Lib.hid hik
  refine ⟨⟨hc0, hik.cell (by rw [← HPA.out]; exact HBO.out.drew.qaB hqF.1 hqF.2) bc2, hik.cell (by rw [← HPA.out]; exact HBO.out.drew.qaB hcbF.1 hcbF.2) hcbm⟩, ?_⟩
  clear hik hm9 hm9' hg9 hn9
  refine m_done ?_
  simp only [List.drop_succ_cons, List.drop_zero]
  go_upto_region 17 with fail
  simp only [NP]
  go_upto_region 17 with fail
  have hbo := HBO.out.drew.doA HI.out.wk (by rw [HPA.out]; exact HI.out.only) (by rw [HPA.out]; exact HI.out.new)
  generalize w9.setCell ⟨qa, 2, none⟩ (.slice (some ⟨g9, 0, none⟩) 4 cc9) = X9 at *
  clear HI HAK hc0 hfz hcbm hsz0
  clear a0 a1 a2' az n0 n1 n2 nz bc0 bc1 bc2 bfz HBO
  (try clear hnk); (try clear hnv); (try clear hkbm); (try clear hvbm)
  obtain ⟨a0, a1, a2', -, az⟩ := hbo.a.cells
  obtain ⟨n0, n1, n2, -, nz⟩ := hbo.n.cells
  have bc0 := hbo.b.c0
  have bc1 := hbo.b.c1
  have bc2 := hbo.b.c2
  have bfz := hbo.b.fz
  have HBO := Lib.hid hbo
  have bf2 := bfz 2
  have hrc := hbo.b.rc
  rw [HPB.out] at bc2 hrc
  have hrc := hrc.drop1
  have hlm : (psb.drop 1).length = m + 1 := by rw [List.length_drop, HPB.out]; omega
  rw [← List.map_drop] at hrc
  have hb10 := hbo.doB (NdAt.setC hbo.b (ps' := psb.drop 1) (cv' := .slice (some ⟨cbb, cbo + 1, none⟩) (m + 1) (cbc - 1)) (by rw [hlm]; exact hrc)) (only_set _ _ _ _)
  have HB10 := Lib.hid hb10
  clear hbo hrc hlm hbl hb10
  go_wp2_with fail
  go_end0
  obtain ⟨⟨x1, x2⟩, y1, y2⟩ := HXY.out
  obtain ⟨e1, e2, e3⟩ := HE.out
  have hbt := HB10.out
  generalize X9.setCell ⟨qb, 2, none⟩ (.slice (some ⟨cbb, cbo + 1, none⟩) (m + 1) (cbc - 1)) = Y at *
  have hge : ∀ x, wkB qa (.slice (some ⟨g4, 0, none⟩) 3 cc4) (.slice (some ⟨g5', 0, none⟩) 3 cc5) (.slice (some ⟨g9, 0, none⟩) 4 cc9) x → w.heap.size ≤ x := fun x hx => (hbt.a.foot hx).1
  have hfr : Fr F w Y := Fr.of_only hbt.only HF.out
  have hkB : Kids (TreeAt Y F h) b.2 psb := Kids.fr hfr HKB.out
  have hkA : Kids (TreeAt Y F h) a.2 psa := Kids.fr hfr HKA.out
  have hcl := hkB.2 _ _ _ HKL.out.2 HKL.out.1
  have ht1 : ∀ {α : Type} (l : List α) (x : α), l[0]? = some x → l.take 1 = [x] := fun l x hx => by
   cases l with
   | nil => simp at hx
   | cons y l => simp at hx; simp [hx]
  refine ⟨⟨_, rfl⟩, qa, qb, ?_, TreeAt.mk (ps := psa ++ [pl]) (kv := .slice (some ⟨g4, 0, none⟩) 3 cc4) (vv := .slice (some ⟨g5', 0, none⟩) 3 cc5) (cv := .slice (some ⟨g9, 0, none⟩) 4 cc9) ?_ ?_, TreeAt.mk (ps := psb.drop 1) (by rw [e3]; exact hbt.b.mono (fun k hk => .inr (Nat.le_trans ho1 hk.1))) ?_, hbt.only⟩
  ·
   have hn := hbt.n
   rw [e2, List.map_set, List.map_set, List.map_set, List.map_set, ← y1, ← y2]
   exact hn
  ·
   rw [e1]
   have ha := hbt.a
   rw [x1, x2] at ha
   refine Wk.nd (B := w.heap.size) (ps := psa ++ [pl]) ?_ (fun x hx => .inr (hge x hx))
   rw [List.map_append, List.map_append, List.map_append, HJD.out]
   exact ha
  ·
   show Kids _ (a.2 ++ b.2.take 1) (psa ++ [pl])
   rw [ht1 b.2 cl HKL.out.2]
   exact Kids.mono (fun k hk => .inl hk) (hkA.append (Kids.cons hcl Kids.nil))
  ·
   show Kids _ (b.2.drop 1) (psb.drop 1)
   exact Kids.mono (fun k hk => .inl hk) (hkB.drop 1)
end Go.Proofs.Ytmafnjidhjabgaa
namespace Go.Proofs.Ytmafnjidhjabgaa
open Go.RowKit Go.Shelf
set_option linter.unusedVariables false
set_option linter.unusedSectionVars false
set_option linter.unusedSimpArgs false
set_option maxRecDepth 100000
variable [Inhabited Pgs]
section
variable {w : World} {B p : Nat} {kv vv cv : Value} {ks vs cs : List Value}
theorem Wk.delK {g m cap k : Nat} (h : Wk w B p (.slice (some ⟨g, 0, none⟩) (m + k) cap) vv cv ks vs cs) (h1 : ∀ u ∈ ks, u.oneCell' = true) (hl : ks.length = m + k) (i : Nat) (jv : Int) (hi : i ≤ m) (hk : 1 ≤ k) (hm : m + k ≤ 1000000) (hj : jv = (i : Int) + (k : Int)) :
  Calls Try.prog 60 #[.slice (some ⟨g, 0, none⟩) (m + k) cap, .int .i64 i, .int .i64 jv] w fun e w' => e = .returned (.slice (some ⟨g, 0, none⟩) m cap) ∧ InsK w B p (.slice (some ⟨g, 0, none⟩) (m + k) cap) vv cv (ks.take i ++ ks.drop (i + k)) vs cs (.slice (some ⟨g, 0, none⟩) m cap) w' := by
 have ho := h.k
 rw [hl] at ho
 refine (delS_many g cap m k i B jv ks w ho h1 hi hk hm hj).mono ?_
 rintro e w' ⟨rfl, ho', hg⟩
 have hon : Only (fun j => (Value.slice (some ⟨g, 0, none⟩) (m + k) cap).ownBlock = some j) w w' := Only.of_grown hg
 obtain ⟨c0, -, -, fz⟩ := h.keep hon (fun e => h.kp e rfl)
 have hll : (ks.take i ++ ks.drop (i + k)).length = m := by rw [List.length_append, List.length_take, List.length_drop]; omega
 obtain ⟨k1, k2⟩ := h.setK (Only.refl _ w) (v' := .slice (some ⟨g, 0, none⟩) m cap) (xs := ks.take i ++ ks.drop (i + k)) (by rw [hll]; exact ho') hon (fun j hj => .inl hj)
 exact ⟨rfl, k1, k2, c0, fz 0, fun j hj => .inl hj⟩
theorem Wk.delV {g m cap k : Nat} (h : Wk w B p kv (.slice (some ⟨g, 0, none⟩) (m + k) cap) cv ks vs cs) (h1 : ∀ u ∈ vs, u.oneCell' = true) (hl : vs.length = m + k) (i : Nat) (jv : Int) (hi : i ≤ m) (hk : 1 ≤ k) (hm : m + k ≤ 1000000) (hj : jv = (i : Int) + (k : Int)) :
  Calls Try.prog 60 #[.slice (some ⟨g, 0, none⟩) (m + k) cap, .int .i64 i, .int .i64 jv] w fun e w' => e = .returned (.slice (some ⟨g, 0, none⟩) m cap) ∧ InsV w B p kv (.slice (some ⟨g, 0, none⟩) (m + k) cap) cv ks (vs.take i ++ vs.drop (i + k)) cs (.slice (some ⟨g, 0, none⟩) m cap) w' := by
 have ho := h.v
 rw [hl] at ho
 refine (delS_many g cap m k i B jv vs w ho h1 hi hk hm hj).mono ?_
 rintro e w' ⟨rfl, ho', hg⟩
 have hon : Only (fun j => (Value.slice (some ⟨g, 0, none⟩) (m + k) cap).ownBlock = some j) w w' := Only.of_grown hg
 obtain ⟨-, c0, -, fz⟩ := h.keep hon (fun e => h.vp e rfl)
 have hll : (vs.take i ++ vs.drop (i + k)).length = m := by rw [List.length_append, List.length_take, List.length_drop]; omega
 obtain ⟨k1, k2⟩ := h.setV (Only.refl _ w) (v' := .slice (some ⟨g, 0, none⟩) m cap) (xs := vs.take i ++ vs.drop (i + k)) (by rw [hll]; exact ho') hon (fun j hj => .inl hj)
 exact ⟨rfl, k1, k2, c0, fz 1, fun j hj => .inl hj⟩
theorem Wk.delC {g m cap k : Nat} (h : Wk w B p kv vv (.slice (some ⟨g, 0, none⟩) (m + k) cap) ks vs cs) (h1 : ∀ u ∈ cs, u.oneCell' = true) (hl : cs.length = m + k) (i : Nat) (jv : Int) (hi : i ≤ m) (hk : 1 ≤ k) (hm : m + k ≤ 1000000) (hj : jv = (i : Int) + (k : Int)) :
  Calls Try.prog 88 #[.slice (some ⟨g, 0, none⟩) (m + k) cap, .int .i64 i, .int .i64 jv] w fun e w' => e = .returned (.slice (some ⟨g, 0, none⟩) m cap) ∧ InsC w B p kv vv (.slice (some ⟨g, 0, none⟩) (m + k) cap) ks vs (cs.take i ++ cs.drop (i + k)) (.slice (some ⟨g, 0, none⟩) m cap) w' := by
 have ho := h.c
 rw [hl] at ho
 refine (delP_many g cap m k i B jv cs w ho h1 hi hk hm hj).mono ?_
 rintro e w' ⟨rfl, ho', hg⟩
 have hon : Only (fun j => (Value.slice (some ⟨g, 0, none⟩) (m + k) cap).ownBlock = some j) w w' := Only.of_grown hg
 obtain ⟨-, -, c0, fz⟩ := h.keep hon (fun e => h.cp e rfl)
 have hll : (cs.take i ++ cs.drop (i + k)).length = m := by rw [List.length_append, List.length_take, List.length_drop]; omega
 obtain ⟨k1, k2⟩ := h.setC (Only.refl _ w) (v' := .slice (some ⟨g, 0, none⟩) m cap) (xs := cs.take i ++ cs.drop (i + k)) (by rw [hll]; exact ho') hon (fun j hj => .inl hj)
 exact ⟨rfl, k1, k2, c0, fz 2, fun j hj => .inl hj⟩
end
theorem Rd.own_mid {w : World} {base e n m g cap : Nat} {xs : List Value} {x : Value} (h : w.ownsRow base e 1 (.slice (some ⟨g, 0, none⟩) n cap) n xs) (hx : xs[m]? = some x) : Rd w 1 (.slice (some ⟨g, m, none⟩) 1 (cap - m)) 1 [x] := by
 have hl := h.1
 have hlt := (List.getElem?_eq_some_iff.1 hx).1
 obtain ⟨a, cap', hv, -, h1, h2, -⟩ := Rd.of_own h
 simp only [Value.slice.injEq] at hv
 obtain ⟨-, -, rfl⟩ := hv
 refine ⟨_, cap - m, rfl, rfl, by omega, by omega, .inr ⟨g, m, rfl, fun j u hj => ?_⟩⟩
 cases j with
 | zero =>
  simp only [List.getElem?_cons_zero, Option.some.injEq] at hj
  subst hj
  exact (own_cell h hx).1
 | succ j => simp at hj
theorem getD_set_same {l : Array Bool} {i : Nat} : (l.setIfInBounds i true).getD i true = true := by
 rw [Array.getD_eq_getD_getElem?, Array.getElem?_setIfInBounds]
 simp
 split <;> rfl
theorem getD_set_or {l : Array Bool} {i k : Nat} (h : (l.setIfInBounds i true).getD k true = true) (hk : k ≠ i) : l.getD k true = true := by
 rwa [getD_set_ne true (fun e => hk e.symm)] at h
theorem getD_set_mono {l : Array Bool} {i k : Nat} (h : l.getD k true = true) : (l.setIfInBounds i true).getD k true = true := by
 by_cases hk : k = i
 · subst hk; exact getD_set_same
 · rw [getD_set_ne true (fun e => hk e.symm)]; exact h
theorem not_yet {l : Array Bool} {i k : Nat} (h : l.getD k true = true → l.getD i true = true) (hi : l.getD i true = false) : l.getD k true = false := by
 cases e : l.getD k true
 · rfl
 · rw [h e] at hi; cases hi
theorem ready_dep {md : Region.Mode} {ops : Array Oper} {l : Array Bool} {i k : Nat} {o : Oper} (hi : i ∈ Region.ready md ops l) (ho : ops[i]? = some o) (he : ∃ e ∈ o.after, Region.binds md e = true ∧ e.on = k) : l.getD k true = true := by
 obtain ⟨-, oj, hoj, hall⟩ := mem_ready.1 hi
 rw [ho] at hoj
 cases hoj
 obtain ⟨e, he, hb, rfl⟩ := he
 have h := hall e he hb
 rw [Array.getD_eq_getD_getElem?] at h ⊢
 cases hx : l[e.on]? with
 | none => rfl
 | some b => rw [hx] at h; simpa using h
theorem no_way {p : Prop} {l : Array Bool} {i k : Nat} (h : (l.setIfInBounds i true).getD k true = true) (hk : k ≠ i) (h0 : l.getD k true = false) : p := by
 have := getD_set_or h hk
 rw [h0] at this
 cases this
structure JS (X : World) (r1 r2 r3 : List Value) (KS VS CS : List Value) (l : Array Bool) (v16 v17 v34 v35 v44 v45 v46 v47 : Value) (W : World) : Prop where
 all : ∀ k, k ≠ 16 → k ≠ 17 → k ≠ 34 → k ≠ 35 → k ≠ 44 → k ≠ 45 → k ≠ 46 → k ≠ 47 → l.getD k true = true
 b : Below X.heap.size X W
 p16 : l.getD 16 true = true → Rd W 1 v16 3 r1 ∧ ∃ a c, v16 = .slice a 3 c
 p17 : l.getD 17 true = true → W.ownsRow X.heap.size 9 1 v17 KS.length KS
 p34 : l.getD 34 true = true → Rd W 1 v34 3 r2 ∧ ∃ a c, v34 = .slice a 3 c
 p35 : l.getD 35 true = true → W.ownsRow X.heap.size 9 1 v35 VS.length VS ∧ ∀ j, v17.ownBlock = some j → v35.ownBlock ≠ some j
 p44 : l.getD 44 true = true → Rd W 1 v44 2 r3 ∧ ∃ a c, v44 = .slice a 2 c
 p45 : l.getD 45 true = true → W.ownsRow X.heap.size 63 1 v45 CS.length CS
 p46 : l.getD 46 true = true → ∃ p, v46 = ptrV p ∧ Wk W X.heap.size p v17 v35 v45 KS VS CS
 p47 : l.getD 47 true = true → v47 = v46
 d35 : l.getD 35 true = true → l.getD 17 true = true
 d46 : l.getD 46 true = true → l.getD 17 true = true ∧ l.getD 35 true = true ∧ l.getD 45 true = true
 d47 : l.getD 47 true = true → l.getD 46 true = true
 sz : l.size = 48
section
variable {X W W' : World} {r1 r2 r3 KS VS CS : List Value} {l : Array Bool} {v16 v17 v34 v35 v44 v45 v46 v47 v : Value}
theorem JS.below (h : JS X r1 r2 r3 KS VS CS l v16 v17 v34 v35 v44 v45 v46 v47 W) (hb : Below W.heap.size W W') : JS X r1 r2 r3 KS VS CS l v16 v17 v34 v35 v44 v45 v46 v47 W' :=
 ⟨h.all, below_go h.b hb, fun k => ⟨(h.p16 k).1.below hb (Nat.le_refl _), (h.p16 k).2⟩, fun k => ownsRow_below (h.p17 k) hb (Nat.le_refl _), fun k => ⟨(h.p34 k).1.below hb (Nat.le_refl _), (h.p34 k).2⟩, fun k => ⟨ownsRow_below (h.p35 k).1 hb (Nat.le_refl _), (h.p35 k).2⟩,
  fun k => ⟨(h.p44 k).1.below hb (Nat.le_refl _), (h.p44 k).2⟩, fun k => ownsRow_below (h.p45 k) hb (Nat.le_refl _), fun k => by obtain ⟨p, h1, h2⟩ := h.p46 k; exact ⟨p, h1, h2.below hb⟩, h.p47, h.d35, h.d46, h.d47, h.sz⟩
theorem JS.all' (h : JS X r1 r2 r3 KS VS CS l v16 v17 v34 v35 v44 v45 v46 v47 W) (i : Nat) : ∀ k, k ≠ 16 → k ≠ 17 → k ≠ 34 → k ≠ 35 → k ≠ 44 → k ≠ 45 → k ≠ 46 → k ≠ 47 → (l.setIfInBounds i true).getD k true = true := fun k a b c d e f g m => by
 by_cases hk : k = i
 · subst hk; exact getD_set_same
 · rw [getD_set_ne true (fun e => hk e.symm)]; exact h.all k a b c d e f g m
theorem JS.s16 (h : JS X r1 r2 r3 KS VS CS l v16 v17 v34 v35 v44 v45 v46 v47 W) (hb : Below W.heap.size W W') (hv : Rd W' 1 v 3 r1 ∧ ∃ a c, v = .slice a 3 c) : JS X r1 r2 r3 KS VS CS (l.setIfInBounds 16 true) v v17 v34 v35 v44 v45 v46 v47 W' :=
 have H := h.below hb
 ⟨h.all' 16, H.b, fun _ => hv, fun k => H.p17 (getD_set_or k (by omega)), fun k => H.p34 (getD_set_or k (by omega)), fun k => H.p35 (getD_set_or k (by omega)), fun k => H.p44 (getD_set_or k (by omega)), fun k => H.p45 (getD_set_or k (by omega)), fun k => H.p46 (getD_set_or k (by omega)), fun k => H.p47 (getD_set_or k (by omega)), fun k => getD_set_mono (h.d35 (getD_set_or k (by omega))), fun k => ⟨getD_set_mono (h.d46 (getD_set_or k (by omega))).1, getD_set_mono (h.d46 (getD_set_or k (by omega))).2.1, getD_set_mono (h.d46 (getD_set_or k (by omega))).2.2⟩, fun k => getD_set_mono (h.d47 (getD_set_or k (by omega))), by rw [Array.size_setIfInBounds]; exact h.sz⟩
theorem JS.s34 (h : JS X r1 r2 r3 KS VS CS l v16 v17 v34 v35 v44 v45 v46 v47 W) (hb : Below W.heap.size W W') (hv : Rd W' 1 v 3 r2 ∧ ∃ a c, v = .slice a 3 c) : JS X r1 r2 r3 KS VS CS (l.setIfInBounds 34 true) v16 v17 v v35 v44 v45 v46 v47 W' :=
 have H := h.below hb
 ⟨h.all' 34, H.b, fun k => H.p16 (getD_set_or k (by omega)), fun k => H.p17 (getD_set_or k (by omega)), fun _ => hv, fun k => H.p35 (getD_set_or k (by omega)), fun k => H.p44 (getD_set_or k (by omega)), fun k => H.p45 (getD_set_or k (by omega)), fun k => H.p46 (getD_set_or k (by omega)), fun k => H.p47 (getD_set_or k (by omega)), fun k => getD_set_mono (h.d35 (getD_set_or k (by omega))), fun k => ⟨getD_set_mono (h.d46 (getD_set_or k (by omega))).1, getD_set_mono (h.d46 (getD_set_or k (by omega))).2.1, getD_set_mono (h.d46 (getD_set_or k (by omega))).2.2⟩, fun k => getD_set_mono (h.d47 (getD_set_or k (by omega))), by rw [Array.size_setIfInBounds]; exact h.sz⟩
theorem JS.s44 (h : JS X r1 r2 r3 KS VS CS l v16 v17 v34 v35 v44 v45 v46 v47 W) (hb : Below W.heap.size W W') (hv : Rd W' 1 v 2 r3 ∧ ∃ a c, v = .slice a 2 c) : JS X r1 r2 r3 KS VS CS (l.setIfInBounds 44 true) v16 v17 v34 v35 v v45 v46 v47 W' :=
 have H := h.below hb
 ⟨h.all' 44, H.b, fun k => H.p16 (getD_set_or k (by omega)), fun k => H.p17 (getD_set_or k (by omega)), fun k => H.p34 (getD_set_or k (by omega)), fun k => H.p35 (getD_set_or k (by omega)), fun _ => hv, fun k => H.p45 (getD_set_or k (by omega)), fun k => H.p46 (getD_set_or k (by omega)), fun k => H.p47 (getD_set_or k (by omega)), fun k => getD_set_mono (h.d35 (getD_set_or k (by omega))), fun k => ⟨getD_set_mono (h.d46 (getD_set_or k (by omega))).1, getD_set_mono (h.d46 (getD_set_or k (by omega))).2.1, getD_set_mono (h.d46 (getD_set_or k (by omega))).2.2⟩, fun k => getD_set_mono (h.d47 (getD_set_or k (by omega))), by rw [Array.size_setIfInBounds]; exact h.sz⟩
theorem JS.s17 (h : JS X r1 r2 r3 KS VS CS l v16 v17 v34 v35 v44 v45 v46 v47 W) (hb : Below W.heap.size W W') (hv : W'.ownsRow W.heap.size 9 1 v KS.length KS) (hu : l.getD 17 true = false) : JS X r1 r2 r3 KS VS CS (l.setIfInBounds 17 true) v16 v v34 v35 v44 v45 v46 v47 W' :=
 have H := h.below hb
 ⟨h.all' 17, H.b, fun k => H.p16 (getD_set_or k (by omega)), fun _ => ownsRow_mono hv h.b.size, fun k => H.p34 (getD_set_or k (by omega)), fun k => no_way k (by omega) (not_yet h.d35 hu), fun k => H.p44 (getD_set_or k (by omega)), fun k => H.p45 (getD_set_or k (by omega)), fun k => no_way k (by omega) (not_yet (fun e => (h.d46 e).1) hu), fun k => H.p47 (getD_set_or k (by omega)), fun _ => getD_set_same, fun k => no_way k (by omega) (not_yet (fun e => (h.d46 e).1) hu), fun k => getD_set_mono (h.d47 (getD_set_or k (by omega))), by rw [Array.size_setIfInBounds]; exact h.sz⟩
theorem JS.s35 (h : JS X r1 r2 r3 KS VS CS l v16 v17 v34 v35 v44 v45 v46 v47 W) (hb : Below W.heap.size W W') (hv : W'.ownsRow W.heap.size 9 1 v VS.length VS) (h17 : l.getD 17 true = true) (hu : l.getD 35 true = false) : JS X r1 r2 r3 KS VS CS (l.setIfInBounds 35 true) v16 v17 v34 v v44 v45 v46 v47 W' :=
 have H := h.below hb
 ⟨h.all' 35, H.b, fun k => H.p16 (getD_set_or k (by omega)), fun k => H.p17 (getD_set_or k (by omega)), fun k => H.p34 (getD_set_or k (by omega)), fun _ => ⟨ownsRow_mono hv h.b.size, fun j hj hj2 => by
  have h1 := (World.ownsRow.lt (h.p17 h17) j hj).2
  have h2 := (World.ownsRow.lt hv j hj2).1
  omega⟩, fun k => H.p44 (getD_set_or k (by omega)), fun k => H.p45 (getD_set_or k (by omega)), fun k => no_way k (by omega) (not_yet (fun e => (h.d46 e).2.1) hu), fun k => H.p47 (getD_set_or k (by omega)), fun _ => getD_set_mono h17, fun k => no_way k (by omega) (not_yet (fun e => (h.d46 e).2.1) hu), fun k => getD_set_mono (h.d47 (getD_set_or k (by omega))), by rw [Array.size_setIfInBounds]; exact h.sz⟩
theorem JS.s45 (h : JS X r1 r2 r3 KS VS CS l v16 v17 v34 v35 v44 v45 v46 v47 W) (hb : Below W.heap.size W W') (hv : W'.ownsRow W.heap.size 63 1 v CS.length CS) (hu : l.getD 45 true = false) : JS X r1 r2 r3 KS VS CS (l.setIfInBounds 45 true) v16 v17 v34 v35 v44 v v46 v47 W' :=
 have H := h.below hb
 ⟨h.all' 45, H.b, fun k => H.p16 (getD_set_or k (by omega)), fun k => H.p17 (getD_set_or k (by omega)), fun k => H.p34 (getD_set_or k (by omega)), fun k => H.p35 (getD_set_or k (by omega)), fun k => H.p44 (getD_set_or k (by omega)), fun _ => ownsRow_mono hv h.b.size, fun k => no_way k (by omega) (not_yet (fun e => (h.d46 e).2.2) hu), fun k => H.p47 (getD_set_or k (by omega)), fun k => getD_set_mono (h.d35 (getD_set_or k (by omega))), fun k => no_way k (by omega) (not_yet (fun e => (h.d46 e).2.2) hu), fun k => getD_set_mono (h.d47 (getD_set_or k (by omega))), by rw [Array.size_setIfInBounds]; exact h.sz⟩
theorem JS.s46 (h : JS X r1 r2 r3 KS VS CS l v16 v17 v34 v35 v44 v45 v46 v47 W) (h17 : l.getD 17 true = true) (h35 : l.getD 35 true = true) (h45 : l.getD 45 true = true) (hu : l.getD 46 true = false) : JS X r1 r2 r3 KS VS CS (l.setIfInBounds 46 true) v16 v17 v34 v35 v44 v45 (ptrV W.heap.size) v47 (W.alloc (.cells #[v17, v35, v45, .int .i64 (-1)] 91)) :=
 have H := h.below (below_alloc W (.cells #[v17, v35, v45, .int .i64 (-1)] 91))
 ⟨h.all' 46, H.b, fun k => H.p16 (getD_set_or k (by omega)), fun k => H.p17 (getD_set_or k (by omega)), fun k => H.p34 (getD_set_or k (by omega)), fun k => H.p35 (getD_set_or k (by omega)), fun k => H.p44 (getD_set_or k (by omega)), fun k => H.p45 (getD_set_or k (by omega)), fun _ => ⟨_, rfl, Wk.make (h.p17 h17) (h.p35 h35).1 (h.p45 h45) (h.p35 h35).2 h.b.size⟩, fun k => no_way k (by omega) (not_yet h.d47 hu), fun k => getD_set_mono (h.d35 (getD_set_or k (by omega))), fun _ => ⟨getD_set_mono h17, getD_set_mono h35, getD_set_mono h45⟩, fun k => getD_set_same, by rw [Array.size_setIfInBounds]; exact h.sz⟩
theorem JS.s47 (h : JS X r1 r2 r3 KS VS CS l v16 v17 v34 v35 v44 v45 v46 v47 W) (h46 : l.getD 46 true = true) : JS X r1 r2 r3 KS VS CS (l.setIfInBounds 47 true) v16 v17 v34 v35 v44 v45 v46 v46 W :=
 ⟨h.all' 47, h.b, fun k => h.p16 (getD_set_or k (by omega)), fun k => h.p17 (getD_set_or k (by omega)), fun k => h.p34 (getD_set_or k (by omega)), fun k => h.p35 (getD_set_or k (by omega)), fun k => h.p44 (getD_set_or k (by omega)), fun k => h.p45 (getD_set_or k (by omega)), fun k => h.p46 (getD_set_or k (by omega)), fun _ => rfl, fun k => getD_set_mono (h.d35 (getD_set_or k (by omega))), fun k => ⟨getD_set_mono (h.d46 (getD_set_or k (by omega))).1, getD_set_mono (h.d46 (getD_set_or k (by omega))).2.1, getD_set_mono (h.d46 (getD_set_or k (by omega))).2.2⟩, fun _ => getD_set_mono h46, by rw [Array.size_setIfInBounds]; exact h.sz⟩
end
def mk11 : Array Bool := markQ [0, 1, 2, 3, 4, 5, 6, 7, 8, 9, 10, 11, 12, 13, 14, 15, 18, 19, 20, 21, 22, 23, 24, 25, 26, 27, 28, 29, 30, 31, 32, 33, 36, 37, 38, 39, 40, 41, 42, 43] (Array.replicate 48 false)
theorem mk11_list : mk11 = #[true, true, true, true, true, true, true, true, true, true, true, true, true, true, true, true, false, false, true, true, true, true, true, true, true, true, true, true, true, true, true, true, true, true, false, false, true, true, true, true, true, true, true, true, false, false, false, false] := by kernel_rfl
theorem mk11_all : ∀ k, k ≠ 16 → k ≠ 17 → k ≠ 34 → k ≠ 35 → k ≠ 44 → k ≠ 45 → k ≠ 46 → k ≠ 47 → mk11.getD k true = true := by
 intro k a b c d e f g m
 rw [mk11_list]
 by_cases hk : k < 48
 ·
  have h : ∀ k, k < 48 → k = 16 ∨ k = 17 ∨ k = 34 ∨ k = 35 ∨ k = 44 ∨ k = 45 ∨ k = 46 ∨ k = 47 ∨ (#[true, true, true, true, true, true, true, true, true, true, true, true, true, true, true, true, false, false, true, true, true, true, true, true, true, true, true, true, true, true, true, true, true, true, false, false, true, true, true, true, true, true, true, true, false, false, false, false] : Array Bool).getD k true = true := by decide
  rcases h k hk with h | h | h | h | h | h | h | h | h <;> first | exact absurd h (by assumption) | exact h
 ·
  rw [Array.getD_eq_getD_getElem?, Array.getElem?_eq_none (by simp; omega)]
  rfl
theorem mk11_no : mk11.getD 16 true = false ∧ mk11.getD 17 true = false ∧ mk11.getD 34 true = false ∧ mk11.getD 35 true = false ∧ mk11.getD 44 true = false ∧ mk11.getD 45 true = false ∧ mk11.getD 46 true = false ∧ mk11.getD 47 true = false := by
 rw [mk11_list]
 exact ⟨rfl, rfl, rfl, rfl, rfl, rfl, rfl, rfl⟩
theorem no_yet {p : Prop} {l : Array Bool} {k : Nat} (h0 : l.getD k true = false) (h : l.getD k true = true) : p := by
 rw [h0] at h
 cases h
theorem JS.start (X : World) (r1 r2 r3 KS VS CS : List Value) (v16 v17 v34 v35 v44 v45 v46 v47 : Value) (W : World) (hb : Below X.heap.size X W) : JS X r1 r2 r3 KS VS CS mk11 v16 v17 v34 v35 v44 v45 v46 v47 W := by
 obtain ⟨n16, n17, n34, n35, n44, n45, n46, n47⟩ := mk11_no
 exact ⟨mk11_all, hb, no_yet n16, no_yet n17, no_yet n34, no_yet n35, no_yet n44, no_yet n45, no_yet n46, no_yet n47, no_yet n35, no_yet n46, no_yet n47, by rw [mk11_list]; rfl⟩
end Go.Proofs.Ytmafnjidhjabgaa
namespace Go.Proofs.Ytmafnjidhjabgaa
open Go.RowKit Go.Shelf
set_option linter.unusedVariables false
set_option linter.unusedSectionVars false
set_option linter.unusedSimpArgs false
set_option maxRecDepth 100000
variable [Inhabited Pgs]
def FillOut (w : World) (B q : Nat) (kv vv cv : Value) (F : Nat → Prop) (h : Nat) (r : List KV × List (BT h)) (e : Ending) (w' : World) : Prop :=
 (∃ v, e = .returned v) ∧ ∃ kv' vv' cv' ps', Wk w' B q kv' vv' cv' (r.1.map fun e => strV e.1) (r.1.map fun e => strV e.2) (ps'.map ptrV) ∧
  Kids (TreeAt w' (fun k => F k ∨ w.heap.size ≤ k) h) r.2 ps' ∧ Only (wkB q kv vv cv) w w'
structure FillIn (w : World) (B q : Nat) (kv vv cv : Value) (F : Nat → Prop) (h : Nat) (es : List KV) (ks : List (BT h)) (ps : List Nat) (i : Nat) : Prop where
 wk : Wk w B q kv vv cv (es.map fun e => strV e.1) (es.map fun e => strV e.2) (ps.map ptrV)
 dj : ∀ k, F k → k < w.heap.size → ¬ wkB q kv vv cv k
 kids : Kids (TreeAt w F h) ks ps
 len : ks.length = es.length + 1
 lo : 1 ≤ es.length
 hi : es.length ≤ 7
 il : i < ks.length
 oth : ∀ j c, j ≠ i → ks[j]? = some c → BT.Ok h 3 c
 own : ∀ c, ks[i]? = some c → BT.Ok h 2 c
theorem FillIn.kid {w : World} {B q : Nat} {kv vv cv : Value} {F : Nat → Prop} {h : Nat} {es : List KV} {ks : List (BT h)} {ps : List Nat} {i : Nat} (f : FillIn w B q kv vv cv F h es ks ps i) {j : Nat} (hj : j < ks.length) :
  ∃ c p, ks[j]? = some c ∧ ps[j]? = some p ∧ TreeAt w F h c p ∧ kLen ks j = c.es.length ∧ c.es.length ≤ 7 := by
 have hl := f.kids.1
 have hc : ks[j]? = some ks[j] := List.getElem?_eq_getElem hj
 have hp : ps[j]? = some ps[j] := List.getElem?_eq_getElem (by omega)
 refine ⟨_, _, hc, hp, f.kids.2 _ _ _ hc hp, kLen_at hc, ?_⟩
 by_cases e : j = i
 · subst e; exact (f.own _ hc).es.2
 · exact (f.oth j _ e hc).es.2
theorem FillIn.cells {w : World} {B q : Nat} {kv vv cv : Value} {F : Nat → Prop} {h : Nat} {es : List KV} {ks : List (BT h)} {ps : List Nat} {i : Nat} (f : FillIn w B q kv vv cv F h es ks ps i) {j : Nat} (hj : j < ks.length) :
  ∃ g c p a c', w.cell? ⟨q, 2, none⟩ = some (.slice (some ⟨g, 0, none⟩) ks.length c) ∧ ks.length ≤ c ∧ c ≤ 9223372036854775807 ∧ w.cell? ⟨g, j, none⟩ = some (.pointer (some ⟨p, 0, none⟩)) ∧ w.cell? ⟨p, 0, none⟩ = some (.slice a (kLen ks j) c') := by
 obtain ⟨c, p, hc, hp, ht, hk, -⟩ := f.kid hj
 obtain ⟨kv1, vv1, cv1, ps1, hn, -⟩ := ht.top
 obtain ⟨-, -, c2, -, -⟩ := f.wk.cells
 have hcr := f.wk.c
 obtain ⟨ca, cc, hcv⟩ := own_slice f.wk.c
 rw [List.length_map] at hcv hcr
 subst hcv
 have hl := f.kids.1
 obtain ⟨g, rfl, g1, g2, g3, g4, g5⟩ := own_some hcr (by omega)
 obtain ⟨ka, kc, rfl, -, -⟩ := Rd.slice hn.rk.rd
 refine ⟨g, cc, p, ka, kc, by rw [← hl]; exact c2, by omega, g2, g4 _ _ (ptrs_get hp), by rw [hk]; exact hn.c0⟩
theorem FillIn.below {w w' : World} {B q : Nat} {kv vv cv : Value} {F : Nat → Prop} {h : Nat} {es : List KV} {ks : List (BT h)} {ps : List Nat} {i : Nat} (f : FillIn w B q kv vv cv F h es ks ps i) (hF : ∀ k, F k → k < w.heap.size) (hb : Below w.heap.size w w') : FillIn w' B q kv vv cv F h es ks ps i :=
 ⟨f.wk.below hb, fun k hk _ => f.dj k hk (hF k hk), f.kids.fr (Fr.of_below hb), f.len, f.lo, f.hi, f.il, f.oth, f.own⟩
theorem FillOut.of {w w1 w' : World} {B q : Nat} {kv vv cv : Value} {F : Nat → Prop} {h : Nat} {r : List KV × List (BT h)} {e : Ending} (hb : Below w.heap.size w w1) (o : FillOut w1 B q kv vv cv F h r e w') : FillOut w B q kv vv cv F h r e w' := by
 obtain ⟨he, kv', vv', cv', ps', hw, hk, ho⟩ := o
 exact ⟨he, kv', vv', cv', ps', hw, hk.mono (fun k hk => hk.imp id (fun h => Nat.le_trans hb.size h)), (Only.of_below (S := wkB q kv vv cv) hb).trans ho (fun _ _ h => h)⟩
theorem fill_left {w w' : World} {B q : Nat} {kv vv cv : Value} {F : Nat → Prop} {h : Nat} {es : List KV} {ks : List (BT h)} {ps : List Nat} {i : Nat} (f : FillIn w B q kv vv cv F h es ks ps i) {a b : BT h} {e : Ending} (h1 : 1 ≤ i) (hb : ks[i - 1]? = some b) (ha : ks[i]? = some a)
  (o : BorrowOut w B q kv vv cv F h (es.set (i - 1) (giveR h b a (esD es (i - 1))).2.1) ps i (i - 1) (giveR h b a (esD es (i - 1))).2.2 (giveR h b a (esD es (i - 1))).1 e w') : FillOut w B q kv vv cv F h (fillL es ks i) e w' := by
 obtain ⟨he, qa, qb, hw, hta, htb, ho⟩ := o
 have hk : Kids (TreeAt w' (fun k => F k ∨ w.heap.size ≤ k) h) ks ps := (f.kids.fr (Fr.of_only ho f.dj)).mono (fun k hk => .inl hk)
 unfold fillL
 rw [hb, ha]
 refine ⟨he, kv, vv, cv, _, hw, ?_, ho⟩
 have hcomm : ∀ {α : Type} (l : List α) (x y : α), (l.set (i - 1) x).set i y = (l.set i y).set (i - 1) x := fun l x y => List.set_comm _ _ (by omega)
 show Kids _ ((ks.set (i - 1) _).set i _) _
 rw [hcomm]
 exact (hk.set i hta).set (i - 1) htb
theorem fill_right {w w' : World} {B q : Nat} {kv vv cv : Value} {F : Nat → Prop} {h : Nat} {es : List KV} {ks : List (BT h)} {ps : List Nat} {i : Nat} (f : FillIn w B q kv vv cv F h es ks ps i) {a b : BT h} {e : Ending} (ha : ks[i]? = some a) (hb : ks[i + 1]? = some b)
  (o : BorrowOut w B q kv vv cv F h (es.set i (giveL h a b (esD es i)).2.1) ps i (i + 1) (giveL h a b (esD es i)).1 (giveL h a b (esD es i)).2.2 e w') : FillOut w B q kv vv cv F h (fillR es ks i) e w' := by
 obtain ⟨he, qa, qb, hw, hta, htb, ho⟩ := o
 have hk : Kids (TreeAt w' (fun k => F k ∨ w.heap.size ≤ k) h) ks ps := (f.kids.fr (Fr.of_only ho f.dj)).mono (fun k hk => .inl hk)
 unfold fillR
 rw [ha, hb]
 exact ⟨he, kv, vv, cv, _, hw, (hk.set i hta).set (i + 1) htb, ho⟩
structure Chn (W : World) (q : Nat) (kv vv cv : Value) (X : World) (kv' vv' cv' : Value) : Prop where
 only : Only (wkB q kv vv cv) W X
 new : ∀ j, wkB q kv' vv' cv' j → wkB q kv vv cv j ∨ W.heap.size ≤ j
theorem Chn.refl (W : World) (q : Nat) (kv vv cv : Value) : Chn W q kv vv cv W kv vv cv := ⟨Only.refl _ _, fun _ h => .inl h⟩
theorem Chn.step {W X Y : World} {q : Nat} {kv vv cv kv1 vv1 cv1 kv2 vv2 cv2 : Value} (h : Chn W q kv vv cv X kv1 vv1 cv1) (ho : Only (wkB q kv1 vv1 cv1) X Y) (hn : ∀ j, wkB q kv2 vv2 cv2 j → wkB q kv1 vv1 cv1 j ∨ X.heap.size ≤ j) : Chn W q kv vv cv Y kv2 vv2 cv2 := by
 have hs := h.only.size
 refine ⟨h.only.trans ho (fun j hj hS => ?_), fun j hj => ?_⟩
 ·
  rcases h.new j hS with h1 | h1
  · exact h1
  · omega
 ·
  rcases hn j hj with h1 | h1
  · exact h.new j h1
  · exact .inr (by omega)
theorem fillJ_at {h : Nat} {es : List KV} {ks : List (BT h)} {j : Nat} {l r : BT h} (hl : ks[j]? = some l) (hr : ks[j + 1]? = some r) : fillJ es ks j = (es.take j ++ es.drop (j + 1), ks.take j ++ joinT h l r (esD es j) :: ks.drop (j + 2)) := by
 unfold fillJ
 rw [hl, hr]
theorem joinT_es {h : Nat} (l r : BT h) (e : KV) : (joinT h l r e).es = l.es ++ e :: r.es := by
 cases h <;> rfl
theorem ins_of_del {α : Type} (l : List α) (j : Nat) (x : α) (hj : j + 2 ≤ l.length) : insAt (l.take j ++ l.drop (j + 2)) j x = l.take j ++ x :: l.drop (j + 2) := by
 have h1 : (l.take j).length = j := by rw [List.length_take]; omega
 have := insAt_split (l.take j) (l.drop (j + 2)) x
 rw [h1] at this
 exact this
set_option maxHeartbeats 8000000 in
theorem fill_calls (B q i : Nat) (kv vv cv : Value) (F : Nat → Prop) (h : Nat) (es : List KV) (ks : List (BT h)) (ps : List Nat) (w : World) (f : FillIn w B q kv vv cv F h es ks ps i) (hF : ∀ k, F k → k < w.heap.size) :
  Calls Try.prog 62 #[ptrV q, .int .i64 i] w fun e w' => FillOut w B q kv vv cv F h (fillN es ks i) e w' := by
 have HF := Lib.hid f
 obtain ⟨g, c, p, a, c', hc2, hcl, hcm, hci, hk0⟩ := f.cells f.il
 have hi := f.il
 have hkl : ks.length ≤ 8 := by have := f.len; have := f.hi; omega
 have hpos : 0 < ks.length := by omega
 clear f
 unfold ptrV
 by_cases h3 : 3 ≤ kLen ks i
 ·
  have e : fillN es ks i = (es, ks) := by unfold fillN; rw [if_pos h3]
  rw [e]
  have hd : (3 : Int) ≤ (kLen ks i : Int) := by omega
  generalize kLen ks i = K at *
  go_enter Try.func62, Try.ntmps62
  refine wp_scope_straight ?_
  go_wp2_with fail
  simp only [Exit.noGoto_ret]
  refine bodyPost_ret (results_none rfl _ _ _) rfl ?_
  exact ⟨⟨_, rfl⟩, kv, vv, cv, ps, HF.out.wk, HF.out.kids.mono (fun k hk => .inl hk), Only.refl _ _⟩
 ·
  have hd : ¬ (3 : Int) ≤ (kLen ks i : Int) := by omega
  have HK := Lib.hid (And.intro h3 (show kLen ks i = 2 from by
   obtain ⟨c, p, hc, -, -, hk, -⟩ := HF.out.kid hi
   have := (HF.out.own c hc).es
   omega))
  generalize hR : fillN es ks i = R at *
  have HR := Lib.hid hR
  clear h3 hR
  go_enter Try.func62, Try.ntmps62
  refine wp_scope_straight ?_
  go_wp2_with fail
  refine wp_label ?_
  go_wp2_with fail
  have hbw := below_alloc w (.cells #[.int .i64 (-1), .int .i64 1] 3)
  have sd0 := box_self (w := w) (cs := #[.int .i64 (-1), .int .i64 1]) (e := 3) 0 (.int .i64 (-1)) rfl
  have sd1 := box_self (w := w) (cs := #[.int .i64 (-1), .int .i64 1]) (e := 3) 1 (.int .i64 1) rfl
  have HF1 := Lib.hid (HF.out.below hF hbw)
  have HBW := Lib.hid hbw
  have hc2' := cell_later hbw hc2
  generalize w.alloc (.cells #[.int .i64 (-1), .int .i64 1] 3) = W1 at *
  obtain ⟨NL, hNL⟩ : ∃ NL : Prop, NL = ¬ (1 ≤ i ∧ 3 < kLen ks (i - 1)) := ⟨_, rfl⟩
  obtain ⟨NR, hNR⟩ : ∃ NR : Prop, NR = ¬ 3 < kLen ks (i + 1) := ⟨_, rfl⟩
  have HNL := Lib.hid hNL
  have HNR := Lib.hid hNR
  clear hNL hNR hbw hc2 hci hk0
  go_loopw [5, 6, 24] (fun _ _ iv wr => ∃ k : Nat, k ≤ 2 ∧ iv = .int .i64 k ∧ (1 ≤ k → NL) ∧ (2 ≤ k → NR) ∧ wr = W1) (fun _ _ iv _ => 2 - (intOf iv).toNat)
  case atStart => exact ⟨0, by omega, rfl, fun h => by omega, fun h => by omega, rfl⟩
  case round =>
   obtain ⟨k, hk, rfl, hnl, hnr, hw⟩ := hrel
   obtain rfl : W1 = wr := hw.symm
   rcases (show k = 0 ∨ k = 1 ∨ k = 2 by omega) with rfl | rfl | rfl
   ·
    clear hnl hnr
    by_cases hL : 1 ≤ i ∧ 3 < kLen ks (i - 1)
    ·
     obtain ⟨j, hj⟩ : ∃ j, j + 1 = i := ⟨i - 1, by omega⟩
     have hji : i - 1 = j := by omega
     rw [hji] at hL
     obtain ⟨g2, c2, p2, a2, c2', hd2, -, -, hdj, hdk⟩ := HF1.out.cells (j := j) (by omega)
     rw [hc2'] at hd2
     simp only [Option.some.injEq, Value.slice.injEq, Addr.mk.injEq, and_true, true_and] at hd2
     obtain ⟨rfl, rfl⟩ := hd2
     obtain ⟨ca, pa, hca, hpa, hta, hka, -⟩ := HF1.out.kid hi
     obtain ⟨cb, pb, hcb, hpb, htb, hkb, -⟩ := HF1.out.kid (j := j) (by omega)
     have hoa := HF1.out.own ca hca
     have hob := HF1.out.oth j cb (by omega) hcb
     have hk2 := HK.out.2
     have hB := borrowL_calls B q pa pb i j kv vv cv F h ca cb es ps W1 HF1.out.wk HF1.out.dj hj hpa hpb (by have := HF1.out.len; omega) HF1.out.hi (by rw [HF1.out.kids.1]; exact HF1.out.len) hta htb hoa (by omega) (by
      cases h with
      | zero => exact ⟨by show 4 ≤ cb.es.length; omega, hob.2⟩
      | succ h => exact ⟨by show 4 ≤ cb.es.length; omega, hob.2⟩)
     have HBC := Lib.hid hB
     have HCC := Lib.hid (And.intro hca hcb)
     have HJI := Lib.hid hji
     have hR1 : R = fillL es ks i := by
      rw [← HR.out]
      unfold fillN
      rw [if_neg HK.out.1, if_pos (by rw [hji]; exact hL)]
     have HR1 := Lib.hid hR1
     have q1 : (i : Int) + -1 = (j : Int) := by omega
     have q2 : (i : Int) - 1 = (j : Int) := by omega
     have q3 : ¬ ((kLen ks j : Int) ≤ 3) := by omega
     have q4 : ¬ ((ks.length : Int) ≤ (j : Int)) := by omega
     have hjl : j < ks.length := by omega
     clear hL hca hcb hpa hpb hta htb hka hkb hoa hob hk2 hB hj hji hR1
     unfold ptrV at HBC
     go_wp2_with (go_at_call 85; (with_reducible refine HBC.out.mono ?_); rintro e w2 hbo; have HBO := Lib.hid hbo; obtain ⟨⟨v, rfl⟩, -⟩ := hbo)
     simp only [Exit.noGoto_ret]
     refine bodyPost_ret (results_none rfl _ _ _) rfl ?_
     rw [HR1.out]
     have hbo := HBO.out
     rw [← HJI.out] at hbo
     have hcb := HCC.out.2
     rw [← HJI.out] at hcb
     exact ⟨⟨_, rfl⟩, (FillOut.of HBW.out (fill_left HF1.out (by omega) hcb HCC.out.1 hbo)).2⟩
    ·
     have hnl : NL := by rw [HNL.out]; exact hL
     have HN := Lib.hid hnl
     clear hnl
     rcases Nat.eq_zero_or_pos i with h0 | h0
     ·
      have q1 : (i : Int) + -1 = -1 := by omega
      have q2 : (i : Int) - 1 = -1 := by omega
      clear hL h0
      go_wp2_with fail
      go_roundw
      case rel => exact ⟨1, by omega, rfl, fun _ => HN.out, fun h => by omega, by first | rfl | trivial⟩
      case measure => simp [intOf]
     ·
      obtain ⟨j, hj⟩ : ∃ j, j + 1 = i := ⟨i - 1, by omega⟩
      have hji : i - 1 = j := by omega
      rw [hji] at hL
      obtain ⟨g2, c2, p2, a2, c2', hd2, -, -, hdj, hdk⟩ := HF1.out.cells (j := j) (by omega)
      rw [hc2'] at hd2
      simp only [Option.some.injEq, Value.slice.injEq, Addr.mk.injEq, and_true, true_and] at hd2
      obtain ⟨rfl, rfl⟩ := hd2
      have q1 : (i : Int) + -1 = (j : Int) := by omega
      have q2 : (i : Int) - 1 = (j : Int) := by omega
      have q3 : ((kLen ks j : Int) ≤ 3) := by omega
      have q4 : ¬ ((ks.length : Int) ≤ (j : Int)) := by omega
      have hjl : j < ks.length := by omega
      clear hL hj hji h0
      go_wp2_with fail
      go_roundw
      case rel => exact ⟨1, by omega, rfl, fun _ => HN.out, fun h => by omega, by first | rfl | trivial⟩
      case measure => simp [intOf]
   ·
    have HN := Lib.hid (hnl (by omega))
    clear hnl hnr
    by_cases hRr : 3 < kLen ks (i + 1)
    ·
     have hil : i + 1 < ks.length := by
      rcases Nat.lt_or_ge (i + 1) ks.length with h | h
      · exact h
      ·
       have : kLen ks (i + 1) = 0 := by unfold kLen; rw [List.getElem?_eq_none h]
       omega
     obtain ⟨j, hj⟩ : ∃ j, i + 1 = j := ⟨_, rfl⟩
     rw [hj] at hRr hil
     obtain ⟨g2, c2, p2, a2, c2', hd2, -, -, hdj, hdk⟩ := HF1.out.cells (j := j) (by omega)
     rw [hc2'] at hd2
     simp only [Option.some.injEq, Value.slice.injEq, Addr.mk.injEq, and_true, true_and] at hd2
     obtain ⟨rfl, rfl⟩ := hd2
     obtain ⟨ca, pa, hca, hpa, hta, hka, -⟩ := HF1.out.kid hi
     obtain ⟨cb, pb, hcb, hpb, htb, hkb, -⟩ := HF1.out.kid (j := j) (by omega)
     have hoa := HF1.out.own ca hca
     have hob := HF1.out.oth j cb (by omega) hcb
     have hk2 := HK.out.2
     have hB := borrowR_calls B q pa pb i j kv vv cv F h ca cb es ps W1 HF1.out.wk HF1.out.dj hj hpa hpb (by have := HF1.out.len; omega) HF1.out.hi (by rw [HF1.out.kids.1]; exact HF1.out.len) hta htb hoa (by omega) (by
      cases h with
      | zero => exact ⟨by show 4 ≤ cb.es.length; omega, hob.2⟩
      | succ h => exact ⟨by show 4 ≤ cb.es.length; omega, hob.2⟩)
     have HBC := Lib.hid hB
     have HCC := Lib.hid (And.intro hca hcb)
     have HJI := Lib.hid hj
     have hR1 : R = fillR es ks i := by
      rw [← HR.out]
      unfold fillN
      rw [if_neg HK.out.1, if_neg (by have := HN.out; rw [HNL.out] at this; exact this), if_pos (by rw [hj]; exact hRr)]
     have HR1 := Lib.hid hR1
     have q1 : (i : Int) + 1 = (j : Int) := by omega
     have q3 : ¬ ((kLen ks j : Int) ≤ 3) := by omega
     have q4 : ¬ ((ks.length : Int) ≤ (j : Int)) := by omega
     clear hRr hca hcb hpa hpb hta htb hka hkb hoa hob hk2 hB hj hR1
     unfold ptrV at HBC
     go_wp2_with (go_at_call 85; (with_reducible refine HBC.out.mono ?_); rintro e w2 hbo; have HBO := Lib.hid hbo; obtain ⟨⟨v, rfl⟩, -⟩ := hbo)
     simp only [Exit.noGoto_ret]
     refine bodyPost_ret (results_none rfl _ _ _) rfl ?_
     rw [HR1.out]
     have hbo := HBO.out
     have hcb := HCC.out.2
     rw [← HJI.out] at hbo hcb
     exact ⟨⟨_, rfl⟩, (FillOut.of HBW.out (fill_right HF1.out HCC.out.1 hcb hbo)).2⟩
    ·
     have hnr : NR := by rw [HNR.out]; exact hRr
     have HN2 := Lib.hid hnr
     clear hnr
     rcases Nat.lt_or_ge (i + 1) ks.length with h0 | h0
     ·
      obtain ⟨j, hj⟩ : ∃ j, i + 1 = j := ⟨_, rfl⟩
      rw [hj] at hRr h0
      obtain ⟨g2, c2, p2, a2, c2', hd2, -, -, hdj, hdk⟩ := HF1.out.cells (j := j) h0
      rw [hc2'] at hd2
      simp only [Option.some.injEq, Value.slice.injEq, Addr.mk.injEq, and_true, true_and] at hd2
      obtain ⟨rfl, rfl⟩ := hd2
      have q1 : (i : Int) + 1 = (j : Int) := by omega
      have q3 : ((kLen ks j : Int) ≤ 3) := by omega
      have q4 : ¬ ((ks.length : Int) ≤ (j : Int)) := by omega
      clear hRr hj
      go_wp2_with fail
      go_roundw
      case rel => exact ⟨2, by omega, rfl, fun _ => HN.out, fun _ => HN2.out, by first | rfl | trivial⟩
      case measure => simp [intOf]
     ·
      have q1 : ¬ ((i : Int) + 1 < 0) := by omega
      have q4 : ((ks.length : Int) ≤ (i : Int) + 1) := by omega
      clear hRr
      go_wp2_with fail
      go_roundw
      case rel => exact ⟨2, by omega, rfl, fun _ => HN.out, fun _ => HN2.out, by first | rfl | trivial⟩
      case measure => simp [intOf]
   ·
    have HN := Lib.hid (And.intro (hnl (by omega)) (hnr (by omega)))
    clear hnl hnr
    have hx : ∃ j, j + 1 < ks.length ∧ R = fillJ es ks j ∧ kLen ks j + kLen ks (j + 1) ≤ 6 ∧ ((i + 1 = ks.length ∧ (i : Int) - 1 = (j : Int)) ∨ (¬ i + 1 = ks.length ∧ j = i)) := by
     have h1 := HN.out.1
     have h2 := HN.out.2
     rw [HNL.out] at h1
     rw [HNR.out] at h2
     have hk2 := HK.out.2
     have hlen := HF1.out.len
     have hlo := HF1.out.lo
     have hR : R = if i + 1 = ks.length then fillJ es ks (i - 1) else fillJ es ks i := by
      rw [← HR.out]
      unfold fillN
      rw [if_neg HK.out.1, if_neg h1, if_neg h2]
     by_cases hl : i + 1 = ks.length
     ·
      refine ⟨i - 1, by omega, by rw [hR, if_pos hl], ?_, .inl ⟨hl, by omega⟩⟩
      rw [show i - 1 + 1 = i by omega]
      omega
     · exact ⟨i, by omega, by rw [hR, if_neg hl], by omega, .inr ⟨hl, rfl⟩⟩
    obtain ⟨j, hjl, hRJ, h6, hcase⟩ := hx
    have HRJ := Lib.hid (And.intro hRJ h6)
    clear hRJ h6
    obtain ⟨lastB, hlastB⟩ : ∃ b : Bool, ((i : Int) == (ks.length : Int) - 1) = b := ⟨_, rfl⟩
    have HLB := Lib.hid hlastB
    go_upto_if 68 with fail
    clear hlastB
    go_cut [1] from 69 to 70 (fun iv wx => iv = .int .i64 (j : Int) ∧ wx = W1)
    case first =>
     have hlb := HLB.out
     rcases hcase with ⟨h1, h2⟩ | ⟨h1, h2⟩
     ·
      have hq : lastB = true := by rw [← hlb, beq_iff_eq]; omega
      subst hq
      clear h1 hlb HLB
      go_wp2_with fail
      go_meet
      exact ⟨rfl, rfl⟩
     ·
      have hq : lastB = false := by rw [← hlb, beq_eq_false_iff_ne]; omega
      subst hq
      clear h1 hlb HLB
      go_wp2_with fail
      go_meet
      exact ⟨by rw [h2], rfl⟩
    case rest =>
     obtain ⟨rfl, hwc⟩ := hcut
     obtain rfl : W1 = wc := hwc.symm
     clear hcase HNL HNR HN HK
     obtain ⟨cl, pl, hcl', hpl, htl, hkl', hl7⟩ := HF1.out.kid (j := j) (by omega)
     obtain ⟨cr, pr, hcr, hpr, htr, hkr, hr7⟩ := HF1.out.kid (j := j + 1) hjl
     obtain ⟨kvl, vvl, cvl, psl, hnl, hksl⟩ := htl.top
     obtain ⟨kvr, vvr, cvr, psr, hnr, hksr⟩ := htr.top
     have hwk := HF1.out.wk
     have hlen := HF1.out.len
     have hhi := HF1.out.hi
     have hpsl := HF1.out.kids.1
     obtain ⟨ka, kc, hkv⟩ := own_slice hwk.k
     obtain ⟨va, vc, hvv⟩ := own_slice hwk.v
     obtain ⟨ca, cc, hcv⟩ := own_slice hwk.c
     rw [List.length_map] at hkv hvv hcv
     subst hkv hvv hcv
     have hk8 := hwk.k
     have hv8 := hwk.v
     have hc8 := hwk.c
     rw [List.length_map] at hk8 hv8 hc8
     obtain ⟨kg, rfl, k1, k2, k3, k4, k5⟩ := own_some hk8 (by omega)
     obtain ⟨vg, rfl, v1, v2, v3, v4, v5⟩ := own_some hv8 (by omega)
     obtain ⟨cg, rfl, g1, g2, g3, g4, g5⟩ := own_some hc8 (by omega)
     have hjel : j < es.length := by omega
     have hcj := g4 _ _ (ptrs_get hpl)
     have hcj1 := g4 _ _ (ptrs_get hpr)
     obtain ⟨n0, n1, n2, -, nz⟩ := hwk.cells
     have i1 : IntKind.i64.wrap ((j : Int) + 1) = (j : Int) + 1 := by rw [IntKind.wrap_i64]; omega
     have i2 : (0 : Int) ≤ (j : Int) + 1 := by omega
     have i3 : (j : Int) + 1 < (ps.length : Int) := by omega
     have i4 : ((j : Int) + 1).toNat = j + 1 := by omega
     have i5 : (j : Int) < (ps.length : Int) := by omega
     obtain ⟨lka, lkc, rfl, -, -⟩ := Rd.slice hnl.rk.rd
     obtain ⟨lva, lvc, rfl, -, -⟩ := Rd.slice hnl.rv.rd
     obtain ⟨lca, lcc, rfl, -, -⟩ := Rd.slice hnl.rc.rd
     obtain ⟨rka, rkc, rfl, -, -⟩ := Rd.slice hnr.rk.rd
     obtain ⟨rva, rvc, rfl, -, -⟩ := Rd.slice hnr.rv.rd
     obtain ⟨rca, rcc, rfl, -, -⟩ := Rd.slice hnr.rc.rd
     have l0 := hnl.c0
     have l1 := hnl.c1
     have l2 := hnl.c2
     have r0 := hnr.c0
     have r1 := hnr.c1
     have r2 := hnr.c2
     have hpsl8 : psl.length ≤ 8 := by
      have hkk := hksl.len (lo := 2) (by
       by_cases e : j = i
       · subst e; exact HF1.out.own _ hcl'
       · exact (HF1.out.oth j _ e hcl').mono (by omega))
      exact hkk.1
     have hpsr8 : psr.length ≤ 8 := by
      have hkk := hksr.len (lo := 2) (by
       by_cases e : j + 1 = i
       · subst e; exact HF1.out.own _ hcr
       · exact (HF1.out.oth (j + 1) _ e hcr).mono (by omega))
      exact hkk.1
     have HWK := Lib.hid hwk
     have HLN := Lib.hid (And.intro hlen hpsl)
     have HCL := Lib.hid (And.intro hcl' hcr)
     have HNL := Lib.hid (And.intro hnl hksl)
     have HNR := Lib.hid (And.intro hnr hksr)
     have HK8 := Lib.hid (And.intro hk8 (And.intro hv8 hc8))
     clear hwk hlen hpsl hcl' hcr htl htr hkl' hkr hnl hnr hksl hksr hk8 hv8 hc8 k4 k5 v4 v5 g4 g5 hpl hpr
     go_upto_region 10 with fail
     refine region_m [(0, false), (1, false), (2, false), (3, false), (4, false), (5, false), (6, false), (7, false), (8, false), (9, false), (10, false), (11, false), (12, false), (13, false), (14, false), (15, false), (16, false)] 17 (fun V => V.cell? ⟨q, 2, none⟩ = some (.slice (some ⟨cg, 0, none⟩) ps.length cc) ∧ V.cell? ⟨cg, j, none⟩ = some (.pointer (some ⟨pl, 0, none⟩)) ∧ V.cell? ⟨cg, j + 1, none⟩ = some (.pointer (some ⟨pr, 0, none⟩))) (by kernel_rfl) (by kernel_rfl) ⟨n2, hcj, hcj1⟩ ?_
     iterate 17
      refine m_take (v := ?_) rfl rfl ?_ ?_
      rotate_left
      ·
       intro W hW
       go_simp
       with_reducible rfl
      simp only [Act.put, List.setIfInBounds_toArray, List.set_cons_zero, List.set_cons_succ]
     refine m_done ?_
     simp only [List.drop_succ_cons, List.drop_zero]
     go_upto_region 11 with fail
     simp only [NP]
     go_upto_region 11 with fail
     have d0 : ((j : Int) ≤ (j : Int) + 1) := by omega
     have hkn : ¬ kc = j := by omega
     have hvn : ¬ vc = j := by omega
     have d1 : (j : Int) + 1 ≤ (kc : Int) := by omega
     have d2 : (j : Int) + 1 ≤ (vc : Int) := by omega
     have d3 : j + 1 - j = 1 := by omega
     obtain ⟨LK, hLK⟩ : ∃ LK : List (Value × List Value), LK = [((.slice lka cl.es.length lkc : Value), cl.es.map fun e => strV e.1), ((.slice (some ⟨kg, j, none⟩) 1 (kc - j) : Value), [strV (es[j]).1]), ((.slice rka cr.es.length rkc : Value), cr.es.map fun e => strV e.1)] := ⟨_, rfl⟩
     obtain ⟨LV, hLV⟩ : ∃ LV : List (Value × List Value), LV = [((.slice lva cl.es.length lvc : Value), cl.es.map fun e => strV e.2), ((.slice (some ⟨vg, j, none⟩) 1 (vc - j) : Value), [strV (es[j]).2]), ((.slice rva cr.es.length rvc : Value), cr.es.map fun e => strV e.2)] := ⟨_, rfl⟩
     obtain ⟨LC, hLC⟩ : ∃ LC : List (Value × List Value), LC = [((.slice lca psl.length lcc : Value), psl.map ptrV), ((.slice rca psr.length rcc : Value), psr.map ptrV)] := ⟨_, rfl⟩
     have RSK := Lib.hid (show ∀ r ∈ LK, Rd W1 1 r.1 r.2.length r.2 ∧ ∀ u ∈ r.2, u.oneCell' = true from fun r hr => by
      rw [hLK] at hr
      simp only [List.mem_cons, List.not_mem_nil, or_false] at hr
      rcases hr with rfl | rfl | rfl
      · exact ⟨by have := HNL.out.1.rk.rd; simpa using this, keys_one _⟩
      · exact ⟨Rd.own_mid HK8.out.1 (keys_at hjel), fun u hu => by rw [List.mem_singleton.1 hu]; rfl⟩
      · exact ⟨by have := HNR.out.1.rk.rd; simpa using this, keys_one _⟩)
     have RSV := Lib.hid (show ∀ r ∈ LV, Rd W1 1 r.1 r.2.length r.2 ∧ ∀ u ∈ r.2, u.oneCell' = true from fun r hr => by
      rw [hLV] at hr
      simp only [List.mem_cons, List.not_mem_nil, or_false] at hr
      rcases hr with rfl | rfl | rfl
      · exact ⟨by have := HNL.out.1.rv.rd; simpa using this, vals_one _⟩
      · exact ⟨Rd.own_mid HK8.out.2.1 (vals_at hjel), fun u hu => by rw [List.mem_singleton.1 hu]; rfl⟩
      · exact ⟨by have := HNR.out.1.rv.rd; simpa using this, vals_one _⟩)
     have RSC := Lib.hid (show ∀ r ∈ LC, Rd W1 1 r.1 r.2.length r.2 ∧ ∀ u ∈ r.2, u.oneCell' = true from fun r hr => by
      rw [hLC] at hr
      simp only [List.mem_cons, List.not_mem_nil, or_false] at hr
      rcases hr with rfl | rfl
      · exact ⟨by have := HNL.out.1.rc.rd; simpa using this, ptrs_one _⟩
      · exact ⟨by have := HNR.out.1.rc.rd; simpa using this, ptrs_one _⟩)
     have hcK : catL LK = (cl.es.map fun e => strV e.1) ++ strV (es[j]).1 :: (cr.es.map fun e => strV e.1) := by rw [hLK]; simp [catL]
     have hcV : catL LV = (cl.es.map fun e => strV e.2) ++ strV (es[j]).2 :: (cr.es.map fun e => strV e.2) := by rw [hLV]; simp [catL]
     have hcC : catL LC = psl.map ptrV ++ psr.map ptrV := by rw [hLC]; simp [catL]
     have hlK : (catL LK).length ≤ 1000000 := by rw [hcK]; simp; omega
     have hlV : (catL LV).length ≤ 1000000 := by rw [hcV]; simp; omega
     have hlC : (catL LC).length ≤ 1000000 := by rw [hcC]; simp; omega
     have HKK := Lib.hid (And.intro (show LK.map (·.1) = [(.slice lka cl.es.length lkc : Value), .slice (some ⟨kg, j, none⟩) 1 (kc - j), .slice rka cr.es.length rkc] by rw [hLK]; rfl) (show LK.length = 3 by rw [hLK]; rfl))
     have HVV := Lib.hid (And.intro (show LV.map (·.1) = [(.slice lva cl.es.length lvc : Value), .slice (some ⟨vg, j, none⟩) 1 (vc - j), .slice rva cr.es.length rvc] by rw [hLV]; rfl) (show LV.length = 3 by rw [hLV]; rfl))
     have HCC := Lib.hid (And.intro (show LC.map (·.1) = [(.slice lca psl.length lcc : Value), .slice rca psr.length rcc] by rw [hLC]; rfl) (show LC.length = 2 by rw [hLC]; rfl))
     have HCT := Lib.hid (And.intro hcK (And.intro hcV hcC))
     clear hLK hLV hLC hcK hcV hcC hcj hcj1 n2 hc2' sd0 sd1
     obtain ⟨SS, hSS⟩ : ∃ SS : World → Prop, SS = fun V => V.cell? ⟨pl, 0, none⟩ = some (.slice lka cl.es.length lkc) ∧ V.cell? ⟨pl, 1, none⟩ = some (.slice lva cl.es.length lvc) ∧ V.cell? ⟨pl, 2, none⟩ = some (.slice lca psl.length lcc) ∧ V.cell? ⟨pr, 0, none⟩ = some (.slice rka cr.es.length rkc) ∧ V.cell? ⟨pr, 1, none⟩ = some (.slice rva cr.es.length rvc) ∧ V.cell? ⟨pr, 2, none⟩ = some (.slice rca psr.length rcc) ∧ V.cell? ⟨q, 0, none⟩ = some (.slice (some ⟨kg, 0, none⟩) es.length kc) ∧ V.cell? ⟨q, 1, none⟩ = some (.slice (some ⟨vg, 0, none⟩) es.length vc) := ⟨_, rfl⟩
     have hS0 : SS W1 := by rw [hSS]; exact ⟨l0, l1, l2, r0, r1, r2, n0, n1⟩
     have HSB := Lib.hid (show ∀ V, Below W1.heap.size W1 V → SS V from fun V hb => by rw [hSS]; exact ⟨cell_later hb l0, cell_later hb l1, cell_later hb l2, cell_later hb r0, cell_later hb r1, cell_later hb r2, cell_later hb n0, cell_later hb n1⟩)
     have HX := Lib.hid (((Below.refl W1.heap.size W1).drew).drew)
     refine region_j [0, 1, 2, 3, 4, 5, 6, 7, 8, 9, 10, 11, 12, 13, 14, 15, 18, 19, 20, 21, 22, 23, 24, 25, 26, 27, 28, 29, 30, 31, 32, 33, 36, 37, 38, 39, 40, 41, 42, 43] SS (by kernel_rfl) (by kernel_rfl) (HSB.out _ HX.out) ?_
     iterate 40
      refine q_take (v := ?_) rfl rfl ?_ ?_
      rotate_left
      ·
       intro W hW
       rw [hSS] at hW
       go_simp
       with_reducible rfl
      simp only [Act.put, List.setIfInBounds_toArray, List.set_cons_zero, List.set_cons_succ]
     refine q_done ?_
     refine jt_intro (fun A l' a' W => ∃ v16 v17 v34 v35 v44 v45 v46 v47 : Value, a' = ((((((((A.put (some 102) v16).put (some 103) v17).put (some 120) v34).put (some 121) v35).put (some 130) v44).put (some 131) v45).put (some 132) v46).put (some 9) v47) ∧ JS W1 (LK.map (·.1)) (LV.map (·.1)) (LC.map (·.1)) (catL LK) (catL LV) (catL LC) l' v16 v17 v34 v35 v44 v45 v46 v47 W) ?_ ?_ ?_ ?_
     · exact ⟨undef, undef, undef, undef, undef, undef, undef, undef, by simp only [Act.put, List.setIfInBounds_toArray, List.set_cons_zero, List.set_cons_succ], JS.start _ _ _ _ _ _ _ _ _ _ _ _ _ _ _ _ HX.out⟩
     ·
      rintro l' a' W ⟨v16, v17, v34, v35, v44, v45, v46, v47, -, hj⟩
      exact HSB.out _ hj.b
     ·
      rintro l' a' W x ⟨v16, v17, v34, v35, v44, v45, v46, v47, rfl, hj⟩ hx
      simp only [Act.put, List.setIfInBounds_toArray, List.set_cons_zero, List.set_cons_succ]
      have hun := (mem_ready.1 hx).1
      have hcases : x = 16 ∨ x = 17 ∨ x = 34 ∨ x = 35 ∨ x = 44 ∨ x = 45 ∨ x = 46 ∨ x = 47 := by
       by_cases hc : x = 16 ∨ x = 17 ∨ x = 34 ∨ x = 35 ∨ x = 44 ∨ x = 45 ∨ x = 46 ∨ x = 47
       · exact hc
       ·
        have := hj.all x (by omega) (by omega) (by omega) (by omega) (by omega) (by omega) (by omega) (by omega)
        rw [hun] at this
        cases this
      have HJ := Lib.hid hj
      have HX2 := Lib.hid hx
      have HUN := Lib.hid hun
      clear hj hx hun
      rcases hcases with rfl | rfl | rfl | rfl | rfl | rfl | rfl | rfl
      ·
       refine j_op rfl ?_
       intro K hK
       have HK2 := Lib.hid hK
       clear hK
       go_simp
       exact HK2.out _ _ ⟨.slice (some ⟨W.heap.size, 0, none⟩) 3 3, v17, v34, v35, v44, v45, v46, v47, by with_reducible rfl, HJ.out.s16 (below_alloc _ _) ⟨by rw [HKK.out.1]; exact Rd.lit (n := 3) (sz := 1) rfl (by omega), _, _, rfl⟩⟩
      ·
       have hRd := (HJ.out.p16 (ready_dep HX2.out rfl ⟨⟨16, .data⟩, by simp, rfl, rfl⟩)).1
       have hCat := catS_calls v16 LK W (by rw [HKK.out.2]; exact hRd) (fun r hr => (RSK.out r hr).1.below HJ.out.b (Nat.le_refl _)) (fun r hr => (RSK.out r hr).2) (by rw [HKK.out.2]; omega) hlK
       have HC := Lib.hid hCat
       clear hRd hCat
       refine j_op rfl ?_
       intro K hK
       have HK2 := Lib.hid hK
       clear hK
       go_simp
       refine HC.out.mono ?_
       rintro e W' ⟨v', rfl, ho, hb⟩
       exact HK2.out _ _ ⟨v16, v', v34, v35, v44, v45, v46, v47, by with_reducible rfl, HJ.out.s17 hb ho HUN.out⟩
      ·
       refine j_op rfl ?_
       intro K hK
       have HK2 := Lib.hid hK
       clear hK
       go_simp
       exact HK2.out _ _ ⟨v16, v17, .slice (some ⟨W.heap.size, 0, none⟩) 3 3, v35, v44, v45, v46, v47, by with_reducible rfl, HJ.out.s34 (below_alloc _ _) ⟨by rw [HVV.out.1]; exact Rd.lit (n := 3) (sz := 1) rfl (by omega), _, _, rfl⟩⟩
      ·
       have hRd := (HJ.out.p34 (ready_dep HX2.out rfl ⟨⟨34, .data⟩, by simp, rfl, rfl⟩)).1
       have h17 := ready_dep (k := 17) HX2.out rfl ⟨⟨17, .chain⟩, by simp, rfl, rfl⟩
       have hCat := catS_calls v34 LV W (by rw [HVV.out.2]; exact hRd) (fun r hr => (RSV.out r hr).1.below HJ.out.b (Nat.le_refl _)) (fun r hr => (RSV.out r hr).2) (by rw [HVV.out.2]; omega) hlV
       have HC := Lib.hid hCat
       have H17 := Lib.hid h17
       clear hRd hCat h17
       refine j_op rfl ?_
       intro K hK
       have HK2 := Lib.hid hK
       clear hK
       go_simp
       refine HC.out.mono ?_
       rintro e W' ⟨v', rfl, ho, hb⟩
       exact HK2.out _ _ ⟨v16, v17, v34, v', v44, v45, v46, v47, by with_reducible rfl, HJ.out.s35 hb ho H17.out HUN.out⟩
      ·
       refine j_op rfl ?_
       intro K hK
       have HK2 := Lib.hid hK
       clear hK
       go_simp
       exact HK2.out _ _ ⟨v16, v17, v34, v35, .slice (some ⟨W.heap.size, 0, none⟩) 2 2, v45, v46, v47, by with_reducible rfl, HJ.out.s44 (below_alloc _ _) ⟨by rw [HCC.out.1]; exact Rd.lit (n := 2) (sz := 1) rfl (by omega), _, _, rfl⟩⟩
      ·
       have hRd := (HJ.out.p44 (ready_dep HX2.out rfl ⟨⟨44, .data⟩, by simp, rfl, rfl⟩)).1
       have hCat := catP_calls v44 LC W (by rw [HCC.out.2]; exact hRd) (fun r hr => (RSC.out r hr).1.below HJ.out.b (Nat.le_refl _)) (fun r hr => (RSC.out r hr).2) (by rw [HCC.out.2]; omega) hlC
       have HC := Lib.hid hCat
       clear hRd hCat
       refine j_op rfl ?_
       intro K hK
       have HK2 := Lib.hid hK
       clear hK
       go_simp
       refine HC.out.mono ?_
       rintro e W' ⟨v', rfl, ho, hb⟩
       exact HK2.out _ _ ⟨v16, v17, v34, v35, v44, v', v46, v47, by with_reducible rfl, HJ.out.s45 hb ho HUN.out⟩
      ·
       have h17 := ready_dep (k := 17) HX2.out rfl ⟨⟨17, .data⟩, by simp, rfl, rfl⟩
       have h35 := ready_dep (k := 35) HX2.out rfl ⟨⟨35, .data⟩, by simp, rfl, rfl⟩
       have h45 := ready_dep (k := 45) HX2.out rfl ⟨⟨45, .data⟩, by simp, rfl, rfl⟩
       have hstep := HJ.out.s46 h17 h35 h45 HUN.out
       obtain ⟨a1, c1, e1⟩ := own_slice (HJ.out.p17 h17)
       obtain ⟨a2, c2, e2⟩ := own_slice (HJ.out.p35 h35).1
       obtain ⟨a3, c3, e3⟩ := own_slice (HJ.out.p45 h45)
       subst e1 e2 e3
       have HST := Lib.hid hstep
       clear h17 h35 h45 hstep
       refine j_op rfl ?_
       intro K hK
       have HK2 := Lib.hid hK
       clear hK
       go_simp
       refine (fresh_calls _ _ _ _ _ _ _ _ _ _).mono ?_
       rintro e W' ⟨rfl, rfl⟩
       exact HK2.out _ _ ⟨v16, _, v34, _, v44, _, ptrV W.heap.size, v47, by with_reducible rfl, HST.out⟩
      ·
       have h46 := ready_dep (k := 46) HX2.out rfl ⟨⟨46, .data⟩, by simp, rfl, rfl⟩
       have HST := Lib.hid (HJ.out.s47 h46)
       clear h46
       refine j_op rfl ?_
       intro K hK
       have HK2 := Lib.hid hK
       clear hK
       go_simp
       exact HK2.out _ _ ⟨v16, v17, v34, v35, v44, v45, v46, v46, by with_reducible rfl, HST.out⟩
     ·
      rintro l' a' W ⟨v16, v17, v34, v35, v44, v45, v46, v47, rfl, hj⟩ hr
      simp only [Act.put, List.setIfInBounds_toArray, List.set_cons_zero, List.set_cons_succ]
      have hal := all_listed (l := l') (by rw [hj.sz]; rfl) (by kernel_rfl) hr 48 (by show 48 ≤ 48; omega)
      obtain ⟨pn, h46, hwn⟩ := hj.p46 (hal 46 (by omega))
      have h47 := hj.p47 (hal 47 (by omega))
      subst h46
      subst h47
      have HWN := Lib.hid hwn
      have HBN := Lib.hid hj.b
      clear hal hj hr hwn
      obtain ⟨m, hm⟩ : ∃ m, es.length = m + 1 := ⟨es.length - 1, by omega⟩
      have hps2 : ps.length = m + 2 := by have := HLN.out; omega
      have hjm : j ≤ m := by have := HLN.out; omega
      have hwb := HWK.out.below HBN.out
      obtain ⟨e0, e1, e2, -, ez⟩ := hwb.cells
      rw [hm] at e0 e1
      rw [hps2] at e2
      have HWB := Lib.hid hwb
      have HM := Lib.hid (And.intro hm hps2)
      have hm7 : m + 1 ≤ 7 := by omega
      clear hwb hm hps2 n0 n1 nz l0 l1 l2 r0 r1 r2 hS0
      have hB2 : B ≤ W.heap.size := by have h1 := HWB.out.lt.1; have h2 := HWB.out.lt.2; omega
      unfold ptrV
      simp only [NP]
      have HD1 := Lib.hid ((show Wk W B q (.slice (some ⟨kg, 0, none⟩) (m + 1) kc) (.slice (some ⟨vg, 0, none⟩) (m + 1) vc) (.slice (some ⟨cg, 0, none⟩) (m + 2) cc) _ _ _ by rw [← HM.out.1, ← HM.out.2]; exact HWB.out).delK (k := 1) (keys_one es) (by rw [List.length_map]; exact HM.out.1) j ((j : Int) + 1) hjm (by omega) (by omega) (by omega))
      go_upto_region 13 with (go_at_call 60; (with_reducible refine HD1.out.mono ?_); rintro e w12 ⟨rfl, hik⟩; have hc0 := hik.c0; have hfz0 := hik.fz; have HI := Lib.hid hik; clear hik)
      have hwk := HI.out.wk
      have hch := (Chn.refl W q _ _ _).step HI.out.only HI.out.new
      generalize w12.setCell ⟨q, 0, none⟩ (.slice (some ⟨kg, 0, none⟩) m kc) = Y2 at *
      obtain ⟨-, f1, f2, -, -⟩ := hwk.cells
      have HW2 := Lib.hid hwk
      have HC2 := Lib.hid hch
      clear hwk hch hc0 hfz0 HI e0 e1 e2 ez HD1
      have HD2 := Lib.hid (HW2.out.delV (k := 1) (vals_one es) (by rw [List.length_map]; exact HM.out.1) j ((j : Int) + 1) hjm (by omega) (by omega) (by omega))
      go_upto_region 14 with (go_at_call 60; (with_reducible refine HD2.out.mono ?_); rintro e w13 ⟨rfl, hik⟩; have hc0 := hik.c0; have hfz0 := hik.fz; have HI := Lib.hid hik; clear hik)
      have hwk := HI.out.wk
      have hch := HC2.out.step HI.out.only HI.out.new
      generalize w13.setCell ⟨q, 1, none⟩ (.slice (some ⟨vg, 0, none⟩) m vc) = Y3 at *
      obtain ⟨-, -, f2, -, -⟩ := hwk.cells
      have HW3 := Lib.hid hwk
      have HC3 := Lib.hid hch
      clear hwk hch hc0 hfz0 HI f1 HD2 HC2
      have HD3 := Lib.hid (HW3.out.delC (k := 2) (ptrs_one ps) (by rw [List.length_map]; exact HM.out.2) j ((j : Int) + 2) hjm (by omega) (by omega) (by omega))
      go_upto_region 15 with (go_at_call 88; (with_reducible refine HD3.out.mono ?_); rintro e w14 ⟨rfl, hik⟩; have hc0 := hik.c0; have hfz0 := hik.fz; have HI := Lib.hid hik; clear hik)
      have hwk := HI.out.wk
      have hch := HC3.out.step HI.out.only HI.out.new
      generalize w14.setCell ⟨q, 2, none⟩ (.slice (some ⟨cg, 0, none⟩) m cc) = Y4 at *
      obtain ⟨-, -, f2, -, -⟩ := hwk.cells
      have HW4 := Lib.hid hwk
      have HC4 := Lib.hid hch
      clear hwk hch hc0 hfz0 HI HD3 HC3
      have hlc : ((ps.map ptrV).take j ++ (ps.map ptrV).drop (j + 2)).length = m := by
       have := HM.out.2
       rw [List.length_append, List.length_take, List.length_drop, List.length_map]; omega
      have HD4 := Lib.hid (HW4.out.insC (by intro u hu; rcases List.mem_append.1 hu with hu | hu; exact ptrs_one ps u (List.mem_of_mem_take hu); exact ptrs_one ps u (List.mem_of_mem_drop hu)) (Nat.le_trans hB2 HC4.out.only.size) m j hlc.symm hjm (by omega) pn)
      clear hlc
      go_wp2_with (go_at_call 57; (with_reducible refine HD4.out.mono ?_); rintro e w15 ⟨a15, c15, rfl, hik⟩; have hc0 := hik.c0; have hfz0 := hik.fz; have HI := Lib.hid hik; clear hik)
      have hwk := HI.out.wk
      have hch := HC4.out.step HI.out.only HI.out.new
      generalize w15.setCell ⟨q, 2, none⟩ (.slice a15 (m + 1) c15) = Y at *
      simp only [Exit.noGoto_normal]
      go_end0
      have ho := hch.only
      rw [← HM.out.1, ← HM.out.2] at ho
      have hdj : ∀ k, W1.heap.size ≤ k → ¬ wkB q (.slice (some ⟨kg, 0, none⟩) es.length kc) (.slice (some ⟨vg, 0, none⟩) es.length vc) (.slice (some ⟨cg, 0, none⟩) ps.length cc) k := fun k hk hS => by
       have := (HWK.out.foot hS).2
       omega
      have hall : Only (wkB q (.slice (some ⟨kg, 0, none⟩) es.length kc) (.slice (some ⟨vg, 0, none⟩) es.length vc) (.slice (some ⟨cg, 0, none⟩) ps.length cc)) W1 Y := (Only.of_below (S := fun _ => False) HBN.out).weak (fun _ _ h => h.elim) |>.trans ho (fun _ _ h => h)
      have hfr : Fr F W1 Y := Fr.of_only hall HF1.out.dj
      have hks := HF1.out.kids.fr hfr
      have hksL := HNL.out.2.fr hfr
      have hksR := HNR.out.2.fr hfr
      obtain ⟨t1, t2, t3⟩ := HCT.out
      have hwn := HWN.out
      rw [t1, t2, t3] at hwn
      have hnd : NdAt Y (fun k => F k ∨ w.heap.size ≤ k) pn v17 v35 v45 (cl.es ++ es[j] :: cr.es) (psl ++ psr) := by
       refine NdAt.mono (F := fun k => W1.heap.size ≤ k) (NdAt.only (Wk.nd (B := W1.heap.size) (es := cl.es ++ es[j] :: cr.es) (ps := psl ++ psr) ?_ (fun x hx => ?_)) ho (fun k hk _ => hdj k hk)) (fun k hk => .inr (Nat.le_trans HBW.out.size hk))
       ·
        rw [List.map_append, List.map_append, List.map_append, List.map_cons, List.map_cons]
        exact hwn
       · exact (hwn.foot hx).1
      have hjt : TreeAt Y (fun k => F k ∨ w.heap.size ≤ k) h (joinT h cl cr (esD es j)) pn := by
       refine TreeAt.mk (ps := psl ++ psr) (kv := v17) (vv := v35) (cv := v45) ?_ ?_
       ·
        rw [joinT_es, esD_at hjel]
        exact hnd
       ·
        cases h with
        | zero =>
         rw [show psl = [] from hksL, show psr = [] from hksR]
         rfl
        | succ h =>
         exact Kids.mono (fun k hk => .inl hk) (Kids.append hksL hksR)
      have hlen := HLN.out
      rw [HRJ.out.1, fillJ_at HCL.out.1 HCL.out.2]
      refine ⟨⟨_, rfl⟩, .slice (some ⟨kg, 0, none⟩) m kc, .slice (some ⟨vg, 0, none⟩) m vc, .slice a15 (m + 1) c15, insAt (ps.take j ++ ps.drop (j + 2)) j pn, ?_, ?_, ?_⟩
      ·
       show Wk Y B q _ _ _ ((es.take j ++ es.drop (j + 1)).map _) ((es.take j ++ es.drop (j + 1)).map _) _
       rw [List.map_append, List.map_append, List.map_take, List.map_take, List.map_drop, List.map_drop, map_insAt, List.map_append, List.map_take, List.map_drop]
       exact hwk
      ·
       show Kids _ (ks.take j ++ joinT h cl cr (esD es j) :: ks.drop (j + 2)) _
       rw [← ins_of_del ks j _ (by omega)]
       have hk2 := (hks.take j).append (hks.drop (j + 2))
       exact Kids.insAt (Kids.mono (fun k hk => .inl hk) hk2) (by rw [List.length_append, List.length_take, List.length_drop]; omega) hjt
      · exact (Only.of_below (S := fun _ => False) HBW.out).weak (fun _ _ h => h.elim) |>.trans hall (fun _ _ h => h)
end Go.Proofs.Ytmafnjidhjabgaa
