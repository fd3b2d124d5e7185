/- Walks and plain laws of the chapter, laid together; each part says what it proves. -/
import Derived.Test.YtibmgjhpkdgnpaaPkI
/- Layer 15: QuotaHolds walked. -/
namespace Go.Proofs.Ytibmgjhpkdgnpaa
open Go.RowKit Go.Shelf
set_option maxRecDepth 100000
set_option linter.unusedSimpArgs false
set_option linter.unusedVariables false

theorem rem_u64 (v : Int) (m : Nat) (h0 : 0 < m) (h1 : m ≤ 4) : ∃ p : Nat, wrap64 ((IntKind.u64.wrap v).tmod m) = p ∧ p < m := by
  have h2 : 0 ≤ IntKind.u64.wrap v := by simp [IntKind.wrap, IntKind.bits, IntKind.signed]; omega
  rw [Int.tmod_eq_emod_of_nonneg h2]
  have h3 := Int.emod_nonneg (IntKind.u64.wrap v) (show (m : Int) ≠ 0 by omega)
  have h4 := Int.emod_lt_of_pos (IntKind.u64.wrap v) (show (0 : Int) < m by omega)
  refine ⟨(IntKind.u64.wrap v % m).toNat, ?_, by omega⟩
  unfold wrap64
  omega
/-- A struct that is stored whole. -/
theorem t_loadk {P : Program} {l : List Oper} {Q : Exit → Act → World → Prop} {S : World → Prop} {T : Act → World → Prop} {i : Nat} {o : Oper} {r : Ord} {a : Act} {w : World} {t : TypeId} {x : Operand} {b off : Nat} {cs : List Value} {d : TypeDesc}
    (ho : l[i]? = some o) (hw : Region.wanted o (yielded l.toArray a.tmps) = true) (hop : o.op = .load t x) (hx : a.eval x = .pointer (some ⟨b, off, none⟩)) (hc : ∀ W, S W → W.rangeAt b off cs)
    (hu : P.underlying t = some d) (hd : d.isRow = true) (hi : (P.info? t).map (·.size) = some cs.length) (h : wpT P l.toArray Q S T r (a.put o.dst (.agg cs.toArray)) w) : wpT P l.toArray Q S T (.take i r) a w := by
  refine t_take ho hw (fun W hW => ?_) h
  have hl := run_loadAt_mid (P := P) W b off t cs d (hc W hW) hu hd hi
  simp [execOp, hop, hx, hl, Result.andThen]
theorem t_storek {P : Program} {l : List Oper} {Q : Exit → Act → World → Prop} {S : World → Prop} {T : Act → World → Prop} {i : Nat} {o : Oper} {r : Ord} {a : Act} {w : World} {t : TypeId} {x y : Operand} {b : Nat} {cs : List Value}
    (ho : l[i]? = some o) (hw : Region.wanted o (yielded l.toArray a.tmps) = true) (hop : o.op = .store t x y) (hx : a.eval x = .pointer (some ⟨b, 0, none⟩)) (hy : a.eval y = .agg cs.toArray) (ht : w.there b 0 cs.length)
    (hi : (P.info? t).map (·.size) = some cs.length) (h1 : cs.toArray.all (·.oneCell') = true) (hS : S (w.setCells b 0 cs)) (h : wpT P l.toArray Q S T r (a.put o.dst undef) (w.setCells b 0 cs)) : wpT P l.toArray Q S T (.loud i r) a w := by
  refine t_loud ho fun K hK => ?_
  rw [if_pos hw]
  exact wp_store_mid t x y hop b 0 cs.toArray hx hy (by simpa using ht) (by simpa using hi) h1 (by simpa using hK _ _ hS h)
theorem own_at {w : World} {base e sz n : Nat} {v : Value} {xs : List Value} (h : w.ownsRow base e sz v n xs) (hn : 0 < n) : ∃ g cap, v = .slice (some ⟨g, 0, none⟩) n cap ∧ n ≤ cap ∧ cap ≤ 9223372036854775807 ∧ ∀ j u, xs[j]? = some u → w.cell? ⟨g, j, none⟩ = some u := by
  obtain ⟨a, c, hv, hc1, hc2⟩ := Rd.slice (Rd.of_own h)
  have h' := h
  rcases h.2 with ⟨_, h0⟩ | ⟨g, cap, cur, rfl, _⟩
  · omega
  · cases hv
    refine ⟨g, c, rfl, hc1, hc2, fun j u hj => ?_⟩
    have := World.ownsRow.cells h' (g := g) rfl j _ hj
    rwa [add_off, Nat.zero_add] at this
theorem flat5 : ∀ way : List Rec, (flatF Rec.cells way).length = way.length * 5
  | [] => rfl
  | x :: xs => by
    show (Rec.cells x ++ flatF Rec.cells xs).length = _
    rw [List.length_append, flat5 xs]
    show 5 + xs.length * 5 = (xs.length + 1) * 5
    omega
/-- All but the first. -/
theorem rd_tail {w : World} {g n cap : Nat} {r : Rec} {way : List Rec} (hc : ∀ j u, (flatF Rec.cells (r :: way))[j]? = some u → w.cell? ⟨g, j, none⟩ = some u) (hn : n = way.length) (h1 : n + 1 ≤ cap) (h2 : cap ≤ 9223372036854775807) : Rd w 5 (.slice (some ⟨g, 5, none⟩) n (cap - 1)) n (flatF Rec.cells way) := by
  refine ⟨some ⟨g, 5, none⟩, cap - 1, rfl, ?_, by omega, by omega, .inr ⟨g, 5, rfl, fun j u hj => hc (5 + j) u ?_⟩⟩
  · rw [hn]; exact flat5 way
  · show (Rec.cells r ++ flatF Rec.cells way)[5 + j]? = some u
    rw [List.getElem?_append_right (by show 5 ≤ 5 + j; omega), show 5 + j - (Rec.cells r).length = j by show 5 + j - 5 = j; omega]
    exact hj
theorem mine_take {l : List Rec} {p : Int} {j : Nat} (h : j < l.length) : mine (l.take (j + 1)) p = mine (l.take j) p + if l[j].p = p then 1 else 0 := by
  rw [List.take_succ_eq_append_getElem h, mine_append, mine_cons, mine_nil, Nat.add_zero]
theorem mine_take_le (l : List Rec) (p : Int) (j : Nat) : mine (l.take j) p ≤ mine l p := by
  conv => rhs; rw [← List.take_append_drop j l]
  rw [mine_append]
  omega

set_option maxHeartbeats 60000000 in
theorem holds_core (v : Value) (ss : List Stp) (w : World) (hs : Rd w 4 v ss.length (flatF Stp.cells ss)) (hok : ∀ s ∈ ss, s.ok) :
    Calls Try.prog 5 #[v] w fun e w' => e = .returned (.bool true) ∧ Below w.heap.size w w' := by
  have HR := Lib.hid hs
  have HOK := Lib.hid hok
  obtain ⟨a, cap, rfl, hle, hcap⟩ := Rd.slice hs
  clear hs hok
  go_enter Try.func5, Try.ntmps5
  go_wp2_with fail
  refine (known_calls _).mono ?_
  rintro e w0 ⟨rfl, hb0⟩
  have HB0 := Lib.hid hb0
  clear hb0
  go_upto_region 4 with fail
  obtain ⟨X, hX⟩ : ∃ X, X = ((w0.alloc (.cells #[.int .i64 0] 3)).alloc (.cells #[.int .i64 1, .slice none 0 0, .int .i64 0, .int .u32 0, .int .i64 0, .int .i64 0, .int .u32 0, .int .i64 8, .slice (some ⟨w0.heap.size, 0, none⟩) 1 1, .int .i64 0, .int .u32 0, .int .i64 0, .int .i64 0, .int .u32 0] 43)).alloc (.cells #[.slice (some ⟨w0.heap.size + 1, 0, none⟩) 2 2] 28) := ⟨_, rfl⟩
  rw [← hX]
  have hXS : X.heap.size = w0.heap.size + 3 := by rw [hX]; simp
  have hbX : Below w0.heap.size w0 X := by rw [hX]; exact below_box (below_box (below_alloc _ _) _) _
  have g0 : X.cell? ⟨w0.heap.size + 1 + 1, 0, none⟩ = some (.slice (some ⟨w0.heap.size + 1, 0, none⟩) 2 2) := by
    rw [hX, World.cell?_alloc_at _ _ _ _ (by simp)]; rfl
  have hop : OpsR X (.slice (some ⟨w0.heap.size + 1, 0, none⟩) 2 2) (os0 (.slice (some ⟨w0.heap.size, 0, none⟩) 1 1)) := by
    have h1 := Rd.lit (w := w0) (cs := #[.int .i64 0]) (e := 3) (n := 1) (sz := 1) rfl (by omega)
    have h2 := Rd.lit (w := w0.alloc (.cells #[.int .i64 0] 3)) (cs := #[.int .i64 1, .slice none 0 0, .int .i64 0, .int .u32 0, .int .i64 0, .int .i64 0, .int .u32 0, .int .i64 8, .slice (some ⟨w0.heap.size, 0, none⟩) 1 1, .int .i64 0, .int .u32 0, .int .i64 0, .int .i64 0, .int .u32 0]) (e := 43) (n := 2) (sz := 7) rfl (by omega)
    rw [World.size_alloc] at h2
    have h3 := Rd.below h1 (below_box (below_alloc (w0.alloc (.cells #[.int .i64 0] 3)) (.cells #[.int .i64 1, .slice none 0 0, .int .i64 0, .int .u32 0, .int .i64 0, .int .i64 0, .int .u32 0, .int .i64 8, .slice (some ⟨w0.heap.size, 0, none⟩) 1 1, .int .i64 0, .int .u32 0, .int .i64 0, .int .i64 0, .int .u32 0] 43)) (.cells #[.slice (some ⟨w0.heap.size + 1, 0, none⟩) 2 2] 28)) (Nat.le_refl _)
    have h4 := Rd.below h2 (below_alloc _ (.cells #[.slice (some ⟨w0.heap.size + 1, 0, none⟩) 2 2] 28)) (Nat.le_refl _)
    rw [← hX] at h3 h4
    refine ⟨h4, fun o ho => ?_⟩
    simp only [os0, List.mem_cons, List.not_mem_nil, or_false] at ho
    rcases ho with rfl | rfl
    · exact Rd.nil _ _
    · exact h3
  have HX := Lib.hid hX
  have HBX := Lib.hid (show Below w.heap.size w X from below_go HB0.out hbX)
  have HOP := Lib.hid hop
  clear hX hbX hop
  go_wp2_with fail
  refine (apply_calls zeroL (E0 (.slice (some ⟨w0.heap.size + 1, 0, none⟩) 2 2) (.slice (some ⟨w0.heap.size, 0, none⟩) 1 1)) X (ledO_zero X 0).reads zeroL_ok' (zeroL_sz.small (by omega)) HOP.out (E0_ok _ _).1 (E0_ok _ _).2).mono ?_
  rintro e w3 ⟨M, rfl, hS, hN, hb3⟩
  have HAQ := Lib.hid (AQ.first hS hN.toN hb3)
  have hT := there_new w3
  unfold zero16 at hT
  have HT := Lib.hid hT
  have HN1 := Lib.hid hN.toN.one
  rw [show (applyL zeroL (E0 (.slice (some ⟨w0.heap.size + 1, 0, none⟩) 2 2) (.slice (some ⟨w0.heap.size, 0, none⟩) 1 1))).2.1 = true from (by rw [e0_apply]), show (applyL zeroL (E0 (.slice (some ⟨w0.heap.size + 1, 0, none⟩) 2 2) (.slice (some ⟨w0.heap.size, 0, none⟩) 1 1))).2.2 = 0 from (by rw [e0_apply])]
  have HLD := Lib.hid (show Holds M [] (fun _ => 0) 0 ∧ M.Ok ∧ M.Sz 16 from ⟨(by have h := hS; rw [e0_apply] at h; exact (L0_holds _ _).same h), hS.ok (apply_ok _ _ zeroL_ok' (E0_ok _ _).1), hS.sz (apply_sz _ _ zeroL_sz)⟩)
  clear hS hN hb3 hT g0 hXS
  unfold zero16 at HAQ
  go_upto_region 5 with (first | (refine wpList_store_mid rfl 30 _ _ rfl (w3.heap.size) 0 (Led.cells M).toArray rfl rfl (by exact HT.out) (by show _ = some 16; kernel_rfl) HN1.out ?_; generalize hWgen : World.setCells _ _ _ _ = V at *; clear hWgen) | (refine wp_store_mid 30 _ _ rfl (w3.heap.size) 0 (Led.cells M).toArray rfl rfl (by exact HT.out) (by show _ = some 16; kernel_rfl) HN1.out ?_; generalize hWgen : World.setCells _ _ _ _ = V at *; clear hWgen))
  clear HT HN1
  obtain ⟨S, hS⟩ : ∃ S, S = w3.heap.size := ⟨_, rfl⟩
  rw [← hS] at HAQ ⊢
  clear hS
  go_upto_region 9 with (at_make; go_loud (refine make_full (base := V.heap.size) (n := 64) tyIntsH rfl rfl rfl rfl rfl (by omega) (by omega) (Nat.le_refl _) ?_; intro w2 hm2 hg2))
  have hb2 : Below V.heap.size V w2 := (Below.refl V.heap.size V).grown hg2 (Nat.le_refl _) (by simp)
  obtain ⟨B, hB⟩ : ∃ B, B = w.heap.size := ⟨_, rfl⟩
  have HQ := Lib.hid (QSt.start (B := B) (by rw [hB]; exact HBX.out.size) (by rw [hB]; exact HBX.out) HAQ.out hb2 hm2)
  have HB := Lib.hid hB
  obtain ⟨ng, hng⟩ : ∃ ng, ng = V.heap.size := ⟨_, rfl⟩
  rw [← hng] at HQ ⊢
  clear hng hm2 hg2 hb2 hB HAQ HX HBX HOP HB0
  go_wp2_with fail
  go_loopw [7, 9, 10, 11, 12, 13, 14, 15, 16, 17, 18, 19, 20, 21, 22, 23, 24, 25, 26] (fun av iv _ _ _ _ _ _ _ _ _ _ _ _ _ _ _ _ _ wr => ∃ (i : Nat) (L : Led) (way : List Rec) (nx : Nat → Int), i ≤ 300 ∧ i ≤ ss.length ∧ iv = .int .i64 i ∧ Holds L way nx i ∧ L.Ok ∧ L.Sz (16 * (i + 1)) ∧ QSt B S w wr L av way ng nx) (fun _ iv _ _ _ _ _ _ _ _ _ _ _ _ _ _ _ _ _ _ => 300 - (intOf iv).toNat)
  case atStart => exact ⟨0, M, [], _, by omega, by omega, rfl, HLD.out.1, HLD.out.2.1, HLD.out.2.2, HQ.out⟩
  case round =>
    clear HQ HLD
    obtain ⟨i, L, way, nx, hi300, hi, rfl, hld, hok, hsz, hq⟩ := hrel
    have HLD := Lib.hid hld
    have HLK := Lib.hid hok
    have HSZ := Lib.hid hsz
    have HQ := Lib.hid hq
    have HBW := Lib.hid (show Below w.heap.size w wr by have := hq.b; rwa [HB.out] at this)
    have HRR := Lib.hid (Rd.below HR.out HBW.out (Nat.le_refl _))
    obtain ⟨va, vc, rfl⟩ := own_slice hq.row
    clear hld hok hsz hq
    by_cases hlt : i < ss.length ∧ i < 300
    · obtain ⟨hl1, hl2⟩ := hlt
      obtain ⟨eb, eo, rfl, c0, c1, c2, c3⟩ := stp_at HRR.out i hl1
      have hso := HOK.out ss[i] (List.getElem_mem _)
      generalize ss[i] = s at *
      obtain ⟨sk, sp, sq, sa⟩ := s
      simp only at c0 c1 c2 c3
      obtain ⟨hs1, hs2, hs3, hs4⟩ := hso
      simp only at hs1 hs2 hs3 hs4
      obtain ⟨p, hp, hp4⟩ := rem_u64 sp 4 (by omega) (by omega)
      obtain ⟨q, hq, hq2⟩ := rem_u64 sq 2 (by omega) (by omega)
      have HP := Lib.hid hp
      have HQQ := Lib.hid hq
      clear hp hq
      go_upto_block 2 with fail
      rw [show wrap64 ((IntKind.u64.wrap sp).tmod 4) = (p : Int) from HP.out, show wrap64 ((IntKind.u64.wrap sq).tmod 2) = (q : Int) from HQQ.out]
      go_cut [7] from 45 to 204 (fun av wx => ∃ (L' : Led) (way' : List Rec) (nx' : Nat → Int), Holds L' way' nx' (i + 1) ∧ L'.Ok ∧ L'.Sz (16 * (i + 1 + 1)) ∧ QSt B S w wx L' av way' ng nx')
      case first =>
        obtain ⟨W1, hW1⟩ : ∃ W1, W1 = wr.alloc (.cells #[.int .i64 sk, .int .i64 sp, .int .i64 sq, .int .i64 sa] 49) := ⟨_, rfl⟩
        have hb1 : Below wr.heap.size wr W1 := by rw [hW1]; exact below_alloc _ _
        have HQ1 := Lib.hid (HQ.out.later hb1)
        have s3 : W1.cell? ⟨wr.heap.size, 3, none⟩ = some (.int .i64 sa) := by rw [hW1]; exact box_self 3 _ rfl
        have hsz1 : wr.heap.size < W1.heap.size := by rw [hW1]; simp
        rw [← hW1]
        clear hW1 c0 c1 c2 c3 hs1 hs2 hs3 HP HQQ HRR hb1
        by_cases h0 : sk = 0
        · have e0 : (sk == 0) = true := beq_iff_eq.2 h0
          as_aux_lemma =>
            clear h0
            obtain ⟨d, hd, hd3⟩ : ∃ d : Nat, wrap64 ((IntKind.u64.wrap sa).tmod 3) = (d : Int) ∧ d < 3 := rem_u64 sa 3 (by omega) (by omega)
            have HD := Lib.hid hd
            have hnb := HLD.out.nxb (8 * p + q)
            obtain ⟨n0, f0⟩ := HQ1.out.cell (j := 8 * p + q) (by omega)
            have hqb := (HQ1.out.ngB).2
            have HNX := Lib.hid (show ∃ N, N = nx (8 * p + q) from ⟨_, rfl⟩)
            obtain ⟨N, hN⟩ := HNX.out
            rw [← hN] at hnb n0
            have HNE := Lib.hid hN
            have q1 : IntKind.i64.wrap (8 * (p : Int)) = 8 * (p : Int) := by rw [IntKind.wrap_i64]; omega
            have q2 : IntKind.i64.wrap (8 * (p : Int) + (q : Int)) = 8 * (p : Int) + (q : Int) := by rw [IntKind.wrap_i64]; omega
            have q3 : (0 : Int) ≤ 8 * (p : Int) + (q : Int) := by omega
            have q4 : 8 * (p : Int) + (q : Int) < 64 := by omega
            have q5 : (8 * (p : Int) + (q : Int)).toNat = 8 * p + q := by omega
            have q6 : IntKind.i64.wrap (N - (d : Int)) = N - (d : Int) := by rw [IntKind.wrap_i64]; omega
            have q7 : IntKind.i64.wrap ((IntKind.u64.wrap sa).tmod 3) = (d : Int) := by
              have h := HD.out
              generalize (IntKind.u64.wrap sa).tmod 3 = z at *
              unfold wrap64 at h
              rw [IntKind.wrap_i64]
              omega
            have q8 : wrap64 ((IntKind.u64.wrap sa).tmod 3) = (d : Int) := HD.out
            clear hd hN HNX
            go_upto_region 17 with fail
            refine region_m [(0, false), (1, false), (2, false), (3, false), (4, false), (5, false), (6, false), (7, false), (8, false), (9, false), (10, false), (11, false), (12, false), (13, false), (14, false), (15, false), (16, false), (17, true)] 18 (fun V => V.cell? ⟨ng, 8 * p + q, none⟩ = some (.int .i64 N) ∧ V.cell? ⟨wr.heap.size, 3, none⟩ = some (.int .i64 sa)) (by kernel_rfl) (by kernel_rfl) ⟨n0, s3⟩ ?_
            iterate 14
              first
              | (refine m_take (v := ?_) rfl rfl ?_ ?_
                 rotate_left
                 · intro W hW
                   go_simp
                   with_reducible rfl
                 simp only [Act.put, List.setIfInBounds_toArray, List.set_cons_zero, List.set_cons_succ])
              | (refine m_skip rfl rfl ?_
                 simp only [Act.put, List.setIfInBounds_toArray, List.set_cons_zero, List.set_cons_succ])
            iterate 3
              first
              | (refine m_take (v := ?_) rfl rfl ?_ ?_
                 rotate_left
                 · intro W hW
                   go_simp
                   with_reducible rfl
                 simp only [Act.put, List.setIfInBounds_toArray, List.set_cons_zero, List.set_cons_succ])
              | (refine m_skip rfl rfl ?_
                 simp only [Act.put, List.setIfInBounds_toArray, List.set_cons_zero, List.set_cons_succ])
            obtain ⟨rs, hrs⟩ : ∃ rs, rs = if (d : Int) < N then N - (d : Int) else 0 := ⟨_, rfl⟩
            rw [← hrs]
            have hr0 : 0 ≤ rs ∧ rs ≤ N := by rw [hrs]; split <;> omega
            have hdr := (Below.refl W1.heap.size W1).drew
            clear hrs q6 q7 q8 HD hd3
            refine m_loud rfl (fun K hK => ?_)
            have HK := Lib.hid hK
            clear hK
            go_simp
            refine HK.out _ _ ⟨cell_later (hdr.trans (below_alloc W1.drew _)) n0, cell_later (hdr.trans (below_alloc W1.drew _)) s3⟩ ?_
            clear HK
            refine m_done ?_
            simp only [List.drop_succ_cons, List.drop_zero]
            clear n0 s3 f0
            go_upto_region 18 with fail
            simp only [NP]
            go_upto_region 18 with fail
            obtain ⟨W5, hW5⟩ : ∃ W5, W5 = (W1.alloc (.cells #[.int .i64 p, .int .i64 rs, .int .i64 q, .string ⟨#[107]⟩, .int .u32 0] 33)).drew := ⟨_, rfl⟩
            rw [← hW5]
            have hb5 : Below W1.heap.size W1 W5 := by rw [hW5]; exact (below_alloc W1 _).drew
            have b0 : W5.cell? ⟨W1.heap.size, 0, none⟩ = some (.int .i64 p) := by rw [hW5]; exact box_self (w := W1) 0 _ rfl
            have b1 : W5.cell? ⟨W1.heap.size, 1, none⟩ = some (.int .i64 rs) := by rw [hW5]; exact box_self (w := W1) 1 _ rfl
            have b2 : W5.cell? ⟨W1.heap.size, 2, none⟩ = some (.int .i64 q) := by rw [hW5]; exact box_self (w := W1) 2 _ rfl
            have b3 : W5.cell? ⟨W1.heap.size, 3, none⟩ = some (.string ⟨#[107]⟩) := by rw [hW5]; exact box_self (w := W1) 3 _ rfl
            have b4 : W5.cell? ⟨W1.heap.size, 4, none⟩ = some (.int .u32 0) := by rw [hW5]; exact box_self (w := W1) 4 _ rfl
            have hs5 : W1.heap.size < W5.heap.size := by rw [hW5]; show W1.heap.size < (W1.alloc _).heap.size; simp
            have HQ5 := Lib.hid (HQ1.out.later hb5)
            have HRG := Lib.hid HQ5.out.box.range
            clear hW5 hb5 hdr
            obtain ⟨rb, hrb⟩ : ∃ rb, rb = W1.heap.size := ⟨_, rfl⟩
            rw [← hrb] at b0 b1 b2 b3 b4 hs5 ⊢
            clear hrb hsz1
            have hpI : I64 (p : Int) ∧ I64 rs ∧ I64 (q : Int) := by unfold I64; omega
            have hrok : (⟨p, rs, q, ⟨#[107]⟩, 0⟩ : Rec).ok := ⟨hpI.1, hpI.2.1, hpI.2.2, by show (1 : Nat) ≤ _; omega⟩
            have HROK := Lib.hid hrok
            have hlen := HLD.out.len
            have HCH := Lib.hid (HLD.out.check (by omega) (show p ≤ 3 by omega) (show q ≤ 1 by omega) (r := ⟨p, rs, q, ⟨#[107]⟩, 0⟩) rfl rfl (by show (1 : Nat) ≤ 32; omega) hr0.1 (by rw [← HNE.out]; exact hr0.2))
            clear hrok hpI
            go_wp2_with (first | (refine wpList_load_mid rfl 30 _ rfl (S) 0 rfl (Led.cells L) _ (by exact HRG.out) Try.underlying30 rfl (by show _ = some 16; kernel_rfl) ?_) | (refine wp_load_mid 30 _ rfl (S) 0 rfl (Led.cells L) _ (by exact HRG.out) Try.underlying30 rfl (by show _ = some 16; kernel_rfl) ?_) | (refine list_loadk rfl rfl (b := S) (off := 0) rfl (cs := Led.cells L) Try.underlying30 rfl (by show _ = some 16; kernel_rfl) (by exact HRG.out) ?_))
            refine (qcheck_calls L.rv L.ov L.bv L.gv (.slice va way.length vc) L.C L.sealed L.decided L.keep L.dep L.rows L.opn way ⟨p, rs, q, ⟨#[107]⟩, 0⟩ W5 HQ5.out.led.reads.rows HLK.out.rows HQ5.out.led.reads.opn (Rd.of_own HQ5.out.row) HROK.out (by omega)).mono ?_
            rintro e w6 ⟨rfl, hb6⟩
            have HQ6 := Lib.hid (HQ5.out.later hb6)
            have b0 := cell_later hb6 b0
            have b1 := cell_later hb6 b1
            have b2 := cell_later hb6 b2
            have b3 := cell_later hb6 b3
            have b4 := cell_later hb6 b4
            have hs6 := hb6.size
            clear hb6 HRG HQ5 hlen
            generalize hgc : checkCode _ _ _ _ _ = cc
            have HC2 := Lib.hid (show (cc = 0 ∨ cc = 10) ∧ (cc = 0 → rs = N → mine L.opn p + mine way p < 32) from by rw [← hgc, HNE.out]; exact HCH.out)
            clear hgc HCH
            obtain ⟨n0, f0⟩ := HQ6.out.cell (j := 8 * p + q) (by omega)
            rw [← HNE.out] at n0
            rcases HC2.out.1 with rfl | rfl
            · by_cases he : rs = N
              · have e2 : (rs == N) = true := beq_iff_eq.2 he
                have HE := Lib.hid he
                have HPUT := Lib.hid (HLD.out.put (show p ≤ 3 by omega) (show q ≤ 1 by omega) (r := ⟨p, rs, q, ⟨#[107]⟩, 0⟩) rfl rfl (by show (1 : Nat) ≤ 32; omega) HROK.out (by show rs = _; rw [he]; exact HNE.out) (HC2.out.2 rfl he))
                clear he
                go_upto_region 21 with fail
                refine region_m [(0, false), (1, false), (2, false), (3, false), (4, false), (5, false), (6, false), (7, false), (8, false), (9, false), (10, false), (11, false), (12, false), (13, false)] 14 (fun V => V.cell? ⟨rb, 1, none⟩ = some (.int .i64 rs) ∧ V.cell? ⟨ng, 8 * p + q, none⟩ = some (.int .i64 N)) (by kernel_rfl) (by kernel_rfl) ⟨b1, n0⟩ ?_
                iterate 14
                  first
                  | (refine m_take (v := ?_) rfl rfl ?_ ?_
                     rotate_left
                     · intro W hW
                       go_simp
                       with_reducible rfl
                     simp only [Act.put, List.setIfInBounds_toArray, List.set_cons_zero, List.set_cons_succ])
                  | (refine m_skip rfl rfl ?_
                     simp only [Act.put, List.setIfInBounds_toArray, List.set_cons_zero, List.set_cons_succ])
                refine m_done ?_
                simp only [List.drop_succ_cons, List.drop_zero]
                have hdr := (Below.refl w6.heap.size w6).drew
                have HQ7 := Lib.hid (HQ6.out.later hdr)
                have b0 := cell_later hdr b0
                have b1 := cell_later hdr b1
                have b2 := cell_later hdr b2
                have b3 := cell_later hdr b3
                have b4 := cell_later hdr b4
                have hs7 := hdr.size
                clear n0 f0 hdr
                go_wp2_with fail
                simp only [NP]
                generalize w6.drew = W7 at *
                have HQ8 := Lib.hid (HQ7.out.later (below_alloc W7 (.cells #[.int .i64 p, .int .i64 rs, .int .i64 q, .string ⟨#[107]⟩, .int .u32 0] 33)))
                have HLIT := Lib.hid (Rd.lit (w := W7) (cs := #[.int .i64 p, .int .i64 rs, .int .i64 q, .string ⟨#[107]⟩, .int .u32 0]) (e := 33) (n := 1) (sz := 5) rfl (by omega))
                have hwl : way.length ≤ 128 := by have := HLD.out.len; omega
                have hbz : B ≤ (W7.alloc (.cells #[.int .i64 p, .int .i64 rs, .int .i64 q, .string ⟨#[107]⟩, .int .u32 0] 33)).heap.size := by have := HQ8.out.ngB; omega
                have HBZ := Lib.hid hbz
                have q9 : IntKind.i64.wrap (N + 1) = N + 1 := by rw [IntKind.wrap_i64]; omega
                clear hbz
                go_upto_region 23 with (at_builtin; go_loud (refine app_keep tyRecs HQ8.out.row HLIT.out (recs_one [⟨p, rs, q, ⟨#[107]⟩, 0⟩]) (by omega) (by omega) (by omega) HBZ.out rfl rfl rfl rfl ?_; intro g gcap w8 h2 h3 h4 h5; have H2 := Lib.hid h2; have H4 := Lib.hid h4; have H5 := Lib.hid h5; clear h2 h3 h4 h5))
                have HQ9 := Lib.hid (HQ8.out.push (r := ⟨p, rs, q, ⟨#[107]⟩, 0⟩) H2.out H4.out (by
                  intro g' hg'
                  simp only [Value.ownBlock, Option.some.injEq] at hg'
                  subst hg'
                  rcases H5.out with ⟨k', c', hk', -⟩ | h5
                  · exact .inl (by rw [hk']; rfl)
                  · exact .inr h5))
                obtain ⟨n0, f0⟩ := HQ9.out.cell (j := 8 * p + q) (by omega)
                rw [← HNE.out] at n0
                have HQ10 := Lib.hid (HQ9.out.bump (j := 8 * p + q) (by omega) (N + 1))
                have hgb := HQ9.out.ngB
                have hfn : (fun i => if i = 8 * p + q then N + 1 else nx i) = (fun j => if j = 8 * p + q then nx j + 1 else nx j) := by
                  funext j
                  split
                  · rename_i h; rw [h, HNE.out]
                  · rfl
                rw [hfn] at HQ10
                clear hfn
                go_wp2_with fail
                go_meet
                case rel => exact ⟨L, _, _, HPUT.out, HLK.out, HSZ.out.mono (by omega), HQ10.out⟩
              · have e2 : (rs == N) = false := beq_eq_false_iff_ne.2 he
                clear he
                go_upto_region 21 with fail
                refine region_m [(0, false), (1, false), (2, false), (3, false), (4, false), (5, false), (6, false), (7, false), (8, false), (9, false), (10, false), (11, false), (12, false), (13, false)] 14 (fun V => V.cell? ⟨rb, 1, none⟩ = some (.int .i64 rs) ∧ V.cell? ⟨ng, 8 * p + q, none⟩ = some (.int .i64 N)) (by kernel_rfl) (by kernel_rfl) ⟨b1, n0⟩ ?_
                iterate 14
                  first
                  | (refine m_take (v := ?_) rfl rfl ?_ ?_
                     rotate_left
                     · intro W hW
                       go_simp
                       with_reducible rfl
                     simp only [Act.put, List.setIfInBounds_toArray, List.set_cons_zero, List.set_cons_succ])
                  | (refine m_skip rfl rfl ?_
                     simp only [Act.put, List.setIfInBounds_toArray, List.set_cons_zero, List.set_cons_succ])
                refine m_done ?_
                simp only [List.drop_succ_cons, List.drop_zero]
                go_wp2_with fail
                simp only [NP]
                go_wp2_with fail
                go_meet
                case rel => exact ⟨L, way, nx, HLD.out.more, HLK.out, HSZ.out.mono (by omega), HQ6.out.later (Below.refl _ _).drew⟩
            · go_upto_region 21 with fail
              refine region_m [(0, false), (1, false), (2, false), (3, false), (4, false), (5, false), (6, false), (7, false), (8, false), (9, false), (10, false), (11, false), (12, false), (13, false)] 14 (fun V => True) (by kernel_rfl) (by kernel_rfl) trivial ?_
              iterate 14
                first
                | (refine m_take (v := ?_) rfl rfl ?_ ?_
                   rotate_left
                   · intro W hW
                     go_simp
                     with_reducible rfl
                   simp only [Act.put, List.setIfInBounds_toArray, List.set_cons_zero, List.set_cons_succ])
                | (refine m_skip rfl rfl ?_
                   simp only [Act.put, List.setIfInBounds_toArray, List.set_cons_zero, List.set_cons_succ])
              refine m_done ?_
              simp only [List.drop_succ_cons, List.drop_zero]
              go_wp2_with fail
              simp only [NP]
              go_wp2_with fail
              go_meet
              case rel => exact ⟨L, way, nx, HLD.out.more, HLK.out, HSZ.out.mono (by omega), HQ6.out.later (Below.refl _ _).drew⟩
        · have e0 : (sk == 0) = false := beq_eq_false_iff_ne.2 h0
          clear s3 hs4 hsz1
          by_cases h1 : sk = 1
          · have e1 : (sk == 1) = true := beq_iff_eq.2 h1
            as_aux_lemma =>
              clear h0 h1
              cases way with
              | nil =>
                go_wp2_with fail
                go_meet
                case rel => exact ⟨L, [], nx, HLD.out.more, HLK.out, HSZ.out.mono (by omega), HQ1.out⟩
              | cons r way2 =>
                rw [List.length_cons] at HQ1 ⊢
                have HTK := Lib.hid (HLD.out.take (by omega))
                have hwl : way2.length ≤ 128 := by have := HLD.out.len; simp at this; omega
                have hrok := (HLD.out.wf r (by simp)).2.2.2.2.2
                have HEK := Lib.hid (entR_ok hrok)
                obtain ⟨g, gc, hgv, hgc1, hgc2, hcells⟩ := own_at HQ1.out.row (by simp)
                simp only [Value.slice.injEq, List.length_cons, true_and] at hgv
                obtain ⟨rfl, rfl⟩ := hgv
                rw [List.length_cons] at hgc1
                have HCL := Lib.hid hcells
                have hg1 := (HQ1.out.avB g rfl).2
                have CC := Lib.hid (show ∀ V, Below W1.heap.size W1 V → V.rangeAt S 0 L.cells ∧ V.cell? ⟨g, 0, none⟩ = some (.int .i64 r.p) ∧ V.cell? ⟨g, 1, none⟩ = some (.int .i64 r.s) ∧ V.cell? ⟨g, 2, none⟩ = some (.int .i64 r.q) ∧ V.cell? ⟨g, 3, none⟩ = some (.string r.key) ∧ V.cell? ⟨g, 4, none⟩ = some (.int .u32 r.val) from fun V hb =>
                  ⟨(HQ1.out.box.later hb).range, cell_later hb (hcells 0 _ rfl), cell_later hb (hcells 1 _ rfl), cell_later hb (hcells 2 _ rfl), cell_later hb (hcells 3 _ rfl), cell_later hb (hcells 4 _ rfl)⟩)
                clear hrok hcells
                go_upto_region 26 with fail
                go_cut [15, 16, 17] from 45 to 204 (fun mv cv ev wx => ∃ (N : Led) (T : Nat), mv = .pointer (some ⟨T, 0, none⟩) ∧ cv = .bool (applyL L (entR r)).2.1 ∧ ev = .int .i64 (applyL L (entR r)).2.2 ∧ AQ W1 wx L (entR r) T N)
                case first =>
                  refine region_t (.take 0 (.take 1 (.take 2 (.take 3 (.take 4 (.two 5 (.take 6 (.take 7 (.take 8 (.take 9 (.loud 10 (.loud 11 (.take 12 (.take 13 .done)))))))) 10 (.loud 5 (.take 6 (.take 7 (.take 8 (.take 9 (.loud 11 (.take 12 (.take 13 .done)))))))))))))) 14 (fun V => V.rangeAt S 0 L.cells ∧ V.cell? ⟨g, 0, none⟩ = some (.int .i64 r.p) ∧ V.cell? ⟨g, 1, none⟩ = some (.int .i64 r.s) ∧ V.cell? ⟨g, 2, none⟩ = some (.int .i64 r.q) ∧ V.cell? ⟨g, 3, none⟩ = some (.string r.key) ∧ V.cell? ⟨g, 4, none⟩ = some (.int .u32 r.val)) (by kernel_rfl) (by kernel_rfl) (CC.out _ (Below.refl W1.heap.size W1).drew) ?_
                  refine t_loadk rfl rfl rfl rfl (fun W hW => hW.1) Try.underlying30 rfl (by show _ = some 16; kernel_rfl) ?_
                  simp only [Act.put, List.setIfInBounds_toArray, List.set_cons_zero, List.set_cons_succ]
                  iterate 4
                    first
                    | (refine t_take (v := ?_) rfl rfl ?_ ?_
                       rotate_left
                       · intro W hW
                         go_simp
                         with_reducible rfl
                       simp only [Act.put, List.setIfInBounds_toArray, List.set_cons_zero, List.set_cons_succ])
                    | (refine t_skip rfl rfl ?_
                       simp only [Act.put, List.setIfInBounds_toArray, List.set_cons_zero, List.set_cons_succ])
                  refine t_two ?_ ?_
                  · skip
                    refine t_loud rfl (fun K hK => ?_)
                    have HK := Lib.hid hK
                    clear hK
                    go_simp
                    have hdr := (Below.refl W1.heap.size W1).drew
                    refine (apply_calls L (entR r) W1.drew (HQ1.out.led.reads.below hdr (Nat.le_refl _)) HLK.out (HSZ.out.small (by omega)) (opsR_nil _) HEK.out.1 HEK.out.2).mono ?_
                    rintro e w3 ⟨N, rfl, hS, hN, hb3⟩
                    have hb3 : Below W1.heap.size W1 w3 := hdr.trans hb3
                    have HAQ := Lib.hid (AQ.first (wr := W1) hS hN.toN hb3)
                    have HN1 := Lib.hid hN.toN.one
                    refine HK.out _ _ (CC.out _ hb3) ?_
                    clear HK
                    clear hS hN hdr
                    iterate 4
                      first
                      | (refine t_take (v := ?_) rfl rfl ?_ ?_
                         rotate_left
                         · intro W hW
                           go_simp
                           with_reducible rfl
                         simp only [Act.put, List.setIfInBounds_toArray, List.set_cons_zero, List.set_cons_succ])
                      | (refine t_skip rfl rfl ?_
                         simp only [Act.put, List.setIfInBounds_toArray, List.set_cons_zero, List.set_cons_succ])
                    refine t_loud rfl (fun K hK => ?_)
                    have HK := Lib.hid hK
                    clear hK
                    go_simp
                    refine HK.out _ _ (CC.out _ (below_box hb3 _)) ?_
                    clear HK
                    refine t_storek rfl rfl rfl rfl rfl (there_new w3) (by show _ = some 16; kernel_rfl) HN1.out (CC.out _ HAQ.out.b) ?_
                    simp only [Act.put, List.setIfInBounds_toArray, List.set_cons_zero, List.set_cons_succ]
                    iterate 2
                      first
                      | (refine t_take (v := ?_) rfl rfl ?_ ?_
                         rotate_left
                         · intro W hW
                           go_simp
                           with_reducible rfl
                         simp only [Act.put, List.setIfInBounds_toArray, List.set_cons_zero, List.set_cons_succ])
                      | (refine t_skip rfl rfl ?_
                         simp only [Act.put, List.setIfInBounds_toArray, List.set_cons_zero, List.set_cons_succ])
                    refine t_done ?_
                    simp only [List.drop_succ_cons, List.drop_zero]
                    go_wp2_with fail
                    simp only [NP]
                    go_wp2_with fail
                    go_meet
                    case rel => exact ⟨N, _, rfl, rfl, rfl, HAQ.out⟩
                  · skip
                    refine t_loud rfl (fun K hK => ?_)
                    have HK := Lib.hid hK
                    clear hK
                    go_simp
                    have hdr := (Below.refl W1.heap.size W1).drew
                    refine HK.out _ _ (CC.out _ (hdr.trans (below_alloc W1.drew _))) ?_
                    clear HK
                    refine t_loud rfl (fun K hK => ?_)
                    have HK := Lib.hid hK
                    clear hK
                    go_simp
                    have hb1 : Below W1.heap.size W1 (W1.drew.alloc (.cells zero16 30)) := hdr.trans (below_alloc W1.drew _)
                    refine (apply_calls L (entR r) (W1.drew.alloc (.cells zero16 30)) (HQ1.out.led.reads.below hb1 (Nat.le_refl _)) HLK.out (HSZ.out.small (by omega)) (opsR_nil _) HEK.out.1 HEK.out.2).mono ?_
                    rintro e w3 ⟨N, rfl, hS, hN, hb3⟩
                    have HAQ := Lib.hid (AQ.last (wr := W1.drew) hS hN.toN hb3)
                    have HAB := Lib.hid (show Below W1.heap.size W1 (w3.setCells W1.heap.size 0 N.cells) from hdr.trans HAQ.out.b)
                    have HN1 := Lib.hid hN.toN.one
                    have HTH := Lib.hid (there_later (there_new W1.drew) hb3 (by simp))
                    refine HK.out _ _ (CC.out _ (hb1.trans (hb3.mono hb1.size))) ?_
                    clear HK
                    clear hS hN hdr hb1 hb3
                    iterate 4
                      first
                      | (refine t_take (v := ?_) rfl rfl ?_ ?_
                         rotate_left
                         · intro W hW
                           go_simp
                           with_reducible rfl
                         simp only [Act.put, List.setIfInBounds_toArray, List.set_cons_zero, List.set_cons_succ])
                      | (refine t_skip rfl rfl ?_
                         simp only [Act.put, List.setIfInBounds_toArray, List.set_cons_zero, List.set_cons_succ])
                    refine t_storek rfl rfl rfl rfl rfl HTH.out (by show _ = some 16; kernel_rfl) HN1.out (CC.out _ HAB.out) ?_
                    simp only [Act.put, List.setIfInBounds_toArray, List.set_cons_zero, List.set_cons_succ]
                    iterate 2
                      first
                      | (refine t_take (v := ?_) rfl rfl ?_ ?_
                         rotate_left
                         · intro W hW
                           go_simp
                           with_reducible rfl
                         simp only [Act.put, List.setIfInBounds_toArray, List.set_cons_zero, List.set_cons_succ])
                      | (refine t_skip rfl rfl ?_
                         simp only [Act.put, List.setIfInBounds_toArray, List.set_cons_zero, List.set_cons_succ])
                    refine t_done ?_
                    simp only [List.drop_succ_cons, List.drop_zero]
                    go_wp2_with fail
                    simp only [NP]
                    go_wp2_with fail
                    go_meet
                    case rel => exact ⟨N, _, rfl, rfl, rfl, ⟨HAQ.out.same, HAQ.out.led, HAQ.out.off, HAQ.out.box, HAQ.out.bf, HAB.out, HAQ.out.hT⟩⟩
                case rest =>
                  obtain ⟨N, T, rfl, rfl, rfl, haq⟩ := hcut
                  have HAQ := Lib.hid haq
                  have HQN := Lib.hid (HQ1.out.taken haq)
                  have HNK := Lib.hid (haq.same.ok (apply_ok _ _ HLK.out HEK.out.1))
                  have HNZ := Lib.hid (haq.same.sz (apply_sz _ _ HSZ.out))
                  have HHLD := Lib.hid (HTK.out.2.2.same haq.same)
                  have HRT := Lib.hid haq.box.range
                  have HTS := Lib.hid (HQ1.out.later haq.b).there
                  have HN1 := Lib.hid haq.led.one
                  rw [show (applyL L (entR r)).2.1 = true from HTK.out.1, show (applyL L (entR r)).2.2 = 0 from HTK.out.2.1]
                  clear haq
                  go_upto_region 30 with (first | (refine wpList_load_mid rfl 30 _ rfl (T) 0 rfl (Led.cells N) _ HRT.out Try.underlying30 rfl (by show _ = some 16; kernel_rfl) ?_) | (refine wp_load_mid 30 _ rfl (T) 0 rfl (Led.cells N) _ HRT.out Try.underlying30 rfl (by show _ = some 16; kernel_rfl) ?_) | (refine wpList_store_mid rfl 30 _ _ rfl (S) 0 (Led.cells N).toArray rfl rfl HTS.out (by show _ = some 16; kernel_rfl) HN1.out ?_) | (refine wp_store_mid 30 _ _ rfl (S) 0 (Led.cells N).toArray rfl rfl HTS.out (by show _ = some 16; kernel_rfl) HN1.out ?_))
                  generalize wc.setCells S 0 N.cells = Z at *
                  have hzc := HQN.out.row
                  have HTL := Lib.hid (show Rd (Z.alloc (.cells #[] 33)) 5 (.slice (some ⟨g, 5, none⟩) way2.length (vc - 1)) way2.length (flatF Rec.cells way2) from
                    rd_tail (r := r) (fun j u hj => by
                      have h1 := World.ownsRow.cells (World.ownsRow.alloc hzc (.cells #[] 33)) (g := g) rfl j u hj
                      rwa [add_off, Nat.zero_add] at h1) rfl hgc1 hgc2)
                  have HOWN := Lib.hid (World.ownsRow_lit (base := Z.heap.size) (size := 5) (e := 33) Z #[] 0 (Nat.le_refl _) (by unfold maxLen; omega) (by simp))
                  have hw63 : way2.length + 1 ≤ 9223372036854775807 := by omega
                  clear hzc
                  by_cases hv1 : vc = 1
                  · have hw0 : way2 = [] := List.length_eq_zero_iff.1 (by omega)
                    clear HTL
                    have HTL2 := Lib.hid (show Rd (Z.alloc (.cells #[] 33)) 5 (.slice (some ⟨g, 0, none⟩) 0 0) 0 (flatF Rec.cells []) from ⟨some ⟨g, 0, none⟩, 0, rfl, rfl, Nat.le_refl _, by omega, .inl rfl⟩)
                    subst hv1 hw0
                    rw [List.length_nil] at *
                    go_wp2_with (at_builtin; go_loud (refine app_list tyRecs HOWN.out HTL2.out (recs_one _) (by omega) (by omega) (by simp) rfl rfl rfl rfl ?_; intro x2 w6 hm6 hg6 hn6; have HM6 := Lib.hid hm6; have HG6 := Lib.hid hg6; clear hm6 hg6 hn6))
                    have HB6 := Lib.hid (Below.grown (below_alloc Z (.cells #[] 33)) HG6.out (by simp) (fun k e => (World.ownsRow.lt HOWN.out k e).1))
                    have HQF := Lib.hid (HQN.out.fresh (way' := []) HB6.out (by have h := HM6.out; rw [Nat.zero_add] at h; exact h))
                    go_meet
                    case rel => exact ⟨N, [], nx, HHLD.out, HNK.out, HNZ.out, HQF.out⟩
                  · have hw1 : 0 < vc - 1 := by omega
                    go_wp2_with (at_builtin; go_loud (refine app_list tyRecs HOWN.out HTL.out (recs_one _) (by omega) (by omega) (by simp) rfl rfl rfl rfl ?_; intro x2 w6 hm6 hg6 hn6; have HM6 := Lib.hid hm6; have HG6 := Lib.hid hg6; clear hm6 hg6 hn6))
                    have HB6 := Lib.hid (Below.grown (below_alloc Z (.cells #[] 33)) HG6.out (by simp) (fun k e => (World.ownsRow.lt HOWN.out k e).1))
                    have HQF := Lib.hid (HQN.out.fresh (way' := way2) HB6.out (by have h := HM6.out; rw [Nat.zero_add] at h; exact h))
                    go_meet
                    case rel => exact ⟨N, way2, nx, HHLD.out, HNK.out, HNZ.out, HQF.out⟩
          · have e1 : (sk == 1) = false := beq_eq_false_iff_ne.2 h1
            by_cases h2 : sk = 2
            · have e2 : (sk == 2) = true := beq_iff_eq.2 h2
              as_aux_lemma =>
                clear h0 h1 h2
                have l11 := HQ1.out.box 11 _ rfl
                have hEK := entN_ok (k := 2) (n := L.sealed) (by unfold I64; omega) (by have := HLK.out.nums; unfold I64 at this ⊢; omega)
                have HEK := Lib.hid hEK
                have HRG := Lib.hid HQ1.out.box.range
                clear hEK
                go_wp2_with (first | (refine wpList_load_mid rfl 30 _ rfl (S) 0 rfl (Led.cells L) _ (by exact HRG.out) Try.underlying30 rfl (by show _ = some 16; kernel_rfl) ?_) | (refine wp_load_mid 30 _ rfl (S) 0 rfl (Led.cells L) _ (by exact HRG.out) Try.underlying30 rfl (by show _ = some 16; kernel_rfl) ?_) | (refine list_loadk rfl rfl (b := S) (off := 0) rfl (cs := Led.cells L) Try.underlying30 rfl (by show _ = some 16; kernel_rfl) (by exact HRG.out) ?_))
                refine (apply_calls L (entN 2 L.sealed) W1 HQ1.out.led.reads HLK.out (HSZ.out.small (by omega)) (opsR_nil _) HEK.out.1 HEK.out.2).mono ?_
                rintro e w3 ⟨N, rfl, hS, hN, hb3⟩
                have HAQ := Lib.hid (AQ.first hS hN.toN hb3)
                have hT := there_new w3
                unfold zero16 at hT HAQ
                have HT := Lib.hid hT
                have HN1 := Lib.hid hN.toN.one
                have HNK := Lib.hid (hS.ok (apply_ok _ _ HLK.out HEK.out.1))
                have HNZ := Lib.hid (hS.sz (apply_sz _ _ HSZ.out))
                have HOTH := Lib.hid (fun h => (HLD.out.other (.inl rfl) h).same hS)
                clear hS hN hb3 hT HRG
                generalize (applyL L (entN 2 L.sealed)).2.2 = GC at *
                generalize (applyL L (entN 2 L.sealed)).2.1 = GB at *
                by_cases hc : GC = 0
                · have ec : (GC == 0) = true := beq_iff_eq.2 hc
                  have HHLD := Lib.hid (HOTH.out hc)
                  clear hc HOTH
                  go_upto_region 33 with (first | (refine wpList_store_mid rfl 30 _ _ rfl (w3.heap.size) 0 (Led.cells N).toArray rfl rfl (by exact HT.out) (by show _ = some 16; kernel_rfl) HN1.out ?_; generalize hWgen : World.setCells _ _ _ _ = V2 at *; clear hWgen) | (refine wp_store_mid 30 _ _ rfl (w3.heap.size) 0 (Led.cells N).toArray rfl rfl (by exact HT.out) (by show _ = some 16; kernel_rfl) HN1.out ?_; generalize hWgen : World.setCells _ _ _ _ = V2 at *; clear hWgen))
                  clear HT
                  generalize w3.heap.size = T at *
                  have HRT := Lib.hid HAQ.out.box.range
                  have HTS := Lib.hid (HQ1.out.later HAQ.out.b).there
                  have HQN := Lib.hid (HQ1.out.taken HAQ.out)
                  go_upto_region 39 with (first | (refine wpList_load_mid rfl 30 _ rfl (T) 0 rfl (Led.cells N) _ HRT.out Try.underlying30 rfl (by show _ = some 16; kernel_rfl) ?_) | (refine wp_load_mid 30 _ rfl (T) 0 rfl (Led.cells N) _ HRT.out Try.underlying30 rfl (by show _ = some 16; kernel_rfl) ?_) | (refine wpList_store_mid rfl 30 _ _ rfl (S) 0 (Led.cells N).toArray rfl rfl HTS.out (by show _ = some 16; kernel_rfl) HN1.out ?_) | (refine wp_store_mid 30 _ _ rfl (S) 0 (Led.cells N).toArray rfl rfl HTS.out (by show _ = some 16; kernel_rfl) HN1.out ?_))
                  go_wp2_with fail
                  go_meet
                  case rel => exact ⟨N, way, nx, HHLD.out, HNK.out, HNZ.out, HQN.out⟩
                · have ec : (GC == 0) = false := beq_eq_false_iff_ne.2 hc
                  clear hc HOTH
                  go_upto_region 33 with (first | (refine wpList_store_mid rfl 30 _ _ rfl (w3.heap.size) 0 (Led.cells N).toArray rfl rfl (by exact HT.out) (by show _ = some 16; kernel_rfl) HN1.out ?_; generalize hWgen : World.setCells _ _ _ _ = V2 at *; clear hWgen) | (refine wp_store_mid 30 _ _ rfl (w3.heap.size) 0 (Led.cells N).toArray rfl rfl (by exact HT.out) (by show _ = some 16; kernel_rfl) HN1.out ?_; generalize hWgen : World.setCells _ _ _ _ = V2 at *; clear hWgen))
                  go_wp2_with fail
                  go_meet
                  case rel => exact ⟨L, way, nx, HLD.out.more, HLK.out, HSZ.out.mono (by omega), HQ1.out.later HAQ.out.b⟩
            · have e2 : (sk == 2) = false := beq_eq_false_iff_ne.2 h2
              by_cases h3 : sk = 3
              · have e3 : (sk == 3) = true := beq_iff_eq.2 h3
                as_aux_lemma =>
                  clear h0 h1 h2 h3
                  have l12 := HQ1.out.box 12 _ rfl
                  have hEK := entN_ok (k := 4) (n := L.decided) (by unfold I64; omega) (by have := HLK.out.nums; unfold I64 at this ⊢; omega)
                  have HEK := Lib.hid hEK
                  have HRG := Lib.hid HQ1.out.box.range
                  clear hEK
                  go_wp2_with (first | (refine wpList_load_mid rfl 30 _ rfl (S) 0 rfl (Led.cells L) _ (by exact HRG.out) Try.underlying30 rfl (by show _ = some 16; kernel_rfl) ?_) | (refine wp_load_mid 30 _ rfl (S) 0 rfl (Led.cells L) _ (by exact HRG.out) Try.underlying30 rfl (by show _ = some 16; kernel_rfl) ?_) | (refine list_loadk rfl rfl (b := S) (off := 0) rfl (cs := Led.cells L) Try.underlying30 rfl (by show _ = some 16; kernel_rfl) (by exact HRG.out) ?_))
                  refine (apply_calls L (entN 4 L.decided) W1 HQ1.out.led.reads HLK.out (HSZ.out.small (by omega)) (opsR_nil _) HEK.out.1 HEK.out.2).mono ?_
                  rintro e w3 ⟨N, rfl, hS, hN, hb3⟩
                  have HAQ := Lib.hid (AQ.first hS hN.toN hb3)
                  have hT := there_new w3
                  unfold zero16 at hT HAQ
                  have HT := Lib.hid hT
                  have HN1 := Lib.hid hN.toN.one
                  have HNK := Lib.hid (hS.ok (apply_ok _ _ HLK.out HEK.out.1))
                  have HNZ := Lib.hid (hS.sz (apply_sz _ _ HSZ.out))
                  have HOTH := Lib.hid (fun h => (HLD.out.other (.inr rfl) h).same hS)
                  clear hS hN hb3 hT HRG
                  generalize (applyL L (entN 4 L.decided)).2.2 = GC at *
                  generalize (applyL L (entN 4 L.decided)).2.1 = GB at *
                  by_cases hc : GC = 0
                  · have ec : (GC == 0) = true := beq_iff_eq.2 hc
                    have HHLD := Lib.hid (HOTH.out hc)
                    clear hc HOTH
                    go_upto_region 37 with (first | (refine wpList_store_mid rfl 30 _ _ rfl (w3.heap.size) 0 (Led.cells N).toArray rfl rfl (by exact HT.out) (by show _ = some 16; kernel_rfl) HN1.out ?_; generalize hWgen : World.setCells _ _ _ _ = V2 at *; clear hWgen) | (refine wp_store_mid 30 _ _ rfl (w3.heap.size) 0 (Led.cells N).toArray rfl rfl (by exact HT.out) (by show _ = some 16; kernel_rfl) HN1.out ?_; generalize hWgen : World.setCells _ _ _ _ = V2 at *; clear hWgen))
                    clear HT
                    generalize w3.heap.size = T at *
                    have HRT := Lib.hid HAQ.out.box.range
                    have HTS := Lib.hid (HQ1.out.later HAQ.out.b).there
                    have HQN := Lib.hid (HQ1.out.taken HAQ.out)
                    go_upto_region 39 with (first | (refine wpList_load_mid rfl 30 _ rfl (T) 0 rfl (Led.cells N) _ HRT.out Try.underlying30 rfl (by show _ = some 16; kernel_rfl) ?_) | (refine wp_load_mid 30 _ rfl (T) 0 rfl (Led.cells N) _ HRT.out Try.underlying30 rfl (by show _ = some 16; kernel_rfl) ?_) | (refine wpList_store_mid rfl 30 _ _ rfl (S) 0 (Led.cells N).toArray rfl rfl HTS.out (by show _ = some 16; kernel_rfl) HN1.out ?_) | (refine wp_store_mid 30 _ _ rfl (S) 0 (Led.cells N).toArray rfl rfl HTS.out (by show _ = some 16; kernel_rfl) HN1.out ?_))
                    go_wp2_with fail
                    go_meet
                    case rel => exact ⟨N, way, nx, HHLD.out, HNK.out, HNZ.out, HQN.out⟩
                  · have ec : (GC == 0) = false := beq_eq_false_iff_ne.2 hc
                    clear hc HOTH
                    go_upto_region 37 with (first | (refine wpList_store_mid rfl 30 _ _ rfl (w3.heap.size) 0 (Led.cells N).toArray rfl rfl (by exact HT.out) (by show _ = some 16; kernel_rfl) HN1.out ?_; generalize hWgen : World.setCells _ _ _ _ = V2 at *; clear hWgen) | (refine wp_store_mid 30 _ _ rfl (w3.heap.size) 0 (Led.cells N).toArray rfl rfl (by exact HT.out) (by show _ = some 16; kernel_rfl) HN1.out ?_; generalize hWgen : World.setCells _ _ _ _ = V2 at *; clear hWgen))
                    go_wp2_with fail
                    go_meet
                    case rel => exact ⟨L, way, nx, HLD.out.more, HLK.out, HSZ.out.mono (by omega), HQ1.out.later HAQ.out.b⟩
              · have e3 : (sk == 3) = false := beq_eq_false_iff_ne.2 h3
                clear h0 h1 h2 h3
                go_wp2_with fail
                go_meet
                case rel => exact ⟨L, way, nx, HLD.out.more, HLK.out, HSZ.out.mono (by omega), HQ1.out⟩
      case rest =>
        as_aux_lemma =>
          clear c0 c1 c2 c3 hs1 hs2 hs3 hs4 HP HQQ HLD HLK HSZ HQ HBW HRR hp4 hq2
          obtain ⟨L', way', nx', hld, hok, hsz, hq⟩ := hcut
          have HLD := Lib.hid hld
          have HLK := Lib.hid hok
          have HSZ := Lib.hid hsz
          have HQ := Lib.hid hq
          obtain ⟨va', vc', rfl⟩ := own_slice hq.row
          have hwl : way'.length ≤ 128 := by have := hld.len; omega
          clear hld hok hsz hq
          go_wp2_with fail
          go_loopw [24, 25, 26] (fun pv _ _ wq => ∃ p' : Nat, p' ≤ 4 ∧ pv = .int .i64 p' ∧ QSt B S w wq L' (.slice va' way'.length vc') way' ng nx') (fun pv _ _ _ => 4 - (intOf pv).toNat)
          case atStart => exact ⟨0, by omega, rfl, HQ.out⟩
          case round =>
            clear HQ
            obtain ⟨p', hp', rfl, hq⟩ := hrel
            have HQ := Lib.hid hq
            have HRG := Lib.hid hq.box.range
            clear hq
            by_cases hp : p' < 4
            · have HFEW := Lib.hid (HLD.out.few p' (by omega) (by omega))
              go_wp2_with (first | (refine wpList_load_mid rfl 30 _ rfl (S) 0 rfl (Led.cells L') _ (by exact HRG.out) Try.underlying30 rfl (by show _ = some 16; kernel_rfl) ?_) | (refine wp_load_mid 30 _ rfl (S) 0 rfl (Led.cells L') _ (by exact HRG.out) Try.underlying30 rfl (by show _ = some 16; kernel_rfl) ?_) | (refine list_loadk rfl rfl (b := S) (off := 0) rfl (cs := Led.cells L') Try.underlying30 rfl (by show _ = some 16; kernel_rfl) (by exact HRG.out) ?_))
              refine (qof_calls L'.rv L'.ov L'.bv L'.gv L'.C L'.sealed L'.decided L'.keep L'.dep L'.opn p' wr HQ.out.led.reads.opn).mono ?_
              rintro e w5 ⟨rfl, hb5⟩
              have HQ5 := Lib.hid (HQ.out.later hb5)
              clear hb5
              obtain ⟨mo, hmo⟩ : ∃ mo, mo = mine L'.opn p' := ⟨_, rfl⟩
              rw [← hmo] at HFEW ⊢
              clear hmo
              have hfew := HFEW.out
              go_wp2_with fail
              go_loopw [25, 26] (fun nv jv wq => ∃ j : Nat, j ≤ way'.length ∧ jv = .int .i64 j ∧ nv = .int .i64 (mo + mine (way'.take j) p' : Nat) ∧ QSt B S w wq L' (.slice va' way'.length vc') way' ng nx') (fun _ jv _ => way'.length - (intOf jv).toNat)
              case atStart => exact ⟨0, by omega, rfl, rfl, HQ5.out⟩
              case round =>
                clear HQ5
                obtain ⟨j, hj, rfl, rfl, hq⟩ := hrel
                have HQ6 := Lib.hid hq
                have hre := Rd.of_own hq.row
                clear hq
                have hml := mine_take_le way' p' j
                by_cases hlj : j < way'.length
                · obtain ⟨rb, ro, rfl, r0, r1, r2, r3, r4⟩ := rec_at hre j hlj
                  have HMT := Lib.hid (mine_take (p := (p' : Int)) hlj)
                  generalize way'[j] = R at *
                  obtain ⟨rp, rs, rq, key, val⟩ := R
                  simp only at r0 r1 r2 r3 r4 HMT
                  generalize mine (way'.take j) (p' : Int) = mj at *
                  clear hre
                  by_cases hpp : rp = p'
                  · have e1 : (rp == (p' : Int)) = true := beq_iff_eq.2 hpp
                    have HPP := Lib.hid hpp
                    clear hpp
                    go_wp2_with fail
                    go_roundw
                    case rel => exact ⟨j + 1, by omega, by go_num, by rw [HMT.out, if_pos HPP.out]; rfl, HQ6.out⟩
                    case measure => simp [intOf]; omega
                  · have e1 : (rp == (p' : Int)) = false := beq_eq_false_iff_ne.2 hpp
                    have HPP := Lib.hid hpp
                    clear hpp
                    go_wp2_with fail
                    go_roundw
                    case rel => exact ⟨j + 1, by omega, by go_num, by rw [HMT.out, if_neg HPP.out]; rfl, HQ6.out⟩
                    case measure => simp [intOf]; omega
                · obtain rfl : j = way'.length := by omega
                  clear hre
                  have hmm : mo + mine (way'.take way'.length) (p' : Int) ≤ 32 := by omega
                  generalize mo + mine (way'.take way'.length) (p' : Int) = mt at *
                  go_wp2_with fail
                  go_roundw
                  case rel => exact ⟨p' + 1, by omega, by go_num, HQ6.out⟩
                  case measure => simp [intOf]; omega
            · obtain rfl : p' = 4 := by omega
              go_wp2_with fail
              go_roundw
              case rel => exact ⟨i + 1, L', way', nx', by omega, by omega, by go_num, HLD.out, HLK.out, HSZ.out, HQ.out⟩
              case measure => simp [intOf]; omega
    · have hway : (¬ i < ss.length) ∨ (i < ss.length ∧ ¬ (i : Int) < 300) := by omega
      clear hlt
      rcases hway with h1 | ⟨h1, h2⟩
      all_goals
        go_wp2_with fail
        go_ret
        exact ⟨rfl, HBW.out⟩
end Go.Proofs.Ytibmgjhpkdgnpaa
