/- The laws of layer 1, walked: each returns true and turns nothing that was there. -/
import Derived.Test.YtficekhjigpglaaCrcRef
import Derived.Lib.SlBytesConst
namespace Go.Proofs.Ytficekhjigpglaa
open Go.RowKit CrcM

theorem known_sum : CrcM.sum [49, 50, 51, 52, 53, 54, 55, 56, 57] = 0xe3069283#32 := by decide +kernel

theorem Bytes.lit (w : World) (xs : List UInt8) (e : TypeId) (fr : Nat × Nat) (h : xs.length ≤ 9223372036854775807) : Bytes (w.alloc (.cells (bvs xs).toArray e fr)) (.slice (some ⟨w.heap.size, 0, none⟩) xs.length xs.length) xs := by
  refine ⟨_, _, rfl, Nat.le_refl _, h, .inr ⟨_, _, rfl, fun i hi => ?_⟩⟩
  rw [World.cell?_alloc_mark]
  simpa using bvs_get xs i hi

set_option maxHeartbeats 800000 in
theorem known_calls (w : World) : Calls Try.prog 9 #[] w fun e w' => e = .returned (.bool true) ∧ Below w.heap.size w w' := by
  have kc := fun (w : World) (C : Array Value) (n c : Nat) => Lib.run_convert_bytes_const (P := Try.prog) w 23 5 C n c Try.underlying23 Try.underlying5
  have hb := Bytes.lit w [49, 50, 51, 52, 53, 54, 55, 56, 57] 5 (9, 10) (by decide)
  have HB := Lib.hid hb
  clear hb
  go_enter Try.func9, Try.ntmps9
  go_wp2_with fail
  refine (sum_calls _ _ _ HB.out).mono ?_
  rintro e w1 ⟨rfl, hb1⟩
  rw [known_sum]
  go_wp2
  go_ret
  exact ⟨rfl, (((Below.refl _ w).alloc (Nat.le_refl _) _)).trans (hb1.mono (by simp))⟩

set_option maxHeartbeats 800000 in
theorem sums_core (s : BitVec 32) (v : Value) (xs : List UInt8) (w : World) (hv : Bytes w v xs) :
    Calls Try.prog 3 #[.int .u32 s.toNat, v] w fun e w' => e = .returned (.bool true) ∧ Below w.heap.size w w' := by
  have HV := Lib.hid hv
  obtain ⟨a, c, rfl, -⟩ := hv
  go_enter Try.func3, Try.ntmps3
  go_wp2_with fail
  refine (known_calls _).mono ?_
  rintro e w1 ⟨rfl, hb1⟩
  go_wp2_with fail
  refine (sum_calls _ xs _ (HV.out.below hb1 (Nat.le_refl _))).mono ?_
  rintro e w2 ⟨rfl, hb2⟩
  have hb2' := hb1.trans (hb2.mono hb1.size)
  clear hb2
  go_wp2_with fail
  refine (rext_calls 0#32 _ xs _ (HV.out.below hb2' (Nat.le_refl _))).mono ?_
  rintro e w3 ⟨rfl, rfl⟩
  go_wp2_with fail
  refine (extend_calls s _ xs _ (HV.out.below hb2' (Nat.le_refl _))).mono ?_
  rintro e w3 ⟨rfl, hb3⟩
  have hb3' := hb2'.trans (hb3.mono hb2'.size)
  clear hb3
  go_wp2_with fail
  refine (rext_calls s _ xs _ (HV.out.below hb3' (Nat.le_refl _))).mono ?_
  rintro e w3 ⟨rfl, rfl⟩
  go_wp2
  go_ret
  exact ⟨rfl, hb3'⟩

set_option maxHeartbeats 800000 in
theorem keeps_core (v : Value) (xs : List UInt8) (w : World) (hv : Bytes w v xs) (hlen : xs.length ≤ 140737488351232) :
    Calls Try.prog 7 #[v] w fun e w' => e = .returned (.bool true) ∧ Below w.heap.size w w' := by
  have HV := Lib.hid hv
  obtain ⟨a, c, rfl, -⟩ := hv
  go_enter Try.func7, Try.ntmps7
  go_wp2_with fail
  refine (room_calls _ xs _ HV.out hlen).mono ?_
  rintro e w1 ⟨⟨r, rfl, hr⟩, hb1⟩
  have HR := Lib.hid hr
  obtain ⟨g, cap, rfl, -⟩ := hr
  go_wp2_with fail
  refine (sum_calls _ xs _ HR.out.bytes).mono ?_
  rintro e w2 ⟨rfl, hb2⟩
  have hr2 := HR.out.below hb2 (Nat.le_refl _)
  have HR2 := Lib.hid hr2
  clear hr2
  have hb2' := hb1.trans (hb2.mono hb1.size)
  clear hb2
  go_wp2_with fail
  refine (known_calls _).mono ?_
  rintro e w3 ⟨rfl, hb3⟩
  have hr3 := HR2.out.below hb3 (Nat.le_refl _)
  have HR3 := Lib.hid hr3
  clear hr3
  have hb3' := hb2'.trans (hb3.mono hb2'.size)
  clear hb3 hb2'
  go_wp2_with fail
  refine (kept_calls _ _ xs _ _ HR3.out (HV.out.below hb3' (Nat.le_refl _)) hlen).mono ?_
  rintro e w4 ⟨rfl, rfl⟩
  go_wp2_with fail
  refine (sum_calls _ xs _ (HV.out.below hb3' (Nat.le_refl _))).mono ?_
  rintro e w5 ⟨rfl, hb5⟩
  go_wp2
  go_ret
  exact ⟨rfl, hb3'.trans (hb5.mono hb3'.size)⟩

set_option maxHeartbeats 800000 in
theorem extends_core (u v : Value) (xs ys : List UInt8) (w : World) (hu : Bytes w u xs) (hv : Bytes w v ys) (hlen : xs.length + ys.length ≤ 1048576) :
    Calls Try.prog 4 #[u, v] w fun e w' => e = .returned (.bool true) ∧ Below w.heap.size w w' := by
  have HU := Lib.hid hu
  have HV := Lib.hid hv
  obtain ⟨a, c, rfl, -⟩ := hu
  obtain ⟨a', c', rfl, -⟩ := hv
  go_enter Try.func4, Try.ntmps4
  go_wp2_with fail
  refine (known_calls _).mono ?_
  rintro e w1 ⟨rfl, hb1⟩
  have ho := World.ownsRow_lit (base := w.heap.size) (size := 1) (e := 5) w1 #[] 0 hb1.size (by unfold maxLen; omega) rfl
  have HO := Lib.hid ho
  clear ho
  have hb1' := hb1.alloc hb1.size (.cells #[] 5)
  have HB1 := Lib.hid hb1'
  clear hb1' hb1
  go_wp2_with (first
    | (at_builtin; have _t := HO; refine app_list tyBytes HO.out (HU.out.rd.below HB1.out (Nat.le_refl _)) (bvs_one _) (by omega) (by omega) HB1.out.size rfl rfl rfl rfl ?_; intro v2 w2 hown2 hg2 hn2; have HB2 := Lib.hid (HB1.out.grown hg2 HB1.out.size (fun k e => (World.ownsRow.lt HO.out k e).1)); clear HO hg2 hn2; have HO2 := Lib.hid hown2; clear hown2)
    | (at_builtin; have _t := HO2; refine app_list tyBytes HO2.out (HV.out.rd.below HB2.out (Nat.le_refl _)) (bvs_one _) (by omega) (by omega) HB2.out.size rfl rfl rfl rfl ?_; intro v3 w3 hown3 hg3 hn3; have HB3 := Lib.hid (HB2.out.grown hg3 HB2.out.size (fun k e => (World.ownsRow.lt HO2.out k e).1)); clear HO2 hg3 hn3; have HO3 := Lib.hid hown3; clear hown3)
    | fail)
  have hv3 : Bytes w3 v3 (xs ++ ys) := Bytes.of_own (e := 5) (base := w.heap.size) (by
    have h := HO3.out
    simp only [List.length_append, bvs_append]
    simpa using h)
  have HV3 := Lib.hid hv3
  clear hv3
  refine (sum_calls _ _ _ HV3.out).mono ?_
  rintro e w4 ⟨rfl, hb4⟩
  have hb4' := HB3.out.trans (hb4.mono HB3.out.size)
  clear hb4
  go_wp2_with fail
  refine (sum_calls _ _ _ (HU.out.below hb4' (Nat.le_refl _))).mono ?_
  rintro e w5 ⟨rfl, hb5⟩
  have hb5' := hb4'.trans (hb5.mono hb4'.size)
  clear hb5
  go_wp2_with fail
  refine (extend_calls _ _ _ _ (HV.out.below hb5' (Nat.le_refl _))).mono ?_
  rintro e w6 ⟨rfl, hb6⟩
  have he : CrcM.sum (xs ++ ys) = ext (CrcM.sum xs) ys := ext_append _ _ _
  have HE := Lib.hid he
  clear he
  rw [HE.out]
  go_wp2
  go_ret
  exact ⟨rfl, hb5'.trans (hb6.mono hb5'.size)⟩

/-- The three rows mixed. -/
def mix3 (a b c : List UInt8) : List UInt8 := List.zipWith (· ^^^ ·) (List.zipWith (· ^^^ ·) a b) c
theorem mix3_length (a b c : List UInt8) : (mix3 a b c).length = min (min a.length b.length) c.length := by simp [mix3]
theorem mix3_bt (a b c : List UInt8) (k : Nat) (h : k < (mix3 a b c).length) : bits BinOp.xor IntKind.u8 (bits BinOp.xor IntKind.u8 (bt a k) (bt b k)) (bt c k) = bt (mix3 a b c) k := by
  rw [mix3_length] at h
  have hx : ∀ x y : UInt8, bits BinOp.xor IntKind.u8 (x.toNat : Int) (y.toNat : Int) = ((x ^^^ y).toNat : Int) := fun x y => by rw [u8_xor_nat _ _ x.toNat_lt y.toNat_lt]; simp
  unfold bt
  rw [hx, hx]
  congr 2
  have h1 : k < a.length := by omega
  have h2 : k < b.length := by omega
  have h3 : k < c.length := by omega
  have h4 : k < (List.zipWith (· ^^^ ·) (List.zipWith (· ^^^ ·) a b) c).length := by simp; omega
  show a.getD k 0 ^^^ b.getD k 0 ^^^ c.getD k 0 = (List.zipWith (· ^^^ ·) (List.zipWith (· ^^^ ·) a b) c).getD k 0
  rw [List.getD_eq_getElem?_getD, List.getD_eq_getElem?_getD, List.getD_eq_getElem?_getD, List.getD_eq_getElem?_getD, List.getElem?_eq_getElem h1, List.getElem?_eq_getElem h2, List.getElem?_eq_getElem h3, List.getElem?_eq_getElem h4]
  simp
theorem bvs_snoc (l : List UInt8) (k : Nat) (h : k < l.length) : bvs (l.take k) ++ [.int .u8 (bt l k)] = bvs (l.take (k + 1)) := by
  rw [List.take_succ_eq_append_getElem h, bvs_append]
  simp [bvs, byteV, bt, List.getElem?_eq_getElem h]

/-- A part from the front. -/
theorem Bytes.take {w : World} {a : Option Addr} {n cap : Nat} {xs : List UInt8} (h : Bytes w (.slice a n cap) xs) (m : Nat) (hm : m ≤ n) : Bytes w (.slice a m cap) (xs.take m) := by
  obtain ⟨a', cap', hv, h1, h2, h3⟩ := h
  simp only [Value.slice.injEq] at hv
  obtain ⟨rfl, rfl, rfl⟩ := hv
  have hl : (xs.take m).length = m := by simp; omega
  refine ⟨a, cap, by rw [hl], by rw [hl]; omega, h2, ?_⟩
  rcases h3 with h3 | ⟨b, off, ha, hc⟩
  · exact .inl h3
  · refine .inr ⟨b, off, ha, fun i hi => ?_⟩
    rw [hl] at hi
    rw [hc i (by omega)]
    unfold bt
    rw [List.getD_eq_getElem?_getD, List.getD_eq_getElem?_getD, List.getElem?_take_of_lt hi]

theorem mix_take (xs ys zs : List UInt8) (L : Nat) (h : L = (mix3 xs ys zs).length) : mix3 (xs.take L) (ys.take L) (zs.take L) = mix3 xs ys zs := by
  unfold mix3
  rw [← List.take_zipWith, ← List.take_zipWith]
  exact List.take_of_length_le (by rw [h]; exact Nat.le_refl _)
theorem mix_val (xs ys zs : List UInt8) (L : Nat) (h : L = (mix3 xs ys zs).length) :
    bits BinOp.xor IntKind.u32 (bits BinOp.xor IntKind.u32 ((CrcM.sum (xs.take L)).toNat : Int) ((CrcM.sum (ys.take L)).toNat : Int)) ((CrcM.sum (zs.take L)).toNat : Int) = ((CrcM.sum (mix3 xs ys zs)).toNat : Int) := by
  have hx : ∀ x y : BitVec 32, bits BinOp.xor IntKind.u32 (x.toNat : Int) (y.toNat : Int) = ((x ^^^ y).toNat : Int) := fun x y => by rw [u32_xor_nat _ _ x.isLt y.isLt]; simp
  have hl := mix3_length xs ys zs
  rw [hx, hx, ← mix_take xs ys zs L h]
  unfold mix3
  rw [sum_mix _ _ _ (by simp; omega) (by simp; omega)]

set_option maxHeartbeats 1600000 in
set_option maxRecDepth 100000 in
theorem mixes_core (u v t : Value) (xs ys zs : List UInt8) (w : World) (hu : Bytes w u xs) (hv : Bytes w v ys) (ht : Bytes w t zs) (hx : xs.length ≤ 140737488351232) :
    Calls Try.prog 6 #[u, v, t] w fun e w' => e = .returned (.bool true) ∧ Below w.heap.size w w' := by
  have HU := Lib.hid hu
  have HV := Lib.hid hv
  have HT := Lib.hid ht
  obtain ⟨a, ca, rfl, hla, hca, hcca⟩ := hu
  obtain ⟨b, cb, rfl, hlb, hcb, hccb⟩ := hv
  obtain ⟨c, cc, rfl, hlc, hcc, hccc⟩ := ht
  have HA := Lib.hid hcca
  have HB := Lib.hid hccb
  have HC := Lib.hid hccc
  clear hcca hccb hccc
  go_enter Try.func6, Try.ntmps6
  go_wp2_with fail
  refine (known_calls _).mono ?_
  rintro e w1 ⟨rfl, hb1⟩
  have hM := mix3_length xs ys zs
  have hm1 : (mix3 xs ys zs).length ≤ xs.length := by omega
  have hm2 : (mix3 xs ys zs).length ≤ ys.length := by omega
  have hm3 : (mix3 xs ys zs).length ≤ zs.length := by omega
  rcases Nat.lt_or_ge ys.length xs.length with h1 | h1 <;> rcases Nat.lt_or_ge zs.length (min xs.length ys.length) with h2 | h2
  all_goals
    (try have g1 : xs.length ≤ (mix3 xs ys zs).length := by omega)
    (try have g2 : ys.length ≤ (mix3 xs ys zs).length := by omega)
    (try have g3 : zs.length ≤ (mix3 xs ys zs).length := by omega)
    have HM := Lib.hid hM
    clear hM
    go_wp2_with fail
    go_loopw [8, 9] (fun m i wr => ∃ k : Nat, k ≤ (mix3 xs ys zs).length ∧ i = .int .i64 k ∧ wr.ownsRow w.heap.size 5 1 m k (bvs ((mix3 xs ys zs).take k)) ∧ Below w.heap.size w wr) (fun _ i _ => (mix3 xs ys zs).length - (intOf i).toNat)
    case atStart => exact ⟨0, by omega, rfl, World.ownsRow_nil _ _ _ _, hb1⟩
    case round =>
      obtain ⟨k, hk, rfl, ho, hb⟩ := hrel
      have HO := Lib.hid ho
      have HBW := Lib.hid hb
      clear ho hb
      by_cases hlt : k < (mix3 xs ys zs).length
      · rcases HA.out with rfl | ⟨b1, o1, rfl, hc1⟩
        · omega
        rcases HB.out with rfl | ⟨b2, o2, rfl, hc2⟩
        · omega
        rcases HC.out with rfl | ⟨b3, o3, rfl, hc3⟩
        · omega
        have c1 := cell_later HBW.out (hc1 k (by omega))
        have c2 := cell_later HBW.out (hc2 k (by omega))
        have c3 := cell_later HBW.out (hc3 k (by omega))
        clear hc1 hc2 hc3
        have hbt := mix3_bt xs ys zs k hlt
        have HBT := Lib.hid hbt
        clear hbt
        have kx : k < xs.length := by omega
        have ky : k < ys.length := by omega
        have kz : k < zs.length := by omega
        generalize bt xs k = q1 at *
        generalize bt ys k = q2 at *
        generalize bt zs k = q3 at *
        go_wp2_with fail
        refine region_m [(0, false), (1, false), (2, false), (3, false), (4, false), (5, false), (6, false), (7, false), (8, false), (9, false), (10, false), (11, false), (12, false), (13, false), (14, false), (15, true)] 16
          (fun W => W.cell? ⟨b1, o1 + k, none⟩ = some (.int .u8 q1) ∧ W.cell? ⟨b2, o2 + k, none⟩ = some (.int .u8 q2) ∧ W.cell? ⟨b3, o3 + k, none⟩ = some (.int .u8 q3)) (by kernel_rfl) (by kernel_rfl) ⟨c1, c2, c3⟩ ?_
        iterate 15
          refine m_take (v := ?_) rfl rfl ?_ ?_
          rotate_left
          · intro W hW
            go_simp
            with_reducible rfl
          simp only [Act.put, List.setIfInBounds_toArray, List.set_cons_zero, List.set_cons_succ]
        refine m_loud rfl (fun K hK => ?_)
        have HK := Lib.hid hK
        clear hK
        go_simp
        refine HK.out _ _ ⟨cell_later (((Below.refl _ _).drew).alloc (Nat.le_refl _) _) c1, cell_later (((Below.refl _ _).drew).alloc (Nat.le_refl _) _) c2, cell_later (((Below.refl _ _).drew).alloc (Nat.le_refl _) _) c3⟩ ?_
        clear HK
        refine m_done ?_
        simp only [List.drop_succ_cons, List.drop_zero]
        rw [HBT.out]
        clear c1 c2 c3
        have ho2 := (HO.out.drew).alloc (.cells #[.int .u8 (bt (mix3 xs ys zs) k)] 5)
        have HO2 := Lib.hid ho2
        clear ho2
        go_wp2_with (at_builtin; refine app_list tyBytes HO2.out (Rd.lit (n := 1) rfl (by omega)) (by simp [Value.oneCell']) (by omega) (by omega) (by have := HBW.out.size; simp; omega) rfl rfl rfl rfl ?_; intro v2 w2 hown2 hg2 hn2)
        simp only [NP]
        go_wp2
        go_roundw
        case rel =>
          refine ⟨k + 1, by omega, by go_num, ?_, (((HBW.out.alloc HBW.out.size _)).drew).grown hg2 (by have := HBW.out.size; simp; omega) (fun j e => (World.ownsRow.lt HO.out j e).1)⟩
          rw [← bvs_snoc _ _ hlt]
          exact hown2
        case measure => simp [intOf]; omega
      · have hke : k = (mix3 xs ys zs).length := by omega
        have ho := HO.out
        rw [hke, List.take_length] at ho
        have hm := Bytes.of_own ho
        have HMB := Lib.hid hm
        have HKE := Lib.hid hke
        clear hm hke ho
        (try have sxsa : xs.length ≤ ca := by omega)
        (try have sxsb : xs.length ≤ cb := by omega)
        (try have sxsc : xs.length ≤ cc := by omega)
        (try have sysa : ys.length ≤ ca := by omega)
        (try have sysb : ys.length ≤ cb := by omega)
        (try have sysc : ys.length ≤ cc := by omega)
        (try have szsa : zs.length ≤ ca := by omega)
        (try have szsb : zs.length ≤ cb := by omega)
        (try have szsc : zs.length ≤ cc := by omega)
        go_wp2_with fail
        refine region_m [(0, false), (2, false), (3, false), (4, false), (6, false), (7, false), (8, false), (11, false), (12, false), (13, false), (1, true), (5, true), (9, true), (10, false), (14, true), (15, false), (16, false)] 17
          (fun _ => True) (by kernel_rfl) (by kernel_rfl) trivial ?_
        iterate 10
          refine m_take (v := ?_) rfl rfl ?_ ?_
          rotate_left
          · intro W hW
            go_simp
            with_reducible rfl
          simp only [Act.put, List.setIfInBounds_toArray, List.set_cons_zero, List.set_cons_succ]
        refine m_loud rfl (fun K hK => ?_)
        have HK := Lib.hid hK
        clear hK
        go_simp
        refine (sum_calls _ (mix3 xs ys zs) _ (HMB.out.below ((Below.refl _ _).drew) (Nat.le_refl _))).mono ?_
        rintro e y1 ⟨rfl, hy1⟩
        have hz1 := (HBW.out.drew).trans (hy1.mono HBW.out.size)
        have HZ1 := Lib.hid hz1
        clear hz1 hy1
        refine HK.out _ _ trivial ?_
        clear HK
        refine m_loud rfl (fun K hK => ?_)
        have HK := Lib.hid hK
        clear hK
        go_simp
        refine (sum_calls _ _ _ ((HU.out.take _ (by omega)).below HZ1.out (Nat.le_refl _))).mono ?_
        rintro e y2 ⟨rfl, hy2⟩
        have hz2 := HZ1.out.trans (hy2.mono HZ1.out.size)
        have HZ2 := Lib.hid hz2
        clear hz2 hy2
        refine HK.out _ _ trivial ?_
        clear HK
        refine m_loud rfl (fun K hK => ?_)
        have HK := Lib.hid hK
        clear hK
        go_simp
        refine (sum_calls _ _ _ ((HV.out.take _ (by omega)).below HZ2.out (Nat.le_refl _))).mono ?_
        rintro e y3 ⟨rfl, hy3⟩
        have hz3 := HZ2.out.trans (hy3.mono HZ2.out.size)
        have HZ3 := Lib.hid hz3
        clear hz3 hy3
        refine HK.out _ _ trivial ?_
        clear HK
        refine m_take (v := ?_) rfl rfl ?_ ?_
        rotate_left
        · intro W hW
          go_simp
          with_reducible rfl
        simp only [Act.put, List.setIfInBounds_toArray, List.set_cons_zero, List.set_cons_succ]
        refine m_loud rfl (fun K hK => ?_)
        have HK := Lib.hid hK
        clear hK
        go_simp
        refine (sum_calls _ _ _ ((HT.out.take _ (by omega)).below HZ3.out (Nat.le_refl _))).mono ?_
        rintro e y4 ⟨rfl, hy4⟩
        have hz4 := HZ3.out.trans (hy4.mono HZ3.out.size)
        have HZ4 := Lib.hid hz4
        clear hz4 hy4
        refine HK.out _ _ trivial ?_
        clear HK
        refine m_take (v := ?_) rfl rfl ?_ ?_
        rotate_left
        · intro W hW
          go_simp
          with_reducible rfl
        simp only [Act.put, List.setIfInBounds_toArray, List.set_cons_zero, List.set_cons_succ]
        refine m_take (v := ?_) rfl rfl ?_ ?_
        rotate_left
        · intro W hW
          go_simp
          with_reducible rfl
        simp only [Act.put, List.setIfInBounds_toArray, List.set_cons_zero, List.set_cons_succ]
        refine m_done ?_
        simp only [List.drop_succ_cons, List.drop_zero]
        go_wp2
        simp only [NP]
        go_wp2
        go_ret
        refine ⟨?_, HZ4.out⟩
        first
        | (have hv := mix_val xs ys zs xs.length (by have := HM.out; omega); simp only [List.take_length] at hv; exact congrArg (fun b => Ending.returned (.bool b)) (beq_iff_eq.2 hv.symm))
        | (have hv := mix_val xs ys zs ys.length (by have := HM.out; omega); simp only [List.take_length] at hv; exact congrArg (fun b => Ending.returned (.bool b)) (beq_iff_eq.2 hv.symm))
        | (have hv := mix_val xs ys zs zs.length (by have := HM.out; omega); simp only [List.take_length] at hv; exact congrArg (fun b => Ending.returned (.bool b)) (beq_iff_eq.2 hv.symm))
end Go.Proofs.Ytficekhjigpglaa
