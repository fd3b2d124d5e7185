/- Layer 2: All walked. -/
import Derived.Test.YtfmfmalhebfnhaaFrame04
namespace Go.Proofs.Ytfmfmalhebfnhaa
open Go.RowKit Go.Shelf CrcM FrM
attribute [local go_sem] Oper.semAt_some

/-- What All's closure tells. -/
def AStep (xs : List UInt8) (n base : Nat) (k : Nat) (args : Array Value) (k' : Nat) (W : World) : Prop :=
  k < n ∧ k' = k + 1 ∧ ∃ p, args = #[p] ∧ Mine W base p (pay xs k)

set_option maxHeartbeats 800000 in
set_option maxRecDepth 100000 in
theorem all1_iter (xs : List UInt8) (v : Value) (n base b0 l : Nat) (J : Nat → World → Prop) (Jx : World → Prop) (w : World) (hn : Count xs n) (hlen : xs.length ≤ 140737488351232)
    (hm : ∀ s W W', Below W.heap.size W W' → J s W → J s W')
    (hv : ∀ s W, J s W → Bytes W v xs ∧ W.cell? ⟨b0, 0, none⟩ = some v ∧ base ≤ W.heap.size)
    (hy : ∀ s args s' W, J s W → AStep xs n base s args s' W → YieldAt Fence.wide 0 Try.prog l args W fun e W' => (e = .returned (.bool true) ∧ J s' W') ∨ (e = .returned (.bool false) ∧ Jx W'))
    (h0 : J 0 w) :
    CallsIn Fence.wide 0 Try.prog 30 #[.func (.yield l) #[] #[], .pointer (some ⟨b0, 0, none⟩)] w fun e W' => (∃ v, e = .returned v) ∧ ((∃ s, s = n ∧ J s W') ∨ Jx W') := by
  have HV := Lib.hid hv
  have HY := Lib.hid hy
  have H0 := Lib.hid h0
  have HM := Lib.hid hm
  have HN := Lib.hid hn
  clear hv hy h0 hm hn
  refine callsIn_of_wp Try.func30 rfl trivial ?_
  simp only [Try.ntmps30, List.size_toArray, List.length_cons, List.length_nil, Nat.reduceAdd, Nat.reduceSub, Array.replicate_succ, Array.replicate_zero, List.push_toArray, List.append_toArray, List.nil_append, List.cons_append]
  gi_wp2
  gi_loopw [3] (fun i wr => ∃ k : Nat, k ≤ n ∧ i = .int .i64 (pos xs k) ∧ J k wr) (fun i _ => xs.length + 1 - (intOf i).toNat)
  case atStart => exact ⟨0, by omega, rfl, H0.out⟩
  case round =>
    obtain ⟨k, hk, rfl, hj⟩ := hrel
    obtain ⟨hbv, hbox, hbase⟩ := HV.out _ _ hj
    have HBV := Lib.hid hbv
    have HJ := Lib.hid hj
    clear hbv hj
    have hp := pos_le xs k (fun j hj => HN.out.1 j (by omega))
    obtain ⟨-, hp2⟩ := hp
    by_cases hlt : k < n
    · have hc0 := HN.out.1 k hlt
      have hp3 := pos_next xs k hc0
      have HC0 := Lib.hid hc0
      have HP3 := Lib.hid hp3
      clear hc0 hp3
      gi_wp2_with (gi_at_call 14; refine (callsIn_wide.2 (next_calls v xs _ _ HBV.out ⟨by omega, by omega⟩ hlen)).mono ?_; rintro e w1 ⟨r1, n1, c1, rfl, ⟨hm1, hn1, hc1⟩, hb1⟩; have hn1' := hn1.trans HP3.out; have hc1' := hc1.trans HC0.out; clear hn1 hc1; subst hn1' hc1'; obtain ⟨fn, tmps, assign, body, hyy, hR⟩ := HY.out k #[r1] (k + 1) w1 (HM.out _ _ _ hb1 HJ.out) ⟨hlt, rfl, r1, rfl, hm1.mono hbase⟩; clear hm1 hb1)
      refine hR.mono ?_
      clear hR hyy
      rintro e W' (⟨rfl, hj1⟩ | ⟨rfl, hjx⟩)
      · gi_wp2
        go_roundw
        case rel => exact ⟨k + 1, by omega, rfl, hj1⟩
        case measure =>
          have h1 := pos_le xs (k + 1) (fun j hj => HN.out.1 j (by omega))
          have h2 : pos xs k < pos xs (k + 1) := by simp [pos]; omega
          simp [intOf]; omega
      · gi_wp2
        refine bodyPost_ret (results_none rfl _ _ _) rfl ?_
        exact ⟨⟨_, rfl⟩, .inr hjx⟩
    · obtain rfl : k = n := by omega
      have hc0 := HN.out.2
      gi_wp2_with (gi_at_call 14; refine (callsIn_wide.2 (next_calls v xs _ _ HBV.out ⟨by omega, by omega⟩ hlen)).mono ?_; rintro e w1 ⟨r1, n1, c1, rfl, ⟨hm1, hn1, hc1⟩, hb1⟩; rw [← hc1] at hc0; have hj1 := HM.out _ _ _ hb1 HJ.out; clear hm1 hb1 hn1 hc1)
      refine bodyPost_ret (results_none rfl _ _ _) rfl ?_
      exact ⟨⟨_, rfl⟩, .inl ⟨_, rfl, hj1⟩⟩

theorem all_calls (a : Option Addr) (n c : Nat) (w : World) : CallsIn Fence.wide 0 Try.prog 19 #[.slice a n c] w fun e w' => e = .returned (.func (.func 30) #[] #[.pointer (some ⟨w.heap.size, 0, none⟩)]) ∧ w' = w.alloc (.cells #[.slice a n c] 22) := by
  refine callsIn_of_wp Try.func19 rfl trivial ?_
  simp only [Try.ntmps19, List.size_toArray, List.length_cons, List.length_nil, Nat.reduceAdd, Nat.reduceSub, Array.replicate_succ, Array.replicate_zero, List.push_toArray, List.append_toArray, List.nil_append, List.cons_append]
  gi_wp2
  go_ret
  exact ⟨rfl, rfl⟩
end Go.Proofs.Ytfmfmalhebfnhaa
