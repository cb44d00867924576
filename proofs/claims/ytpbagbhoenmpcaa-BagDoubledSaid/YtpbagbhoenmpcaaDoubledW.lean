/- The law BagDoubled, walked: it returns true. -/
import Derived.Test.YtpbagbhoenmpcaaAwake
namespace Go.Proofs.Ytpbagbhoenmpcaa
set_option linter.unusedVariables false
set_option linter.unusedSimpArgs false
open Go.RowKit

def pkf (f t : Int) (s : ByteArray) (k : Nat) : List Pkt := (List.range k).map fun i : Nat => ⟨(i : Int) + 1, f, t, s⟩
theorem pkf_len (f t : Int) (s : ByteArray) (k : Nat) : (pkf f t s k).length = k := by simp [pkf]
theorem pkf_succ (f t : Int) (s : ByteArray) (k : Nat) : pkf f t s (k + 1) = pkf f t s k ++ [⟨(k : Int) + 1, f, t, s⟩] := by simp [pkf, List.range_succ]
theorem pkf_get (f t : Int) (s : ByteArray) (k i : Nat) (h : i < (pkf f t s k).length) : (pkf f t s k)[i] = ⟨(i : Int) + 1, f, t, s⟩ := by simp [pkf]
theorem pkf_head (f t : Int) (s : ByteArray) (k : Nat) : posOf (pkf f t s (k + 1)) 1 = ((0 : Nat) : Int) := by
  simp [posOf, pkf, List.range_succ_eq_map, List.findIdx?_cons]

theorem pkts_below {w w' : World} {A : Option Addr} {l : List Pkt} (h : PktsAt w A l) (hb : Below w.heap.size w w') : PktsAt w' A l := by
  intro k hk
  obtain ⟨r, rfl, hr, a, b, c, d⟩ := h k hk
  exact ⟨r, rfl, Nat.lt_of_lt_of_le hr hb.size, (hb.cell (p := ⟨r, _, none⟩) hr).trans a, (hb.cell (p := ⟨r, _, none⟩) hr).trans b, (hb.cell (p := ⟨r, _, none⟩) hr).trans c, (hb.cell (p := ⟨r, _, none⟩) hr).trans d⟩

set_option maxRecDepth 100000 in
set_option maxHeartbeats 2000000 in
theorem doubled_small (f t : Int) (s : ByteArray) (m : Nat) (w : World) (hs : s.size ≤ 300) (hm : m ≤ 20) : Calls Try.prog 6 #[.int .i64 f, .int .i64 t, .string s, .int .i64 m] w fun e w' => e = .returned (.bool true) ∧ Below w.heap.size w w' := by
  have h0 := hid (BagAt.new w (Nat.le_refl _))
  have d1 : decide ((300 : Int) < (s.size : Int)) = false := decide_eq_false (by omega)
  have d2 : decide ((m : Int) < 0) = false := decide_eq_false (by omega)
  have d3 : decide ((20 : Int) < (m : Int)) = false := decide_eq_false (by omega)
  go_enter Try.func6, Try.ntmps6
  go_wp2_with fail
  refine (send_ok _ w.heap.size w.heap.size _ 0 f t s [] h0.out (by omega) (by decide) (by decide) (by decide) (by simp)).mono ?_
  rintro e w1 ⟨rfl, v1, hb1, hm1⟩
  have hw1 : Below w.heap.size w w1 := ((Below.refl _ w).alloc (Nat.le_refl _) _).trans (h0.out.moved hm1 (by simp))
  have HB0 := hid (show BagAt w1 w.heap.size w.heap.size v1 ((0 : Nat) + 1) (pkf f t s (0 + 1)) by rw [pkf_succ]; exact hb1)
  have HW0 := hid hw1
  clear hb1 hm1 hw1 h0
  go_wp2
  go_loopw [12] (fun i wr => ∃ k : Nat, k ≤ m ∧ i = .int .i64 k ∧ (∃ v, BagAt wr w.heap.size w.heap.size v (k + 1) (pkf f t s (k + 1))) ∧ Below w.heap.size w wr) (fun i _ => m - (intOf i).toNat)
  case atStart => exact ⟨0, by omega, rfl, ⟨v1, HB0.out⟩, HW0.out⟩
  case round =>
    obtain ⟨k, hk, rfl, ⟨v, hb⟩, hw⟩ := hrel
    have hsz := hw.size
    have HB := hid hb
    have HW := hid hw
    clear hb hw
    by_cases hlt : k < m
    · have dn : (((k : Int) + 1 + 1) != (1 + 1 + (k : Int))) = false := by rw [bne_eq_false_iff_eq]; omega
      have dn' : (((k : Int) + 1 + 1) != (2 + (k : Int))) = false := by rw [bne_eq_false_iff_eq]; omega
      go_wp2_with (go_at_call 18; refine (copy_ok wr w.heap.size w.heap.size v ((k : Int) + 1) 1 (pkf f t s (k + 1)) 0 HB.out (by rw [pkf_len]; omega) (pkf_head f t s k) (by rw [pkf_get]; show s.size ≤ 2000; omega) (by rw [pkf_len]; omega) (by omega) (by omega) hsz).mono ?_; rintro e w1 ⟨rfl, v1, hb1, hm1⟩; rw [pkf_get] at hb1; have HB1 := hid hb1; have HM1 := hid hm1; clear hb1 hm1)
      go_roundw
      case rel => exact ⟨k + 1, by omega, by go_num, ⟨v1, by rw [pkf_succ]; exact HB1.out⟩, HW.out.trans (HB.out.moved HM1.out hsz)⟩
      case measure => simp [intOf]; omega
    · obtain rfl : k = m := by omega
      go_wp2_with fail
      refine (all_any wr w.heap.size w.heap.size v _ _ HB.out (by rw [pkf_len]; omega)).mono ?_
      rintro e w2 ⟨v2, rfl, ho, hb2⟩
      obtain ⟨A, cap, rfl⟩ := ownsRow_slice ho
      have HP := hid (pkts_of_own rfl ho)
      have hs2 := hb2.size
      have HB2 := hid (HB.out.below hb2)
      have HW2 := hid (HW.out.trans (hb2.mono hsz))
      have hlen := pkf_len f t s (k + 1)
      clear ho hb2
      go_wp2
      go_loopw [58] (fun i wq => ∃ j : Nat, j ≤ k + 1 ∧ i = .int .i64 j ∧ Below w2.heap.size w2 wq) (fun i _ => k + 1 - (intOf i).toNat)
      case atStart => exact ⟨0, by omega, rfl, Below.refl _ _⟩
      case round =>
        obtain ⟨j, hj, rfl, hq⟩ := hrel
        have HQ := hid hq
        have hsq := hq.size
        by_cases hlt : j < k + 1
        · obtain ⟨r, rfl, hr, p0, p1, p2, p3⟩ := pkts_below HP.out hq j (by rw [pkf_len]; exact hlt)
          rw [pkf_get] at p0 p1 p2 p3
          clear hq
          go_wp2
          go_roundw
          case rel => exact ⟨j + 1, by omega, by go_num, HQ.out.alloc hsq _⟩
          case measure => simp [intOf]; omega
        · obtain rfl : j = k + 1 := by omega
          have HB3 := hid (HB2.out.below hq)
          have HW3 := hid (HW2.out.trans (hq.mono (by omega)))
          clear hq
          go_wp2_with fail
          refine (awake_true _).mono ?_
          rintro e w3 ⟨rfl, hb3⟩
          have HB4 := hid (HB3.out.below hb3)
          have HW4 := hid (HW3.out.trans (hb3.mono (by omega)))
          clear hb3
          have dl : ((((k : Nat) : Int) + 1) == (1 + (k : Int))) = true := by rw [beq_iff_eq]; omega
          go_wp2_with (go_at_call 15; refine (len_any _ w.heap.size w.heap.size v _ _ HB4.out).mono ?_; rintro e w' ⟨rfl, rfl⟩)
          go_ret
          exact ⟨rfl, HW4.out⟩

set_option maxRecDepth 100000 in
theorem doubled_walk (f t : Int) (s : ByteArray) (m : Int) (w : World) (hf : (Lit.int .i64 f).wf = true) (ht : (Lit.int .i64 t).wf = true) (hs : s.size ≤ 140737488351232) (hm : (Lit.int .i64 m).wf = true) : Calls Try.prog 6 #[.int .i64 f, .int .i64 t, .string s, .int .i64 m] w fun e w' => e = .returned (.bool true) ∧ Below w.heap.size w w' := by
  by_cases c1 : (300 : Int) < (s.size : Int)
  · have d1 : decide ((300 : Int) < (s.size : Int)) = true := decide_eq_true c1
    clear c1 hf ht hm
    go_enter Try.func6, Try.ntmps6
    go_wp2_with (go_at_call 13; refine (awake_true w).mono ?_; rintro e w2 ⟨rfl, hb2⟩)
    go_ret
    exact ⟨rfl, hb2⟩
  · have d1 : decide ((300 : Int) < (s.size : Int)) = false := decide_eq_false c1
    by_cases c2 : m < 0
    · have d2 : decide (m < 0) = true := decide_eq_true c2
      clear c1 c2 hf ht hm
      go_enter Try.func6, Try.ntmps6
      go_wp2_with (go_at_call 13; refine (awake_true w).mono ?_; rintro e w2 ⟨rfl, hb2⟩)
      go_ret
      exact ⟨rfl, hb2⟩
    · have d2 : decide (m < 0) = false := decide_eq_false c2
      by_cases c3 : (20 : Int) < m
      · have d3 : decide ((20 : Int) < m) = true := decide_eq_true c3
        clear c1 c2 c3 hf ht hm
        go_enter Try.func6, Try.ntmps6
        go_wp2_with (go_at_call 13; refine (awake_true w).mono ?_; rintro e w2 ⟨rfl, hb2⟩)
        go_ret
        exact ⟨rfl, hb2⟩
      · obtain ⟨k, rfl⟩ := Int.eq_ofNat_of_zero_le (show 0 ≤ m by omega)
        exact doubled_small f t s k w (by omega) (by omega)
end Go.Proofs.Ytpbagbhoenmpcaa
