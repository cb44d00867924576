/- The law BagFull, walked: it returns true. -/
import Derived.Test.YtpbagbhoenmpcaaAwake
namespace Go.Proofs.Ytpbagbhoenmpcaa
open Go.RowKit

theorem IsFault.moved {w w' : World} {x : Value} {c : Int} {B g : Nat} {v v' : Value} {n : Int} {l : List Pkt} (h : IsFault w x c) (hb : BagAt w B g v n l) (hm : Moves g v v' w w') : IsFault w' x c := by
  obtain ⟨k, rfl, hk⟩ := h
  refine ⟨k, rfl, hm.keep.blk hk ?_⟩
  rintro (rfl | e)
  · rw [hb.blk] at hk; cases hk
  · rcases hb.own.2 with ⟨rfl, _⟩ | ⟨r, cap, cur, rfl, _, hr, _⟩
    · cases e
    · simp only [Value.ownBlock, Option.some.injEq] at e
      subst e
      rw [hr] at hk; cases hk

def pk (s : ByteArray) (k : Nat) : List Pkt := (List.range k).map fun i : Nat => ⟨(i : Int) + 1, 0, 1, s⟩
theorem pk_len (s : ByteArray) (k : Nat) : (pk s k).length = k := by simp [pk]
theorem pk_succ (s : ByteArray) (k : Nat) : pk s (k + 1) = pk s k ++ [⟨(k : Int) + 1, 0, 1, s⟩] := by simp [pk, List.range_succ]
theorem pk_get (s : ByteArray) (k i : Nat) (h : i < (pk s k).length) : (pk s k)[i] = ⟨(i : Int) + 1, 0, 1, s⟩ := by simp [pk]
theorem pk_drop (s : ByteArray) (k i : Nat) (h : i < k) : (pk s k).drop i = ⟨(i : Int) + 1, 0, 1, s⟩ :: (pk s k).drop (i + 1) := by
  rw [List.drop_eq_getElem_cons (by rw [pk_len]; exact h), pk_get]
theorem posOf_head (p : Pkt) (l : List Pkt) (id : Int) (h : p.id = id) : posOf (p :: l) id = ((0 : Nat) : Int) := by
  simp [posOf, List.findIdx?_cons, h]

theorem take_head (w : World) (B g : Nat) (v : Value) (n : Int) (p : Pkt) (l : List Pkt) (hb : BagAt w B g v n (p :: l)) (hn : l.length < 10000) (hB : B ≤ w.heap.size) :
    Calls Try.prog 11 #[.pointer (some ⟨g, 0, none⟩), .int .i64 p.id] w fun e w' => e = .returned (.tuple #[.agg #[.int .i64 p.id, .int .i64 p.frm, .int .i64 p.to, .string p.text], .nilIface]) ∧ ∃ v', BagAt w' B g v' n l ∧ Moves g v v' w w' :=
  take_ok w B g v n p.id (p :: l) 0 hb (by simp; omega) (by simp) (posOf_head p l _ rfl) hB
theorem IsFault.at_ {w : World} {k : Nat} {c : Int} (h : IsFault w (.iface 104 (.pointer (some ⟨k, 0, none⟩))) c) : w.cell? ⟨k, 2, none⟩ = some (.iface 36 (.int .i64 c)) := by
  obtain ⟨k', e, hc, _⟩ := h.cell
  injection e with _ e
  injection e with e
  injection e with e
  injection e with e
  subst e
  exact hc
set_option maxRecDepth 100000 in
set_option maxHeartbeats 1000000 in
theorem full_small (s : ByteArray) (m : Nat) (w : World) (hs : s.size ≤ 20) (hm : m ≤ 20) : Calls Try.prog 5 #[.string s, .int .i64 m] w fun e w' => e = .returned (.bool true) ∧ Below w.heap.size w w' := by
  have h0 := hid (BagAt.new w (Nat.le_refl _))
  have d1 : decide ((20 : Int) < (s.size : Int)) = false := decide_eq_false (by omega)
  have d2 : decide ((m : Int) < 0) = false := decide_eq_false (by omega)
  have d3 : decide ((20 : Int) < (m : Int)) = false := decide_eq_false (by omega)
  go_enter Try.func5, Try.ntmps5
  go_wp2
  go_loopw [6] (fun i wr => ∃ k : Nat, k ≤ 4000 ∧ i = .int .i64 k ∧ (∃ v, BagAt wr w.heap.size w.heap.size v k (pk s k)) ∧ Below w.heap.size w wr) (fun i _ => 4000 - (intOf i).toNat)
  case atStart => exact ⟨0, by omega, rfl, ⟨.slice none 0 0, h0.out⟩, (Below.refl _ w).alloc (Nat.le_refl _) _⟩
  case round =>
    obtain ⟨k, hk, rfl, ⟨v, hb⟩, hw⟩ := hrel
    have hsz := hw.size
    have HB := hid hb
    have HW := hid hw
    clear hb hw
    by_cases hlt : k < 4000
    · go_wp2_with (go_at_call 10; refine (send_ok wr w.heap.size w.heap.size v k 0 1 s _ HB.out (by omega) (by rw [pk_len]; omega) (by omega) (by omega) hsz).mono ?_; rintro e w1 ⟨rfl, v1, hb1, hm1⟩)
      have HB1 := hid hb1
      have HM1 := hid hm1
      clear hb1 hm1
      go_roundw
      case rel => exact ⟨k + 1, by omega, by go_num, ⟨v1, by rw [pk_succ]; exact HB1.out⟩, HW.out.trans (HB.out.moved HM1.out hsz)⟩
      case measure => simp [intOf]; omega
    · obtain rfl : k = 4000 := by omega
      have hl4 : (pk s 4000).length = 4000 := pk_len s 4000
      go_wp2_with fail
      refine (send_full wr w.heap.size w.heap.size v _ 0 1 s _ HB.out (by omega) (by rw [hl4]; omega)).mono ?_
      rintro e w1 ⟨x1, rfl, hf1, hb1⟩
      obtain ⟨k1, rfl, _⟩ := hf1.cell
      have HB1 := hid (HB.out.below hb1)
      have hs1 := hb1.size
      have HW1 := hid (HW.out.trans (hb1.mono hsz))
      have HF1 := hid hf1
      clear hf1 hb1
      go_wp2_with fail
      refine (copy_full w1 w.heap.size w.heap.size v _ 1 (pk s 4000) 0 HB1.out (by omega) (by have := posOf_head ⟨((0 : Nat) : Int) + 1, 0, 1, s⟩ ((pk s 4000).drop (0 + 1)) 1 rfl; rw [← pk_drop s 4000 0 (by omega)] at this; exact this) (by rw [pk_get]; show s.size ≤ 2000; omega) (by omega) (by omega) (by omega)).mono ?_
      rintro e w2 ⟨x2, rfl, hf2, hb2⟩
      obtain ⟨k2, rfl, _⟩ := hf2.cell
      have HB2 := hid (HB1.out.below hb2)
      have hs2 := hb2.size
      have HW2 := hid (HW1.out.trans (hb2.mono (by omega)))
      have HF21 := hid (HF1.out.below hb2)
      have HF2 := hid hf2
      clear hf2 hb2 HB HB1 HW HW1 HF1
      go_wp2
      go_loopw [13] (fun i wr => ∃ k : Nat, k ≤ m ∧ i = .int .i64 k ∧ (∃ v, BagAt wr w.heap.size w.heap.size v 4000 ((pk s 4000).drop k)) ∧ IsFault wr (.iface 104 (.pointer (some ⟨k1, 0, none⟩))) 4 ∧ IsFault wr (.iface 104 (.pointer (some ⟨k2, 0, none⟩))) 4 ∧ Below w.heap.size w wr) (fun i _ => m - (intOf i).toNat)
      case atStart => exact ⟨0, by omega, rfl, ⟨v, HB2.out⟩, HF21.out, HF2.out, HW2.out⟩
      case round =>
        obtain ⟨k, hk, rfl, ⟨v, hb⟩, hf1, hf2, hw⟩ := hrel
        have hsz := hw.size
        have HB := hid hb
        have HW := hid hw
        have HF1 := hid hf1
        have HF2 := hid hf2
        clear hb hw hf1 hf2
        by_cases hlt : k < m
        · have HB' := hid (show BagAt wr w.heap.size w.heap.size v 4000 ((⟨(k : Int) + 1, 0, 1, s⟩ : Pkt) :: (pk s 4000).drop (k + 1)) by rw [← pk_drop s 4000 k (by omega)]; exact HB.out)
          go_wp2_with (go_at_call 11; refine (take_head wr w.heap.size w.heap.size v 4000 ⟨(k : Int) + 1, 0, 1, s⟩ _ HB'.out (by simp [pk_len]; omega) hsz).mono ?_; rintro e w1 ⟨rfl, v1, hb1, hm1⟩)
          have HB1 := hid hb1
          have HM1 := hid hm1
          clear hb1 hm1
          have HA := hid ((Below.refl w1.heap.size w1).alloc (Nat.le_refl _) (.cells #[.int .i64 ((k : Int) + 1), .int .i64 0, .int .i64 1, .string s] 32))
          go_roundw
          case rel => exact ⟨k + 1, by omega, by go_num, ⟨v1, HB1.out.below HA.out⟩, (HF1.out.moved HB.out HM1.out).below HA.out, (HF2.out.moved HB.out HM1.out).below HA.out, (HW.out.trans (HB.out.moved HM1.out hsz)).trans (HA.out.mono (by have := HM1.out.keep.size; omega))⟩
          case measure => simp [intOf]; omega
        · obtain rfl : k = m := by omega
          go_wp2
          go_loopw [16] (fun i wr => ∃ j : Nat, j ≤ k ∧ i = .int .i64 j ∧ (∃ v l, BagAt wr w.heap.size w.heap.size v (4000 + j) l ∧ l.length = 4000 - k + j) ∧ IsFault wr (.iface 104 (.pointer (some ⟨k1, 0, none⟩))) 4 ∧ IsFault wr (.iface 104 (.pointer (some ⟨k2, 0, none⟩))) 4 ∧ Below w.heap.size w wr) (fun i _ => k - (intOf i).toNat)
          case atStart => exact ⟨0, by omega, rfl, ⟨v, _, HB.out, by simp [pk_len]⟩, HF1.out, HF2.out, HW.out⟩
          case round =>
            obtain ⟨j, hj, rfl, ⟨v, l, hb, hl⟩, hf1, hf2, hw⟩ := hrel
            have hsz := hw.size
            have HBc := hid hb
            have HL := hid hl
            have HWc := hid hw
            have HF1c := hid hf1
            have HF2c := hid hf2
            clear hb hw hf1 hf2 hl
            by_cases hlt : j < k
            · go_wp2_with (go_at_call 10; refine (send_ok wr w.heap.size w.heap.size v (4000 + j) 0 1 s l HBc.out (by omega) (by have := HL.out; omega) (by omega) (by omega) hsz).mono ?_; rintro e w1 ⟨rfl, v1, hb1, hm1⟩)
              have HB1 := hid hb1
              have HM1 := hid hm1
              clear hb1 hm1
              go_roundw
              case rel => exact ⟨j + 1, by omega, by go_num, ⟨v1, _, by have := HB1.out; rw [show (4000 : Int) + ((j + 1 : Nat) : Int) = 4000 + (j : Int) + 1 by omega]; exact this, by simp [HL.out]; omega⟩, HF1c.out.moved HBc.out HM1.out, HF2c.out.moved HBc.out HM1.out, HWc.out.trans (HBc.out.moved HM1.out hsz)⟩
              case measure => simp [intOf]; omega
            · obtain rfl : j = k := by omega
              go_wp2_with fail
              refine (send_full wr w.heap.size w.heap.size v _ 0 1 s l HBc.out (by omega) (by have := HL.out; omega)).mono ?_
              rintro e w1 ⟨x3, rfl, hf3, hb1⟩
              obtain ⟨k3, rfl, _⟩ := hf3.cell
              have HB1 := hid (HBc.out.below hb1)
              have hs1 := hb1.size
              have HW1 := hid (HWc.out.trans (hb1.mono hsz))
              have HF11 := hid (HF1c.out.below hb1)
              have HF12 := hid (HF2c.out.below hb1)
              have HF13 := hid hf3
              clear hf3 hb1
              go_wp2_with fail
              refine (awake_true w1).mono ?_
              rintro e w2 ⟨rfl, hb2⟩
              have HB2 := hid (HB1.out.below hb2)
              have HW2 := hid (HW1.out.trans (hb2.mono (by omega)))
              have HF21 := hid ((HF11.out.below hb2).at_)
              have HF22 := hid ((HF12.out.below hb2).at_)
              have HF23 := hid ((HF13.out.below hb2).at_)
              clear hb2
              have HLL := hid (show ((l.length : Int) == 4000) = true by rw [HL.out]; simp; omega)
              have hll := HLL.out
              go_wp2_with fail
              refine (is_fault k1 4 4 _ HF21.out).mono ?_
              rintro e w' ⟨rfl, rfl⟩
              go_wp2_with fail
              refine (is_fault k2 4 4 _ HF22.out).mono ?_
              rintro e w' ⟨rfl, rfl⟩
              go_wp2_with fail
              refine (is_fault k3 4 4 _ HF23.out).mono ?_
              rintro e w' ⟨rfl, rfl⟩
              go_wp2_with (go_at_call 15; refine (len_any _ w.heap.size w.heap.size v _ l HB2.out).mono ?_; rintro e w' ⟨rfl, rfl⟩)
              go_ret
              exact ⟨rfl, HW2.out⟩

set_option maxRecDepth 100000 in
theorem full_walk (s : ByteArray) (m : Int) (w : World) : Calls Try.prog 5 #[.string s, .int .i64 m] w fun e w' => e = .returned (.bool true) ∧ Below w.heap.size w w' := by
  by_cases c1 : (20 : Int) < (s.size : Int)
  · have d1 : decide ((20 : Int) < (s.size : Int)) = true := decide_eq_true c1
    clear c1
    go_enter Try.func5, Try.ntmps5
    go_wp2_with (go_at_call 13; refine (awake_true w).mono ?_; rintro e w2 ⟨rfl, hb2⟩)
    go_ret
    exact ⟨rfl, hb2⟩
  · have d1 : decide ((20 : Int) < (s.size : Int)) = false := decide_eq_false c1
    by_cases c2 : m < 0
    · have d2 : decide (m < 0) = true := decide_eq_true c2
      clear c1 c2
      go_enter Try.func5, Try.ntmps5
      go_wp2_with (go_at_call 13; refine (awake_true w).mono ?_; rintro e w2 ⟨rfl, hb2⟩)
      go_ret
      exact ⟨rfl, hb2⟩
    · have d2 : decide (m < 0) = false := decide_eq_false c2
      by_cases c3 : (20 : Int) < m
      · have d3 : decide ((20 : Int) < m) = true := decide_eq_true c3
        clear c1 c2 c3
        go_enter Try.func5, Try.ntmps5
        go_wp2_with (go_at_call 13; refine (awake_true w).mono ?_; rintro e w2 ⟨rfl, hb2⟩)
        go_ret
        exact ⟨rfl, hb2⟩
      · obtain ⟨k, rfl⟩ := Int.eq_ofNat_of_zero_le (show 0 ≤ m by omega)
        exact full_small s k w (by omega) (by omega)
end Go.Proofs.Ytpbagbhoenmpcaa
