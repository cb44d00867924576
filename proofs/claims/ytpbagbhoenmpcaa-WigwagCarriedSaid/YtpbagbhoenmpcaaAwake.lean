/- The law package's 'awake': true. -/
import Derived.Test.YtpbagbhoenmpcaaBagE
import Derived.Test.YtpbagbhoenmpcaaBagG
import Derived.Test.YtpbagbhoenmpcaaErrIs
namespace Go.Proofs.Ytpbagbhoenmpcaa
set_option linter.unusedVariables false
set_option linter.unusedSimpArgs false
open Go.RowKit

def aTxt : ByteArray := ⟨#[97]⟩
theorem IsFault.cell {w : World} {v : Value} {c : Int} (h : IsFault w v c) : ∃ k, v = .iface 104 (.pointer (some ⟨k, 0, none⟩)) ∧ w.cell? ⟨k, 2, none⟩ = some (.iface 36 (.int .i64 c)) ∧ k < w.heap.size := by
  obtain ⟨k, rfl, hk⟩ := h
  exact ⟨k, rfl, blk_cell_some hk 2 rfl, blk_lt hk⟩

theorem BagAt.moved {w w' : World} {B g : Nat} {v v' : Value} {n : Int} {l : List Pkt} (h : BagAt w B g v n l) (hm : Moves g v v' w w') (hB : B ≤ w.heap.size) : Below B w w' :=
  hm.keep.toBelow hB (by
    rintro k (rfl | e)
    · exact h.ge
    · exact (h.own.lt k e).1)

set_option maxRecDepth 100000 in
set_option maxHeartbeats 1000000 in
theorem awake_true (w : World) : Calls Try.prog 13 #[] w fun e w' => e = .returned (.bool true) ∧ Below w.heap.size w w' := by
  have h0 := hid (BagAt.new w (Nat.le_refl _))
  go_enter Try.func13, Try.ntmps13
  go_wp2_with fail
  refine (send_ok _ w.heap.size w.heap.size _ 0 1 2 aTxt [] h0.out (by decide) (by decide) (by decide) (by decide) (by simp)).mono ?_
  rintro e w1 ⟨rfl, v1, hb1, hm1⟩
  have hw1 : Below w.heap.size w w1 := ((Below.refl _ w).alloc (Nat.le_refl _) _).trans (h0.out.moved hm1 (by simp))
  have hs1 := hw1.size
  have HB1 := hid hb1
  have HW1 := hid hw1
  clear hb1 hw1 hm1
  go_wp2_with fail
  refine (copy_ok w1 w.heap.size w.heap.size v1 1 1 [⟨1, 1, 2, aTxt⟩] 0 HB1.out (by decide) rfl (by decide) (by decide) (by decide) (by decide) hs1).mono ?_
  rintro e w2 ⟨rfl, v2, hb2, hm2⟩
  have hw2 : Below w.heap.size w w2 := HW1.out.trans (HB1.out.moved hm2 hs1)
  have hs2 := hw2.size
  have HB2 := hid hb2
  have HW2 := hid hw2
  clear hb2 hw2 hm2
  go_wp2_with fail
  refine (take_ok w2 w.heap.size w.heap.size v2 2 1 [⟨1, 1, 2, aTxt⟩, ⟨2, 1, 2, aTxt⟩] 0 HB2.out (by decide) (by decide) rfl hs2).mono ?_
  rintro e w3 ⟨rfl, v3, hb3, hm3⟩
  have hw3 : Below w.heap.size w w3 := HW2.out.trans (HB2.out.moved hm3 hs2)
  have hs3 := hw3.size
  have hb3' : BagAt (w3.alloc (.cells #[.int .i64 1, .int .i64 1, .int .i64 2, .string aTxt] 32)) w.heap.size w.heap.size v3 2 [⟨2, 1, 2, aTxt⟩] := BagAt.below hb3 ((Below.refl _ _).alloc (Nat.le_refl _) _)
  have hw3' := hid (hw3.alloc hs3 (.cells #[.int .i64 1, .int .i64 1, .int .i64 2, .string aTxt] 32))
  have HB3 := hid hb3'
  have hn3 := hid (blk_new w3 (.cells #[.int .i64 1, .int .i64 1, .int .i64 2, .string aTxt] 32))
  clear hb3 hb3' hm3 hw3
  unfold Pkt.val
  go_wp2_with fail
  refine (take_none _ w.heap.size w.heap.size v3 2 1 [⟨2, 1, 2, aTxt⟩] HB3.out (by decide) (by decide) (by rw [size_alloc]; omega)).mono ?_
  rintro e w4 ⟨x, rfl, hf, hb⟩
  have hw4 : Below w.heap.size w w4 := hw3'.out.trans (hb.mono (by rw [size_alloc]; omega))
  have hk := Below.blk hb hn3.out (by simp)
  have h3 := blk_cell_some hk 3 rfl
  obtain ⟨k, rfl, hc, hkl⟩ := hf.cell
  have hlt := blk_lt hk
  have hs4 := hw4.size
  have hb4 := hid ((HB3.out.below hb).below (w' := w4.alloc (.cells #[.int .i64 0, .int .i64 0, .int .i64 0, .string ⟨#[]⟩] 32)) ((Below.refl _ _).alloc (Nat.le_refl _) _))
  have HW4 := hid (hw4.alloc hs4 (.cells #[.int .i64 0, .int .i64 0, .int .i64 0, .string ⟨#[]⟩] 32))
  have hc' := alloc_cell (.cells #[.int .i64 0, .int .i64 0, .int .i64 0, .string ⟨#[]⟩] 32) hc
  have HC := hid hc'
  have ht : (aTxt.toList == [97]) = true := by decide +kernel
  clear hb hf hc hc' hw4 hk
  unfold Pkt.zero Pkt.val
  go_wp2_with (first | (go_at_call 12; refine (is_fault k 9 9 _ HC.out).mono ?_; rintro e w' ⟨rfl, rfl⟩) | (go_at_call 15; refine (len_any _ w.heap.size w.heap.size v3 2 [⟨2, 1, 2, aTxt⟩] hb4.out).mono ?_; rintro e w' ⟨rfl, rfl⟩))
  go_ret
  exact ⟨rfl, HW4.out⟩
end Go.Proofs.Ytpbagbhoenmpcaa
