/- The code package's Writer, walked: Int, Text, Bytes; link's packet. -/
import Derived.Test.YtpbagbhoenmpcaaCodeA
import Derived.Lib.AppendStr
namespace Go.Proofs.Ytpbagbhoenmpcaa
set_option linter.unusedVariables false
set_option linter.unusedSimpArgs false
open Go.RowKit

theorem xor_neg : bits BinOp.xor IntKind.u64 (IntKind.u64.wrap (IntKind.u64.wrap (-1) * 2)) (IntKind.u64.wrap (-1)) = ((1 : Nat) : Int) := by decide +kernel
theorem xor_pos (m : Nat) (h : m < 2 ^ 62) : bits BinOp.xor IntKind.u64 ((m : Int) * 2) ((m : Int) / 9223372036854775808) = ((2 * m : Nat) : Int) := by
  have h1 : (m : Int) * 2 = ((2 * m : Nat) : Int) := by omega
  have h2 : (m : Int) / 9223372036854775808 = ((0 : Nat) : Int) := by omega
  rw [h1, h2, u64_xor_nat _ _ (by omega) (by omega), Nat.xor_zero]
theorem int_any (w : World) (B g : Nat) (v : Value) (l : List UInt8) (n : Int) (h : WriterAt w B g v l) (hn0 : -1 ≤ n) (hn : n < 2 ^ 62) (hl : l.length ≤ 1000000) (hB : B ≤ w.heap.size) :
    Calls Try.prog 58 #[.pointer (some ⟨g, 0, none⟩), .int .i64 n] w (Wrote B g v l (encNum (zig n)) w) := by
  have H0 := hid h
  clear h
  by_cases h1 : n < 0
  · obtain rfl : n = -1 := by omega
    go_enter Try.func58, Try.ntmps58
    go_wp2_with fail
    rw [xor_neg]
    refine (number_any w B g v l 1 H0.out (by decide) hl hB).mono ?_
    rintro e w1 ⟨rfl, hx⟩
    have HX := hid hx
    clear hx
    go_wp2
    go_end0
    exact ⟨rfl, HX.out⟩
  · obtain ⟨m, rfl⟩ := Int.eq_ofNat_of_zero_le (show 0 ≤ n by omega)
    have hz : zig (m : Int) = 2 * m := by unfold zig; rw [if_neg h1]; omega
    have HZ := hid hz
    clear hz
    go_enter Try.func58, Try.ntmps58
    go_wp2_with fail
    rw [xor_pos m (by omega)]
    refine (number_any w B g v l (2 * m) H0.out (by omega) hl hB).mono ?_
    rintro e w1 ⟨rfl, hx⟩
    have HX := hid hx
    clear hx
    go_wp2
    go_end0
    refine ⟨rfl, ?_⟩
    rw [HZ.out]
    exact HX.out

/-- What stays of a Writer's call that may also take new memory. -/
def WroteB (B g : Nat) (l m : List UInt8) (w : World) (e : Ending) (w' : World) : Prop := e = .returned (.tuple #[]) ∧ ∃ v', WriterAt w' B g v' (l ++ m) ∧ Below B w w'

theorem writer_text {w w1 : World} {B g n : Nat} {v v' : Value} {l m : List UInt8} (h : WriterAt w B g v l) (hn : n = m.length) (hB : B ≤ w.heap.size)
    (h1 : w1.ownsRow B 5 1 v' (l.length + n) (bcells l ++ bcells m)) (h2 : w.grownBy w1 v.ownBlock) : WriterAt (w1.setCell ⟨g, 0, none⟩ v') B g v' (l ++ m) ∧ Below B w (w1.setCell ⟨g, 0, none⟩ v') := by
  subst hn
  have hgl := blk_lt h.blk
  have hb1 : w1.heap[g]? = some (.cells #[v] 71 (0, 0)) := by
    rw [h2.block g hgl (fun e => h.apart e.symm)]
    exact h.blk
  have hap : v'.ownBlock ≠ some g := by
    rcases h1.2 with ⟨rfl, _⟩ | ⟨g1, cap, cur, rfl, _, hc, _⟩
    · simp [Value.ownBlock]
    · intro e
      simp only [Value.ownBlock, Option.some.injEq] at e
      subst e
      rw [hc] at hb1; cases hb1
  refine ⟨⟨by simpa using blk_set hb1 0 _, h.ge, ?_, hap⟩, ?_⟩
  · rw [bcells_app, List.length_append]
    exact ownsRow_set_ne h1 hap _
  · exact ((Below.refl B w).grown h2 hB (fun k hk => (h.own.lt k hk).1)).setCell h.ge _

set_option maxRecDepth 100000 in
set_option maxHeartbeats 1000000 in
theorem text_any (w : World) (B g : Nat) (v : Value) (l : List UInt8) (s : ByteArray) (h : WriterAt w B g v l) (hs : s.size ≤ 1000000) (hl : l.length ≤ 1000000) (hB : B ≤ w.heap.size) :
    Calls Try.prog 59 #[.pointer (some ⟨g, 0, none⟩), .string s] w (WroteB B g l (encNum s.size ++ s.data.toList) w) := by
  obtain ⟨i0, hi, hz0, hz1, hz2⟩ := info_parts Try.info5
  have H0 := hid h
  clear h
  go_enter Try.func59, Try.ntmps59
  go_wp2_with fail
  refine (number_any w B g v l s.size H0.out (by omega) hl hB).mono ?_
  rintro e w1 ⟨rfl, v1, hw1, hm1⟩
  have hlen1 : (l ++ encNum s.size).length ≤ 1000010 := by have := encNum_len64 (show s.size < 2 ^ 64 by omega); simp; omega
  have hbw := H0.out.moved hm1 hB
  have HBW := hid hbw
  have hs1 := hbw.size
  have HW := hid hw1
  have hc := blk_cell_some hw1.blk 0 rfl
  have hf := blk_frozen hw1.blk 0
  have hgl := blk_lt hw1.blk
  have hap := hid hw1.apart
  have HA := hid hw1.own
  generalize hl1 : l ++ encNum s.size = l1 at hlen1 HW HA
  have HL1 := hid hl1
  clear hbw hw1 hm1 hl1
  go_wp2_with (at_builtin; refine Lib.wpList_append_own_string _ rfl (.tmp 13) (.tmp 14) 69 9 rfl B 5 i0 Try.underlying69 Try.underlying9 hi hz0 hz1 hz2 _ l1.length _ rfl HA.out s rfl (by unfold maxLen; omega) (by omega) (by omega) ?_; intro v2 w2 h1 h2 h3; obtain ⟨A2, cap2, rfl⟩ := ownsRow_slice h1; have hk0 := h2.block g hgl (fun e => hap.out e.symm); rw [HW.out.blk] at hk0; have j0 := blk_cell_some hk0 0 rfl; have j1 := blk_frozen hk0 0; have HX := hid (writer_text (m := s.data.toList) HW.out (by rw [Array.length_toList]; rfl) (by omega) h1 h2); clear h1 h2 h3 hk0)
  go_end0
  obtain ⟨hx1, hx2⟩ := HX.out
  obtain rfl := HL1.out
  rw [List.append_assoc] at hx1
  exact ⟨rfl, _, hx1, HBW.out.trans hx2⟩

theorem bytes_any (w : World) (B g : Nat) (v : Value) (l : List UInt8) (h : WriterAt w B g v l) :
    Calls Try.prog 27 #[.pointer (some ⟨g, 0, none⟩)] w fun e w' => e = .returned (.string ⟨l.toArray⟩) ∧ w' = w := by
  have hc := blk_cell_some h.blk 0 rfl
  rcases h.own.2 with ⟨rfl, h0⟩ | ⟨r, cap, cur, rfl, _, hr, hlc, _, hsz, hrow⟩
  · have hl : l = [] := List.eq_nil_of_length_eq_zero h0
    subst hl
    have hcv := run_convert_bytes_nil (P := Try.prog) (w := w) 69 5 Try.underlying69 Try.underlying5 0 0 9 Try.underlying9
    clear h h0
    go_enter Try.func27, Try.ntmps27
    go_wp2
    go_ret
    exact ⟨rfl, rfl⟩
  · have hcells : ∀ i, i < l.length → w.cell? ⟨r, 0 + i, none⟩ = some (.int .u8 ((nums l).getD i 0)) := by
      intro i hi
      rw [Nat.zero_add, blk_cell hr]
      have h1 : (bcells l)[i]? = cur[i]? := by
        rw [← hrow, List.getElem?_take, if_pos (by omega), Array.getElem?_toList]
      rw [← h1]
      simp [bcells, nums, List.getD, hi]
    have hcv := run_convert_bytes_arg (P := Try.prog) (w := w) 69 5 Try.underlying69 Try.underlying5 r 0 l.length cap (nums l) (by simp [nums]) hcells 9 Try.underlying9
    rw [strOf_nums] at hcv
    clear h hcells hrow
    go_enter Try.func27, Try.ntmps27
    go_wp2
    go_ret
    exact ⟨rfl, rfl⟩

/-- A packet's bytes. -/
def pktBytes (n came : Int) (s : ByteArray) : List UInt8 := encNum (zig n) ++ (encNum (zig came) ++ (encNum s.size ++ s.data.toList))

set_option maxRecDepth 100000 in
set_option maxHeartbeats 1000000 in
theorem packet_any (w : World) (n came : Int) (s : ByteArray) (hn0 : -1 ≤ n) (hn : n < 2 ^ 62) (hc0 : -1 ≤ came) (hc : came < 2 ^ 62) (hs : s.size ≤ 1000000) :
    Calls Try.prog 51 #[.int .i64 n, .int .i64 came, .string s] w fun e w' => e = .returned (.string ⟨(pktBytes n came s).toArray⟩) ∧ Below w.heap.size w w' := by
  have h0 := hid (WriterAt.new w (Nat.le_refl _))
  have hz1 := encNum_len64 (show zig n < 2 ^ 64 by unfold zig; split <;> omega)
  have hz2 := encNum_len64 (show zig came < 2 ^ 64 by unfold zig; split <;> omega)
  go_enter Try.func51, Try.ntmps51
  go_wp2_with fail
  refine (int_any _ w.heap.size w.heap.size _ [] n h0.out hn0 hn (by decide) (by simp)).mono ?_
  rintro e w1 ⟨rfl, v1, hw1, hm1⟩
  have HW1 := hid hw1
  have HB1 := hid (((Below.refl _ w).alloc (Nat.le_refl _) _).trans (h0.out.moved hm1 (by simp)))
  have hs1 := HB1.out.size
  clear hw1 hm1
  go_wp2_with fail
  refine (int_any w1 w.heap.size w.heap.size v1 _ came HW1.out hc0 hc (by simp; omega) hs1).mono ?_
  rintro e w2 ⟨rfl, v2, hw2, hm2⟩
  have HW2 := hid hw2
  have HB2 := hid (HB1.out.trans (HW1.out.moved hm2 hs1))
  have hs2 := HB2.out.size
  clear hw2 hm2
  go_wp2_with fail
  refine (text_any w2 w.heap.size w.heap.size v2 _ s HW2.out hs (by simp; omega) hs2).mono ?_
  rintro e w3 ⟨rfl, v3, hw3, hb3⟩
  have HW3 := hid hw3
  have HB3 := hid (HB2.out.trans hb3)
  clear hw3 hb3
  go_wp2_with (go_at_call 27; refine (bytes_any w3 w.heap.size w.heap.size v3 _ HW3.out).mono ?_; rintro e w4 ⟨rfl, rfl⟩)
  go_ret
  refine ⟨?_, HB3.out⟩
  unfold pktBytes
  simp
end Go.Proofs.Ytpbagbhoenmpcaa
