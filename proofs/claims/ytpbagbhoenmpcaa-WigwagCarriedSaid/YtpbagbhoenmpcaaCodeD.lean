/- The code package's Reader over bytes in form, walked: Int, Text, Done, Open. -/
import Derived.Test.YtpbagbhoenmpcaaCodeC
import Derived.Test.YtpbagbhoenmpcaaCodeB
namespace Go.Proofs.Ytpbagbhoenmpcaa
set_option linter.unusedVariables false
set_option linter.unusedSimpArgs false
open Go.RowKit

theorem open_any (w : World) (s : ByteArray) : Calls Try.prog 26 #[.string s] w fun e w' => e = .returned (.pointer (some ⟨w.heap.size, 0, none⟩)) ∧ w' = w.alloc (.cells #[.string s, .int .i64 0, .nilIface] 100) := by
  go_enter Try.func26, Try.ntmps26
  go_wp2
  go_ret
  exact ⟨rfl, rfl⟩

theorem unzig_neg : bits BinOp.xor IntKind.i64 0 (wrap64 (-wrap64 (bits BinOp.and IntKind.u64 1 1))) = -1 := by decide +kernel
theorem unzig_pos (m : Nat) (h : m < 2 ^ 62) : bits BinOp.xor IntKind.i64 (m : Int) (wrap64 (-wrap64 (bits BinOp.and IntKind.u64 (2 * (m : Int)) 1))) = (m : Int) := by
  have h1 : bits BinOp.and IntKind.u64 (2 * (m : Int)) 1 = 0 := by
    have := u64_and_nat (2 * m) 1 (by omega) (by omega)
    rw [show ((2 * m : Nat) : Int) = 2 * (m : Int) by omega, show ((1 : Nat) : Int) = 1 from rfl] at this
    rw [this, Nat.and_one_is_mod]
    omega
  rw [h1, show wrap64 (-wrap64 0) = 0 by decide +kernel]
  show IntKind.i64.wrap ((BitVec.ofInt 64 (m : Int) ^^^ BitVec.ofInt 64 0).toNat : Int) = _
  rw [show BitVec.ofInt 64 0 = 0#64 by decide, BitVec.xor_zero, ofInt_u64 m (by omega)]
  simp [IntKind.wrap, IntKind.bits, IntKind.signed]
  omega
set_option maxRecDepth 100000 in
theorem rint_any (w : World) (g : Nat) (s : ByteArray) (a : Nat) (n : Int) (rest : List UInt8) (h : ReaderAt w g s a) (hn0 : -1 ≤ n) (hn : n < 2 ^ 62) (hs : s.size ≤ 1000000000) (hb : s.data.toList.drop a = encNum (zig n) ++ rest) :
    Calls Try.prog 52 #[.pointer (some ⟨g, 0, none⟩)] w fun e w' => e = .returned (.int .i64 n) ∧ ReaderAt w' g s (a + (encNum (zig n)).length) ∧ Keep (fun k => k = g) w w' := by
  have H0 := hid h
  have HB := hid hb
  have hz : zig n < 2 ^ 64 := by unfold zig; split <;> omega
  clear h hb
  by_cases h1 : n < 0
  · obtain rfl : n = -1 := by omega
    go_enter Try.func52, Try.ntmps52
    go_wp2_with fail
    refine (rnumber_any w g s a _ rest H0.out hz hs HB.out).mono ?_
    rw [show zig (-1) = 1 from rfl]
    rintro e w1 ⟨rfl, hr, hk⟩
    have HR := hid hr
    have HK := hid hk
    clear hr hk
    go_wp2
    rw [unzig_neg]
    go_ret
    exact ⟨rfl, HR.out, HK.out⟩
  · obtain ⟨m, rfl⟩ := Int.eq_ofNat_of_zero_le (show 0 ≤ n by omega)
    have hzz : zig (m : Int) = 2 * m := by unfold zig; rw [if_neg h1]; omega
    go_enter Try.func52, Try.ntmps52
    go_wp2_with fail
    refine (rnumber_any w g s a _ rest H0.out hz hs HB.out).mono ?_
    rw [hzz]
    rintro e w1 ⟨rfl, hr, hk⟩
    have HR := hid hr
    have HK := hid hk
    have HZ := hid hzz
    have hm : m < 2 ^ 62 := by omega
    clear hr hk hzz hz h1
    go_wp2
    rw [unzig_pos m hm]
    go_ret
    exact ⟨rfl, by rw [HZ.out]; exact HR.out, HK.out⟩

theorem two_max (k k' : IntKind) (x y : Int) : Builtin.max2 (.int k x) (.int k' y) = pure (.int k (if x < y then y else x)) := by simp only [Builtin.max2]
theorem of_two_max (ats : Array TypeId) (ty : TypeId) (a b : Value) : Builtin.max_ ats ty #[a, b] = (Builtin.max2 a b >>= fun s => pure s) := by simp only [Builtin.max_, List.foldlM_cons, List.foldlM_nil]
attribute [local go_sem] two_max of_two_max

theorem extract_text {s t : ByteArray} {a : Nat} {rest : List UInt8} (h : s.data.toList.drop a = t.data.toList ++ rest) : s.extract a (a + t.size) = t := by
  apply ByteArray.ext
  rw [ByteArray.data_extract]
  apply Array.ext'
  rw [Array.toList_extract, List.extract_eq_take_drop, h, show a + t.size - a = t.size by omega]
  have : t.size = t.data.toList.length := by rw [Array.length_toList]; rfl
  rw [this, List.take_left]

theorem reader_at {w : World} {g : Nat} {s : ByteArray} {p q q2 t u : Nat} (h : ReaderAt w g s p) (hu : u = p + t) : ReaderAt (((w.drewN q).setCell ⟨g, 1, none⟩ (.int .i64 ((p : Int) + (t : Int)))).drewN q2) g s u := by
  subst hu
  have := blk_set (w := w.drewN q) h 1 (.int .i64 ((p : Int) + (t : Int)))
  show ((w.drewN q).setCell ⟨g, 1, none⟩ (.int .i64 ((p : Int) + (t : Int)))).heap[g]? = _
  rw [this]
  simp
set_option maxRecDepth 100000 in
set_option maxHeartbeats 1000000 in
theorem rtext_any (w : World) (g : Nat) (s t : ByteArray) (a : Nat) (rest : List UInt8) (h : ReaderAt w g s a) (ht : t.size ≤ 2000) (hs : s.size ≤ 1000000000) (hb : s.data.toList.drop a = encNum t.size ++ (t.data.toList ++ rest)) :
    Calls Try.prog 53 #[.pointer (some ⟨g, 0, none⟩), .int .i64 2000] w fun e w' => e = .returned (.string t) ∧ ReaderAt w' g s (a + (encNum t.size).length + t.size) ∧ Keep (fun k => k = g) w w' := by
  have H0 := hid h
  have HB := hid hb
  have c0 := blk_cell_some h 0 rfl
  have c1 := blk_cell_some h 1 rfl
  have c2 := blk_cell_some h 2 rfl
  clear h hb
  go_enter Try.func53, Try.ntmps53
  go_wp2_with fail
  refine (rnumber_any w g s a _ _ H0.out (by omega) hs HB.out).mono ?_
  rintro e w1 ⟨rfl, hr, hk⟩
  have hdrop : s.data.toList.drop (a + (encNum t.size).length) = t.data.toList ++ rest := by
    rw [← List.drop_drop, HB.out, List.drop_left]
  have hlen := congrArg List.length hdrop
  simp only [List.length_drop, List.length_append, Array.length_toList] at hlen
  have htl : t.data.size = t.size := rfl
  have hsl : s.data.size = s.size := rfl
  generalize hp : a + (encNum t.size).length = p at hr hdrop hlen
  have hex := extract_text hdrop
  have hb1 : t.size ≤ s.size - p := by omega
  have hpos := encNum_pos t.size
  have hps : p + t.size ≤ s.size := by
    rcases Nat.lt_or_ge p s.size with h1 | h1
    · omega
    · have h0 := congrArg List.length HB.out
      simp only [List.length_drop, List.length_append, Array.length_toList] at h0
      omega
  have HP := hid hp
  have HEX := hid hex
  have HR := hid hr
  have HK := hid hk
  have m0 := blk_cell_some hr 0 rfl
  have m1 := blk_cell_some hr 1 rfl
  have m2 := blk_cell_some hr 2 rfl
  have f1 := blk_frozen hr 1
  clear c0 c1 c2 hr hk hp hex hdrop hlen htl hsl hpos
  have t1 : decide ((2000 : Int) < (t.size : Int)) = false := decide_eq_false (by omega)
  have t2 : decide ((s.size : Int) - (p : Int) < (t.size : Int)) = false := decide_eq_false (by omega)
  go_wp2_with fail
  go_quiet (fail)
  go_wp2_with fail
  have g1 : IntKind.i64.wrap ((p : Int) + (t.size : Int) - (t.size : Int)) = (p : Int) := by rw [IntKind.wrap_i64]; omega
  have g2 : (p : Int) ≤ (p : Int) + (t.size : Int) := by omega
  have g3 : (p : Int) + (t.size : Int) ≤ (s.size : Int) := by omega
  have g4 : ((p : Int) + (t.size : Int)).toNat = p + t.size := by omega
  have g5 : (0 : Int) ≤ (p : Int) + (t.size : Int) := by omega
  go_quiet (fail)
  go_wp2_with fail
  go_ret
  exact ⟨by rw [HEX.out]; rfl, reader_at HR.out (by have := HP.out; omega), ((HK.out.drewN _).setCell (p := ⟨g, 1, none⟩) (fun _ => rfl) _).drewN _⟩

theorem rdone_any (w : World) (g : Nat) (s : ByteArray) (a : Nat) (h : ReaderAt w g s a) (ha : a = s.size) :
    Calls Try.prog 29 #[.pointer (some ⟨g, 0, none⟩)] w fun e w' => e = .returned .nilIface ∧ ∃ n, w' = w.drewN n := by
  subst ha
  have c0 := blk_cell_some h 0 rfl
  have c1 := blk_cell_some h 1 rfl
  have c2 := blk_cell_some h 2 rfl
  clear h
  go_enter Try.func29, Try.ntmps29
  go_wp2_with fail
  go_quiet (fail)
  go_wp2
  go_ret
  exact ⟨rfl, _, rfl⟩
end Go.Proofs.Ytpbagbhoenmpcaa
