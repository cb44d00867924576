/- The code package's Writer, walked. -/
import Derived.Test.YtpbagbhoenmpcaaBagA
import Derived.Test.YtpbagbhoenmpcaaCodeP
namespace Go.Proofs.Ytpbagbhoenmpcaa
set_option linter.unusedVariables false
set_option linter.unusedSimpArgs false
open Go.RowKit

theorem Try.info5 : (Try.prog.info? 5).map (fun i => (i.zero, i.size, i.bytes)) = some (some (.int .u8 0), 1, 1) := by kernel_rfl

/-- What a Writer is: its one cell; the row of its bytes. -/
structure WriterAt (w : World) (B g : Nat) (v : Value) (l : List UInt8) : Prop where
  blk : w.heap[g]? = some (.cells #[v] 71 (0, 0))
  ge : B ≤ g
  own : w.ownsRow B 5 1 v l.length (bcells l)
  apart : v.ownBlock ≠ some g

theorem WriterAt.new (w : World) {B : Nat} (hB : B ≤ w.heap.size) : WriterAt (w.alloc (.cells #[.slice none 0 0] 71)) B w.heap.size (.slice none 0 0) [] :=
  ⟨blk_new _ _, hB, World.ownsRow_nil _ _ _ _, by simp [Value.ownBlock]⟩
theorem WriterAt.keep {w w' : World} {B g : Nat} {v : Value} {l : List UInt8} (h : WriterAt w B g v l) {S : Nat → Prop} (hk : Keep S w w') (hg : ¬ S g) (hv : ∀ k, v.ownBlock = some k → ¬ S k) : WriterAt w' B g v l :=
  ⟨hk.blk h.blk hg, h.ge, ownsRow_keep h.own hk hv, h.apart⟩
theorem WriterAt.below {w w' : World} {B g : Nat} {v : Value} {l : List UInt8} (h : WriterAt w B g v l) (hk : Below w.heap.size w w') : WriterAt w' B g v l :=
  h.keep (below_keep hk fun _ => False) (fun h => h) (fun _ _ h => h)
theorem WriterAt.moved {w w' : World} {B g : Nat} {v v' : Value} {l : List UInt8} (h : WriterAt w B g v l) (hm : Moves g v v' w w') (hB : B ≤ w.heap.size) : Below B w w' :=
  hm.keep.toBelow hB (by
    rintro k (rfl | e)
    · exact h.ge
    · exact (h.own.lt k e).1)

/-- Bytes appended. -/
theorem writer_append {w w1 : World} {B g g1 cap1 n : Nat} {v : Value} {l m : List UInt8} {o : Obj} (h : WriterAt w B g v l) (hn : n = m.length)
    (h1 : w1.ownsRow B 5 1 (.slice (some ⟨g1, 0, none⟩) (l.length + n) cap1) (l.length + n) (bcells l ++ bcells m)) (h2 : (w.alloc o).grownBy w1 v.ownBlock) (h3 : v.ownBlock = some g1 ∨ w.heap.size ≤ g1) :
    WriterAt (w1.setCell ⟨g, 0, none⟩ (.slice (some ⟨g1, 0, none⟩) (l.length + n) cap1)) B g (.slice (some ⟨g1, 0, none⟩) (l.length + n) cap1) (l ++ m) ∧ Moves g v (.slice (some ⟨g1, 0, none⟩) (l.length + n) cap1) w (w1.setCell ⟨g, 0, none⟩ (.slice (some ⟨g1, 0, none⟩) (l.length + n) cap1)) := by
  subst hn
  have hgl := blk_lt h.blk
  have hg1 : g1 ≠ g := by
    rintro rfl
    rcases h3 with e | e
    · exact h.apart e
    · omega
  have hb1 : w1.heap[g]? = some (.cells #[v] 71 (0, 0)) := by
    rw [h2.block g (by rw [size_alloc]; omega) (fun e => h.apart e.symm)]
    exact blk_old h.blk o
  refine ⟨⟨by simpa using blk_set hb1 0 _, h.ge, ?_, by simpa [Value.ownBlock] using hg1⟩, ?_, ?_⟩
  · rw [bcells_app, List.length_append]
    exact ownsRow_set_ne h1 (by simpa [Value.ownBlock] using hg1) _
  · exact (((Keep.refl _ w).alloc o).grown h2 (fun k hk _ => .inr hk)).setCell (p := ⟨g, 0, none⟩) (fun _ => .inl rfl) _
  · intro k hk
    simp only [Value.ownBlock, Option.some.injEq] at hk
    subst hk
    exact h3

def Wrote (B g : Nat) (v : Value) (l m : List UInt8) (w : World) (e : Ending) (w' : World) : Prop := e = .returned (.tuple #[]) ∧ ∃ v', WriterAt w' B g v' (l ++ m) ∧ Moves g v v' w w'

theorem fdiv128 (m : Nat) : (m : Int).fdiv (2 ^ min (Int.toNat 7) IntKind.u64.bits) = ((m / 128 : Nat) : Int) := by
  have h : (2 : Int) ^ min (Int.toNat 7) IntKind.u64.bits = 128 := by decide
  rw [h, Int.fdiv_eq_ediv_of_nonneg _ (by omega)]
  omega
set_option maxRecDepth 100000 in
set_option maxHeartbeats 1000000 in
theorem number_any (w : World) (B g : Nat) (v : Value) (l : List UInt8) (n : Nat) (h : WriterAt w B g v l) (hn : n < 2 ^ 64) (hl : l.length ≤ 1000000) (hB : B ≤ w.heap.size) :
    Calls Try.prog 25 #[.pointer (some ⟨g, 0, none⟩), .int .u64 n] w (Wrote B g v l (encNum n) w) := by
  obtain ⟨i0, hi, hz0, hz1, hz2⟩ := info_parts Try.info5
  have HL := hid (encNum_len64 hn)
  have H0 := hid h
  clear h
  go_enter Try.func25, Try.ntmps25
  go_wp2
  go_loopw [1] (fun s1 wr => ∃ (m : Nat) (v' : Value) (l' : List UInt8), s1 = .int .u64 m ∧ m < 2 ^ 64 ∧ WriterAt wr B g v' l' ∧ Moves g v v' w wr ∧ l' ++ encNum m = l ++ encNum n) (fun s1 _ => (intOf s1).toNat)
  case atStart => exact ⟨n, v, l, rfl, hn, H0.out, Moves.refl _ _ _, rfl⟩
  case round =>
    obtain ⟨m, v', l', rfl, hm, hw, hmv, heq⟩ := hrel
    have hlen : l'.length ≤ 1000010 := by
      have := congrArg List.length heq
      simp only [List.length_append] at this
      have := HL.out
      omega
    have HW := hid hw
    have HM := hid hmv
    have HE := hid heq
    have hBw : B ≤ wr.heap.size := by have := hmv.keep.size; omega
    have hc := blk_cell_some hw.blk 0 rfl
    have hf := blk_frozen hw.blk 0
    have hgl := blk_lt hw.blk
    have hap := hid hw.apart
    obtain ⟨A, cap, rfl⟩ := ownsRow_slice hw.own
    clear hmv heq
    clear hw
    by_cases hbig : 127 < m
    · have d1 : decide ((127 : Int) < (m : Int)) = true := decide_eq_true (by omega)
      obtain ⟨b, hb⟩ : ∃ b, b = UInt8.ofNat (m % 128 + 128) := ⟨_, rfl⟩
      have hor : bits BinOp.or IntKind.u8 ((m : Int) % 256) 128 = (b.toNat : Int) := by
        have h1 : ((m : Int) % 256) = ((m % 256 : Nat) : Int) := by omega
        have h2 : (128 : Int) = ((128 : Nat) : Int) := rfl
        rw [h1, h2, u8_or_nat _ _ (by omega) (by omega), or128, hb, byte_more]
      have HBB := hid hb
      have hfd : (m : Int).fdiv (2 ^ min (Int.toNat 7) IntKind.u64.bits) = ((m / 128 : Nat) : Int) := fdiv128 m
      have HN := hid (news_at (blk_new wr (.cells #[.int .u8 (b.toNat : Int)] 5)))
      have HA := hid (HW.out.own.alloc (.cells #[.int .u8 (b.toNat : Int)] 5))
      clear hb
      go_wp2_with (at_builtin; refine wpList_append_lies _ rfl (.tmp 10) (.tmp 14) 69 rfl B 5 i0 _ 1 1 Try.underlying69 hi hz0 hz1 hz2 rfl (by decide) _ l'.length _ rfl HA.out ⟨wr.heap.size, 0, none⟩ 1 1 _ rfl rfl HN.out (by simp [Value.oneCell']) (by decide) (by unfold maxLen; omega) (by omega) (by simp; omega) (wr.heap.size + 1) (by simp) ?_; intro g1 cap1 w1 h1 h2 h3 h4; have hk0 := h2.block g (by rw [size_alloc]; omega) (fun e => hap.out e.symm); rw [blk_old HW.out.blk] at hk0; have j0 := blk_cell_some hk0 0 rfl; have j1 := blk_frozen hk0 0; have HX := hid (writer_append (m := [b]) HW.out rfl h1 h2 (h3.imp id (fun e => by omega))); clear h1 h2 h3 hk0)
      go_roundw
      case rel =>
        obtain ⟨hx1, hx2⟩ := HX.out
        exact ⟨m / 128, _, l' ++ [b], by go_num, by omega, hx1, HM.out.trans hx2, by rw [List.append_assoc, ← HE.out, encNum_big hbig, HBB.out]; rfl⟩
      case measure => simp [intOf]; omega
    · have d1 : decide ((127 : Int) < (m : Int)) = false := decide_eq_false (by omega)
      have HBC := hid (show ([Value.int .u8 (m : Int)] : List Value) = bcells [UInt8.ofNat m] by simp only [bcells, List.map_cons, List.map_nil]; rw [byte_low m (by omega)])
      have HN := hid (news_at (blk_new wr (.cells #[.int .u8 (m : Int)] 5)))
      have HA := hid (HW.out.own.alloc (.cells #[.int .u8 (m : Int)] 5))
      go_wp2_with (at_builtin; refine wpList_append_lies _ rfl (.tmp 24) (.tmp 27) 69 rfl B 5 i0 _ 1 1 Try.underlying69 hi hz0 hz1 hz2 rfl (by decide) _ l'.length _ rfl HA.out ⟨wr.heap.size, 0, none⟩ 1 1 _ rfl rfl HN.out (by simp [Value.oneCell']) (by decide) (by unfold maxLen; omega) (by omega) (by simp; omega) (wr.heap.size + 1) (by simp) ?_; intro g1 cap1 w1 h1 h2 h3 h4; have hk0 := h2.block g (by rw [size_alloc]; omega) (fun e => hap.out e.symm); rw [blk_old HW.out.blk] at hk0; have j0 := blk_cell_some hk0 0 rfl; have j1 := blk_frozen hk0 0; rw [HBC.out] at h1; have HX := hid (writer_append (m := [UInt8.ofNat m]) HW.out rfl h1 h2 (h3.imp id (fun e => by omega))); clear h1 h2 h3 hk0)
      go_end0
      obtain ⟨hx1, hx2⟩ := HX.out
      refine ⟨rfl, _, ?_, HM.out.trans hx2⟩
      rw [← HE.out, encNum_small hbig]
      exact hx1
end Go.Proofs.Ytpbagbhoenmpcaa
