/- What the bag's functions do, said of cells: Copy, All, Len. -/
import Derived.Test.YtpbagbhoenmpcaaBagD
import Derived.Test.YtpbagbhoenmpcaaReg
namespace Go.Proofs.Ytpbagbhoenmpcaa
set_option linter.unusedVariables false
set_option linter.unusedSimpArgs false
open Go.RowKit

theorem copy_none (w : World) (B g : Nat) (v : Value) (n id : Int) (l : List Pkt) (hb : BagAt w B g v n l) (hn : l.length ≤ 10000) (hid' : posOf l id < 0) (hB : B ≤ w.heap.size) :
    Calls Try.prog 18 #[.pointer (some ⟨g, 0, none⟩), .int .i64 id] w (FailsWith (.int .i64 0) 9 w) := by
  have HB := hid hb
  have hd : decide (posOf l id < 0) = true := decide_eq_true hid'
  clear hb
  go_enter Try.func18, Try.ntmps18
  go_wp2_with (first | (go_at_call 33; refine (find_any _ B g v n id l HB.out hn).mono ?_; rintro e w1 ⟨rfl, hb1⟩) | (go_at_call 32; refine (fault_any _ _).mono ?_; rintro e w' ⟨rfl, rfl⟩))
  go_ret2
  exact ⟨_, rfl, ⟨_, rfl, blk_new _ _⟩, hb1.alloc hb1.size _⟩

/-- What the walks want of a bag. -/
theorem BagAt.opened {w : World} {B g : Nat} {v : Value} {n : Int} {l : List Pkt} (h : BagAt w B g v n l) : ∃ A cap, v = .slice A l.length cap ∧ w.cell? ⟨g, 0, none⟩ = some (.int .i64 n) ∧ w.cell? ⟨g, 1, none⟩ = some (.slice A l.length cap) ∧ w.frozen? ⟨g, 0, none⟩ = false ∧ w.frozen? ⟨g, 1, none⟩ = false ∧ PktsAt w A l ∧ g < w.heap.size ∧ l.length ≤ cap ∧ cap ≤ 9223372036854775807 ∧ w.ownsRow B 32 4 (.slice A l.length cap) l.length (rowOf l) := by
  obtain ⟨hblk, hge, hown, hap⟩ := h
  obtain ⟨A, cap, rfl⟩ := ownsRow_slice hown
  refine ⟨A, cap, rfl, blk_cell_some hblk 0 rfl, blk_cell_some hblk 1 rfl, blk_frozen hblk 0, blk_frozen hblk 1, pkts_of_own rfl hown, blk_lt hblk, ?_, ?_, hown⟩
  · rcases hown.2 with ⟨hv, h0⟩ | ⟨_, _, _, hv, _, _, hc, _⟩
    · omega
    · injection hv with _ _ h3; omega
  · rcases hown.2 with ⟨hv, h0⟩ | ⟨_, _, _, hv, _, _, _, hc, _⟩
    · injection hv with _ _ h3; omega
    · injection hv with _ _ h3; unfold maxLen at hc; omega

def CopyTo (R : World → Value → Value → World → Prop) (w : World) (e : Ending) (w' : World) : Prop := ∃ w1 x y, Below w.heap.size w w1 ∧ e = .returned (.tuple #[x, y]) ∧ R w1 x y w'
def Gives2 (R : World → Value → Value → World → Prop) (w : World) (e : Ending) (w' : World) : Prop := ∃ x y, e = .returned (.tuple #[x, y]) ∧ R w x y w'

set_option maxRecDepth 100000 in
set_option maxHeartbeats 1000000 in
theorem copy_call (w : World) (B g : Nat) (v : Value) (n id : Int) (l : List Pkt) (i : Nat) (hb : BagAt w B g v n l) (hn : l.length ≤ 10000) (hi : i < l.length) (hp : posOf l id = i) (hB : B ≤ w.heap.size) (R : World → Value → Value → World → Prop)
   (hsend : ∀ w1 : World, BagAt w1 B g v n l → B ≤ w1.heap.size → Calls Try.prog 10 #[.pointer (some ⟨g, 0, none⟩), .int .i64 l[i].frm, .int .i64 l[i].to, .string l[i].text] w1 (Gives2 R w1)) :
    Calls Try.prog 18 #[.pointer (some ⟨g, 0, none⟩), .int .i64 id] w (CopyTo R w) := by
  have HB := hid hb
  have hd : decide (posOf l id < 0) = false := decide_eq_false (by omega)
  have HQ := hid hp
  have HS := hid hsend
  clear hsend hp hb
  go_enter Try.func18, Try.ntmps18
  go_wp2_with (first | (go_at_call 33; refine (find_any _ B g v n id l HB.out hn).mono ?_; rintro e w1 ⟨rfl, hb1⟩; rw [HQ.out]; have HB1 := hid (HB.out.below hb1)))
  have HW := hid hb1
  have hs1 := hb1.size
  clear hb1
  obtain ⟨A, cap, hv, c0, c1, f0, f1, hpk, hg, hc1, hc2, _⟩ := HB1.out.opened
  obtain ⟨r, rfl, hrl, p0, p1, p2, p3⟩ := hpk i hi
  have HV := hid hv
  have hii : (i : Int) < (l.length : Int) := by omega
  clear hpk hv
  refine wp_region_mid 25 (by kernel_rfl) (by kernel_rfl) ?_
  simp only [List.take_succ_cons, List.take_zero, List.drop_succ_cons, List.drop_zero]
  repeat still_step
  refine wpStill_nil ?_
  refine wpOp_mid rfl rfl ?_
  go_simp
  have hd1 : Below w.heap.size w w1.drew := HW.out.drew
  have HB2 := hid (show BagAt w1.drew B g v n l from HB1.out.below ((Below.refl _ w1).drew))
  rw [← HV.out] at *
  refine (HS.out w1.drew HB2.out (Nat.le_trans hB hs1)).mono ?_
  rintro e w2 ⟨x, y, rfl, hR⟩
  have HR := hid hR
  clear hR
  refine wpStill_step (fun K hK => ?_)
  go_simp
  refine hK _ ?_
  clear hK K
  repeat still_step
  refine wpStill_nil ?_
  go_wp2
  go_ret2
  exact ⟨w1.drew, x, y, hd1, rfl, HR.out⟩

def CopyOk (B g : Nat) (v : Value) (n : Int) (p : Pkt) (l : List Pkt) (w : World) (e : Ending) (w' : World) : Prop :=
  e = .returned (.tuple #[.int .i64 (n + 1), .nilIface]) ∧ ∃ v', BagAt w' B g v' (n + 1) (l ++ [⟨n + 1, p.frm, p.to, p.text⟩]) ∧ Moves g v v' w w'
theorem copy_ok (w : World) (B g : Nat) (v : Value) (n id : Int) (l : List Pkt) (i : Nat) (hb : BagAt w B g v n l) (hi : i < l.length) (hp : posOf l id = i) (hs : l[i].text.size ≤ 2000) (hl : l.length < 4000) (hn0 : 0 ≤ n) (hn : n < 1000000) (hB : B ≤ w.heap.size) :
    Calls Try.prog 18 #[.pointer (some ⟨g, 0, none⟩), .int .i64 id] w (CopyOk B g v n l[i] l w) := by
  refine (copy_call w B g v n id l i hb (by omega) hi hp hB (fun w1 x y w' => SendOk B g v n l[i].frm l[i].to l[i].text l w1 (.returned (.tuple #[x, y])) w') fun w1 hb1 hB1 => ?_).mono ?_
  · exact (send_ok w1 B g v n _ _ _ l hb1 hs hl hn0 hn hB1).mono fun e w' h => ⟨.int .i64 (n + 1), .nilIface, h.1, by have h1 := h.1; subst h1; exact h⟩
  · rintro e w' ⟨w1, x, y, hw, rfl, h1, v', h2, h3⟩
    exact ⟨h1, v', h2, (Moves.below hw).trans h3⟩
theorem copy_full (w : World) (B g : Nat) (v : Value) (n id : Int) (l : List Pkt) (i : Nat) (hb : BagAt w B g v n l) (hi : i < l.length) (hp : posOf l id = i) (hs : l[i].text.size ≤ 2000) (hl : 4000 ≤ l.length) (hl2 : l.length ≤ 10000) (hB : B ≤ w.heap.size) :
    Calls Try.prog 18 #[.pointer (some ⟨g, 0, none⟩), .int .i64 id] w (FailsWith (.int .i64 0) 4 w) := by
  refine (copy_call w B g v n id l i hb hl2 hi hp hB (fun w1 x y w' => x = .int .i64 0 ∧ IsFault w' y 4 ∧ Below w1.heap.size w1 w') fun w1 hb1 hB1 => ?_).mono ?_
  · exact (send_full w1 B g v n _ _ _ l hb1 hs hl).mono fun e w' ⟨x, h1, h2, h3⟩ => ⟨.int .i64 0, x, h1, rfl, h2, h3⟩
  · rintro e w' ⟨w1, x, y, hw, rfl, rfl, h1, h2⟩
    exact ⟨y, rfl, h1, hw.trans (h2.mono hw.size)⟩

theorem len_any (w : World) (B g : Nat) (v : Value) (n : Int) (l : List Pkt) (hb : BagAt w B g v n l) :
    Calls Try.prog 15 #[.pointer (some ⟨g, 0, none⟩)] w fun e w' => e = .returned (.int .i64 l.length) ∧ w' = w := by
  obtain ⟨A, cap, rfl, c0, c1, f0, f1, _, hg, _⟩ := hb.opened
  clear hb
  go_enter Try.func15, Try.ntmps15
  go_wp2
  go_ret
  exact ⟨rfl, rfl⟩

end Go.Proofs.Ytpbagbhoenmpcaa
