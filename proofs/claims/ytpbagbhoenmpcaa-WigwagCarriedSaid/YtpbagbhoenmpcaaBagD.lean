/- What the bag's functions do, said of cells: Take. -/
import Derived.Test.YtpbagbhoenmpcaaBagC
namespace Go.Proofs.Ytpbagbhoenmpcaa
set_option linter.unusedVariables false
set_option linter.unusedSimpArgs false
open Go.RowKit

theorem posOf_none {l : List Pkt} {id : Int} (h : posOf l id < 0) : l.findIdx? (fun p => p.id == id) = none := by
  unfold posOf at h
  cases e : l.findIdx? (fun p => p.id == id) with
  | none => rfl
  | some k => rw [e] at h; simp at h; omega
theorem posOf_some {l : List Pkt} {id : Int} (h : ¬ posOf l id < 0) : ∃ i : Nat, posOf l id = (i : Int) ∧ l.findIdx? (fun p => p.id == id) = some i ∧ i < l.length := by
  unfold posOf at h ⊢
  cases e : l.findIdx? (fun p => p.id == id) with
  | none => rw [e] at h; simp at h
  | some k => exact ⟨k, rfl, rfl, (List.findIdx?_eq_some_iff_getElem.1 e).1⟩

theorem take_none (w : World) (B g : Nat) (v : Value) (n id : Int) (l : List Pkt) (hb : BagAt w B g v n l) (hn : l.length ≤ 10000) (hid' : posOf l id < 0) (hB : B ≤ w.heap.size) :
    Calls Try.prog 11 #[.pointer (some ⟨g, 0, none⟩), .int .i64 id] w (FailsWith Pkt.zero.val 9 w) := by
  have hgl := blk_lt hb.blk
  have hb2 : BagAt (w.alloc (.cells #[.int .i64 0, .int .i64 0, .int .i64 0, .string ⟨#[]⟩] 32)) B g v n l := hb.below ((Below.refl _ _).alloc (Nat.le_refl _) _)
  have hnew := blk_new w (.cells #[.int .i64 0, .int .i64 0, .int .i64 0, .string ⟨#[]⟩] 32)
  have HB := hid hb2
  have HN := hid hnew
  have hd : decide (posOf l id < 0) = true := decide_eq_true hid'
  clear hb hb2 hnew
  go_enter Try.func11, Try.ntmps11
  go_wp2_with (first | (go_at_call 33; refine (find_any _ B g v n id l HB.out hn).mono ?_; rintro e w1 ⟨rfl, hb1⟩; have HB1 := hid hb1; have hk0 := Below.blk hb1 HN.out (by simp); have hlt1 := blk_lt hk0; have j0 := blk_cell_some hk0 0 rfl; have j1 := blk_cell_some hk0 1 rfl; have j2 := blk_cell_some hk0 2 rfl; have j3 := blk_cell_some hk0 3 rfl; have f0 := blk_frozen hk0 0; have f1 := blk_frozen hk0 1; have f2 := blk_frozen hk0 2; have f3 := blk_frozen hk0 3; clear hk0) | (go_at_call 32; refine (fault_any _ _).mono ?_; rintro e w' ⟨rfl, rfl⟩))
  refine bodyPost_ret (v := .tuple #[Pkt.zero.val, .iface 104 (.pointer (some ⟨w1.heap.size, 0, none⟩))]) (by simp [results, Try.results11, go_sem, hlt1, j0, j1, j2, j3, Pkt.zero, Pkt.val]) rfl ?_
  refine ⟨_, rfl, ⟨_, rfl, ?_⟩, ?_⟩
  · have := blk_new ((((w1.setCell ⟨w.heap.size, 0, none⟩ (.int .i64 0)).setCell ⟨w.heap.size, 1, none⟩ (.int .i64 0)).setCell ⟨w.heap.size, 2, none⟩ (.int .i64 0)).setCell ⟨w.heap.size, 3, none⟩ (.string ⟨#[]⟩)) (.cells #[.string ⟨#[98, 97, 103]⟩, .int .i64 0, .iface 36 (.int .i64 9)] 106)
    simpa only [size_set] using this
  · have hb : Below w.heap.size w w1 := ((Below.refl _ w).alloc (Nat.le_refl _) _).trans (HB1.out.mono (by simp))
    have hs := hb.size
    exact ((((hb.setCell (Nat.le_refl _) _).setCell (Nat.le_refl _) _).setCell (Nat.le_refl _) _).setCell (Nat.le_refl _) _).alloc (by simp only [size_set]; exact hs) _
end Go.Proofs.Ytpbagbhoenmpcaa
