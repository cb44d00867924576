/- What the bag's functions do, said of cells: Purge. -/
import Derived.Test.YtpbagbhoenmpcaaBagI
namespace Go.Proofs.Ytpbagbhoenmpcaa
set_option linter.unusedVariables false
set_option linter.unusedSimpArgs false
open Go.RowKit

def PurgeOk (B g : Nat) (v : Value) (n id : Int) (l : List Pkt) (w : World) (e : Ending) (w' : World) : Prop :=
  e = .returned (.int .i64 ((l.length : Int) - ((stays id l).length : Int))) ∧ ∃ v', BagAt w' B g v' n (stays id l) ∧ Moves g v v' w w'

theorem stays_le (id : Int) (l : List Pkt) : (stays id l).length ≤ l.length := List.length_filter_le _ _

theorem delf_nil (w : World) (cap g : Nat) (id : Int) (hg : w.cell? ⟨g, 0, none⟩ = some (.int .i64 id)) :
    Calls Try.prog 42 #[.slice none 0 cap, .func (.func 43) #[] #[.pointer (some ⟨g, 0, none⟩)]] w fun e w' => e = .returned (.slice none 0 cap) ∧ Below w.heap.size w w' := by
  have HG := hid hg
  have d1 : (posTo [] id == -1) = true := by show ((-1 : Int) == -1) = true; decide
  have hp : PktsAt w none [] := fun k hk => absurd hk (Nat.not_lt_zero _)
  have HP := hid hp
  clear hp hg
  go_enter Try.func42, Try.ntmps42
  go_wp2_with (go_at_call 49; refine (indexp_any w [] id g cap none HG.out HP.out (by decide)).mono ?_; rintro e w1 ⟨rfl, hb1⟩; have HB1 := hid hb1; clear hb1)
  go_ret
  exact ⟨rfl, HB1.out⟩

set_option maxRecDepth 100000 in
set_option maxHeartbeats 1000000 in
theorem purge_any (w : World) (B g : Nat) (v : Value) (n id : Int) (l : List Pkt) (hb : BagAt w B g v n l) (hn : l.length ≤ 10000) (hB : B ≤ w.heap.size) :
    Calls Try.prog 23 #[.pointer (some ⟨g, 0, none⟩), .int .i64 id] w (PurgeOk B g v n id l w) := by
  have hge := hb.ge
  have hgl := blk_lt hb.blk
  have hap := hb.apart
  have HBK := hid hb.blk
  have HG := hid (blk_old hb.blk (.cells #[.int .i64 id] 3))
  have HN := hid (blk_new w (.cells #[.int .i64 id] 3))
  have HBA := hid (hb.below (w' := w.alloc (.cells #[.int .i64 id] 3)) ((Below.refl _ w).alloc (Nat.le_refl _) _))
  have hgc0 := blk_cell_some hb.blk 1 rfl
  have hle := stays_le id l
  have HO := hid hb.own
  have HA := hid hap
  clear hap
  rcases hb.own.2 with ⟨rfl, h0⟩ | ⟨r, cap, arr, rfl, hBr, hrb, hlc, hcm, hsz, hrow⟩
  · have hl : l = [] := List.eq_nil_of_length_eq_zero h0
    subst hl
    clear hb h0
    go_enter Try.func23, Try.ntmps23
    go_wp2_with (go_at_call 42; refine (delf_nil _ 0 w.heap.size id (blk_cell_some HN.out 0 rfl)).mono ?_; rintro e w1 ⟨rfl, hb1⟩; have hkg := Below.blk hb1 HG.out (by rw [size_alloc]; omega); have m1 := blk_cell_some hkg 1 rfl; have mf := blk_frozen hkg 1; have HKG := hid hkg; have HB1 := hid hb1; clear hkg hb1)
    go_ret
    refine ⟨rfl, .slice none 0 0, ⟨?_, hge, World.ownsRow_nil _ _ _ _, by simp [Value.ownBlock]⟩, ⟨?_, fun k hk => by cases hk⟩⟩
    · simpa using blk_set HKG.out 1 (.slice none 0 0)
    · exact (((Keep.refl _ w).alloc _).below HB1.out).setCell (p := ⟨g, 1, none⟩) (fun _ => .inl rfl) _
  · have hrg : r ≠ g := by rintro rfl; exact HA.out rfl
    have HR := hid (show PR (w.alloc (.cells #[.int .i64 id] 3)) r cap l arr from ⟨blk_old hrb _, hsz, hrow, hlc⟩)
    have hrl := blk_lt hrb
    unfold maxLen at hcm
    clear hb hrb hsz hrow
    go_enter Try.func23, Try.ntmps23
    go_wp2_with (go_at_call 42; refine (delf_any _ r cap w.heap.size id l arr HN.out HR.out hcm hn).mono ?_; rintro e w1 ⟨rfl, ho, hk⟩; have hkg := hk.blk HG.out (fun e => hrg e.symm); have m1 := blk_cell_some hkg 1 rfl; have mf := blk_frozen hkg 1; have HKG := hid hkg; have HO1 := hid ho; have HK1 := hid hk; clear hkg ho hk)
    go_ret
    refine ⟨rfl, _, ⟨by simpa using blk_set HKG.out 1 _, hge, ownsRow_set_ne (HO1.out B hBr) (by simpa [Value.ownBlock] using hrg) _, by simpa [Value.ownBlock] using hrg⟩, ⟨?_, fun k hk => .inl hk⟩⟩
    exact (((Keep.refl _ w).alloc _).trans (HK1.out.mono (T := fun k => k = g ∨ (Value.slice (some ⟨r, 0, none⟩) l.length cap).ownBlock = some k) fun k _ e => .inr (by rw [show k = r from e]; rfl))).setCell (p := ⟨g, 1, none⟩) (fun _ => .inl rfl) _
end Go.Proofs.Ytpbagbhoenmpcaa
