/- What the bag's functions do, said of cells: find, slices.IndexFunc, slices.Delete, Take. -/
import Derived.Test.YtpbagbhoenmpcaaBagA
import Derived.Test.YtpbagbhoenmpcaaMemB
namespace Go.Proofs.Ytpbagbhoenmpcaa
set_option linter.unusedVariables false
set_option linter.unusedSimpArgs false
open Go.RowKit

theorem findc_any (w : World) (x0 x1 x2 id : Int) (s : ByteArray) (g : Nat) (hg : w.cell? ⟨g, 0, none⟩ = some (.int .i64 id)) :
   Calls Try.prog 50 #[.agg #[.int .i64 x0, .int .i64 x1, .int .i64 x2, .string s], .pointer (some ⟨g, 0, none⟩)] w fun e w' => e = .returned (.bool (x0 == id)) ∧ Below w.heap.size w w' := by
  have hlt := World.block_lt_of_cell? w _ hg
  simp only at hlt
  go_enter Try.func50, Try.ntmps50
  go_wp2
  go_ret
  exact ⟨rfl, (Below.refl _ _).alloc (Nat.le_refl _) _⟩

/-- The packets of a slice, cell by cell. -/
def PktsAt (w : World) (A : Option Addr) (l : List Pkt) : Prop := ∀ (k : Nat) (h : k < l.length), ∃ r, A = some ⟨r, 0, none⟩ ∧ r < w.heap.size ∧ w.cell? ⟨r, k * 4, none⟩ = some (.int .i64 (l[k]).id) ∧ w.cell? ⟨r, k * 4 + 1, none⟩ = some (.int .i64 (l[k]).frm) ∧ w.cell? ⟨r, k * 4 + 2, none⟩ = some (.int .i64 (l[k]).to) ∧ w.cell? ⟨r, k * 4 + 3, none⟩ = some (.string (l[k]).text)

theorem pkts_of_own {w : World} {B : Nat} {A : Option Addr} {n cap : Nat} {l : List Pkt} (hn : n = l.length) (h : w.ownsRow B 32 4 (.slice A n cap) n (rowOf l)) : PktsAt w A l := by
  intro k hk
  rcases h.2 with ⟨hv, h0⟩ | ⟨g, cap', cur, hv, hg, hh, _, _, hs, ht⟩
  · omega
  · injection hv with hA _ _
    refine ⟨g, hA, blk_lt hh, ?_⟩
    have e : ∀ j u, (rowOf l)[j]? = some u → w.cell? ⟨g, j, none⟩ = some u := fun j u hu => by
      rw [blk_cell hh, ← Array.getElem?_toList]
      rw [← ht, List.getElem?_take] at hu
      split at hu
      · exact hu
      · cases hu
    obtain ⟨a, b, c, d⟩ := rowOf_get l k hk
    exact ⟨e _ _ a, e _ _ b, e _ _ c, e _ _ d⟩

def posOf (l : List Pkt) (id : Int) : Int := (l.findIdx? (fun p => p.id == id)).elim (-1) (fun n => (n : Int))

set_option maxHeartbeats 800000 in
theorem index_any (w : World) (l : List Pkt) (id : Int) (g c : Nat) (A : Option Addr) (hg : w.cell? ⟨g, 0, none⟩ = some (.int .i64 id)) (hl : PktsAt w A l) (hn : l.length ≤ 10000) :
   Calls Try.prog 49 #[.slice A l.length c, .func (.func 50) #[] #[.pointer (some ⟨g, 0, none⟩)]] w fun e w' => e = .returned (.int .i64 (posOf l id)) ∧ Below w.heap.size w w' := by
  have hlt := World.block_lt_of_cell? w _ hg
  simp only at hlt
  have HL := hid hl
  clear hl
  go_enter Try.func49, Try.ntmps49
  go_wp2
  go_loopw [5, 8] (fun t i wr => ∃ k : Nat, k ≤ l.length ∧ i = .int .i64 k ∧ Below w.heap.size w wr ∧ ∀ j (h : j < k) (h2 : j < l.length), ((l[j]).id == id) = false) (fun _ i _ => l.length - (intOf i).toNat)
  case atStart => exact ⟨0, Nat.zero_le _, rfl, Below.refl _ _, fun j h => by omega⟩
  case round =>
    obtain ⟨k, hk, rfl, hb, hno⟩ := hrel
    have HN := hid hno
    have hg' := (hb.cell (p := ⟨g, 0, none⟩) hlt).trans hg
    clear hno
    by_cases hlt : k < l.length
    · obtain ⟨r, rfl, hr, h1, h2, h3, h4⟩ := HL.out k hlt
      rw [← hb.cell (p := ⟨r, _, none⟩) hr] at h1
      rw [← hb.cell (p := ⟨r, _, none⟩) hr] at h2
      rw [← hb.cell (p := ⟨r, _, none⟩) hr] at h3
      rw [← hb.cell (p := ⟨r, _, none⟩) hr] at h4
      cases hid' : (l[k].id == id) with
      | true =>
        have HI := hid hid'
        go_wp2_with (go_at_call 50; refine (findc_any _ _ _ _ id _ g hg').mono ?_; rintro e w1 ⟨rfl, hb1⟩)
        go_ret
        refine ⟨?_, hb.trans (hb1.mono hb.size)⟩
        have : l.findIdx? (fun p => p.id == id) = some k := by
          rw [List.findIdx?_eq_some_iff_getElem]
          exact ⟨hlt, HI.out, fun j hj => by simpa using HN.out j hj (by omega)⟩
        rw [posOf, this]; rfl
      | false =>
        have HI := hid hid'
        go_wp2_with (go_at_call 50; refine (findc_any _ _ _ _ id _ g hg').mono ?_; rintro e w1 ⟨rfl, hb1⟩)
        go_roundw
        case rel =>
          refine ⟨k+1, by omega, by go_num, hb.trans (hb1.mono hb.size), fun j hj h2 => ?_⟩
          by_cases e : j = k
          · subst e; exact HI.out
          · exact HN.out j (by omega) h2
        case measure => simp [intOf]; omega
    · go_wp2
      go_ret
      refine ⟨?_, hb⟩
      have : l.findIdx? (fun p => p.id == id) = none := by
        rw [List.findIdx?_eq_none_iff]
        intro x hx
        obtain ⟨j, hj, rfl⟩ := List.getElem_of_mem hx
        exact HN.out j (by omega) hj
      rw [posOf, this]; rfl

theorem find_any (w : World) (B g : Nat) (v : Value) (n id : Int) (l : List Pkt) (hb : BagAt w B g v n l) (hn : l.length ≤ 10000) :
    Calls Try.prog 33 #[.pointer (some ⟨g, 0, none⟩), .int .i64 id] w fun e w' => e = .returned (.int .i64 (posOf l id)) ∧ Below w.heap.size w w' := by
  obtain ⟨hblk, hge, hown, hap⟩ := hb
  obtain ⟨A, cap, rfl⟩ := ownsRow_slice hown
  have hc1 : w.cell? ⟨g, 1, none⟩ = some (.slice A l.length cap) := blk_cell_some hblk 1 rfl
  have hgl := blk_lt hblk
  have hp : PktsAt (w.alloc (.cells #[.int .i64 id] 3)) A l := pkts_of_own rfl (hown.alloc _)
  have HP := hid hp
  clear hblk hown hap hp
  go_enter Try.func33, Try.ntmps33
  go_wp2_with (go_at_call 49; refine (index_any _ l id _ cap A (blk_cell_some (blk_new w (.cells #[.int .i64 id] 3)) 0 rfl) HP.out hn).mono ?_; rintro e w1 ⟨rfl, hb1⟩)
  go_ret
  exact ⟨rfl, ((Below.refl _ w).alloc (Nat.le_refl _) _).trans (hb1.mono (by simp))⟩
end Go.Proofs.Ytpbagbhoenmpcaa
