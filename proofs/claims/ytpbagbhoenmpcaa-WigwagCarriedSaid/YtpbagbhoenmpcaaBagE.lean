/- What the bag's functions do, said of cells: Take of a packet that is there. -/
import Derived.Test.YtpbagbhoenmpcaaBagD
namespace Go.Proofs.Ytpbagbhoenmpcaa
set_option linter.unusedVariables false
set_option linter.unusedSimpArgs false
open Go.RowKit

def TakeOk (B g : Nat) (v : Value) (n : Int) (l : List Pkt) (i : Nat) (p : Pkt) (w : World) (e : Ending) (w' : World) : Prop :=
  e = .returned (.tuple #[p.val, .nilIface]) ∧ ∃ v', BagAt w' B g v' n (l.eraseIdx i) ∧ Moves g v v' w w'

set_option maxHeartbeats 800000 in
theorem take_ok (w : World) (B g : Nat) (v : Value) (n id : Int) (l : List Pkt) (i : Nat) (hb : BagAt w B g v n l) (hn : l.length ≤ 10000) (hi : i < l.length) (hp : posOf l id = i) (hB : B ≤ w.heap.size) :
    Calls Try.prog 11 #[.pointer (some ⟨g, 0, none⟩), .int .i64 id] w (TakeOk B g v n l i l[i] w) := by
  have hgl := blk_lt hb.blk
  have hb2 : BagAt (w.alloc (.cells #[.int .i64 0, .int .i64 0, .int .i64 0, .string ⟨#[]⟩] 32)) B g v n l := hb.below ((Below.refl _ _).alloc (Nat.le_refl _) _)
  have hnew := blk_new w (.cells #[.int .i64 0, .int .i64 0, .int .i64 0, .string ⟨#[]⟩] 32)
  obtain ⟨r, cap, cur, rfl, hBr, hrb, hlc, hcm, hcs, hct⟩ : ∃ r cap cur, v = .slice (some ⟨r, 0, none⟩) l.length cap ∧ B ≤ r ∧ w.heap[r]? = some (.cells cur 32 (0, 0)) ∧ l.length ≤ cap ∧ cap ≤ maxLen ∧ cur.size = cap * 4 ∧ cur.toList.take (l.length * 4) = rowOf l := by
    rcases hb.own.2 with ⟨_, h0⟩ | h
    · omega
    · obtain ⟨r, cap, cur, h1, h2, h3, h4, h5, h6, h7⟩ := h
      exact ⟨r, cap, cur, h1, h2, h3, h4, h5, h6, h7⟩
  have hrg : r ≠ g := by intro e; exact hb.apart (by rw [e]; rfl)
  unfold maxLen at hcm
  have hrl := blk_lt hrb
  have HR := hid (blk_old hrb (.cells #[.int .i64 0, .int .i64 0, .int .i64 0, .string ⟨#[]⟩] 32))
  have HB := hid hb2
  have HN := hid hnew
  have HG := hid (blk_old hb.blk (.cells #[.int .i64 0, .int .i64 0, .int .i64 0, .string ⟨#[]⟩] 32))
  have hP0 : (w.alloc (.cells #[.int .i64 0, .int .i64 0, .int .i64 0, .string ⟨#[]⟩] 32)).cell? ⟨r, i * 4, none⟩ = some (.int .i64 (l[i]).id) ∧ (w.alloc (.cells #[.int .i64 0, .int .i64 0, .int .i64 0, .string ⟨#[]⟩] 32)).cell? ⟨r, i * 4 + 1, none⟩ = some (.int .i64 (l[i]).frm) ∧ (w.alloc (.cells #[.int .i64 0, .int .i64 0, .int .i64 0, .string ⟨#[]⟩] 32)).cell? ⟨r, i * 4 + 2, none⟩ = some (.int .i64 (l[i]).to) ∧ (w.alloc (.cells #[.int .i64 0, .int .i64 0, .int .i64 0, .string ⟨#[]⟩] 32)).cell? ⟨r, i * 4 + 3, none⟩ = some (.string (l[i]).text) := by
    obtain ⟨r', hr', _, h⟩ := pkts_of_own rfl hb2.own i hi
    obtain rfl : r = r' := by injection hr' with h1; injection h1
    exact h
  have HP := hid hP0
  clear hP0
  have hd : decide (posOf l id < 0) = false := decide_eq_false (by omega)
  have HQ := hid hp
  have HT := hid hct
  have HS := hid hcs
  clear hb hb2 hnew hrb hct hcs hp
  have hwr : IntKind.i64.wrap ((i : Int) + 1) = (i : Int) + 1 := by rw [IntKind.wrap_i64]; omega
  go_enter Try.func11, Try.ntmps11
  go_wp2_with (first | (go_at_call 33; refine (find_any _ B g _ n id l HB.out hn).mono ?_; rintro e w1 ⟨rfl, hb1⟩; rw [HQ.out]; have HB1 := hid hb1; have hk0 := Below.blk hb1 HN.out (by simp); have hlt1 := blk_lt hk0; have j0 := blk_cell_some hk0 0 rfl; have j1 := blk_cell_some hk0 1 rfl; have j2 := blk_cell_some hk0 2 rfl; have j3 := blk_cell_some hk0 3 rfl; have f0 := blk_frozen hk0 0; have f1 := blk_frozen hk0 1; have f2 := blk_frozen hk0 2; have f3 := blk_frozen hk0 3; have HK0 := hid hk0; have hkg := Below.blk hb1 HG.out (by simp; omega); have m1 := blk_cell_some hkg 1 rfl; have mf := blk_frozen hkg 1; have hltg := blk_lt hkg; have hkr := Below.blk hb1 HR.out (by simp; omega); have hltr := blk_lt hkr; obtain ⟨p0, p1, p2, p3⟩ := HP.out; have q0 := (hb1.cell (p := ⟨r, i * 4, none⟩) (by simp; omega)).trans p0; have q1 := (hb1.cell (p := ⟨r, i * 4 + 1, none⟩) (by simp; omega)).trans p1; have q2 := (hb1.cell (p := ⟨r, i * 4 + 2, none⟩) (by simp; omega)).trans p2; have q3 := (hb1.cell (p := ⟨r, i * 4 + 3, none⟩) (by simp; omega)).trans p3; have HKR := hid hkr; have HKG := hid hkg; clear hk0 hkr hkg hb1 p0 p1 p2 p3))
  refine (del_any _ r cap i cur l (blk_old HKR.out _) hi hlc hcm HS.out HT.out).mono ?_
  rintro e w2 ⟨rfl, hown, hk⟩
  have x0 := hk.blk (blk_old HKG.out _) (fun e => hrg e.symm)
  have x1 := hk.blk (blk_old HK0.out _) (by show ¬ w.heap.size = r; omega)
  have x2 := hk.blk (blk_new w1 _) (by show ¬ w1.heap.size = r; omega)
  have y0 := blk_cell_some x0 1 rfl
  have y1 := blk_frozen x0 1
  have z0 := blk_cell_some x1 0 rfl
  have z1 := blk_cell_some x1 1 rfl
  have z2 := blk_cell_some x1 2 rfl
  have z3 := blk_cell_some x1 3 rfl
  have z4 := blk_frozen x1 0
  have z5 := blk_frozen x1 1
  have z6 := blk_frozen x1 2
  have z7 := blk_frozen x1 3
  have t0 := blk_cell_some x2 0 rfl
  have t1 := blk_cell_some x2 1 rfl
  have t2 := blk_cell_some x2 2 rfl
  have t3 := blk_cell_some x2 3 rfl
  have n1 : g ≠ w.heap.size := by omega
  have n2 : g ≠ w1.heap.size := by omega
  have n3 : w1.heap.size ≠ w.heap.size := by omega
  have HX0 := hid x0
  have HX1 := hid x1
  have HW := hid hown
  have HK := hid hk
  clear x0 x1 x2 hown hk
  go_wp2
  refine bodyPost_ret (v := .tuple #[Pkt.val l[i], .nilIface]) (by simp [results, Try.results11, go_sem, z0, z1, z2, z3, n1, n2, n3, Pkt.val]) rfl ⟨rfl, ?_⟩
  have hlen : (l.eraseIdx i).length = l.length - 1 := by simp [List.length_eraseIdx, hi]
  refine ⟨.slice (some ⟨r, 0, none⟩) (l.length - 1) cap, ⟨?_, (HB.out).ge, ?_, by simp [Value.ownBlock]; omega⟩, ⟨?_, ?_⟩⟩
  · rw [blk_far _ (by simp; omega), blk_far _ (by simp; omega), blk_far _ (by simp; omega), blk_far _ (by simp; omega)]
    simpa using blk_set HX0.out 1 (.slice (some ⟨r, 0, none⟩) (l.length - 1) cap)
  · rw [hlen]
    have h0 := HW.out B hBr
    have e1 : (Value.slice (some ⟨r, 0, none⟩) (l.length - 1) cap).ownBlock ≠ some g := by simp [Value.ownBlock]; omega
    have e2 : (Value.slice (some ⟨r, 0, none⟩) (l.length - 1) cap).ownBlock ≠ some w.heap.size := by simp [Value.ownBlock]; omega
    exact ownsRow_set_ne (ownsRow_set_ne (ownsRow_set_ne (ownsRow_set_ne (ownsRow_set_ne h0 e1 _) e2 _) e2 _) e2 _) e2 _
  · have k0 : Keep (fun k => k = g ∨ (Value.slice (some ⟨r, 0, none⟩) l.length cap).ownBlock = some k) w w1 := (below_keep (((Below.refl _ w).alloc (Nat.le_refl _) _).trans (HB1.out.mono (by simp))) _)
    have k1 := (k0.alloc (.cells #[.int .i64 l[i].id, .int .i64 l[i].frm, .int .i64 l[i].to, .string l[i].text] 32)).trans (HK.out.mono (T := fun k => k = g ∨ (Value.slice (some ⟨r, 0, none⟩) l.length cap).ownBlock = some k) fun k _ e => .inr (by rw [show k = r from e]; rfl))
    exact ((((k1.setCell (p := ⟨g, 1, none⟩) (fun _ => .inl rfl) _).setCell (p := ⟨w.heap.size, 0, none⟩) (fun h => absurd h (Nat.lt_irrefl _)) _).setCell (p := ⟨w.heap.size, 1, none⟩) (fun h => absurd h (Nat.lt_irrefl _)) _).setCell (p := ⟨w.heap.size, 2, none⟩) (fun h => absurd h (Nat.lt_irrefl _)) _).setCell (p := ⟨w.heap.size, 3, none⟩) (fun h => absurd h (Nat.lt_irrefl _)) _
  · intro k hk
    exact .inl hk
end Go.Proofs.Ytpbagbhoenmpcaa
