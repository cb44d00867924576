/- What the bag's functions do, said of cells: slices.DeleteFunc walked. -/
import Derived.Test.YtpbagbhoenmpcaaBagH
namespace Go.Proofs.Ytpbagbhoenmpcaa
set_option linter.unusedVariables false
set_option linter.unusedSimpArgs false
open Go.RowKit

def DelfOk (id : Int) (r cap : Nat) (l : List Pkt) (w : World) (e : Ending) (w' : World) : Prop :=
  e = .returned (.slice (some ⟨r, 0, none⟩) (stays id l).length cap) ∧ (∀ B, B ≤ r → w'.ownsRow B 32 4 (.slice (some ⟨r, 0, none⟩) (stays id l).length cap) (stays id l).length (rowOf (stays id l))) ∧ Keep (fun k => k = r) w w'

theorem delf_end {id : Int} {r cap i : Nat} {l cur : List Pkt} {arr : Array Value} {w wr : World} (h : PR wr r cap cur arr) (hs : Sweep id l i l.length cur) (hk : Keep (fun k => k = r) w wr) (hm : cap ≤ maxLen) :
    DelfOk id r cap l w (.returned (.slice (some ⟨r, 0, none⟩) i cap)) (wr.setCells r (i * 4) (zeroPkts (l.length - i))) := by
  have hlen := hs.len
  have hlt := hs.lt
  have hd := hs.done
  have hi : (stays id l).length = i := by rw [← hd, List.length_take]; omega
  refine ⟨by rw [hi], fun B hB => ⟨by rw [rowOf_len], .inr ⟨r, cap, _, rfl, hB, blk_setCells _ _ _ _ h.blk, by rw [hi]; have := h.le; omega, hm, by rw [spliceA_size, h.size], ?_⟩⟩, ?_⟩
  · rw [hi, ← hd, rowOf_take, ← h.row]
    apply List.ext_getElem?
    intro k
    simp only [List.getElem?_take, Array.getElem?_toList]
    split
    · rw [spliceA_out _ _ _ _ (.inl (by assumption)), if_pos (by omega)]
    · rfl
  · exact Keep.setCells (S := fun k => k = r) (fun _ => rfl) _ _ _ hk

set_option maxRecDepth 100000 in
set_option maxHeartbeats 2000000 in
theorem delf_any (w : World) (r cap g : Nat) (id : Int) (l : List Pkt) (arr : Array Value) (hg : w.heap[g]? = some (.cells #[.int .i64 id] 3 (0, 0))) (hr : PR w r cap l arr) (hm : cap ≤ 9223372036854775807) (hn : l.length ≤ 10000) :
    Calls Try.prog 42 #[.slice (some ⟨r, 0, none⟩) l.length cap, .func (.func 43) #[] #[.pointer (some ⟨g, 0, none⟩)]] w (DelfOk id r cap l w) := by
  have hrg : g ≠ r := by
    rintro rfl
    rw [hr.blk] at hg; cases hg
  have hgc := blk_cell_some hg 0 rfl
  have hpk : PktsAt w (some ⟨r, 0, none⟩) l := fun k hk => ⟨r, rfl, blk_lt hr.blk, hr.cells k hk⟩
  have HG := hid hg
  have HR := hid hr
  have HP := hid hpk
  have HGC := hid hgc
  have hle := hr.le
  clear hg hr hpk hgc
  cases hidx : l.findIdx? (fun p => p.to == id) with
  | none =>
    have hpos : posTo l id = -1 := by rw [posTo, hidx]; rfl
    have HPO := hid hpos
    have HS := hid (stays_none hidx)
    have d1 : (posTo l id == -1) = true := by rw [hpos]; decide
    clear hpos hidx
    go_enter Try.func42, Try.ntmps42
    go_wp2_with (go_at_call 49; refine (indexp_any w l id g cap _ HGC.out HP.out hn).mono ?_; rintro e w1 ⟨rfl, hb1⟩; have HB1 := hid hb1; clear hb1)

    go_ret
    refine ⟨by rw [HS.out]; rfl, fun B hB => ?_, (below_keep HB1.out _)⟩
    rw [HS.out]
    have hb := HR.out.keep HB1.out
    exact ⟨by rw [rowOf_len], .inr ⟨r, cap, arr, rfl, hB, hb.blk, hle, hm, hb.size, hb.row⟩⟩
  | some i0 =>
    have hi0 : i0 < l.length := (List.findIdx?_eq_some_iff_getElem.1 hidx).1
    have hpos : posTo l id = (i0 : Int) := by rw [posTo, hidx]; rfl
    have HPO := hid hpos
    have HS := hid (Sweep.start hidx hi0)
    have dne : (((i0 : Nat) : Int) == -1) = false := beq_eq_false_iff_ne.2 (by omega)
    clear hpos hidx
    go_enter Try.func42, Try.ntmps42
    go_wp2_with (go_at_call 49; refine (indexp_any w l id g cap _ HGC.out HP.out hn).mono ?_; rintro e w1 ⟨rfl, hb1⟩; rw [HPO.out]; have HB1 := hid hb1; clear hb1)
    go_loopw [5, 6] (fun vi vj wr => ∃ (i j : Nat) (cur : List Pkt) (ar : Array Value), vi = .int .i64 i ∧ vj = .int .i64 j ∧ Sweep id l i j cur ∧ PR wr r cap cur ar ∧ Keep (fun k => k = r) w wr) (fun _ vj _ => l.length - (intOf vj).toNat)
    case atStart => exact ⟨i0, i0 + 1, l, arr, rfl, by go_num, HS.out, HR.out.keep HB1.out, below_keep HB1.out _⟩
    case round =>
      obtain ⟨i, j, cur, ar, rfl, rfl, hs, hp, hk⟩ := hrel
      have HS1 := hid hs
      have HP1 := hid hp
      have HK1 := hid hk
      have hij := hs.lt
      have hjl := hs.le
      have hlen := hs.len
      have hg1 := hk.blk HG.out hrg
      have hltr := blk_lt hp.blk
      by_cases hlt : j < l.length
      · obtain ⟨a0, a1, a2, a3⟩ := hp.cells j (by omega)
        rw [hs.get hlt (by omega)] at a0 a1 a2 a3
        obtain ⟨b0, b1, b2, b3⟩ := hp.cells i (by omega)
        have f0 := blk_frozen hp.blk (i * 4)
        have f1 := blk_frozen hp.blk (i * 4 + 1)
        have f2 := blk_frozen hp.blk (i * 4 + 2)
        have f3 := blk_frozen hp.blk (i * 4 + 3)
        have hpb := hid hp.blk
        have HG2 := hid (blk_old hg1 (.cells #[.int .i64 l[j].id, .int .i64 l[j].frm, .int .i64 l[j].to, .string l[j].text] 32))
        generalize hpj : l[j] = p at a0 a1 a2 a3 HG2
        have HPJ := hid hpj
        clear hs hp hk hg1 hpj
        cases ht : (p.to == id) with
        | true =>
          have HT := hid ht
          go_wp2_with (go_at_call 43; refine (purgec_any _ _ _ _ id _ g (blk_cell_some HG2.out 0 rfl)).mono ?_; rintro e w2 ⟨rfl, hb2⟩; have HB2 := hid hb2; clear hb2)
          have hs2 := HB2.out.size
          rw [size_alloc] at hs2
          go_roundw
          case rel => exact ⟨i, j + 1, cur, ar, rfl, by go_num, HS1.out.skip hlt (by rw [HPJ.out]; exact HT.out), (HP1.out.keep ((Below.refl _ wr).alloc (Nat.le_refl _) _)).keep HB2.out, ((HK1.out.alloc _).below HB2.out)⟩
          case measure => simp [intOf]; omega
        | false =>
          have HT := hid ht
          go_wp2_with (go_at_call 43; refine (purgec_any _ _ _ _ id _ g (blk_cell_some HG2.out 0 rfl)).mono ?_; rintro e w2 ⟨rfl, hb2⟩; have hkv := Below.blk hb2 (blk_new wr _) (by rw [size_alloc]; omega); have hkr := Below.blk hb2 (blk_old hpb.out _) (by rw [size_alloc]; omega); have hp2 := (HP1.out.keep ((Below.refl _ wr).alloc (Nat.le_refl _) _)).keep hb2; have HPX := hid hp2; have y0 := blk_cell_some hkv 0 rfl; have y1 := blk_cell_some hkv 1 rfl; have y2 := blk_cell_some hkv 2 rfl; have y3 := blk_cell_some hkv 3 rfl; obtain ⟨z0, z1, z2, z3⟩ := hp2.cells i (by omega); have k0 := blk_frozen hkr (i * 4); have k1 := blk_frozen hkr (i * 4 + 1); have k2 := blk_frozen hkr (i * 4 + 2); have k3 := blk_frozen hkr (i * 4 + 3); have HB2 := hid hb2; have HT2 := hid hkr; clear hb2 hkv hkr hp2)
          have hs2 := HB2.out.size
          rw [size_alloc] at hs2
          go_roundw
          case rel => exact ⟨i + 1, j + 1, cur.set i p, _, by go_num, by go_num, by have := HS1.out.store hlt (by rw [HPJ.out]; exact HT.out); rw [HPJ.out] at this; exact this, HPX.out.set i (by omega) p, (((((HK1.out.alloc _).below HB2.out).setCell (p := ⟨r, _, none⟩) (fun _ => rfl) _).setCell (p := ⟨r, _, none⟩) (fun _ => rfl) _).setCell (p := ⟨r, _, none⟩) (fun _ => rfl) _).setCell (p := ⟨r, _, none⟩) (fun _ => rfl) _⟩
          case measure => simp [intOf]; omega
      · obtain rfl : j = l.length := by omega
        have hclr := run_clear_row (P := Try.prog) (n := l.length - i) wr 24 32 0 _ Try.underlying24 Try.zero32 (zeroPkts_one _) r (i * 4) (cap - i) (by omega)
          (fun q hq => by
            rw [blk_cell hp.blk, Array.getElem?_eq_getElem (by have := zeroPkts_len (l.length - i); unfold zeroPkts at this; simp only [Value.cells] at hq; have := hp.size; omega)]
            rfl) (fun q _ => blk_frozen hp.blk _)
        have HC := hid (show (Builtin.clear_ #[24] 0 #[.slice (some ⟨r, i * 4, none⟩) (l.length - i) (cap - i)]).run Try.prog wr = .ok (.tuple #[]) (wr.setCells r (i * 4) (zeroPkts (l.length - i))) from hclr)
        have HE := hid (delf_end hp hs hk hm)
        have hil : i ≤ l.length := by omega
        have hic : i ≤ cap := by omega
        have hicn : ¬ cap = i := by omega
        clear hclr hs hp hk hg1 hlen
        go_wp2_with fail
        rw [HC.out]
        go_wp2
        go_ret
        exact HE.out
end Go.Proofs.Ytpbagbhoenmpcaa
