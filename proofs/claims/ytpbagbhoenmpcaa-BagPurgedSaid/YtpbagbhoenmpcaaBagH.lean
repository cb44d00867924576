/- What the bag's functions do, said of cells: slices.DeleteFunc, Purge. -/
import Derived.Test.YtpbagbhoenmpcaaBagG
namespace Go.Proofs.Ytpbagbhoenmpcaa
set_option linter.unusedVariables false
set_option linter.unusedSimpArgs false
open Go.RowKit

theorem purgec_any (w : World) (x0 x1 x2 id : Int) (s : ByteArray) (g : Nat) (hg : w.cell? ⟨g, 0, none⟩ = some (.int .i64 id)) :
   Calls Try.prog 43 #[.agg #[.int .i64 x0, .int .i64 x1, .int .i64 x2, .string s], .pointer (some ⟨g, 0, none⟩)] w fun e w' => e = .returned (.bool (x2 == id)) ∧ Below w.heap.size w w' := by
  have hlt := World.block_lt_of_cell? w _ hg
  simp only at hlt
  go_enter Try.func43, Try.ntmps43
  go_wp2
  go_ret
  exact ⟨rfl, (Below.refl _ _).alloc (Nat.le_refl _) _⟩

def posTo (l : List Pkt) (id : Int) : Int := (l.findIdx? (fun p => p.to == id)).elim (-1) (fun n => (n : Int))

set_option maxHeartbeats 800000 in
theorem indexp_any (w : World) (l : List Pkt) (id : Int) (g c : Nat) (A : Option Addr) (hg : w.cell? ⟨g, 0, none⟩ = some (.int .i64 id)) (hl : PktsAt w A l) (hn : l.length ≤ 10000) :
   Calls Try.prog 49 #[.slice A l.length c, .func (.func 43) #[] #[.pointer (some ⟨g, 0, none⟩)]] w fun e w' => e = .returned (.int .i64 (posTo l id)) ∧ Below w.heap.size w w' := by
  have hlt := World.block_lt_of_cell? w _ hg
  simp only at hlt
  have HL := hid hl
  clear hl
  go_enter Try.func49, Try.ntmps49
  go_wp2
  go_loopw [5, 8] (fun t i wr => ∃ k : Nat, k ≤ l.length ∧ i = .int .i64 k ∧ Below w.heap.size w wr ∧ ∀ j (h : j < k) (h2 : j < l.length), ((l[j]).to == id) = false) (fun _ i _ => l.length - (intOf i).toNat)
  case atStart => exact ⟨0, Nat.zero_le _, rfl, Below.refl _ _, fun j h => by omega⟩
  case round =>
    obtain ⟨k, hk, rfl, hb, hno⟩ := hrel
    have HN := hid hno
    have hg' := (hb.cell (p := ⟨g, 0, none⟩) hlt).trans hg
    clear hno
    by_cases hlt : k < l.length
    · obtain ⟨r, rfl, hr, h1, h2, h3, h4⟩ := HL.out k hlt
      rw [← hb.cell (p := ⟨r, _, none⟩) hr] at h1
      rw [← hb.cell (p := ⟨r, _, none⟩) hr] at h2
      rw [← hb.cell (p := ⟨r, _, none⟩) hr] at h3
      rw [← hb.cell (p := ⟨r, _, none⟩) hr] at h4
      cases hid' : (l[k].to == id) with
      | true =>
        have HI := hid hid'
        go_wp2_with (go_at_call 43; refine (purgec_any _ _ _ _ id _ g hg').mono ?_; rintro e w1 ⟨rfl, hb1⟩)
        go_ret
        refine ⟨?_, hb.trans (hb1.mono hb.size)⟩
        have : l.findIdx? (fun p => p.to == id) = some k := by
          rw [List.findIdx?_eq_some_iff_getElem]
          exact ⟨hlt, HI.out, fun j hj => by simpa using HN.out j hj (by omega)⟩
        rw [posTo, this]; rfl
      | false =>
        have HI := hid hid'
        go_wp2_with (go_at_call 43; refine (purgec_any _ _ _ _ id _ g hg').mono ?_; rintro e w1 ⟨rfl, hb1⟩)
        go_roundw
        case rel =>
          refine ⟨k+1, by omega, by go_num, hb.trans (hb1.mono hb.size), fun j hj h2 => ?_⟩
          by_cases e : j = k
          · subst e; exact HI.out
          · exact HN.out j (by omega) h2
        case measure => simp [intOf]; omega
    · go_wp2
      go_ret
      refine ⟨?_, hb⟩
      have : l.findIdx? (fun p => p.to == id) = none := by
        rw [List.findIdx?_eq_none_iff]
        intro x hx
        obtain ⟨j, hj, rfl⟩ := List.getElem_of_mem hx
        exact HN.out j (by omega) hj
      rw [posTo, this]; rfl


/-- A row of packets in block r, of capacity cap. -/
structure PR (w : World) (r cap : Nat) (cur : List Pkt) (arr : Array Value) : Prop where
  blk : w.heap[r]? = some (.cells arr 32 (0, 0))
  size : arr.size = cap * 4
  row : arr.toList.take (cur.length * 4) = rowOf cur
  le : cur.length ≤ cap

theorem PR.cells {w : World} {r cap : Nat} {cur : List Pkt} {arr : Array Value} (h : PR w r cap cur arr) (k : Nat) (hk : k < cur.length) :
    w.cell? ⟨r, k * 4, none⟩ = some (.int .i64 (cur[k]).id) ∧ w.cell? ⟨r, k * 4 + 1, none⟩ = some (.int .i64 (cur[k]).frm) ∧ w.cell? ⟨r, k * 4 + 2, none⟩ = some (.int .i64 (cur[k]).to) ∧ w.cell? ⟨r, k * 4 + 3, none⟩ = some (.string (cur[k]).text) := by
  have e : ∀ j u, (rowOf cur)[j]? = some u → w.cell? ⟨r, j, none⟩ = some u := fun j u hu => by
    rw [blk_cell h.blk, ← Array.getElem?_toList]
    rw [← h.row, List.getElem?_take] at hu
    split at hu
    · exact hu
    · cases hu
  obtain ⟨a, b, c, d⟩ := rowOf_get cur k hk
  exact ⟨e _ _ a, e _ _ b, e _ _ c, e _ _ d⟩

theorem PR.set {w : World} {r cap : Nat} {cur : List Pkt} {arr : Array Value} (h : PR w r cap cur arr) (i : Nat) (hi : i < cur.length) (p : Pkt) :
    PR ((((w.setCell ⟨r, i * 4, none⟩ (.int .i64 p.id)).setCell ⟨r, i * 4 + 1, none⟩ (.int .i64 p.frm)).setCell ⟨r, i * 4 + 2, none⟩ (.int .i64 p.to)).setCell ⟨r, i * 4 + 3, none⟩ (.string p.text)) r cap (cur.set i p) (spliceA arr (i * 4) p.cells) := by
  refine ⟨?_, by rw [spliceA_size, h.size], ?_, by simpa using h.le⟩
  · have := blk_setCells p.cells (i * 4) w arr h.blk
    exact this
  · have hlen := rowOf_len cur
    have hle := h.le
    have hsz := h.size
    have harr : ∀ k, k < cur.length * 4 → arr[k]? = (rowOf cur)[k]? := fun k hk => by
      rw [← h.row, List.getElem?_take, if_pos hk, Array.getElem?_toList]
    have hset : rowOf (cur.set i p) = (rowOf cur).take (i * 4) ++ (p.cells ++ (rowOf cur).drop ((i + 1) * 4)) := by
      rw [List.set_eq_take_append_cons_drop, if_pos hi, rowOf_app, rowOf_take, ← rowOf_drop]
      simp [rowOf]
    have hcl : p.cells.length = 4 := rfl
    rw [hset, List.length_set]
    apply List.ext_getElem?
    intro k
    rw [List.getElem?_take]
    split
    case isFalse hk =>
      rw [List.getElem?_eq_none]
      simp only [List.length_append, List.length_take, List.length_drop]
      omega
    case isTrue hk =>
      rw [Array.getElem?_toList]
      by_cases h1 : k < i * 4
      · rw [spliceA_out _ _ _ _ (.inl h1), harr k hk, List.getElem?_append_left (by simp; omega), List.getElem?_take, if_pos h1]
      · obtain ⟨q, rfl⟩ : ∃ q, k = i * 4 + q := ⟨k - i * 4, by omega⟩
        rw [List.getElem?_append_right (by simp; omega)]
        have hmin : i * 4 + q - ((rowOf cur).take (i * 4)).length = q := by simp; omega
        rw [hmin]
        by_cases h2 : q < 4
        · rw [spliceA_in _ _ _ _ (by omega) (by omega), List.getElem?_append_left (by omega)]
        · rw [spliceA_out _ _ _ _ (.inr (by omega)), harr _ hk, List.getElem?_append_right (by omega), List.getElem?_drop]
          congr 1
          omega

theorem PR.keep {w w' : World} {r cap : Nat} {cur : List Pkt} {arr : Array Value} (h : PR w r cap cur arr) (hb : Below w.heap.size w w') : PR w' r cap cur arr := ⟨Below.blk hb h.blk (blk_lt h.blk), h.size, h.row, h.le⟩

/-- What stays. -/
def stays (id : Int) (l : List Pkt) : List Pkt := l.filter fun p => !(p.to == id)
theorem stays_take_succ (id : Int) (l : List Pkt) (j : Nat) (h : j < l.length) : stays id (l.take (j + 1)) = stays id (l.take j) ++ (if l[j].to == id then [] else [l[j]]) := by
  rw [stays, List.take_succ_eq_append_getElem h, List.filter_append]
  congr 1
  cases e : (l[j].to == id) <;> simp [e]
theorem stays_none {id : Int} {l : List Pkt} (h : l.findIdx? (fun p => p.to == id) = none) : stays id l = l := by
  rw [stays, List.filter_eq_self]
  intro p hp
  have := List.findIdx?_eq_none_iff.1 h p hp
  simp at this
  simp [this]
theorem stays_first {id : Int} {l : List Pkt} {i : Nat} (h : l.findIdx? (fun p => p.to == id) = some i) (hi : i < l.length) : stays id (l.take (i + 1)) = l.take i := by
  obtain ⟨_, h1, h2⟩ := List.findIdx?_eq_some_iff_getElem.1 h
  rw [stays_take_succ id l i hi]
  simp at h1
  have : stays id (l.take i) = l.take i := by
    rw [stays, List.filter_eq_self]
    intro p hp
    obtain ⟨j, hj, rfl⟩ := List.getElem_of_mem hp
    simp at hj
    have := h2 j (by omega)
    simp at this
    simp [this]
  rw [this]
  simp [h1]

/-- The loop's state: i packets kept of the first j; the rest untouched. -/
structure Sweep (id : Int) (l : List Pkt) (i j : Nat) (cur : List Pkt) : Prop where
  len : cur.length = l.length
  lt : i < j
  le : j ≤ l.length
  kept : cur.take i = stays id (l.take j)
  rest : cur.drop j = l.drop j
theorem Sweep.start {id : Int} {l : List Pkt} {i : Nat} (h : l.findIdx? (fun p => p.to == id) = some i) (hi : i < l.length) : Sweep id l i (i + 1) l :=
  ⟨rfl, by omega, by omega, (stays_first h hi).symm, rfl⟩
theorem Sweep.get {id : Int} {l : List Pkt} {i j : Nat} {cur : List Pkt} (h : Sweep id l i j cur) (hj : j < l.length) (hc : j < cur.length) : cur[j] = l[j] := by
  have := congrArg (fun x => x[0]?) h.rest
  simp only [List.getElem?_drop, Nat.add_zero, List.getElem?_eq_getElem hj, List.getElem?_eq_getElem hc] at this
  exact Option.some.inj this
theorem Sweep.skip {id : Int} {l : List Pkt} {i j : Nat} {cur : List Pkt} (h : Sweep id l i j cur) (hj : j < l.length) (hp : (l[j].to == id) = true) : Sweep id l i (j + 1) cur := by
  refine ⟨h.len, by have := h.lt; omega, hj, ?_, ?_⟩
  · rw [stays_take_succ id l j hj, hp, h.kept]; simp
  · have := congrArg (List.drop 1) h.rest
    simpa using this
theorem Sweep.store {id : Int} {l : List Pkt} {i j : Nat} {cur : List Pkt} (h : Sweep id l i j cur) (hj : j < l.length) (hp : (l[j].to == id) = false) : Sweep id l (i + 1) (j + 1) (cur.set i l[j]) := by
  have hlt := h.lt
  have hlen := h.len
  refine ⟨by simpa using hlen, by omega, hj, ?_, ?_⟩
  · rw [stays_take_succ id l j hj, hp, ← h.kept, List.take_succ_eq_append_getElem (by simp; omega)]
    simp [List.take_set_of_le]
  · rw [List.drop_set_of_lt (by omega)]
    have := congrArg (List.drop 1) h.rest
    simpa using this
theorem Sweep.done {id : Int} {l : List Pkt} {i : Nat} {cur : List Pkt} (h : Sweep id l i l.length cur) : cur.take i = stays id l := by
  have := h.kept
  rwa [List.take_length] at this
end Go.Proofs.Ytpbagbhoenmpcaa
