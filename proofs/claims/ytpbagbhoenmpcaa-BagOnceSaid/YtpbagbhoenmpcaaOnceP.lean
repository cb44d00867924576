/- BagOnce: the plain part: what the packets sent are; what is left of them. -/
import Derived.Test.YtpbagbhoenmpcaaAwake
import Derived.Test.YtpbagbhoenmpcaaArg
namespace Go.Proofs.Ytpbagbhoenmpcaa
set_option linter.unusedVariables false
set_option linter.unusedSimpArgs false
open Go.RowKit

def cut3 (s : ByteArray) : ByteArray := if (300 : Int) < (s.size : Int) then s.extract 0 300 else s
theorem cut3_size (s : ByteArray) : (cut3 s).size ≤ 300 := by
  unfold cut3
  split
  · rw [ByteArray.size_extract]; omega
  · omega
def tx (ts : List ByteArray) (k : Nat) : ByteArray := cut3 (ts.getD k ByteArray.empty)
theorem tx_size (ts : List ByteArray) (k : Nat) : (tx ts k).size ≤ 300 := cut3_size _
theorem tx_long {ts : List ByteArray} {k : Nat} {s : ByteArray} (h : ts.getD k ByteArray.empty = s) (hl : (300 : Int) < (s.size : Int)) : s.extract 0 300 = tx ts k := by rw [tx, h, cut3, if_pos hl]
theorem tx_short {ts : List ByteArray} {k : Nat} {s : ByteArray} (h : ts.getD k ByteArray.empty = s) (hl : ¬ (300 : Int) < (s.size : Int)) : s = tx ts k := by rw [tx, h, cut3, if_neg hl]
def pkSent (ts : List ByteArray) (k : Nat) : List Pkt := (List.range k).map fun j : Nat => ⟨(j : Int) + 1, j, 2 * (j : Int), tx ts j⟩
theorem pkSent_len (ts : List ByteArray) (k : Nat) : (pkSent ts k).length = k := by simp [pkSent]
theorem pkSent_succ (ts : List ByteArray) (k : Nat) : pkSent ts (k + 1) = pkSent ts k ++ [⟨(k : Int) + 1, k, 2 * (k : Int), tx ts k⟩] := by simp [pkSent, List.range_succ]
theorem pkSent_get (ts : List ByteArray) (k i : Nat) (h : i < (pkSent ts k).length) : (pkSent ts k)[i] = ⟨(i : Int) + 1, i, 2 * (i : Int), tx ts i⟩ := by simp [pkSent]
theorem pkSent_mem {ts : List ByteArray} {k : Nat} {p : Pkt} (h : p ∈ pkSent ts k) : ∃ j : Nat, j < k ∧ p = ⟨(j : Int) + 1, j, 2 * (j : Int), tx ts j⟩ := by
  simp only [pkSent, List.mem_map, List.mem_range] at h
  obtain ⟨j, hj, rfl⟩ := h
  exact ⟨j, hj, rfl⟩
theorem pkSent_sorted (ts : List ByteArray) (k : Nat) : (pkSent ts k).Pairwise (fun p q => p.id < q.id) := by
  rw [List.pairwise_iff_getElem]
  intro i j hi hj hij
  rw [pkSent_get, pkSent_get]
  show (i : Int) + 1 < (j : Int) + 1
  omega

/-- What is left of the packets sent: each is one that was sent, each once. -/
def Left (ts : List ByteArray) (k : Nat) (l : List Pkt) : Prop := l.Pairwise (fun p q => p.id < q.id) ∧ (∀ p ∈ l, p ∈ pkSent ts k) ∧ l.length ≤ k
theorem Left.all (ts : List ByteArray) (k : Nat) : Left ts k (pkSent ts k) := ⟨pkSent_sorted ts k, fun _ h => h, by rw [pkSent_len]; exact Nat.le_refl _⟩
theorem Left.erase {ts : List ByteArray} {k : Nat} {l : List Pkt} (h : Left ts k l) (i : Nat) : Left ts k (l.eraseIdx i) :=
  ⟨h.1.sublist (List.eraseIdx_sublist _ _), fun p hp => h.2.1 p (List.mem_of_mem_eraseIdx hp), Nat.le_trans (List.length_eraseIdx_le _ _) h.2.2⟩
theorem posOf_at {l : List Pkt} {id : Int} {i : Nat} (h : l.findIdx? (fun p => p.id == id) = some i) (hi : i < l.length) : l[i].id = id := by
  have := (List.findIdx?_eq_some_iff_getElem.1 h).2.1
  simpa using this
/-- The packet that is found by a number is the one that was sent by that number. -/
theorem Left.found {ts : List ByteArray} {k : Nat} {l : List Pkt} (h : Left ts k l) {o i : Nat} (hi : i < l.length) (hid' : l[i].id = (o : Int) + 1) : l[i] = ⟨(o : Int) + 1, o, 2 * (o : Int), tx ts o⟩ := by
  obtain ⟨j, _, hj⟩ := pkSent_mem (h.2.1 l[i] (List.getElem_mem hi))
  rw [hj] at hid'
  have : j = o := by simp at hid'; omega
  rw [hj, this]
theorem Left.gone {ts : List ByteArray} {k : Nat} {l : List Pkt} (h : Left ts k l) {id : Int} {i : Nat} (hf : l.findIdx? (fun p => p.id == id) = some i) (hi : i < l.length) : posOf (l.eraseIdx i) id < 0 := by
  have hid' := posOf_at hf hi
  have : (l.eraseIdx i).findIdx? (fun p => p.id == id) = none := by
    rw [List.findIdx?_eq_none_iff]
    intro p hp
    obtain ⟨j, hj, hne⟩ := List.mem_eraseIdx_iff_getElem?.1 hp
    obtain ⟨hjl, rfl⟩ := List.getElem?_eq_some_iff.1 hne
    have hs := List.pairwise_iff_getElem.1 h.1
    simp only [beq_eq_false_iff_ne]
    rcases Nat.lt_or_gt_of_ne hj with hlt | hgt
    · have := hs j i hjl hi hlt; omega
    · have := hs i j hi hjl hgt; omega
  rw [posOf, this]
  decide
end Go.Proofs.Ytpbagbhoenmpcaa
