/- More words about memory: several cells of a block written at once; clear. -/
import Derived.Test.YtpbagbhoenmpcaaMem
namespace Go.Proofs.Ytpbagbhoenmpcaa
set_option linter.unusedVariables false
set_option linter.unusedSimpArgs false
open Go.RowKit

def spliceA (cur : Array Value) (o : Nat) : List Value → Array Value
  | [] => cur
  | v :: r => spliceA (cur.setIfInBounds o v) (o + 1) r
theorem spliceA_size : ∀ (vs : List Value) (cur : Array Value) (o : Nat), (spliceA cur o vs).size = cur.size
  | [], _, _ => rfl
  | v :: r, cur, o => by simp [spliceA, spliceA_size r]
theorem spliceA_out : ∀ (vs : List Value) (cur : Array Value) (o j : Nat), (j < o ∨ o + vs.length ≤ j) → (spliceA cur o vs)[j]? = cur[j]?
  | [], _, _, _, _ => rfl
  | v :: r, cur, o, j, h => by
    simp only [List.length_cons] at h
    rw [spliceA, spliceA_out r _ _ _ (by omega), Array.getElem?_setIfInBounds, if_neg (by omega)]
theorem spliceA_in : ∀ (vs : List Value) (cur : Array Value) (o j : Nat), o + vs.length ≤ cur.size → j < vs.length → (spliceA cur o vs)[o + j]? = vs[j]?
  | [], _, _, _, _, h => by simp at h
  | v :: r, cur, o, 0, hs, _ => by
    simp only [List.length_cons] at hs
    rw [spliceA, spliceA_out r _ _ _ (by omega)]
    simp [Array.getElem?_setIfInBounds]
    omega
  | v :: r, cur, o, j + 1, hs, h => by
    simp only [List.length_cons] at hs h
    rw [spliceA, show o + (j + 1) = (o + 1) + j by omega, spliceA_in r _ _ _ (by simp; omega) (by omega)]
    simp
theorem blk_setCells {g : Nat} {t : TypeId} {fr : Nat × Nat} : ∀ (vs : List Value) (o : Nat) (w : World) (cur : Array Value), w.heap[g]? = some (.cells cur t fr) → (w.setCells g o vs).heap[g]? = some (.cells (spliceA cur o vs) t fr)
  | [], _, _, _, h => h
  | v :: r, o, w, cur, h => blk_setCells r (o + 1) _ _ (blk_set h o v)
theorem Keep.setCells {S : Nat → Prop} {g : Nat} {a : World} (hp : g < a.heap.size → S g) : ∀ (vs : List Value) (o : Nat) (w : World), Keep S a w → Keep S a (w.setCells g o vs)
  | [], _, _, h => h
  | v :: r, o, _, h => Keep.setCells hp r (o + 1) _ (h.setCell (p := ⟨g, o, none⟩) hp v)
theorem size_setCells (g : Nat) : ∀ (vs : List Value) (o : Nat) (w : World), (w.setCells g o vs).heap.size = w.heap.size
  | [], _, _ => rfl
  | v :: r, o, w => by rw [World.setCells, size_setCells g r, size_set]

/-- 'clear(s)', s a slice of n > 0 elements of whatever type. -/
theorem run_clear_row {P : Program} {n : Nat} (w : World) (t e ty : TypeId) (z : Value) (ht : P.underlying t = some (.slice e)) (hv : ∀ w, (zeroValue e).run P w = .ok z w) (h1 : ∀ v ∈ (Builtin.zeroCells z.cells n).toList, v.oneCell' = true) (b o c : Nat) (hn : 0 < n)
    (hc : ∀ j, j < (Builtin.zeroCells z.cells n).toList.length → (w.cell? ⟨b, o + j, none⟩).isSome = true) (hf : ∀ j, j < (Builtin.zeroCells z.cells n).toList.length → w.frozen? ⟨b, o + j, none⟩ = false) :
    (Builtin.clear_ #[t] ty #[.slice (some ⟨b, o, none⟩) n c]).run P w = .ok (.tuple #[]) (w.setCells b o (Builtin.zeroCells z.cells n).toList) := by
  have hst := run_storeCells_cells (P := P) b o (Builtin.zeroCells z.cells n).toList 0 w (by simpa using hc) (by simpa using hf) h1
  simp only [Nat.add_zero] at hst
  obtain ⟨m, rfl⟩ : ∃ m, n = m + 1 := ⟨n - 1, by omega⟩
  simp [Builtin.clear_, run_underlying ht, hv, hst]
end Go.Proofs.Ytpbagbhoenmpcaa
