/- What the bag's functions do, said of cells: slices.Delete, Take. -/
import Derived.Test.YtpbagbhoenmpcaaBagB
namespace Go.Proofs.Ytpbagbhoenmpcaa
set_option linter.unusedVariables false
set_option linter.unusedSimpArgs false
open Go.RowKit

def zeroPkts (n : Nat) : List Value := (Builtin.zeroCells #[.int .i64 0, .int .i64 0, .int .i64 0, .string ⟨#[]⟩] n).toList
theorem zeroPkts_len (n : Nat) : (zeroPkts n).length = n * 4 := by simp [zeroPkts, Builtin.zeroCells]
theorem zeroPkts_one (n : Nat) : ∀ v ∈ zeroPkts n, v.oneCell' = true := by
  intro v hv
  simp [zeroPkts, Builtin.zeroCells] at hv
  obtain ⟨a, _, rfl⟩ := hv
  have : a % 4 = 0 ∨ a % 4 = 1 ∨ a % 4 = 2 ∨ a % 4 = 3 := by omega
  rcases this with h | h | h | h <;> simp [h, Value.oneCell']
theorem Try.zero32 (w : World) : (zeroValue 32).run Try.prog w = .ok (.agg #[.int .i64 0, .int .i64 0, .int .i64 0, .string ⟨#[]⟩]) w := by kernel_rfl

theorem rowOf_one_cells (l : List Pkt) : ∀ u ∈ rowOf l, u.oneCell' = true := by
  intro u hu
  simp only [rowOf, List.mem_flatMap] at hu
  obtain ⟨p, _, hp⟩ := hu
  simp [Pkt.cells] at hp
  rcases hp with rfl | rfl | rfl | rfl <;> rfl
theorem rowOf_take (l : List Pkt) (i : Nat) : rowOf (l.take i) = (rowOf l).take (i * 4) := by
  induction l generalizing i with
  | nil => simp [rowOf]
  | cons a l ih =>
    cases i with
    | zero => simp [rowOf]
    | succ i =>
      have e : rowOf (a :: l) = a.cells ++ rowOf l := by simp [rowOf]
      have e2 : rowOf (a :: l.take i) = a.cells ++ rowOf (l.take i) := by simp [rowOf]
      rw [List.take_succ_cons, e, e2, ih]
      simp [Pkt.cells, show (i + 1) * 4 = i * 4 + 1 + 1 + 1 + 1 by omega]
theorem rowOf_drop (l : List Pkt) (i : Nat) : rowOf (l.drop i) = (rowOf l).drop (i * 4) := by
  induction l generalizing i with
  | nil => simp [rowOf]
  | cons a l ih =>
    cases i with
    | zero => simp [rowOf]
    | succ i =>
      have e : rowOf (a :: l) = a.cells ++ rowOf l := by simp [rowOf]
      rw [List.drop_succ_cons, e, ih]
      simp [Pkt.cells, show (i + 1) * 4 = i * 4 + 1 + 1 + 1 + 1 by omega]

/-- The row behind a delete at i. -/
theorem del_row (cur : Array Value) (l : List Pkt) (cap i : Nat) (hi : i < l.length) (hl : l.length ≤ cap) (hs : cur.size = cap * 4) (ht : cur.toList.take (l.length * 4) = rowOf l) :
    (spliceA (spliceA cur (i * 4) ((rowOf l).drop ((i + 1) * 4))) ((l.length - 1) * 4) (zeroPkts 1)).toList.take ((l.length - 1) * 4) = rowOf (l.eraseIdx i) := by
  have hlen := rowOf_len l
  rw [List.eraseIdx_eq_take_drop_succ, rowOf_app, rowOf_take, rowOf_drop]
  apply List.ext_getElem?
  intro j
  rw [List.getElem?_take]
  split
  case isFalse h =>
    rw [List.getElem?_eq_none]
    simp only [List.length_append, List.length_take, List.length_drop]
    omega
  case isTrue h =>
    rw [Array.getElem?_toList, spliceA_out _ _ _ _ (.inl h)]
    have hcur : ∀ k, k < l.length * 4 → cur[k]? = (rowOf l)[k]? := fun k hk => by
      rw [← ht, List.getElem?_take, if_pos hk, Array.getElem?_toList]
    by_cases hj : j < i * 4
    · rw [spliceA_out _ _ _ _ (.inl hj), hcur j (by omega), List.getElem?_append_left (by simp; omega), List.getElem?_take, if_pos hj]
    · obtain ⟨k, rfl⟩ : ∃ k, j = i * 4 + k := ⟨j - i * 4, by omega⟩
      rw [spliceA_in _ _ _ _ (by simp; omega) (by simp; omega), List.getElem?_append_right (by simp; omega)]
      congr 1
      simp; omega

def DelOk (r n cap : Nat) (l : List Pkt) (i : Nat) (w : World) (e : Ending) (w' : World) : Prop :=
  e = .returned (.slice (some ⟨r, 0, none⟩) (n - 1) cap) ∧ (∀ B, B ≤ r → w'.ownsRow B 32 4 (.slice (some ⟨r, 0, none⟩) (n - 1) cap) (n - 1) (rowOf (l.eraseIdx i))) ∧ Keep (fun k => k = r) w w'

theorem del_end {w : World} {r cap : Nat} {cur : Array Value} {l : List Pkt} {i : Nat} (hb : w.heap[r]? = some (.cells cur 32 (0, 0))) (hi : i < l.length) (hl : l.length ≤ cap) (hm : cap ≤ maxLen) (hs : cur.size = cap * 4) (ht : cur.toList.take (l.length * 4) = rowOf l) :
    DelOk r l.length cap l i w (.returned (.slice (some ⟨r, 0, none⟩) (l.length - 1) cap)) ((w.drew.setCells r (i * 4) ((rowOf l).drop ((i + 1) * 4))).setCells r ((l.length - 1) * 4) (zeroPkts 1)) := by
  refine ⟨rfl, fun B hB => ⟨?_, .inr ⟨r, cap, _, rfl, hB, blk_setCells _ _ _ _ (blk_setCells _ _ _ _ (show w.drew.heap[r]? = _ from hb)), by omega, hm, by simp [spliceA_size, hs], del_row cur l cap i hi hl hs ht⟩⟩, ?_⟩
  · rw [rowOf_len]
    simp [List.length_eraseIdx, hi]
  · exact Keep.setCells (S := fun k => k = r) (fun _ => rfl) _ _ _ (Keep.setCells (S := fun k => k = r) (fun _ => rfl) _ _ _ (Keep.refl _ w).drew)

set_option maxHeartbeats 1600000 in
set_option maxRecDepth 1000000 in
theorem del_any (w : World) (r cap i : Nat) (cur : Array Value) (l : List Pkt) (hb : w.heap[r]? = some (.cells cur 32 (0, 0))) (hi : i < l.length) (hl : l.length ≤ cap) (hm : cap ≤ 9223372036854775807) (hs : cur.size = cap * 4) (ht : cur.toList.take (l.length * 4) = rowOf l) :
    Calls Try.prog 34 #[.slice (some ⟨r, 0, none⟩) l.length cap, .int .i64 i, .int .i64 ((i : Int) + 1)] w (DelOk r l.length cap l i w) := by
  obtain ⟨i0, hi0, hz0, hz1, hz2⟩ := info_parts Try.info32
  have hlen := rowOf_len l
  have hnl : ((rowOf l).drop ((i + 1) * 4)).length = (l.length - (i + 1)) * 4 := by simp [hlen]; omega
  have hcur : ∀ k, k < l.length * 4 → cur[k]? = (rowOf l)[k]? := fun k hk => by
    rw [← ht, List.getElem?_take, if_pos hk, Array.getElem?_toList]
  obtain ⟨A, hA, hnews⟩ : ∃ A : Addr, (if cap = i + 1 then some (⟨r, 0, none⟩ : Addr) else some ⟨r, (i + 1) * 4, none⟩) = some A ∧ Hid (∀ j u, ((rowOf l).drop ((i + 1) * 4))[j]? = some u → w.drew.cell? (A.add j) = some u) := by
    by_cases h : cap = i + 1
    · refine ⟨⟨r, 0, none⟩, by simp [h], fun j u hu => ?_⟩
      have e0 : (rowOf l).drop ((i + 1) * 4) = [] := List.length_eq_zero_iff.1 (by rw [hnl]; omega)
      rw [e0] at hu
      simp at hu
    · refine ⟨⟨r, (i + 1) * 4, none⟩, by simp [h], fun j u hu => ?_⟩
      have hj := (List.getElem?_eq_some_iff.1 hu).1
      rw [hnl] at hj
      rw [Addr.add_lit]
      refine blk_cell_some (w := w.drew) hb _ ?_
      rw [hcur _ (by omega), ← hu, List.getElem?_drop]
  have s1 := hid hnl
  have s2 : Hid (∀ u ∈ (rowOf l).drop ((i + 1) * 4), u.oneCell' = true) := fun u hu => rowOf_one_cells l u (List.mem_of_mem_drop hu)
  have s3 : Hid (∀ j, j < ((rowOf l).drop ((i + 1) * 4)).length → (w.drew.cell? ⟨r, 0 + i * 4 + j, none⟩).isSome = true ∧ w.drew.frozen? ⟨r, 0 + i * 4 + j, none⟩ = false) := by
    intro j hj
    rw [hnl] at hj
    refine ⟨?_, blk_frozen (w := w.drew) hb _⟩
    rw [blk_cell (w := w.drew) hb, Array.getElem?_eq_getElem (by omega)]
    rfl
  have hfin := hid (del_end hb hi hl hm hs ht)
  have hb2 : (w.drew.setCells r (i * 4) ((rowOf l).drop ((i + 1) * 4))).heap[r]? = some (.cells (spliceA cur (i * 4) ((rowOf l).drop ((i + 1) * 4))) 32 (0, 0)) := blk_setCells _ _ _ _ (show w.drew.heap[r]? = _ from hb)
  have hclr := run_clear_row (P := Try.prog) (n := 1) (w.drew.setCells r (i * 4) ((rowOf l).drop ((i + 1) * 4))) 24 32 0 _ Try.underlying24 Try.zero32 (zeroPkts_one 1) r ((l.length - 1) * 4) (cap - (l.length - 1)) (by decide)
    (fun j hj => by
      rw [blk_cell hb2, Array.getElem?_eq_getElem (by rw [spliceA_size]; have := zeroPkts_len 1; unfold zeroPkts at this; simp only [Value.cells] at hj; omega)]
      rfl) (fun j _ => blk_frozen hb2 _)
  have HC := hid (show (Builtin.clear_ #[24] 0 #[.slice (some ⟨r, (l.length - 1) * 4, none⟩) 1 (cap - (l.length - 1))]).run Try.prog (w.drew.setCells r (i * 4) ((rowOf l).drop ((i + 1) * 4))) = .ok (.tuple #[]) ((w.drew.setCells r (i * 4) ((rowOf l).drop ((i + 1) * 4))).setCells r ((l.length - 1) * 4) (zeroPkts 1)) from hclr)
  have hic : i ≤ cap := by omega
  have hwr : IntKind.i64.wrap ((i : Int) + 1) = (i : Int) + 1 := by rw [IntKind.wrap_i64]; omega
  have hp0 : (0 : Int) ≤ (i : Int) + 1 := by omega
  have hp1 : (i : Int) + 1 ≤ (l.length : Int) := by omega
  have hp2 : ((i : Int) + 1).toNat = i + 1 := by omega
  have hd : ((i : Int) == (i : Int) + 1) = false := by simp; omega
  clear hb ht hcur hclr hs hb2 hlen hnl
  go_enter Try.func34, Try.ntmps34
  go_wp2_with fail
  go_region_law (refine step_append_room rfl (.tmp 22) (.tmp 25) 24 rfl 32 i0 4 Try.underlying24 hi0 hz1 r 0 i cap (by simp [Act.eval, Act.put]) A (l.length - (i + 1)) (cap - (i + 1)) ((rowOf l).drop ((i + 1) * 4)) (by simp [Act.eval, Act.put]) s1.out hnews.out s2.out (by omega) s3.out ?_)
  rw [show i + (l.length - (i + 1)) = l.length - 1 by omega]
  have e1 : l.length - 1 ≤ l.length := by omega
  have e2 : l.length - 1 ≤ cap := by omega
  go_wp2_with fail
  rw [show l.length - (l.length - 1) = 1 by omega, HC.out]
  go_wp2
  go_ret
  exact hfin.out
end Go.Proofs.Ytpbagbhoenmpcaa
