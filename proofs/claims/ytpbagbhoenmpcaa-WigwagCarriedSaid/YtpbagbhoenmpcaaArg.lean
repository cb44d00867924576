/- Arguments that are slices, opened to cells: of texts, of numbers, of structs of three numbers and a text. -/
import Derived.Deep.Slices
import Derived.Deep.Fields
import Derived.ChangeSame
import Derived.SliceStrings
import Derived.ProofKit
import Derived.OpenShut
import Derived.ChangeOld
import Derived.SizedLaws
namespace Go.Proofs.Ytpbagbhoenmpcaa
set_option linter.unusedVariables false
set_option linter.unusedSimpArgs false
open Go.ChangeShapes Go.WideShapes Go.Deep Go.RowKit
section
variable {H : Type} {enc : TypeId × Value → H} {P : Program} {w : World} {base : Nat} {spare : Nat → Bool} {held : Bool}

/-- One cell an element, at whatever place of a block. -/
def CellsAt (w : World) (A : Option Addr) (n : Nat) (f : Nat → Value) : Prop := ∀ k, k < n → ∃ r o, A = some ⟨r, o, none⟩ ∧ r < w.heap.size ∧ w.cell? ⟨r, o + k, none⟩ = some (f k)

theorem spot_of_cell {w : World} {a : Addr} {n : Nat} {v : Value} (h : w.cell? (a.add n) = some v) (hn : n = 0) : a = ⟨a.block, a.off, none⟩ := by
  subst hn
  obtain ⟨b, o, s⟩ := a
  cases s with
  | none => rfl
  | some s =>
    simp only [Addr.add, if_true, World.cell?] at h
    split at h <;> simp at h

theorem cells_at {w : World} {a : Addr} {n : Nat} {f : Nat → Value} (h : ∀ k, k < n → w.cell? (a.add k) = some (f k)) : CellsAt w (some a) n f := by
  intro k hk
  have h0 := h 0 (by omega)
  have e := spot_of_cell h0 rfl
  have hk' := h k hk
  rw [e] at hk'
  rw [Addr.add_lit] at hk'
  exact ⟨a.block, a.off, by rw [← e], by have := World.block_lt_of_cell? w _ hk'; simpa using this, hk'⟩

theorem open_texts {r : Reach} {b0 t e : TypeId} {v : Value} {d : DataW H} {p : List MemPlace} (ht : P.underlying t = some (.slice e)) (he : P.underlying e = some .string) (hc : P.cellsOf e = 1) (hv : Value.okWide P w r b0 t v) (h : DataW.Trod enc P w base spare held t v d p) :
    ∃ (A : Option Addr) (l : List ByteArray) (cap : Nat), v = .slice A l.length cap ∧ CellsAt w A l.length (fun k => .string (l.getD k ByteArray.empty)) ∧ ∀ s ∈ l, s.size ≤ maxLen := by
  obtain ⟨a, len, cap, rfl⟩ := okWide_slice ht hv
  obtain ⟨fuel, hf⟩ := h
  rcases open_strings ht he hc hf with ⟨hcs, _⟩ | ⟨x, l, c, ss, hcs, _, hl, hm, hz, _, hcell, hw⟩
  · simp [Value.cells] at hcs
    obtain ⟨rfl, rfl, rfl⟩ := hcs
    exact ⟨none, [], 0, rfl, fun k hk => absurd hk (Nat.not_lt_zero _), fun s hs => by cases hs⟩
  · simp [Value.cells] at hcs
    obtain ⟨rfl, rfl, rfl⟩ := hcs
    have hle : len ≤ ss.length := by rw [hz]; split <;> omega
    refine ⟨some x, ss.take len, cap, by simp [Nat.min_eq_left hle], cells_at fun k hk => ?_, fun s hs => hw s (List.mem_of_mem_take hs)⟩
    have hk2 : k < len := by simp at hk; omega
    rw [hcell k (by omega)]
    simp [List.getD_eq_getElem?_getD, List.getElem?_take, hk2]

theorem open_nums {r : Reach} {b0 t e : TypeId} {kd : IntKind} {v : Value} {d : DataW H} {p : List MemPlace} (ht : P.underlying t = some (.slice e)) (he : P.underlying e = some (.int kd)) (hc : P.cellsOf e = 1) (hv : Value.okWide P w r b0 t v) (h : DataW.Trod enc P w base spare held t v d p) :
    ∃ (A : Option Addr) (l : List Int) (cap : Nat), v = .slice A l.length cap ∧ CellsAt w A l.length (fun k => .int kd (l.getD k 0)) ∧ (∀ n ∈ l, (Lit.int kd n).wf = true) ∧ l.length ≤ maxLen := by
  obtain ⟨a, len, cap, rfl⟩ := okWide_slice ht hv
  obtain ⟨fuel, hf⟩ := h
  rcases open_ints ht he hc hf with ⟨hcs, _⟩ | ⟨x, l, c, ss, hcs, _, hl, hm, hz, _, hcell, hw⟩
  · simp [Value.cells] at hcs
    obtain ⟨rfl, rfl, rfl⟩ := hcs
    exact ⟨none, [], 0, rfl, fun k hk => absurd hk (Nat.not_lt_zero _), fun s hs => (by cases hs), Nat.zero_le _⟩
  · simp [Value.cells] at hcs
    obtain ⟨rfl, rfl, rfl⟩ := hcs
    have hle : len ≤ ss.length := by rw [hz]; split <;> omega
    refine ⟨some x, ss.take len, cap, by simp [Nat.min_eq_left hle], cells_at fun k hk => ?_, fun s hs => hw s (List.mem_of_mem_take hs), by simp; omega⟩
    have hk2 : k < len := by simp at hk; omega
    rw [hcell k (by omega)]
    simp [List.getD_eq_getElem?_getD, List.getElem?_take, hk2]

structure Quad where
  a : Int
  b : Int
  c : Int
  s : ByteArray
/-- Four cells an element: three numbers and a text. -/
def QuadsAt (w : World) (A : Option Addr) (l : List Quad) : Prop := ∀ (k : Nat) (h : k < l.length), ∃ r o, A = some ⟨r, o, none⟩ ∧ r < w.heap.size ∧ w.cell? ⟨r, o + k * 4, none⟩ = some (.int .i64 (l[k]).a) ∧ w.cell? ⟨r, o + k * 4 + 1, none⟩ = some (.int .i64 (l[k]).b) ∧ w.cell? ⟨r, o + k * 4 + 2, none⟩ = some (.int .i64 (l[k]).c) ∧ w.cell? ⟨r, o + k * 4 + 3, none⟩ = some (.string (l[k]).s)

theorem choose_list {α : Type} [Inhabited α] {n : Nat} {p : Nat → α → Prop} (h : ∀ k, k < n → ∃ x, p k x) : ∃ l : List α, l.length = n ∧ ∀ k (hk : k < l.length), p k l[k] := by
  induction n with
  | zero => exact ⟨[], rfl, fun k hk => absurd hk (Nat.not_lt_zero _)⟩
  | succ n ih =>
    obtain ⟨l, hl, hp⟩ := ih fun k hk => h k (by omega)
    obtain ⟨x, hx⟩ := h n (by omega)
    refine ⟨l ++ [x], by simp [hl], fun k hk => ?_⟩
    by_cases e : k < l.length
    · rw [List.getElem_append_left e]; exact hp k e
    · have : k = l.length := by simp at hk; omega
      subst this
      simp
      rw [hl]; exact hx

theorem open_quads {r : Reach} {b0 t e : TypeId} {f0 f1 f2 f3 : Field} {v : Value} {d : DataW H} {p : List MemPlace} (ht : P.underlying t = some (.slice e)) (he : P.underlying e = some (.struct #[f0, f1, f2, f3]))
    (hone : oneCellFields P #[f0, f1, f2, f3] = true) (hC : P.cellsOf e = 4) (h0 : P.underlying f0.type = some (.int .i64)) (h1 : P.underlying f1.type = some (.int .i64)) (h2 : P.underlying f2.type = some (.int .i64)) (h3 : P.underlying f3.type = some .string)
    (hv : Value.okWide P w r b0 t v) (h : DataW.Trod enc P w base spare held t v d p) :
    ∃ (A : Option Addr) (l : List Quad) (cap : Nat), v = .slice A l.length cap ∧ QuadsAt w A l ∧ (∀ q ∈ l, q.s.size ≤ maxLen) ∧ l.length ≤ maxLen := by
  obtain ⟨a, len, cap, rfl⟩ := okWide_slice ht hv
  obtain ⟨fuel, hf⟩ := h
  rcases open_slice ht hf with ⟨hcs, _⟩ | ⟨x, len', cap', m, n, D, Pl, hcs, hb, hl, hm, hmm, hx, hi⟩
  · simp [Value.cells] at hcs
    obtain ⟨rfl, rfl, rfl⟩ := hcs
    exact ⟨none, [], 0, rfl, fun k hk => absurd hk (Nat.not_lt_zero _), fun q hq => (by cases hq), Nat.zero_le _⟩
  · simp [Value.cells] at hcs
    obtain ⟨rfl, rfl, rfl⟩ := hcs
    have hlm : len ≤ m := by rw [hmm]; split <;> omega
    have key : ∀ k, k < len → ∃ q : Quad, (w.cell? (x.add (k * 4)) = some (.int .i64 q.a) ∧ w.cell? (x.add (k * 4 + 1)) = some (.int .i64 q.b) ∧ w.cell? (x.add (k * 4 + 2)) = some (.int .i64 q.c) ∧ w.cell? (x.add (k * 4 + 3)) = some (.string q.s)) ∧ q.s.size ≤ maxLen := by
      intro k hk
      obtain ⟨cs', hc, ht'⟩ := hi k (by omega)
      rw [hC] at hc
      obtain ⟨_, hcl, hat⟩ := World.cells?_some hc
      obtain ⟨ys, n', _, _, _, hyl, hfld⟩ := DataW.trod_struct he ht'
      match cs', hcl with
      | [c0, c1, c2, c3], _ =>
        have g0 := hfld 0 f0 rfl
        have g1 := hfld 1 f1 rfl
        have g2 := hfld 2 f2 rfl
        have g3 := hfld 3 f3 rfl
        obtain ⟨o0, k0⟩ := hone_of hone 0 f0 rfl
        obtain ⟨o1, k1⟩ := hone_of hone 1 f1 rfl
        obtain ⟨o2, k2⟩ := hone_of hone 2 f2 rfl
        obtain ⟨o3, k3⟩ := hone_of hone 3 f3 rfl
        have hy : ∀ j, j < 4 → ∃ y, ys[j]? = some y := fun j hj => ⟨ys[j]'(by rw [hyl]; exact hj), List.getElem?_eq_getElem _⟩
        obtain ⟨y0, e0⟩ := hy 0 (by omega)
        obtain ⟨y1, e1⟩ := hy 1 (by omega)
        obtain ⟨y2, e2⟩ := hy 2 (by omega)
        obtain ⟨y3, e3⟩ := hy 3 (by omega)
        rw [o0, k0, e0] at g0
        rw [o1, k1, e1] at g1
        rw [o2, k2, e2] at g2
        rw [o3, k3, e3] at g3
        obtain ⟨a0, q0, _⟩ := DataW.trod_int h0 g0
        obtain ⟨a1, q1, _⟩ := DataW.trod_int h1 g1
        obtain ⟨a2, q2, _⟩ := DataW.trod_int h2 g2
        obtain ⟨a3, q3, _, hsz⟩ := DataW.trod_string h3 g3
        simp at q0 q1 q2 q3
        subst q0 q1 q2 q3
        have c0 := hat 0 (by omega)
        have c1 := hat 1 (by omega)
        have c2 := hat 2 (by omega)
        have c3 := hat 3 (by omega)
        rw [Go.Deep.add_add] at c0 c1 c2 c3
        exact ⟨⟨a0, a1, a2, a3⟩, ⟨c0, c1, c2, c3⟩, hsz⟩
    obtain ⟨l, hll, hp⟩ := @choose_list Quad ⟨⟨0, 0, 0, ByteArray.empty⟩⟩ _ _ key
    refine ⟨some x, l, cap, by rw [hll], fun k hk => ?_, fun q hq => ?_, by rw [hll]; omega⟩
    · have h00 := (hp 0 (by omega)).1.1
      have ex := spot_of_cell (n := 0 * 4) h00 rfl
      obtain ⟨⟨c0, c1, c2, c3⟩, _⟩ := hp k hk
      rw [ex, Addr.add_lit] at c0 c1 c2 c3
      exact ⟨x.block, x.off, by rw [← ex], by have := World.block_lt_of_cell? w _ c0; simpa using this, c0, by rw [← c1]; rfl, by rw [← c2]; rfl, by rw [← c3]; rfl⟩
    · obtain ⟨k, hk, rfl⟩ := List.getElem_of_mem hq
      exact (hp k hk).2
end
end Go.Proofs.Ytpbagbhoenmpcaa
