/- What the bag's functions do, said of cells: slices.Clone, All. -/
import Derived.Test.YtpbagbhoenmpcaaBagF
import Derived.Lib.SliceRun
namespace Go.Proofs.Ytpbagbhoenmpcaa
set_option linter.unusedVariables false
set_option linter.unusedSimpArgs false
open Go.RowKit
theorem ownsRow_none {w : World} {base : Nat} {e : TypeId} {size n cap : Nat} {xs : List Value} (h : w.ownsRow base e size (.slice none n cap) n xs) : n = 0 := by
  rcases h.2 with h | ⟨g, c, cur, hv, _⟩
  · exact h.2
  · injection hv with h1
    cases h1
theorem ownsRow_cells {w : World} {base : Nat} {e : TypeId} {size n cap : Nat} {ad : Addr} {xs : List Value} (h : w.ownsRow base e size (.slice (some ad) n cap) n xs) : ad.block < w.heap.size ∧ ∀ j u, xs[j]? = some u → w.cell? (ad.add j) = some u := by
  obtain ⟨h1, h2⟩ := h.lt ad.block rfl
  refine ⟨h2, fun j u hu => ?_⟩
  have := h.cells (g := ad.block) rfl j u hu
  rcases h.2 with ⟨hv, _⟩ | ⟨g, c, cur, hv, _⟩
  · injection hv with h1; cases h1
  · injection hv with h1
    injection h1 with h1
    subst h1
    exact this
theorem alloc_cell {w : World} {a : Addr} {u : Value} (o : Obj) (h : w.cell? a = some u) : (w.alloc o).cell? a = some u :=
  (World.cell?_of_block (Below.heap_alloc w o a.block (World.block_lt_of_cell? w a h))).trans h
/-- A slice of packets in a row that is new. -/
def Fresh (l : List Pkt) (w : World) (e : Ending) (w' : World) : Prop := ∃ v, e = .returned v ∧ w'.ownsRow w.heap.size 32 4 v l.length (rowOf l) ∧ Below w.heap.size w w'
set_option maxHeartbeats 800000 in
theorem clone_any (w : World) (B : Nat) (A : Option Addr) (cap : Nat) (l : List Pkt) (hown : w.ownsRow B 32 4 (.slice A l.length cap) l.length (rowOf l)) (hl : l.length ≤ 10000) :
    Calls Try.prog 38 #[.slice A l.length cap] w (Fresh l w) := by
  obtain ⟨i0, hi, hz0, hz1, hz2⟩ := info_parts Try.info32
  cases A with
  | none =>
    have e0 : l = [] := List.eq_nil_of_length_eq_zero (ownsRow_none hown)
    subst e0
    have he := Lib.run_eql_slice_nil (P := Try.prog) w 24 32 none 0 cap 0 0 Try.underlying24
    have hz : ([] : List Pkt).length = 0 := rfl
    go_enter Try.func38, Try.ntmps38
    go_wp2
    go_ret
    exact ⟨_, rfl, World.ownsRow_nil _ _ _ _, Below.refl _ _⟩
  | some ad =>
    have he := Lib.run_eql_slice_nil (P := Try.prog) w 24 32 (some ad) l.length cap 0 0 Try.underlying24
    have hN : ∀ j u, (rowOf l)[j]? = some u → (w.alloc (.cells #[] 32)).cell? (ad.add j) = some u := fun j u hu => alloc_cell _ ((ownsRow_cells hown).2 j u hu)
    have HN := hid hN
    have HO := hid (show (w.alloc (.cells #[] 32)).ownsRow w.heap.size 32 4 (.slice (some ⟨w.heap.size, 0, none⟩) 0 0) 0 [] from World.ownsRow_made w #[] 0 (Nat.le_refl _) (by decide) rfl)
    have HL := hid (rowOf_len l)
    clear hN hown
    go_enter Try.func38, Try.ntmps38
    go_wp2_with (at_builtin; refine wpList_append_own _ rfl _ _ 24 rfl w.heap.size 32 i0 _ 4 40 Try.underlying24 hi hz0 hz1 hz2 rfl (by decide) _ 0 [] rfl HO.out ad l.length cap _ rfl HL.out HN.out (rowOf_one_cells l) (by unfold maxLen; omega) (by omega) (by simp) ?_; intro v1 w1 h1 h2 h3)
    go_ret
    refine ⟨_, rfl, by simpa using h1, ((Below.refl _ w).alloc (Nat.le_refl _) _).grown h2 (by simp) fun k hk => ?_⟩
    simp [Act.eval, Value.ownBlock] at hk
    omega
theorem all_any (w : World) (B g : Nat) (v : Value) (n : Int) (l : List Pkt) (hb : BagAt w B g v n l) (hl : l.length ≤ 10000) :
    Calls Try.prog 17 #[.pointer (some ⟨g, 0, none⟩)] w (Fresh l w) := by
  obtain ⟨A, cap, rfl, c0, c1, f0, f1, _, hg, _, _, hown⟩ := hb.opened
  have HO := hid hown
  clear hb hown
  go_enter Try.func17, Try.ntmps17
  go_wp2_with (go_at_call 38; refine (clone_any _ B A cap l HO.out hl).mono ?_; rintro e w1 ⟨v1, rfl, h1, h2⟩)
  go_ret
  exact ⟨_, rfl, h1, h2⟩
end Go.Proofs.Ytpbagbhoenmpcaa
