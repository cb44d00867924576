/- WigwagCarried: for all arguments the law returns true and leaves them as they were. No condition. -/
import Derived.Test.YtpbagbhoenmpcaaRows
import Derived.Test.YtpbagbhoenmpcaaCarW
import Derived.Test.YtpbagbhoenmpcaaArg
namespace Go.Proofs.Ytpbagbhoenmpcaa
set_option linter.unusedVariables false
set_option linter.unusedSimpArgs false
open Go.ChangeShapes Go.WideShapes Go.ChangeAt Go.RowKit
section
open Go.Deep
variable {H : Type} {enc : TypeId × Value → H} {P : Program} {w : World} {base : Nat} {spare : Nat → Bool} {held : Bool}
theorem open_trips {r : Reach} {b0 t e : TypeId} {f0 f1 f2 : Field} {v : Value} {d : DataW H} {p : List MemPlace} (ht : P.underlying t = some (.slice e)) (he : P.underlying e = some (.struct #[f0, f1, f2]))
    (hone : oneCellFields P #[f0, f1, f2] = true) (hC : P.cellsOf e = 3) (h0 : P.underlying f0.type = some (.int .i64)) (h1 : P.underlying f1.type = some (.int .i64)) (h2 : P.underlying f2.type = some .string)
    (hv : Value.okWide P w r b0 t v) (h : DataW.Trod enc P w base spare held t v d p) :
    ∃ (A : Option Addr) (l : List Trip) (cap : Nat), v = .slice A l.length cap ∧ TripsAt w A l ∧ (∀ q ∈ l, q.s.size ≤ maxLen) ∧ l.length ≤ maxLen := by
  obtain ⟨a, len, cap, rfl⟩ := okWide_slice ht hv
  obtain ⟨fuel, hf⟩ := h
  rcases open_slice ht hf with ⟨hcs, _⟩ | ⟨x, len', cap', m, n, D, Pl, hcs, hb, hl, hm, hmm, hx, hi⟩
  · simp [Value.cells] at hcs
    obtain ⟨rfl, rfl, rfl⟩ := hcs
    exact ⟨none, [], 0, rfl, fun k hk => absurd hk (Nat.not_lt_zero _), fun q hq => (by cases hq), Nat.zero_le _⟩
  · simp [Value.cells] at hcs
    obtain ⟨rfl, rfl, rfl⟩ := hcs
    have hlm : len ≤ m := by rw [hmm]; split <;> omega
    have key : ∀ k, k < len → ∃ q : Trip, (w.cell? (x.add (k * 3)) = some (.int .i64 q.kd) ∧ w.cell? (x.add (k * 3 + 1)) = some (.int .i64 q.nn) ∧ w.cell? (x.add (k * 3 + 2)) = some (.string q.s)) ∧ q.s.size ≤ maxLen := by
      intro k hk
      obtain ⟨cs', hc, ht'⟩ := hi k (by omega)
      rw [hC] at hc
      obtain ⟨_, hcl, hat⟩ := World.cells?_some hc
      obtain ⟨ys, n', _, _, _, hyl, hfld⟩ := DataW.trod_struct he ht'
      match cs', hcl with
      | [c0, c1, c2], _ =>
        have g0 := hfld 0 f0 rfl
        have g1 := hfld 1 f1 rfl
        have g2 := hfld 2 f2 rfl
        obtain ⟨o0, k0⟩ := hone_of hone 0 f0 rfl
        obtain ⟨o1, k1⟩ := hone_of hone 1 f1 rfl
        obtain ⟨o2, k2⟩ := hone_of hone 2 f2 rfl
        have hy : ∀ j, j < 3 → ∃ y, ys[j]? = some y := fun j hj => ⟨ys[j]'(by rw [hyl]; exact hj), List.getElem?_eq_getElem _⟩
        obtain ⟨y0, e0⟩ := hy 0 (by omega)
        obtain ⟨y1, e1⟩ := hy 1 (by omega)
        obtain ⟨y2, e2⟩ := hy 2 (by omega)
        rw [o0, k0, e0] at g0
        rw [o1, k1, e1] at g1
        rw [o2, k2, e2] at g2
        obtain ⟨a0, q0, _⟩ := DataW.trod_int h0 g0
        obtain ⟨a1, q1, _⟩ := DataW.trod_int h1 g1
        obtain ⟨a2, q2, _, hsz⟩ := DataW.trod_string h2 g2
        simp at q0 q1 q2
        subst q0 q1 q2
        have c0 := hat 0 (by omega)
        have c1 := hat 1 (by omega)
        have c2 := hat 2 (by omega)
        rw [Go.Deep.add_add] at c0 c1 c2
        exact ⟨⟨a0, a1, a2⟩, ⟨c0, c1, c2⟩, hsz⟩
    obtain ⟨l, hll, hp⟩ := @choose_list Trip ⟨⟨0, 0, ByteArray.empty⟩⟩ _ _ key
    refine ⟨some x, l, cap, by rw [hll], fun k hk => ?_, fun q hq => ?_, by rw [hll]; omega⟩
    · have h00 := (hp 0 (by omega)).1.1
      have ex := spot_of_cell (n := 0 * 3) h00 rfl
      obtain ⟨⟨c0, c1, c2⟩, _⟩ := hp k hk
      rw [ex, Addr.add_lit] at c0 c1 c2
      exact ⟨x.block, x.off, by rw [← ex], by have := World.block_lt_of_cell? w _ c0; simpa using this, c0, by rw [← c1]; rfl, by rw [← c2]; rfl⟩
    · obtain ⟨k, hk, rfl⟩ := List.getElem_of_mem hq
      exact (hp k hk).2
end
open Go.ChangeMaps (open_string shut_string)
theorem wigwagCarriedOwn : ownKnob Try.prog.godebug = none := by kernel_rfl
theorem wigwagCarriedLaid : laidOutB Try.prog = true := by kernel_rfl
set_option maxRecDepth 100000 in
theorem wigwagCarried_lifted (os : Os) (started : os.Started) (H : Type) (enc : TypeId × Value → H) :
    ReturnsInHanded {} Try.checked os 4 .any (Rows.wigwagCarriedSpec.pre6 enc Try.prog Try.f4 Rows.wigwagCarriedRow.domain false) (Rows.wigwagCarriedSpec.post enc Try.prog Try.f4 false true false false) := by
  refine returnsInHanded_of_change_sized (C := Try.checked) wigwagCarriedOwn started (by kernel_rfl) Try.func4
    (ChangeSpec.witness6 (enc := enc) (C := Try.checked) false ⟨#[], #[.slice none 0 0], []⟩ 8 (by kernel_rfl) (by kernel_rfl) (by kernel_rfl) (by kernel_rfl)) ?_
  intro W base args ds gs before hval0 hW hcnd hsz0 _
  have hsz : (DataW.weightsEach Try.prog (Try.f4.params.toList ++ Rows.wigwagCarriedSpec.plain.varTypes Try.prog) (ds ++ gs)).all (· ≤ reachBytes) = true := hsz0
  have hval : ∀ (j : Nat) t v, Try.f4.params[j]? = some t → args[j]? = some v → Value.okWide Try.prog W .any base t v := hval0
  have hW' := hW
  obtain ⟨p, q, hA0, hV, rfl, hfz, hnd⟩ := hW
  have hA : DataW.TrodAll enc Try.prog W 0 (fun _ => true) true Try.f4.params.toList args.toList ds p := hA0
  rw [Try.params4] at hA hval hsz
  obtain ⟨v0, vs0, d0, ds0, p0, q0, hargs, rfl, rfl, h0, r0⟩ := trodAll_cons hA
  obtain ⟨rfl, rfl, rfl⟩ := trodAll_nil r0
  obtain rfl : args = #[v0] := by cases args; simp_all
  obtain ⟨rfl, rfl⟩ := trodVars_none hV
  have lt0 : ∀ x ∈ p0, x.block < W.heap.size := by obtain ⟨m, hm⟩ := h0; exact DataW.trod_lt m _ _ _ hm
  obtain ⟨A0, l0, cap0, e0, c0, s0, m0⟩ := open_trips Try.underlying39 Try.underlying46 (by kernel_rfl) (by kernel_rfl) Try.underlying3 Try.underlying3 Try.underlying9 (hval 0 39 v0 rfl rfl) h0
  subst e0
  clear hA0 hval0 hsz0 hsz
  refine (carried_walk A0 l0 cap0 W c0 m0 s0).mono fun e W' ⟨he, bel⟩ => ?_
  subst he
  exact ⟨_, rfl, _, _, _, [], _, [], hW', trodAll_mk1 (shut_bool Try.underlying4 _), (trodAll_cons_mk (Below.trod wigwagCarriedLaid (by kernel_rfl) (of_decide_eq_true (by kernel_rfl)) h0 bel lt0) trodAll_mk0), rfl, bel.frame _, fun h => by cases h⟩
/-- The row. -/
theorem wigwagCarried_holds : Rows.WigwagCarriedSaid :=
  OpenClaim.holds_of_wide 4 Try.f4 rfl rfl rfl rfl rfl rfl rfl ⟨rfl, rfl, rfl, rfl, rfl⟩ rfl rfl rfl rfl rfl (by kernel_rfl) Try.func4 (by kernel_rfl)
    (of_decide_eq_true (by kernel_rfl)) (by unfold Func.isWrapper; first | (rw [if_pos (by decide +kernel)]; kernel_rfl) | (rw [if_neg (by decide +kernel)]; exact ⟨rfl, rfl⟩))
    (fun os started H enc _ => wigwagCarried_lifted os started H enc)
#print axioms wigwagCarried_holds
end Go.Proofs.Ytpbagbhoenmpcaa
