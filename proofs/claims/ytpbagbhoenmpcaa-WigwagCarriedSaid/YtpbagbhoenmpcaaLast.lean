/- A region whose order is open and whose last operation waits for all the others: what reads may be taken first, under a condition on the world that the last operation may break. -/
import Derived.Test.YtpbagbhoenmpcaaReg
import Derived.Deep.RegionHeld3
namespace Go.Proofs.Ytpbagbhoenmpcaa
set_option linter.unusedVariables false
set_option linter.unusedSimpArgs false
section
variable {P : Program} {ops : Array Oper} {Q : Exit → Act → World → Prop} {S : World → Prop} {n : Nat}

/-- Whatever order is picked, and S holds behind each operation but number n. -/
def wpAnyL (P : Program) (ops : Array Oper) (Q : Exit → Act → World → Prop) (S : World → Prop) (n : Nat) : Nat → Array Bool → Act → World → Prop
  | 0, listed, a, w => Region.ready .any ops listed = [] ∧ Q .normal a w
  | f + 1, listed, a, w => (Region.ready .any ops listed = [] → Q .normal a w) ∧
    ∀ i ∈ Region.ready .any ops listed, wpOp P ops Q i (fun a' w' => (i ≠ n → S w') ∧ wpAnyL P ops Q S n f (listed.setIfInBounds i true) a' w') a w

theorem wpAny_of_L : ∀ (f : Nat) (listed : Array Bool) (a : Act) (w : World), wpAnyL P ops Q S n f listed a w → wpAny P .any ops Q f listed a w
  | 0, _, _, _, h => h
  | f + 1, _, _, _, h => ⟨h.1, fun i hi => wpOp_mono (fun a' w' h' => wpAny_of_L f _ a' w' h'.2) (h.2 i hi)⟩

theorem wpAnyL_first {i : Nat} {oi : Oper} {v : Value} (hs : sinkC ops n = true) (hn : ops.size = n + 1) (hi : ops[i]? = some oi) (hin : i < n) (hsel : ∀ (j : Nat) (o : Oper) cs b, ops[j]? = some o → o.op ≠ .select cs b)
    (hQ : ∀ c a w, Q (.panic c) (a.put oi.dst v) w → Q (.panic c) a w) :
    ∀ (f : Nat) (listed : Array Bool) (a : Act) (w : World), Inv ops n listed →
      (∀ j oj, ops[j]? = some oj → j ≠ i → listed.getD j true = false → (∀ e ∈ oj.after, Region.binds .any e = true → e.on ≠ i) → oi.apart ops oj = true) →
      i ∈ Region.ready .any ops listed → YieldsIf P ops S oi v a → S w →
      wpAnyL P ops Q S n f (listed.setIfInBounds i true) (a.put oi.dst v) w → wpAnyL P ops Q S n (f + 1) listed a w := by
  intro f
  induction f with
  | zero =>
    intro listed a w _ _ hr hy hS H
    refine ⟨fun h => (by rw [h] at hr; cases hr), fun j hj => ?_⟩
    by_cases hji : j = i
    · subst hji; exact hy.wpOp hi hS ⟨fun _ => hS, H⟩
    · have := ready_mono hj hji
      rw [H.1] at this
      cases this
  | succ f ih =>
    intro listed a w inv hfree hr hy hS H
    refine ⟨fun h => (by rw [h] at hr; cases hr), fun j hj => ?_⟩
    by_cases hji : j = i
    · subst hji; exact hy.wpOp hi hS ⟨fun _ => hS, H⟩
    · have h1 := H.2 j (ready_mono hj hji)
      obtain ⟨hjun, oj, hoj, hall⟩ := mem_ready.1 hj
      have h0 := (mem_ready.1 hr).1
      have hjn : j ≠ n := fun e => by
        have := all_done hs inv (by rw [e]; exact Nat.le_refl n) hj i hin
        rw [getD_both h0] at this
        cases this
      have hjl : j < n := by have := (Array.getElem?_eq_some_iff.1 hoj).1; omega
      have hnot : ∀ e ∈ oj.after, Region.binds .any e = true → e.on ≠ i := fun e he hb heq => by
        have h1 := hall e he hb
        rw [heq, getD_both h0] at h1
        cases h1
      have h2 := wpOp_putIf hoj (hfree j oj hoj hji hjun hnot) (fun cs b => hsel i oi cs b hi) (fun cs b => hsel j oj cs b hoj) hQ hy h1
      have hfree' : ∀ k ok, ops[k]? = some ok → k ≠ i → (listed.setIfInBounds j true).getD k true = false →
          (∀ e ∈ ok.after, Region.binds .any e = true → e.on ≠ i) → oi.apart ops ok = true := fun k ok hk hki hun hno => by
        refine hfree k ok hk hki ?_ hno
        by_cases hjk : j = k
        · subst hjk; exact hjun
        · rw [getD_set_ne true hjk] at hun; exact hun
      refine wpOp_mono (fun a' w' h3 => ⟨fun _ => h3.2.1 hjn, ih (listed.setIfInBounds j true) a' w' (inv.set hj hjl) hfree' (ready_mono hr (Ne.symm hji)) h3.1 (h3.2.1 hjn) ?_⟩) h2
      rw [Array.setIfInBounds_comm _ _ hji]
      exact h3.2.2

def invB (ops : Array Oper) (n : Nat) (listed : Array Bool) : Bool :=
  listed.size == ops.size && ((List.range ops.size).all fun j => !listed.getD j false || (List.range ops.size).all fun i => !Region.waitsFor .any ops j i || listed.getD i false) && ((List.range ops.size).all fun t => decide (t < n) || !listed.getD t true) && (List.range ops.size).all fun j => (List.range ops.size).all fun i => !Region.waitsFor .any ops j i || decide (i < ops.size)
theorem invB_spec {listed : Array Bool} (hn : ops.size = n + 1) (hd : ∀ j i, Region.waitsFor .any ops j i = true → i < ops.size) (h : invB ops n listed = true) : Inv ops n listed := by
  simp only [invB, Bool.and_eq_true, beq_iff_eq, List.all_eq_true, List.mem_range, Bool.or_eq_true, Bool.not_eq_true', decide_eq_true_eq] at h
  obtain ⟨⟨⟨h1, h2⟩, h3⟩, _⟩ := h
  refine ⟨h1, fun j i hj hw => ?_, fun t ht ht' => ?_⟩
  · have hjs : j < ops.size := by
      rw [← h1]
      rcases Nat.lt_or_ge j listed.size with h | h
      · exact h
      · simp [Array.getD, Nat.not_lt.2 h] at hj
    rcases h2 j hjs with h | h
    · rw [hj] at h; cases h
    · rcases h i (hd j i hw) with h | h
      · rw [hw] at h; cases h
      · exact h
  · rcases h3 t ht' with h | h
    · omega
    · exact h
/-- The side conditions of a region and of what is listed, as one Bool each. -/
def lastB (ops : Array Oper) (n : Nat) : Bool := decide (ops.size = n + 1) && sinkC ops n && Region.noSelect ops && (List.range ops.size).all fun j => ((ops[j]?).map (·.after.all fun e => decide (e.on < ops.size))).getD true
theorem lastB_dep (h : lastB ops n = true) (j i : Nat) (hw : Region.waitsFor .any ops j i = true) : i < ops.size := by
  simp only [lastB, Bool.and_eq_true] at h
  obtain ⟨oj, hoj, e, he, hb, hon⟩ := Region.waitsFor_spec hw
  have h1 := List.all_eq_true.1 h.2 j (List.mem_range.2 (Array.getElem?_eq_some_iff.1 hoj).1)
  rw [hoj] at h1
  simp only [Option.map_some, Option.getD_some, Array.all_eq_true_iff_forall_mem, decide_eq_true_eq] at h1
  rw [← hon]
  exact h1 e he
def takeB (ops : Array Oper) (n : Nat) (listed : Array Bool) (i : Nat) : Bool := invB ops n listed && decide (i < n) && Region.free .any ops listed i && (Region.ready .any ops listed).contains i

theorem drop_get {i : Nat} {o : Oper} {r : List Oper} (h : ops.toList.drop i = o :: r) : ops[i]? = some o := by
  have := congrArg (fun l => l[0]?) h
  simpa [List.getElem?_drop, ← Array.getElem?_toList] using this

theorem wpAnyL_take (i : Nat) {oi : Oper} {rest : List Oper} {v : Value} {f : Nat} {listed : Array Bool} {a : Act} {w : World} (hL : lastB ops n = true) (hi : ops.toList.drop i = oi :: rest) (hB : takeB ops n listed i = true)
    (hQ : ∀ c a w, Q (.panic c) (a.put oi.dst v) w → Q (.panic c) a w) (hg : oi.guard = none) (hy : ∀ w, S w → (execOp a.eval oi).run P w = .ok (.value v) w) (hS : S w)
    (h : wpAnyL P ops Q S n f (listed.setIfInBounds i true) (a.put oi.dst v) w) : wpAnyL P ops Q S n (f + 1) listed a w := by
  have hd := lastB_dep hL
  simp only [lastB, Bool.and_eq_true, decide_eq_true_eq] at hL
  simp only [takeB, Bool.and_eq_true, decide_eq_true_eq] at hB
  obtain ⟨⟨⟨h1, h2⟩, h3⟩, h4⟩ := hB
  exact wpAnyL_first hL.1.1.2 hL.1.1.1 (drop_get hi) h2 (Region.noSelect_spec hL.1.2) hQ f listed a w (invB_spec hL.1.1.1 hd h1) (Region.free_spec (drop_get hi) h3) (by simpa using h4) (Or.inl ⟨by simp [Region.wanted, hg], hy⟩) hS h

/-- Each of these comes up next. -/
def AllL (P : Program) (ops : Array Oper) (Q : Exit → Act → World → Prop) (S : World → Prop) (n f : Nat) (listed : Array Bool) (a : Act) (w : World) (rs : List Nat) : Prop :=
  ∀ i ∈ rs, wpOp P ops Q i (fun a' w' => (i ≠ n → S w') ∧ wpAnyL P ops Q S n f (listed.setIfInBounds i true) a' w') a w
theorem AllL.nil {f : Nat} {listed : Array Bool} {a : Act} {w : World} : AllL P ops Q S n f listed a w [] := fun _ h => by cases h
theorem AllL.cons {f : Nat} {listed : Array Bool} {a : Act} {w : World} {i : Nat} {o : Oper} {rest : List Oper} {rs : List Nat} (hi : ops.toList.drop i = o :: rest) (hin : decide (i < n) = true)
    (h : ∀ K' : Act → World → Prop, Shut (∀ a w, S w → (S w → wpAnyL P ops Q S n f (listed.setIfInBounds i true) a w) → K' a w) → if Region.wanted o (yielded ops a.tmps) = true then Oper.wp P o a w K' Q else K' (a.put o.dst undef) w)
    (hs : AllL P ops Q S n f listed a w rs) : AllL P ops Q S n f listed a w (i :: rs) := fun j hj => by
  rcases List.mem_cons.1 hj with rfl | hj
  · exact wpOp_step (drop_get hi) (fun K' hK => h K' (fun a w hS hW => hK a w ⟨fun _ => hS, hW hS⟩))
  · exact hs j hj
theorem AllL.last {f : Nat} {listed : Array Bool} {a : Act} {w : World} {o : Oper} {rest : List Oper} (hi : ops.toList.drop n = o :: rest) (hr : decide (Region.ready .any ops (listed.setIfInBounds n true) = []) = true)
    (h : ∀ K' : Act → World → Prop, Shut (∀ a w, Q .normal a w → K' a w) → if Region.wanted o (yielded ops a.tmps) = true then Oper.wp P o a w K' Q else K' (a.put o.dst undef) w) : AllL P ops Q S n f listed a w [n] := fun j hj => by
  obtain rfl : j = n := by simpa using hj
  refine wpOp_step (drop_get hi) (fun K' hK => h K' (fun a w hq => hK a w ⟨fun h => absurd rfl h, ?_⟩))
  have hr' := of_decide_eq_true hr
  cases f with
  | zero => exact ⟨hr', hq⟩
  | succ f => exact ⟨fun _ => hq, by rw [hr']; simp⟩
theorem wpAnyL_all (rs : List Nat) {f : Nat} {listed : Array Bool} {a : Act} {w : World} (hr : decide (Region.ready .any ops listed = rs) = true) (hne : rs ≠ []) (h : AllL P ops Q S n f listed a w rs) : wpAnyL P ops Q S n (f + 1) listed a w := by
  have hr := of_decide_eq_true hr
  exact ⟨fun h0 => absurd (hr ▸ h0) hne, hr ▸ h⟩
/-- The beginning. -/
theorem wp_region_last {id : Nat} {a : Act} {w : World} (n : Nat) (S : World → Prop) (hm : P.follows .mixedOrders = true)
    (h : wpAnyL P ops Q S n ops.size (Array.replicate ops.size false) a w.drew) : (Code.region id ops true).wp P Q a w :=
  wp_region_any hm (wpAny_of_L _ _ _ _ h)
end
end Go.Proofs.Ytpbagbhoenmpcaa
