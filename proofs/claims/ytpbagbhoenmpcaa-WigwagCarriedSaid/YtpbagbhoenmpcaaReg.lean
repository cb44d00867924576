/- A statement whose order is open, that only reads up to one operation (a call, say), and only hands values on behind it: one walk, in the order of the text, serves for every order. -/
import Derived.StillTailTactics
namespace Go.Proofs.Ytpbagbhoenmpcaa
set_option linter.unusedVariables false
set_option linter.unusedSimpArgs false
section
variable {P : Program} {ops : Array Oper} {w : World}

/-- Each operation ahead of number n is waited for by a later one, up to n; each behind n waits for one from n on. -/
def sinkC (ops : Array Oper) (n : Nat) : Bool :=
  ((List.range n).all fun i => (List.range (n + 1)).any fun j => decide (i < j) && Region.waitsFor .any ops j i) &&
  ((List.range ops.size).all fun t => decide (t ≤ n) || (List.range t).any fun s => decide (n ≤ s) && Region.waitsFor .any ops t s)

structure Inv (ops : Array Oper) (n : Nat) (listed : Array Bool) : Prop where
  size : listed.size = ops.size
  closed : ∀ j i, listed.getD j false = true → Region.waitsFor .any ops j i = true → listed.getD i false = true
  tail : ∀ t, n ≤ t → t < ops.size → listed.getD t true = false

theorem ready_deps {listed : Array Bool} {j i : Nat} (hr : j ∈ Region.ready .any ops listed) (h : Region.waitsFor .any ops j i = true) : listed.getD i false = true := by
  obtain ⟨_, oj, hoj, hall⟩ := mem_ready.1 hr
  obtain ⟨o', ho', e, he, hb, hon⟩ := Region.waitsFor_spec h
  obtain rfl : o' = oj := Option.some.inj (ho'.symm.trans hoj)
  rw [← hon]
  exact hall e he hb

theorem Inv.set {n i : Nat} {listed : Array Bool} (inv : Inv ops n listed) (hi : i ∈ Region.ready .any ops listed) (hin : i < n) : Inv ops n (listed.setIfInBounds i true) := by
  refine ⟨by simp [inv.size], fun j k hj hk => ?_, fun t ht ht' => ?_⟩
  · by_cases e : i = j
    · subst e; exact getD_set_true (ready_deps hi hk)
    · rw [getD_set_ne false e] at hj
      exact getD_set_true (inv.closed j k hj hk)
  · rw [getD_set_ne true (by omega)]; exact inv.tail t ht ht'

/-- Where something from n on may come up, all ahead of n are done. -/
theorem all_done {n t : Nat} {listed : Array Bool} (hs : sinkC ops n = true) (inv : Inv ops n listed) (ht : n ≤ t) (hr : t ∈ Region.ready .any ops listed) : ∀ i, i < n → listed.getD i false = true := by
  simp only [sinkC, Bool.and_eq_true] at hs
  obtain ⟨hs, hc⟩ := hs
  have htn : t = n := by
    rcases Nat.eq_or_lt_of_le ht with h | h
    · exact h.symm
    · have h1 := List.all_eq_true.1 hc t (List.mem_range.2 (by obtain ⟨_, ot, hot, _⟩ := mem_ready.1 hr; exact (Array.getElem?_eq_some_iff.1 hot).1))
      simp only [Bool.or_eq_true, decide_eq_true_eq] at h1
      rcases h1 with h1 | h1
      · omega
      · obtain ⟨s, hs1, hs2⟩ := List.any_eq_true.1 h1
        simp only [Bool.and_eq_true, decide_eq_true_eq] at hs2
        have h2 := ready_deps hr hs2.2
        have h3 := inv.tail s hs2.1 (by have := List.mem_range.1 hs1; obtain ⟨_, ot, hot, _⟩ := mem_ready.1 hr; have := (Array.getElem?_eq_some_iff.1 hot).1; omega)
        rw [getD_both h3] at h2
        cases h2
  subst htn
  have step : ∀ d i, t - i = d → i < t → listed.getD i false = true := by
    intro d
    induction d using Nat.strongRecOn with
    | _ d ih =>
      intro i hd hi
      obtain ⟨j, hj, hj2⟩ := List.any_eq_true.1 (List.all_eq_true.1 hs i (List.mem_range.2 hi))
      simp only [Bool.and_eq_true, decide_eq_true_eq] at hj2
      have hjt := List.mem_range.1 hj
      by_cases e : j = t
      · subst e; exact ready_deps hr hj2.2
      · exact inv.closed j i (ih (t - j) (by omega) j rfl (by omega)) hj2.2
  exact fun i hi => step _ i rfl hi

/-- The operations ahead of n in whatever order; then L. -/
def headAny (P : Program) (ops : Array Oper) (w : World) (n : Nat) (L : Array Bool → Act → Prop) : Nat → Array Bool → Act → Prop
  | 0, listed, a => L listed a
  | f + 1, listed, a => (∃ i, i ∈ Region.ready .any ops listed ∧ i < n) ∧ ∀ i ∈ Region.ready .any ops listed, i < n → stOp P ops w i (headAny P ops w n L f (listed.setIfInBounds i true)) a

theorem headAny_first {n i : Nat} {oi : Oper} {v : Value} {L : Array Bool → Act → Prop} (hi : ops[i]? = some oi) (hsel : ∀ (j : Nat) (o : Oper) cs b, ops[j]? = some o → o.op ≠ .select cs b) (hin : i < n)
    (hL : ∀ listed a, L listed a → ∀ j ∈ Region.ready .any ops listed, n ≤ j) :
    ∀ (f : Nat) (listed : Array Bool) (a : Act),
      (∀ j oj, ops[j]? = some oj → j ≠ i → listed.getD j true = false → (∀ e ∈ oj.after, Region.binds .any e = true → e.on ≠ i) → oi.apart ops oj = true) →
      i ∈ Region.ready .any ops listed → YieldsAt P ops w oi v a → headAny P ops w n L f (listed.setIfInBounds i true) (a.put oi.dst v) → headAny P ops w n L (f + 1) listed a
  | 0, listed, a, _, hr, hy, H => by
    refine ⟨⟨i, hr, hin⟩, fun j hj hjn => ?_⟩
    by_cases e : j = i
    · subst e; exact hy.stOp hi H
    · exact absurd (hL _ _ H j (ready_mono hj e)) (by omega)
  | f + 1, listed, a, hfree, hr, hy, H => by
    refine ⟨⟨i, hr, hin⟩, fun j hj hjn => ?_⟩
    by_cases e : j = i
    · subst e; exact hy.stOp hi H
    · have hjr := mem_ready.1 hj
      have hir := (mem_ready.1 hr).1
      obtain ⟨hjun, oj, hoj, hall⟩ := hjr
      have hno : ∀ d ∈ oj.after, Region.binds .any d = true → d.on ≠ i := fun d hd hb he => by
        have := hall d hd hb
        rw [he, getD_both hir] at this
        cases this
      have hput := stOp_put hoj (hfree j oj hoj e hjun hno) (fun cs b => hsel i oi cs b hi) (fun cs b => hsel j oj cs b hoj) hy (H.2 j (ready_mono hj e) hjn)
      refine stOp_mono (fun a' h => headAny_first hi hsel hin hL f _ a' (fun k ok hk hki hun hne => hfree k ok hk hki ?_ hne) (ready_mono hr (Ne.symm e)) h.1 ?_) hput
      · by_cases ejk : j = k
        · subst ejk; exact hjun
        · rwa [getD_set_ne true ejk] at hun
      · rw [Array.setIfInBounds_comm _ _ e]; exact h.2

def lexTo (ops : Array Oper) (L0 : Array Bool) : Nat → Nat → Array Bool → Bool
  | 0, _, listed => listed == L0
  | f + 1, k, listed => (Region.ready .any ops listed).contains k && Region.free .any ops listed k && lexTo ops L0 f (k + 1) (listed.setIfInBounds k true)

theorem headAny_lex {n : Nat} {L0 : Array Bool} {Lq : Act → Prop} (hsel : Region.noSelect ops = true) (hL0 : ∀ j ∈ Region.ready .any ops L0, n ≤ j) :
    ∀ (l : List Oper) (k : Nat) (listed : Array Bool) (a : Act), (∀ j, j < l.length → l[j]? = ops[k + j]?) → k + l.length = n → lexTo ops L0 l.length k listed = true → wpStill P ops w Lq l a →
      headAny P ops w n (fun listed' a' => listed' = L0 ∧ Lq a') l.length listed a
  | [], _, listed, a, _, _, hB, h => ⟨by simpa [lexTo] using hB, h⟩
  | o :: l, k, listed, a, hl, hk, hB, h => by
    have h0 : ops[k]? = some o := by simpa using (hl 0 (by simp)).symm
    simp only [List.length_cons, lexTo, Bool.and_eq_true] at hB hk
    obtain ⟨⟨hr, hf⟩, hB'⟩ := hB
    obtain ⟨v, hy, hK⟩ := yieldsAt_of_stOp h0 (show stOp P ops w k (wpStill P ops w Lq l) a by unfold stOp; simp only [h0]; exact h)
    exact headAny_first h0 (Region.noSelect_spec hsel) (by omega) (fun _ _ hq => by rw [hq.1]; exact hL0) l.length listed a (Region.free_spec h0 hf) (by simpa using hr) hy
      (headAny_lex hsel hL0 l (k + 1) _ _ (fun j hj => by have := hl (j + 1) (by simp; omega); simpa [Nat.add_assoc, Nat.add_comm 1 j] using this) (by omega) hB' hK)

theorem wpAny_of_headAny {n g : Nat} {L : Array Bool → Act → Prop} {Q : Exit → Act → World → Prop} (hs : sinkC ops n = true) (hL : ∀ listed a, L listed a → wpAny P .any ops Q g listed a w) :
    ∀ (f : Nat) (listed : Array Bool) (a : Act), Inv ops n listed → headAny P ops w n L f listed a → wpAny P .any ops Q (f + g) listed a w
  | 0, _, _, _, h => by rw [Nat.zero_add]; exact hL _ _ h
  | f + 1, listed, a, inv, h => by
    obtain ⟨⟨i, hi, hin⟩, hall⟩ := h
    have hlt : ∀ j ∈ Region.ready .any ops listed, j < n := fun j hj => by
      rcases Nat.lt_or_ge j n with h | h
      · exact h
      · have := all_done hs inv h hj i hin
        rw [getD_both (mem_ready.1 hi).1] at this
        cases this
    rw [show f + 1 + g = (f + g) + 1 by omega]
    exact ⟨fun h0 => (by rw [h0] at hi; cases hi), fun j hj => wpOp_of_stOp (fun a' h' => wpAny_of_headAny hs hL f _ a' (inv.set hj (hlt j hj)) h') (hall j hj (hlt j hj))⟩

def headB (ops : Array Oper) (n : Nat) : Bool :=
  let L0 := Array.replicate n true ++ Array.replicate (ops.size - n) false
  Region.noSelect ops && decide (n < ops.size) && sinkC ops n && lexTo ops L0 n 0 (Array.replicate ops.size false) && decide (Region.ready .any ops L0 = [n]) && Region.lexFrom .any ops (ops.size - (n + 1)) (n + 1) (L0.setIfInBounds n true)

/-- The region that draws: n operations that read, one that may do anything, and behind it some that hand values on. -/
theorem wp_region_mid {id : Nat} {Q : Exit → Act → World → Prop} {a : Act} {l : List Oper} (n : Nat) (hm : P.follows .mixedOrders = true) (hB : headB l.toArray n = true)
    (h : wpStill P l.toArray w.drew (fun a' => wpOp P l.toArray Q n (fun a2 w2 => wpStill P l.toArray w2 (fun a3 => Q .normal a3 w2) (l.drop (n + 1)) a2) a' w.drew) (l.take n) a) : (Code.region id l.toArray true).wp P Q a w := by
  simp only [headB, Bool.and_eq_true, decide_eq_true_eq] at hB
  obtain ⟨⟨⟨⟨⟨hsel, hn⟩, hs⟩, hlex⟩, hmid⟩, htail⟩ := hB
  generalize (Array.replicate n true ++ Array.replicate (l.toArray.size - n) false) = L0 at hlex hmid htail
  have hn' : n < l.length := by simpa using hn
  have htl : (l.take n).length = n := by simp; omega
  have inv0 : Inv l.toArray n (Array.replicate l.toArray.size false) :=
    ⟨by simp, fun j i hl _ => (by rw [getD_replicate_false] at hl; cases hl), fun t _ ht => getD_in (by simpa using ht) (getD_replicate_false _ _)⟩
  refine wp_region_any hm ?_
  have H := headAny_lex (n := n) hsel (by rw [hmid]; simp) (l.take n) 0 _ a (fun j hj => by
    have hj' : j < n := by rw [htl] at hj; exact hj
    simp [hj']) (by simpa using htl) (by rw [htl]; exact hlex) h
  have := wpAny_of_headAny (Q := Q) (g := l.toArray.size - n) hs (fun listed a' hL => by
    obtain ⟨rfl, hq⟩ := hL
    rw [show l.toArray.size - n = (l.toArray.size - (n + 1)) + 1 by omega]
    refine ⟨fun h0 => (by rw [hmid] at h0; cases h0), fun i hi => ?_⟩
    rw [hmid] at hi
    obtain rfl : i = n := by simpa using hi
    refine wpOp_mono (fun a2 w2 h2 => wpAny_of_still (Q := fun a3 => Q .normal a3 w2) (fun _ h => h) _ _ _ ?_) hq
    have hd : (l.drop (i + 1)).length = l.toArray.size - (i + 1) := by simp
    have := wpAnyS_lex (md := .any) hsel (l.drop (i + 1)) (i + 1) _ a2 (fun j => by simp [List.getElem?_drop]) (by rw [hd]; exact htail) h2
    rwa [hd] at this) _ _ _ inv0 H
  rw [htl, show n + (l.toArray.size - n) = l.toArray.size by omega] at this
  exact this

theorem wpOp_mid {Q : Exit → Act → World → Prop} {n : Nat} {K : Act → World → Prop} {a : Act} {o : Oper} (ho : ops[n]? = some o) (hg : o.guard = none) (h : o.wp P a w K Q) : wpOp P ops Q n K a w := by
  unfold wpOp
  simp only [ho, Region.wanted, hg, if_true]
  exact .inl h
end
end Go.Proofs.Ytpbagbhoenmpcaa
