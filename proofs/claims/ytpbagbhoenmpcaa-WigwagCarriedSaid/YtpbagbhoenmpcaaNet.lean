/- The bag and the two links together, in memory; what a call of one leaves of the other. -/
import Derived.Test.YtpbagbhoenmpcaaLinkD
import Derived.Test.YtpbagbhoenmpcaaAwake
import Derived.Test.YtpbagbhoenmpcaaBagE
namespace Go.Proofs.Ytpbagbhoenmpcaa
set_option linter.unusedVariables false
set_option linter.unusedSimpArgs false
open Go.RowKit

structure Lk where
  q : List ByteArray
  acked : Int
  came : Int
  owes : Bool
def upd {α : Type} (f : Nat → α) (i : Nat) (x : α) : Nat → α := fun j => if j = i then x else f j
theorem upd_same {α : Type} (f : Nat → α) (i : Nat) (x : α) : upd f i x i = x := if_pos rfl
theorem upd_other {α : Type} (f : Nat → α) {i j : Nat} (x : α) (h : j ≠ i) : upd f i x j = f j := if_neg h

/-- The bag at block b, the two links in block g. -/
structure Net (w : World) (B b g : Nat) (v : Value) (n : Int) (l : List Pkt) (cs : Array Value) (ks : Nat → Lk) : Prop where
  bag : BagAt w B b v n l
  ge : B ≤ g
  size : B ≤ w.heap.size
  links : ∀ i, i < 2 → ∃ A cap, LinkAt w g (i * 4) cs 42 A cap (ks i).q (ks i).acked (ks i).came (ks i).owes

/-- Nothing below B has turned, and no block but a bag's, its row's and the links'. -/
def Calm (B : Nat) (w w' : World) : Prop := Below B w w' ∧ ∀ (k : Nat) (cs : Array Value) (t : TypeId), t ≠ 26 → t ≠ 32 → t ≠ 42 → w.heap[k]? = some (.cells cs t (0, 0)) → w'.heap[k]? = some (.cells cs t (0, 0))
theorem Calm.refl (B : Nat) (w : World) : Calm B w w := ⟨Below.refl _ _, fun _ _ _ _ _ _ h => h⟩
theorem Calm.trans {B : Nat} {a b c : World} (h : Calm B a b) (k : Calm B b c) : Calm B a c := ⟨h.1.trans k.1, fun i cs t h1 h2 h3 hh => k.2 i cs t h1 h2 h3 (h.2 i cs t h1 h2 h3 hh)⟩
theorem Calm.below {B : Nat} {w w' : World} (h : Below w.heap.size w w') (hB : B ≤ w.heap.size) : Calm B w w' := ⟨h.mono hB, fun k cs t _ _ _ hh => Below.blk h hh (blk_lt hh)⟩
theorem Calm.txts {B : Nat} {w w' : World} (h : Calm B w w') {A : Option Addr} {cap : Nat} {l : List ByteArray} (ht : Txts w A cap l) : Txts w' A cap l :=
  ⟨ht.le, ht.max, ht.nil, fun hl => by
    obtain ⟨r, o, cs, h1, h2, h3⟩ := ht.row hl
    exact ⟨r, o, cs, h1, h.2 r cs 9 (by decide) (by decide) (by decide) h2, h3⟩⟩

theorem own_type {w : World} {B e size n k : Nat} {v : Value} {xs : List Value} (h : w.ownsRow B e size v n xs) (hk : v.ownBlock = some k) : ∃ cur, w.heap[k]? = some (.cells cur e (0, 0)) := by
  rcases h.2 with ⟨hv, _⟩ | ⟨g, cap, cur, hv, _, hh, _⟩
  · rw [hv] at hk; cases hk
  · rw [hv] at hk
    injection hk with hk
    subst hk
    exact ⟨cur, hh⟩
theorem type_ne {w : World} {k : Nat} {c1 c2 : Array Value} {t1 t2 : TypeId} (h1 : w.heap[k]? = some (.cells c1 t1 (0, 0))) (h2 : w.heap[k]? = some (.cells c2 t2 (0, 0))) : t1 = t2 := by
  rw [h1] at h2
  injection h2 with h2
  injection h2

section
variable {w w' : World} {B b g : Nat} {v v' : Value} {n n' : Int} {l l' : List Pkt} {cs : Array Value} {ks : Nat → Lk}
theorem Net.later (h : Net w B b g v n l cs ks) (hb : Below w.heap.size w w') : Net w' B b g v n l cs ks :=
  ⟨h.bag.below hb, h.ge, Nat.le_trans h.size hb.size, fun i hi => by obtain ⟨A, cap, h1⟩ := h.links i hi; exact ⟨A, cap, h1.later hb⟩⟩
theorem LinkAt.keep {off T : Nat} {A : Option Addr} {cap : Nat} {q : List ByteArray} {acked came : Int} {owes : Bool} (h : LinkAt w g off cs T A cap q acked came owes) {S : Nat → Prop} (hk : Keep S w w') (hg : ¬ S g) (hs : ∀ k cs, w.heap[k]? = some (.cells cs 9 (0, 0)) → ¬ S k) : LinkAt w' g off cs T A cap q acked came owes :=
  ⟨hk.blk h.blk hg, h.ty, h.c0, h.c1, h.c2, h.c3, h.txts.keep hk hs⟩
theorem Net.gblk (h : Net w B b g v n l cs ks) : w.heap[g]? = some (.cells cs 42 (0, 0)) := by
  obtain ⟨A, cap, h1⟩ := h.links 0 (by decide)
  exact h1.blk
theorem Net.bagged (h : Net w B b g v n l cs ks) (hb : BagAt w' B b v' n' l') (hm : Moves b v v' w w') : Net w' B b g v' n' l' cs ks ∧ Calm B w w' := by
  have hS : ∀ k c t, t ≠ 26 → t ≠ 32 → w.heap[k]? = some (.cells c t (0, 0)) → ¬ (k = b ∨ v.ownBlock = some k) := by
    rintro k c t h1 h2 hh (rfl | e)
    · exact h1 (type_ne hh h.bag.blk)
    · obtain ⟨cur, h3⟩ := own_type h.bag.own e
      exact h2 (type_ne hh h3)
  refine ⟨⟨hb, h.ge, Nat.le_trans h.size hm.keep.size, fun i hi => ?_⟩, h.bag.moved hm h.size, fun k c t h1 h2 _ hh => hm.keep.blk hh (hS k c t h1 h2 hh)⟩
  obtain ⟨A, cap, h1⟩ := h.links i hi
  exact ⟨A, cap, h1.keep hm.keep (hS g cs 42 (by decide) (by decide) h1.blk) fun k c hh => hS k c 9 (by decide) (by decide) hh⟩
theorem Net.linked (h : Net w B b g v n l cs ks) {i : Nat} (hi : i < 2) {q : List ByteArray} {acked came : Int} {owes : Bool} (hl : LinkTo g (i * 4) cs 42 q acked came owes w w') :
    (∃ cs', Net w' B b g v n l cs' (upd ks i ⟨q, acked, came, owes⟩)) ∧ Calm B w w' := by
  obtain ⟨cs', A, cap, h1, ho, hk⟩ := hl
  have hg := h.gblk
  refine ⟨⟨cs', h.bag.keep hk ?_ ?_, h.ge, Nat.le_trans h.size hk.size, fun j hj => ?_⟩, hk.toBelow h.size (fun k e => e ▸ h.ge), fun k c t _ _ h3 hh => hk.blk hh (fun e => ?_)⟩
  · intro e
    subst e
    exact absurd (type_ne hg h.bag.blk) (by decide)
  · intro k hv e
    subst e
    obtain ⟨cur, h3⟩ := own_type h.bag.own hv
    exact absurd (type_ne hg h3) (by decide)
  · by_cases e : j = i
    · subst e
      rw [upd_same]
      exact ⟨A, cap, h1⟩
    · rw [upd_other _ _ e]
      obtain ⟨A2, cap2, h2⟩ := h.links j hj
      refine ⟨A2, cap2, h1.blk, h2.ty, ?_, ?_, ?_, ?_, h2.txts.stay hk h2.blk h2.ty⟩
      · rw [ho.2 _ (by omega)]; exact h2.c0
      · rw [ho.2 _ (by omega)]; exact h2.c1
      · rw [ho.2 _ (by omega)]; exact h2.c2
      · rw [ho.2 _ (by omega)]; exact h2.c3
  · subst e
    exact h3 (type_ne hh hg)
end
end Go.Proofs.Ytpbagbhoenmpcaa
