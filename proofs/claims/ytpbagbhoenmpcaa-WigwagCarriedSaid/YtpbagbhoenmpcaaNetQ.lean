/- One append to a row of texts, inside a region: what it grows, and what it leaves as it was. -/
import Derived.Test.YtpbagbhoenmpcaaNetS
import Derived.Test.YtpbagbhoenmpcaaLast
namespace Go.Proofs.Ytpbagbhoenmpcaa
set_option linter.unusedVariables false
set_option linter.unusedSimpArgs false
open Go.RowKit

theorem step_grow {ops : Array Oper} {o : Oper} {a : Act} {K : Act → World → Prop} {Q : Exit → Act → World → Prop} {E : Prop} {W w2 : World} {H0 n m c : Nat} {v : Value} {ad : Addr} {l news : List ByteArray}
    (hgd : o.guard = none) (s x : Operand) (ho : o.op = .call { callee := .builtin .append, args := #[s, x], argTypes := #[22, 22] })
    (hs : a.eval s = v) (hx : a.eval x = .slice (some ad) m c) (hown : W.ownsRow H0 9 1 v n (tcells l)) (hnews : ∀ j u, (tcells news)[j]? = some u → W.cell? (ad.add j) = some u)
    (hB : Below H0 w2 W) (hl : news.length = m) (hm : 0 < m) (hk : n + m ≤ 100000) (hbase : H0 ≤ W.heap.size)
    (h : ∀ g cap w', w'.ownsRow H0 9 1 (.slice (some ⟨g, 0, none⟩) (n + m) cap) (n + m) (tcells (l ++ news)) → W.grownBy w' v.ownBlock → Below H0 w2 w' → K (a.put o.dst (.slice (some ⟨g, 0, none⟩) (n + m) cap)) w') :
    if Region.wanted o (yielded ops a.tmps) = true then Oper.wp Try.prog o a W K Q else E := by
  obtain ⟨i0, hi, hz0, hz1, hz2⟩ := info_parts Try.info9
  refine step_append_lies W hgd s x 22 ho H0 9 i0 _ 1 16 Try.underlying22 hi hz0 hz1 hz2 rfl (by decide) v n (tcells l) hs hown ad m c (tcells news) hx (by rw [tcells_len, hl]) hnews (tcells_one news) hm (by unfold maxLen; omega) (by omega) hbase _ rfl fun g cap w' h1 h2 _ _ => ?_
  rw [← tcells_app] at h1
  exact h g cap w' h1 h2 (hB.grown h2 hbase fun k hk => (hown.lt k hk).1)
theorem step_grow0 {ops : Array Oper} {o : Oper} {a : Act} {K : Act → World → Prop} {Q : Exit → Act → World → Prop} {E : Prop} {W w2 : World} {H0 m c : Nat} {v : Value} {ad : Addr} {news : List ByteArray}
    (hgd : o.guard = none) (s x : Operand) (ho : o.op = .call { callee := .builtin .append, args := #[s, x], argTypes := #[22, 22] })
    (hs : a.eval s = v) (hx : a.eval x = .slice (some ad) m c) (hown : W.ownsRow H0 9 1 v 0 (tcells [])) (hnews : ∀ j u, (tcells news)[j]? = some u → W.cell? (ad.add j) = some u)
    (hB : Below H0 w2 W) (hl : news.length = m) (hm : 0 < m) (hk : m ≤ 100000) (hbase : H0 ≤ W.heap.size)
    (h : ∀ g cap w', w'.ownsRow H0 9 1 (.slice (some ⟨g, 0, none⟩) m cap) m (tcells news) → W.grownBy w' v.ownBlock → Below H0 w2 w' → K (a.put o.dst (.slice (some ⟨g, 0, none⟩) m cap)) w') :
    if Region.wanted o (yielded ops a.tmps) = true then Oper.wp Try.prog o a W K Q else E := by
  refine step_grow (w2 := w2) (l := []) hgd s x ho hs hx hown hnews hB hl hm (by omega) hbase fun g cap w' h1 h2 h3 => ?_
  rw [Nat.zero_add, List.nil_append] at h1
  rw [Nat.zero_add]
  exact h g cap w' h1 h2 h3
theorem cell_set_far {w : World} {g o p i : Nat} {v u : Value} (h : w.cell? ⟨g, o, none⟩ = some v) (hne : g ≠ p) : (w.setCell ⟨p, i, none⟩ u).cell? ⟨g, o, none⟩ = some v := by
  refine Eq.trans (World.cell?_of_block (w := w) (a := ⟨g, o, none⟩) ?_) h
  exact Below.heap_setCell w ⟨p, i, none⟩ u g hne
theorem one_news {w : World} {B : Nat} {t : ByteArray} (hb : w.heap[B]? = some (.cells #[.string t] 9 (0, 0))) : ∀ j u, (tcells [t])[j]? = some u → w.cell? ((⟨B, 0, none⟩ : Addr).add j) = some u := news_at hb
theorem some_news {w : World} {A : Option Addr} {cap : Nat} {l : List ByteArray} (h : Txts w A cap l) (hl : l ≠ []) : ∃ r o, A = some ⟨r, o, none⟩ ∧ r < w.heap.size ∧ ∀ (H0 : Nat) (W : World), w.heap.size = H0 → Below H0 w W → ∀ j u, (tcells l)[j]? = some u → W.cell? ((⟨r, o, none⟩ : Addr).add j) = some u := by
  obtain ⟨r, o, rfl, hr, _⟩ := h.cell 0 (List.length_pos_iff.2 hl)
  refine ⟨r, o, rfl, hr, fun H0 W e hb j u hu => ?_⟩
  subst e
  have h1 := h.news j u hu
  rw [Addr.add_lit] at h1 ⊢
  exact (hb.cell hr).trans h1
theorem grown_blk {w w' : World} {row : Option Nat} {k : Nat} {o : Obj} (h : w.heap[k]? = some o) (hg : w.grownBy w' row) (hr : row ≠ some k) : w'.heap[k]? = some o :=
  (hg.block k (blk_lt h) (fun e => hr e.symm)).trans h
/-- Two slices of texts in a block. -/
def PairAt (w : World) (p : Nat) (cs : Array Value) (gs : Nat → List ByteArray) : Prop :=
  w.heap[p]? = some (.cells cs 43 (0, 0)) ∧ ∀ i, i < 2 → ∃ A cap, cs[i]? = some (.slice A (gs i).length cap) ∧ Txts w A cap (gs i) ∧ (gs i = [] → A = none ∧ cap = 0)
theorem PairAt.new (w : World) : PairAt (w.alloc (.cells #[.slice none 0 0, .slice none 0 0] 43)) w.heap.size #[.slice none 0 0, .slice none 0 0] (fun _ => []) :=
  ⟨blk_new _ _, fun i hi => ⟨none, 0, by
    have : i = 0 ∨ i = 1 := by omega
    rcases this with rfl | rfl <;> rfl, Txts.empty _, fun _ => ⟨rfl, rfl⟩⟩⟩
theorem PairAt.calm {B : Nat} {w w' : World} {p : Nat} {cs : Array Value} {gs : Nat → List ByteArray} (h : PairAt w p cs gs) (hc : Calm B w w') : PairAt w' p cs gs :=
  ⟨hc.2 p cs 43 (by decide) (by decide) (by decide) h.1, fun i hi => by
    obtain ⟨A, cap, h1, h2, h3⟩ := h.2 i hi
    exact ⟨A, cap, h1, hc.txts h2, h3⟩⟩
theorem PairAt.set {w w' : World} {p i : Nat} {cs : Array Value} {gs : Nat → List ByteArray} (h : PairAt w p cs gs) (hi : i < 2) {A : Option Addr} {cap n : Nat} {l : List ByteArray} (hb : w'.heap[p]? = some (.cells (cs.setIfInBounds i (.slice A n cap)) 43 (0, 0))) (hk : Keep (fun k => k = p) w w') (ht : Txts w' A cap l) (hn : n = l.length) (hl : l ≠ []) :
    PairAt w' p (cs.setIfInBounds i (.slice A n cap)) (upd gs i l) := by
  subst hn
  refine ⟨hb, fun j hj => ?_⟩
  by_cases e : j = i
  · subst e
    rw [upd_same]
    obtain ⟨A0, cap0, h1, _, _⟩ := h.2 j hj
    exact ⟨A, cap, set_self h1, ht, fun e => absurd e hl⟩
  · rw [upd_other _ _ e]
    obtain ⟨A0, cap0, h1, h2, h3⟩ := h.2 j hj
    refine ⟨A0, cap0, (set_other (Ne.symm e)).trans h1, h2.keep hk fun k c hh e => ?_, h3⟩
    subst e
    exact absurd (type_ne h.1 hh) (by decide)

theorem frozen_next {w wx : World} {g o : Nat} {b : Bool} (hb : Below w.heap.size w wx) (hg : g < w.heap.size) (h : w.frozen? ⟨g, o, none⟩ = b) : wx.frozen? ⟨g, o, none⟩ = b := by
  have := hb.block g hg
  simp only [World.frozen?, this] at h ⊢
  exact h
theorem grown_below {w W w3 : World} {k : Nat} (hb : Below w.heap.size w W) (hg : W.grownBy w3 (some k)) (hk : w.heap.size ≤ k) : Below w.heap.size w w3 :=
  hb.grown hg hb.size fun j e => by injection e with e; omega
/-- What a link becomes by a packet. -/
def Lk.took (k : Lk) (n c : Int) : Lk := ⟨if 0 < c - k.acked then k.q.drop (c - k.acked).toNat else k.q, if 0 < c - k.acked then c else k.acked, if 0 ≤ n ∧ n = k.came then k.came + 1 else k.came, if n < 0 then k.owes else true⟩
structure PkOk (k : Lk) (n c : Int) (t : ByteArray) : Prop where
  n0 : -1 ≤ n
  n1 : n < 2 ^ 60
  c0 : 0 ≤ c
  c1 : c < 2 ^ 60
  fits : c - k.acked ≤ (k.q.length : Int)
  size : t.size ≤ 1000
  none : n < 0 → t = ⟨#[]⟩

def Arrived (B b g p : Nat) (v : Value) (N : Int) (l : List Pkt) (ks : Nat → Lk) (gs : Nat → List ByteArray) (j : Nat) (n c : Int) (t : ByteArray) (w : World) (e : Ending) (w' : World) : Prop :=
  e = .returned (.int .i64 0) ∧ (∃ cs', Net w' B b g v N l cs' (upd ks j ((ks j).took n c))) ∧
  (∃ ds', PairAt w' p ds' (if 0 ≤ n ∧ n = (ks j).came then upd gs j (gs j ++ [t]) else gs)) ∧
  Below B w w' ∧ Keep (fun k => k = g ∨ k = p) w w'


theorem Net.other {w w' : World} {B b g : Nat} {v : Value} {n : Int} {l : List Pkt} {cs : Array Value} {ks : Nat → Lk} (h : Net w B b g v n l cs ks) {S : Nat → Prop} (hk : Keep S w w') (hs : ∀ k c T, w.heap[k]? = some (.cells c T (0, 0)) → S k → T = 43) : Net w' B b g v n l cs ks := by
  refine ⟨h.bag.keep hk (fun hb => absurd (hs _ _ _ h.bag.blk hb) (by decide)) (fun k hv hb => ?_), h.ge, Nat.le_trans h.size hk.size, fun i hi => ?_⟩
  · obtain ⟨cur, h3⟩ := own_type h.bag.own hv
    exact absurd (hs _ _ _ h3 hb) (by decide)
  · obtain ⟨A, cap, h1⟩ := h.links i hi
    exact ⟨A, cap, h1.keep hk (fun hb => absurd (hs _ _ _ h1.blk hb) (by decide)) fun k c hh hb => absurd (hs _ _ _ hh hb) (by decide)⟩
/-- A row grown elsewhere is stored in the block of two. -/
theorem pair_put {w w4 : World} {p J g2 n cap : Nat} {cs : Array Value} {gs : Nat → List ByteArray} {l : List ByteArray} (hp : PairAt w p cs gs) (hJ : J < 2) (hB : Below w.heap.size w w4) (ho : w4.ownsRow w.heap.size 9 1 (.slice (some ⟨g2, 0, none⟩) n cap) n (tcells l)) (hn : n = l.length) (hl : l ≠ []) :
    PairAt (w4.setCell ⟨p, J, none⟩ (.slice (some ⟨g2, 0, none⟩) n cap)) p (cs.setIfInBounds J (.slice (some ⟨g2, 0, none⟩) n cap)) (upd gs J l) ∧ Keep (fun k => k = p) w (w4.setCell ⟨p, J, none⟩ (.slice (some ⟨g2, 0, none⟩) n cap)) := by
  have hpl := blk_lt hp.1
  have hk : Keep (fun k => k = p) w (w4.setCell ⟨p, J, none⟩ (.slice (some ⟨g2, 0, none⟩) n cap)) := Keep.setCell (S := fun k => k = p) (below_keep hB _) (fun _ => rfl) _
  refine ⟨hp.set hJ (blk_set (Below.blk hB hp.1 hpl) J _) hk ?_ hn hl, hk⟩
  have hg := (ho.lt g2 rfl).1
  exact Txts.of_own hn (ownsRow_set_ne ho (by intro e; injection e with e; simp only at e; omega) _)
theorem arrived_put {w w2 w3 : World} {B b g p j g1 n' cap : Nat} {v : Value} {N n c : Int} {l : List Pkt} {cs2 ds : Array Value} {ks : Nat → Lk} {gs : Nat → List ByteArray} {t : ByteArray}
    (hN : Net w2 B b g v N l cs2 (upd ks j ((ks j).took n c))) (hC : Calm B w w2) (hK : Keep (fun k => k = g) w w2) (hP : PairAt w2 p ds gs) (hpB : B ≤ p) (hj : j < 2) (hbr : 0 ≤ n ∧ n = (ks j).came) (hB : Below w2.heap.size w2 w3) (hn : n' = (gs j).length + 1)
    (hH : w3.ownsRow w2.heap.size 9 1 (.slice (some ⟨g1, 0, none⟩) n' cap) n' (tcells (gs j ++ [t]))) (hB0 : B ≤ w.heap.size) : Arrived B b g p v N l ks gs j n c t w (.returned (.int .i64 0)) (w3.setCell ⟨p, j, none⟩ (.slice (some ⟨g1, 0, none⟩) n' cap)) := by
  obtain ⟨h1, h2⟩ := pair_put hP hj hB hH (by rw [hn]; simp) (by simp)
  have hN' := hN.other (S := fun k => k = p) h2 (fun k c T hh e => by cases e; exact type_ne hh hP.1)
  refine ⟨rfl, ⟨cs2, hN'⟩, ⟨ds.setIfInBounds j (.slice (some ⟨g1, 0, none⟩) n' cap), ?_⟩, hC.1.trans (h2.toBelow (Nat.le_trans hB0 hC.1.size) fun k e => e ▸ hpB), (hK.mono fun k _ e => Or.inl e).trans (h2.mono fun k _ e => Or.inr e)⟩
  rw [if_pos hbr]; exact h1
end Go.Proofs.Ytpbagbhoenmpcaa
