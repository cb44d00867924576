/- The link package, walked: slices of texts, slices.Clone of them, Push. -/
import Derived.Test.YtpbagbhoenmpcaaCodeD
import Derived.Test.YtpbagbhoenmpcaaReg
import Derived.Test.YtpbagbhoenmpcaaBagG
namespace Go.Proofs.Ytpbagbhoenmpcaa
set_option linter.unusedVariables false
set_option linter.unusedSimpArgs false
open Go.RowKit

theorem Try.info9 : (Try.prog.info? 9).map (fun i => (i.zero, i.size, i.bytes)) = some (some (.string ⟨#[]⟩), 1, 16) := by kernel_rfl

def tcells (l : List ByteArray) : List Value := l.map Value.string
theorem tcells_len (l : List ByteArray) : (tcells l).length = l.length * 1 := by simp [tcells]
theorem tcells_app (l m : List ByteArray) : tcells (l ++ m) = tcells l ++ tcells m := by simp [tcells]
theorem tcells_one (l : List ByteArray) : ∀ u ∈ tcells l, u.oneCell' = true := by
  intro u hu
  simp only [tcells, List.mem_map] at hu
  obtain ⟨b, _, rfl⟩ := hu
  rfl

/-- A slice of texts, wherever it lies. -/
structure Txts (w : World) (A : Option Addr) (cap : Nat) (l : List ByteArray) : Prop where
  le : l.length ≤ cap
  max : cap ≤ 9223372036854775807
  nil : A = none → l = []
  row : 0 < l.length → ∃ r o cs, A = some ⟨r, o, none⟩ ∧ w.heap[r]? = some (.cells cs 9 (0, 0)) ∧ ∀ k (h : k < l.length), cs[o + k]? = some (.string l[k])

theorem Txts.keep {w w' : World} {A : Option Addr} {cap : Nat} {l : List ByteArray} (h : Txts w A cap l) {S : Nat → Prop} (hk : Keep S w w') (hs : ∀ k cs, w.heap[k]? = some (.cells cs 9 (0, 0)) → ¬ S k) : Txts w' A cap l :=
  ⟨h.le, h.max, h.nil, fun hl => by
    obtain ⟨r, o, cs, h1, h2, h3⟩ := h.row hl
    exact ⟨r, o, cs, h1, hk.blk h2 (hs r cs h2), h3⟩⟩
theorem Txts.below {w w' : World} {A : Option Addr} {cap : Nat} {l : List ByteArray} (h : Txts w A cap l) (hk : Below w.heap.size w w') : Txts w' A cap l :=
  h.keep (below_keep hk fun _ => False) (fun _ _ _ h => h)
theorem Txts.empty (w : World) : Txts w none 0 [] := ⟨Nat.le_refl _, by decide, fun _ => rfl, fun h => absurd h (Nat.lt_irrefl _)⟩
theorem Txts.cell {w : World} {A : Option Addr} {cap : Nat} {l : List ByteArray} (h : Txts w A cap l) (k : Nat) (hk : k < l.length) : ∃ r o, A = some ⟨r, o, none⟩ ∧ r < w.heap.size ∧ w.cell? ⟨r, o + k, none⟩ = some (.string l[k]) := by
  obtain ⟨r, o, cs, h1, h2, h3⟩ := h.row (by omega)
  exact ⟨r, o, h1, blk_lt h2, by rw [blk_cell h2]; exact h3 k hk⟩
theorem Txts.of_own {w : World} {B n cap : Nat} {A : Option Addr} {l : List ByteArray} (hn : n = l.length) (h : w.ownsRow B 9 1 (.slice A n cap) n (tcells l)) : Txts w A cap l := by
  subst hn
  rcases h.2 with ⟨hv, h0⟩ | ⟨g, cap', cur, hv, hg, hh, hl, hm, hs, ht⟩
  · injection hv with h1 h2 h3
    subst h1 h3
    have : l = [] := List.eq_nil_of_length_eq_zero h0
    subst this
    exact Txts.empty w
  · injection hv with h1 h2 h3
    subst h1 h3
    unfold maxLen at hm
    refine ⟨hl, hm, fun h => (by cases h), fun _ => ⟨g, 0, cur, rfl, hh, fun k hk => ?_⟩⟩
    have h1 : (tcells l)[k]? = some (.string l[k]) := by simp [tcells, hk]
    rw [← ht, List.getElem?_take] at h1
    split at h1
    · rw [Nat.zero_add, ← Array.getElem?_toList]; exact h1
    · cases h1
theorem Txts.news {w : World} {ad : Addr} {cap : Nat} {l : List ByteArray} (h : Txts w (some ad) cap l) : ∀ j u, (tcells l)[j]? = some u → w.cell? (ad.add j) = some u := by
  intro j u hu
  have hj : j < l.length := by have := (List.getElem?_eq_some_iff.1 hu).1; simpa [tcells] using this
  obtain ⟨r, o, h1, _, h3⟩ := h.cell j hj
  injection h1 with h1
  subst h1
  have : u = .string l[j] := by simp [tcells, hj] at hu; exact hu.symm
  subst this
  rw [Addr.add_lit]; exact h3

/-- New texts in a row of their own. -/
def FreshT (l : List ByteArray) (w : World) (e : Ending) (w' : World) : Prop := ∃ A cap, e = .returned (.slice A l.length cap) ∧ w'.ownsRow w.heap.size 9 1 (.slice A l.length cap) l.length (tcells l) ∧ Below w.heap.size w w'
set_option maxHeartbeats 800000 in
theorem clonet_any (w : World) (A : Option Addr) (cap : Nat) (l : List ByteArray) (h : Txts w A cap l) (hl : l.length ≤ 100000) :
    Calls Try.prog 41 #[.slice A l.length cap] w (FreshT l w) := by
  obtain ⟨i0, hi, hz0, hz1, hz2⟩ := info_parts Try.info9
  cases A with
  | none =>
    have e0 := h.nil rfl
    subst e0
    have he := Lib.run_eql_slice_nil (P := Try.prog) w 22 9 none 0 cap 0 0 Try.underlying22
    have hz : ([] : List ByteArray).length = 0 := rfl
    clear h
    go_enter Try.func41, Try.ntmps41
    go_wp2
    go_ret
    exact ⟨none, 0, rfl, World.ownsRow_nil _ _ _ _, Below.refl _ _⟩
  | some ad =>
    have he := Lib.run_eql_slice_nil (P := Try.prog) w 22 9 (some ad) l.length cap 0 0 Try.underlying22
    have HN := hid ((h.below ((Below.refl w.heap.size w).alloc (Nat.le_refl _) (.cells #[] 9))).news)
    have HO := hid (show (w.alloc (.cells #[] 9)).ownsRow w.heap.size 9 1 (.slice (some ⟨w.heap.size, 0, none⟩) 0 0) 0 [] from World.ownsRow_made w #[] 0 (Nat.le_refl _) (by decide) rfl)
    have HL := hid (tcells_len l)
    clear h
    go_enter Try.func41, Try.ntmps41
    go_wp2_with (at_builtin; refine wpList_append_own _ rfl _ _ 22 rfl w.heap.size 9 i0 _ 1 16 Try.underlying22 hi hz0 hz1 hz2 rfl (by decide) _ 0 [] rfl HO.out ad l.length cap _ rfl HL.out HN.out (tcells_one l) (by unfold maxLen; omega) (by omega) (by simp) ?_; intro v1 w1 h1 h2 h3; rw [Nat.zero_add, List.nil_append] at h1; obtain ⟨A1, cap1, rfl⟩ := ownsRow_slice h1)
    go_ret
    refine ⟨A1, cap1, rfl, h1, ((Below.refl _ w).alloc (Nat.le_refl _) _).grown h2 (by simp) fun k hk => ?_⟩
    simp [Act.eval, Value.ownBlock] at hk
    omega

/-- The four cells of a link, in a block, from a place on. -/
structure LinkAt (w : World) (g off : Nat) (cs : Array Value) (T : Nat) (A : Option Addr) (cap : Nat) (q : List ByteArray) (acked came : Int) (owes : Bool) : Prop where
  blk : w.heap[g]? = some (.cells cs T (0, 0))
  ty : T ≠ 9
  c0 : cs[off]? = some (.slice A q.length cap)
  c1 : cs[off + 1]? = some (.int .i64 acked)
  c2 : cs[off + 2]? = some (.int .i64 came)
  c3 : cs[off + 3]? = some (.bool owes)
  txts : Txts w A cap q

/-- The texts of a slice stay where a block of another type is written. -/
theorem Txts.stay {w w' : World} {A : Option Addr} {cap g T : Nat} {cs : Array Value} {l : List ByteArray} (h : Txts w A cap l) (hk : Keep (fun k => k = g) w w') (hg : w.heap[g]? = some (.cells cs T (0, 0))) (hT : T ≠ 9) : Txts w' A cap l :=
  h.keep hk fun k c hc e => by
    subst e
    rw [hg] at hc
    injection hc with hc
    injection hc with _ hc
    exact hT hc

def PushOk (g off : Nat) (cs : Array Value) (T : Nat) (q : List ByteArray) (s : ByteArray) (w : World) (e : Ending) (w' : World) : Prop :=
  e = .returned .nilIface ∧ ∃ A cap, w'.heap[g]? = some (.cells (cs.setIfInBounds off (.slice A (q.length + 1) cap)) T (0, 0)) ∧ Txts w' A cap (q ++ [s]) ∧ Keep (fun k => k = g) w w'

set_option maxRecDepth 100000 in
set_option maxHeartbeats 1000000 in
theorem push_ok (w : World) (g off : Nat) (cs : Array Value) (T : Nat) (A : Option Addr) (cap : Nat) (q : List ByteArray) (acked came : Int) (owes : Bool) (s : ByteArray) (h : LinkAt w g off cs T A cap q acked came owes) (hs : s.size ≤ 1970) (hq : q.length < 64) :
    Calls Try.prog 21 #[.pointer (some ⟨g, off, none⟩), .string s] w (PushOk g off cs T q s w) := by
  obtain ⟨i0, hi, hz0, hz1, hz2⟩ := info_parts Try.info9
  have c0 := blk_cell_some h.blk off h.c0
  have f0 := blk_frozen h.blk off
  have HC := hid h.c0
  have hgl := blk_lt h.blk
  have HT := hid h.txts
  have HB := hid h.blk
  have hty := h.ty
  have d1 : decide ((1970 : Int) < (s.size : Int)) = false := decide_eq_false (by omega)
  have d2 : decide ((64 : Int) ≤ (q.length : Int)) = false := decide_eq_false (by omega)
  clear h
  go_enter Try.func21, Try.ntmps21
  go_wp2_with fail
  refine (clonet_any w A cap q HT.out (by omega)).mono ?_
  rintro e w1 ⟨A1, cap1, rfl, ho, hb1⟩
  have hb := Below.blk hb1 HB.out hgl
  have HB1 := hid hb
  have hs1 := hb1.size
  have HBL := hid hb1
  have HA := hid (ho.alloc (.cells #[.string s] 9))
  have HN := hid (news_at (blk_new w1 (.cells #[.string s] 9)))
  have hno : ∀ k, (Value.slice A1 q.length cap1).ownBlock = some k → w.heap.size ≤ k := fun k hk => (ho.lt k hk).1
  have HNO := hid hno
  clear c0 f0 ho hb1 hb hno
  go_wp2_with (at_builtin; refine wpList_append_lies _ rfl (.tmp 21) (.tmp 23) 22 rfl w.heap.size 9 i0 _ 1 16 Try.underlying22 hi hz0 hz1 hz2 rfl (by decide) _ q.length _ rfl HA.out ⟨w1.heap.size, 0, none⟩ 1 1 _ rfl rfl HN.out (by simp [Value.oneCell']) (by decide) (by unfold maxLen; omega) (by omega) (by simp; omega) (w1.heap.size + 1) (by simp) ?_; intro g1 cap2 w2 h1 h2 h3 h4; have hk0 := h2.block g (by rw [size_alloc]; omega) (fun e => by have := HNO.out g e.symm; omega); rw [blk_old HB1.out] at hk0; have j0 := blk_cell_some hk0 off HC.out; have j1 := blk_frozen hk0 off; have H1 := hid h1; have H2 := hid h2; have HK0 := hid hk0; clear h1 h2 h3 hk0)
  go_wp2
  go_ret
  have HR := ownsRow_set_ne H1.out (a := ⟨g, off, none⟩) (by intro e; injection e with e; have := (H1.out.lt _ (congrArg some e)).1; simp at this; omega) (.slice (some ⟨g1, 0, none⟩) (q.length + 1) cap2)
  refine ⟨rfl, some ⟨g1, 0, none⟩, cap2, blk_set HK0.out off _, Txts.of_own (by simp) (tcells_app q [s] ▸ HR), ?_⟩
  refine Keep.setCell (Keep.grown (Keep.alloc ((Keep.refl (fun k => k = g) w).below HBL.out) _) H2.out ?_) (fun _ => rfl) _
  intro k hk hk2
  have := HNO.out k hk
  omega
end Go.Proofs.Ytpbagbhoenmpcaa
