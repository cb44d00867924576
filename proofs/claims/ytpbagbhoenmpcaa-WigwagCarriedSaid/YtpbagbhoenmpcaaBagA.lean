/- What the bag's functions do, said of cells: faults, Send. -/
import Derived.Test.YtpbagbhoenmpcaaProg
import Derived.Test.YtpbagbhoenmpcaaMem
namespace Go.Proofs.Ytpbagbhoenmpcaa
set_option linter.unusedVariables false
set_option linter.unusedSimpArgs false
open Go.RowKit
structure Pkt where
  id : Int
  frm : Int
  to : Int
  text : ByteArray
def Pkt.cells (p : Pkt) : List Value := [.int .i64 p.id, .int .i64 p.frm, .int .i64 p.to, .string p.text]
def Pkt.val (p : Pkt) : Value := .agg #[.int .i64 p.id, .int .i64 p.frm, .int .i64 p.to, .string p.text]
def Pkt.zero : Pkt := ⟨0, 0, 0, ⟨#[]⟩⟩
def rowOf (l : List Pkt) : List Value := l.flatMap Pkt.cells

theorem rowOf_len (l : List Pkt) : (rowOf l).length = l.length * 4 := by
  induction l with
  | nil => rfl
  | cons a l ih => simp [rowOf, Pkt.cells] at ih ⊢; omega
theorem rowOf_app (l m : List Pkt) : rowOf (l ++ m) = rowOf l ++ rowOf m := by simp [rowOf]
theorem rowOf_one (p : Pkt) : rowOf [p] = p.cells := by simp [rowOf]
theorem rowOf_get (l : List Pkt) (k : Nat) (h : k < l.length) : (rowOf l)[k * 4]? = some (.int .i64 l[k].id) ∧ (rowOf l)[k * 4 + 1]? = some (.int .i64 l[k].frm) ∧ (rowOf l)[k * 4 + 2]? = some (.int .i64 l[k].to) ∧ (rowOf l)[k * 4 + 3]? = some (.string l[k].text) := by
  induction l generalizing k with
  | nil => simp at h
  | cons a l ih =>
    cases k with
    | zero => simp [rowOf, Pkt.cells]
    | succ k =>
      have := ih k (by simpa using h)
      have e : rowOf (a :: l) = a.cells ++ rowOf l := by simp [rowOf]
      have e2 : ∀ j, (rowOf (a :: l))[(k + 1) * 4 + j]? = (rowOf l)[k * 4 + j]? := fun j => by
        rw [e, List.getElem?_append_right (by simp [Pkt.cells]; omega)]
        congr 1
        simp [Pkt.cells]; omega
      have e0 := e2 0
      simp only [Nat.add_zero] at e0
      rw [e0, e2 1, e2 2, e2 3]
      simpa using this

theorem Try.info32 : (Try.prog.info? 32).map (fun i => (i.zero, i.size, i.bytes)) = some (some (.agg #[.int .i64 0, .int .i64 0, .int .i64 0, .string ⟨#[]⟩]), 4, 40) := by kernel_rfl

/-- What a bag is: its two cells; the row of its packets. -/
structure BagAt (w : World) (B g : Nat) (v : Value) (n : Int) (l : List Pkt) : Prop where
  blk : w.heap[g]? = some (.cells #[.int .i64 n, v] 26 (0, 0))
  ge : B ≤ g
  own : w.ownsRow B 32 4 v l.length (rowOf l)
  apart : v.ownBlock ≠ some g

/-- From w to w' a bag's call has turned the bag's block and its row; the new row is the old one or a new block. -/
structure Moves (g : Nat) (v v' : Value) (w w' : World) : Prop where
  keep : Keep (fun k => k = g ∨ v.ownBlock = some k) w w'
  row : ∀ k, v'.ownBlock = some k → v.ownBlock = some k ∨ w.heap.size ≤ k

theorem Moves.refl (g : Nat) (v : Value) (w : World) : Moves g v v w w := ⟨Keep.refl _ _, fun _ h => .inl h⟩
theorem Moves.trans {g : Nat} {u v x : Value} {a b c : World} (h : Moves g u v a b) (k : Moves g v x b c) : Moves g u x a c :=
  ⟨⟨k.keep.os.trans h.keep.os, k.keep.tape.trans h.keep.tape, k.keep.output.trans h.keep.output, Nat.le_trans h.keep.size k.keep.size, fun i hi hs =>
      (k.keep.block i (Nat.lt_of_lt_of_le hi h.keep.size) (by
        rintro (rfl | e)
        · exact hs (.inl rfl)
        · rcases h.row i e with e | e
          · exact hs (.inr e)
          · omega)).trans (h.keep.block i hi hs)⟩,
   fun i e => by
    rcases k.row i e with e | e
    · exact h.row i e
    · exact .inr (Nat.le_trans h.keep.size e)⟩
theorem Moves.below {g : Nat} {v : Value} {w w' : World} (h : Below w.heap.size w w') : Moves g v v w w' := ⟨below_keep h _, fun _ h => .inl h⟩
theorem Moves.toKeep {g : Nat} {v v' : Value} {w w' : World} (h : Moves g v v' w w') {S : Nat → Prop} (hs : ∀ k, k = g ∨ v.ownBlock = some k → S k) : Keep S w w' := h.keep.mono fun k _ hk => hs k hk

theorem BagAt.keep {w w' : World} {B g : Nat} {v : Value} {n : Int} {l : List Pkt} (h : BagAt w B g v n l) {S : Nat → Prop} (hk : Keep S w w') (hg : ¬ S g) (hv : ∀ k, v.ownBlock = some k → ¬ S k) : BagAt w' B g v n l :=
  ⟨hk.blk h.blk hg, h.ge, ownsRow_keep h.own hk hv, h.apart⟩
theorem BagAt.below {w w' : World} {B g : Nat} {v : Value} {n : Int} {l : List Pkt} (h : BagAt w B g v n l) (hk : Below w.heap.size w w') : BagAt w' B g v n l :=
  h.keep (below_keep hk fun _ => False) (fun h => h) (fun _ _ h => h)
theorem BagAt.new (w : World) {B : Nat} (hB : B ≤ w.heap.size) : BagAt (w.alloc (.cells #[.int .i64 0, .slice none 0 0] 26)) B w.heap.size (.slice none 0 0) 0 [] :=
  ⟨blk_new _ _, hB, World.ownsRow_nil _ _ _ _, by simp [Value.ownBlock]⟩

/-- An error that is one of the bag's faults. -/
def IsFault (w : World) (v : Value) (c : Int) : Prop := ∃ k, v = .iface 104 (.pointer (some ⟨k, 0, none⟩)) ∧ w.heap[k]? = some (.cells #[.string ⟨#[98, 97, 103]⟩, .int .i64 0, .iface 36 (.int .i64 c)] 106 (0, 0))
theorem IsFault.below {w w' : World} {v : Value} {c : Int} (h : IsFault w v c) (hb : Below w.heap.size w w') : IsFault w' v c := by
  obtain ⟨k, rfl, hk⟩ := h
  exact ⟨k, rfl, Below.blk hb hk (blk_lt hk)⟩
theorem IsFault.keep {w w' : World} {v : Value} {c : Int} (h : IsFault w v c) {S : Nat → Prop} (hb : Keep S w w') (hs : ∀ k, v = .iface 104 (.pointer (some ⟨k, 0, none⟩)) → ¬ S k) : IsFault w' v c := by
  obtain ⟨k, rfl, hk⟩ := h
  exact ⟨k, rfl, hb.blk hk (hs k rfl)⟩

theorem fault_any (c : Int) (w : World) : Calls Try.prog 32 #[.int .i64 c] w fun e w' => e = .returned (.iface 104 (.pointer (some ⟨w.heap.size, 0, none⟩))) ∧ w' = w.alloc (.cells #[.string ⟨#[98, 97, 103]⟩, .int .i64 0, .iface 36 (.int .i64 c)] 106) := by
  go_enter Try.func32, Try.ntmps32
  go_wp2
  go_ret
  exact ⟨rfl, rfl⟩

def SendOk (B g : Nat) (v : Value) (n fr to : Int) (s : ByteArray) (l : List Pkt) (w : World) (e : Ending) (w' : World) : Prop :=
  e = .returned (.tuple #[.int .i64 (n + 1), .nilIface]) ∧ ∃ v', BagAt w' B g v' (n + 1) (l ++ [⟨n + 1, fr, to, s⟩]) ∧ Moves g v v' w w'

theorem send_end {w w1 : World} {B g g1 cap1 cap : Nat} {A : Option Addr} {n fr to : Int} {s : ByteArray} {l : List Pkt} (hblk : w.heap[g]? = some (.cells #[.int .i64 n, .slice A l.length cap] 26 (0, 0))) (hge : B ≤ g) (hap : (Value.slice A l.length cap).ownBlock ≠ some g)
    (h1 : w1.ownsRow B 32 4 (.slice (some ⟨g1, 0, none⟩) (l.length + 1) cap1) (l.length + 1) (rowOf l ++ [Value.int .i64 (n + 1), .int .i64 fr, .int .i64 to, .string s]))
    (h2 : (((w.setCell ⟨g, 0, none⟩ (.int .i64 (n + 1))).alloc (.cells #[.int .i64 (n + 1), .int .i64 fr, .int .i64 to, .string s] 32)).drew).grownBy w1 (Value.slice A l.length cap).ownBlock)
    (h3 : (Value.slice A l.length cap).ownBlock = some g1 ∨ g1 = w.heap.size + 1) :
    SendOk B g (.slice A l.length cap) n fr to s l w (.returned (.tuple #[.int .i64 (n + 1), .nilIface])) (w1.setCell ⟨g, 1, none⟩ (.slice (some ⟨g1, 0, none⟩) (l.length + 1) cap1)) := by
  have hgl := blk_lt hblk
  have hg1 : g1 ≠ g := by
    rintro rfl
    rcases h3 with h | h
    · exact hap h
    · omega
  have hb1 : w1.heap[g]? = some (.cells #[.int .i64 (n + 1), .slice A l.length cap] 26 (0, 0)) := by
    rw [h2.block g (by simp; omega) (fun e => hap e.symm)]
    have := blk_set hblk 0 (.int .i64 (n + 1))
    exact (Below.heap_alloc _ _ g (by rw [size_set]; exact hgl)).trans (by simpa using this)
  refine ⟨rfl, .slice (some ⟨g1, 0, none⟩) (l.length + 1) cap1, ⟨by simpa using blk_set hb1 1 _, hge, ?_, by simpa [Value.ownBlock] using hg1⟩, ?_, ?_⟩
  · rw [rowOf_app, rowOf_one]
    have := ownsRow_set_ne h1 (a := ⟨g, 1, none⟩) (by simpa [Value.ownBlock] using hg1) (.slice (some ⟨g1, 0, none⟩) (l.length + 1) cap1)
    simpa [Pkt.cells] using this
  · have k0 : Keep (fun k => k = g ∨ (Value.slice A l.length cap).ownBlock = some k) w (((w.setCell ⟨g, 0, none⟩ (.int .i64 (n + 1))).alloc (.cells #[.int .i64 (n + 1), .int .i64 fr, .int .i64 to, .string s] 32)).drew) :=
      (((Keep.refl _ w).setCell (p := ⟨g, 0, none⟩) (fun _ => .inl rfl) _).alloc _).drew
    exact (k0.grown h2 (fun k hk _ => .inr hk)).setCell (p := ⟨g, 1, none⟩) (fun _ => .inl rfl) _
  · intro k hk
    simp [Value.ownBlock] at hk
    subst hk
    rcases h3 with h | h
    · exact .inl h
    · exact .inr (by omega)

set_option maxHeartbeats 800000 in
theorem send_ok (w : World) (B g : Nat) (v : Value) (n fr to : Int) (s : ByteArray) (l : List Pkt) (hb : BagAt w B g v n l) (hs : s.size ≤ 2000) (hl : l.length < 4000) (hn0 : 0 ≤ n) (hn : n < 1000000) (hB : B ≤ w.heap.size) :
    Calls Try.prog 10 #[.pointer (some ⟨g, 0, none⟩), .int .i64 fr, .int .i64 to, .string s] w (SendOk B g v n fr to s l w) := by
  obtain ⟨hblk, hge, hown, hap⟩ := hb
  obtain ⟨A, cap, rfl⟩ := ownsRow_slice hown
  have hc0 : w.cell? ⟨g, 0, none⟩ = some (.int .i64 n) := blk_cell_some hblk 0 rfl
  have hc1 : w.cell? ⟨g, 1, none⟩ = some (.slice A l.length cap) := blk_cell_some hblk 1 rfl
  have hf0 : w.frozen? ⟨g, 0, none⟩ = false := blk_frozen hblk 0
  have hf1 : w.frozen? ⟨g, 1, none⟩ = false := blk_frozen hblk 1
  have HB := hid hblk
  have HO := hid hown
  have HA := hid hap
  have hgl : g < w.heap.size := World.block_lt_of_cell? w _ hc0
  clear hblk hown hap
  have d1 : decide ((2000 : Int) < s.size) = false := by simp; omega
  have d2 : decide ((4000 : Int) ≤ l.length) = false := by simp; omega
  obtain ⟨i0, hi, hz0, hz1, hz2⟩ := info_parts Try.info32
  go_enter Try.func10, Try.ntmps10
  go_wp2
  obtain ⟨W1, hW1⟩ : ∃ W1 : World, W1 = ((w.setCell ⟨g, 0, none⟩ (.int .i64 (n + 1))).alloc (.cells #[.int .i64 (n + 1), .int .i64 fr, .int .i64 to, .string s] 32)).drew := ⟨_, rfl⟩
  have HW := hid (show W1.ownsRow B 32 4 (.slice A l.length cap) l.length (rowOf l) by rw [hW1]; exact ((ownsRow_set_ne HO.out HA.out _).alloc _).drew)
  have hWb : W1.heap[w.heap.size]? = some (.cells #[.int .i64 (n + 1), .int .i64 fr, .int .i64 to, .string s] 32 (0, 0)) := by
    rw [hW1]; exact (congrArg (fun k => ((w.setCell ⟨g, 0, none⟩ (.int .i64 (n + 1))).alloc (.cells #[.int .i64 (n + 1), .int .i64 fr, .int .i64 to, .string s] 32)).heap[k]?) (size_set w ⟨g, 0, none⟩ _).symm).trans (blk_new _ _)
  have HN := hid (news_at hWb)
  have HS := hid (show W1.heap.size = w.heap.size + 1 by rw [hW1]; simp)
  have HG := hid (show W1.heap[g]? = some (.cells #[.int .i64 (n + 1), .slice A l.length cap] 26 (0, 0)) by
    rw [hW1]; exact (Below.heap_alloc _ _ g (by rw [size_set]; exact hgl)).trans (by simpa using blk_set HB.out 0 (.int .i64 (n + 1))))
  clear hWb
  subst hW1
  go_region_law (refine step_append_lies _ rfl (.tmp 32) (.tmp 41) 24 rfl B 32 i0 _ 4 40 Try.underlying24 hi hz0 hz1 hz2 rfl (by decide) (.slice A l.length cap) l.length (rowOf l) (by simp [Act.eval, Act.put]) HW.out ⟨w.heap.size, 0, none⟩ 1 1 _ (by simp [Act.eval, Act.put]) rfl HN.out (by simp [Value.oneCell']) (by decide) (by unfold maxLen; omega) (by omega) (by simp; omega) _ HS.out ?_; intro g1 cap1 w1 h1 h2 h3 h4; have hk0 := h2.block g (by have := HS.out; omega) (fun e => HA.out e.symm); rw [HG.out] at hk0; have j0 := blk_cell_some hk0 0 rfl; have j1 := blk_cell_some hk0 1 rfl; have j2 := blk_frozen hk0 1; have H1 := hid h1; have H2 := hid h2; have H3 := hid h3; clear h1 h2 h3 hk0)
  all_goals
    go_wp2
    go_ret2
    exact send_end HB.out hge HA.out H1.out H2.out H3.out

/-- An error came back, and nothing that was there has turned. -/
def FailsWith (z : Value) (c : Int) (w : World) (e : Ending) (w' : World) : Prop := ∃ x, e = .returned (.tuple #[z, x]) ∧ IsFault w' x c ∧ Below w.heap.size w w'
theorem fails_mk (z : Value) (c : Int) (w : World) : FailsWith z c w (.returned (.tuple #[z, .iface 104 (.pointer (some ⟨w.heap.size, 0, none⟩))])) (w.alloc (.cells #[.string ⟨#[98, 97, 103]⟩, .int .i64 0, .iface 36 (.int .i64 c)] 106)) :=
  ⟨_, rfl, ⟨_, rfl, blk_new _ _⟩, (Below.refl _ _).alloc (Nat.le_refl _) _⟩
theorem send_long (w : World) (a : Value) (fr to : Int) (s : ByteArray) (hs : 2000 < s.size) :
    Calls Try.prog 10 #[a, .int .i64 fr, .int .i64 to, .string s] w (FailsWith (.int .i64 0) 1 w) := by
  have d1 : decide ((2000 : Int) < s.size) = true := by simp; omega
  go_enter Try.func10, Try.ntmps10
  go_wp2_with (go_at_call 32; refine (fault_any _ _).mono ?_; rintro e w' ⟨rfl, rfl⟩)
  go_ret2
  exact fails_mk _ _ _
theorem send_full (w : World) (B g : Nat) (v : Value) (n fr to : Int) (s : ByteArray) (l : List Pkt) (hb : BagAt w B g v n l) (hs : s.size ≤ 2000) (hl : 4000 ≤ l.length) :
    Calls Try.prog 10 #[.pointer (some ⟨g, 0, none⟩), .int .i64 fr, .int .i64 to, .string s] w (FailsWith (.int .i64 0) 4 w) := by
  obtain ⟨hblk, hge, hown, hap⟩ := hb
  obtain ⟨A, cap, rfl⟩ := ownsRow_slice hown
  have hc0 : w.cell? ⟨g, 0, none⟩ = some (.int .i64 n) := blk_cell_some hblk 0 rfl
  have hc1 : w.cell? ⟨g, 1, none⟩ = some (.slice A l.length cap) := blk_cell_some hblk 1 rfl
  clear hblk hown hap
  have d1 : decide ((2000 : Int) < s.size) = false := by simp; omega
  have d2 : decide ((4000 : Int) ≤ l.length) = true := by simp; omega
  go_enter Try.func10, Try.ntmps10
  go_wp2_with (go_at_call 32; refine (fault_any _ _).mono ?_; rintro e w' ⟨rfl, rfl⟩)
  go_ret2
  exact fails_mk _ _ _
end Go.Proofs.Ytpbagbhoenmpcaa
