/- The link package, walked: Push refused, Packets, Idle. -/
import Derived.Test.YtpbagbhoenmpcaaLinkA
import Derived.Deep.RegionHeld3
namespace Go.Proofs.Ytpbagbhoenmpcaa
set_option linter.unusedVariables false
set_option linter.unusedSimpArgs false
open Go.RowKit

def LFault (w : World) (c : Int) (e : Ending) (w' : World) : Prop := ∃ k, e = .returned (.iface 104 (.pointer (some ⟨k, 0, none⟩))) ∧ Below w.heap.size w w'
theorem lfault_any (c : Int) (w : World) : Calls Try.prog 40 #[.int .i64 c] w (LFault w c) := by
  go_enter Try.func40, Try.ntmps40
  go_wp2
  go_ret
  exact ⟨_, rfl, (Below.refl _ _).alloc (Nat.le_refl _) _⟩
theorem push_full (w : World) (g off : Nat) (cs : Array Value) (T : Nat) (A : Option Addr) (cap : Nat) (q : List ByteArray) (acked came : Int) (owes : Bool) (s : ByteArray) (h : LinkAt w g off cs T A cap q acked came owes) (hs : s.size ≤ 1970) (hq : 64 ≤ q.length) :
    Calls Try.prog 21 #[.pointer (some ⟨g, off, none⟩), .string s] w (LFault w 4) := by
  have c0 := blk_cell_some h.blk off h.c0
  have f0 := blk_frozen h.blk off
  have d1 : decide ((1970 : Int) < (s.size : Int)) = false := decide_eq_false (by omega)
  have d2 : decide ((64 : Int) ≤ (q.length : Int)) = true := decide_eq_true (by omega)
  clear h
  go_enter Try.func21, Try.ntmps21
  go_wp2_with (go_at_call 40; refine (lfault_any _ _).mono ?_; rintro e w' ⟨k, rfl, hb⟩)
  go_ret
  exact ⟨k, rfl, hb⟩
theorem idle_any (w : World) (g off : Nat) (cs : Array Value) (T : Nat) (A : Option Addr) (cap : Nat) (q : List ByteArray) (acked came : Int) (owes : Bool) (h : LinkAt w g off cs T A cap q acked came owes) :
    Calls Try.prog 14 #[.pointer (some ⟨g, off, none⟩)] w fun e w' => e = .returned (.bool (q.isEmpty && !owes)) ∧ w' = w := by
  have c0 := blk_cell_some h.blk off h.c0
  have c3 := blk_cell_some h.blk (off + 3) h.c3
  clear h
  cases q with
  | nil =>
    have hz : ([] : List ByteArray).length = 0 := rfl
    go_enter Try.func14, Try.ntmps14
    go_wp2
    go_ret
    exact ⟨by simp, rfl⟩
  | cons a r =>
    have hz : decide (((a :: r).length : Int) = 0) = false := decide_eq_false (by simp; omega)
    go_enter Try.func14, Try.ntmps14
    go_wp2
    go_ret
    exact ⟨by simp, rfl⟩

/-- A packet, as a text. -/
def pkt (n came : Int) (s : ByteArray) : ByteArray := ⟨(pktBytes n came s).toArray⟩
/-- The packets of the first texts of a queue. -/
def outs (came : Int) : Int → List ByteArray → List ByteArray
  | _, [] => []
  | n, s :: r => pkt n came s :: outs came (n + 1) r
theorem outs_len (came : Int) : ∀ (l : List ByteArray) (n : Int), (outs came n l).length = l.length
  | [], _ => rfl
  | _ :: r, n => by simp [outs, outs_len came r]
theorem outs_snoc (came : Int) : ∀ (l : List ByteArray) (n : Int) (k : Nat) (h : k < l.length), outs came n (l.take (k + 1)) = outs came n (l.take k) ++ [pkt (n + k) came l[k]]
  | a :: r, n, 0, _ => by simp [outs]
  | a :: r, n, k + 1, h => by
    have := outs_snoc came r (n + 1) k (by simpa using h)
    simp only [List.take_succ_cons, outs, this, List.cons_append, List.getElem_cons_succ]
    rw [show n + 1 + (k : Int) = n + ((k + 1 : Nat) : Int) by omega]

theorem pkt_any (w : World) (n came : Int) (s : ByteArray) (hn0 : -1 ≤ n) (hn : n < 2 ^ 62) (hc0 : -1 ≤ came) (hc : came < 2 ^ 62) (hs : s.size ≤ 1000000) :
    Calls Try.prog 51 #[.int .i64 n, .int .i64 came, .string s] w fun e w' => e = .returned (.string (pkt n came s)) ∧ Below w.heap.size w w' :=
  packet_any w n came s hn0 hn hc0 hc hs
theorem pkt_drew (w : World) (n came : Int) (s : ByteArray) (hn0 : -1 ≤ n) (hn : n < 2 ^ 62) (hc0 : -1 ≤ came) (hc : came < 2 ^ 62) (hs : s.size ≤ 1000000) :
    Calls Try.prog 51 #[.int .i64 n, .int .i64 came, .string s] w.drew fun e w' => e = .returned (.string (pkt n came s)) ∧ Below w.heap.size w w' :=
  (packet_any w.drew n came s hn0 hn hc0 hc hs).mono fun e w' h => ⟨h.1, (Below.refl _ w).drew.trans h.2⟩

/-- What Packets gives. -/
def packs (acked came : Int) (q : List ByteArray) (owes : Bool) : List ByteArray := if q.isEmpty && owes then [pkt (-1) came ⟨#[]⟩] else outs came acked (q.take 8)

theorem lk_two_min (k k' : IntKind) (x y : Int) : Builtin.min2 (.int k x) (.int k' y) = pure (.int k (if y < x then y else x)) := by simp only [Builtin.min2]
theorem lk_of_two_min (ats : Array TypeId) (ty : TypeId) (a b : Value) : Builtin.min_ ats ty #[a, b] = (Builtin.min2 a b >>= fun s => pure s) := by simp only [Builtin.min_, List.foldlM_cons, List.foldlM_nil]
attribute [local go_sem] lk_two_min lk_of_two_min

theorem ownsRow_later {w w' : World} {base : Nat} {e : TypeId} {size : Nat} {v : Value} {n : Nat} {xs : List Value} (h : w.ownsRow base e size v n xs) (hb : Below w.heap.size w w') : w'.ownsRow base e size v n xs :=
  ownsRow_keep h (below_keep hb fun _ => False) fun _ _ h => h
theorem cell_next {w wx : World} {g o : Nat} {v : Value} (hb : Below w.heap.size w wx) (h : w.cell? ⟨g, o, none⟩ = some v) : wx.cell? ⟨g, o, none⟩ = some v :=
  (hb.cell (World.block_lt_of_cell? w _ h)).trans h
theorem cell_grown {w w3 : World} {row : Option Nat} {g o B : Nat} {v : Value} {ob : Obj} (hg : (w.alloc ob).grownBy w3 row) (hr : ∀ j, row = some j → B ≤ j) (hB : g < B) (h : w.cell? ⟨g, o, none⟩ = some v) : w3.cell? ⟨g, o, none⟩ = some v := by
  have hl := World.block_lt_of_cell? w _ h
  refine Eq.trans (World.cell?_of_block (w := w) (a := ⟨g, o, none⟩) ?_) h
  exact (hg.block g (by rw [size_alloc]; exact Nat.lt_succ_of_lt hl) (fun e => by have := hr g e.symm; omega)).trans (Below.heap_alloc w ob g hl)
def PacketsOk (g off : Nat) (cs : Array Value) (T : Nat) (ps : List ByteArray) (w : World) (e : Ending) (w' : World) : Prop :=
  ∃ A cap, e = .returned (.slice A ps.length cap) ∧ w'.ownsRow w.heap.size 9 1 (.slice A ps.length cap) ps.length (tcells ps) ∧ w'.heap[g]? = some (.cells (cs.setIfInBounds (off + 3) (.bool false)) T (0, 0)) ∧ Keep (fun k => k = g) w w'

set_option maxRecDepth 100000 in
set_option maxHeartbeats 2000000 in
theorem packets_any (w : World) (g off : Nat) (cs : Array Value) (T : Nat) (A : Option Addr) (cap : Nat) (q : List ByteArray) (acked came : Int) (owes : Bool) (h : LinkAt w g off cs T A cap q acked came owes)
    (ha0 : 0 ≤ acked) (ha : acked < 2 ^ 61) (hc0 : -1 ≤ came) (hc : came < 2 ^ 62) (hq : q.length ≤ 1000) (hs : ∀ k (h : k < q.length), q[k].size ≤ 2000) :
    Calls Try.prog 37 #[.pointer (some ⟨g, off, none⟩)] w (PacketsOk g off cs T (packs acked came q owes) w) := by
  obtain ⟨i0, hi, hz0, hz1, hz2⟩ := info_parts Try.info9
  have c0 := blk_cell_some h.blk off h.c0
  have HT := hid h.txts
  have HB := hid h.blk
  have H0 := hid h.c0
  have H1 := hid h.c1
  have H2 := hid h.c2
  have H3 := hid h.c3
  have HS := hid hs
  have hgl := blk_lt h.blk
  have hty := h.ty
  obtain ⟨m, hm, hmq, hm8⟩ : ∃ m : Nat, (if (8 : Int) < (q.length : Int) then 8 else (q.length : Int)) = (m : Int) ∧ m ≤ q.length ∧ q.take m = q.take 8 := by
    by_cases h8 : 8 < q.length
    · exact ⟨8, by rw [if_pos (by omega)]; rfl, by omega, rfl⟩
    · exact ⟨q.length, by rw [if_neg (by omega)], by omega, by rw [List.take_of_length_le (Nat.le_refl _), List.take_of_length_le (by omega)]⟩
  have HM8 := hid hm8
  clear h hs hm8
  go_enter Try.func37, Try.ntmps37
  go_wp2
  go_loopw [3, 4, 11] (fun s3 s4 s11 wr => ∃ (k : Nat) (A1 : Option Addr) (cap1 : Nat), k ≤ m ∧ s11 = .int .i64 k ∧ s3 = .slice A1 k cap1 ∧ wr.ownsRow w.heap.size 9 1 (.slice A1 k cap1) k (tcells (outs came acked (q.take k))) ∧ Below w.heap.size w wr) (fun _ _ s11 _ => m - (intOf s11).toNat)
  case atStart => exact ⟨0, none, 0, by omega, rfl, rfl, World.ownsRow_nil _ _ _ _, Below.refl _ _⟩
  case round =>
    obtain ⟨k, A1, cap1, hk, rfl, rfl, ho, hb⟩ := hrel
    have HO := hid ho
    have HW := hid hb
    have hbs := hb.size
    have HB1 := hid (Below.blk hb HB.out hgl)
    clear ho hb
    by_cases hkm : k < m
    · have d1 : decide ((k : Int) < (m : Int)) = true := decide_eq_true (by omega)
      have hkq : k < q.length := by omega
      have e0 := blk_cell_some HB1.out off H0.out
      have e1 := blk_cell_some HB1.out (off + 1) H1.out
      have e2 := blk_cell_some HB1.out (off + 2) H2.out
      obtain ⟨r, o, rfl, hrl, e4⟩ := HT.out.cell k hkq
      have e3 := cell_next HW.out e4
      clear e4
      have hgl1 : g < wr.heap.size := by omega
      have hwr : IntKind.i64.wrap (acked + (k : Int)) = acked + (k : Int) := by rw [IntKind.wrap_i64]; omega
      have hk0 : (0 : Int) ≤ (k : Int) := by omega
      have hk1 : (k : Int) < (q.length : Int) := by omega
      have HNO := hid (show ∀ j, (Value.slice A1 k cap1).ownBlock = some j → w.heap.size ≤ j from fun j hj => (HO.out.lt j hj).1)
      clear c0
      go_wp2_with fail
      have E0 := hid e0
      have E1 := hid e1
      have E2 := hid e2
      have E3 := hid e3
      have hn0 : -1 ≤ acked + (k : Int) := by omega
      have hY2 : 0 < 1 := by decide
      have hY3 : ∀ b : ByteArray, ∀ u ∈ [Value.string b], u.oneCell' = true := by simp [Value.oneCell']
      have hY4 : k + 1 ≤ maxLen := by unfold maxLen; omega
      have hY5 : (k + 1) * 16 ≤ 140737488355328 := by omega
      have hn1 : acked + (k : Int) < 2 ^ 62 := by omega
      have hn2 : q[k].size ≤ 1000000 := by have := HS.out k hkq; omega
      go_region_held3 (fun w' => w'.cell? ⟨g, off, none⟩ = some (.slice (some ⟨r, o, none⟩) q.length cap) ∧ w'.cell? ⟨g, off + 1, none⟩ = some (.int .i64 acked) ∧ w'.cell? ⟨g, off + 2, none⟩ = some (.int .i64 came) ∧ w'.cell? ⟨r, o + k, none⟩ = some (.string q[k]))
        (first | go_keep | (go_split_ands; first | exact ⟨hx0, hx1, hx2, hx3⟩ | exact ⟨hy0, hy1, hy2, hy3⟩))
        (first
          | (go_at_call 51; refine (pkt_drew wr (acked + (k : Int)) came q[k] hn0 hn1 hc0 hc hn2).mono ?_; intro e w2 hh; obtain ⟨hh1, hbw⟩ := hh; subst hh1; have hx0 := cell_next hbw E0.out; have hx1 := cell_next hbw E1.out; have hx2 := cell_next hbw E2.out; have hx3 := cell_next hbw E3.out; have HBW := hid hbw; have HA := hid ((ownsRow_later HO.out hbw).alloc (.cells #[.string (pkt (acked + (k : Int)) came q[k])] 9)); have HN := hid (news_at (blk_new w2 (.cells #[.string (pkt (acked + (k : Int)) came q[k])] 9))); have hw2 := hbw.size; have hY1 := Nat.le_trans hbs (Nat.le_trans hw2 (Nat.le_succ _)); clear hbw)
          | (refine step_append_lies _ (by rfl) _ _ _ (by rfl) w.heap.size 9 i0 _ 1 16 Try.underlying22 hi hz0 hz1 hz2 rfl hY2 _ k _ (by rfl) HA.out ⟨w2.heap.size, 0, none⟩ 1 1 [.string (pkt (acked + (k : Int)) came q[k])] (by rfl) rfl HN.out (hY3 _) hY2 hY4 hY5 ((size_alloc w2 _).symm ▸ hY1) (w2.heap.size + 1) (size_alloc w2 _) ?_; intro g1 cap2 w3 h1 h2 h3 h4; have H1' := hid h1; have H2' := hid h2; have hy0 := cell_grown h2 HNO.out hgl hx0; have hy1 := cell_grown h2 HNO.out hgl hx1; have hy2 := cell_grown h2 HNO.out hgl hx2; have hy3 := cell_grown h2 HNO.out hrl hx3; clear h1 h2 h3)
          )
      go_wp2
      go_roundw
      case rel =>
        refine ⟨k + 1, some ⟨g1, 0, none⟩, cap2, by omega, by go_num, rfl, ?_, ?_⟩
        · rw [outs_snoc came q acked k hkq, tcells_app]
          exact H1'.out
        · refine Below.grown (Below.alloc (HW.out.trans (HBW.out.mono hbs)) (by omega) _) H2'.out (by simp; omega) fun j hj => ?_
          exact HNO.out j hj
      case measure => simp [intOf]; omega
    · have d1 : decide ((k : Int) < (m : Int)) = false := decide_eq_false (by omega)
      obtain rfl : m = k := by omega
      have hgl1 : g < wr.heap.size := by omega
      have e2 := blk_cell_some HB1.out (off + 2) H2.out
      have e3 := blk_cell_some HB1.out (off + 3) H3.out
      have f3 := blk_frozen HB1.out (off + 3)
      have HNO := hid (show ∀ j, (Value.slice A1 m cap1).ownBlock = some j → w.heap.size ≤ j from fun j hj => (HO.out.lt j hj).1)
      have hown : ∀ (A2 : Option Addr) (n2 cap2 : Nat) (xs : List Value) (w2 : World), w2.ownsRow w.heap.size 9 1 (.slice A2 n2 cap2) n2 xs → ∀ u, (w2.setCell ⟨g, off + 3, none⟩ u).ownsRow w.heap.size 9 1 (.slice A2 n2 cap2) n2 xs := fun A2 n2 cap2 xs w2 h u => ownsRow_setCell_below h hgl u
      have HOWN := hid hown
      clear hown c0
      by_cases hz : m = 0
      · have hq0 : q = [] := by
          have h := congrArg List.length HM8.out
          simp only [List.length_take] at h
          exact List.eq_nil_of_length_eq_zero (by omega)
        have HQ := hid hq0
        subst hz
        clear hq0
        cases owes with
        | true =>
          go_wp2_with fail
          refine (pkt_any wr (-1) came ⟨#[]⟩ (by decide) (by decide) hc0 hc (by decide)).mono ?_
          intro e w2 hh
          obtain ⟨hh1, hbw⟩ := hh
          subst hh1
          have HBW := hid hbw
          have HA := hid ((ownsRow_later HO.out hbw).alloc (.cells #[.string (pkt (-1) came ⟨#[]⟩)] 9))
          have HN := hid (news_at (blk_new w2 (.cells #[.string (pkt (-1) came ⟨#[]⟩)] 9)))
          have hw2 := hbw.size
          have HB2 := hid (Below.blk hbw HB1.out hgl1)
          clear hbw e2 e3 f3
          go_wp2_with (at_builtin; go_loud (refine wpList_append_lies _ rfl (.tmp 45) (.tmp 51) 22 rfl w.heap.size 9 i0 _ 1 16 Try.underlying22 hi hz0 hz1 hz2 rfl (by decide) _ 0 _ rfl HA.out ⟨w2.heap.size, 0, none⟩ 1 1 _ rfl rfl HN.out (by simp [Value.oneCell']) (by decide) (by unfold maxLen; omega) (by omega) (by simp; omega) (w2.heap.size + 1) (by simp) ?_; intro g1 cap2 w3 h1 h2 h3 h4; have hk0 := h2.block g (by rw [size_alloc]; omega) (fun e => by have := HNO.out g e.symm; omega); rw [blk_old HB2.out] at hk0; have j3 := blk_cell_some hk0 (off + 3) H3.out; have j4 := blk_frozen hk0 (off + 3); have HX1 := hid h1; have HX2 := hid h2; have HK0 := hid hk0; clear h1 h2 h3 hk0))
          go_ret
          have e1 : packs acked came q true = [pkt (-1) came ⟨#[]⟩] := by simp [packs, HQ.out]
          have e2 : tcells (outs came acked (List.take 0 q)) = [] := rfl
          have e4 : tcells [pkt (-1) came ⟨#[]⟩] = [Value.string (pkt (-1) came ⟨#[]⟩)] := rfl
          have hx1 := HX1.out
          rw [e2, List.nil_append, ← e4, Nat.zero_add] at hx1
          rw [e1]
          refine ⟨some ⟨g1, 0, none⟩, cap2, rfl, HOWN.out _ _ _ _ _ hx1 _, blk_set HK0.out (off + 3) _, ?_⟩
          refine Keep.setCell (Keep.grown (Keep.alloc ((below_keep HW.out (fun k => k = g)).trans (below_keep HBW.out _)) _) HX2.out ?_) (fun _ => rfl) _
          intro k hk hk2
          have := HNO.out k hk
          omega
        | false =>
          go_wp2
          go_ret
          have e1 : packs acked came q false = outs came acked (List.take 0 q) := by simp [packs, HQ.out]
          rw [e1]
          exact ⟨A1, cap1, rfl, HOWN.out _ _ _ _ _ HO.out _, blk_set HB1.out (off + 3) _, Keep.setCell (below_keep HW.out (fun k => k = g)) (fun _ => rfl) _⟩
      · have d2 : decide ((m : Int) = 0) = false := decide_eq_false (by omega)
        have d3 : ((m : Int) == 0) = false := by rw [beq_eq_false_iff_ne]; omega
        go_wp2
        go_ret
        have hl : m = (outs came acked (List.take m q)).length := by rw [outs_len]; simp; omega
        have e1 : packs acked came q owes = outs came acked (List.take m q) := by
          cases q with
          | nil => simp at hmq; omega
          | cons a r => simp only [packs, List.isEmpty_cons, Bool.false_and]; rw [HM8.out]; rfl
        rw [e1]
        exact ⟨A1, cap1, by rw [← hl]; rfl, by rw [← hl]; exact HOWN.out _ _ _ _ _ HO.out _, blk_set HB1.out (off + 3) _, Keep.setCell (below_keep HW.out (fun k => k = g)) (fun _ => rfl) _⟩
end Go.Proofs.Ytpbagbhoenmpcaa
