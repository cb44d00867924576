/- The link package, walked: Take of a packet that the other side made. -/
import Derived.Test.YtpbagbhoenmpcaaLinkB
import Derived.Deep.DeepCutAuto
namespace Go.Proofs.Ytpbagbhoenmpcaa
set_option linter.unusedVariables false
set_option linter.unusedSimpArgs false
open Go.RowKit

/-- Nothing but a link's four cells has turned in its block. -/
def Outside (off : Nat) (cs cs' : Array Value) : Prop := cs'.size = cs.size ∧ ∀ j, (j < off ∨ off + 4 ≤ j) → cs'[j]? = cs[j]?
theorem Outside.refl (off : Nat) (cs : Array Value) : Outside off cs cs := ⟨rfl, fun _ _ => rfl⟩
theorem Outside.trans {off : Nat} {a b c : Array Value} (h : Outside off a b) (k : Outside off b c) : Outside off a c := ⟨k.1.trans h.1, fun j hj => (k.2 j hj).trans (h.2 j hj)⟩
theorem Outside.set (off : Nat) (cs : Array Value) (i : Nat) (hi : i < 4) (v : Value) : Outside off cs (cs.setIfInBounds (off + i) v) :=
  ⟨by simp, fun j hj => by rw [Array.getElem?_setIfInBounds, if_neg (by omega)]⟩

/-- A link has come to hold this. -/
def LinkTo (g off : Nat) (cs : Array Value) (T : Nat) (q : List ByteArray) (acked came : Int) (owes : Bool) (w w' : World) : Prop :=
  ∃ cs' A cap, LinkAt w' g off cs' T A cap q acked came owes ∧ Outside off cs cs' ∧ Keep (fun k => k = g) w w'

theorem set_self {cs : Array Value} {i : Nat} {v u : Value} (h : cs[i]? = some v) : (cs.setIfInBounds i u)[i]? = some u := by
  rw [Array.getElem?_setIfInBounds, if_pos rfl, if_pos (Array.getElem?_eq_some_iff.1 h).1]
theorem set_other {cs : Array Value} {i j : Nat} {u : Value} (h : i ≠ j) : (cs.setIfInBounds i u)[j]? = cs[j]? := by
  rw [Array.getElem?_setIfInBounds, if_neg h]

theorem LinkAt.here {w : World} {g off : Nat} {cs : Array Value} {T : Nat} {A : Option Addr} {cap : Nat} {q : List ByteArray} {acked came : Int} {owes : Bool} (h : LinkAt w g off cs T A cap q acked came owes) : LinkTo g off cs T q acked came owes w w :=
  ⟨cs, A, cap, h, Outside.refl _ _, Keep.refl _ _⟩
theorem LinkTo.trans {g off : Nat} {cs cs' : Array Value} {T : Nat} {q : List ByteArray} {acked came : Int} {owes : Bool} {w w1 w2 : World} (hk : Keep (fun k => k = g) w w1) (ho : Outside off cs cs') (h : LinkTo g off cs' T q acked came owes w1 w2) : LinkTo g off cs T q acked came owes w w2 := by
  obtain ⟨c2, A, cap, h1, h2, h3⟩ := h
  exact ⟨c2, A, cap, h1, ho.trans h2, hk.trans h3⟩
theorem LinkAt.later {w w' : World} {g off : Nat} {cs : Array Value} {T : Nat} {A : Option Addr} {cap : Nat} {q : List ByteArray} {acked came : Int} {owes : Bool} (h : LinkAt w g off cs T A cap q acked came owes) (hb : Below w.heap.size w w') : LinkAt w' g off cs T A cap q acked came owes :=
  ⟨Below.blk hb h.blk (blk_lt h.blk), h.ty, h.c0, h.c1, h.c2, h.c3, h.txts.below hb⟩
theorem LinkAt.setAcked {w : World} {g off : Nat} {cs : Array Value} {T : Nat} {A : Option Addr} {cap : Nat} {q : List ByteArray} {acked came : Int} {owes : Bool} (h : LinkAt w g off cs T A cap q acked came owes) (n : Int) :
    LinkAt (w.setCell ⟨g, off + 1, none⟩ (.int .i64 n)) g off (cs.setIfInBounds (off + 1) (.int .i64 n)) T A cap q n came owes :=
  ⟨blk_set h.blk _ _, h.ty, (set_other (by omega)).trans h.c0, set_self h.c1, (set_other (by omega)).trans h.c2, (set_other (by omega)).trans h.c3, h.txts.stay ((Keep.refl (fun k => k = g) w).setCell (p := ⟨g, off + 1, none⟩) (fun _ => rfl) _) h.blk h.ty⟩
theorem LinkAt.setCame {w : World} {g off : Nat} {cs : Array Value} {T : Nat} {A : Option Addr} {cap : Nat} {q : List ByteArray} {acked came : Int} {owes : Bool} (h : LinkAt w g off cs T A cap q acked came owes) (n : Int) :
    LinkAt (w.setCell ⟨g, off + 2, none⟩ (.int .i64 n)) g off (cs.setIfInBounds (off + 2) (.int .i64 n)) T A cap q acked n owes :=
  ⟨blk_set h.blk _ _, h.ty, (set_other (by omega)).trans h.c0, (set_other (by omega)).trans h.c1, set_self h.c2, (set_other (by omega)).trans h.c3, h.txts.stay ((Keep.refl (fun k => k = g) w).setCell (p := ⟨g, off + 2, none⟩) (fun _ => rfl) _) h.blk h.ty⟩
theorem LinkAt.setOwes {w : World} {g off : Nat} {cs : Array Value} {T : Nat} {A : Option Addr} {cap : Nat} {q : List ByteArray} {acked came : Int} {owes : Bool} (h : LinkAt w g off cs T A cap q acked came owes) (b : Bool) :
    LinkAt (w.setCell ⟨g, off + 3, none⟩ (.bool b)) g off (cs.setIfInBounds (off + 3) (.bool b)) T A cap q acked came b :=
  ⟨blk_set h.blk _ _, h.ty, (set_other (by omega)).trans h.c0, (set_other (by omega)).trans h.c1, (set_other (by omega)).trans h.c2, set_self h.c3, h.txts.stay ((Keep.refl (fun k => k = g) w).setCell (p := ⟨g, off + 3, none⟩) (fun _ => rfl) _) h.blk h.ty⟩
theorem LinkAt.setQueue {w : World} {g off : Nat} {cs : Array Value} {T : Nat} {A A' : Option Addr} {cap cap' n : Nat} {q q' : List ByteArray} {acked came : Int} {owes : Bool} (h : LinkAt w g off cs T A cap q acked came owes) (ht : Txts w A' cap' q') (hn : n = q'.length) :
    LinkAt (w.setCell ⟨g, off, none⟩ (.slice A' n cap')) g off (cs.setIfInBounds off (.slice A' n cap')) T A' cap' q' acked came owes := by
  subst hn
  exact ⟨blk_set h.blk _ _, h.ty, set_self h.c0, (set_other (by omega)).trans h.c1, (set_other (by omega)).trans h.c2, (set_other (by omega)).trans h.c3, ht.stay ((Keep.refl (fun k => k = g) w).setCell (p := ⟨g, off, none⟩) (fun _ => rfl) _) h.blk h.ty⟩

/-- Push, and Packets, said so. -/
theorem push_to {w : World} {g off : Nat} {cs : Array Value} {T : Nat} {A : Option Addr} {cap : Nat} {q : List ByteArray} {acked came : Int} {owes : Bool} {s : ByteArray} (h : LinkAt w g off cs T A cap q acked came owes) (hs : s.size ≤ 1970) (hq : q.length < 64) :
    Calls Try.prog 21 #[.pointer (some ⟨g, off, none⟩), .string s] w fun e w' => e = .returned .nilIface ∧ LinkTo g off cs T (q ++ [s]) acked came owes w w' := by
  refine (push_ok w g off cs T A cap q acked came owes s h hs hq).mono ?_
  rintro e w' ⟨rfl, A1, cap1, hb, ht, hk⟩
  refine ⟨rfl, _, A1, cap1, ⟨hb, h.ty, ?_, (set_other (by omega)).trans h.c1, (set_other (by omega)).trans h.c2, (set_other (by omega)).trans h.c3, ht⟩, Outside.set off cs 0 (by decide) _, hk⟩
  rw [set_self h.c0]
  simp
theorem packets_to {w : World} {g off : Nat} {cs : Array Value} {T : Nat} {A : Option Addr} {cap : Nat} {q : List ByteArray} {acked came : Int} {owes : Bool} (h : LinkAt w g off cs T A cap q acked came owes)
    (ha0 : 0 ≤ acked) (ha : acked < 2 ^ 61) (hc0 : -1 ≤ came) (hc : came < 2 ^ 62) (hq : q.length ≤ 1000) (hs : ∀ k (h : k < q.length), q[k].size ≤ 2000) :
    Calls Try.prog 37 #[.pointer (some ⟨g, off, none⟩)] w fun e w' => (∃ A1 cap1, e = .returned (.slice A1 (packs acked came q owes).length cap1) ∧ Txts w' A1 cap1 (packs acked came q owes)) ∧ LinkTo g off cs T q acked came false w w' := by
  refine (packets_any w g off cs T A cap q acked came owes h ha0 ha hc0 hc hq hs).mono ?_
  rintro e w' ⟨A1, cap1, rfl, ho, hb, hk⟩
  exact ⟨⟨A1, cap1, rfl, Txts.of_own rfl ho⟩, _, A, cap, ⟨hb, h.ty, (set_other (by omega)).trans h.c0, (set_other (by omega)).trans h.c1, (set_other (by omega)).trans h.c2, set_self h.c3, h.txts.stay hk h.blk h.ty⟩, Outside.set off cs 3 (by decide) _, hk⟩

theorem Txts.nought (w : World) (A : Option Addr) : Txts w A 0 [] := ⟨Nat.le_refl _, by decide, fun _ => rfl, fun h => absurd h (Nat.lt_irrefl _)⟩
/-- A slice of texts from a place on. -/
theorem Txts.drop {w : World} {r o cap : Nat} {l : List ByteArray} (h : Txts w (some ⟨r, o, none⟩) cap l) (d : Nat) (hd : d ≤ l.length) : Txts w (some ⟨r, o + d, none⟩) (cap - d) (l.drop d) := by
  refine ⟨?_, ?_, fun e => (by cases e), fun hl => ?_⟩
  · simp only [List.length_drop]; have := h.le; omega
  · have := h.max; omega
  · simp only [List.length_drop] at hl
    obtain ⟨r', o', cs, h1, h2, h3⟩ := h.row (by omega)
    injection h1 with h1
    injection h1 with h1 h4 _
    subst h1 h4
    refine ⟨r, o + d, cs, rfl, h2, fun k hk => ?_⟩
    simp only [List.length_drop] at hk
    rw [show o + d + k = o + (d + k) by omega, h3 (d + k) (by omega)]
    simp

theorem clonet_n (w : World) (A : Option Addr) (cap n : Nat) (l : List ByteArray) (hn : n = l.length) (h : Txts w A cap l) (hl : l.length ≤ 100000) : Calls Try.prog 41 #[.slice A n cap] w (FreshT l w) := by
  subst hn
  exact clonet_any w A cap l h hl
def TookOk (g off : Nat) (cs : Array Value) (T : Nat) (q : List ByteArray) (acked came : Int) (owes : Bool) (n c : Int) (t : ByteArray) (w : World) (e : Ending) (w' : World) : Prop :=
  e = .returned (.tuple #[.string (if n < 0 then ⟨#[]⟩ else if n ≠ came then ⟨#[]⟩ else t), .bool (decide (0 ≤ n) && decide (n = came)), .nilIface]) ∧
  LinkTo g off cs T (if 0 < c - acked then q.drop (c - acked).toNat else q) (if 0 < c - acked then c else acked) (if 0 ≤ n ∧ n = came then came + 1 else came) (if n < 0 then owes else true) w w'

theorem pkt_bytes (n c : Int) (t : ByteArray) : (pkt n c t).data.toList = encNum (zig n) ++ (encNum (zig c) ++ (encNum t.size ++ (t.data.toList ++ []))) := by
  simp [pkt, pktBytes]
theorem pkt_size (n c : Int) (t : ByteArray) : (pkt n c t).size = (encNum (zig n)).length + (encNum (zig c)).length + (encNum t.size).length + t.size := by
  have h := congrArg List.length (pkt_bytes n c t)
  simp only [List.length_append, Array.length_toList, List.length_nil] at h
  have h1 : (pkt n c t).data.size = (pkt n c t).size := rfl
  have h2 : t.data.size = t.size := rfl
  omega

set_option maxRecDepth 100000 in
set_option maxHeartbeats 4000000 in
theorem take_any (w : World) (g off : Nat) (cs : Array Value) (T : Nat) (A : Option Addr) (cap : Nat) (q : List ByteArray) (acked came : Int) (owes : Bool) (n c : Int) (t : ByteArray) (h : LinkAt w g off cs T A cap q acked came owes)
    (ha0 : 0 ≤ acked) (hm0 : 0 ≤ came) (hm : came < 2 ^ 61) (hn0 : -1 ≤ n) (hn : n < 2 ^ 61) (hc0 : 0 ≤ c) (hc : c < 2 ^ 61) (ha : acked < 2 ^ 61) (hcq : c - acked ≤ (q.length : Int)) (hq : q.length ≤ 1000) (ht : t.size ≤ 1970) (hnt : n < 0 → t = ⟨#[]⟩) :
    Calls Try.prog 39 #[.pointer (some ⟨g, off, none⟩), .string (pkt n c t)] w (TookOk g off cs T q acked came owes n c t w) := by
  have hz1 := encNum_len64 (show zig n < 2 ^ 64 by unfold zig; split <;> omega)
  have hz2 := encNum_len64 (show zig c < 2 ^ 64 by unfold zig; split <;> omega)
  have hz3 := encNum_len64 (show t.size < 2 ^ 64 by omega)
  have hps := pkt_size n c t
  have hpb := pkt_bytes n c t
  have HP := hid hpb
  have HZ := hid hps
  have hsz : (pkt n c t).size ≤ 1000000000 := by omega
  have H0 := hid h
  have hgl := blk_lt h.blk
  have HNT := hid hnt
  generalize pkt n c t = p at *
  clear h hpb hps hnt
  go_enter Try.func39, Try.ntmps39
  go_wp2_with fail
  refine (open_any w p).mono ?_
  rintro e w1 ⟨rfl, rfl⟩
  go_wp2_with fail
  refine (rint_any _ w.heap.size p 0 n _ (blk_new w _) hn0 (by omega) hsz HP.out).mono ?_
  rintro e w2 ⟨rfl, hr2, hk2⟩
  have HR2 := hid hr2
  have HK2 := hid hk2
  clear hr2 hk2
  go_wp2_with fail
  refine (rint_any w2 w.heap.size p _ c _ HR2.out (by omega) (by omega) hsz (by rw [Nat.zero_add, HP.out, List.drop_left])).mono ?_
  rintro e w3 ⟨rfl, hr3, hk3⟩
  have HR3 := hid hr3
  have HK3 := hid hk3
  clear hr3 hk3
  go_wp2_with fail
  refine (rtext_any w3 w.heap.size p t _ [] HR3.out (by omega) hsz (by rw [← List.drop_drop, Nat.zero_add, HP.out, List.drop_left, List.drop_left])).mono ?_
  rintro e w4 ⟨rfl, hr4, hk4⟩
  have HR4 := hid hr4
  have HK4 := hid hk4
  clear hr4 hk4
  go_wp2_with fail
  refine (rdone_any w4 w.heap.size p _ HR4.out (by have := HZ.out; omega)).mono ?_
  rintro e w5 ⟨rfl, nd, rfl⟩
  have HB5 := hid (show Below w.heap.size w (w4.drewN nd) from ((((Keep.refl (fun k => k = w.heap.size) w).alloc _).trans (HK2.out.trans (HK3.out.trans HK4.out))).drewN nd).toBelow (Nat.le_refl _) (fun k h => Nat.le_of_eq h.symm))
  generalize w4.drewN nd = w5 at *
  have HL := hid (H0.out.later HB5.out)
  clear HR2 HR3 HR4 HK2 HK3 HK4
  have hgl5 := blk_lt HL.out.blk
  have c0 := blk_cell_some HL.out.blk off HL.out.c0
  have c1 := blk_cell_some HL.out.blk (off + 1) HL.out.c1
  have f0 := blk_frozen HL.out.blk off
  have f1 := blk_frozen HL.out.blk (off + 1)
  have t1 : decide (n < -1) = false := decide_eq_false (by omega)
  have t2 : decide (c < 0) = false := decide_eq_false (by omega)
  -- ways: whether the packet brings a text; whether its word drops texts; whether it is the next
  have c2 := blk_cell_some HL.out.blk (off + 2) HL.out.c2
  have c3 := blk_cell_some HL.out.blk (off + 3) HL.out.c3
  have f2 := blk_frozen HL.out.blk (off + 2)
  have f3 := blk_frozen HL.out.blk (off + 3)
  rcases (show n < 0 ∨ 0 ≤ n by omega) with hlt | hge
  · have t3 : decide (n < 0) = true := decide_eq_true hlt
    have htt := HNT.out hlt
    subst htt
    by_cases hd : 0 < c - acked
    · obtain ⟨d, hcd⟩ := Int.eq_ofNat_of_zero_le (show 0 ≤ c - acked by omega)
      have hdq : d ≤ q.length := by omega
      have hd0 : 0 < d := by omega
      obtain ⟨r, o, rfl⟩ : ∃ r o, A = some ⟨r, o, none⟩ := by
        obtain ⟨r, o, cs', h1, _⟩ := HL.out.txts.row (by omega)
        exact ⟨r, o, h1⟩
      have HT := hid (HL.out.txts.drop d hdq)
      have HC := hid hcd
      have hcap := HL.out.txts.le
      have d5 : decide (0 < c - acked) = true := decide_eq_true hd
      have d6 : decide (c - acked ≤ (q.length : Int)) = true := decide_eq_true (by omega)
      have HD := hid hd
      clear hd
      go_upto_if 60 with (fail)
      go_cut [] (fun wx => LinkTo g off cs T (q.drop d) c came owes w wx)
      case first =>
        have hdl : (q.drop d).length = q.length - d := by simp
        have HDL := hid hdl
        clear hdl
        have HL2 := hid HL.out
        by_cases hcz : cap = d
        · have hql : q.length = d := by omega
          have hz : q.length - d = 0 := by omega
          have hz2 : cap - d = 0 := by omega
          have HE := hid (show q.drop d = [] from List.eq_nil_of_length_eq_zero (by simp; omega))
          go_wp2_with fail
          refine (clonet_n w5 (some ⟨r, o, none⟩) 0 0 [] rfl (Txts.nought _ _) (by simp)).mono ?_
          rintro e w6 ⟨A1, cap1, rfl, ho, hb⟩
          have hgl6 : g < w6.heap.size := by have := hb.size; omega
          have HLA := hid (HL2.out.later hb)
          have HTX := hid (Txts.of_own rfl ho)
          have HB6 := hid (HB5.out.trans (hb.mono HB5.out.size))
          clear c0 c1 c2 c3 f0 f1 f2 f3 ho hb
          have c0 := blk_cell_some HLA.out.blk off HLA.out.c0
          have c1 := blk_cell_some HLA.out.blk (off + 1) HLA.out.c1
          have f0 := blk_frozen HLA.out.blk off
          have f1 := blk_frozen HLA.out.blk (off + 1)
          go_wp2_with fail
          go_meet
          case rel =>
            rw [HE.out]
            exact ⟨_, A1, cap1, (HLA.out.setQueue HTX.out (by simp)).setAcked c, (Outside.set off cs 0 (by decide) _).trans (Outside.set off _ 1 (by decide) _), ((below_keep HB6.out (fun k => k = g)).setCell (p := ⟨g, off, none⟩) (fun _ => rfl) _).setCell (p := ⟨g, off + 1, none⟩) (fun _ => rfl) _⟩
        · have hcl : d < cap := by omega
          go_wp2_with fail
          refine (clonet_n w5 (some ⟨r, o + d, none⟩) (cap - d) _ (q.drop d) HDL.out.symm HT.out (by rw [HDL.out]; omega)).mono ?_
          rintro e w6 ⟨A1, cap1, rfl, ho, hb⟩
          have hgl6 : g < w6.heap.size := by have := hb.size; omega
          have HLA := hid (HL2.out.later hb)
          have HTX := hid (Txts.of_own rfl ho)
          have HB6 := hid (HB5.out.trans (hb.mono HB5.out.size))
          clear c0 c1 c2 c3 f0 f1 f2 f3 ho hb
          have c0 := blk_cell_some HLA.out.blk off HLA.out.c0
          have c1 := blk_cell_some HLA.out.blk (off + 1) HLA.out.c1
          have f0 := blk_frozen HLA.out.blk off
          have f1 := blk_frozen HLA.out.blk (off + 1)
          go_wp2_with fail
          go_meet
          case rel => exact ⟨_, A1, cap1, (HLA.out.setQueue HTX.out (by simp)).setAcked c, (Outside.set off cs 0 (by decide) _).trans (Outside.set off _ 1 (by decide) _), ((below_keep HB6.out (fun k => k = g)).setCell (p := ⟨g, off, none⟩) (fun _ => rfl) _).setCell (p := ⟨g, off + 1, none⟩) (fun _ => rfl) _⟩
      case rest =>
        obtain ⟨cs2, A2, cap2, hl2, ho2, hk2⟩ := hcut
        have HA2 := hid hl2
        have HO2 := hid ho2
        have HK2 := hid hk2
        have e2 := blk_cell_some hl2.blk (off + 2) hl2.c2
        have e3 := blk_cell_some hl2.blk (off + 3) hl2.c3
        have g2 := blk_frozen hl2.blk (off + 2)
        have g3 := blk_frozen hl2.blk (off + 3)
        have hgl2 := blk_lt hl2.blk
        clear hl2 ho2 hk2 c0 c1 c2 c3 f0 f1 f2 f3
        go_wp2_with fail
        go_ret3
        refine ⟨?_, ?_⟩
        · simp [hlt]; omega
        · rw [if_neg (show ¬ (0 ≤ n ∧ n = came) by omega), if_pos hlt]
          rw [if_pos HD.out, if_pos HD.out, HC.out, Int.toNat_natCast]
          exact ⟨cs2, A2, cap2, HA2.out, HO2.out, HK2.out⟩
    · have d5 : decide (0 < c - acked) = false := decide_eq_false hd
      have HD := hid hd
      have hcut : LinkTo g off cs T q acked came owes w w5 := ⟨cs, A, cap, HL.out, Outside.refl _ _, below_keep HB5.out _⟩
      go_upto_if 60 with (fail)
      obtain ⟨cs2, A2, cap2, hl2, ho2, hk2⟩ := hcut
      have HA2 := hid hl2
      have HO2 := hid ho2
      have HK2 := hid hk2
      have e2 := blk_cell_some hl2.blk (off + 2) hl2.c2
      have e3 := blk_cell_some hl2.blk (off + 3) hl2.c3
      have g2 := blk_frozen hl2.blk (off + 2)
      have g3 := blk_frozen hl2.blk (off + 3)
      have hgl2 := blk_lt hl2.blk
      clear hl2 ho2 hk2 c0 c1 c2 c3 f0 f1 f2 f3
      go_wp2_with fail
      go_ret3
      refine ⟨?_, ?_⟩
      · simp [hlt]; omega
      · rw [if_neg (show ¬ (0 ≤ n ∧ n = came) by omega), if_pos hlt]
        rw [if_neg (Int.not_lt.2 HD.out), if_neg (Int.not_lt.2 HD.out)]
        exact ⟨cs2, A2, cap2, HA2.out, HO2.out, HK2.out⟩
  · have t3 : decide (n < 0) = false := decide_eq_false (by omega)
    by_cases hd : 0 < c - acked
    · obtain ⟨d, hcd⟩ := Int.eq_ofNat_of_zero_le (show 0 ≤ c - acked by omega)
      have hdq : d ≤ q.length := by omega
      have hd0 : 0 < d := by omega
      obtain ⟨r, o, rfl⟩ : ∃ r o, A = some ⟨r, o, none⟩ := by
        obtain ⟨r, o, cs', h1, _⟩ := HL.out.txts.row (by omega)
        exact ⟨r, o, h1⟩
      have HT := hid (HL.out.txts.drop d hdq)
      have HC := hid hcd
      have hcap := HL.out.txts.le
      have d5 : decide (0 < c - acked) = true := decide_eq_true hd
      have d6 : decide (c - acked ≤ (q.length : Int)) = true := decide_eq_true (by omega)
      have HD := hid hd
      clear hd
      go_upto_if 60 with (fail)
      go_cut [] (fun wx => LinkTo g off cs T (q.drop d) c came owes w wx)
      case first =>
        have hdl : (q.drop d).length = q.length - d := by simp
        have HDL := hid hdl
        clear hdl
        have HL2 := hid HL.out
        by_cases hcz : cap = d
        · have hql : q.length = d := by omega
          have hz : q.length - d = 0 := by omega
          have hz2 : cap - d = 0 := by omega
          have HE := hid (show q.drop d = [] from List.eq_nil_of_length_eq_zero (by simp; omega))
          go_wp2_with fail
          refine (clonet_n w5 (some ⟨r, o, none⟩) 0 0 [] rfl (Txts.nought _ _) (by simp)).mono ?_
          rintro e w6 ⟨A1, cap1, rfl, ho, hb⟩
          have hgl6 : g < w6.heap.size := by have := hb.size; omega
          have HLA := hid (HL2.out.later hb)
          have HTX := hid (Txts.of_own rfl ho)
          have HB6 := hid (HB5.out.trans (hb.mono HB5.out.size))
          clear c0 c1 c2 c3 f0 f1 f2 f3 ho hb
          have c0 := blk_cell_some HLA.out.blk off HLA.out.c0
          have c1 := blk_cell_some HLA.out.blk (off + 1) HLA.out.c1
          have f0 := blk_frozen HLA.out.blk off
          have f1 := blk_frozen HLA.out.blk (off + 1)
          go_wp2_with fail
          go_meet
          case rel =>
            rw [HE.out]
            exact ⟨_, A1, cap1, (HLA.out.setQueue HTX.out (by simp)).setAcked c, (Outside.set off cs 0 (by decide) _).trans (Outside.set off _ 1 (by decide) _), ((below_keep HB6.out (fun k => k = g)).setCell (p := ⟨g, off, none⟩) (fun _ => rfl) _).setCell (p := ⟨g, off + 1, none⟩) (fun _ => rfl) _⟩
        · have hcl : d < cap := by omega
          go_wp2_with fail
          refine (clonet_n w5 (some ⟨r, o + d, none⟩) (cap - d) _ (q.drop d) HDL.out.symm HT.out (by rw [HDL.out]; omega)).mono ?_
          rintro e w6 ⟨A1, cap1, rfl, ho, hb⟩
          have hgl6 : g < w6.heap.size := by have := hb.size; omega
          have HLA := hid (HL2.out.later hb)
          have HTX := hid (Txts.of_own rfl ho)
          have HB6 := hid (HB5.out.trans (hb.mono HB5.out.size))
          clear c0 c1 c2 c3 f0 f1 f2 f3 ho hb
          have c0 := blk_cell_some HLA.out.blk off HLA.out.c0
          have c1 := blk_cell_some HLA.out.blk (off + 1) HLA.out.c1
          have f0 := blk_frozen HLA.out.blk off
          have f1 := blk_frozen HLA.out.blk (off + 1)
          go_wp2_with fail
          go_meet
          case rel => exact ⟨_, A1, cap1, (HLA.out.setQueue HTX.out (by simp)).setAcked c, (Outside.set off cs 0 (by decide) _).trans (Outside.set off _ 1 (by decide) _), ((below_keep HB6.out (fun k => k = g)).setCell (p := ⟨g, off, none⟩) (fun _ => rfl) _).setCell (p := ⟨g, off + 1, none⟩) (fun _ => rfl) _⟩
      case rest =>
        obtain ⟨cs2, A2, cap2, hl2, ho2, hk2⟩ := hcut
        have HA2 := hid hl2
        have HO2 := hid ho2
        have HK2 := hid hk2
        have e2 := blk_cell_some hl2.blk (off + 2) hl2.c2
        have e3 := blk_cell_some hl2.blk (off + 3) hl2.c3
        have g2 := blk_frozen hl2.blk (off + 2)
        have g3 := blk_frozen hl2.blk (off + 3)
        have hgl2 := blk_lt hl2.blk
        clear hl2 ho2 hk2 c0 c1 c2 c3 f0 f1 f2 f3
        by_cases hnc : n = came
        · subst hnc
          go_wp2_with fail
          go_ret3
          refine ⟨?_, ?_⟩
          · rw [if_neg (show ¬ n < 0 by omega), if_neg (show ¬ n ≠ n by simp)]; simp [hge]
          · rw [if_pos (show (0 ≤ n ∧ n = n) from ⟨hge, rfl⟩), if_neg (show ¬ n < 0 by omega)]
            rw [if_pos HD.out, if_pos HD.out, HC.out, Int.toNat_natCast]
            exact ⟨_, A2, cap2, (HA2.out.setOwes true).setCame (n + 1), HO2.out.trans ((Outside.set off cs2 3 (by decide) _).trans (Outside.set off _ 2 (by decide) _)), (HK2.out.setCell (p := ⟨g, off + 3, none⟩) (fun _ => rfl) _).setCell (p := ⟨g, off + 2, none⟩) (fun _ => rfl) _⟩
        · have d7 : (n == came) = false := beq_eq_false_iff_ne.2 hnc
          go_wp2_with fail
          go_ret3
          refine ⟨?_, ?_⟩
          · rw [if_neg (show ¬ n < 0 by omega), if_pos hnc]; simp [hnc]
          · rw [if_neg (show ¬ (0 ≤ n ∧ n = came) from fun h => hnc h.2), if_neg (show ¬ n < 0 by omega)]
            rw [if_pos HD.out, if_pos HD.out, HC.out, Int.toNat_natCast]
            exact ⟨_, A2, cap2, HA2.out.setOwes true, HO2.out.trans (Outside.set off cs2 3 (by decide) _), HK2.out.setCell (p := ⟨g, off + 3, none⟩) (fun _ => rfl) _⟩
    · have d5 : decide (0 < c - acked) = false := decide_eq_false hd
      have HD := hid hd
      have hcut : LinkTo g off cs T q acked came owes w w5 := ⟨cs, A, cap, HL.out, Outside.refl _ _, below_keep HB5.out _⟩
      go_upto_if 60 with (fail)
      obtain ⟨cs2, A2, cap2, hl2, ho2, hk2⟩ := hcut
      have HA2 := hid hl2
      have HO2 := hid ho2
      have HK2 := hid hk2
      have e2 := blk_cell_some hl2.blk (off + 2) hl2.c2
      have e3 := blk_cell_some hl2.blk (off + 3) hl2.c3
      have g2 := blk_frozen hl2.blk (off + 2)
      have g3 := blk_frozen hl2.blk (off + 3)
      have hgl2 := blk_lt hl2.blk
      clear hl2 ho2 hk2 c0 c1 c2 c3 f0 f1 f2 f3
      by_cases hnc : n = came
      · subst hnc
        go_wp2_with fail
        go_ret3
        refine ⟨?_, ?_⟩
        · rw [if_neg (show ¬ n < 0 by omega), if_neg (show ¬ n ≠ n by simp)]; simp [hge]
        · rw [if_pos (show (0 ≤ n ∧ n = n) from ⟨hge, rfl⟩), if_neg (show ¬ n < 0 by omega)]
          rw [if_neg (Int.not_lt.2 HD.out), if_neg (Int.not_lt.2 HD.out)]
          exact ⟨_, A2, cap2, (HA2.out.setOwes true).setCame (n + 1), HO2.out.trans ((Outside.set off cs2 3 (by decide) _).trans (Outside.set off _ 2 (by decide) _)), (HK2.out.setCell (p := ⟨g, off + 3, none⟩) (fun _ => rfl) _).setCell (p := ⟨g, off + 2, none⟩) (fun _ => rfl) _⟩
      · have d7 : (n == came) = false := beq_eq_false_iff_ne.2 hnc
        go_wp2_with fail
        go_ret3
        refine ⟨?_, ?_⟩
        · rw [if_neg (show ¬ n < 0 by omega), if_pos hnc]; simp [hnc]
        · rw [if_neg (show ¬ (0 ≤ n ∧ n = came) from fun h => hnc h.2), if_neg (show ¬ n < 0 by omega)]
          rw [if_neg (Int.not_lt.2 HD.out), if_neg (Int.not_lt.2 HD.out)]
          exact ⟨_, A2, cap2, HA2.out.setOwes true, HO2.out.trans (Outside.set off cs2 3 (by decide) _), HK2.out.setCell (p := ⟨g, off + 3, none⟩) (fun _ => rfl) _⟩
end Go.Proofs.Ytpbagbhoenmpcaa
