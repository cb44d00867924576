/- The law BagOrder, walked: it returns true. -/
import Derived.Test.YtpbagbhoenmpcaaAwake
import Derived.Test.YtpbagbhoenmpcaaArg
import Derived.Deep.DeepCutAuto
import Derived.Deep.CutBlock
namespace Go.Proofs.Ytpbagbhoenmpcaa
set_option linter.unusedVariables false
set_option linter.unusedSimpArgs false
open Go.RowKit

/-- A bag whose packets lie in the order of their numbers; at most k of them. -/
def Ord (w wr : World) (k : Nat) : Prop := ∃ v n l, BagAt wr w.heap.size w.heap.size v n l ∧ l.Pairwise (fun p q => p.id < q.id) ∧ (∀ p ∈ l, p.id ≤ n ∧ p.text.size ≤ 100) ∧ l.length ≤ k ∧ 0 ≤ n ∧ n ≤ k ∧ Below w.heap.size w wr

theorem Ord.size {w wr : World} {k : Nat} (h : Ord w wr k) : w.heap.size ≤ wr.heap.size := by
  obtain ⟨v, n, l, _, _, _, _, _, _, h⟩ := h
  exact h.size
theorem Ord.below {w wr w' : World} {k : Nat} (h : Ord w wr k) (hb : Below wr.heap.size wr w') : Ord w w' k := by
  obtain ⟨v, n, l, h1, h2, h3, h4, h5, h6, h7⟩ := h
  exact ⟨v, n, l, h1.below hb, h2, h3, h4, h5, h6, h7.trans (hb.mono h7.size)⟩
theorem Ord.mono {w wr : World} {k k' : Nat} (h : Ord w wr k) (hk : k ≤ k') : Ord w wr k' := by
  obtain ⟨v, n, l, h1, h2, h3, h4, h5, h6, h7⟩ := h
  exact ⟨v, n, l, h1, h2, h3, by omega, h5, by omega, h7⟩

def OrdOut (w : World) (k : Nat) (e : Ending) (w' : World) : Prop := (∃ x y, e = .returned (.tuple #[x, y])) ∧ Ord w w' k

theorem ord_snoc {l : List Pkt} {n : Int} (f t : Int) (s : ByteArray) (h : l.Pairwise (fun p q => p.id < q.id)) (hn : ∀ p ∈ l, p.id ≤ n ∧ p.text.size ≤ 100) (hs : s.size ≤ 100) :
    (l ++ [(⟨n + 1, f, t, s⟩ : Pkt)]).Pairwise (fun p q => p.id < q.id) ∧ ∀ p ∈ l ++ [(⟨n + 1, f, t, s⟩ : Pkt)], p.id ≤ n + 1 ∧ p.text.size ≤ 100 := by
  refine ⟨List.pairwise_append.2 ⟨h, List.pairwise_singleton _ _, fun p hp q hq => ?_⟩, fun p hp => ?_⟩
  · simp at hq
    subst hq
    have := (hn p hp).1
    show p.id < n + 1
    omega
  · rcases List.mem_append.1 hp with hp | hp
    · have := hn p hp; exact ⟨by omega, this.2⟩
    · simp at hp; subst hp; exact ⟨Int.le_refl _, hs⟩

theorem send_ord (w wr : World) (k : Nat) (f t : Int) (s : ByteArray) (h : Ord w wr k) (hk : k < 1000) (hs : s.size ≤ 100) :
    Calls Try.prog 10 #[.pointer (some ⟨w.heap.size, 0, none⟩), .int .i64 f, .int .i64 t, .string s] wr (OrdOut w (k + 1)) := by
  obtain ⟨v, n, l, h1, h2, h3, h4, h5, h6, h7⟩ := h
  refine (send_ok wr w.heap.size w.heap.size v n f t s l h1 (by omega) (by omega) h5 (by omega) h7.size).mono ?_
  rintro e w' ⟨rfl, v', hb, hm⟩
  obtain ⟨a, b⟩ := ord_snoc f t s h2 h3 hs
  exact ⟨⟨_, _, rfl⟩, v', n + 1, _, hb, a, b, by simp; omega, by omega, by omega, h7.trans (h1.moved hm h7.size)⟩

theorem take_ord (w wr : World) (k : Nat) (id : Int) (h : Ord w wr k) (hk : k < 1000) :
    Calls Try.prog 11 #[.pointer (some ⟨w.heap.size, 0, none⟩), .int .i64 id] wr (OrdOut w (k + 1)) := by
  obtain ⟨v, n, l, h1, h2, h3, h4, h5, h6, h7⟩ := h
  by_cases hp : posOf l id < 0
  · refine (take_none wr w.heap.size w.heap.size v n id l h1 (by omega) hp h7.size).mono ?_
    rintro e w' ⟨x, rfl, hf, hb⟩
    exact ⟨⟨_, _, rfl⟩, Ord.mono (Ord.below ⟨v, n, l, h1, h2, h3, h4, h5, h6, h7⟩ hb) (by omega)⟩
  · obtain ⟨i, hi, _, hil⟩ := posOf_some hp
    refine (take_ok wr w.heap.size w.heap.size v n id l i h1 (by omega) hil hi h7.size).mono ?_
    rintro e w' ⟨rfl, v', hb, hm⟩
    exact ⟨⟨_, _, rfl⟩, v', n, _, hb, h2.sublist (List.eraseIdx_sublist _ _), fun p hp => h3 p (List.mem_of_mem_eraseIdx hp), by simp [List.length_eraseIdx, hil]; omega, h5, by omega, h7.trans (h1.moved hm h7.size)⟩

theorem copy_ord (w wr : World) (k : Nat) (id : Int) (h : Ord w wr k) (hk : k < 1000) :
    Calls Try.prog 18 #[.pointer (some ⟨w.heap.size, 0, none⟩), .int .i64 id] wr (OrdOut w (k + 1)) := by
  obtain ⟨v, n, l, h1, h2, h3, h4, h5, h6, h7⟩ := h
  by_cases hp : posOf l id < 0
  · refine (copy_none wr w.heap.size w.heap.size v n id l h1 (by omega) hp h7.size).mono ?_
    rintro e w' ⟨x, rfl, hf, hb⟩
    exact ⟨⟨_, _, rfl⟩, Ord.mono (Ord.below ⟨v, n, l, h1, h2, h3, h4, h5, h6, h7⟩ hb) (by omega)⟩
  · obtain ⟨i, hi, _, hil⟩ := posOf_some hp
    have hm := h3 l[i] (List.getElem_mem hil)
    refine (copy_ok wr w.heap.size w.heap.size v n id l i h1 hil hi (by omega) (by omega) h5 (by omega) h7.size).mono ?_
    rintro e w' ⟨rfl, v', hb, hm2⟩
    obtain ⟨a, b⟩ := ord_snoc l[i].frm l[i].to l[i].text h2 h3 hm.2
    exact ⟨⟨_, _, rfl⟩, v', n + 1, _, hb, a, b, by simp; omega, by omega, by omega, h7.trans (h1.moved hm2 h7.size)⟩

theorem below_drewN {B : Nat} {w w' : World} (h : Below B w w') (n : Nat) : Below B w (w'.drewN n) := ⟨h.os, h.tape, h.output, h.size, h.block⟩
def xTxt : ByteArray := ⟨#[120]⟩
set_option maxRecDepth 100000 in
set_option maxHeartbeats 4000000 in
theorem order_walk (A : Option Addr) (acts : List Quad) (cap : Nat) (w : World) (hq : QuadsAt w A acts) (hl : acts.length ≤ 9223372036854775807) (hs : ∀ q ∈ acts, q.s.size ≤ 9223372036854775807) :
    Calls Try.prog 7 #[.slice A acts.length cap] w fun e w' => e = .returned (.bool true) ∧ Below w.heap.size w w' := by
  have HQ := hid hq
  have HS := hid hs
  have h0 := hid (show Ord w (w.alloc (.cells #[.int .i64 0, .slice none 0 0] 26)) 0 from ⟨_, 0, [], BagAt.new w (Nat.le_refl _), List.Pairwise.nil, fun p hp => (by cases hp), Nat.le_refl _, Int.le_refl _, Int.le_refl _, (Below.refl _ w).alloc (Nat.le_refl _) _⟩)
  clear hq hs
  go_enter Try.func7, Try.ntmps7
  go_wp2
  go_loopw [4] (fun i wr => ∃ k : Nat, k ≤ 40 ∧ k ≤ acts.length ∧ i = .int .i64 k ∧ Ord w wr k) (fun i _ => 40 - (intOf i).toNat)
  case atStart => exact ⟨0, by omega, by omega, rfl, h0.out⟩
  case round =>
    obtain ⟨k, hk, hkl, rfl, ho⟩ := hrel
    have HO := hid ho
    have hsz := ho.size
    clear ho
    by_cases hlt : k < acts.length ∧ k < 40
    · obtain ⟨hlt1, hlt2⟩ := hlt
      obtain ⟨r, o, rfl, hr, p0, p1, p2, p3⟩ := HQ.out k hlt1
      obtain ⟨v0, n0, l0, _, _, _, _, _, _, hbl⟩ := HO.out
      rw [← hbl.cell (p := ⟨r, _, none⟩) hr] at p0 p1 p2 p3
      clear hbl
      generalize hqk : acts[k] = q at p0 p1 p2 p3
      have hqs := HS.out q (by rw [← hqk]; exact List.getElem_mem _)
      clear hqk
      obtain ⟨qa, qb, qc, qs⟩ := q
      have d40 : decide ((k : Int) < 40) = true := decide_eq_true (by omega)
      go_upto_if 28 with (fail)
      go_cut [] (fun wx => ∃ s' : ByteArray, s'.size ≤ 100 ∧ wx.heap[wr.heap.size]? = some (.cells #[.int .i64 qa, .int .i64 qb, .int .i64 qc, .string s'] 62 (0, 0)) ∧ Ord w wx k)
      case first =>
        have hb := hid (blk_new wr (.cells #[.int .i64 qa, .int .i64 qb, .int .i64 qc, .string qs] 62))
        have ho := hid (HO.out.below ((Below.refl wr.heap.size wr).alloc (Nat.le_refl _) (.cells #[.int .i64 qa, .int .i64 qb, .int .i64 qc, .string qs] 62)))
        by_cases hl : (100 : Int) < (qs.size : Int)
        · have dl : decide ((100 : Int) < (qs.size : Int)) = true := decide_eq_true hl
          go_wp2
          go_meet
          case rel => exact ⟨qs.extract 0 100, by rw [ByteArray.size_extract]; omega, blk_new _ _, HO.out.below ((Below.refl wr.heap.size wr).alloc (Nat.le_refl _) _)⟩
        · have dl : decide ((100 : Int) < (qs.size : Int)) = false := decide_eq_false hl
          have hle : qs.size ≤ 100 := by omega
          go_wp2
          go_meet
          case rel => exact ⟨qs, hle, hb.out, ho.out⟩
      case rest =>
        obtain ⟨s', hs', hb, ho⟩ := hcut
        have HB := hid hb
        have HO2 := hid ho
        have hs2 := ho.size
        have c0 := blk_cell_some hb 0 rfl
        have c1 := blk_cell_some hb 1 rfl
        have c2 := blk_cell_some hb 2 rfl
        have c3 := blk_cell_some hb 3 rfl
        have hlt3 := blk_lt hb
        clear hb ho
        go_upto_block 2 with (fail)
        go_cut [] (fun wx => Ord w wx (k + 1))
        case first =>
          by_cases e1 : qa = 1
          · subst e1
            go_wp2_with (go_at_call 10; refine (send_ord w wc k qb qc s' HO2.out (by omega) hs').mono ?_; rintro e w1 ⟨⟨x, y, rfl⟩, ho1⟩; have HO3 := hid ho1; clear ho1)
            go_meet
            case rel => exact HO3.out
          · have d1 : (qa == 1) = false := beq_eq_false_iff_ne.2 e1
            by_cases e2 : qa = 2
            · subst e2
              go_wp2_with (go_at_call 11; refine (take_ord w wc k qb HO2.out (by omega)).mono ?_; rintro e w1 ⟨⟨x, y, rfl⟩, ho1⟩; have HO3 := hid ho1; clear ho1)
              go_meet
              case rel => exact HO3.out
            · have d2 : (qa == 2) = false := beq_eq_false_iff_ne.2 e2
              by_cases e3 : qa = 3
              · subst e3
                go_wp2_with (go_at_call 18; refine (copy_ord w wc k qb HO2.out (by omega)).mono ?_; rintro e w1 ⟨⟨x, y, rfl⟩, ho1⟩; have HO3 := hid ho1; clear ho1)
                go_meet
                case rel => exact HO3.out
              · have d3 : (qa == 3) = false := beq_eq_false_iff_ne.2 e3
                go_wp2
                go_meet
                case rel => exact HO2.out.mono (by omega)
        case rest =>
          have HO4 := hid hcut
          have hs4 := hcut.size
          clear hcut c0 c1 c2 c3 hlt3
          obtain ⟨v, n, l, h1, h2, h3, h4, h5, h6, h7⟩ := HO4.out
          have HP2 := hid h2
          clear h2 h3
          go_wp2_with (go_at_call 17; refine (all_any _ w.heap.size w.heap.size v n l h1 (by omega)).mono ?_; rintro e w2 ⟨v2, rfl, ho, hb2⟩; obtain ⟨A2, cap2, rfl⟩ := ownsRow_slice ho; have HPK := hid (pkts_of_own rfl ho); have HB2 := hid hb2; clear ho)
          have hs5 := hb2.size
          clear hb2
          obtain ⟨wo, hwo⟩ : ∃ wo : World, wo = wr := ⟨_, rfl⟩
          subst hwo
          go_loopw [7] (fun i wq => ∃ m : Nat, i = .int .i64 ((m : Int) + 1) ∧ (m = 0 ∨ m < l.length) ∧ Below w2.heap.size w2 wq) (fun i _ => 100 - (intOf i).toNat)
          case atStart => exact ⟨0, rfl, .inl rfl, Below.refl _ _⟩
          case round =>
            obtain ⟨m, rfl, hm, hq⟩ := hrel
            have HQ2 := hid hq
            have hsq := hq.size
            by_cases hlt4 : m + 1 < l.length
            · obtain ⟨r2, rfl, hr2, a0, a1, a2, a3⟩ := HPK.out m (by omega)
              obtain ⟨r3, hr3, _, b0, b1, b2, b3⟩ := HPK.out (m + 1) hlt4
              obtain rfl : r2 = r3 := by injection hr3 with h; injection h
              rw [← hq.cell (p := ⟨r2, _, none⟩) hr2] at a0 b0
              have hlts := (List.pairwise_iff_getElem.1 HP2.out) m (m + 1) (by omega) hlt4 (by omega)
              have dd : decide (l[m + 1].id ≤ l[m].id) = false := decide_eq_false (by omega)
              clear hq hr3 a1 a2 a3 b1 b2 b3 hm
              have g1 : IntKind.i64.wrap ((m : Int) + 1 - 1) = (m : Int) := by rw [IntKind.wrap_i64]; omega
              have g2 : ((m : Int) + 1).toNat = m + 1 := by omega
              have g3 : (m : Int) + 1 < (l.length : Int) := by omega
              have g4 : (0 : Int) ≤ (m : Int) + 1 := by omega
              have g5 : (m : Int) < (l.length : Int) := by omega
              go_wp2_with fail
              go_quiet (fail)
              go_wp2
              go_roundw
              case rel => exact ⟨m + 1, by go_num, .inr hlt4, below_drewN HQ2.out _⟩
              case measure => simp [intOf]; omega
            · have dx : decide ((m : Int) + 1 < (l.length : Int)) = false := decide_eq_false (by omega)
              clear hq
              go_wp2
              go_roundw
              case rel => exact ⟨k + 1, by omega, by omega, by go_num, (HO4.out.below HB2.out).below HQ2.out⟩
              case measure => simp [intOf]; omega
    · obtain ⟨v, n, l, h1, h2, h3, h4, h5, h6, h7⟩ := HO.out
      have H1 := hid h1
      have H7 := hid h7
      clear h1 h2 h3 h7
      have hend : ∀ (a : Act) (wz : World), True := fun _ _ => trivial
      by_cases hA : k < acts.length
      · have d2 : decide ((k : Int) < 40) = false := decide_eq_false (by omega)
        clear hlt hend
        go_wp2_with fail
        refine (send_ok wr w.heap.size w.heap.size v n 7 8 xTxt l H1.out (by decide) (by omega) h5 (by omega) hsz).mono ?_
        rintro e w1 ⟨rfl, v1, hb1, hm1⟩
        obtain ⟨l', m, hl', hlm, hlast⟩ : ∃ (l' : List Pkt) (m : Nat), l' = l ++ [⟨n + 1, 7, 8, xTxt⟩] ∧ l'.length = m + 1 ∧ ∀ h : m < l'.length, l'[m] = ⟨n + 1, 7, 8, xTxt⟩ := ⟨_, l.length, rfl, by simp, fun h => by simp⟩
        rw [← hl'] at hb1
        have HB1 := hid hb1
        have HW1 := hid (H7.out.trans (H1.out.moved hm1 hsz))
        have hs1 := HW1.out.size
        have HL := hid hlm
        have hll : l'.length ≤ 10000 := by rw [hl']; simp; omega
        clear hb1 hm1 hl' hlm
        go_wp2_with fail
        refine (all_any w1 w.heap.size w.heap.size v1 _ l' HB1.out hll).mono ?_
        rintro e w2 ⟨v2, rfl, ho, hb2⟩
        obtain ⟨A2, cap2, rfl⟩ := ownsRow_slice ho
        have HPK := hid (pkts_of_own rfl ho)
        have HW2 := hid (HW1.out.trans (hb2.mono hs1))
        have hs2 := HW2.out.size
        clear ho hb2
        go_wp2_with fail
        refine (awake_true w2).mono ?_
        rintro e w3 ⟨rfl, hb3⟩
        have hpk := HPK.out m (by have := HL.out; omega)
        obtain ⟨r2, rfl, hr2, a0, a1, a2, a3⟩ := hpk
        rw [hlast] at a0 a1
        rw [← hb3.cell (p := ⟨r2, _, none⟩) hr2] at a0 a1
        have HW3 := hid (HW2.out.trans (hb3.mono hs2))
        clear hb3 a2 a3 hlast
        rw [HL.out]
        have hmb : m ≤ 10000 := by have := HL.out; omega
        go_wp2
        go_ret
        exact ⟨rfl, HW3.out⟩
      · have d2 : decide ((k : Int) < (acts.length : Int)) = false := decide_eq_false (by omega)
        clear hlt hend
        go_wp2_with fail
        refine (send_ok wr w.heap.size w.heap.size v n 7 8 xTxt l H1.out (by decide) (by omega) h5 (by omega) hsz).mono ?_
        rintro e w1 ⟨rfl, v1, hb1, hm1⟩
        obtain ⟨l', m, hl', hlm, hlast⟩ : ∃ (l' : List Pkt) (m : Nat), l' = l ++ [⟨n + 1, 7, 8, xTxt⟩] ∧ l'.length = m + 1 ∧ ∀ h : m < l'.length, l'[m] = ⟨n + 1, 7, 8, xTxt⟩ := ⟨_, l.length, rfl, by simp, fun h => by simp⟩
        rw [← hl'] at hb1
        have HB1 := hid hb1
        have HW1 := hid (H7.out.trans (H1.out.moved hm1 hsz))
        have hs1 := HW1.out.size
        have HL := hid hlm
        have hll : l'.length ≤ 10000 := by rw [hl']; simp; omega
        clear hb1 hm1 hl' hlm
        go_wp2_with fail
        refine (all_any w1 w.heap.size w.heap.size v1 _ l' HB1.out hll).mono ?_
        rintro e w2 ⟨v2, rfl, ho, hb2⟩
        obtain ⟨A2, cap2, rfl⟩ := ownsRow_slice ho
        have HPK := hid (pkts_of_own rfl ho)
        have HW2 := hid (HW1.out.trans (hb2.mono hs1))
        have hs2 := HW2.out.size
        clear ho hb2
        go_wp2_with fail
        refine (awake_true w2).mono ?_
        rintro e w3 ⟨rfl, hb3⟩
        have hpk := HPK.out m (by have := HL.out; omega)
        obtain ⟨r2, rfl, hr2, a0, a1, a2, a3⟩ := hpk
        rw [hlast] at a0 a1
        rw [← hb3.cell (p := ⟨r2, _, none⟩) hr2] at a0 a1
        have HW3 := hid (HW2.out.trans (hb3.mono hs2))
        clear hb3 a2 a3 hlast
        rw [HL.out]
        have hmb : m ≤ 10000 := by have := HL.out; omega
        go_wp2
        go_ret
        exact ⟨rfl, HW3.out⟩
end Go.Proofs.Ytpbagbhoenmpcaa
