/- The law BagOnce, walked: it returns true. -/
import Derived.Test.YtpbagbhoenmpcaaOnceP
import Derived.Deep.DeepCutAuto
import Derived.Deep.CutBlock
namespace Go.Proofs.Ytpbagbhoenmpcaa
set_option linter.unusedVariables false
set_option linter.unusedSimpArgs false
open Go.RowKit

/-- Behind k packets sent: the bag holds them, and so does the slice 'sent', in a row of its own. -/
def Sent (w wr : World) (ts : List ByteArray) (n k : Nat) (vs : Value) : Prop := ∃ v, BagAt wr w.heap.size w.heap.size v n (pkSent ts n) ∧ wr.ownsRow w.heap.size 32 4 vs k (rowOf (pkSent ts k)) ∧ (∀ r, vs.ownBlock = some r → r ≠ w.heap.size ∧ v.ownBlock ≠ some r) ∧ Below w.heap.size w wr

theorem Sent.size {w wr : World} {ts : List ByteArray} {n k : Nat} {vs : Value} (h : Sent w wr ts n k vs) : w.heap.size ≤ wr.heap.size := by
  obtain ⟨v, _, _, _, h⟩ := h
  exact h.size

theorem Sent.bel {w wr : World} {ts : List ByteArray} {n k : Nat} {vs : Value} (h : Sent w wr ts n k vs) : Below w.heap.size w wr := by
  obtain ⟨v, _, _, _, h⟩ := h
  exact h
theorem Sent.own {w wr : World} {ts : List ByteArray} {n k : Nat} {vs : Value} (h : Sent w wr ts n k vs) : wr.ownsRow w.heap.size 32 4 vs k (rowOf (pkSent ts k)) := by
  obtain ⟨v, _, h, _⟩ := h
  exact h
theorem Sent.start (w : World) (ts : List ByteArray) : Sent w ((w.alloc (.cells #[.int .i64 0, .slice none 0 0] 26)).alloc (.cells #[] 32)) ts 0 0 (.slice (some ⟨w.heap.size + 1, 0, none⟩) 0 0) := by
  refine ⟨.slice none 0 0, (BagAt.new w (Nat.le_refl _)).below ((Below.refl _ _).alloc (Nat.le_refl _) _), ?_, ?_, ((Below.refl _ w).alloc (Nat.le_refl _) _).alloc (by simp) _⟩
  · have := World.ownsRow_made (w := w.alloc (.cells #[.int .i64 0, .slice none 0 0] 26)) (base := w.heap.size) (e := 32) (size := 4) #[] 0 (by simp) (by decide) rfl
    rw [size_alloc] at this
    exact this
  · intro r hr
    simp [Value.ownBlock] at hr
    exact ⟨by omega, by simp [Value.ownBlock]⟩

def SendTo (w : World) (ts : List ByteArray) (k : Nat) (vs : Value) (e : Ending) (w' : World) : Prop := e = .returned (.tuple #[.int .i64 ((k : Int) + 1), .nilIface]) ∧ Sent w w' ts (k + 1) k vs

theorem sent_send (w wr : World) (ts : List ByteArray) (k : Nat) (vs : Value) (h : Sent w wr ts k k vs) (hk : k < 1000) :
    Calls Try.prog 10 #[.pointer (some ⟨w.heap.size, 0, none⟩), .int .i64 k, .int .i64 (2 * (k : Int)), .string (tx ts k)] wr (SendTo w ts k vs) := by
  obtain ⟨v, hb, ho, hap, hw⟩ := h
  refine (send_ok wr w.heap.size w.heap.size v k k (2 * (k : Int)) _ _ hb (by have := tx_size ts k; omega) (by rw [pkSent_len]; omega) (by omega) (by omega) hw.size).mono ?_
  rintro e w' ⟨rfl, v', hb', hm⟩
  refine ⟨rfl, v', by rw [pkSent_succ]; exact hb', ownsRow_keep ho hm.keep ?_, ?_, hw.trans (hb.moved hm hw.size)⟩
  · rintro r hr (e | e)
    · exact (hap r hr).1 e
    · exact (hap r hr).2 e
  · intro r hr
    refine ⟨(hap r hr).1, fun e => ?_⟩
    rcases hm.row r e with e | e
    · exact (hap r hr).2 e
    · have := (ho.lt r hr).2; omega

theorem sent_append {w w1 w2 : World} {ts : List ByteArray} {k g1 cap1 : Nat} {vs : Value} {o : Obj} (h : Sent w w1 ts (k + 1) k vs)
    (h1 : w2.ownsRow w.heap.size 32 4 (.slice (some ⟨g1, 0, none⟩) (k + 1) cap1) (k + 1) (rowOf (pkSent ts k) ++ [.int .i64 ((k : Int) + 1), .int .i64 k, .int .i64 (2 * (k : Int)), .string (tx ts k)]))
    (h2 : (w1.alloc o).grownBy w2 vs.ownBlock) (h3 : vs.ownBlock = some g1 ∨ g1 = w1.heap.size + 1) : Sent w w2 ts (k + 1) (k + 1) (.slice (some ⟨g1, 0, none⟩) (k + 1) cap1) := by
  obtain ⟨v, hb, ho, hap, hw⟩ := h
  have hgl := blk_lt hb.blk
  have k0 : Keep (fun j => vs.ownBlock = some j) w1 w2 := ((Keep.refl _ w1).alloc o).grown h2 (fun k hk _ => hk)
  refine ⟨v, hb.keep k0 (fun e => (hap _ e).1 rfl) (fun j hj e => (hap _ e).2 hj), ?_, ?_, ?_⟩
  · rw [pkSent_succ, rowOf_app, rowOf_one]
    exact h1
  · intro r hr
    simp only [Value.ownBlock, Option.some.injEq] at hr
    subst hr
    rcases h3 with e | e
    · exact hap _ e
    · refine ⟨by omega, fun hv => ?_⟩
      have := (hb.own.lt _ hv).2
      omega
  · exact hw.trans (k0.toBelow hw.size (fun j hj => (ho.lt j hj).1))

/-- While packets are taken: what is left in the bag; the slice 'sent' stands as it stood at wc. -/
def Tail (w wc : World) (ts : List ByteArray) (n : Nat) (vs : Value) (wr : World) : Prop := ∃ v m l, BagAt wr w.heap.size w.heap.size v m l ∧ Left ts n l ∧ wr.ownsRow w.heap.size 32 4 vs n (rowOf (pkSent ts n)) ∧ (∀ r, vs.ownBlock = some r → r ≠ w.heap.size ∧ v.ownBlock ≠ some r) ∧ Below w.heap.size wc wr
theorem Tail.below {w wc w1 w2 : World} {ts : List ByteArray} {n : Nat} {vs : Value} (h : Tail w wc ts n vs w1) (hb : Below w1.heap.size w1 w2) : Tail w wc ts n vs w2 := by
  obtain ⟨v, m, l, h1, h2, h3, h4, h5⟩ := h
  exact ⟨v, m, l, h1.below hb, h2, ownsRow_keep h3 (below_keep hb fun _ => False) (fun _ _ h => h), h4, h5.trans (hb.mono (Nat.le_of_lt (blk_lt h1.blk)))⟩
theorem Tail.taken {w wc wr w1 : World} {ts : List ByteArray} {n i : Nat} {vs v v1 : Value} {m : Int} {l : List Pkt} {o : Obj} (hb : BagAt wr w.heap.size w.heap.size v m l) (hl : Left ts n l) (ho : wr.ownsRow w.heap.size 32 4 vs n (rowOf (pkSent ts n)))
    (hap : ∀ r, vs.ownBlock = some r → r ≠ w.heap.size ∧ v.ownBlock ≠ some r) (hwb : Below w.heap.size wc wr) (hm : Moves w.heap.size v v1 (wr.alloc o) w1) (hb1 : BagAt w1 w.heap.size w.heap.size v1 m (l.eraseIdx i)) : Tail w wc ts n vs w1 := by
  have hg := blk_lt hb.blk
  refine ⟨v1, m, _, hb1, hl.erase i, ownsRow_keep (ho.alloc o) hm.keep ?_, ?_, (hwb.alloc (Nat.le_of_lt hg) o).trans ((hb.below ((Below.refl _ _).alloc (Nat.le_refl _) o)).moved hm (by rw [size_alloc]; omega))⟩
  · rintro r hr (e | e)
    · exact (hap r hr).1 e
    · exact (hap r hr).2 e
  · intro r hr
    refine ⟨(hap r hr).1, fun e => ?_⟩
    rcases hm.row r e with e | e
    · exact (hap r hr).2 e
    · have := (ho.lt r hr).2; rw [size_alloc] at e; omega
set_option maxRecDepth 100000 in
set_option maxHeartbeats 2000000 in
theorem once_walk (A : Option Addr) (ts : List ByteArray) (cap : Nat) (A2 : Option Addr) (os : List Int) (cap2 : Nat) (w : World) (hts : CellsAt w A ts.length (fun k => .string (ts.getD k ByteArray.empty))) (hsz : ∀ s ∈ ts, s.size ≤ maxLen)
    (hos : CellsAt w A2 os.length (fun k => .int .i64 (os.getD k 0))) (hwf : ∀ n ∈ os, (Lit.int .i64 n).wf = true) (hol : os.length ≤ maxLen) :
    Calls Try.prog 3 #[.slice A ts.length cap, .slice A2 os.length cap2] w fun e w' => e = .returned (.bool true) ∧ Below w.heap.size w w' := by
  obtain ⟨i0, hi, hz0, hz1, hz2⟩ := info_parts Try.info32
  have HT := hid hts
  have HZ := hid hsz
  have HO := hid hos
  have H0 := hid (Sent.start w ts)
  clear hts hsz hos hwf
  unfold maxLen at hol
  go_enter Try.func3, Try.ntmps3
  go_upto_block 0 with (fail)
  go_cut [6] (fun vs wx => ∃ n : Nat, n ≤ 40 ∧ Sent w wx ts n n vs)
  case first =>
    go_wp2_with fail
    go_loopw [6, 7] (fun vs i wr => ∃ k : Nat, k ≤ 40 ∧ k ≤ ts.length ∧ i = .int .i64 k ∧ Sent w wr ts k k vs) (fun _ i _ => 40 - (intOf i).toNat)
    case atStart => exact ⟨0, by omega, by omega, rfl, H0.out⟩
    case round =>
      obtain ⟨k, hk, hkl, rfl, hs⟩ := hrel
      have HS := hid hs
      have hss := hs.size
      by_cases hlt : k < ts.length ∧ k < 40
      · obtain ⟨hlt1, hlt2⟩ := hlt
        have d40 : decide ((k : Int) < 40) = true := decide_eq_true (by omega)
        obtain ⟨r, o, rfl, hr, hc⟩ := HT.out k hlt1
        have hbl := hs.bel
        rw [← hbl.cell (p := ⟨r, _, none⟩) hr] at hc
        have hz : (ts.getD k ByteArray.empty).size ≤ maxLen := HZ.out _ (by rw [List.getD_eq_getElem?_getD, List.getElem?_eq_getElem hlt1]; exact List.getElem_mem _)
        unfold maxLen at hz
        clear hbl hr hs
        replace hc : wr.cell? ⟨r, o + k, none⟩ = some (.string (ts.getD k ByteArray.empty)) := hc
        generalize hsk : ts.getD k ByteArray.empty = s at hc hz
        have HK := hid hsk
        clear hsk
        go_upto_if 34 with (fail)
        go_cut [8] (fun s8 wx => s8 = .string (tx ts k) ∧ wx = wr)
        case first =>
          by_cases hl : (300 : Int) < (s.size : Int)
          · have dl : decide ((300 : Int) < (s.size : Int)) = true := decide_eq_true hl
            go_wp2
            go_meet
            case rel => exact ⟨by rw [tx_long HK.out hl], rfl⟩
          · have dl : decide ((300 : Int) < (s.size : Int)) = false := decide_eq_false hl
            go_wp2
            go_meet
            case rel => exact ⟨by rw [← tx_short HK.out (by omega)], rfl⟩
        case rest =>
          obtain ⟨rfl, rfl⟩ := hcut
          go_wp2_with fail
          refine (sent_send w wc ts k _ HS.out (by omega)).mono ?_
          rintro e w1 ⟨rfl, hs1⟩
          have HS1 := hid hs1
          have hss1 := hs1.size
          clear hs1
          have HN := hid (news_at (blk_new w1 (.cells #[.int .i64 ((k : Int) + 1), .int .i64 k, .int .i64 (2 * (k : Int)), .string (tx ts k)] 32)))
          have HA := hid (HS1.out.own.alloc (.cells #[.int .i64 ((k : Int) + 1), .int .i64 k, .int .i64 (2 * (k : Int)), .string (tx ts k)] 32))
          go_wp2_with (at_builtin; refine wpList_append_lies _ rfl (.tmp 47) (.tmp 54) 24 rfl w.heap.size 32 i0 _ 4 40 Try.underlying24 hi hz0 hz1 hz2 rfl (by decide) _ k _ rfl HA.out ⟨w1.heap.size, 0, none⟩ 1 1 _ rfl rfl HN.out (by simp [Value.oneCell']) (by decide) (by unfold maxLen; omega) (by omega) (by simp; omega) (w1.heap.size + 1) (by simp) ?_; intro g1 cap1 w2 h1 h2 h3 h4; have HX := hid (sent_append HS1.out h1 h2 h3); clear h1 h2 h3 h4)
          go_roundw
          case rel => exact ⟨k + 1, by omega, by omega, by go_num, HX.out⟩
          case measure => simp [intOf]; omega
      · by_cases hA : k < ts.length
        · have d2 : decide ((k : Int) < 40) = false := decide_eq_false (by omega)
          go_wp2
          go_meet
          case rel => exact ⟨k, by omega, HS.out⟩
        · have d2 : decide ((k : Int) < (ts.length : Int)) = false := decide_eq_false (by omega)
          go_wp2
          go_meet
          case rel => exact ⟨k, by omega, HS.out⟩
  case rest =>
    obtain ⟨n, hn, hs⟩ := hcut
    have hss := hs.size
    have hbw := hs.bel
    obtain ⟨v, hb, ho, hap, _⟩ := hs
    obtain ⟨As, caps, rfl⟩ := ownsRow_slice ho
    have HPK := hid (pkts_of_own (by rw [pkSent_len]) ho)
    have HAP := hid (fun g => hap g)
    have HBW := hid hbw
    have H1 := hid (show Tail w wc ts n (.slice As n caps) wc from ⟨v, n, pkSent ts n, hb, Left.all ts n, ho, hap, Below.refl _ _⟩)
    clear hbw ho hb hap
    go_upto_block 2 with (fail)
    go_cut [] (fun wx => Tail w wc ts n (.slice As n caps) wx)
    case first =>
      go_wp2_with fail
      go_loopw [11] (fun i wr => ∃ j : Nat, j ≤ 40 ∧ j ≤ os.length ∧ i = .int .i64 j ∧ Tail w wc ts n (.slice As n caps) wr) (fun i _ => 40 - (intOf i).toNat)
      case atStart => exact ⟨0, by omega, by omega, rfl, H1.out⟩
      case round =>
        obtain ⟨j, hj, hjl, rfl, ht⟩ := hrel
        have HTL := hid ht
        by_cases hlt : j < os.length ∧ j < 40
        · obtain ⟨hlt1, hlt2⟩ := hlt
          have d40 : decide ((j : Int) < 40) = true := decide_eq_true (by omega)
          obtain ⟨r, o, rfl, hr, hc⟩ := HO.out j hlt1
          obtain ⟨v, m, l, hb, hleft, hown, hap, hwb⟩ := ht
          have hwbw : Below w.heap.size w wr := HBW.out.trans hwb
          rw [← hwbw.cell (p := ⟨r, _, none⟩) hr] at hc
          replace hc : wr.cell? ⟨r, o + j, none⟩ = some (.int .i64 (os.getD j 0)) := hc
          generalize hok : os.getD j 0 = q at hc
          have hsr := hwbw.size
          have HB := hid hb
          have HL := hid hleft
          have HOW := hid hown
          have HA2 := hid (fun g => hap g)
          have HWB := hid hwb
          clear hok hb hleft hown hap hwb hwbw hr
          by_cases hq0 : q < 0
          · have e0 : decide (q < 0) = true := decide_eq_true hq0
            go_wp2
            go_roundw
            case rel => exact ⟨j + 1, by omega, by omega, by go_num, HTL.out⟩
            case measure => simp [intOf]; omega
          · have e0 : decide (q < 0) = false := decide_eq_false hq0
            obtain ⟨q', rfl⟩ := Int.eq_ofNat_of_zero_le (show 0 ≤ q by omega)
            by_cases hqn : q' < n
            · have e1 : decide ((n : Int) ≤ (q' : Int)) = false := decide_eq_false (by omega)
              obtain ⟨rs, hrs, hrsl, c0, c1, c2, c3⟩ := pkts_of_own (by rw [pkSent_len]) HOW.out q' (by rw [pkSent_len]; exact hqn)
              subst hrs
              rw [pkSent_get] at c0 c1 c2 c3
              clear hq0
              have hqn' : (q' : Int) < (n : Int) := by omega
              have hb3 := HB.out.below ((Below.refl wr.heap.size wr).alloc (Nat.le_refl _) (.cells #[.int .i64 ((q' : Int) + 1), .int .i64 q', .int .i64 (2 * (q' : Int)), .string (tx ts q')] 32))
              have HB3 := hid hb3
              have hll : l.length ≤ 10000 := by have := HL.out.2.2; omega
              clear hb3
              by_cases hp : posOf l ((q' : Int) + 1) < 0
              · go_wp2_with fail
                refine (take_none _ w.heap.size w.heap.size v m ((q' : Int) + 1) l HB3.out hll hp (by rw [size_alloc]; omega)).mono ?_
                rintro e w1 ⟨x1, rfl, hf1, hb1⟩
                obtain ⟨kf1, rfl, _, _⟩ := hf1.cell
                have hk12 := Below.blk hb1 (blk_new wr _) (by rw [size_alloc]; omega)
                have x0 := blk_cell_some hk12 0 rfl
                have hl12 := blk_lt hk12
                have hs1 := hb1.size
                rw [size_alloc] at hs1
                have HK12 := hid hk12
                have HX1 := hid hb1
                have HB4 := hid ((HB3.out.below hb1).below ((Below.refl w1.heap.size w1).alloc (Nat.le_refl _) (.cells #[.int .i64 0, .int .i64 0, .int .i64 0, .string ⟨#[]⟩] 32)))
                clear hk12 hb1 hf1
                unfold Pkt.zero Pkt.val
                go_wp2_with fail
                refine (take_none _ w.heap.size w.heap.size v m ((q' : Int) + 1) l HB4.out hll hp (by rw [size_alloc]; omega)).mono ?_
                rintro e w2 ⟨x, rfl, hf, hb2⟩
                obtain ⟨kf, rfl, hcf, _⟩ := hf.cell
                have HC := hid (alloc_cell (.cells #[.int .i64 0, .int .i64 0, .int .i64 0, .string ⟨#[]⟩] 32) hcf)
                have hk13 := Below.blk hb2 (blk_new w1 _) (by rw [size_alloc]; omega)
                have hk12 := Below.blk hb2 (blk_old HK12.out _) (by rw [size_alloc]; omega)
                have hs2 := hb2.size
                rw [size_alloc] at hs2
                have y0 := blk_cell_some hk12 0 rfl
                have y1 := blk_cell_some hk12 1 rfl
                have y2 := blk_cell_some hk12 2 rfl
                have y3 := blk_cell_some hk12 3 rfl
                have z0 := blk_cell_some hk13 0 rfl
                have z1 := blk_cell_some hk13 1 rfl
                have z2 := blk_cell_some hk13 2 rfl
                have z3 := blk_cell_some hk13 3 rfl
                have hlt13 := blk_lt hk13
                have hlt12 := blk_lt hk12
                have HB2 := hid hb2
                clear x0 hk12 hk13 hb2 hf hcf c0 c1 c2 c3
                unfold Pkt.zero Pkt.val
                go_wp2_with (first | (go_at_call 12; refine (is_fault kf 9 9 _ HC.out).mono ?_; rintro e w' ⟨rfl, rfl⟩))
                go_roundw
                case rel => exact ⟨j + 1, by omega, by omega, by go_num, ((((HTL.out.below ((Below.refl _ wr).alloc (Nat.le_refl _) _)).below HX1.out).below ((Below.refl _ w1).alloc (Nat.le_refl _) _)).below HB2.out).below ((Below.refl _ w2).alloc (Nat.le_refl _) _)⟩
                case measure => simp [intOf]; omega
              · obtain ⟨i, hpi, hfi, hil⟩ := posOf_some hp
                have HF := hid hfi
                have HPI := hid hpi
                have hfound := HL.out.found hil (posOf_at hfi hil)
                have HFD := hid hfound
                clear hfi hpi hfound hp
                go_wp2_with fail
                refine (take_ok _ w.heap.size w.heap.size v m ((q' : Int) + 1) l i HB3.out hll hil HPI.out (by rw [size_alloc]; omega)).mono ?_
                rw [HFD.out]
                rintro e w1 ⟨rfl, v1, hb1, hm1⟩
                unfold Pkt.val
                have hgw : w.heap.size < wr.heap.size := blk_lt HB.out.blk
                have hk12 := hm1.keep.blk (blk_new wr (.cells #[.int .i64 ((q' : Int) + 1), .int .i64 q', .int .i64 (2 * (q' : Int)), .string (tx ts q')] 32)) (by
                  rintro (e | e)
                  · omega
                  · have := (HB.out.own.lt _ e).2; omega)
                have hs1 := hm1.keep.size
                rw [size_alloc] at hs1
                have HB1 := hid (hb1.below ((Below.refl w1.heap.size w1).alloc (Nat.le_refl _) (.cells #[.int .i64 ((q' : Int) + 1), .int .i64 q', .int .i64 (2 * (q' : Int)), .string (tx ts q')] 32)))
                have HK12 := hid hk12
                have HM1 := hid hm1
                have x0 := blk_cell_some hk12 0 rfl
                have x1 := blk_cell_some hk12 1 rfl
                have x2 := blk_cell_some hk12 2 rfl
                have x3 := blk_cell_some hk12 3 rfl
                have hl12 := blk_lt hk12
                have HBB := hid hb1
                clear hk12 hm1 hb1
                go_wp2_with fail
                refine (take_none _ w.heap.size w.heap.size v1 m ((q' : Int) + 1) _ HB1.out (Nat.le_trans (List.length_eraseIdx_le _ _) hll) (HL.out.gone HF.out hil) (by rw [size_alloc]; omega)).mono ?_
                rintro e w2 ⟨x, rfl, hf, hb2⟩
                obtain ⟨kf, rfl, hcf, _⟩ := hf.cell
                have HC := hid (alloc_cell (.cells #[.int .i64 0, .int .i64 0, .int .i64 0, .string ⟨#[]⟩] 32) hcf)
                have hk13 := Below.blk hb2 (blk_new w1 _) (by rw [size_alloc]; omega)
                have hk12 := Below.blk hb2 (blk_old HK12.out _) (by rw [size_alloc]; omega)
                have hs2 := hb2.size
                rw [size_alloc] at hs2
                have y0 := blk_cell_some hk12 0 rfl
                have y1 := blk_cell_some hk12 1 rfl
                have y2 := blk_cell_some hk12 2 rfl
                have y3 := blk_cell_some hk12 3 rfl
                have z0 := blk_cell_some hk13 0 rfl
                have z1 := blk_cell_some hk13 1 rfl
                have z2 := blk_cell_some hk13 2 rfl
                have z3 := blk_cell_some hk13 3 rfl
                have hlt13 := blk_lt hk13
                have hlt12 := blk_lt hk12
                have HB2 := hid hb2
                clear x0 x1 x2 x3 hk12 hk13 hb2 hf hcf c0 c1 c2 c3
                unfold Pkt.zero Pkt.val
                go_wp2_with (first | (go_at_call 12; refine (is_fault kf 9 9 _ HC.out).mono ?_; rintro e w' ⟨rfl, rfl⟩))
                have ht0 := hid (Tail.taken HB.out HL.out HOW.out HA2.out HWB.out HM1.out HBB.out)
                go_roundw
                case rel => exact ⟨j + 1, by omega, by omega, by go_num, ((ht0.out.below ((Below.refl _ w1).alloc (Nat.le_refl _) _)).below HB2.out).below ((Below.refl _ w2).alloc (Nat.le_refl _) _)⟩
                case measure => simp [intOf]; omega
            · have e1 : decide ((n : Int) ≤ (q' : Int)) = true := decide_eq_true (by omega)
              clear hq0
              go_wp2
              go_roundw
              case rel => exact ⟨j + 1, by omega, by omega, by go_num, HTL.out⟩
              case measure => simp [intOf]; omega
        · by_cases hA : j < os.length
          · have d2 : decide ((j : Int) < 40) = false := decide_eq_false (by omega)
            clear ht
            go_wp2
            go_meet
            case rel => exact HTL.out
          · have d2 : decide ((j : Int) < (os.length : Int)) = false := decide_eq_false (by omega)
            clear ht
            go_wp2
            go_meet
            case rel => exact HTL.out
    case rest =>
      obtain ⟨v, m, l, hb, hleft, hown, hap, hwb⟩ := hcut
      have HW := hid (HBW.out.trans hwb)
      have hsw := HW.out.size
      clear hb hleft hown hap hwb
      go_wp2_with (go_at_call 13; refine (awake_true _).mono ?_; rintro e w2 ⟨rfl, hb2⟩)
      go_ret
      exact ⟨rfl, HW.out.trans (hb2.mono hsw)⟩
end Go.Proofs.Ytpbagbhoenmpcaa
