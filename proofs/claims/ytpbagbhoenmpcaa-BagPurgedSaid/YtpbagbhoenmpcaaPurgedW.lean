/- The law BagPurged, walked: it returns true. -/
import Derived.Test.YtpbagbhoenmpcaaAwake
import Derived.Test.YtpbagbhoenmpcaaArg
import Derived.Test.YtpbagbhoenmpcaaBagJ
import Derived.Deep.DeepCutAuto
import Derived.Deep.CutBlock
namespace Go.Proofs.Ytpbagbhoenmpcaa
set_option linter.unusedVariables false
set_option linter.unusedSimpArgs false
open Go.RowKit

theorem two_min (k k' : IntKind) (x y : Int) : Builtin.min2 (.int k x) (.int k' y) = pure (.int k (if y < x then y else x)) := by simp only [Builtin.min2]
theorem of_two_min (ats : Array TypeId) (ty : TypeId) (a b : Value) : Builtin.min_ ats ty #[a, b] = (Builtin.min2 a b >>= fun s => pure s) := by simp only [Builtin.min_, List.foldlM_cons, List.foldlM_nil]
attribute [local go_sem] two_min of_two_min
def xText : ByteArray := ⟨#[120]⟩
def pkT (tt : List Int) (k : Nat) : List Pkt := (List.range k).map fun j : Nat => ⟨(j : Int) + 1, j, tt.getD j 0, xText⟩
theorem pkT_len (tt : List Int) (k : Nat) : (pkT tt k).length = k := by simp [pkT]
theorem pkT_succ (tt : List Int) (k : Nat) : pkT tt (k + 1) = pkT tt k ++ [⟨(k : Int) + 1, k, tt.getD k 0, xText⟩] := by simp [pkT, List.range_succ]
theorem pkT_sorted (tt : List Int) (k : Nat) : (pkT tt k).Pairwise (fun p q => p.id < q.id) ∧ ∀ p ∈ pkT tt k, 0 < p.id := by
  constructor
  · rw [List.pairwise_iff_getElem]
    intro i j hi hj hij
    simp only [pkT, List.getElem_map, List.getElem_range]
    omega
  · intro p hp
    simp only [pkT, List.mem_map] at hp
    obtain ⟨j, _, rfl⟩ := hp
    show 0 < (j : Int) + 1
    omega
theorem stays_app (id : Int) (l m : List Pkt) : stays id (l ++ m) = stays id l ++ stays id m := by simp [stays]
theorem stays_one (id : Int) (p : Pkt) : stays id [p] = if (p.to == id) = true then [] else [p] := by
  unfold stays
  cases h : (p.to == id) <;> simp [h]
theorem stays_stays (id : Int) (l : List Pkt) : stays id (stays id l) = stays id l := by simp [stays]
/-- How many of the first k go tt that address. -/
def hits (tt : List Int) (a : Int) (k : Nat) : Int := (k : Int) - ((stays a (pkT tt k)).length : Int)
theorem hits_zero (tt : List Int) (a : Int) : hits tt a 0 = 0 := by simp [hits, pkT, stays]
theorem hits_yes {tt : List Int} {a : Int} {k : Nat} (h : (tt.getD k 0 == a) = true) : hits tt a (k + 1) = hits tt a k + 1 := by
  have : stays a (pkT tt (k + 1)) = stays a (pkT tt k) := by rw [pkT_succ, stays_app, stays_one, if_pos h, List.append_nil]
  rw [hits, hits, this]; omega
theorem hits_no {tt : List Int} {a : Int} {k : Nat} (h : (tt.getD k 0 == a) = false) : hits tt a (k + 1) = hits tt a k := by
  have : (stays a (pkT tt (k + 1))).length = (stays a (pkT tt k)).length + 1 := by rw [pkT_succ, stays_app, stays_one, if_neg (by show ¬ (tt.getD k 0 == a) = true; rw [h]; decide)]; simp
  rw [hits, hits, this]; omega
theorem hits_bound (tt : List Int) (a : Int) (k : Nat) : 0 ≤ hits tt a k ∧ hits tt a k ≤ k := by
  have := stays_le a (pkT tt k)
  rw [pkT_len] at this
  unfold hits
  omega
def Filled (w wr : World) (tt : List Int) (k : Nat) : Prop := ∃ v, BagAt wr w.heap.size w.heap.size v k (pkT tt k) ∧ Below w.heap.size w wr
theorem Filled.bel {w wr : World} {tt : List Int} {k : Nat} (h : Filled w wr tt k) : Below w.heap.size w wr := by
  obtain ⟨_, _, h⟩ := h
  exact h
theorem filled_send (w wr : World) (tt : List Int) (k : Nat) (q : Int) (h : Filled w wr tt k) (hk : k < 1000) (hq : tt.getD k 0 = q) :
    Calls Try.prog 10 #[.pointer (some ⟨w.heap.size, 0, none⟩), .int .i64 k, .int .i64 q, .string xText] wr fun e w' => e = .returned (.tuple #[.int .i64 ((k : Int) + 1), .nilIface]) ∧ Filled w w' tt (k + 1) := by
  obtain ⟨v, hb, hw⟩ := h
  subst hq
  refine (send_ok wr w.heap.size w.heap.size v k k _ _ _ hb (by decide) (by rw [pkT_len]; omega) (by omega) (by omega) hw.size).mono ?_
  rintro e w' ⟨rfl, v', hb', hm⟩
  exact ⟨rfl, v', by rw [pkT_succ]; exact hb', hw.trans (hb.moved hm hw.size)⟩

theorem purge_at (w : World) (B g : Nat) (v : Value) (n id q : Int) (l : List Pkt) (hb : BagAt w B g v n l) (hn : l.length ≤ 10000) (hB : B ≤ w.heap.size) (hq : (l.length : Int) - ((stays id l).length : Int) = q) :
    Calls Try.prog 23 #[.pointer (some ⟨g, 0, none⟩), .int .i64 id] w fun e w' => e = .returned (.int .i64 q) ∧ ∃ v', BagAt w' B g v' n (stays id l) ∧ Moves g v v' w w' := by
  subst hq
  exact purge_any w B g v n id l hb hn hB
/-- The packets that stay, in order. -/
theorem stay_facts (tt : List Int) (a : Int) (K : Nat) : (stays a (pkT tt K)).Pairwise (fun p q => p.id < q.id) ∧ ∀ p ∈ stays a (pkT tt K), 0 < p.id ∧ (p.to == a) = false := by
  obtain ⟨h1, h2⟩ := pkT_sorted tt K
  refine ⟨h1.sublist List.filter_sublist, fun p hp => ?_⟩
  simp only [stays, List.mem_filter] at hp
  exact ⟨h2 p hp.1, by simpa using hp.2⟩
set_option maxRecDepth 100000 in
set_option maxHeartbeats 1000000 in
theorem purged_walk (A : Option Addr) (tt : List Int) (cap : Nat) (a : Int) (w : World) (hto : CellsAt w A tt.length (fun k => .int .i64 (tt.getD k 0))) (hwf : ∀ n ∈ tt, (Lit.int .i64 n).wf = true) (hol : tt.length ≤ maxLen) (hwa : (Lit.int .i64 a).wf = true) :
    Calls Try.prog 8 #[.slice A tt.length cap, .int .i64 a] w fun e w' => e = .returned (.bool true) ∧ Below w.heap.size w w' := by
  have HT := hid hto
  have H0 := hid (show Filled w (w.alloc (.cells #[.int .i64 0, .slice none 0 0] 26)) tt 0 from ⟨_, BagAt.new w (Nat.le_refl _), (Below.refl _ w).alloc (Nat.le_refl _) _⟩)
  clear hto hwf hwa
  unfold maxLen at hol
  go_enter Try.func8, Try.ntmps8
  go_upto_block 0 with (fail)
  go_cut [6] (fun s6 wx => ∃ K : Nat, K = min tt.length 40 ∧ s6 = .int .i64 (hits tt a K) ∧ Filled w wx tt K)
  case first =>
    go_wp2_with fail
    go_loopw [6, 7] (fun s6 i wr => ∃ k : Nat, k ≤ 40 ∧ k ≤ tt.length ∧ i = .int .i64 k ∧ s6 = .int .i64 (hits tt a k) ∧ Filled w wr tt k) (fun _ i _ => 40 - (intOf i).toNat)
    case atStart => exact ⟨0, by omega, by omega, rfl, by rw [hits_zero], H0.out⟩
    case round =>
      obtain ⟨k, hk, hkl, rfl, rfl, hs⟩ := hrel
      have HS := hid hs
      have hbl := hs.bel
      obtain ⟨hb0, hb1⟩ := hits_bound tt a k
      by_cases hlt : k < tt.length ∧ k < 40
      · obtain ⟨hlt1, hlt2⟩ := hlt
        have d40 : decide ((k : Int) < 40) = true := decide_eq_true (by omega)
        obtain ⟨r, o, rfl, hr, hc⟩ := HT.out k hlt1
        rw [← hbl.cell (p := ⟨r, _, none⟩) hr] at hc
        replace hc : wr.cell? ⟨r, o + k, none⟩ = some (.int .i64 (tt.getD k 0)) := hc
        generalize hq : tt.getD k 0 = q at hc
        have HQ := hid hq
        have HBL := hid hbl
        have hrw : r < w.heap.size := hr
        have hc0 := (HBL.out.cell (p := ⟨r, o + k, none⟩) hr).symm.trans hc
        have HC0 := hid hc0
        clear hs hq hr hc0 hbl
        cases hh : (q == a) with
        | true =>
          have HH := hid hh
          go_wp2_with (go_at_call 10; refine (filled_send w wr tt k q HS.out (by omega) HQ.out).mono ?_; rintro e w1 ⟨rfl, hf1⟩; have c1 := (hf1.bel.cell (p := ⟨r, o + k, none⟩) hrw).trans HC0.out; have HF1 := hid hf1; clear hf1)
          go_roundw
          case rel => exact ⟨k + 1, by omega, by omega, by go_num, by rw [hits_yes (by rw [HQ.out]; exact HH.out)], HF1.out⟩
          case measure => simp [intOf]; omega
        | false =>
          have HH := hid hh
          go_wp2_with (go_at_call 10; refine (filled_send w wr tt k q HS.out (by omega) HQ.out).mono ?_; rintro e w1 ⟨rfl, hf1⟩; have c1 := (hf1.bel.cell (p := ⟨r, o + k, none⟩) hrw).trans HC0.out; have HF1 := hid hf1; clear hf1)
          go_roundw
          case rel => exact ⟨k + 1, by omega, by omega, by go_num, by rw [hits_no (by rw [HQ.out]; exact HH.out)], HF1.out⟩
          case measure => simp [intOf]; omega
      · by_cases hA : k < tt.length
        · have d2 : decide ((k : Int) < 40) = false := decide_eq_false (by omega)
          go_wp2
          go_meet
          case rel => exact ⟨k, by omega, rfl, HS.out⟩
        · have d2 : decide ((k : Int) < (tt.length : Int)) = false := decide_eq_false (by omega)
          go_wp2
          go_meet
          case rel => exact ⟨k, by omega, rfl, HS.out⟩
  case rest =>
    obtain ⟨K, hK, rfl, hs⟩ := hcut
    obtain ⟨v, hb, hw⟩ := hs
    have hsz := hw.size
    have HB := hid hb
    have HW := hid hw
    have hKl : K ≤ 40 := by omega
    have HKK := hid hK
    clear hb hw hK
    obtain ⟨hb0, hb1⟩ := hits_bound tt a K
    have HH := hid (show ((pkT tt K).length : Int) - ((stays a (pkT tt K)).length : Int) = hits tt a K by rw [pkT_len]; rfl)
    go_wp2_with fail
    refine (purge_at wc w.heap.size w.heap.size v K a (hits tt a K) _ HB.out (by rw [pkT_len]; omega) hsz HH.out).mono ?_
    rintro e w1 ⟨rfl, v1, hb1, hm1⟩
    have HW1 := hid (HW.out.trans (HB.out.moved hm1 hsz))
    have hs1 := HW1.out.size
    have HB1 := hid hb1
    obtain ⟨hst1, hst2⟩ := stay_facts tt a K
    have hlen1 : ((stays a (pkT tt K)).length : Int) = (K : Int) - hits tt a K := by rw [hits]; omega
    generalize hl : stays a (pkT tt K) = l at hst1 hst2 hlen1 HB1
    have hll : l.length ≤ 40 := by have := stays_le a (pkT tt K); rw [pkT_len, hl] at this; omega
    have hss : stays a l = l := by rw [← hl, stays_stays]
    have HSS := hid hss
    have HLN := hid hlen1
    have HP1 := hid hst1
    have HP2 := hid hst2
    clear hb1 hm1 hst1 hst2 hl hss hlen1
    go_wp2_with fail
    refine (purge_at w1 w.heap.size w.heap.size v1 K a 0 l HB1.out (by omega) hs1 (by rw [HSS.out]; omega)).mono ?_
    rw [HSS.out]
    rintro e w2 ⟨rfl, v2, hb2, hm2⟩
    have HW2 := hid (HW1.out.trans (HB1.out.moved hm2 hs1))
    have hs2 := HW2.out.size
    have HB2 := hid hb2
    clear hb2 hm2
    go_wp2_with fail
    refine (all_any w2 w.heap.size w.heap.size v2 _ l HB2.out (by omega)).mono ?_
    rintro e w3 ⟨v3, rfl, ho, hb3⟩
    obtain ⟨A2, cap2, rfl⟩ := ownsRow_slice ho
    have HPK := hid (pkts_of_own rfl ho)
    have HB3 := hid (HB2.out.below hb3)
    have HW3 := hid (HW2.out.trans (hb3.mono hs2))
    have hs3 := HW3.out.size
    clear ho hb3
    go_wp2_with fail
    go_loopw [10, 53] (fun last i wq => ∃ (j : Nat) (z : Int), j ≤ l.length ∧ i = .int .i64 j ∧ last = .int .i64 z ∧ (∀ (q : Nat) (h : q < l.length), j ≤ q → z < l[q].id) ∧ Below w3.heap.size w3 wq) (fun _ i _ => l.length - (intOf i).toNat)
    case atStart => exact ⟨0, 0, by omega, rfl, rfl, fun q h _ => (HP2.out _ (List.getElem_mem h)).1, Below.refl _ _⟩
    case round =>
      obtain ⟨j, z, hj, rfl, rfl, hz, hq⟩ := hrel
      have HZ := hid hz
      have HQ := hid hq
      have hsq := hq.size
      by_cases hlt : j < l.length
      · obtain ⟨r, hr0, hr, p0, p1, p2, p3⟩ := HPK.out j hlt
        subst hr0
        rw [← hq.cell (p := ⟨r, _, none⟩) hr] at p0 p1 p2 p3
        have hne := (HP2.out _ (List.getElem_mem hlt)).2
        have hle : decide (l[j].id ≤ z) = false := decide_eq_false (by have := hz j hlt (Nat.le_refl _); omega)
        have HG := hid (fun (q : Nat) (h : q < l.length) (hjq : j + 1 ≤ q) => List.pairwise_iff_getElem.1 HP1.out j q hlt h (by omega))
        generalize hpj : l[j] = pj at p0 p1 p2 p3 hne hle HG
        clear hz hq hpj
        go_wp2
        go_roundw
        case rel => exact ⟨j + 1, pj.id, by omega, by go_num, rfl, HG.out, HQ.out.alloc hsq _⟩
        case measure => simp [intOf]; omega
      · have dlt : decide ((j : Int) < (l.length : Int)) = false := decide_eq_false (by omega)
        have HB4 := hid (HB3.out.below hq)
        have HW4 := hid (HW3.out.trans (hq.mono hs3))
        clear hz hq
        go_wp2_with fail
        refine (awake_true _).mono ?_
        rintro e w5 ⟨rfl, hb5⟩
        have HB5 := hid (HB4.out.below hb5)
        have HW5 := hid (HW4.out.trans (hb5.mono (by omega)))
        clear hb5
        by_cases hm : (40 : Int) < (tt.length : Int)
        · have de : ((l.length : Int) == 40 - hits tt a K) = true := by
            have h1 := HKK.out
            have h2 := HLN.out
            rw [beq_iff_eq]; omega
          clear hj hlt dlt
          go_wp2_with (go_at_call 15; refine (len_any _ w.heap.size w.heap.size v2 _ l HB5.out).mono ?_; rintro e w' ⟨rfl, rfl⟩)
          go_ret
          exact ⟨rfl, HW5.out⟩
        · have de : ((l.length : Int) == (tt.length : Int) - hits tt a K) = true := by
            have h1 := HKK.out
            have h2 := HLN.out
            rw [beq_iff_eq]; omega
          clear hj hlt dlt
          go_wp2_with (go_at_call 15; refine (len_any _ w.heap.size w.heap.size v2 _ l HB5.out).mono ?_; rintro e w' ⟨rfl, rfl⟩)
          go_ret
          exact ⟨rfl, HW5.out⟩
end Go.Proofs.Ytpbagbhoenmpcaa
