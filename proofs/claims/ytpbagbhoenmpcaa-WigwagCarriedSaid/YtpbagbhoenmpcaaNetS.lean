/- send: each side's packets into the bag. -/
import Derived.Test.YtpbagbhoenmpcaaNet
namespace Go.Proofs.Ytpbagbhoenmpcaa
set_option linter.unusedVariables false
set_option linter.unusedSimpArgs false
open Go.RowKit

structure LkOk (k : Lk) : Prop where
  a0 : 0 ≤ k.acked
  a1 : k.acked < 2 ^ 60
  c0 : 0 ≤ k.came
  c1 : k.came < 2 ^ 60
  len : k.q.length ≤ 64
  text : ∀ j (h : j < k.q.length), k.q[j].size ≤ 1000
def Lk.packs (k : Lk) : List ByteArray := Go.Proofs.Ytpbagbhoenmpcaa.packs k.acked k.came k.q k.owes
def Lk.quiet (k : Lk) : Lk := ⟨k.q, k.acked, k.came, false⟩

/-- Texts as packets of the bag. -/
def pks (f t : Int) : Int → List ByteArray → List Pkt
  | _, [] => []
  | n, s :: r => ⟨n + 1, f, t, s⟩ :: pks f t (n + 1) r
theorem pks_len (f t : Int) : ∀ (l : List ByteArray) (n : Int), (pks f t n l).length = l.length
  | [], _ => rfl
  | _ :: r, n => by simp [pks, pks_len f t r]
theorem pks_snoc (f t : Int) : ∀ (l : List ByteArray) (n : Int) (k : Nat) (h : k < l.length), pks f t n (l.take (k + 1)) = pks f t n (l.take k) ++ [⟨n + k + 1, f, t, l[k]⟩]
  | a :: r, n, 0, _ => by simp [pks]
  | a :: r, n, k + 1, h => by
    have := pks_snoc f t r (n + 1) k (by simpa using h)
    simp only [List.take_succ_cons, pks, this, List.cons_append, List.getElem_cons_succ]
    rw [show n + 1 + (k : Int) + 1 = n + ((k + 1 : Nat) : Int) + 1 by omega]
theorem encNum_10 {n : Int} (h0 : -1 ≤ n) (h : n < 2 ^ 62) : (encNum (zig n)).length ≤ 10 := encNum_len64 (by unfold zig; split <;> omega)
theorem pkt_small {n c : Int} {s : ByteArray} (hn0 : -1 ≤ n) (hn : n < 2 ^ 62) (hc0 : -1 ≤ c) (hc : c < 2 ^ 62) (hs : s.size ≤ 1000) : (pkt n c s).size ≤ 2000 := by
  have h1 := encNum_10 hn0 hn
  have h2 := encNum_10 hc0 hc
  have h3 := encNum_len64 (show s.size < 2 ^ 64 by omega)
  rw [pkt_size]
  omega
theorem outs_get (c : Int) : ∀ (l : List ByteArray) (n : Int) (k : Nat) (h : k < (outs c n l).length), ∃ h2 : k < l.length, (outs c n l)[k] = pkt (n + k) c l[k]
  | a :: r, n, 0, _ => ⟨by simp, by simp [outs]⟩
  | a :: r, n, k + 1, h => by
    obtain ⟨h2, h3⟩ := outs_get c r (n + 1) k (by simpa [outs] using h)
    refine ⟨by simpa using h2, ?_⟩
    simp only [outs, List.getElem_cons_succ, h3]
    rw [show n + 1 + (k : Int) = n + ((k + 1 : Nat) : Int) by omega]
theorem LkOk.packs_len {k : Lk} (h : LkOk k) : k.packs.length ≤ 8 := by
  unfold Lk.packs packs
  split
  · simp
  · rw [outs_len]; simp; omega
theorem LkOk.packs_small {k : Lk} (h : LkOk k) (j : Nat) (hj : j < k.packs.length) : k.packs[j].size ≤ 2000 := by
  have key : ∀ (l : List ByteArray) (e : l = k.packs) (hj : j < l.length), l[j].size ≤ 2000 := by
    intro l e hj
    unfold Lk.packs packs at e
    have := h.a0; have := h.a1; have := h.c0; have := h.c1; have := h.len
    split at e
    · subst e
      have : j = 0 := by simp at hj; omega
      subst this
      exact pkt_small (by omega) (by omega) (by omega) (by omega) (by decide)
    · subst e
      obtain ⟨h2, h3⟩ := outs_get k.came (k.q.take 8) k.acked j hj
      have hjq : j < k.q.length := by simp at h2; omega
      rw [h3]
      refine pkt_small (by omega) (by omega) (by omega) (by omega) ?_
      rw [List.getElem_take]
      exact h.text j hjq
  exact key _ rfl hj

/-- The bag, once the first i sides have sent. -/
def sentN (ks : Nat → Lk) (n : Int) : Nat → Int
  | 0 => n
  | i + 1 => sentN ks n i + (ks i).packs.length
def sentL (ks : Nat → Lk) (n : Int) (l : List Pkt) : Nat → List Pkt
  | 0 => l
  | i + 1 => sentL ks n l i ++ pks i (1 - i) (sentN ks n i) (ks i).packs
def quietUp (ks : Nat → Lk) (i : Nat) : Nat → Lk := fun j => if j < i then (ks j).quiet else ks j

theorem sent_bound (ks : Nat → Lk) (n : Int) (l : List Pkt) (hk : ∀ i, i < 2 → LkOk (ks i)) : ∀ i, i ≤ 2 → n ≤ sentN ks n i ∧ sentN ks n i ≤ n + 8 * i ∧ (sentL ks n l i).length ≤ l.length + 8 * i
  | 0, _ => ⟨Int.le_refl _, by simp [sentN], by simp [sentL]⟩
  | i + 1, h => by
    obtain ⟨h1, h2, h3⟩ := sent_bound ks n l hk i (by omega)
    have h4 := (hk i (by omega)).packs_len
    refine ⟨?_, ?_, ?_⟩
    · simp only [sentN]; omega
    · simp only [sentN]; omega
    · simp only [sentL, List.length_append, pks_len]; omega
theorem quiet_next (ks : Nat → Lk) (i : Nat) : upd (quietUp ks i) i (ks i).quiet = quietUp ks (i + 1) := by
  funext j
  unfold upd quietUp
  by_cases h : j = i
  · subst h
    rw [if_pos rfl, if_pos (by omega)]
  · rw [if_neg h]
    by_cases h2 : j < i
    · rw [if_pos h2, if_pos (by omega)]
    · rw [if_neg h2, if_neg (by omega)]
theorem quiet_here (ks : Nat → Lk) (i : Nat) : quietUp ks i i = ks i := if_neg (Nat.lt_irrefl i)

set_option maxRecDepth 100000 in
set_option maxHeartbeats 2000000 in
theorem net_send (w : World) (B b g : Nat) (v : Value) (n : Int) (l : List Pkt) (cs : Array Value) (ks : Nat → Lk) (h : Net w B b g v n l cs ks) (hk : ∀ i, i < 2 → LkOk (ks i)) (hn0 : 0 ≤ n) (hn : n < 900000) (hl : l.length < 3900) :
    Calls Try.prog 16 #[.pointer (some ⟨b, 0, none⟩), .pointer (some ⟨g, 0, none⟩)] w fun e w' => e = .returned (.tuple #[]) ∧ (∃ v' cs', Net w' B b g v' (sentN ks n 2) (sentL ks n l 2) cs' (quietUp ks 2)) ∧ Calm B w w' := by
  have H0 := hid h
  have HK := hid hk
  clear h hk
  go_enter Try.func16, Try.ntmps16
  go_wp2
  go_loopw [7] (fun s7 wr => ∃ i : Nat, i ≤ 2 ∧ s7 = .int .i64 i ∧ (∃ v' cs', Net wr B b g v' (sentN ks n i) (sentL ks n l i) cs' (quietUp ks i)) ∧ Calm B w wr) (fun s7 _ => 2 - (intOf s7).toNat)
  case atStart => exact ⟨0, by omega, rfl, ⟨v, cs, H0.out⟩, Calm.refl _ _⟩
  case round =>
    obtain ⟨i, hi, rfl, ⟨v1, cs1, hN⟩, hC⟩ := hrel
    have HN := hid hN
    have HC := hid hC
    clear hN hC
    by_cases hi2 : i < 2
    · have d1 : decide ((i : Int) < 2) = true := decide_eq_true (by omega)
      have hk0 : (0 : Int) ≤ (i : Int) := by omega
      have hk1 : (i : Int) < 2 := by omega
      obtain ⟨hb1, hb2, hb3⟩ := sent_bound ks n l HK.out i hi
      obtain ⟨A, cap, hL⟩ := HN.out.links i hi2
      rw [quiet_here] at hL
      have HL := hid hL
      have hok := HK.out i hi2
      have HOK := hid hok
      have hpl := hok.packs_len
      have ha0 := hok.a0
      have ha1 := hok.a1
      have hc0 := hok.c0
      have hc1 := hok.c1
      have hql := hok.len
      have hB := HN.out.size
      clear hL hok
      go_wp2_with fail
      refine (packets_to HL.out (by omega) (by omega) (by omega) (by omega) (by omega) (fun j hj => by have := HOK.out.text j hj; omega)).mono ?_
      rintro e w1 ⟨⟨A1, cap1, rfl, ht⟩, hto⟩
      obtain ⟨⟨cs2, hN2⟩, hC2⟩ := HN.out.linked hi2 hto
      have hq : upd (quietUp ks i) i ⟨(ks i).q, (ks i).acked, (ks i).came, false⟩ = quietUp ks (i + 1) := quiet_next ks i
      rw [hq] at hN2
      have HN2 := hid hN2
      have HC2 := hid hC2
      have HT := hid ht
      have hps : packs (ks i).acked (ks i).came (ks i).q (ks i).owes = (ks i).packs := rfl
      rw [hps] at ht
      have HT := hid ht
      rw [hps]
      clear hN2 hC2 hto ht hq hps
      have hle := HT.out.le
      generalize hpp : (ks i).packs = ps at *
      have HPP := hid hpp
      have hsm : ∀ j (hj : j < ps.length), ps[j].size ≤ 2000 := by subst hpp; exact HOK.out.packs_small
      have HS := hid hsm
      clear hpp hsm
      go_wp2
      go_loopw [16] (fun s16 wq => ∃ k : Nat, k ≤ ps.length ∧ s16 = .int .i64 k ∧ (∃ v' cs', Net wq B b g v' (sentN ks n i + k) (sentL ks n l i ++ pks i (1 - i) (sentN ks n i) (ps.take k)) cs' (quietUp ks (i + 1))) ∧ Calm B w1 wq) (fun s16 _ => ps.length - (intOf s16).toNat)
      case atStart => exact ⟨0, by omega, rfl, ⟨v1, cs2, by simpa [pks] using HN2.out⟩, Calm.refl _ _⟩
      case round =>
        obtain ⟨k, hk, rfl, ⟨v3, cs3, hN3⟩, hC3⟩ := hrel
        have HN3 := hid hN3
        have HC3 := hid hC3
        clear hN3 hC3
        by_cases hkp : k < ps.length
        · have d2 : decide ((k : Int) < (ps.length : Int)) = true := decide_eq_true (by omega)
          obtain ⟨r, o, rfl, hr, hc⟩ := (HC3.out.txts HT.out).cell k hkp
          have hm0 : (0 : Int) ≤ (k : Int) := by omega
          have hm1 : (k : Int) < (ps.length : Int) := by omega
          have hsz := HS.out k hkp
          go_wp2_with fail
          refine (send_ok wr B b v3 (sentN ks n i + k) (i : Int) (1 - (i : Int)) ps[k] _ HN3.out.bag hsz ?_ (by omega) (by omega) HN3.out.size).mono ?_
          · simp only [List.length_append, pks_len, List.length_take]; omega
          rintro e w2 ⟨rfl, v4, hb4, hm4⟩
          obtain ⟨hn4, hc4⟩ := HN3.out.bagged hb4 hm4
          have HN4 := hid hn4
          have HC4 := hid hc4
          clear hn4 hc4 hb4 hm4
          go_wp2_with fail
          go_roundw
          case rel =>
            refine ⟨k + 1, by omega, by go_num, ⟨v4, cs3, ?_⟩, HC3.out.trans HC4.out⟩
            have h := HN4.out
            rw [pks_snoc _ _ _ _ _ hkp, ← List.append_assoc]
            rw [show sentN ks n i + ((k + 1 : Nat) : Int) = sentN ks n i + (k : Int) + 1 by omega]
            exact h
          case measure => simp [intOf]; omega
        · have d2 : decide ((k : Int) < (ps.length : Int)) = false := decide_eq_false (by omega)
          obtain rfl : k = ps.length := by omega
          go_wp2_with fail
          go_roundw
          case rel =>
            refine ⟨i + 1, by omega, by go_num, ⟨v3, cs3, ?_⟩, HC.out.trans (HC2.out.trans HC3.out)⟩
            have h := HN3.out
            rw [List.take_length] at h
            simp only [sentN, sentL, HPP.out]
            exact h
          case measure => simp [intOf]; omega
    · have d1 : decide ((i : Int) < 2) = false := decide_eq_false (by omega)
      obtain rfl : i = 2 := by omega
      go_wp2_with fail
      go_end0
      exact ⟨rfl, ⟨v1, cs1, HN.out⟩, HC.out⟩
end Go.Proofs.Ytpbagbhoenmpcaa
