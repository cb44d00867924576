/- The code package's Reader over bytes in form, walked. -/
import Derived.Test.YtpbagbhoenmpcaaBagA
import Derived.Test.YtpbagbhoenmpcaaCodeP
namespace Go.Proofs.Ytpbagbhoenmpcaa
set_option linter.unusedVariables false
set_option linter.unusedSimpArgs false
open Go.RowKit

/-- What a Reader is that has met no error. -/
def ReaderAt (w : World) (g : Nat) (s : ByteArray) (p : Nat) : Prop := w.heap[g]? = some (.cells #[.string s, .int .i64 p, .nilIface] 100 (0, 0))

/-- Where the reader stands in a number: i bytes were taken. -/
structure Mid (s : ByteArray) (a n : Nat) (rest : List UInt8) (i acc m : Nat) : Prop where
  le : i ≤ 9
  small_ : acc < 128 ^ i
  sum : acc + m * 128 ^ i = n
  pos : 0 < i → 0 < m
  bytes : s.data.toList.drop (a + i) = encNum m ++ rest

theorem Mid.start {s : ByteArray} {a n : Nat} {rest : List UInt8} (h : s.data.toList.drop a = encNum n ++ rest) : Mid s a n rest 0 0 n :=
  ⟨by omega, by decide, by simp, fun h => absurd h (Nat.lt_irrefl _), h⟩
theorem Mid.bound {s : ByteArray} {a n : Nat} {rest : List UInt8} {i acc m : Nat} (h : Mid s a n rest i acc m) : a + i < s.size := by
  have h1 := congrArg List.length h.bytes
  have h2 := encNum_pos m
  simp only [List.length_drop, List.length_append, Array.length_toList] at h1
  show a + i < s.data.size
  omega
theorem Mid.byte {s : ByteArray} {a n : Nat} {rest : List UInt8} {i acc m : Nat} (h : Mid s a n rest i acc m) (hb : a + i < s.size) : s[a + i] = if 127 < m then UInt8.ofNat (m % 128 + 128) else UInt8.ofNat m := by
  have h1 := congrArg (fun x => x[0]?) h.bytes
  have hl : a + i < s.data.toList.length := by rw [Array.length_toList]; exact hb
  simp only [List.getElem?_drop, Nat.add_zero, List.getElem?_eq_getElem hl] at h1
  have h2 : s.data.toList[a + i] = s[a + i] := by simp; rfl
  rw [h2] at h1
  by_cases hm : 127 < m
  · rw [if_pos hm]
    rw [encNum_big hm] at h1
    simpa using h1
  · rw [if_neg hm]
    rw [encNum_small hm] at h1
    simpa using h1
theorem Mid.small {s : ByteArray} {a n : Nat} {rest : List UInt8} {m acc : Nat} (h : Mid s a n rest 9 acc m) (hn : n < 2 ^ 64) : m < 2 := by
  have := h.sum
  have h9 : (128 : Nat) ^ 9 = 2 ^ 63 := by decide
  rw [h9] at this
  omega
theorem Mid.next {s : ByteArray} {a n : Nat} {rest : List UInt8} {i acc m : Nat} (h : Mid s a n rest i acc m) (hn : n < 2 ^ 64) (hm : 127 < m) : Mid s a n rest (i + 1) (acc + (m % 128) * 128 ^ i) (m / 128) := by
  have hi : i < 9 := by
    rcases Nat.lt_or_ge i 9 with h1 | h1
    · exact h1
    · have : i = 9 := by have := h.le; omega
      subst this
      have := h.small hn
      omega
  have hp : (128 : Nat) ^ (i + 1) = 128 ^ i * 128 := Nat.pow_succ ..
  have hacc := h.small_
  have hsum := h.sum
  refine ⟨by omega, ?_, ?_, fun _ => by omega, ?_⟩
  · rw [hp]
    have h1 : m % 128 * 128 ^ i ≤ 127 * 128 ^ i := Nat.mul_le_mul_right _ (by omega)
    omega
  · rw [← hsum, hp]
    have h1 : m = 128 * (m / 128) + m % 128 := (Nat.div_add_mod m 128).symm
    calc acc + m % 128 * 128 ^ i + m / 128 * (128 ^ i * 128) = acc + (128 * (m / 128) + m % 128) * 128 ^ i := by
          rw [Nat.add_mul, Nat.mul_comm 128 (m / 128), Nat.mul_assoc, Nat.mul_comm 128 (128 ^ i)]; omega
      _ = acc + m * 128 ^ i := by rw [← h1]
  · have := congrArg (List.drop 1) h.bytes
    rw [encNum_big hm] at this
    simpa [Nat.add_assoc] using this
theorem Mid.last {s : ByteArray} {a n : Nat} {rest : List UInt8} {i acc m : Nat} (h : Mid s a n rest i acc m) (hm : ¬ 127 < m) : acc + m * 128 ^ i = n ∧ s.data.toList.drop (a + i + 1) = rest := by
  refine ⟨h.sum, ?_⟩
  have := congrArg (List.drop 1) h.bytes
  rw [encNum_small hm] at this
  simpa using this
theorem or_add (acc c i : Nat) (h : acc < 128 ^ i) : acc ||| (c * 128 ^ i) = acc + c * 128 ^ i := by
  have e : (128 : Nat) ^ i = 2 ^ (7 * i) := by rw [Nat.pow_mul]
  rw [e] at h ⊢
  rw [Nat.mul_comm c, Nat.or_comm, Nat.add_comm, ← Nat.two_pow_add_eq_or_of_lt h]

theorem gather (acc c i : Nat) (hc : c < 256) (ha : acc < 128 ^ i) (hb : acc + (c % 128) * 128 ^ i < 2 ^ 64) :
    bits BinOp.or IntKind.u64 (acc : Int) (IntKind.u64.wrap (IntKind.u64.wrap (bits BinOp.and IntKind.u8 (c : Int) 127) * 2 ^ (7 * i))) = ((acc + (c % 128) * 128 ^ i : Nat) : Int) := by
  have h1 : bits BinOp.and IntKind.u8 (c : Int) 127 = ((c % 128 : Nat) : Int) := by
    have := u8_and_nat c 127 hc (by omega)
    rw [show ((127 : Nat) : Int) = 127 from rfl] at this
    rw [this]
    congr 1
    exact Nat.and_two_pow_sub_one_eq_mod c 7
  have hw : ∀ x : Nat, x < 2 ^ 64 → IntKind.u64.wrap (x : Int) = (x : Int) := by
    intro x hx
    have : IntKind.u64.wrap (x : Int) = (x : Int) % 18446744073709551616 := rfl
    rw [this]; omega
  have h2 : ((c % 128 : Nat) : Int) * 2 ^ (7 * i) = (((c % 128) * 128 ^ i : Nat) : Int) := by
    rw [Int.natCast_mul, Int.natCast_pow]
    congr 1
    rw [Int.pow_mul]
    rfl
  rw [h1, hw _ (by omega), h2, hw _ (by omega), u64_or_nat _ _ (by omega) (by omega), or_add acc (c % 128) i ha]
theorem reader_step {wr : World} {g : Nat} {s : ByteArray} {p : Nat} (h : ReaderAt wr g s p) (q : Nat) : ReaderAt ((wr.drewN q).setCell ⟨g, 1, none⟩ (.int .i64 ((p : Int) + 1))) g s (p + 1) := by
  have := blk_set (w := wr.drewN q) h 1 (.int .i64 ((p : Int) + 1))
  unfold ReaderAt
  rw [this]
  simp
theorem reader_to {wr : World} {g : Nat} {s : ByteArray} {p q t u : Nat} (h : ReaderAt wr g s t) (hp : t = p) (hu : u = p + 1) : ReaderAt ((wr.drewN q).setCell ⟨g, 1, none⟩ (.int .i64 ((p : Int) + 1))) g s u := by
  subst hp hu
  exact reader_step h q
set_option maxRecDepth 100000 in
set_option maxHeartbeats 4000000 in
theorem rnumber_any (w : World) (g : Nat) (s : ByteArray) (a n : Nat) (rest : List UInt8) (h : ReaderAt w g s a) (hn : n < 2 ^ 64) (hs : s.size ≤ 1000000000) (hb : s.data.toList.drop a = encNum n ++ rest) :
    Calls Try.prog 28 #[.pointer (some ⟨g, 0, none⟩)] w fun e w' => e = .returned (.int .u64 n) ∧ ReaderAt w' g s (a + (encNum n).length) ∧ Keep (fun k => k = g) w w' := by
  have H0 := hid h
  have HB := hid hb
  clear h hb
  go_enter Try.func28, Try.ntmps28
  go_wp2
  go_loopw [3, 4] (fun s3 s4 wr => ∃ i acc m : Nat, s3 = .int .u64 acc ∧ s4 = .int .i64 i ∧ Mid s a n rest i acc m ∧ i + (encNum m).length = (encNum n).length ∧ ReaderAt wr g s (a + i) ∧ Keep (fun k => k = g) w wr) (fun _ s4 _ => 10 - (intOf s4).toNat)
  case atStart => exact ⟨0, 0, n, rfl, rfl, Mid.start HB.out, by omega, H0.out, Keep.refl _ _⟩
  case round =>
    obtain ⟨i, acc, m, rfl, rfl, hm, hlen, hr, hk⟩ := hrel
    have hbd := hm.bound
    have hby := hm.byte hbd
    have hle := hm.le
    have HM := hid hm
    have HL := hid hlen
    have HR := hid hr
    have HK := hid hk
    have c0 := blk_cell_some hr 0 rfl
    have c1 := blk_cell_some hr 1 rfl
    have c2 := blk_cell_some hr 2 rfl
    have f1 := blk_frozen hr 1
    clear hm hlen hr hk
    generalize hp : a + i = p at hbd hby c0 c1 c2 f1
    have HP := hid hp
    clear hp
    have e0 : decide ((s.size : Int) ≤ (p : Int)) = false := decide_eq_false (by omega)
    have e0n : decide (s.size ≤ p) = false := decide_eq_false (by omega)
    have hpi : (p : Int) < (s.size : Int) := by omega
    have hacc := HM.out.small_
    have hsum := HM.out.sum
    by_cases hbig : 127 < m
    · rw [if_pos hbig] at hby
      have HBY := hid hby
      clear hby
      have hcv : s[p].toNat = m % 128 + 128 := by have := byte_more m; rw [← HBY.out] at this; omega
      have hX : bits BinOp.or IntKind.u64 (acc : Int) (IntKind.u64.wrap (IntKind.u64.wrap (bits BinOp.and IntKind.u8 (s[p].toNat : Int) 127) * 2 ^ (7 * i))) = ((acc + (m % 128) * 128 ^ i : Nat) : Int) := by
        have h1 : s[p].toNat % 128 = m % 128 := by rw [hcv]; omega
        have h2 : m % 128 * 128 ^ i ≤ m * 128 ^ i := Nat.mul_le_mul_right _ (Nat.mod_le _ _)
        have := gather acc s[p].toNat i (by omega) hacc (by rw [h1]; omega)
        rw [h1] at this
        exact this
      have HX := hid hX
      have tb : decide ((s[p].toNat : Int) < 128) = false := decide_eq_false (by omega)
      have h9 : i ≠ 9 := by
        rintro rfl
        have := HM.out.small hn
        omega
      have g9 : ((i : Int) == 9) = false := beq_eq_false_iff_ne.2 (by omega)
      have z0 : ((s[p].toNat : Int) == 0) = false := beq_eq_false_iff_ne.2 (by omega)
      clear hacc hsum hX hcv h9
      by_cases hi0 : 0 < i
      · have gp : decide (0 < (i : Int)) = true := decide_eq_true (by omega)
        go_wp2_with fail
        go_quiet (fail)
        go_wp2_with fail
        go_quiet (fail)
        go_wp2_with fail
        go_quiet (fail)
        go_wp2_with fail
        go_quiet (fail)
        go_wp2_with fail
        rw [HX.out]
        go_roundw
        case rel => exact ⟨i + 1, _, m / 128, rfl, by go_num, HM.out.next hn hbig, by have := HL.out; rw [encNum_big hbig] at this; simp at this ⊢; omega, reader_to HR.out HP.out (by have := HP.out; omega), (HK.out.drewN _).setCell (p := ⟨g, 1, none⟩) (fun _ => rfl) _⟩
        case measure => simp [intOf]; omega
      · have gp : decide (0 < (i : Int)) = false := decide_eq_false (by omega)
        go_wp2_with fail
        go_quiet (fail)
        go_wp2_with fail
        go_quiet (fail)
        go_wp2_with fail
        go_quiet (fail)
        go_wp2_with fail
        go_quiet (fail)
        go_wp2_with fail
        rw [HX.out]
        go_roundw
        case rel => exact ⟨i + 1, _, m / 128, rfl, by go_num, HM.out.next hn hbig, by have := HL.out; rw [encNum_big hbig] at this; simp at this ⊢; omega, reader_to HR.out HP.out (by have := HP.out; omega), (HK.out.drewN _).setCell (p := ⟨g, 1, none⟩) (fun _ => rfl) _⟩
        case measure => simp [intOf]; omega
    · rw [if_neg hbig] at hby
      have HBY := hid hby
      clear hby
      have hcv : s[p].toNat = m := by have := byte_low m (by omega); rw [← HBY.out] at this; omega
      have hX : bits BinOp.or IntKind.u64 (acc : Int) (IntKind.u64.wrap (IntKind.u64.wrap (bits BinOp.and IntKind.u8 (s[p].toNat : Int) 127) * 2 ^ (7 * i))) = (n : Int) := by
        have h1 : s[p].toNat % 128 = m := by rw [hcv]; omega
        have := gather acc s[p].toNat i (by omega) hacc (by rw [h1]; omega)
        rw [h1, hsum] at this
        exact this
      have HX := hid hX
      have tb : decide ((s[p].toNat : Int) < 128) = true := decide_eq_true (by omega)
      have hpos := HM.out.pos
      have h9m : i = 9 → m < 2 := by
        rintro rfl
        exact HM.out.small hn
      by_cases hi0 : 0 < i
      · have gp : decide (0 < (i : Int)) = true := decide_eq_true (by omega)
        have z0 : ((s[p].toNat : Int) == 0) = false := beq_eq_false_iff_ne.2 (by have := hpos hi0; omega)
        by_cases h9 : i = 9
        · have g9 : ((i : Int) == 9) = true := beq_iff_eq.2 (by omega)
          have z1 : decide ((1 : Int) < (s[p].toNat : Int)) = false := decide_eq_false (by have := h9m h9; omega)
          clear hacc hsum hX hcv hpos h9m h9
          go_wp2_with fail
          go_quiet (fail)
          go_wp2_with fail
          go_quiet (fail)
          go_wp2_with fail
          go_quiet (fail)
          go_wp2_with fail
          go_quiet (fail)
          go_wp2_with fail
          rw [HX.out]
          go_ret
          exact ⟨rfl, reader_to HR.out HP.out (by have h1 := HP.out; have h2 := HL.out; rw [encNum_small hbig] at h2; simp at h2; omega), (HK.out.drewN _).setCell (p := ⟨g, 1, none⟩) (fun _ => rfl) _⟩
        · have g9 : ((i : Int) == 9) = false := beq_eq_false_iff_ne.2 (by omega)
          clear hacc hsum hX hcv hpos h9m h9
          go_wp2_with fail
          go_quiet (fail)
          go_wp2_with fail
          go_quiet (fail)
          go_wp2_with fail
          go_quiet (fail)
          go_wp2_with fail
          go_quiet (fail)
          go_wp2_with fail
          rw [HX.out]
          go_ret
          exact ⟨rfl, reader_to HR.out HP.out (by have h1 := HP.out; have h2 := HL.out; rw [encNum_small hbig] at h2; simp at h2; omega), (HK.out.drewN _).setCell (p := ⟨g, 1, none⟩) (fun _ => rfl) _⟩
      · have gp : decide (0 < (i : Int)) = false := decide_eq_false (by omega)
        have g9 : ((i : Int) == 9) = false := beq_eq_false_iff_ne.2 (by omega)
        clear hacc hsum hX hcv hpos h9m
        go_wp2_with fail
        go_quiet (fail)
        go_wp2_with fail
        go_quiet (fail)
        go_wp2_with fail
        go_quiet (fail)
        go_wp2_with fail
        go_quiet (fail)
        go_wp2_with fail
        rw [HX.out]
        go_ret
        exact ⟨rfl, reader_to HR.out HP.out (by have h1 := HP.out; have h2 := HL.out; rw [encNum_small hbig] at h2; simp at h2; omega), (HK.out.drewN _).setCell (p := ⟨g, 1, none⟩) (fun _ => rfl) _⟩
end Go.Proofs.Ytpbagbhoenmpcaa
