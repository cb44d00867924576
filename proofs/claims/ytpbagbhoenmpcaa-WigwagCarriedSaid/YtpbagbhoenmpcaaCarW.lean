/- The law WigwagCarried, walked: it returns true. -/
import Derived.Test.YtpbagbhoenmpcaaCarC
import Derived.Deep.CutBlock
import Derived.Deep.DeepCutAuto
namespace Go.Proofs.Ytpbagbhoenmpcaa
set_option linter.unusedVariables false
set_option linter.unusedSimpArgs false
open Go.RowKit

structure Trip where
  kd : Int
  nn : Int
  s : ByteArray
/-- Three cells an element. -/
def TripsAt (w : World) (A : Option Addr) (l : List Trip) : Prop := ∀ (k : Nat) (h : k < l.length), ∃ r o, A = some ⟨r, o, none⟩ ∧ r < w.heap.size ∧ w.cell? ⟨r, o + k * 3, none⟩ = some (.int .i64 (l[k]).kd) ∧ w.cell? ⟨r, o + k * 3 + 1, none⟩ = some (.int .i64 (l[k]).nn) ∧ w.cell? ⟨r, o + k * 3 + 2, none⟩ = some (.string (l[k]).s)

theorem wpOp_mid2 {P : Program} {ops : Array Oper} {w : World} {Q : Exit → Act → World → Prop} {n : Nat} {K : Act → World → Prop} {a : Act} {o : Oper} (ho : ops[n]? = some o) (hg : Region.wanted o (yielded ops a.tmps) = true) (h : o.wp P a w K Q) : wpOp P ops Q n K a w := by
  unfold wpOp
  simp only [ho, hg, if_true]
  exact .inl h
set_option maxRecDepth 100000 in
set_option maxHeartbeats 4000000 in
theorem carried_walk (A : Option Addr) (ts : List Trip) (cap : Nat) (w : World) (ht : TripsAt w A ts) (hl : ts.length ≤ 9223372036854775807) (hs : ∀ q ∈ ts, q.s.size ≤ 9223372036854775807) :
    Calls Try.prog 4 #[.slice A ts.length cap] w fun e w' => e = .returned (.bool true) ∧ Below w.heap.size w w' := by
  have HT := hid ht
  have HS := hid hs
  clear ht hs
  go_enter Try.func4, Try.ntmps4
  go_wp2_with fail
  have hm0 := mem_start w
  refine (mem_idle ⟨_, hm0⟩ (i := 0) (by decide)).mono ?_
  rintro e w1 ⟨rfl, rfl⟩
  have HM0 := hid hm0
  clear hm0
  go_wp2_with fail
  refine (mem_len ⟨_, HM0.out⟩).mono ?_
  rintro e w1 ⟨rfl, rfl⟩
  go_wp2_with fail
  refine (first_send HM0.out).mono ?_
  rintro e w1 ⟨rfl, h1⟩
  have H1 := hid h1
  clear h1
  go_wp2_with fail
  refine (first_take H1.out).mono ?_
  rintro e w2 ⟨rfl, h2⟩
  have H2 := hid h2
  clear h2
  unfold pk1 Pkt.val
  go_upto_block 0 with (fail)
  go_cut [] (fun wx => ∃ s, Mem w.heap.size w wx s ∧ Ok s ∧ Cnt s 80)
  case first =>
    go_wp2_with fail
    go_loopw [11] (fun s11 wr => ∃ i : Nat, i ≤ 80 ∧ i ≤ ts.length ∧ s11 = .int .i64 i ∧ ∃ s, Mem w.heap.size w wr s ∧ Ok s ∧ Cnt s i) (fun s11 _ => 80 - (intOf s11).toNat)
    case atStart => exact ⟨0, by omega, by omega, rfl, St0 1, H2.out.later ((Below.refl _ w2).alloc (Nat.le_refl _) _), St0.ok, Cnt.start⟩
    case round =>
      obtain ⟨i, hi, hil, rfl, s, hM, hO, hC⟩ := hrel
      have HM := hid hM
      have HO := hid hO
      have HC := hid hC
      clear hM hO hC
      by_cases hlt : i < ts.length ∧ i < 80
      · obtain ⟨hlt1, hlt2⟩ := hlt
        have d80 : decide ((i : Int) < 80) = true := decide_eq_true (by omega)
        obtain ⟨r, o, rfl, hr, c0, c1, c2⟩ := HT.out i hlt1
        have hbl := HM.out.bel
        rw [← hbl.cell (p := ⟨r, _, none⟩) hr] at c0 c1 c2
        have hz := HS.out _ (List.getElem_mem hlt1)
        generalize ts[i].kd = kd at c0
        generalize ts[i].nn = nn at c1
        generalize ts[i].s = tx at c2 hz
        have hs0 := hbl.size
        have HBL := hid hbl
        clear hbl
        have HM1 := hid (HM.out.later ((Below.refl wr.heap.size wr).alloc (Nat.le_refl _) (.cells #[.int .i64 kd, .int .i64 nn, .string tx] 46)))
        go_upto_block 2 with (fail)
        go_cut [] (fun wx => ∃ s, Mem w.heap.size w wx s ∧ Ok s ∧ Cnt s (i + 1))
        case first =>
          have H12 := hid (blk_new wr (.cells #[.int .i64 kd, .int .i64 nn, .string tx] 46))
          by_cases k1 : kd = 1
          · subst k1
            go_wp2_with fail
            refine (mem_send HM1.out HO.out HC.out.n0 (by have := HC.out.n1; omega) (by have := HC.out.l; omega)).mono ?_
            rintro e w1 ⟨rfl, hm, hc⟩
            have HM2 := hid hm
            clear hm hc
            go_wp2_with fail
            go_meet
            case rel => exact ⟨s.sent, HM2.out, HO.out.sent, HC.out.sent⟩
          · by_cases k5 : kd = 2 ∨ kd = 3 ∨ kd = 4
            · skip
              obtain ⟨v, hv⟩ := HM1.out
              have HV := hid hv
              clear hv k1
              have hlen : s.l.length ≤ 10000 := by have := HC.out.l; omega
              rcases k5 with rfl | rfl | rfl
              · as_aux_lemma =>
                  go_wp2_with fail
                  refine (mem_all HV.out hlen).mono ?_
                  rintro e w1 ⟨vs, rfl, ho, hb⟩
                  have hx := HV.out.later hb
                  have HX := hid hx
                  have HO1 := hid ho
                  obtain ⟨A2, cap2, rfl⟩ := ownsRow_slice ho
                  have HB := hid hb
                  have h12 := Below.blk hb H12.out (by simp)
                  have t0 := blk_cell_some h12 0 rfl
                  have t1 := blk_cell_some h12 1 rfl
                  have H12' := hid h12
                  have hl12 := blk_lt h12
                  rw [enc_len]
                  clear ho hb hx h12
                  by_cases hz0 : s.l.length = 0
                  · have z0 : ((s.l.length : Int) == 0) = true := by rw [hz0]; rfl
                    go_wp2_with fail
                    exact ⟨⟨i + 1, by omega, by omega, by go_num, s, ⟨_, HX.out⟩, HO.out, HC.out.more⟩, by simp [intOf]; omega⟩
                  · have z0 : ((s.l.length : Int) == 0) = false := beq_eq_false_iff_ne.2 (by omega)
                    by_cases hn0 : nn < 0
                    · have z1 : decide (nn < 0) = true := decide_eq_true hn0
                      go_wp2_with fail
                      exact ⟨⟨i + 1, by omega, by omega, by go_num, s, ⟨_, HX.out⟩, HO.out, HC.out.more⟩, by simp [intOf]; omega⟩
                    · have z1 : decide (nn < 0) = false := decide_eq_false hn0
                      obtain ⟨m, rfl⟩ := Int.eq_ofNat_of_zero_le (show 0 ≤ nn by omega)
                      obtain ⟨k, hk⟩ : ∃ k, m % s.l.length = k := ⟨_, rfl⟩
                      have hkl : k < s.l.length := by rw [← hk]; exact Nat.mod_lt _ (by omega)
                      have hrem : ((m : Int) % (s.l.length : Int)) = (k : Int) := by rw [← hk]; exact (Int.natCast_emod m s.l.length).symm
                      have hk0 : (0 : Int) ≤ (k : Int) := by omega
                      have hk1 : (k : Int) < (s.l.length : Int) := by omega
                      obtain ⟨rs, hrs, hrsl, c0, c1, c2, c3⟩ := pkts_of_own (by rw [enc_len]) HO1.out k (by rw [enc_len]; exact hkl)
                      subst hrs
                      rw [enc_get s hkl] at c0 c1 c2 c3
                      have HPK := hid (HO.out.pk _ (List.getElem_mem hkl))
                      have HTK := hid (fun w0 wr v (h : MemV w.heap.size w0 wr v s) => mem_take h HO.out hkl hlen)
                      have HCP := hid (fun w0 wr v (h : MemV w.heap.size w0 wr v s) => mem_copy h HO.out hkl (by have := HC.out.l; omega) HC.out.n0 (by have := HC.out.n1; omega))
                      generalize s.l[k] = p at *
                      simp only [DP.enc] at c0 c1 c2 c3
                      clear hk hn0 hz0
                      go_wp2_with fail
                      refine (HTK.out _ _ _ (HX.out.later ((Below.refl w1.heap.size w1).alloc (Nat.le_refl _) (.cells #[.int .i64 p.id, .int .i64 p.fr, .int .i64 p.dest, .string (pkt p.n p.c p.t)] 32)))).mono ?_
                      rintro e w3 ⟨rfl, v3, hm3, _, hc3⟩
                      have h12b := hc3.2 _ _ 46 (by decide) (by decide) (by decide) (blk_old H12'.out (.cells #[.int .i64 p.id, .int .i64 p.fr, .int .i64 p.dest, .string (pkt p.n p.c p.t)] 32))
                      have t0b := blk_cell_some h12b 0 rfl
                      have hl12b := blk_lt h12b
                      have HM3 := hid (hm3.later ((Below.refl w3.heap.size w3).alloc (Nat.le_refl _) (.cells #[.int .i64 p.id, .int .i64 p.fr, .int .i64 p.dest, .string (pkt p.n p.c p.t)] 32)))
                      have HOL := hid (HO.out.lose k)
                      have HPL := hid (show PkIn (s.lose k) p from HPK.out.left _)
                      clear hm3 hc3 h12b
                      simp only [Pkt.val, DP.enc]
                      go_wp2_with fail
                      refine (mem_arrive HM3.out HOL.out HPL.out).mono ?_
                      rintro e w4 ⟨rfl, hm4, _⟩
                      have HM4 := hid hm4
                      clear hm4
                      go_wp2_with fail
                      go_meet
                      case rel => exact ⟨(s.lose k).arr p, ⟨_, HM4.out⟩, HOL.out.arr HPL.out, (HC.out.lose k).arr p⟩
              · as_aux_lemma =>
                  go_wp2_with fail
                  refine (mem_all HV.out hlen).mono ?_
                  rintro e w1 ⟨vs, rfl, ho, hb⟩
                  have hx := HV.out.later hb
                  have HX := hid hx
                  have HO1 := hid ho
                  obtain ⟨A2, cap2, rfl⟩ := ownsRow_slice ho
                  have HB := hid hb
                  have h12 := Below.blk hb H12.out (by simp)
                  have t0 := blk_cell_some h12 0 rfl
                  have t1 := blk_cell_some h12 1 rfl
                  have H12' := hid h12
                  have hl12 := blk_lt h12
                  rw [enc_len]
                  clear ho hb hx h12
                  by_cases hz0 : s.l.length = 0
                  · have z0 : ((s.l.length : Int) == 0) = true := by rw [hz0]; rfl
                    go_wp2_with fail
                    exact ⟨⟨i + 1, by omega, by omega, by go_num, s, ⟨_, HX.out⟩, HO.out, HC.out.more⟩, by simp [intOf]; omega⟩
                  · have z0 : ((s.l.length : Int) == 0) = false := beq_eq_false_iff_ne.2 (by omega)
                    by_cases hn0 : nn < 0
                    · have z1 : decide (nn < 0) = true := decide_eq_true hn0
                      go_wp2_with fail
                      exact ⟨⟨i + 1, by omega, by omega, by go_num, s, ⟨_, HX.out⟩, HO.out, HC.out.more⟩, by simp [intOf]; omega⟩
                    · have z1 : decide (nn < 0) = false := decide_eq_false hn0
                      obtain ⟨m, rfl⟩ := Int.eq_ofNat_of_zero_le (show 0 ≤ nn by omega)
                      obtain ⟨k, hk⟩ : ∃ k, m % s.l.length = k := ⟨_, rfl⟩
                      have hkl : k < s.l.length := by rw [← hk]; exact Nat.mod_lt _ (by omega)
                      have hrem : ((m : Int) % (s.l.length : Int)) = (k : Int) := by rw [← hk]; exact (Int.natCast_emod m s.l.length).symm
                      have hk0 : (0 : Int) ≤ (k : Int) := by omega
                      have hk1 : (k : Int) < (s.l.length : Int) := by omega
                      obtain ⟨rs, hrs, hrsl, c0, c1, c2, c3⟩ := pkts_of_own (by rw [enc_len]) HO1.out k (by rw [enc_len]; exact hkl)
                      subst hrs
                      rw [enc_get s hkl] at c0 c1 c2 c3
                      have HPK := hid (HO.out.pk _ (List.getElem_mem hkl))
                      have HTK := hid (fun w0 wr v (h : MemV w.heap.size w0 wr v s) => mem_take h HO.out hkl hlen)
                      have HCP := hid (fun w0 wr v (h : MemV w.heap.size w0 wr v s) => mem_copy h HO.out hkl (by have := HC.out.l; omega) HC.out.n0 (by have := HC.out.n1; omega))
                      generalize s.l[k] = p at *
                      simp only [DP.enc] at c0 c1 c2 c3
                      clear hk hn0 hz0
                      go_wp2_with fail
                      refine (HTK.out _ _ _ (HX.out.later ((Below.refl w1.heap.size w1).alloc (Nat.le_refl _) (.cells #[.int .i64 p.id, .int .i64 p.fr, .int .i64 p.dest, .string (pkt p.n p.c p.t)] 32)))).mono ?_
                      rintro e w3 ⟨rfl, v3, hm3, _, hc3⟩
                      have h12b := hc3.2 _ _ 46 (by decide) (by decide) (by decide) (blk_old H12'.out (.cells #[.int .i64 p.id, .int .i64 p.fr, .int .i64 p.dest, .string (pkt p.n p.c p.t)] 32))
                      have t0b := blk_cell_some h12b 0 rfl
                      have hl12b := blk_lt h12b
                      have HM3 := hid (hm3.later ((Below.refl w3.heap.size w3).alloc (Nat.le_refl _) (.cells #[.int .i64 p.id, .int .i64 p.fr, .int .i64 p.dest, .string (pkt p.n p.c p.t)] 32)))
                      have HOL := hid (HO.out.lose k)
                      have HPL := hid (show PkIn (s.lose k) p from HPK.out.left _)
                      clear hm3 hc3 h12b
                      simp only [Pkt.val, DP.enc]
                      go_wp2_with fail
                      go_meet
                      case rel => exact ⟨s.lose k, ⟨_, HM3.out⟩, HOL.out, HC.out.lose k⟩
              · as_aux_lemma =>
                  go_wp2_with fail
                  refine (mem_all HV.out hlen).mono ?_
                  rintro e w1 ⟨vs, rfl, ho, hb⟩
                  have hx := HV.out.later hb
                  have HX := hid hx
                  have HO1 := hid ho
                  obtain ⟨A2, cap2, rfl⟩ := ownsRow_slice ho
                  have HB := hid hb
                  have h12 := Below.blk hb H12.out (by simp)
                  have t0 := blk_cell_some h12 0 rfl
                  have t1 := blk_cell_some h12 1 rfl
                  have H12' := hid h12
                  have hl12 := blk_lt h12
                  rw [enc_len]
                  clear ho hb hx h12
                  by_cases hz0 : s.l.length = 0
                  · have z0 : ((s.l.length : Int) == 0) = true := by rw [hz0]; rfl
                    go_wp2_with fail
                    exact ⟨⟨i + 1, by omega, by omega, by go_num, s, ⟨_, HX.out⟩, HO.out, HC.out.more⟩, by simp [intOf]; omega⟩
                  · have z0 : ((s.l.length : Int) == 0) = false := beq_eq_false_iff_ne.2 (by omega)
                    by_cases hn0 : nn < 0
                    · have z1 : decide (nn < 0) = true := decide_eq_true hn0
                      go_wp2_with fail
                      exact ⟨⟨i + 1, by omega, by omega, by go_num, s, ⟨_, HX.out⟩, HO.out, HC.out.more⟩, by simp [intOf]; omega⟩
                    · have z1 : decide (nn < 0) = false := decide_eq_false hn0
                      obtain ⟨m, rfl⟩ := Int.eq_ofNat_of_zero_le (show 0 ≤ nn by omega)
                      obtain ⟨k, hk⟩ : ∃ k, m % s.l.length = k := ⟨_, rfl⟩
                      have hkl : k < s.l.length := by rw [← hk]; exact Nat.mod_lt _ (by omega)
                      have hrem : ((m : Int) % (s.l.length : Int)) = (k : Int) := by rw [← hk]; exact (Int.natCast_emod m s.l.length).symm
                      have hk0 : (0 : Int) ≤ (k : Int) := by omega
                      have hk1 : (k : Int) < (s.l.length : Int) := by omega
                      obtain ⟨rs, hrs, hrsl, c0, c1, c2, c3⟩ := pkts_of_own (by rw [enc_len]) HO1.out k (by rw [enc_len]; exact hkl)
                      subst hrs
                      rw [enc_get s hkl] at c0 c1 c2 c3
                      have HPK := hid (HO.out.pk _ (List.getElem_mem hkl))
                      have HTK := hid (fun w0 wr v (h : MemV w.heap.size w0 wr v s) => mem_take h HO.out hkl hlen)
                      have HCP := hid (fun w0 wr v (h : MemV w.heap.size w0 wr v s) => mem_copy h HO.out hkl (by have := HC.out.l; omega) HC.out.n0 (by have := HC.out.n1; omega))
                      generalize s.l[k] = p at *
                      simp only [DP.enc] at c0 c1 c2 c3
                      clear hk hn0 hz0
                      go_wp2_with fail
                      refine (HCP.out _ _ _ (HX.out.later ((Below.refl w1.heap.size w1).alloc (Nat.le_refl _) (.cells #[.int .i64 p.id, .int .i64 p.fr, .int .i64 p.dest, .string (pkt p.n p.c p.t)] 32)))).mono ?_
                      rintro e w3 ⟨⟨x, rfl⟩, hm3, _⟩
                      have HM3 := hid hm3
                      clear hm3
                      go_wp2_with fail
                      exact ⟨⟨i + 1, by omega, by omega, by go_num, s.dup p, HM3.out, HO.out.dup HPK.out, HC.out.dup p⟩, by simp [intOf]; omega⟩
            · by_cases k6 : kd = 5 ∨ kd = 6
              · skip
                obtain ⟨v, hv⟩ := HM1.out
                have HV := hid hv
                clear hv k1 k5
                rcases k6 with rfl | rfl
                · as_aux_lemma =>
                    go_wp2_with fail
                    refine (cut_any _ tx hz).mono ?_
                    rintro e w1 ⟨⟨t, rfl, ht⟩, rfl⟩
                    by_cases hq : (s.ks 0).q.length < 64
                    · go_wp2_with fail
                      refine (mem_push HV.out (d := 0) (by decide) (by omega) hq).mono ?_
                      rintro e w5 ⟨rfl, hm5, hc5⟩
                      have h12b := hc5.2 _ _ 46 (by decide) (by decide) (by decide) H12.out
                      have HM5 := hid hm5
                      obtain ⟨cs, ds, es, _, hp5, _, _⟩ := hm5
                      obtain ⟨A2, c2, e2, t2, hn2⟩ := hp5.2 0 (by decide)
                      have x0 := blk_cell_some h12b 0 rfl
                      have x1 : w5.cell? ⟨w.heap.size + 1 + 1, 0, none⟩ = some (.slice A2 (s.put 0).length c2) := blk_cell_some hp5.1 0 e2
                      have x2 := blk_frozen hp5.1 0
                      have hpl := blk_lt hp5.1
                      have hbl := blk_lt h12b
                      have HTX := hid (show Txts w5 A2 c2 (s.put 0) from t2)
                      have HNL := hid (show s.put 0 = [] → A2 = none ∧ c2 = 0 from hn2)
                      have hne : wr.heap.size ≠ w.heap.size + 1 + 1 := fun e => by have := HM.out.elim fun v h => h.gt; omega
                      have L3 : (s.put 0).length < 1000 := by have := HC.out.put 0 (by decide); omega
                      have L1 : (s.put 0).length ≤ 100000 := by omega
                      have L2 : (s.put 0).length + 1 ≤ 100000 := by omega
                      have hwj : IntKind.i64.wrap 0 = 0 := by decide
                      clear hc5 h12b hp5 e2 t2 hn2
                      go_wp2_with fail
                      have X0 := hid x0
                      have X1 := hid x1
                      have X2 := hid x2
                      have O1 := hid (show ((w5.alloc (.cells #[] 9)).drew).ownsRow w5.heap.size 9 1 (.slice (some ⟨w5.heap.size, 0, none⟩) 0 0) 0 (tcells []) from (World.ownsRow_made w5 #[] 0 (Nat.le_refl _) (by decide) rfl).drew)
                      have O2 := hid (show (((w5.alloc (.cells #[] 9)).alloc (.cells #[.string t] 9)).drew).ownsRow w5.heap.size 9 1 (.slice (some ⟨w5.heap.size, 0, none⟩) 0 0) 0 (tcells []) from ((World.ownsRow_made w5 #[] 0 (Nat.le_refl _) (by decide) rfl).alloc _).drew)
                      have O3 := hid (show (((w5.alloc (.cells #[.string t] 9)).alloc (.cells #[] 9)).drew).ownsRow w5.heap.size 9 1 (.slice (some ⟨w5.heap.size + 1, 0, none⟩) 0 0) 0 (tcells []) from (by have h := (World.ownsRow_made (base := w5.heap.size) (e := 9) (size := 1) (w5.alloc (.cells #[.string t] 9)) #[] 0 (by rw [size_alloc]; omega) (by decide) rfl).drew; rw [size_alloc] at h; exact h))
                      have T2 := hid (show (((w5.alloc (.cells #[] 9)).alloc (.cells #[.string t] 9)).drew).heap[w5.heap.size + 1]? = some (.cells #[.string t] 9 (0, 0)) from (by have h := blk_new (w5.alloc (.cells #[] 9)) (.cells #[.string t] 9); rw [size_alloc] at h; exact h))
                      have T3 := hid (show (((w5.alloc (.cells #[.string t] 9)).alloc (.cells #[] 9)).drew).heap[w5.heap.size]? = some (.cells #[.string t] 9 (0, 0)) from blk_old (blk_new w5 (.cells #[.string t] 9)) (.cells #[] 9))
                      have B1 := hid (show Below w5.heap.size w5 ((w5.alloc (.cells #[] 9)).drew) from ((Below.refl _ w5).alloc (Nat.le_refl _) _).drew)
                      have B2 := hid (show Below w5.heap.size w5 (((w5.alloc (.cells #[] 9)).alloc (.cells #[.string t] 9)).drew) from (((Below.refl _ w5).alloc (Nat.le_refl _) _).alloc (by simp) _).drew)
                      have B3 := hid (show Below w5.heap.size w5 (((w5.alloc (.cells #[.string t] 9)).alloc (.cells #[] 9)).drew) from (((Below.refl _ w5).alloc (Nat.le_refl _) _).alloc (by simp) _).drew)
                      have N2 := hid (show (some w5.heap.size : Option Nat) ≠ some (w5.heap.size + 1) from by intro e; injection e with e; exact Nat.succ_ne_self _ e.symm)
                      have N3 := hid (show (some (w5.heap.size + 1) : Option Nat) ≠ some w5.heap.size from by intro e; injection e with e; exact Nat.succ_ne_self _ e)
                      have M1 : 0 < 1 := Nat.zero_lt_one
                      refine wp_region_last 14 (fun w' => w'.cell? ⟨wr.heap.size, 0, none⟩ = some (.int .i64 5) ∧ w'.cell? ⟨w.heap.size + 1 + 1, 0, none⟩ = some (.slice A2 (s.put 0).length c2)) (by kernel_rfl) ?_
                      have hHeld : (w5.drew.cell? ⟨wr.heap.size, 0, none⟩ = some (.int .i64 5) ∧ w5.drew.cell? ⟨w.heap.size + 1 + 1, 0, none⟩ = some (.slice A2 (s.put 0).length c2)) := ⟨x0, x1⟩
                      refine wpAnyL_take 0 (v := ?_) (by kernel_rfl) rfl (by kernel_rfl) (fun _ _ _ h => h) rfl ?_ hHeld ?_
                      rotate_left
                      · intro w hSw; (try dsimp only at hSw); go_simp; try with_reducible rfl
                      try simp only [Act.put, List.setIfInBounds_toArray, List.set_cons_zero, List.set_cons_succ]
                      refine wpAnyL_take 1 (v := ?_) (by kernel_rfl) rfl (by kernel_rfl) (fun _ _ _ h => h) rfl ?_ hHeld ?_
                      rotate_left
                      · intro w hSw; (try dsimp only at hSw); go_simp; try with_reducible rfl
                      try simp only [Act.put, List.setIfInBounds_toArray, List.set_cons_zero, List.set_cons_succ]
                      refine wpAnyL_take 2 (v := ?_) (by kernel_rfl) rfl (by kernel_rfl) (fun _ _ _ h => h) rfl ?_ hHeld ?_
                      rotate_left
                      · intro w hSw; (try dsimp only at hSw); go_simp; try with_reducible rfl
                      try simp only [Act.put, List.setIfInBounds_toArray, List.set_cons_zero, List.set_cons_succ]
                      refine wpAnyL_take 4 (v := ?_) (by kernel_rfl) rfl (by kernel_rfl) (fun _ _ _ h => h) rfl ?_ hHeld ?_
                      rotate_left
                      · intro w hSw; (try dsimp only at hSw); go_simp; try with_reducible rfl
                      try simp only [Act.put, List.setIfInBounds_toArray, List.set_cons_zero, List.set_cons_succ]
                      refine wpAnyL_take 5 (v := ?_) (by kernel_rfl) rfl (by kernel_rfl) (fun _ _ _ h => h) rfl ?_ hHeld ?_
                      rotate_left
                      · intro w hSw; (try dsimp only at hSw); go_simp; try with_reducible rfl
                      try simp only [Act.put, List.setIfInBounds_toArray, List.set_cons_zero, List.set_cons_succ]
                      refine wpAnyL_take 6 (v := ?_) (by kernel_rfl) rfl (by kernel_rfl) (fun _ _ _ h => h) rfl ?_ hHeld ?_
                      rotate_left
                      · intro w hSw; (try dsimp only at hSw); go_simp; try with_reducible rfl
                      try simp only [Act.put, List.setIfInBounds_toArray, List.set_cons_zero, List.set_cons_succ]
                      refine wpAnyL_take 7 (v := ?_) (by kernel_rfl) rfl (by kernel_rfl) (fun _ _ _ h => h) rfl ?_ hHeld ?_
                      rotate_left
                      · intro w hSw; (try dsimp only at hSw); go_simp; try with_reducible rfl
                      try simp only [Act.put, List.setIfInBounds_toArray, List.set_cons_zero, List.set_cons_succ]
                      refine wpAnyL_take 8 (v := ?_) (by kernel_rfl) rfl (by kernel_rfl) (fun _ _ _ h => h) rfl ?_ hHeld ?_
                      rotate_left
                      · intro w hSw; (try dsimp only at hSw); go_simp; try with_reducible rfl
                      try simp only [Act.put, List.setIfInBounds_toArray, List.set_cons_zero, List.set_cons_succ]
                      refine wpAnyL_take 10 (v := ?_) (by kernel_rfl) rfl (by kernel_rfl) (fun _ _ _ h => h) rfl ?_ hHeld ?_
                      rotate_left
                      · intro w hSw; (try dsimp only at hSw); go_simp; try with_reducible rfl
                      try simp only [Act.put, List.setIfInBounds_toArray, List.set_cons_zero, List.set_cons_succ]
                      clear hHeld
                      refine wpAnyL_all [3, 11] (by kernel_rfl) (by decide) ?_
                      refine AllL.cons (i := 3) rfl (by kernel_rfl) (fun K hK => ?_) ?_
                      · go_simp
                        refine hK.out _ _ ?_ (fun hHeld2 => ?_)
                        · first | go_keep | exact ⟨hy0, hy1⟩
                        clear hK K
                        try simp only [Act.put, List.setIfInBounds_toArray, List.set_cons_zero, List.set_cons_succ]
                        refine wpAnyL_all [9, 11] (by kernel_rfl) (by decide) ?_
                        refine AllL.cons (i := 9) rfl (by kernel_rfl) (fun K hK => ?_) ?_
                        · refine step_inner (w2 := w5) rfl _ _ rfl rfl rfl O1.out HTX.out HNL.out rfl B1.out rfl L1 B1.out.size ?_; intro g1 cap3 w3 h1 h2 h3; have TI := hid (blk_new w3 (.cells #[.string t] 9)); have OI := hid (h1.alloc (.cells #[.string t] 9)); have BI := hid (h3.alloc (Nat.le_trans B1.out.size h2.size) (.cells #[.string t] 9)); have hy0 := cell_next h3 X0.out; have hy1 := cell_next h3 X1.out; have hy2 := frozen_next h3 hpl X2.out; clear h1 h2 h3
                          refine hK.out _ _ ?_ (fun hHeld2 => ?_)
                          · first | go_keep | exact ⟨hy0, hy1⟩
                          clear hK K
                          try simp only [Act.put, List.setIfInBounds_toArray, List.set_cons_zero, List.set_cons_succ]
                          refine wpAnyL_all [11] (by kernel_rfl) (by decide) ?_
                          refine AllL.cons (i := 11) rfl (by kernel_rfl) (fun K hK => ?_) ?_
                          · go_simp
                            refine hK.out _ _ ?_ (fun hHeld2 => ?_)
                            · first | go_keep | exact ⟨hy0, hy1⟩
                            clear hK K
                            try simp only [Act.put, List.setIfInBounds_toArray, List.set_cons_zero, List.set_cons_succ]
                            refine wpAnyL_all [12] (by kernel_rfl) (by decide) ?_
                            refine AllL.cons (i := 12) rfl (by kernel_rfl) (fun K hK => ?_) ?_
                            · refine step_grow (w2 := w5) (news := [t]) rfl _ _ rfl rfl rfl OI.out (one_news TI.out) BI.out rfl M1 L2 BI.out.size ?_; intro g1 cap3 w3 h1 h2 h3; have HH := hid h1; have HB := hid h3; have hy0 := cell_next h3 X0.out; have hy1 := cell_next h3 X1.out; have hy2 := frozen_next h3 hpl X2.out; clear h1 h2 h3
                              refine hK.out _ _ ?_ (fun hHeld2 => ?_)
                              · first | go_keep | exact ⟨hy0, hy1⟩
                              clear hK K
                              try simp only [Act.put, List.setIfInBounds_toArray, List.set_cons_zero, List.set_cons_succ]
                              refine wpAnyL_take 13 (v := ?_) (by kernel_rfl) rfl (by kernel_rfl) (fun _ _ _ h => h) rfl ?_ hHeld2 ?_
                              rotate_left
                              · intro w hSw; (try dsimp only at hSw); go_simp; try with_reducible rfl
                              try simp only [Act.put, List.setIfInBounds_toArray, List.set_cons_zero, List.set_cons_succ]
                              refine wpAnyL_all [14] (by kernel_rfl) (by decide) ?_
                              refine AllL.last rfl (by kernel_rfl) (fun K hK => ?_)
                              go_simp
                              refine hK.out _ _ ?_
                              clear hK K
                              go_wp2_with fail
                              go_meet
                              case rel => exact ⟨s.push 0 t, ⟨v, mem_put HM5.out (by decide) HB.out HH.out rfl⟩, HO.out.push (by decide) (by omega) hq L3, HC.out.push 0 t⟩
                            exact AllL.nil
                          exact AllL.nil
                        refine AllL.cons (i := 11) rfl (by kernel_rfl) (fun K hK => ?_) ?_
                        · go_simp
                          refine hK.out _ _ ?_ (fun hHeld2 => ?_)
                          · first | go_keep | exact ⟨hy0, hy1⟩
                          clear hK K
                          try simp only [Act.put, List.setIfInBounds_toArray, List.set_cons_zero, List.set_cons_succ]
                          refine wpAnyL_all [9] (by kernel_rfl) (by decide) ?_
                          refine AllL.cons (i := 9) rfl (by kernel_rfl) (fun K hK => ?_) ?_
                          · refine step_inner (w2 := w5) rfl _ _ rfl rfl rfl O2.out HTX.out HNL.out rfl B2.out rfl L1 B2.out.size ?_; intro g1 cap3 w3 h1 h2 h3; have TI := hid (grown_blk T2.out h2 N2.out); have OI := hid h1; have BI := hid h3; have hy0 := cell_next h3 X0.out; have hy1 := cell_next h3 X1.out; have hy2 := frozen_next h3 hpl X2.out; clear h1 h2 h3
                            refine hK.out _ _ ?_ (fun hHeld2 => ?_)
                            · first | go_keep | exact ⟨hy0, hy1⟩
                            clear hK K
                            try simp only [Act.put, List.setIfInBounds_toArray, List.set_cons_zero, List.set_cons_succ]
                            refine wpAnyL_all [12] (by kernel_rfl) (by decide) ?_
                            refine AllL.cons (i := 12) rfl (by kernel_rfl) (fun K hK => ?_) ?_
                            · refine step_grow (w2 := w5) (news := [t]) rfl _ _ rfl rfl rfl OI.out (one_news TI.out) BI.out rfl M1 L2 BI.out.size ?_; intro g1 cap3 w3 h1 h2 h3; have HH := hid h1; have HB := hid h3; have hy0 := cell_next h3 X0.out; have hy1 := cell_next h3 X1.out; have hy2 := frozen_next h3 hpl X2.out; clear h1 h2 h3
                              refine hK.out _ _ ?_ (fun hHeld2 => ?_)
                              · first | go_keep | exact ⟨hy0, hy1⟩
                              clear hK K
                              try simp only [Act.put, List.setIfInBounds_toArray, List.set_cons_zero, List.set_cons_succ]
                              refine wpAnyL_take 13 (v := ?_) (by kernel_rfl) rfl (by kernel_rfl) (fun _ _ _ h => h) rfl ?_ hHeld2 ?_
                              rotate_left
                              · intro w hSw; (try dsimp only at hSw); go_simp; try with_reducible rfl
                              try simp only [Act.put, List.setIfInBounds_toArray, List.set_cons_zero, List.set_cons_succ]
                              refine wpAnyL_all [14] (by kernel_rfl) (by decide) ?_
                              refine AllL.last rfl (by kernel_rfl) (fun K hK => ?_)
                              go_simp
                              refine hK.out _ _ ?_
                              clear hK K
                              go_wp2_with fail
                              go_meet
                              case rel => exact ⟨s.push 0 t, ⟨v, mem_put HM5.out (by decide) HB.out HH.out rfl⟩, HO.out.push (by decide) (by omega) hq L3, HC.out.push 0 t⟩
                            exact AllL.nil
                          exact AllL.nil
                        exact AllL.nil
                      refine AllL.cons (i := 11) rfl (by kernel_rfl) (fun K hK => ?_) ?_
                      · go_simp
                        refine hK.out _ _ ?_ (fun hHeld2 => ?_)
                        · first | go_keep | exact ⟨hy0, hy1⟩
                        clear hK K
                        try simp only [Act.put, List.setIfInBounds_toArray, List.set_cons_zero, List.set_cons_succ]
                        refine wpAnyL_all [3] (by kernel_rfl) (by decide) ?_
                        refine AllL.cons (i := 3) rfl (by kernel_rfl) (fun K hK => ?_) ?_
                        · go_simp
                          refine hK.out _ _ ?_ (fun hHeld2 => ?_)
                          · first | go_keep | exact ⟨hy0, hy1⟩
                          clear hK K
                          try simp only [Act.put, List.setIfInBounds_toArray, List.set_cons_zero, List.set_cons_succ]
                          refine wpAnyL_all [9] (by kernel_rfl) (by decide) ?_
                          refine AllL.cons (i := 9) rfl (by kernel_rfl) (fun K hK => ?_) ?_
                          · refine step_inner (w2 := w5) rfl _ _ rfl rfl rfl O3.out HTX.out HNL.out rfl B3.out rfl L1 B3.out.size ?_; intro g1 cap3 w3 h1 h2 h3; have TI := hid (grown_blk T3.out h2 N3.out); have OI := hid h1; have BI := hid h3; have hy0 := cell_next h3 X0.out; have hy1 := cell_next h3 X1.out; have hy2 := frozen_next h3 hpl X2.out; clear h1 h2 h3
                            refine hK.out _ _ ?_ (fun hHeld2 => ?_)
                            · first | go_keep | exact ⟨hy0, hy1⟩
                            clear hK K
                            try simp only [Act.put, List.setIfInBounds_toArray, List.set_cons_zero, List.set_cons_succ]
                            refine wpAnyL_all [12] (by kernel_rfl) (by decide) ?_
                            refine AllL.cons (i := 12) rfl (by kernel_rfl) (fun K hK => ?_) ?_
                            · refine step_grow (w2 := w5) (news := [t]) rfl _ _ rfl rfl rfl OI.out (one_news TI.out) BI.out rfl M1 L2 BI.out.size ?_; intro g1 cap3 w3 h1 h2 h3; have HH := hid h1; have HB := hid h3; have hy0 := cell_next h3 X0.out; have hy1 := cell_next h3 X1.out; have hy2 := frozen_next h3 hpl X2.out; clear h1 h2 h3
                              refine hK.out _ _ ?_ (fun hHeld2 => ?_)
                              · first | go_keep | exact ⟨hy0, hy1⟩
                              clear hK K
                              try simp only [Act.put, List.setIfInBounds_toArray, List.set_cons_zero, List.set_cons_succ]
                              refine wpAnyL_take 13 (v := ?_) (by kernel_rfl) rfl (by kernel_rfl) (fun _ _ _ h => h) rfl ?_ hHeld2 ?_
                              rotate_left
                              · intro w hSw; (try dsimp only at hSw); go_simp; try with_reducible rfl
                              try simp only [Act.put, List.setIfInBounds_toArray, List.set_cons_zero, List.set_cons_succ]
                              refine wpAnyL_all [14] (by kernel_rfl) (by decide) ?_
                              refine AllL.last rfl (by kernel_rfl) (fun K hK => ?_)
                              go_simp
                              refine hK.out _ _ ?_
                              clear hK K
                              go_wp2_with fail
                              go_meet
                              case rel => exact ⟨s.push 0 t, ⟨v, mem_put HM5.out (by decide) HB.out HH.out rfl⟩, HO.out.push (by decide) (by omega) hq L3, HC.out.push 0 t⟩
                            exact AllL.nil
                          exact AllL.nil
                        exact AllL.nil
                      exact AllL.nil
                    · go_wp2_with fail
                      refine (mem_full HV.out (d := 0) (by decide) (by omega) (by omega)).mono ?_
                      rintro e w5 ⟨kf, rfl, hb5⟩
                      go_wp2_with fail
                      go_meet
                      case rel => exact ⟨s, ⟨v, HV.out.later hb5⟩, HO.out, HC.out.more⟩
                · as_aux_lemma =>
                    go_wp2_with fail
                    refine (cut_any _ tx hz).mono ?_
                    rintro e w1 ⟨⟨t, rfl, ht⟩, rfl⟩
                    by_cases hq : (s.ks 1).q.length < 64
                    · go_wp2_with fail
                      refine (mem_push HV.out (d := 1) (by decide) (by omega) hq).mono ?_
                      rintro e w5 ⟨rfl, hm5, hc5⟩
                      have h12b := hc5.2 _ _ 46 (by decide) (by decide) (by decide) H12.out
                      have HM5 := hid hm5
                      obtain ⟨cs, ds, es, _, hp5, _, _⟩ := hm5
                      obtain ⟨A2, c2, e2, t2, hn2⟩ := hp5.2 1 (by decide)
                      have x0 := blk_cell_some h12b 0 rfl
                      have x1 : w5.cell? ⟨w.heap.size + 1 + 1, 1, none⟩ = some (.slice A2 (s.put 1).length c2) := blk_cell_some hp5.1 1 e2
                      have x2 := blk_frozen hp5.1 1
                      have hpl := blk_lt hp5.1
                      have hbl := blk_lt h12b
                      have HTX := hid (show Txts w5 A2 c2 (s.put 1) from t2)
                      have HNL := hid (show s.put 1 = [] → A2 = none ∧ c2 = 0 from hn2)
                      have hne : wr.heap.size ≠ w.heap.size + 1 + 1 := fun e => by have := HM.out.elim fun v h => h.gt; omega
                      have L3 : (s.put 1).length < 1000 := by have := HC.out.put 1 (by decide); omega
                      have L1 : (s.put 1).length ≤ 100000 := by omega
                      have L2 : (s.put 1).length + 1 ≤ 100000 := by omega
                      have hwj : IntKind.i64.wrap 1 = 1 := by decide
                      clear hc5 h12b hp5 e2 t2 hn2
                      go_wp2_with fail
                      have X0 := hid x0
                      have X1 := hid x1
                      have X2 := hid x2
                      have O1 := hid (show ((w5.alloc (.cells #[] 9)).drew).ownsRow w5.heap.size 9 1 (.slice (some ⟨w5.heap.size, 0, none⟩) 0 0) 0 (tcells []) from (World.ownsRow_made w5 #[] 0 (Nat.le_refl _) (by decide) rfl).drew)
                      have O2 := hid (show (((w5.alloc (.cells #[] 9)).alloc (.cells #[.string t] 9)).drew).ownsRow w5.heap.size 9 1 (.slice (some ⟨w5.heap.size, 0, none⟩) 0 0) 0 (tcells []) from ((World.ownsRow_made w5 #[] 0 (Nat.le_refl _) (by decide) rfl).alloc _).drew)
                      have O3 := hid (show (((w5.alloc (.cells #[.string t] 9)).alloc (.cells #[] 9)).drew).ownsRow w5.heap.size 9 1 (.slice (some ⟨w5.heap.size + 1, 0, none⟩) 0 0) 0 (tcells []) from (by have h := (World.ownsRow_made (base := w5.heap.size) (e := 9) (size := 1) (w5.alloc (.cells #[.string t] 9)) #[] 0 (by rw [size_alloc]; omega) (by decide) rfl).drew; rw [size_alloc] at h; exact h))
                      have T2 := hid (show (((w5.alloc (.cells #[] 9)).alloc (.cells #[.string t] 9)).drew).heap[w5.heap.size + 1]? = some (.cells #[.string t] 9 (0, 0)) from (by have h := blk_new (w5.alloc (.cells #[] 9)) (.cells #[.string t] 9); rw [size_alloc] at h; exact h))
                      have T3 := hid (show (((w5.alloc (.cells #[.string t] 9)).alloc (.cells #[] 9)).drew).heap[w5.heap.size]? = some (.cells #[.string t] 9 (0, 0)) from blk_old (blk_new w5 (.cells #[.string t] 9)) (.cells #[] 9))
                      have B1 := hid (show Below w5.heap.size w5 ((w5.alloc (.cells #[] 9)).drew) from ((Below.refl _ w5).alloc (Nat.le_refl _) _).drew)
                      have B2 := hid (show Below w5.heap.size w5 (((w5.alloc (.cells #[] 9)).alloc (.cells #[.string t] 9)).drew) from (((Below.refl _ w5).alloc (Nat.le_refl _) _).alloc (by simp) _).drew)
                      have B3 := hid (show Below w5.heap.size w5 (((w5.alloc (.cells #[.string t] 9)).alloc (.cells #[] 9)).drew) from (((Below.refl _ w5).alloc (Nat.le_refl _) _).alloc (by simp) _).drew)
                      have N2 := hid (show (some w5.heap.size : Option Nat) ≠ some (w5.heap.size + 1) from by intro e; injection e with e; exact Nat.succ_ne_self _ e.symm)
                      have N3 := hid (show (some (w5.heap.size + 1) : Option Nat) ≠ some w5.heap.size from by intro e; injection e with e; exact Nat.succ_ne_self _ e)
                      have M1 : 0 < 1 := Nat.zero_lt_one
                      refine wp_region_last 14 (fun w' => w'.cell? ⟨wr.heap.size, 0, none⟩ = some (.int .i64 6) ∧ w'.cell? ⟨w.heap.size + 1 + 1, 1, none⟩ = some (.slice A2 (s.put 1).length c2)) (by kernel_rfl) ?_
                      have hHeld : (w5.drew.cell? ⟨wr.heap.size, 0, none⟩ = some (.int .i64 6) ∧ w5.drew.cell? ⟨w.heap.size + 1 + 1, 1, none⟩ = some (.slice A2 (s.put 1).length c2)) := ⟨x0, x1⟩
                      refine wpAnyL_take 0 (v := ?_) (by kernel_rfl) rfl (by kernel_rfl) (fun _ _ _ h => h) rfl ?_ hHeld ?_
                      rotate_left
                      · intro w hSw; (try dsimp only at hSw); go_simp; try with_reducible rfl
                      try simp only [Act.put, List.setIfInBounds_toArray, List.set_cons_zero, List.set_cons_succ]
                      refine wpAnyL_take 1 (v := ?_) (by kernel_rfl) rfl (by kernel_rfl) (fun _ _ _ h => h) rfl ?_ hHeld ?_
                      rotate_left
                      · intro w hSw; (try dsimp only at hSw); go_simp; try with_reducible rfl
                      try simp only [Act.put, List.setIfInBounds_toArray, List.set_cons_zero, List.set_cons_succ]
                      refine wpAnyL_take 2 (v := ?_) (by kernel_rfl) rfl (by kernel_rfl) (fun _ _ _ h => h) rfl ?_ hHeld ?_
                      rotate_left
                      · intro w hSw; (try dsimp only at hSw); go_simp; try with_reducible rfl
                      try simp only [Act.put, List.setIfInBounds_toArray, List.set_cons_zero, List.set_cons_succ]
                      refine wpAnyL_take 4 (v := ?_) (by kernel_rfl) rfl (by kernel_rfl) (fun _ _ _ h => h) rfl ?_ hHeld ?_
                      rotate_left
                      · intro w hSw; (try dsimp only at hSw); go_simp; try with_reducible rfl
                      try simp only [Act.put, List.setIfInBounds_toArray, List.set_cons_zero, List.set_cons_succ]
                      refine wpAnyL_take 5 (v := ?_) (by kernel_rfl) rfl (by kernel_rfl) (fun _ _ _ h => h) rfl ?_ hHeld ?_
                      rotate_left
                      · intro w hSw; (try dsimp only at hSw); go_simp; try with_reducible rfl
                      try simp only [Act.put, List.setIfInBounds_toArray, List.set_cons_zero, List.set_cons_succ]
                      refine wpAnyL_take 6 (v := ?_) (by kernel_rfl) rfl (by kernel_rfl) (fun _ _ _ h => h) rfl ?_ hHeld ?_
                      rotate_left
                      · intro w hSw; (try dsimp only at hSw); go_simp; try with_reducible rfl
                      try simp only [Act.put, List.setIfInBounds_toArray, List.set_cons_zero, List.set_cons_succ]
                      refine wpAnyL_take 7 (v := ?_) (by kernel_rfl) rfl (by kernel_rfl) (fun _ _ _ h => h) rfl ?_ hHeld ?_
                      rotate_left
                      · intro w hSw; (try dsimp only at hSw); go_simp; try with_reducible rfl
                      try simp only [Act.put, List.setIfInBounds_toArray, List.set_cons_zero, List.set_cons_succ]
                      refine wpAnyL_take 8 (v := ?_) (by kernel_rfl) rfl (by kernel_rfl) (fun _ _ _ h => h) rfl ?_ hHeld ?_
                      rotate_left
                      · intro w hSw; (try dsimp only at hSw); go_simp; try with_reducible rfl
                      try simp only [Act.put, List.setIfInBounds_toArray, List.set_cons_zero, List.set_cons_succ]
                      refine wpAnyL_take 10 (v := ?_) (by kernel_rfl) rfl (by kernel_rfl) (fun _ _ _ h => h) rfl ?_ hHeld ?_
                      rotate_left
                      · intro w hSw; (try dsimp only at hSw); go_simp; try with_reducible rfl
                      try simp only [Act.put, List.setIfInBounds_toArray, List.set_cons_zero, List.set_cons_succ]
                      clear hHeld
                      refine wpAnyL_all [3, 11] (by kernel_rfl) (by decide) ?_
                      refine AllL.cons (i := 3) rfl (by kernel_rfl) (fun K hK => ?_) ?_
                      · go_simp
                        refine hK.out _ _ ?_ (fun hHeld2 => ?_)
                        · first | go_keep | exact ⟨hy0, hy1⟩
                        clear hK K
                        try simp only [Act.put, List.setIfInBounds_toArray, List.set_cons_zero, List.set_cons_succ]
                        refine wpAnyL_all [9, 11] (by kernel_rfl) (by decide) ?_
                        refine AllL.cons (i := 9) rfl (by kernel_rfl) (fun K hK => ?_) ?_
                        · refine step_inner (w2 := w5) rfl _ _ rfl rfl rfl O1.out HTX.out HNL.out rfl B1.out rfl L1 B1.out.size ?_; intro g1 cap3 w3 h1 h2 h3; have TI := hid (blk_new w3 (.cells #[.string t] 9)); have OI := hid (h1.alloc (.cells #[.string t] 9)); have BI := hid (h3.alloc (Nat.le_trans B1.out.size h2.size) (.cells #[.string t] 9)); have hy0 := cell_next h3 X0.out; have hy1 := cell_next h3 X1.out; have hy2 := frozen_next h3 hpl X2.out; clear h1 h2 h3
                          refine hK.out _ _ ?_ (fun hHeld2 => ?_)
                          · first | go_keep | exact ⟨hy0, hy1⟩
                          clear hK K
                          try simp only [Act.put, List.setIfInBounds_toArray, List.set_cons_zero, List.set_cons_succ]
                          refine wpAnyL_all [11] (by kernel_rfl) (by decide) ?_
                          refine AllL.cons (i := 11) rfl (by kernel_rfl) (fun K hK => ?_) ?_
                          · go_simp
                            refine hK.out _ _ ?_ (fun hHeld2 => ?_)
                            · first | go_keep | exact ⟨hy0, hy1⟩
                            clear hK K
                            try simp only [Act.put, List.setIfInBounds_toArray, List.set_cons_zero, List.set_cons_succ]
                            refine wpAnyL_all [12] (by kernel_rfl) (by decide) ?_
                            refine AllL.cons (i := 12) rfl (by kernel_rfl) (fun K hK => ?_) ?_
                            · refine step_grow (w2 := w5) (news := [t]) rfl _ _ rfl rfl rfl OI.out (one_news TI.out) BI.out rfl M1 L2 BI.out.size ?_; intro g1 cap3 w3 h1 h2 h3; have HH := hid h1; have HB := hid h3; have hy0 := cell_next h3 X0.out; have hy1 := cell_next h3 X1.out; have hy2 := frozen_next h3 hpl X2.out; clear h1 h2 h3
                              refine hK.out _ _ ?_ (fun hHeld2 => ?_)
                              · first | go_keep | exact ⟨hy0, hy1⟩
                              clear hK K
                              try simp only [Act.put, List.setIfInBounds_toArray, List.set_cons_zero, List.set_cons_succ]
                              refine wpAnyL_take 13 (v := ?_) (by kernel_rfl) rfl (by kernel_rfl) (fun _ _ _ h => h) rfl ?_ hHeld2 ?_
                              rotate_left
                              · intro w hSw; (try dsimp only at hSw); go_simp; try with_reducible rfl
                              try simp only [Act.put, List.setIfInBounds_toArray, List.set_cons_zero, List.set_cons_succ]
                              refine wpAnyL_all [14] (by kernel_rfl) (by decide) ?_
                              refine AllL.last rfl (by kernel_rfl) (fun K hK => ?_)
                              go_simp
                              refine hK.out _ _ ?_
                              clear hK K
                              go_wp2_with fail
                              go_meet
                              case rel => exact ⟨s.push 1 t, ⟨v, mem_put HM5.out (by decide) HB.out HH.out rfl⟩, HO.out.push (by decide) (by omega) hq L3, HC.out.push 1 t⟩
                            exact AllL.nil
                          exact AllL.nil
                        refine AllL.cons (i := 11) rfl (by kernel_rfl) (fun K hK => ?_) ?_
                        · go_simp
                          refine hK.out _ _ ?_ (fun hHeld2 => ?_)
                          · first | go_keep | exact ⟨hy0, hy1⟩
                          clear hK K
                          try simp only [Act.put, List.setIfInBounds_toArray, List.set_cons_zero, List.set_cons_succ]
                          refine wpAnyL_all [9] (by kernel_rfl) (by decide) ?_
                          refine AllL.cons (i := 9) rfl (by kernel_rfl) (fun K hK => ?_) ?_
                          · refine step_inner (w2 := w5) rfl _ _ rfl rfl rfl O2.out HTX.out HNL.out rfl B2.out rfl L1 B2.out.size ?_; intro g1 cap3 w3 h1 h2 h3; have TI := hid (grown_blk T2.out h2 N2.out); have OI := hid h1; have BI := hid h3; have hy0 := cell_next h3 X0.out; have hy1 := cell_next h3 X1.out; have hy2 := frozen_next h3 hpl X2.out; clear h1 h2 h3
                            refine hK.out _ _ ?_ (fun hHeld2 => ?_)
                            · first | go_keep | exact ⟨hy0, hy1⟩
                            clear hK K
                            try simp only [Act.put, List.setIfInBounds_toArray, List.set_cons_zero, List.set_cons_succ]
                            refine wpAnyL_all [12] (by kernel_rfl) (by decide) ?_
                            refine AllL.cons (i := 12) rfl (by kernel_rfl) (fun K hK => ?_) ?_
                            · refine step_grow (w2 := w5) (news := [t]) rfl _ _ rfl rfl rfl OI.out (one_news TI.out) BI.out rfl M1 L2 BI.out.size ?_; intro g1 cap3 w3 h1 h2 h3; have HH := hid h1; have HB := hid h3; have hy0 := cell_next h3 X0.out; have hy1 := cell_next h3 X1.out; have hy2 := frozen_next h3 hpl X2.out; clear h1 h2 h3
                              refine hK.out _ _ ?_ (fun hHeld2 => ?_)
                              · first | go_keep | exact ⟨hy0, hy1⟩
                              clear hK K
                              try simp only [Act.put, List.setIfInBounds_toArray, List.set_cons_zero, List.set_cons_succ]
                              refine wpAnyL_take 13 (v := ?_) (by kernel_rfl) rfl (by kernel_rfl) (fun _ _ _ h => h) rfl ?_ hHeld2 ?_
                              rotate_left
                              · intro w hSw; (try dsimp only at hSw); go_simp; try with_reducible rfl
                              try simp only [Act.put, List.setIfInBounds_toArray, List.set_cons_zero, List.set_cons_succ]
                              refine wpAnyL_all [14] (by kernel_rfl) (by decide) ?_
                              refine AllL.last rfl (by kernel_rfl) (fun K hK => ?_)
                              go_simp
                              refine hK.out _ _ ?_
                              clear hK K
                              go_wp2_with fail
                              go_meet
                              case rel => exact ⟨s.push 1 t, ⟨v, mem_put HM5.out (by decide) HB.out HH.out rfl⟩, HO.out.push (by decide) (by omega) hq L3, HC.out.push 1 t⟩
                            exact AllL.nil
                          exact AllL.nil
                        exact AllL.nil
                      refine AllL.cons (i := 11) rfl (by kernel_rfl) (fun K hK => ?_) ?_
                      · go_simp
                        refine hK.out _ _ ?_ (fun hHeld2 => ?_)
                        · first | go_keep | exact ⟨hy0, hy1⟩
                        clear hK K
                        try simp only [Act.put, List.setIfInBounds_toArray, List.set_cons_zero, List.set_cons_succ]
                        refine wpAnyL_all [3] (by kernel_rfl) (by decide) ?_
                        refine AllL.cons (i := 3) rfl (by kernel_rfl) (fun K hK => ?_) ?_
                        · go_simp
                          refine hK.out _ _ ?_ (fun hHeld2 => ?_)
                          · first | go_keep | exact ⟨hy0, hy1⟩
                          clear hK K
                          try simp only [Act.put, List.setIfInBounds_toArray, List.set_cons_zero, List.set_cons_succ]
                          refine wpAnyL_all [9] (by kernel_rfl) (by decide) ?_
                          refine AllL.cons (i := 9) rfl (by kernel_rfl) (fun K hK => ?_) ?_
                          · refine step_inner (w2 := w5) rfl _ _ rfl rfl rfl O3.out HTX.out HNL.out rfl B3.out rfl L1 B3.out.size ?_; intro g1 cap3 w3 h1 h2 h3; have TI := hid (grown_blk T3.out h2 N3.out); have OI := hid h1; have BI := hid h3; have hy0 := cell_next h3 X0.out; have hy1 := cell_next h3 X1.out; have hy2 := frozen_next h3 hpl X2.out; clear h1 h2 h3
                            refine hK.out _ _ ?_ (fun hHeld2 => ?_)
                            · first | go_keep | exact ⟨hy0, hy1⟩
                            clear hK K
                            try simp only [Act.put, List.setIfInBounds_toArray, List.set_cons_zero, List.set_cons_succ]
                            refine wpAnyL_all [12] (by kernel_rfl) (by decide) ?_
                            refine AllL.cons (i := 12) rfl (by kernel_rfl) (fun K hK => ?_) ?_
                            · refine step_grow (w2 := w5) (news := [t]) rfl _ _ rfl rfl rfl OI.out (one_news TI.out) BI.out rfl M1 L2 BI.out.size ?_; intro g1 cap3 w3 h1 h2 h3; have HH := hid h1; have HB := hid h3; have hy0 := cell_next h3 X0.out; have hy1 := cell_next h3 X1.out; have hy2 := frozen_next h3 hpl X2.out; clear h1 h2 h3
                              refine hK.out _ _ ?_ (fun hHeld2 => ?_)
                              · first | go_keep | exact ⟨hy0, hy1⟩
                              clear hK K
                              try simp only [Act.put, List.setIfInBounds_toArray, List.set_cons_zero, List.set_cons_succ]
                              refine wpAnyL_take 13 (v := ?_) (by kernel_rfl) rfl (by kernel_rfl) (fun _ _ _ h => h) rfl ?_ hHeld2 ?_
                              rotate_left
                              · intro w hSw; (try dsimp only at hSw); go_simp; try with_reducible rfl
                              try simp only [Act.put, List.setIfInBounds_toArray, List.set_cons_zero, List.set_cons_succ]
                              refine wpAnyL_all [14] (by kernel_rfl) (by decide) ?_
                              refine AllL.last rfl (by kernel_rfl) (fun K hK => ?_)
                              go_simp
                              refine hK.out _ _ ?_
                              clear hK K
                              go_wp2_with fail
                              go_meet
                              case rel => exact ⟨s.push 1 t, ⟨v, mem_put HM5.out (by decide) HB.out HH.out rfl⟩, HO.out.push (by decide) (by omega) hq L3, HC.out.push 1 t⟩
                            exact AllL.nil
                          exact AllL.nil
                        exact AllL.nil
                      exact AllL.nil
                    · go_wp2_with fail
                      refine (mem_full HV.out (d := 1) (by decide) (by omega) (by omega)).mono ?_
                      rintro e w5 ⟨kf, rfl, hb5⟩
                      go_wp2_with fail
                      go_meet
                      case rel => exact ⟨s, ⟨v, HV.out.later hb5⟩, HO.out, HC.out.more⟩
              · have d1 : (kd == 1) = false := beq_eq_false_iff_ne.2 (by omega)
                have d2 : (kd == 2) = false := beq_eq_false_iff_ne.2 (by omega)
                have d3 : (kd == 3) = false := beq_eq_false_iff_ne.2 (by omega)
                have d4 : (kd == 4) = false := beq_eq_false_iff_ne.2 (by omega)
                have d5 : (kd == 5) = false := beq_eq_false_iff_ne.2 (by omega)
                have d6 : (kd == 6) = false := beq_eq_false_iff_ne.2 (by omega)
                clear k1 k5 k6
                go_wp2_with fail
                go_meet
                case rel => exact ⟨s, HM1.out, HO.out, HC.out.more⟩
        case rest =>
          obtain ⟨s1, hm, ho, hc⟩ := hcut
          have HM2 := hid hm
          have HO2 := hid ho
          have HC2 := hid hc
          clear hm ho hc
          go_wp2_with fail
          go_loopw [141] (fun s141 wq => ∃ k : Nat, k ≤ 2 ∧ s141 = .int .i64 k ∧ Mem w.heap.size w wq s1) (fun s141 _ => 2 - (intOf s141).toNat)
          case atStart => exact ⟨0, by omega, rfl, HM2.out⟩
          case round =>
            obtain ⟨k, hk, rfl, hm⟩ := hrel
            have HM3 := hid hm
            clear hm
            by_cases hk2 : k < 2
            · have d1 : decide ((k : Int) < 2) = true := decide_eq_true (by omega)
              obtain ⟨j, hpj⟩ : ∃ j, Pair j k := ⟨1 - k, (Pair.of hk2).symm⟩
              obtain ⟨v, cs, ds, es, _, hp1, hp2, _⟩ := HM3.out
              have dd := HO2.out.dir j k hpj
              obtain ⟨A1, c1, e1, t1, _⟩ := hp2.2 k hk2
              obtain ⟨A2, c2, e2, t2, _⟩ := hp1.2 j hpj.lt.1
              have x1 := blk_cell_some hp2.1 k e1
              have x2 := blk_cell_some hp1.1 j e2
              have hfit := dd.fits
              have hcap : (s1.got k).length ≤ c2 := Nat.le_trans hfit t2.le
              have hfew : (s1.got k).length ≤ 1000 := by have := HO2.out.few j hpj.lt.1; omega
              have hlt2 : (s1.put j).length ≤ 1000 := HO2.out.few j hpj.lt.1
              have htl : ((s1.put j).take (s1.got k).length).length = (s1.got k).length := by rw [List.length_take]; omega
              have HSM := hid (same_any wr.drew A1 A2 c1 c2 (s1.got k) ((s1.put j).take (s1.got k).length) (t1.below (Below.refl _ _).drew) ((t2.take _).below (Below.refl _ _).drew) (by omega))
              rw [htl, decide_eq_true dd.pre] at HSM
              have d2 : decide (((s1.put j).length : Int) < ((s1.got k).length : Int)) = false := decide_eq_false (by omega)
              clear e1 e2 t1 t2 hp1 hp2 dd htl hk hk2
              rcases hpj with ⟨rfl, rfl⟩ | ⟨rfl, rfl⟩
              · as_aux_lemma =>
                  have hw : IntKind.i64.wrap 0 = 0 := by decide
                  go_wp2_with fail
                  refine wp_region_mid 23 (by kernel_rfl) (by kernel_rfl) ?_
                  simp only [List.take_succ_cons, List.take_zero, List.drop_succ_cons, List.drop_zero]
                  repeat still_step
                  refine wpStill_nil ?_
                  refine wpOp_mid2 rfl (by go_simp) ?_
                  go_simp
                  refine HSM.out.mono ?_
                  rintro e w5 ⟨rfl, n5, rfl⟩
                  repeat still_step
                  refine wpStill_nil ?_
                  go_wp2_with fail
                  go_roundw
                  case rel => exact ⟨2, by omega, by go_num, HM3.out.later ⟨rfl, rfl, rfl, Nat.le_refl _, fun _ _ => rfl⟩⟩
                  case measure => simp [intOf]
              · as_aux_lemma =>
                  have hw : IntKind.i64.wrap 1 = 1 := by decide
                  go_wp2_with fail
                  refine wp_region_mid 23 (by kernel_rfl) (by kernel_rfl) ?_
                  simp only [List.take_succ_cons, List.take_zero, List.drop_succ_cons, List.drop_zero]
                  repeat still_step
                  refine wpStill_nil ?_
                  refine wpOp_mid2 rfl (by go_simp) ?_
                  go_simp
                  refine HSM.out.mono ?_
                  rintro e w5 ⟨rfl, n5, rfl⟩
                  repeat still_step
                  refine wpStill_nil ?_
                  go_wp2_with fail
                  go_roundw
                  case rel => exact ⟨1, by omega, by go_num, HM3.out.later ⟨rfl, rfl, rfl, Nat.le_refl _, fun _ _ => rfl⟩⟩
                  case measure => simp [intOf]
            · have d1 : decide ((k : Int) < 2) = false := decide_eq_false (by omega)
              go_wp2_with fail
              go_roundw
              case rel => exact ⟨i + 1, by omega, by omega, by go_num, s1, HM3.out, HO2.out, HC2.out⟩
              case measure => simp [intOf]; omega
      · by_cases hA : i < ts.length
        · have d2 : decide ((i : Int) < 80) = false := decide_eq_false (by omega)
          obtain rfl : i = 80 := by omega
          go_wp2
          go_meet
          case rel => exact ⟨s, HM.out, HO.out, HC.out⟩
        · have d2 : decide ((i : Int) < (ts.length : Int)) = false := decide_eq_false (by omega)
          go_wp2
          go_meet
          case rel => exact ⟨s, HM.out, HO.out, ⟨HC.out.n0, by have := HC.out.n1; omega, by have := HC.out.l; omega, fun d hd => by have := HC.out.put d hd; omega⟩⟩
  case rest =>
    as_aux_lemma =>
      obtain ⟨s, hm, ho, hc⟩ := hcut
      have HM := hid hm
      have HO := hid ho
      have HC := hid hc
      clear hm ho hc
      go_wp2_with fail
      go_loopw [19] (fun s19 wr => ∃ n : Nat, n ≤ 60 ∧ s19 = .int .i64 n ∧ Mem w.heap.size w wr (s.rounds n)) (fun s19 _ => 60 - (intOf s19).toNat)
      case atStart => exact ⟨0, by omega, rfl, HM.out⟩
      case round =>
        obtain ⟨n, hn, rfl, hm⟩ := hrel
        have HR := hid hm
        clear hm
        by_cases hlt : n < 60
        · have d1 : decide ((n : Int) < 60) = true := decide_eq_true (by omega)
          have hok := HO.out.rounds n
          have hcn := HC.out.rounds n
          have HOK := hid hok.sent
          have hcs := hcn.sent
          have hlen : (s.rounds n).sent.l.length ≤ 10000 := by have := hcs.l; omega
          have hsend := mem_send HR.out hok hcn.n0 (by have := hcn.n1; omega) (by have := hcn.l; omega)
          have HSD := hid hsend
          have hrd : (((s.rounds n).sent.many (s.rounds n).sent.l).left []) = s.rounds (n + 1) := rfl
          have HRD := hid hrd
          clear hok hcn hcs hsend hrd
          generalize (s.rounds n).sent = S at *
          go_wp2_with fail
          refine HSD.out.mono ?_
          rintro e w1 ⟨rfl, ⟨v, hv⟩, _⟩
          have HV := hid hv
          clear hv
          go_wp2_with fail
          refine (mem_all HV.out hlen).mono ?_
          rintro e w3 ⟨vs, rfl, hown, hb⟩
          rw [enc_len] at hown
          have HD0 := hid (Draw.start HV.out hown hb)
          obtain ⟨A2, cap2, rfl⟩ := ownsRow_slice hown
          clear hown hb
          generalize w1.heap.size = base at HD0
          go_wp2_with fail
          go_loopw [178] (fun s178 wq => ∃ k : Nat, k ≤ S.l.length ∧ s178 = .int .i64 k ∧ Draw w.heap.size w S base (.slice A2 S.l.length cap2) k k wq) (fun s178 _ => S.l.length - (intOf s178).toNat)
          case atStart => exact ⟨0, by omega, rfl, HD0.out⟩
          case round =>
            obtain ⟨k, hk, rfl, hd⟩ := hrel
            have HD := hid hd
            clear hd
            by_cases hkl : k < S.l.length
            · have d2 : decide ((k : Int) < (S.l.length : Int)) = true := decide_eq_true (by omega)
              have hk0 : (0 : Int) ≤ (k : Int) := by omega
              have hk1 : (k : Int) < (S.l.length : Int) := by omega
              obtain ⟨rs, hrs, hrsl, c0, c1, c2, c3⟩ := pkts_of_own (by rw [enc_len]) HD.out.own k (by rw [enc_len]; exact hkl)
              subst hrs
              rw [enc_get S hkl] at c0 c1 c2 c3
              have HTK := hid (fun wr h => draw_take (wr := wr) h HOK.out hkl hlen : ∀ wr, Draw w.heap.size w S base (.slice (some ⟨rs, 0, none⟩) S.l.length cap2) k k wr → _)
              have HAR := hid (fun wr h => draw_arrive (wr := wr) h HOK.out hkl : ∀ wr, Draw w.heap.size w S base (.slice (some ⟨rs, 0, none⟩) S.l.length cap2) k (k + 1) wr → _)
              generalize S.l[k] = p at *
              simp only [DP.enc] at c0 c1 c2 c3
              go_wp2_with fail
              refine (HTK.out _ (HD.out.later ((Below.refl wr.heap.size wr).alloc (Nat.le_refl _) (.cells #[.int .i64 p.id, .int .i64 p.fr, .int .i64 p.dest, .string (pkt p.n p.c p.t)] 32)))).mono ?_
              rintro e w4 ⟨rfl, hd4⟩
              have HD4 := hid (hd4.later ((Below.refl w4.heap.size w4).alloc (Nat.le_refl _) (.cells #[.int .i64 p.id, .int .i64 p.fr, .int .i64 p.dest, .string (pkt p.n p.c p.t)] 32)))
              clear hd4
              simp only [Pkt.val, DP.enc]
              go_wp2_with fail
              refine (HAR.out _ HD4.out).mono ?_
              rintro e w5 ⟨rfl, hd5⟩
              have HD5 := hid hd5
              clear hd5
              go_wp2_with fail
              go_roundw
              case rel => exact ⟨k + 1, by omega, by go_num, HD5.out⟩
              case measure => simp [intOf]; omega
            · have d2 : decide ((k : Int) < (S.l.length : Int)) = false := decide_eq_false (by omega)
              obtain rfl : k = S.l.length := by omega
              go_wp2_with fail
              go_roundw
              case rel => exact ⟨n + 1, by omega, by go_num, by rw [← HRD.out]; exact HD.out.done⟩
              case measure => simp [intOf]; omega
        · have d1 : decide ((n : Int) < 60) = false := decide_eq_false (by omega)
          obtain rfl : n = 60 := by omega
          obtain ⟨hg, hi⟩ := at_last HO.out 60 (by decide)
          have hput := rounds_put s 60
          obtain ⟨v, cs, ds, es, hnet, hp1, hp2, hbel⟩ := HR.out
          rw [hput] at hp1
          have hg0 : (s.rounds 60).got 0 = s.put 1 := hg 1 0 (Or.inr ⟨rfl, rfl⟩)
          have hg1 : (s.rounds 60).got 1 = s.put 0 := hg 0 1 (Or.inl ⟨rfl, rfl⟩)
          obtain ⟨A1, c1, e1, t1, _⟩ := hp1.2 0 (by decide)
          obtain ⟨A2, c2, e2, t2, _⟩ := hp1.2 1 (by decide)
          obtain ⟨A3, c3, e3, t3, _⟩ := hp2.2 0 (by decide)
          obtain ⟨A4, c4, e4, t4, _⟩ := hp2.2 1 (by decide)
          rw [hg0] at e3 t3
          rw [hg1] at e4 t4
          have x1 := blk_cell_some hp1.1 0 e1
          have x2 := blk_cell_some hp1.1 1 e2
          have x3 := blk_cell_some hp2.1 0 e3
          have x4 := blk_cell_some hp2.1 1 e4
          have hf0 := HO.out.few 0 (by decide)
          have hf1 := HO.out.few 1 (by decide)
          have HS1 := hid (same_any wr A3 A2 c3 c2 (s.put 1) (s.put 1) t3 t2 (by omega))
          have HS2 := hid (fun m => same_any (wr.drewN m) A4 A1 c4 c1 (s.put 0) (s.put 0) (t4.below ⟨rfl, rfl, rfl, Nat.le_refl _, fun _ _ => rfl⟩) (t1.below ⟨rfl, rfl, rfl, Nat.le_refl _, fun _ _ => rfl⟩) (by omega))
          have HI0 := hid (fun w' (h : Mem w.heap.size w w' (s.rounds 60)) => mem_idle h (i := 0) (by decide))
          have HI1 := hid (fun w' (h : Mem w.heap.size w w' (s.rounds 60)) => mem_idle h (i := 1) (by decide))
          rw [(hi 0 (by decide)).1, (hi 0 (by decide)).2] at HI0
          rw [(hi 1 (by decide)).1, (hi 1 (by decide)).2] at HI1
          have HBE := hid hbel
          have hsb := hbel.size
          clear e1 e2 e3 e4 t1 t2 t3 t4 hp1 hp2 hnet hbel hg hi hput hg0 hg1
          go_wp2_with fail
          refine HS1.out.mono ?_
          rintro e w6 ⟨rfl, m, rfl⟩
          go_wp2_with fail
          refine (HS2.out m).mono ?_
          rintro e w7 ⟨rfl, m2, rfl⟩
          go_wp2_with fail
          refine (HI0.out (wr.drewN (m + m2)) (HR.out.later (w' := wr.drewN (m + m2)) ⟨rfl, rfl, rfl, Nat.le_refl _, fun _ _ => rfl⟩)).mono ?_
          rintro e w8 ⟨rfl, rfl⟩
          go_wp2_with fail
          refine (HI1.out (wr.drewN (m + m2)) (HR.out.later (w' := wr.drewN (m + m2)) ⟨rfl, rfl, rfl, Nat.le_refl _, fun _ _ => rfl⟩)).mono ?_
          rintro e w9 ⟨rfl, rfl⟩
          go_wp2_with fail
          go_ret
          exact ⟨rfl, HBE.out.trans ⟨rfl, rfl, rfl, Nat.le_refl _, fun _ _ => rfl⟩⟩
end Go.Proofs.Ytpbagbhoenmpcaa
