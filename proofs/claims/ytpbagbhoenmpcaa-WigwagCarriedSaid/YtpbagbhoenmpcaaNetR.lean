/- arrive: a packet taken by the link that it is for. -/
import Derived.Test.YtpbagbhoenmpcaaNetQ
namespace Go.Proofs.Ytpbagbhoenmpcaa
set_option linter.unusedVariables false
set_option linter.unusedSimpArgs false
open Go.RowKit

set_option maxRecDepth 100000 in
set_option maxHeartbeats 4000000 in
theorem arrive_any (w : World) (B b g p : Nat) (v : Value) (N : Int) (l : List Pkt) (cs ds : Array Value) (ks : Nat → Lk) (gs : Nat → List ByteArray) (id fr : Int) (j : Nat) (n c : Int) (t : ByteArray) (h : Net w B b g v N l cs ks) (hd : PairAt w p ds gs) (hj : j < 2) (hk : LkOk (ks j)) (hp : PkOk (ks j) n c t) (hpB : B ≤ p) (hgl : (gs j).length ≤ 1000) :
    Calls Try.prog 19 #[.pointer (some ⟨g, 0, none⟩), .pointer (some ⟨p, 0, none⟩), .agg #[.int .i64 id, .int .i64 fr, .int .i64 j, .string (pkt n c t)]] w (Arrived B b g p v N l ks gs j n c t w) := by
  have H0 := hid h
  have HD := hid hd
  have HK := hid hk
  have HP := hid hp
  clear h hd hk hp
  obtain ⟨P, hP⟩ : ∃ P, P = pkt n c t := ⟨_, rfl⟩
  rw [← hP]
  have HPP := hid hP
  clear hP
  obtain ⟨A, cap, hL⟩ := H0.out.links j hj
  have HN1 := hid (H0.out.later ((Below.refl w.heap.size w).alloc (Nat.le_refl _) (.cells #[.int .i64 id, .int .i64 fr, .int .i64 j, .string P] 32)).drew)
  have HL := hid (hL.later ((Below.refl w.heap.size w).alloc (Nat.le_refl _) (.cells #[.int .i64 id, .int .i64 fr, .int .i64 j, .string P] 32)).drew)
  clear hL
  have HC : Hid (Calls Try.prog 39 #[.pointer (some ⟨g, j * 4, none⟩), .string P] (w.alloc (.cells #[.int .i64 id, .int .i64 fr, .int .i64 j, .string P] 32)).drew (TookOk g (j * 4) cs 42 (ks j).q (ks j).acked (ks j).came (ks j).owes n c t (w.alloc (.cells #[.int .i64 id, .int .i64 fr, .int .i64 j, .string P] 32)).drew)) := by
    have h1 := HK.out.a0; have h2 := HK.out.a1; have h3 := HK.out.c0; have h4 := HK.out.c1; have h5 := HK.out.len
    have h6 := HP.out.n0; have h7 := HP.out.n1; have h8 := HP.out.c0; have h9 := HP.out.c1; have h10 := HP.out.size
    have hh := take_any _ g (j * 4) cs 42 A cap (ks j).q (ks j).acked (ks j).came (ks j).owes n c t HL.out h1 h3 (by omega) h6 (by omega) h8 (by omega) (by omega) HP.out.fits (by omega) (by omega) HP.out.none
    rw [← HPP.out] at hh
    exact hh
  have hj2 : j = 0 ∨ j = 1 := by omega
  rcases hj2 with rfl | rfl
  · go_enter Try.func19, Try.ntmps19
    go_wp2_with fail
    refine wp_region_mid 7 (by kernel_rfl) (by kernel_rfl) ?_
    simp only [List.take_succ_cons, List.take_zero, List.drop_succ_cons, List.drop_zero]
    repeat still_step
    refine wpStill_nil ?_
    refine wpOp_mid rfl rfl ?_
    go_simp
    refine HC.out.mono ?_
    rintro e w2 ⟨rfl, hto⟩
    obtain ⟨⟨cs2, hN2⟩, hC2⟩ := HN1.out.linked (by decide) hto
    have hgw := blk_lt H0.out.gblk
    obtain ⟨_, _, _, _, _, hkp⟩ := hto
    have HBX := hid (hkp.blk (blk_new w (.cells #[.int .i64 id, .int .i64 fr, .int .i64 (0 : Nat), .string P] 32)) (by omega))
    have HK2 := hid (show Keep (fun k => k = g) w w2 from (((Keep.refl _ w).alloc _).drew).trans hkp)
    clear hkp
    have HN2 := hid hN2
    have HC2 := hid (show Calm B w w2 from (Calm.below ((Below.refl w.heap.size w).alloc (Nat.le_refl _) _).drew H0.out.size).trans hC2)
    clear hN2 hC2
    refine wpStill_step (fun K hK => ?_)
    go_simp
    refine hK _ ?_
    clear hK K
    repeat still_step
    refine wpStill_nil ?_
    by_cases hbr : 0 ≤ n ∧ n = (ks 0).came
    · have b1 : (decide (0 ≤ n) && decide (n = (ks 0).came)) = true := by rw [decide_eq_true hbr.1, decide_eq_true hbr.2]; rfl
      have b2 : (if n < 0 then (⟨#[]⟩ : ByteArray) else if n = (ks 0).came then t else ⟨#[]⟩) = t := by rw [if_neg (by omega), if_pos hbr.2]
      rw [b1, b2]
      have HP2 := hid (HD.out.calm HC2.out)
      obtain ⟨A2, cap2, hds, htx, hnil⟩ := HP2.out.2 0 (by decide)
      have x0 : w2.cell? ⟨w.heap.size, 2, none⟩ = some (.int .i64 0) := blk_cell_some HBX.out 2 rfl
      have x1 := blk_cell_some HP2.out.1 0 hds
      have x2 := blk_frozen HP2.out.1 0
      have HTX := hid htx
      have hpl := blk_lt HP2.out.1
      have hbl := blk_lt HBX.out
      clear htx hds b1 b2
      by_cases hemp : gs 0 = []
      · obtain ⟨rfl, rfl⟩ := hnil hemp
        have hl0 : (gs 0).length = 0 := by rw [hemp]; rfl
        rw [hl0] at x1
        have HE := hid hemp
        clear hemp hnil hl0
        go_wp2_with fail
        have X0 := hid x0
        have X1 := hid x1
        have X2 := hid x2
        have O1 := hid (show ((w2.alloc (.cells #[] 9)).drew).ownsRow w2.heap.size 9 1 (.slice (some ⟨w2.heap.size, 0, none⟩) 0 0) 0 (tcells []) from (World.ownsRow_made w2 #[] 0 (Nat.le_refl _) (by decide) rfl).drew)
        have O2 := hid (show (((w2.alloc (.cells #[] 9)).alloc (.cells #[.string t] 9)).drew).ownsRow w2.heap.size 9 1 (.slice (some ⟨w2.heap.size, 0, none⟩) 0 0) 0 (tcells []) from ((World.ownsRow_made w2 #[] 0 (Nat.le_refl _) (by decide) rfl).alloc _).drew)
        have O3 := hid (show (((w2.alloc (.cells #[.string t] 9)).alloc (.cells #[] 9)).drew).ownsRow w2.heap.size 9 1 (.slice (some ⟨w2.heap.size + 1, 0, none⟩) 0 0) 0 (tcells []) from (by have h := (World.ownsRow_made (base := w2.heap.size) (e := 9) (size := 1) (w2.alloc (.cells #[.string t] 9)) #[] 0 (by rw [size_alloc]; omega) (by decide) rfl).drew; rw [size_alloc] at h; exact h))
        have T2 := hid (show (((w2.alloc (.cells #[] 9)).alloc (.cells #[.string t] 9)).drew).heap[w2.heap.size + 1]? = some (.cells #[.string t] 9 (0, 0)) from (by have h := blk_new (w2.alloc (.cells #[] 9)) (.cells #[.string t] 9); rw [size_alloc] at h; exact h))
        have T3 := hid (show (((w2.alloc (.cells #[.string t] 9)).alloc (.cells #[] 9)).drew).heap[w2.heap.size]? = some (.cells #[.string t] 9 (0, 0)) from blk_old (blk_new w2 (.cells #[.string t] 9)) (.cells #[] 9))
        have B1 := hid (show Below w2.heap.size w2 ((w2.alloc (.cells #[] 9)).drew) from ((Below.refl _ w2).alloc (Nat.le_refl _) _).drew)
        have B2 := hid (show Below w2.heap.size w2 (((w2.alloc (.cells #[] 9)).alloc (.cells #[.string t] 9)).drew) from (((Below.refl _ w2).alloc (Nat.le_refl _) _).alloc (by simp) _).drew)
        have B3 := hid (show Below w2.heap.size w2 (((w2.alloc (.cells #[.string t] 9)).alloc (.cells #[] 9)).drew) from (((Below.refl _ w2).alloc (Nat.le_refl _) _).alloc (by simp) _).drew)
        have N2 := hid (show (Value.slice (some ⟨w2.heap.size, 0, none⟩) 0 0).ownBlock ≠ some (w2.heap.size + 1) from by intro e; injection e with e; exact Nat.succ_ne_self _ e.symm)
        have N3 := hid (show (Value.slice (some ⟨w2.heap.size + 1, 0, none⟩) 0 0).ownBlock ≠ some w2.heap.size from by intro e; injection e with e; exact Nat.succ_ne_self _ e)
        have M1 : 0 < 1 := Nat.zero_lt_one
        have M2 : 0 + 1 ≤ 100000 := by decide
        refine wp_region_last 16 (fun w' => w'.cell? ⟨w.heap.size, 2, none⟩ = some (.int .i64 0) ∧ w'.cell? ⟨p, 0, none⟩ = some (.slice none 0 0)) (by kernel_rfl) ?_
        have hHeld : (w2.drew.cell? ⟨w.heap.size, 2, none⟩ = some (.int .i64 0) ∧ w2.drew.cell? ⟨p, 0, none⟩ = some (.slice none 0 0)) := ⟨x0, x1⟩
        refine wpAnyL_take 0 (v := ?_) (by kernel_rfl) rfl (by kernel_rfl) (fun _ _ _ h => h) rfl ?_ hHeld ?_
        rotate_left
        · intro w hSw; (try dsimp only at hSw); go_simp; try with_reducible rfl
        try simp only [Act.put, List.setIfInBounds_toArray, List.set_cons_zero, List.set_cons_succ]
        refine wpAnyL_take 1 (v := ?_) (by kernel_rfl) rfl (by kernel_rfl) (fun _ _ _ h => h) rfl ?_ hHeld ?_
        rotate_left
        · intro w hSw; (try dsimp only at hSw); go_simp; try with_reducible rfl
        try simp only [Act.put, List.setIfInBounds_toArray, List.set_cons_zero, List.set_cons_succ]
        refine wpAnyL_take 2 (v := ?_) (by kernel_rfl) rfl (by kernel_rfl) (fun _ _ _ h => h) rfl ?_ hHeld ?_
        rotate_left
        · intro w hSw; (try dsimp only at hSw); go_simp; try with_reducible rfl
        try simp only [Act.put, List.setIfInBounds_toArray, List.set_cons_zero, List.set_cons_succ]
        refine wpAnyL_take 4 (v := ?_) (by kernel_rfl) rfl (by kernel_rfl) (fun _ _ _ h => h) rfl ?_ hHeld ?_
        rotate_left
        · intro w hSw; (try dsimp only at hSw); go_simp; try with_reducible rfl
        try simp only [Act.put, List.setIfInBounds_toArray, List.set_cons_zero, List.set_cons_succ]
        refine wpAnyL_take 5 (v := ?_) (by kernel_rfl) rfl (by kernel_rfl) (fun _ _ _ h => h) rfl ?_ hHeld ?_
        rotate_left
        · intro w hSw; (try dsimp only at hSw); go_simp; try with_reducible rfl
        try simp only [Act.put, List.setIfInBounds_toArray, List.set_cons_zero, List.set_cons_succ]
        refine wpAnyL_take 6 (v := ?_) (by kernel_rfl) rfl (by kernel_rfl) (fun _ _ _ h => h) rfl ?_ hHeld ?_
        rotate_left
        · intro w hSw; (try dsimp only at hSw); go_simp; try with_reducible rfl
        try simp only [Act.put, List.setIfInBounds_toArray, List.set_cons_zero, List.set_cons_succ]
        refine wpAnyL_take 7 (v := ?_) (by kernel_rfl) rfl (by kernel_rfl) (fun _ _ _ h => h) rfl ?_ hHeld ?_
        rotate_left
        · intro w hSw; (try dsimp only at hSw); go_simp; try with_reducible rfl
        try simp only [Act.put, List.setIfInBounds_toArray, List.set_cons_zero, List.set_cons_succ]
        refine wpAnyL_take 8 (v := ?_) (by kernel_rfl) rfl (by kernel_rfl) (fun _ _ _ h => h) rfl ?_ hHeld ?_
        rotate_left
        · intro w hSw; (try dsimp only at hSw); go_simp; try with_reducible rfl
        try simp only [Act.put, List.setIfInBounds_toArray, List.set_cons_zero, List.set_cons_succ]
        refine wpAnyL_take 9 (v := ?_) (by kernel_rfl) rfl (by kernel_rfl) (fun _ _ _ h => h) rfl ?_ hHeld ?_
        rotate_left
        · intro w hSw; (try dsimp only at hSw); go_simp; try with_reducible rfl
        try simp only [Act.put, List.setIfInBounds_toArray, List.set_cons_zero, List.set_cons_succ]
        refine wpAnyL_take 11 (v := ?_) (by kernel_rfl) rfl (by kernel_rfl) (fun _ _ _ h => h) rfl ?_ hHeld ?_
        rotate_left
        · intro w hSw; (try dsimp only at hSw); go_simp; try with_reducible rfl
        try simp only [Act.put, List.setIfInBounds_toArray, List.set_cons_zero, List.set_cons_succ]
        refine wpAnyL_take 14 (v := ?_) (by kernel_rfl) rfl (by kernel_rfl) (fun _ _ _ h => h) rfl ?_ hHeld ?_
        rotate_left
        · intro w hSw; (try dsimp only at hSw); go_simp; try with_reducible rfl
        try simp only [Act.put, List.setIfInBounds_toArray, List.set_cons_zero, List.set_cons_succ]
        clear hHeld
        refine wpAnyL_all [3, 12] (by kernel_rfl) (by decide) ?_
        refine AllL.cons (i := 3) rfl (by kernel_rfl) (fun K hK => ?_) ?_
        · go_simp
          refine hK.out _ _ ?_ (fun hHeld2 => ?_)
          · first | go_keep | exact ⟨hy0, hy1⟩
          clear hK K
          try simp only [Act.put, List.setIfInBounds_toArray, List.set_cons_zero, List.set_cons_succ]
          refine wpAnyL_all [10, 12] (by kernel_rfl) (by decide) ?_
          refine AllL.cons (i := 10) rfl (by kernel_rfl) (fun K hK => ?_) ?_
          · go_simp
            refine hK.out _ _ ?_ (fun hHeld2 => ?_)
            · first | go_keep | exact ⟨hy0, hy1⟩
            clear hK K
            try simp only [Act.put, List.setIfInBounds_toArray, List.set_cons_zero, List.set_cons_succ]
            refine wpAnyL_all [12] (by kernel_rfl) (by decide) ?_
            refine AllL.cons (i := 12) rfl (by kernel_rfl) (fun K hK => ?_) ?_
            · go_simp
              refine hK.out _ _ ?_ (fun hHeld2 => ?_)
              · first | go_keep | exact ⟨hy0, hy1⟩
              clear hK K
              try simp only [Act.put, List.setIfInBounds_toArray, List.set_cons_zero, List.set_cons_succ]
              refine wpAnyL_all [13] (by kernel_rfl) (by decide) ?_
              refine AllL.cons (i := 13) rfl (by kernel_rfl) (fun K hK => ?_) ?_
              · refine step_grow (w2 := w2) (l := []) (news := [t]) rfl _ _ rfl rfl rfl O2.out (one_news T2.out) B2.out rfl M1 M2 B2.out.size ?_; intro g1 cap3 w3 h1 h2 h3; have HH := hid h1; have HB := hid h3; have hy0 := cell_next h3 X0.out; have hy1 := cell_next h3 X1.out; have hy2 := frozen_next h3 hpl X2.out; clear h1 h2 h3
                refine hK.out _ _ ?_ (fun hHeld2 => ?_)
                · first | go_keep | exact ⟨hy0, hy1⟩
                clear hK K
                try simp only [Act.put, List.setIfInBounds_toArray, List.set_cons_zero, List.set_cons_succ]
                refine wpAnyL_take 15 (v := ?_) (by kernel_rfl) rfl (by kernel_rfl) (fun _ _ _ h => h) rfl ?_ hHeld2 ?_
                rotate_left
                · intro w hSw; (try dsimp only at hSw); go_simp; try with_reducible rfl
                try simp only [Act.put, List.setIfInBounds_toArray, List.set_cons_zero, List.set_cons_succ]
                refine wpAnyL_all [16] (by kernel_rfl) (by decide) ?_
                refine AllL.last rfl (by kernel_rfl) (fun K hK => ?_)
                go_simp
                refine hK.out _ _ ?_
                clear hK K
                go_wp2_with fail
                go_ret
                exact arrived_put HN2.out HC2.out HK2.out HP2.out hpB (by decide) hbr HB.out (by rw [HE.out]; rfl) (by rw [HE.out]; exact HH.out) H0.out.size
              exact AllL.nil
            exact AllL.nil
          refine AllL.cons (i := 12) rfl (by kernel_rfl) (fun K hK => ?_) ?_
          · go_simp
            refine hK.out _ _ ?_ (fun hHeld2 => ?_)
            · first | go_keep | exact ⟨hy0, hy1⟩
            clear hK K
            try simp only [Act.put, List.setIfInBounds_toArray, List.set_cons_zero, List.set_cons_succ]
            refine wpAnyL_all [10] (by kernel_rfl) (by decide) ?_
            refine AllL.cons (i := 10) rfl (by kernel_rfl) (fun K hK => ?_) ?_
            · go_simp
              refine hK.out _ _ ?_ (fun hHeld2 => ?_)
              · first | go_keep | exact ⟨hy0, hy1⟩
              clear hK K
              try simp only [Act.put, List.setIfInBounds_toArray, List.set_cons_zero, List.set_cons_succ]
              refine wpAnyL_all [13] (by kernel_rfl) (by decide) ?_
              refine AllL.cons (i := 13) rfl (by kernel_rfl) (fun K hK => ?_) ?_
              · refine step_grow (w2 := w2) (l := []) (news := [t]) rfl _ _ rfl rfl rfl O2.out (one_news T2.out) B2.out rfl M1 M2 B2.out.size ?_; intro g1 cap3 w3 h1 h2 h3; have HH := hid h1; have HB := hid h3; have hy0 := cell_next h3 X0.out; have hy1 := cell_next h3 X1.out; have hy2 := frozen_next h3 hpl X2.out; clear h1 h2 h3
                refine hK.out _ _ ?_ (fun hHeld2 => ?_)
                · first | go_keep | exact ⟨hy0, hy1⟩
                clear hK K
                try simp only [Act.put, List.setIfInBounds_toArray, List.set_cons_zero, List.set_cons_succ]
                refine wpAnyL_take 15 (v := ?_) (by kernel_rfl) rfl (by kernel_rfl) (fun _ _ _ h => h) rfl ?_ hHeld2 ?_
                rotate_left
                · intro w hSw; (try dsimp only at hSw); go_simp; try with_reducible rfl
                try simp only [Act.put, List.setIfInBounds_toArray, List.set_cons_zero, List.set_cons_succ]
                refine wpAnyL_all [16] (by kernel_rfl) (by decide) ?_
                refine AllL.last rfl (by kernel_rfl) (fun K hK => ?_)
                go_simp
                refine hK.out _ _ ?_
                clear hK K
                go_wp2_with fail
                go_ret
                exact arrived_put HN2.out HC2.out HK2.out HP2.out hpB (by decide) hbr HB.out (by rw [HE.out]; rfl) (by rw [HE.out]; exact HH.out) H0.out.size
              exact AllL.nil
            exact AllL.nil
          exact AllL.nil
        refine AllL.cons (i := 12) rfl (by kernel_rfl) (fun K hK => ?_) ?_
        · go_simp
          refine hK.out _ _ ?_ (fun hHeld2 => ?_)
          · first | go_keep | exact ⟨hy0, hy1⟩
          clear hK K
          try simp only [Act.put, List.setIfInBounds_toArray, List.set_cons_zero, List.set_cons_succ]
          refine wpAnyL_all [3] (by kernel_rfl) (by decide) ?_
          refine AllL.cons (i := 3) rfl (by kernel_rfl) (fun K hK => ?_) ?_
          · go_simp
            refine hK.out _ _ ?_ (fun hHeld2 => ?_)
            · first | go_keep | exact ⟨hy0, hy1⟩
            clear hK K
            try simp only [Act.put, List.setIfInBounds_toArray, List.set_cons_zero, List.set_cons_succ]
            refine wpAnyL_all [10] (by kernel_rfl) (by decide) ?_
            refine AllL.cons (i := 10) rfl (by kernel_rfl) (fun K hK => ?_) ?_
            · go_simp
              refine hK.out _ _ ?_ (fun hHeld2 => ?_)
              · first | go_keep | exact ⟨hy0, hy1⟩
              clear hK K
              try simp only [Act.put, List.setIfInBounds_toArray, List.set_cons_zero, List.set_cons_succ]
              refine wpAnyL_all [13] (by kernel_rfl) (by decide) ?_
              refine AllL.cons (i := 13) rfl (by kernel_rfl) (fun K hK => ?_) ?_
              · refine step_grow (w2 := w2) (l := []) (news := [t]) rfl _ _ rfl rfl rfl O3.out (one_news T3.out) B3.out rfl M1 M2 B3.out.size ?_; intro g1 cap3 w3 h1 h2 h3; have HH := hid h1; have HB := hid h3; have hy0 := cell_next h3 X0.out; have hy1 := cell_next h3 X1.out; have hy2 := frozen_next h3 hpl X2.out; clear h1 h2 h3
                refine hK.out _ _ ?_ (fun hHeld2 => ?_)
                · first | go_keep | exact ⟨hy0, hy1⟩
                clear hK K
                try simp only [Act.put, List.setIfInBounds_toArray, List.set_cons_zero, List.set_cons_succ]
                refine wpAnyL_take 15 (v := ?_) (by kernel_rfl) rfl (by kernel_rfl) (fun _ _ _ h => h) rfl ?_ hHeld2 ?_
                rotate_left
                · intro w hSw; (try dsimp only at hSw); go_simp; try with_reducible rfl
                try simp only [Act.put, List.setIfInBounds_toArray, List.set_cons_zero, List.set_cons_succ]
                refine wpAnyL_all [16] (by kernel_rfl) (by decide) ?_
                refine AllL.last rfl (by kernel_rfl) (fun K hK => ?_)
                go_simp
                refine hK.out _ _ ?_
                clear hK K
                go_wp2_with fail
                go_ret
                exact arrived_put HN2.out HC2.out HK2.out HP2.out hpB (by decide) hbr HB.out (by rw [HE.out]; rfl) (by rw [HE.out]; exact HH.out) H0.out.size
              exact AllL.nil
            exact AllL.nil
          exact AllL.nil
        exact AllL.nil
      · obtain ⟨r, o, rfl, hr, hnw⟩ := some_news HTX.out hemp
        have NW := hid hnw
        have HE := hid hemp
        have L0 : 0 < (gs 0).length := List.length_pos_iff.2 hemp
        have L1 : (gs 0).length ≤ 100000 := by omega
        have L2 : (gs 0).length + 1 ≤ 100000 := by omega
        clear hemp hnil hnw
        go_wp2_with fail
        have X0 := hid x0
        have X1 := hid x1
        have X2 := hid x2
        have O1 := hid (show ((w2.alloc (.cells #[] 9)).drew).ownsRow w2.heap.size 9 1 (.slice (some ⟨w2.heap.size, 0, none⟩) 0 0) 0 (tcells []) from (World.ownsRow_made w2 #[] 0 (Nat.le_refl _) (by decide) rfl).drew)
        have O2 := hid (show (((w2.alloc (.cells #[] 9)).alloc (.cells #[.string t] 9)).drew).ownsRow w2.heap.size 9 1 (.slice (some ⟨w2.heap.size, 0, none⟩) 0 0) 0 (tcells []) from ((World.ownsRow_made w2 #[] 0 (Nat.le_refl _) (by decide) rfl).alloc _).drew)
        have O3 := hid (show (((w2.alloc (.cells #[.string t] 9)).alloc (.cells #[] 9)).drew).ownsRow w2.heap.size 9 1 (.slice (some ⟨w2.heap.size + 1, 0, none⟩) 0 0) 0 (tcells []) from (by have h := (World.ownsRow_made (base := w2.heap.size) (e := 9) (size := 1) (w2.alloc (.cells #[.string t] 9)) #[] 0 (by rw [size_alloc]; omega) (by decide) rfl).drew; rw [size_alloc] at h; exact h))
        have T2 := hid (show (((w2.alloc (.cells #[] 9)).alloc (.cells #[.string t] 9)).drew).heap[w2.heap.size + 1]? = some (.cells #[.string t] 9 (0, 0)) from (by have h := blk_new (w2.alloc (.cells #[] 9)) (.cells #[.string t] 9); rw [size_alloc] at h; exact h))
        have T3 := hid (show (((w2.alloc (.cells #[.string t] 9)).alloc (.cells #[] 9)).drew).heap[w2.heap.size]? = some (.cells #[.string t] 9 (0, 0)) from blk_old (blk_new w2 (.cells #[.string t] 9)) (.cells #[] 9))
        have B1 := hid (show Below w2.heap.size w2 ((w2.alloc (.cells #[] 9)).drew) from ((Below.refl _ w2).alloc (Nat.le_refl _) _).drew)
        have B2 := hid (show Below w2.heap.size w2 (((w2.alloc (.cells #[] 9)).alloc (.cells #[.string t] 9)).drew) from (((Below.refl _ w2).alloc (Nat.le_refl _) _).alloc (by simp) _).drew)
        have B3 := hid (show Below w2.heap.size w2 (((w2.alloc (.cells #[.string t] 9)).alloc (.cells #[] 9)).drew) from (((Below.refl _ w2).alloc (Nat.le_refl _) _).alloc (by simp) _).drew)
        have N2 := hid (show (Value.slice (some ⟨w2.heap.size, 0, none⟩) 0 0).ownBlock ≠ some (w2.heap.size + 1) from by intro e; injection e with e; exact Nat.succ_ne_self _ e.symm)
        have N3 := hid (show (Value.slice (some ⟨w2.heap.size + 1, 0, none⟩) 0 0).ownBlock ≠ some w2.heap.size from by intro e; injection e with e; exact Nat.succ_ne_self _ e)
        have M1 : 0 < 1 := Nat.zero_lt_one
        have M2 : 0 + 1 ≤ 100000 := by decide
        refine wp_region_last 16 (fun w' => w'.cell? ⟨w.heap.size, 2, none⟩ = some (.int .i64 0) ∧ w'.cell? ⟨p, 0, none⟩ = some (.slice (some ⟨r, o, none⟩) (gs 0).length cap2)) (by kernel_rfl) ?_
        have hHeld : (w2.drew.cell? ⟨w.heap.size, 2, none⟩ = some (.int .i64 0) ∧ w2.drew.cell? ⟨p, 0, none⟩ = some (.slice (some ⟨r, o, none⟩) (gs 0).length cap2)) := ⟨x0, x1⟩
        refine wpAnyL_take 0 (v := ?_) (by kernel_rfl) rfl (by kernel_rfl) (fun _ _ _ h => h) rfl ?_ hHeld ?_
        rotate_left
        · intro w hSw; (try dsimp only at hSw); go_simp; try with_reducible rfl
        try simp only [Act.put, List.setIfInBounds_toArray, List.set_cons_zero, List.set_cons_succ]
        refine wpAnyL_take 1 (v := ?_) (by kernel_rfl) rfl (by kernel_rfl) (fun _ _ _ h => h) rfl ?_ hHeld ?_
        rotate_left
        · intro w hSw; (try dsimp only at hSw); go_simp; try with_reducible rfl
        try simp only [Act.put, List.setIfInBounds_toArray, List.set_cons_zero, List.set_cons_succ]
        refine wpAnyL_take 2 (v := ?_) (by kernel_rfl) rfl (by kernel_rfl) (fun _ _ _ h => h) rfl ?_ hHeld ?_
        rotate_left
        · intro w hSw; (try dsimp only at hSw); go_simp; try with_reducible rfl
        try simp only [Act.put, List.setIfInBounds_toArray, List.set_cons_zero, List.set_cons_succ]
        refine wpAnyL_take 4 (v := ?_) (by kernel_rfl) rfl (by kernel_rfl) (fun _ _ _ h => h) rfl ?_ hHeld ?_
        rotate_left
        · intro w hSw; (try dsimp only at hSw); go_simp; try with_reducible rfl
        try simp only [Act.put, List.setIfInBounds_toArray, List.set_cons_zero, List.set_cons_succ]
        refine wpAnyL_take 5 (v := ?_) (by kernel_rfl) rfl (by kernel_rfl) (fun _ _ _ h => h) rfl ?_ hHeld ?_
        rotate_left
        · intro w hSw; (try dsimp only at hSw); go_simp; try with_reducible rfl
        try simp only [Act.put, List.setIfInBounds_toArray, List.set_cons_zero, List.set_cons_succ]
        refine wpAnyL_take 6 (v := ?_) (by kernel_rfl) rfl (by kernel_rfl) (fun _ _ _ h => h) rfl ?_ hHeld ?_
        rotate_left
        · intro w hSw; (try dsimp only at hSw); go_simp; try with_reducible rfl
        try simp only [Act.put, List.setIfInBounds_toArray, List.set_cons_zero, List.set_cons_succ]
        refine wpAnyL_take 7 (v := ?_) (by kernel_rfl) rfl (by kernel_rfl) (fun _ _ _ h => h) rfl ?_ hHeld ?_
        rotate_left
        · intro w hSw; (try dsimp only at hSw); go_simp; try with_reducible rfl
        try simp only [Act.put, List.setIfInBounds_toArray, List.set_cons_zero, List.set_cons_succ]
        refine wpAnyL_take 8 (v := ?_) (by kernel_rfl) rfl (by kernel_rfl) (fun _ _ _ h => h) rfl ?_ hHeld ?_
        rotate_left
        · intro w hSw; (try dsimp only at hSw); go_simp; try with_reducible rfl
        try simp only [Act.put, List.setIfInBounds_toArray, List.set_cons_zero, List.set_cons_succ]
        refine wpAnyL_take 9 (v := ?_) (by kernel_rfl) rfl (by kernel_rfl) (fun _ _ _ h => h) rfl ?_ hHeld ?_
        rotate_left
        · intro w hSw; (try dsimp only at hSw); go_simp; try with_reducible rfl
        try simp only [Act.put, List.setIfInBounds_toArray, List.set_cons_zero, List.set_cons_succ]
        refine wpAnyL_take 11 (v := ?_) (by kernel_rfl) rfl (by kernel_rfl) (fun _ _ _ h => h) rfl ?_ hHeld ?_
        rotate_left
        · intro w hSw; (try dsimp only at hSw); go_simp; try with_reducible rfl
        try simp only [Act.put, List.setIfInBounds_toArray, List.set_cons_zero, List.set_cons_succ]
        refine wpAnyL_take 14 (v := ?_) (by kernel_rfl) rfl (by kernel_rfl) (fun _ _ _ h => h) rfl ?_ hHeld ?_
        rotate_left
        · intro w hSw; (try dsimp only at hSw); go_simp; try with_reducible rfl
        try simp only [Act.put, List.setIfInBounds_toArray, List.set_cons_zero, List.set_cons_succ]
        clear hHeld
        refine wpAnyL_all [3, 12] (by kernel_rfl) (by decide) ?_
        refine AllL.cons (i := 3) rfl (by kernel_rfl) (fun K hK => ?_) ?_
        · go_simp
          refine hK.out _ _ ?_ (fun hHeld2 => ?_)
          · first | go_keep | exact ⟨hy0, hy1⟩
          clear hK K
          try simp only [Act.put, List.setIfInBounds_toArray, List.set_cons_zero, List.set_cons_succ]
          refine wpAnyL_all [10, 12] (by kernel_rfl) (by decide) ?_
          refine AllL.cons (i := 10) rfl (by kernel_rfl) (fun K hK => ?_) ?_
          · refine step_grow0 (w2 := w2) (news := gs 0) rfl _ _ rfl rfl rfl O1.out (NW.out _ _ rfl B1.out) B1.out rfl L0 L1 B1.out.size ?_; intro g1 cap3 w3 h1 h2 h3; have TI := hid (blk_new w3 (.cells #[.string t] 9)); have OI := hid (h1.alloc (.cells #[.string t] 9)); have BI := hid (h3.alloc (Nat.le_trans B1.out.size h2.size) (.cells #[.string t] 9)); have hy0 := cell_next h3 X0.out; have hy1 := cell_next h3 X1.out; have hy2 := frozen_next h3 hpl X2.out; clear h1 h2 h3
            refine hK.out _ _ ?_ (fun hHeld2 => ?_)
            · first | go_keep | exact ⟨hy0, hy1⟩
            clear hK K
            try simp only [Act.put, List.setIfInBounds_toArray, List.set_cons_zero, List.set_cons_succ]
            refine wpAnyL_all [12] (by kernel_rfl) (by decide) ?_
            refine AllL.cons (i := 12) rfl (by kernel_rfl) (fun K hK => ?_) ?_
            · go_simp
              refine hK.out _ _ ?_ (fun hHeld2 => ?_)
              · first | go_keep | exact ⟨hy0, hy1⟩
              clear hK K
              try simp only [Act.put, List.setIfInBounds_toArray, List.set_cons_zero, List.set_cons_succ]
              refine wpAnyL_all [13] (by kernel_rfl) (by decide) ?_
              refine AllL.cons (i := 13) rfl (by kernel_rfl) (fun K hK => ?_) ?_
              · refine step_grow (w2 := w2) (news := [t]) rfl _ _ rfl rfl rfl OI.out (one_news TI.out) BI.out rfl M1 L2 BI.out.size ?_; intro g1 cap3 w3 h1 h2 h3; have HH := hid h1; have HB := hid h3; have hy0 := cell_next h3 X0.out; have hy1 := cell_next h3 X1.out; have hy2 := frozen_next h3 hpl X2.out; clear h1 h2 h3
                refine hK.out _ _ ?_ (fun hHeld2 => ?_)
                · first | go_keep | exact ⟨hy0, hy1⟩
                clear hK K
                try simp only [Act.put, List.setIfInBounds_toArray, List.set_cons_zero, List.set_cons_succ]
                refine wpAnyL_take 15 (v := ?_) (by kernel_rfl) rfl (by kernel_rfl) (fun _ _ _ h => h) rfl ?_ hHeld2 ?_
                rotate_left
                · intro w hSw; (try dsimp only at hSw); go_simp; try with_reducible rfl
                try simp only [Act.put, List.setIfInBounds_toArray, List.set_cons_zero, List.set_cons_succ]
                refine wpAnyL_all [16] (by kernel_rfl) (by decide) ?_
                refine AllL.last rfl (by kernel_rfl) (fun K hK => ?_)
                go_simp
                refine hK.out _ _ ?_
                clear hK K
                go_wp2_with fail
                go_ret
                exact arrived_put HN2.out HC2.out HK2.out HP2.out hpB (by decide) hbr HB.out rfl HH.out H0.out.size
              exact AllL.nil
            exact AllL.nil
          refine AllL.cons (i := 12) rfl (by kernel_rfl) (fun K hK => ?_) ?_
          · go_simp
            refine hK.out _ _ ?_ (fun hHeld2 => ?_)
            · first | go_keep | exact ⟨hy0, hy1⟩
            clear hK K
            try simp only [Act.put, List.setIfInBounds_toArray, List.set_cons_zero, List.set_cons_succ]
            refine wpAnyL_all [10] (by kernel_rfl) (by decide) ?_
            refine AllL.cons (i := 10) rfl (by kernel_rfl) (fun K hK => ?_) ?_
            · refine step_grow0 (w2 := w2) (news := gs 0) rfl _ _ rfl rfl rfl O2.out (NW.out _ _ rfl B2.out) B2.out rfl L0 L1 B2.out.size ?_; intro g1 cap3 w3 h1 h2 h3; have TI := hid (grown_blk T2.out h2 N2.out); have OI := hid h1; have BI := hid h3; have hy0 := cell_next h3 X0.out; have hy1 := cell_next h3 X1.out; have hy2 := frozen_next h3 hpl X2.out; clear h1 h2 h3
              refine hK.out _ _ ?_ (fun hHeld2 => ?_)
              · first | go_keep | exact ⟨hy0, hy1⟩
              clear hK K
              try simp only [Act.put, List.setIfInBounds_toArray, List.set_cons_zero, List.set_cons_succ]
              refine wpAnyL_all [13] (by kernel_rfl) (by decide) ?_
              refine AllL.cons (i := 13) rfl (by kernel_rfl) (fun K hK => ?_) ?_
              · refine step_grow (w2 := w2) (news := [t]) rfl _ _ rfl rfl rfl OI.out (one_news TI.out) BI.out rfl M1 L2 BI.out.size ?_; intro g1 cap3 w3 h1 h2 h3; have HH := hid h1; have HB := hid h3; have hy0 := cell_next h3 X0.out; have hy1 := cell_next h3 X1.out; have hy2 := frozen_next h3 hpl X2.out; clear h1 h2 h3
                refine hK.out _ _ ?_ (fun hHeld2 => ?_)
                · first | go_keep | exact ⟨hy0, hy1⟩
                clear hK K
                try simp only [Act.put, List.setIfInBounds_toArray, List.set_cons_zero, List.set_cons_succ]
                refine wpAnyL_take 15 (v := ?_) (by kernel_rfl) rfl (by kernel_rfl) (fun _ _ _ h => h) rfl ?_ hHeld2 ?_
                rotate_left
                · intro w hSw; (try dsimp only at hSw); go_simp; try with_reducible rfl
                try simp only [Act.put, List.setIfInBounds_toArray, List.set_cons_zero, List.set_cons_succ]
                refine wpAnyL_all [16] (by kernel_rfl) (by decide) ?_
                refine AllL.last rfl (by kernel_rfl) (fun K hK => ?_)
                go_simp
                refine hK.out _ _ ?_
                clear hK K
                go_wp2_with fail
                go_ret
                exact arrived_put HN2.out HC2.out HK2.out HP2.out hpB (by decide) hbr HB.out rfl HH.out H0.out.size
              exact AllL.nil
            exact AllL.nil
          exact AllL.nil
        refine AllL.cons (i := 12) rfl (by kernel_rfl) (fun K hK => ?_) ?_
        · go_simp
          refine hK.out _ _ ?_ (fun hHeld2 => ?_)
          · first | go_keep | exact ⟨hy0, hy1⟩
          clear hK K
          try simp only [Act.put, List.setIfInBounds_toArray, List.set_cons_zero, List.set_cons_succ]
          refine wpAnyL_all [3] (by kernel_rfl) (by decide) ?_
          refine AllL.cons (i := 3) rfl (by kernel_rfl) (fun K hK => ?_) ?_
          · go_simp
            refine hK.out _ _ ?_ (fun hHeld2 => ?_)
            · first | go_keep | exact ⟨hy0, hy1⟩
            clear hK K
            try simp only [Act.put, List.setIfInBounds_toArray, List.set_cons_zero, List.set_cons_succ]
            refine wpAnyL_all [10] (by kernel_rfl) (by decide) ?_
            refine AllL.cons (i := 10) rfl (by kernel_rfl) (fun K hK => ?_) ?_
            · refine step_grow0 (w2 := w2) (news := gs 0) rfl _ _ rfl rfl rfl O3.out (NW.out _ _ rfl B3.out) B3.out rfl L0 L1 B3.out.size ?_; intro g1 cap3 w3 h1 h2 h3; have TI := hid (grown_blk T3.out h2 N3.out); have OI := hid h1; have BI := hid h3; have hy0 := cell_next h3 X0.out; have hy1 := cell_next h3 X1.out; have hy2 := frozen_next h3 hpl X2.out; clear h1 h2 h3
              refine hK.out _ _ ?_ (fun hHeld2 => ?_)
              · first | go_keep | exact ⟨hy0, hy1⟩
              clear hK K
              try simp only [Act.put, List.setIfInBounds_toArray, List.set_cons_zero, List.set_cons_succ]
              refine wpAnyL_all [13] (by kernel_rfl) (by decide) ?_
              refine AllL.cons (i := 13) rfl (by kernel_rfl) (fun K hK => ?_) ?_
              · refine step_grow (w2 := w2) (news := [t]) rfl _ _ rfl rfl rfl OI.out (one_news TI.out) BI.out rfl M1 L2 BI.out.size ?_; intro g1 cap3 w3 h1 h2 h3; have HH := hid h1; have HB := hid h3; have hy0 := cell_next h3 X0.out; have hy1 := cell_next h3 X1.out; have hy2 := frozen_next h3 hpl X2.out; clear h1 h2 h3
                refine hK.out _ _ ?_ (fun hHeld2 => ?_)
                · first | go_keep | exact ⟨hy0, hy1⟩
                clear hK K
                try simp only [Act.put, List.setIfInBounds_toArray, List.set_cons_zero, List.set_cons_succ]
                refine wpAnyL_take 15 (v := ?_) (by kernel_rfl) rfl (by kernel_rfl) (fun _ _ _ h => h) rfl ?_ hHeld2 ?_
                rotate_left
                · intro w hSw; (try dsimp only at hSw); go_simp; try with_reducible rfl
                try simp only [Act.put, List.setIfInBounds_toArray, List.set_cons_zero, List.set_cons_succ]
                refine wpAnyL_all [16] (by kernel_rfl) (by decide) ?_
                refine AllL.last rfl (by kernel_rfl) (fun K hK => ?_)
                go_simp
                refine hK.out _ _ ?_
                clear hK K
                go_wp2_with fail
                go_ret
                exact arrived_put HN2.out HC2.out HK2.out HP2.out hpB (by decide) hbr HB.out rfl HH.out H0.out.size
              exact AllL.nil
            exact AllL.nil
          exact AllL.nil
        exact AllL.nil
    · have b1 : (decide (0 ≤ n) && decide (n = (ks 0).came)) = false := by
        by_cases h0 : 0 ≤ n
        · simp [h0, show ¬ n = (ks 0).came from fun h => hbr ⟨h0, h⟩]
        · simp [h0]
      generalize (if n < 0 then (⟨#[]⟩ : ByteArray) else if n = (ks 0).came then t else ⟨#[]⟩) = tt
      rw [b1]
      have HBR := hid hbr
      clear hbr b1
      go_wp2_with fail
      go_ret
      refine ⟨rfl, ⟨cs2, HN2.out⟩, ⟨ds, ?_⟩, HC2.out.1, HK2.out.mono fun k _ e => Or.inl e⟩
      rw [if_neg HBR.out]
      exact HD.out.calm HC2.out
  · go_enter Try.func19, Try.ntmps19
    go_wp2_with fail
    refine wp_region_mid 7 (by kernel_rfl) (by kernel_rfl) ?_
    simp only [List.take_succ_cons, List.take_zero, List.drop_succ_cons, List.drop_zero]
    repeat still_step
    refine wpStill_nil ?_
    refine wpOp_mid rfl rfl ?_
    go_simp
    refine HC.out.mono ?_
    rintro e w2 ⟨rfl, hto⟩
    obtain ⟨⟨cs2, hN2⟩, hC2⟩ := HN1.out.linked (by decide) hto
    have hgw := blk_lt H0.out.gblk
    obtain ⟨_, _, _, _, _, hkp⟩ := hto
    have HBX := hid (hkp.blk (blk_new w (.cells #[.int .i64 id, .int .i64 fr, .int .i64 (1 : Nat), .string P] 32)) (by omega))
    have HK2 := hid (show Keep (fun k => k = g) w w2 from (((Keep.refl _ w).alloc _).drew).trans hkp)
    clear hkp
    have HN2 := hid hN2
    have HC2 := hid (show Calm B w w2 from (Calm.below ((Below.refl w.heap.size w).alloc (Nat.le_refl _) _).drew H0.out.size).trans hC2)
    clear hN2 hC2
    refine wpStill_step (fun K hK => ?_)
    go_simp
    refine hK _ ?_
    clear hK K
    repeat still_step
    refine wpStill_nil ?_
    by_cases hbr : 0 ≤ n ∧ n = (ks 1).came
    · have b1 : (decide (0 ≤ n) && decide (n = (ks 1).came)) = true := by rw [decide_eq_true hbr.1, decide_eq_true hbr.2]; rfl
      have b2 : (if n < 0 then (⟨#[]⟩ : ByteArray) else if n = (ks 1).came then t else ⟨#[]⟩) = t := by rw [if_neg (by omega), if_pos hbr.2]
      rw [b1, b2]
      have HP2 := hid (HD.out.calm HC2.out)
      obtain ⟨A2, cap2, hds, htx, hnil⟩ := HP2.out.2 1 (by decide)
      have x0 : w2.cell? ⟨w.heap.size, 2, none⟩ = some (.int .i64 1) := blk_cell_some HBX.out 2 rfl
      have x1 := blk_cell_some HP2.out.1 1 hds
      have x2 := blk_frozen HP2.out.1 1
      have HTX := hid htx
      have hpl := blk_lt HP2.out.1
      have hbl := blk_lt HBX.out
      clear htx hds b1 b2
      by_cases hemp : gs 1 = []
      · obtain ⟨rfl, rfl⟩ := hnil hemp
        have hl0 : (gs 1).length = 0 := by rw [hemp]; rfl
        rw [hl0] at x1
        have HE := hid hemp
        clear hemp hnil hl0
        go_wp2_with fail
        have X0 := hid x0
        have X1 := hid x1
        have X2 := hid x2
        have O1 := hid (show ((w2.alloc (.cells #[] 9)).drew).ownsRow w2.heap.size 9 1 (.slice (some ⟨w2.heap.size, 0, none⟩) 0 0) 0 (tcells []) from (World.ownsRow_made w2 #[] 0 (Nat.le_refl _) (by decide) rfl).drew)
        have O2 := hid (show (((w2.alloc (.cells #[] 9)).alloc (.cells #[.string t] 9)).drew).ownsRow w2.heap.size 9 1 (.slice (some ⟨w2.heap.size, 0, none⟩) 0 0) 0 (tcells []) from ((World.ownsRow_made w2 #[] 0 (Nat.le_refl _) (by decide) rfl).alloc _).drew)
        have O3 := hid (show (((w2.alloc (.cells #[.string t] 9)).alloc (.cells #[] 9)).drew).ownsRow w2.heap.size 9 1 (.slice (some ⟨w2.heap.size + 1, 0, none⟩) 0 0) 0 (tcells []) from (by have h := (World.ownsRow_made (base := w2.heap.size) (e := 9) (size := 1) (w2.alloc (.cells #[.string t] 9)) #[] 0 (by rw [size_alloc]; omega) (by decide) rfl).drew; rw [size_alloc] at h; exact h))
        have T2 := hid (show (((w2.alloc (.cells #[] 9)).alloc (.cells #[.string t] 9)).drew).heap[w2.heap.size + 1]? = some (.cells #[.string t] 9 (0, 0)) from (by have h := blk_new (w2.alloc (.cells #[] 9)) (.cells #[.string t] 9); rw [size_alloc] at h; exact h))
        have T3 := hid (show (((w2.alloc (.cells #[.string t] 9)).alloc (.cells #[] 9)).drew).heap[w2.heap.size]? = some (.cells #[.string t] 9 (0, 0)) from blk_old (blk_new w2 (.cells #[.string t] 9)) (.cells #[] 9))
        have B1 := hid (show Below w2.heap.size w2 ((w2.alloc (.cells #[] 9)).drew) from ((Below.refl _ w2).alloc (Nat.le_refl _) _).drew)
        have B2 := hid (show Below w2.heap.size w2 (((w2.alloc (.cells #[] 9)).alloc (.cells #[.string t] 9)).drew) from (((Below.refl _ w2).alloc (Nat.le_refl _) _).alloc (by simp) _).drew)
        have B3 := hid (show Below w2.heap.size w2 (((w2.alloc (.cells #[.string t] 9)).alloc (.cells #[] 9)).drew) from (((Below.refl _ w2).alloc (Nat.le_refl _) _).alloc (by simp) _).drew)
        have N2 := hid (show (Value.slice (some ⟨w2.heap.size, 0, none⟩) 0 0).ownBlock ≠ some (w2.heap.size + 1) from by intro e; injection e with e; exact Nat.succ_ne_self _ e.symm)
        have N3 := hid (show (Value.slice (some ⟨w2.heap.size + 1, 0, none⟩) 0 0).ownBlock ≠ some w2.heap.size from by intro e; injection e with e; exact Nat.succ_ne_self _ e)
        have M1 : 0 < 1 := Nat.zero_lt_one
        have M2 : 0 + 1 ≤ 100000 := by decide
        refine wp_region_last 16 (fun w' => w'.cell? ⟨w.heap.size, 2, none⟩ = some (.int .i64 1) ∧ w'.cell? ⟨p, 1, none⟩ = some (.slice none 0 0)) (by kernel_rfl) ?_
        have hHeld : (w2.drew.cell? ⟨w.heap.size, 2, none⟩ = some (.int .i64 1) ∧ w2.drew.cell? ⟨p, 1, none⟩ = some (.slice none 0 0)) := ⟨x0, x1⟩
        refine wpAnyL_take 0 (v := ?_) (by kernel_rfl) rfl (by kernel_rfl) (fun _ _ _ h => h) rfl ?_ hHeld ?_
        rotate_left
        · intro w hSw; (try dsimp only at hSw); go_simp; try with_reducible rfl
        try simp only [Act.put, List.setIfInBounds_toArray, List.set_cons_zero, List.set_cons_succ]
        refine wpAnyL_take 1 (v := ?_) (by kernel_rfl) rfl (by kernel_rfl) (fun _ _ _ h => h) rfl ?_ hHeld ?_
        rotate_left
        · intro w hSw; (try dsimp only at hSw); go_simp; try with_reducible rfl
        try simp only [Act.put, List.setIfInBounds_toArray, List.set_cons_zero, List.set_cons_succ]
        refine wpAnyL_take 2 (v := ?_) (by kernel_rfl) rfl (by kernel_rfl) (fun _ _ _ h => h) rfl ?_ hHeld ?_
        rotate_left
        · intro w hSw; (try dsimp only at hSw); go_simp; try with_reducible rfl
        try simp only [Act.put, List.setIfInBounds_toArray, List.set_cons_zero, List.set_cons_succ]
        refine wpAnyL_take 4 (v := ?_) (by kernel_rfl) rfl (by kernel_rfl) (fun _ _ _ h => h) rfl ?_ hHeld ?_
        rotate_left
        · intro w hSw; (try dsimp only at hSw); go_simp; try with_reducible rfl
        try simp only [Act.put, List.setIfInBounds_toArray, List.set_cons_zero, List.set_cons_succ]
        refine wpAnyL_take 5 (v := ?_) (by kernel_rfl) rfl (by kernel_rfl) (fun _ _ _ h => h) rfl ?_ hHeld ?_
        rotate_left
        · intro w hSw; (try dsimp only at hSw); go_simp; try with_reducible rfl
        try simp only [Act.put, List.setIfInBounds_toArray, List.set_cons_zero, List.set_cons_succ]
        refine wpAnyL_take 6 (v := ?_) (by kernel_rfl) rfl (by kernel_rfl) (fun _ _ _ h => h) rfl ?_ hHeld ?_
        rotate_left
        · intro w hSw; (try dsimp only at hSw); go_simp; try with_reducible rfl
        try simp only [Act.put, List.setIfInBounds_toArray, List.set_cons_zero, List.set_cons_succ]
        refine wpAnyL_take 7 (v := ?_) (by kernel_rfl) rfl (by kernel_rfl) (fun _ _ _ h => h) rfl ?_ hHeld ?_
        rotate_left
        · intro w hSw; (try dsimp only at hSw); go_simp; try with_reducible rfl
        try simp only [Act.put, List.setIfInBounds_toArray, List.set_cons_zero, List.set_cons_succ]
        refine wpAnyL_take 8 (v := ?_) (by kernel_rfl) rfl (by kernel_rfl) (fun _ _ _ h => h) rfl ?_ hHeld ?_
        rotate_left
        · intro w hSw; (try dsimp only at hSw); go_simp; try with_reducible rfl
        try simp only [Act.put, List.setIfInBounds_toArray, List.set_cons_zero, List.set_cons_succ]
        refine wpAnyL_take 9 (v := ?_) (by kernel_rfl) rfl (by kernel_rfl) (fun _ _ _ h => h) rfl ?_ hHeld ?_
        rotate_left
        · intro w hSw; (try dsimp only at hSw); go_simp; try with_reducible rfl
        try simp only [Act.put, List.setIfInBounds_toArray, List.set_cons_zero, List.set_cons_succ]
        refine wpAnyL_take 11 (v := ?_) (by kernel_rfl) rfl (by kernel_rfl) (fun _ _ _ h => h) rfl ?_ hHeld ?_
        rotate_left
        · intro w hSw; (try dsimp only at hSw); go_simp; try with_reducible rfl
        try simp only [Act.put, List.setIfInBounds_toArray, List.set_cons_zero, List.set_cons_succ]
        refine wpAnyL_take 14 (v := ?_) (by kernel_rfl) rfl (by kernel_rfl) (fun _ _ _ h => h) rfl ?_ hHeld ?_
        rotate_left
        · intro w hSw; (try dsimp only at hSw); go_simp; try with_reducible rfl
        try simp only [Act.put, List.setIfInBounds_toArray, List.set_cons_zero, List.set_cons_succ]
        clear hHeld
        refine wpAnyL_all [3, 12] (by kernel_rfl) (by decide) ?_
        refine AllL.cons (i := 3) rfl (by kernel_rfl) (fun K hK => ?_) ?_
        · go_simp
          refine hK.out _ _ ?_ (fun hHeld2 => ?_)
          · first | go_keep | exact ⟨hy0, hy1⟩
          clear hK K
          try simp only [Act.put, List.setIfInBounds_toArray, List.set_cons_zero, List.set_cons_succ]
          refine wpAnyL_all [10, 12] (by kernel_rfl) (by decide) ?_
          refine AllL.cons (i := 10) rfl (by kernel_rfl) (fun K hK => ?_) ?_
          · go_simp
            refine hK.out _ _ ?_ (fun hHeld2 => ?_)
            · first | go_keep | exact ⟨hy0, hy1⟩
            clear hK K
            try simp only [Act.put, List.setIfInBounds_toArray, List.set_cons_zero, List.set_cons_succ]
            refine wpAnyL_all [12] (by kernel_rfl) (by decide) ?_
            refine AllL.cons (i := 12) rfl (by kernel_rfl) (fun K hK => ?_) ?_
            · go_simp
              refine hK.out _ _ ?_ (fun hHeld2 => ?_)
              · first | go_keep | exact ⟨hy0, hy1⟩
              clear hK K
              try simp only [Act.put, List.setIfInBounds_toArray, List.set_cons_zero, List.set_cons_succ]
              refine wpAnyL_all [13] (by kernel_rfl) (by decide) ?_
              refine AllL.cons (i := 13) rfl (by kernel_rfl) (fun K hK => ?_) ?_
              · refine step_grow (w2 := w2) (l := []) (news := [t]) rfl _ _ rfl rfl rfl O2.out (one_news T2.out) B2.out rfl M1 M2 B2.out.size ?_; intro g1 cap3 w3 h1 h2 h3; have HH := hid h1; have HB := hid h3; have hy0 := cell_next h3 X0.out; have hy1 := cell_next h3 X1.out; have hy2 := frozen_next h3 hpl X2.out; clear h1 h2 h3
                refine hK.out _ _ ?_ (fun hHeld2 => ?_)
                · first | go_keep | exact ⟨hy0, hy1⟩
                clear hK K
                try simp only [Act.put, List.setIfInBounds_toArray, List.set_cons_zero, List.set_cons_succ]
                refine wpAnyL_take 15 (v := ?_) (by kernel_rfl) rfl (by kernel_rfl) (fun _ _ _ h => h) rfl ?_ hHeld2 ?_
                rotate_left
                · intro w hSw; (try dsimp only at hSw); go_simp; try with_reducible rfl
                try simp only [Act.put, List.setIfInBounds_toArray, List.set_cons_zero, List.set_cons_succ]
                refine wpAnyL_all [16] (by kernel_rfl) (by decide) ?_
                refine AllL.last rfl (by kernel_rfl) (fun K hK => ?_)
                go_simp
                refine hK.out _ _ ?_
                clear hK K
                go_wp2_with fail
                go_ret
                exact arrived_put HN2.out HC2.out HK2.out HP2.out hpB (by decide) hbr HB.out (by rw [HE.out]; rfl) (by rw [HE.out]; exact HH.out) H0.out.size
              exact AllL.nil
            exact AllL.nil
          refine AllL.cons (i := 12) rfl (by kernel_rfl) (fun K hK => ?_) ?_
          · go_simp
            refine hK.out _ _ ?_ (fun hHeld2 => ?_)
            · first | go_keep | exact ⟨hy0, hy1⟩
            clear hK K
            try simp only [Act.put, List.setIfInBounds_toArray, List.set_cons_zero, List.set_cons_succ]
            refine wpAnyL_all [10] (by kernel_rfl) (by decide) ?_
            refine AllL.cons (i := 10) rfl (by kernel_rfl) (fun K hK => ?_) ?_
            · go_simp
              refine hK.out _ _ ?_ (fun hHeld2 => ?_)
              · first | go_keep | exact ⟨hy0, hy1⟩
              clear hK K
              try simp only [Act.put, List.setIfInBounds_toArray, List.set_cons_zero, List.set_cons_succ]
              refine wpAnyL_all [13] (by kernel_rfl) (by decide) ?_
              refine AllL.cons (i := 13) rfl (by kernel_rfl) (fun K hK => ?_) ?_
              · refine step_grow (w2 := w2) (l := []) (news := [t]) rfl _ _ rfl rfl rfl O2.out (one_news T2.out) B2.out rfl M1 M2 B2.out.size ?_; intro g1 cap3 w3 h1 h2 h3; have HH := hid h1; have HB := hid h3; have hy0 := cell_next h3 X0.out; have hy1 := cell_next h3 X1.out; have hy2 := frozen_next h3 hpl X2.out; clear h1 h2 h3
                refine hK.out _ _ ?_ (fun hHeld2 => ?_)
                · first | go_keep | exact ⟨hy0, hy1⟩
                clear hK K
                try simp only [Act.put, List.setIfInBounds_toArray, List.set_cons_zero, List.set_cons_succ]
                refine wpAnyL_take 15 (v := ?_) (by kernel_rfl) rfl (by kernel_rfl) (fun _ _ _ h => h) rfl ?_ hHeld2 ?_
                rotate_left
                · intro w hSw; (try dsimp only at hSw); go_simp; try with_reducible rfl
                try simp only [Act.put, List.setIfInBounds_toArray, List.set_cons_zero, List.set_cons_succ]
                refine wpAnyL_all [16] (by kernel_rfl) (by decide) ?_
                refine AllL.last rfl (by kernel_rfl) (fun K hK => ?_)
                go_simp
                refine hK.out _ _ ?_
                clear hK K
                go_wp2_with fail
                go_ret
                exact arrived_put HN2.out HC2.out HK2.out HP2.out hpB (by decide) hbr HB.out (by rw [HE.out]; rfl) (by rw [HE.out]; exact HH.out) H0.out.size
              exact AllL.nil
            exact AllL.nil
          exact AllL.nil
        refine AllL.cons (i := 12) rfl (by kernel_rfl) (fun K hK => ?_) ?_
        · go_simp
          refine hK.out _ _ ?_ (fun hHeld2 => ?_)
          · first | go_keep | exact ⟨hy0, hy1⟩
          clear hK K
          try simp only [Act.put, List.setIfInBounds_toArray, List.set_cons_zero, List.set_cons_succ]
          refine wpAnyL_all [3] (by kernel_rfl) (by decide) ?_
          refine AllL.cons (i := 3) rfl (by kernel_rfl) (fun K hK => ?_) ?_
          · go_simp
            refine hK.out _ _ ?_ (fun hHeld2 => ?_)
            · first | go_keep | exact ⟨hy0, hy1⟩
            clear hK K
            try simp only [Act.put, List.setIfInBounds_toArray, List.set_cons_zero, List.set_cons_succ]
            refine wpAnyL_all [10] (by kernel_rfl) (by decide) ?_
            refine AllL.cons (i := 10) rfl (by kernel_rfl) (fun K hK => ?_) ?_
            · go_simp
              refine hK.out _ _ ?_ (fun hHeld2 => ?_)
              · first | go_keep | exact ⟨hy0, hy1⟩
              clear hK K
              try simp only [Act.put, List.setIfInBounds_toArray, List.set_cons_zero, List.set_cons_succ]
              refine wpAnyL_all [13] (by kernel_rfl) (by decide) ?_
              refine AllL.cons (i := 13) rfl (by kernel_rfl) (fun K hK => ?_) ?_
              · refine step_grow (w2 := w2) (l := []) (news := [t]) rfl _ _ rfl rfl rfl O3.out (one_news T3.out) B3.out rfl M1 M2 B3.out.size ?_; intro g1 cap3 w3 h1 h2 h3; have HH := hid h1; have HB := hid h3; have hy0 := cell_next h3 X0.out; have hy1 := cell_next h3 X1.out; have hy2 := frozen_next h3 hpl X2.out; clear h1 h2 h3
                refine hK.out _ _ ?_ (fun hHeld2 => ?_)
                · first | go_keep | exact ⟨hy0, hy1⟩
                clear hK K
                try simp only [Act.put, List.setIfInBounds_toArray, List.set_cons_zero, List.set_cons_succ]
                refine wpAnyL_take 15 (v := ?_) (by kernel_rfl) rfl (by kernel_rfl) (fun _ _ _ h => h) rfl ?_ hHeld2 ?_
                rotate_left
                · intro w hSw; (try dsimp only at hSw); go_simp; try with_reducible rfl
                try simp only [Act.put, List.setIfInBounds_toArray, List.set_cons_zero, List.set_cons_succ]
                refine wpAnyL_all [16] (by kernel_rfl) (by decide) ?_
                refine AllL.last rfl (by kernel_rfl) (fun K hK => ?_)
                go_simp
                refine hK.out _ _ ?_
                clear hK K
                go_wp2_with fail
                go_ret
                exact arrived_put HN2.out HC2.out HK2.out HP2.out hpB (by decide) hbr HB.out (by rw [HE.out]; rfl) (by rw [HE.out]; exact HH.out) H0.out.size
              exact AllL.nil
            exact AllL.nil
          exact AllL.nil
        exact AllL.nil
      · obtain ⟨r, o, rfl, hr, hnw⟩ := some_news HTX.out hemp
        have NW := hid hnw
        have HE := hid hemp
        have L0 : 0 < (gs 1).length := List.length_pos_iff.2 hemp
        have L1 : (gs 1).length ≤ 100000 := by omega
        have L2 : (gs 1).length + 1 ≤ 100000 := by omega
        clear hemp hnil hnw
        go_wp2_with fail
        have X0 := hid x0
        have X1 := hid x1
        have X2 := hid x2
        have O1 := hid (show ((w2.alloc (.cells #[] 9)).drew).ownsRow w2.heap.size 9 1 (.slice (some ⟨w2.heap.size, 0, none⟩) 0 0) 0 (tcells []) from (World.ownsRow_made w2 #[] 0 (Nat.le_refl _) (by decide) rfl).drew)
        have O2 := hid (show (((w2.alloc (.cells #[] 9)).alloc (.cells #[.string t] 9)).drew).ownsRow w2.heap.size 9 1 (.slice (some ⟨w2.heap.size, 0, none⟩) 0 0) 0 (tcells []) from ((World.ownsRow_made w2 #[] 0 (Nat.le_refl _) (by decide) rfl).alloc _).drew)
        have O3 := hid (show (((w2.alloc (.cells #[.string t] 9)).alloc (.cells #[] 9)).drew).ownsRow w2.heap.size 9 1 (.slice (some ⟨w2.heap.size + 1, 0, none⟩) 0 0) 0 (tcells []) from (by have h := (World.ownsRow_made (base := w2.heap.size) (e := 9) (size := 1) (w2.alloc (.cells #[.string t] 9)) #[] 0 (by rw [size_alloc]; omega) (by decide) rfl).drew; rw [size_alloc] at h; exact h))
        have T2 := hid (show (((w2.alloc (.cells #[] 9)).alloc (.cells #[.string t] 9)).drew).heap[w2.heap.size + 1]? = some (.cells #[.string t] 9 (0, 0)) from (by have h := blk_new (w2.alloc (.cells #[] 9)) (.cells #[.string t] 9); rw [size_alloc] at h; exact h))
        have T3 := hid (show (((w2.alloc (.cells #[.string t] 9)).alloc (.cells #[] 9)).drew).heap[w2.heap.size]? = some (.cells #[.string t] 9 (0, 0)) from blk_old (blk_new w2 (.cells #[.string t] 9)) (.cells #[] 9))
        have B1 := hid (show Below w2.heap.size w2 ((w2.alloc (.cells #[] 9)).drew) from ((Below.refl _ w2).alloc (Nat.le_refl _) _).drew)
        have B2 := hid (show Below w2.heap.size w2 (((w2.alloc (.cells #[] 9)).alloc (.cells #[.string t] 9)).drew) from (((Below.refl _ w2).alloc (Nat.le_refl _) _).alloc (by simp) _).drew)
        have B3 := hid (show Below w2.heap.size w2 (((w2.alloc (.cells #[.string t] 9)).alloc (.cells #[] 9)).drew) from (((Below.refl _ w2).alloc (Nat.le_refl _) _).alloc (by simp) _).drew)
        have N2 := hid (show (Value.slice (some ⟨w2.heap.size, 0, none⟩) 0 0).ownBlock ≠ some (w2.heap.size + 1) from by intro e; injection e with e; exact Nat.succ_ne_self _ e.symm)
        have N3 := hid (show (Value.slice (some ⟨w2.heap.size + 1, 0, none⟩) 0 0).ownBlock ≠ some w2.heap.size from by intro e; injection e with e; exact Nat.succ_ne_self _ e)
        have M1 : 0 < 1 := Nat.zero_lt_one
        have M2 : 0 + 1 ≤ 100000 := by decide
        refine wp_region_last 16 (fun w' => w'.cell? ⟨w.heap.size, 2, none⟩ = some (.int .i64 1) ∧ w'.cell? ⟨p, 1, none⟩ = some (.slice (some ⟨r, o, none⟩) (gs 1).length cap2)) (by kernel_rfl) ?_
        have hHeld : (w2.drew.cell? ⟨w.heap.size, 2, none⟩ = some (.int .i64 1) ∧ w2.drew.cell? ⟨p, 1, none⟩ = some (.slice (some ⟨r, o, none⟩) (gs 1).length cap2)) := ⟨x0, x1⟩
        refine wpAnyL_take 0 (v := ?_) (by kernel_rfl) rfl (by kernel_rfl) (fun _ _ _ h => h) rfl ?_ hHeld ?_
        rotate_left
        · intro w hSw; (try dsimp only at hSw); go_simp; try with_reducible rfl
        try simp only [Act.put, List.setIfInBounds_toArray, List.set_cons_zero, List.set_cons_succ]
        refine wpAnyL_take 1 (v := ?_) (by kernel_rfl) rfl (by kernel_rfl) (fun _ _ _ h => h) rfl ?_ hHeld ?_
        rotate_left
        · intro w hSw; (try dsimp only at hSw); go_simp; try with_reducible rfl
        try simp only [Act.put, List.setIfInBounds_toArray, List.set_cons_zero, List.set_cons_succ]
        refine wpAnyL_take 2 (v := ?_) (by kernel_rfl) rfl (by kernel_rfl) (fun _ _ _ h => h) rfl ?_ hHeld ?_
        rotate_left
        · intro w hSw; (try dsimp only at hSw); go_simp; try with_reducible rfl
        try simp only [Act.put, List.setIfInBounds_toArray, List.set_cons_zero, List.set_cons_succ]
        refine wpAnyL_take 4 (v := ?_) (by kernel_rfl) rfl (by kernel_rfl) (fun _ _ _ h => h) rfl ?_ hHeld ?_
        rotate_left
        · intro w hSw; (try dsimp only at hSw); go_simp; try with_reducible rfl
        try simp only [Act.put, List.setIfInBounds_toArray, List.set_cons_zero, List.set_cons_succ]
        refine wpAnyL_take 5 (v := ?_) (by kernel_rfl) rfl (by kernel_rfl) (fun _ _ _ h => h) rfl ?_ hHeld ?_
        rotate_left
        · intro w hSw; (try dsimp only at hSw); go_simp; try with_reducible rfl
        try simp only [Act.put, List.setIfInBounds_toArray, List.set_cons_zero, List.set_cons_succ]
        refine wpAnyL_take 6 (v := ?_) (by kernel_rfl) rfl (by kernel_rfl) (fun _ _ _ h => h) rfl ?_ hHeld ?_
        rotate_left
        · intro w hSw; (try dsimp only at hSw); go_simp; try with_reducible rfl
        try simp only [Act.put, List.setIfInBounds_toArray, List.set_cons_zero, List.set_cons_succ]
        refine wpAnyL_take 7 (v := ?_) (by kernel_rfl) rfl (by kernel_rfl) (fun _ _ _ h => h) rfl ?_ hHeld ?_
        rotate_left
        · intro w hSw; (try dsimp only at hSw); go_simp; try with_reducible rfl
        try simp only [Act.put, List.setIfInBounds_toArray, List.set_cons_zero, List.set_cons_succ]
        refine wpAnyL_take 8 (v := ?_) (by kernel_rfl) rfl (by kernel_rfl) (fun _ _ _ h => h) rfl ?_ hHeld ?_
        rotate_left
        · intro w hSw; (try dsimp only at hSw); go_simp; try with_reducible rfl
        try simp only [Act.put, List.setIfInBounds_toArray, List.set_cons_zero, List.set_cons_succ]
        refine wpAnyL_take 9 (v := ?_) (by kernel_rfl) rfl (by kernel_rfl) (fun _ _ _ h => h) rfl ?_ hHeld ?_
        rotate_left
        · intro w hSw; (try dsimp only at hSw); go_simp; try with_reducible rfl
        try simp only [Act.put, List.setIfInBounds_toArray, List.set_cons_zero, List.set_cons_succ]
        refine wpAnyL_take 11 (v := ?_) (by kernel_rfl) rfl (by kernel_rfl) (fun _ _ _ h => h) rfl ?_ hHeld ?_
        rotate_left
        · intro w hSw; (try dsimp only at hSw); go_simp; try with_reducible rfl
        try simp only [Act.put, List.setIfInBounds_toArray, List.set_cons_zero, List.set_cons_succ]
        refine wpAnyL_take 14 (v := ?_) (by kernel_rfl) rfl (by kernel_rfl) (fun _ _ _ h => h) rfl ?_ hHeld ?_
        rotate_left
        · intro w hSw; (try dsimp only at hSw); go_simp; try with_reducible rfl
        try simp only [Act.put, List.setIfInBounds_toArray, List.set_cons_zero, List.set_cons_succ]
        clear hHeld
        refine wpAnyL_all [3, 12] (by kernel_rfl) (by decide) ?_
        refine AllL.cons (i := 3) rfl (by kernel_rfl) (fun K hK => ?_) ?_
        · go_simp
          refine hK.out _ _ ?_ (fun hHeld2 => ?_)
          · first | go_keep | exact ⟨hy0, hy1⟩
          clear hK K
          try simp only [Act.put, List.setIfInBounds_toArray, List.set_cons_zero, List.set_cons_succ]
          refine wpAnyL_all [10, 12] (by kernel_rfl) (by decide) ?_
          refine AllL.cons (i := 10) rfl (by kernel_rfl) (fun K hK => ?_) ?_
          · refine step_grow0 (w2 := w2) (news := gs 1) rfl _ _ rfl rfl rfl O1.out (NW.out _ _ rfl B1.out) B1.out rfl L0 L1 B1.out.size ?_; intro g1 cap3 w3 h1 h2 h3; have TI := hid (blk_new w3 (.cells #[.string t] 9)); have OI := hid (h1.alloc (.cells #[.string t] 9)); have BI := hid (h3.alloc (Nat.le_trans B1.out.size h2.size) (.cells #[.string t] 9)); have hy0 := cell_next h3 X0.out; have hy1 := cell_next h3 X1.out; have hy2 := frozen_next h3 hpl X2.out; clear h1 h2 h3
            refine hK.out _ _ ?_ (fun hHeld2 => ?_)
            · first | go_keep | exact ⟨hy0, hy1⟩
            clear hK K
            try simp only [Act.put, List.setIfInBounds_toArray, List.set_cons_zero, List.set_cons_succ]
            refine wpAnyL_all [12] (by kernel_rfl) (by decide) ?_
            refine AllL.cons (i := 12) rfl (by kernel_rfl) (fun K hK => ?_) ?_
            · go_simp
              refine hK.out _ _ ?_ (fun hHeld2 => ?_)
              · first | go_keep | exact ⟨hy0, hy1⟩
              clear hK K
              try simp only [Act.put, List.setIfInBounds_toArray, List.set_cons_zero, List.set_cons_succ]
              refine wpAnyL_all [13] (by kernel_rfl) (by decide) ?_
              refine AllL.cons (i := 13) rfl (by kernel_rfl) (fun K hK => ?_) ?_
              · refine step_grow (w2 := w2) (news := [t]) rfl _ _ rfl rfl rfl OI.out (one_news TI.out) BI.out rfl M1 L2 BI.out.size ?_; intro g1 cap3 w3 h1 h2 h3; have HH := hid h1; have HB := hid h3; have hy0 := cell_next h3 X0.out; have hy1 := cell_next h3 X1.out; have hy2 := frozen_next h3 hpl X2.out; clear h1 h2 h3
                refine hK.out _ _ ?_ (fun hHeld2 => ?_)
                · first | go_keep | exact ⟨hy0, hy1⟩
                clear hK K
                try simp only [Act.put, List.setIfInBounds_toArray, List.set_cons_zero, List.set_cons_succ]
                refine wpAnyL_take 15 (v := ?_) (by kernel_rfl) rfl (by kernel_rfl) (fun _ _ _ h => h) rfl ?_ hHeld2 ?_
                rotate_left
                · intro w hSw; (try dsimp only at hSw); go_simp; try with_reducible rfl
                try simp only [Act.put, List.setIfInBounds_toArray, List.set_cons_zero, List.set_cons_succ]
                refine wpAnyL_all [16] (by kernel_rfl) (by decide) ?_
                refine AllL.last rfl (by kernel_rfl) (fun K hK => ?_)
                go_simp
                refine hK.out _ _ ?_
                clear hK K
                go_wp2_with fail
                go_ret
                exact arrived_put HN2.out HC2.out HK2.out HP2.out hpB (by decide) hbr HB.out rfl HH.out H0.out.size
              exact AllL.nil
            exact AllL.nil
          refine AllL.cons (i := 12) rfl (by kernel_rfl) (fun K hK => ?_) ?_
          · go_simp
            refine hK.out _ _ ?_ (fun hHeld2 => ?_)
            · first | go_keep | exact ⟨hy0, hy1⟩
            clear hK K
            try simp only [Act.put, List.setIfInBounds_toArray, List.set_cons_zero, List.set_cons_succ]
            refine wpAnyL_all [10] (by kernel_rfl) (by decide) ?_
            refine AllL.cons (i := 10) rfl (by kernel_rfl) (fun K hK => ?_) ?_
            · refine step_grow0 (w2 := w2) (news := gs 1) rfl _ _ rfl rfl rfl O2.out (NW.out _ _ rfl B2.out) B2.out rfl L0 L1 B2.out.size ?_; intro g1 cap3 w3 h1 h2 h3; have TI := hid (grown_blk T2.out h2 N2.out); have OI := hid h1; have BI := hid h3; have hy0 := cell_next h3 X0.out; have hy1 := cell_next h3 X1.out; have hy2 := frozen_next h3 hpl X2.out; clear h1 h2 h3
              refine hK.out _ _ ?_ (fun hHeld2 => ?_)
              · first | go_keep | exact ⟨hy0, hy1⟩
              clear hK K
              try simp only [Act.put, List.setIfInBounds_toArray, List.set_cons_zero, List.set_cons_succ]
              refine wpAnyL_all [13] (by kernel_rfl) (by decide) ?_
              refine AllL.cons (i := 13) rfl (by kernel_rfl) (fun K hK => ?_) ?_
              · refine step_grow (w2 := w2) (news := [t]) rfl _ _ rfl rfl rfl OI.out (one_news TI.out) BI.out rfl M1 L2 BI.out.size ?_; intro g1 cap3 w3 h1 h2 h3; have HH := hid h1; have HB := hid h3; have hy0 := cell_next h3 X0.out; have hy1 := cell_next h3 X1.out; have hy2 := frozen_next h3 hpl X2.out; clear h1 h2 h3
                refine hK.out _ _ ?_ (fun hHeld2 => ?_)
                · first | go_keep | exact ⟨hy0, hy1⟩
                clear hK K
                try simp only [Act.put, List.setIfInBounds_toArray, List.set_cons_zero, List.set_cons_succ]
                refine wpAnyL_take 15 (v := ?_) (by kernel_rfl) rfl (by kernel_rfl) (fun _ _ _ h => h) rfl ?_ hHeld2 ?_
                rotate_left
                · intro w hSw; (try dsimp only at hSw); go_simp; try with_reducible rfl
                try simp only [Act.put, List.setIfInBounds_toArray, List.set_cons_zero, List.set_cons_succ]
                refine wpAnyL_all [16] (by kernel_rfl) (by decide) ?_
                refine AllL.last rfl (by kernel_rfl) (fun K hK => ?_)
                go_simp
                refine hK.out _ _ ?_
                clear hK K
                go_wp2_with fail
                go_ret
                exact arrived_put HN2.out HC2.out HK2.out HP2.out hpB (by decide) hbr HB.out rfl HH.out H0.out.size
              exact AllL.nil
            exact AllL.nil
          exact AllL.nil
        refine AllL.cons (i := 12) rfl (by kernel_rfl) (fun K hK => ?_) ?_
        · go_simp
          refine hK.out _ _ ?_ (fun hHeld2 => ?_)
          · first | go_keep | exact ⟨hy0, hy1⟩
          clear hK K
          try simp only [Act.put, List.setIfInBounds_toArray, List.set_cons_zero, List.set_cons_succ]
          refine wpAnyL_all [3] (by kernel_rfl) (by decide) ?_
          refine AllL.cons (i := 3) rfl (by kernel_rfl) (fun K hK => ?_) ?_
          · go_simp
            refine hK.out _ _ ?_ (fun hHeld2 => ?_)
            · first | go_keep | exact ⟨hy0, hy1⟩
            clear hK K
            try simp only [Act.put, List.setIfInBounds_toArray, List.set_cons_zero, List.set_cons_succ]
            refine wpAnyL_all [10] (by kernel_rfl) (by decide) ?_
            refine AllL.cons (i := 10) rfl (by kernel_rfl) (fun K hK => ?_) ?_
            · refine step_grow0 (w2 := w2) (news := gs 1) rfl _ _ rfl rfl rfl O3.out (NW.out _ _ rfl B3.out) B3.out rfl L0 L1 B3.out.size ?_; intro g1 cap3 w3 h1 h2 h3; have TI := hid (grown_blk T3.out h2 N3.out); have OI := hid h1; have BI := hid h3; have hy0 := cell_next h3 X0.out; have hy1 := cell_next h3 X1.out; have hy2 := frozen_next h3 hpl X2.out; clear h1 h2 h3
              refine hK.out _ _ ?_ (fun hHeld2 => ?_)
              · first | go_keep | exact ⟨hy0, hy1⟩
              clear hK K
              try simp only [Act.put, List.setIfInBounds_toArray, List.set_cons_zero, List.set_cons_succ]
              refine wpAnyL_all [13] (by kernel_rfl) (by decide) ?_
              refine AllL.cons (i := 13) rfl (by kernel_rfl) (fun K hK => ?_) ?_
              · refine step_grow (w2 := w2) (news := [t]) rfl _ _ rfl rfl rfl OI.out (one_news TI.out) BI.out rfl M1 L2 BI.out.size ?_; intro g1 cap3 w3 h1 h2 h3; have HH := hid h1; have HB := hid h3; have hy0 := cell_next h3 X0.out; have hy1 := cell_next h3 X1.out; have hy2 := frozen_next h3 hpl X2.out; clear h1 h2 h3
                refine hK.out _ _ ?_ (fun hHeld2 => ?_)
                · first | go_keep | exact ⟨hy0, hy1⟩
                clear hK K
                try simp only [Act.put, List.setIfInBounds_toArray, List.set_cons_zero, List.set_cons_succ]
                refine wpAnyL_take 15 (v := ?_) (by kernel_rfl) rfl (by kernel_rfl) (fun _ _ _ h => h) rfl ?_ hHeld2 ?_
                rotate_left
                · intro w hSw; (try dsimp only at hSw); go_simp; try with_reducible rfl
                try simp only [Act.put, List.setIfInBounds_toArray, List.set_cons_zero, List.set_cons_succ]
                refine wpAnyL_all [16] (by kernel_rfl) (by decide) ?_
                refine AllL.last rfl (by kernel_rfl) (fun K hK => ?_)
                go_simp
                refine hK.out _ _ ?_
                clear hK K
                go_wp2_with fail
                go_ret
                exact arrived_put HN2.out HC2.out HK2.out HP2.out hpB (by decide) hbr HB.out rfl HH.out H0.out.size
              exact AllL.nil
            exact AllL.nil
          exact AllL.nil
        exact AllL.nil
    · have b1 : (decide (0 ≤ n) && decide (n = (ks 1).came)) = false := by
        by_cases h0 : 0 ≤ n
        · simp [h0, show ¬ n = (ks 1).came from fun h => hbr ⟨h0, h⟩]
        · simp [h0]
      generalize (if n < 0 then (⟨#[]⟩ : ByteArray) else if n = (ks 1).came then t else ⟨#[]⟩) = tt
      rw [b1]
      have HBR := hid hbr
      clear hbr b1
      go_wp2_with fail
      go_ret
      refine ⟨rfl, ⟨cs2, HN2.out⟩, ⟨ds, ?_⟩, HC2.out.1, HK2.out.mono fun k _ e => Or.inl e⟩
      rw [if_neg HBR.out]
      exact HD.out.calm HC2.out
end Go.Proofs.Ytpbagbhoenmpcaa
