/- What the link's laws call besides: law01.Cut, ref.SameTexts. -/
import Derived.Test.YtpbagbhoenmpcaaLinkC
namespace Go.Proofs.Ytpbagbhoenmpcaa
set_option linter.unusedVariables false
set_option linter.unusedSimpArgs false
open Go.RowKit

theorem cut_any (w : World) (s : ByteArray) (hs : s.size ≤ 9223372036854775807) : Calls Try.prog 20 #[.string s, .int .i64 50] w fun e w' => (∃ s' : ByteArray, e = .returned (.string s') ∧ s'.size ≤ 50) ∧ w' = w := by
  by_cases h : 50 < s.size
  · have d1 : decide ((50 : Int) < (s.size : Int)) = true := decide_eq_true (by omega)
    have h2 : (50 : Int) ≤ (s.size : Int) := by omega
    go_enter Try.func20, Try.ntmps20
    go_wp2
    go_ret
    exact ⟨⟨_, rfl, by simp [ByteArray.size_extract]; omega⟩, rfl⟩
  · have d1 : decide ((50 : Int) < (s.size : Int)) = false := decide_eq_false (by omega)
    go_enter Try.func20, Try.ntmps20
    go_wp2
    go_ret
    exact ⟨⟨s, rfl, by omega⟩, rfl⟩

theorem text_inj {x y : ByteArray} (h : x.toList = y.toList) : x = y := by
  rw [ByteArray.toList_eq, ByteArray.toList_eq] at h
  cases x; cases y
  exact congrArg ByteArray.mk (Array.toList_inj.1 h)
theorem same_any (w : World) (A1 A2 : Option Addr) (c1 c2 : Nat) (l1 l2 : List ByteArray) (h1 : Txts w A1 c1 l1) (h2 : Txts w A2 c2 l2) (hl : l1.length ≤ 100000) :
    Calls Try.prog 22 #[.slice A1 l1.length c1, .slice A2 l2.length c2] w fun e w' => e = .returned (.bool (decide (l1 = l2))) ∧ ∃ n, w' = w.drewN n := by
  have H1 := hid h1
  have H2 := hid h2
  clear h1 h2
  by_cases hn : l1.length = l2.length
  · have HN := hid hn
    go_enter Try.func22, Try.ntmps22
    rw [← hn]
    clear hn
    go_wp2
    go_loopw [13] (fun s13 wr => ∃ k n : Nat, k ≤ l1.length ∧ s13 = .int .i64 k ∧ l1.take k = l2.take k ∧ wr = w.drewN n) (fun s13 _ => l1.length - (intOf s13).toNat)
    case atStart => exact ⟨0, 0, by omega, rfl, rfl, rfl⟩
    case round =>
      obtain ⟨k, n, hk, rfl, he, rfl⟩ := hrel
      have HE := hid he
      clear he
      by_cases hkl : k < l1.length
      · have d1 : decide ((k : Int) < (l1.length : Int)) = true := decide_eq_true (by omega)
        obtain ⟨r1, o1, rfl, hr1, e1⟩ := H1.out.cell k hkl
        obtain ⟨r2, o2, rfl, hr2, e2⟩ := H2.out.cell k (by have := HN.out; omega)
        have hk0 : (0 : Int) ≤ (k : Int) := by omega
        have hk1 : (k : Int) < (l1.length : Int) := by omega
        generalize hx : l1[k] = x at e1
        generalize hy : l2[k] = y at e2
        have HX := hid hx
        have HY := hid hy
        clear hx hy
        by_cases hxy : x = y
        · subst hxy
          go_wp2_with fail
          go_quiet (fail)
          go_wp2_with fail
          go_roundw
          case rel =>
            refine ⟨k + 1, _, by omega, by go_num, ?_, rfl⟩
            rw [List.take_succ_eq_append_getElem hkl, List.take_succ_eq_append_getElem (by have := HN.out; omega), HE.out, HX.out, HY.out]
          case measure => simp [intOf]; omega
        · have d2 : (x.toList == y.toList) = false := beq_eq_false_iff_ne.2 fun h => hxy (text_inj h)
          go_wp2_with fail
          go_quiet (fail)
          go_wp2_with fail
          go_ret
          have hd : decide (l1 = l2) = false := by
            apply decide_eq_false
            intro h
            subst h
            exact hxy (HX.out.symm.trans HY.out)
          rw [hd]
          exact ⟨rfl, _, by rw [World.drewN_drewN]⟩
      · have d1 : decide ((k : Int) < (l1.length : Int)) = false := decide_eq_false (by omega)
        go_wp2_with fail
        go_ret
        refine ⟨?_, _, rfl⟩
        have h := HE.out
        rw [List.take_of_length_le (by omega), List.take_of_length_le (by have := HN.out; omega)] at h
        rw [decide_eq_true h]
        rfl
  · have d1 : ((l1.length : Int) == (l2.length : Int)) = false := beq_eq_false_iff_ne.2 (by omega)
    go_enter Try.func22, Try.ntmps22
    go_wp2
    go_ret
    have hd : decide (l1 = l2) = false := by
      apply decide_eq_false
      intro h
      exact hn (congrArg List.length h)
    rw [hd]
    exact ⟨rfl, 0, rfl⟩
end Go.Proofs.Ytpbagbhoenmpcaa
