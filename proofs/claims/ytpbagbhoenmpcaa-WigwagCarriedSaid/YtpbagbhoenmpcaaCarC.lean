/- One append of a slice of texts, empty or not, to a row that was just made. -/
import Derived.Test.YtpbagbhoenmpcaaCarB
import Derived.Deep.AppendSrc
namespace Go.Proofs.Ytpbagbhoenmpcaa
set_option linter.unusedVariables false
set_option linter.unusedSimpArgs false
open Go.RowKit

theorem step_inner {ops : Array Oper} {o : Oper} {a : Act} {K : Act → World → Prop} {Q : Exit → Act → World → Prop} {E : Prop} {W w2 : World} {H0 m c e0 : Nat} {A : Option Addr} {l : List ByteArray}
    (hgd : o.guard = none) (s x : Operand) (ho : o.op = .call { callee := .builtin .append, args := #[s, x], argTypes := #[22, 22] })
    (hs : a.eval s = .slice (some ⟨e0, 0, none⟩) 0 0) (hx : a.eval x = .slice A m c) (hown : W.ownsRow H0 9 1 (.slice (some ⟨e0, 0, none⟩) 0 0) 0 (tcells [])) (hT : Txts w2 A c l) (hn : l = [] → A = none ∧ c = 0) (hw : w2.heap.size = H0)
    (hB : Below H0 w2 W) (hl : l.length = m) (hk : m ≤ 100000) (hbase : H0 ≤ W.heap.size)
    (h : ∀ A' cap w', w'.ownsRow H0 9 1 (.slice A' m cap) m (tcells l) → W.grownBy w' (some e0) → Below H0 w2 w' → K (a.put o.dst (.slice A' m cap)) w') :
    if Region.wanted o (yielded ops a.tmps) = true then Oper.wp Try.prog o a W K Q else E := by
  by_cases he : l = []
  · obtain ⟨rfl, rfl⟩ := hn he
    obtain ⟨i0, hi, hz0, hz1, hz2⟩ := info_parts Try.info9
    subst he
    have hm : m = 0 := by simpa using hl.symm
    subst hm
    have hr := run_append_room_src (P := Try.prog) W 22 22 o.type 9 i0 Try.underlying22 hi e0 0 0 0 (.slice none 0 0) 0 [] (Src.ofNil W Try.underlying22 0) (by decide) (fun j hj => absurd hj (Nat.not_lt_zero _)) (fun j hj => absurd hj (Nat.not_lt_zero _))
    have hwd : Region.wanted o (yielded ops a.tmps) = true := by simp [Region.wanted, hgd]
    rw [if_pos hwd]
    unfold Oper.wp execOp
    simp only [ho, resolve, invoke, builtin, Sem.run_bind, Sem.run_pure, Result.andThen_ok, List.map_toArray, List.map_cons, List.map_nil, hs, hx, hr]
    exact h (some ⟨e0, 0, none⟩) 0 W hown (World.grownBy.refl _ _) hB
  · obtain ⟨r, q, rfl, hr, hnw⟩ := some_news hT he
    exact step_grow0 (w2 := w2) (news := l) hgd s x ho hs hx hown (hnw _ _ hw hB) hB hl (by rw [← hl]; exact List.length_pos_iff.2 he) hk hbase fun g cap w' h1 h2 h3 => h _ cap w' h1 h2 h3
end Go.Proofs.Ytpbagbhoenmpcaa
