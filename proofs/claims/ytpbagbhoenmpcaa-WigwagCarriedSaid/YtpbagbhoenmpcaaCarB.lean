/- WigwagCarried: a round in which all packets of the bag are taken, one by one, and arrive. -/
import Derived.Test.YtpbagbhoenmpcaaCarA
namespace Go.Proofs.Ytpbagbhoenmpcaa
set_option linter.unusedVariables false
set_option linter.unusedSimpArgs false
open Go.RowKit

theorem Cnt.round {s : St} {i : Nat} (h : Cnt s i) : Cnt s.round (i + 1) := by
  have h1 := h.sent
  have hN : s.round.N = s.sent.N := St.many_N _ _
  exact ⟨by rw [hN]; exact h1.n0, by rw [hN]; exact h1.n1, Nat.zero_le _, fun d hd => by rw [round_put]; exact Nat.le_succ_of_le (h.put d hd)⟩
theorem Cnt.rounds {s : St} {i : Nat} (h : Cnt s i) : ∀ n, Cnt (s.rounds n) (i + n)
  | 0 => h
  | n + 1 => (h.rounds n).round
/-- Of the list k are taken: the memory behind j of them gone from the bag. -/
def Draw (B : Nat) (w0 : World) (S : St) (base : Nat) (vs : Value) (k j : Nat) (wr : World) : Prop := ∃ v, MemV B w0 wr v ((S.many (S.l.take k)).left (S.l.drop j)) ∧ wr.ownsRow base 32 4 vs S.l.length (rowOf S.enc) ∧ (∀ r, vs.ownBlock = some r → v.ownBlock ≠ some r) ∧ B + 1 + 1 + 1 < base
section
variable {B base : Nat} {w0 wr w' : World} {S : St} {vs : Value} {k j : Nat}
theorem Draw.start {v : Value} (h : MemV B w0 wr v S) (ho : w'.ownsRow wr.heap.size 32 4 vs S.l.length (rowOf S.enc)) (hb : Below wr.heap.size wr w') : Draw B w0 S wr.heap.size vs 0 0 w' := by
  refine ⟨v, h.later hb, ho, fun r hr e => ?_, h.gt⟩
  obtain ⟨cs, ds, es, h1, _⟩ := h
  have := (h1.bag.own.lt r e).2
  have := (ho.lt r hr).1
  omega
theorem Draw.later (h : Draw B w0 S base vs k j wr) (hb : Below wr.heap.size wr w') : Draw B w0 S base vs k j w' := by
  obtain ⟨v, h1, h2, h3, h4⟩ := h
  exact ⟨v, h1.later hb, ownsRow_keep h2 (below_keep hb fun _ => False) (fun _ _ h => h), h3, h4⟩
theorem Draw.own (h : Draw B w0 S base vs k j wr) : wr.ownsRow base 32 4 vs S.l.length (rowOf S.enc) := by
  obtain ⟨_, _, h, _⟩ := h
  exact h
theorem draw_ok (ok : Ok S) (k j : Nat) : Ok ((S.many (S.l.take k)).left (S.l.drop j)) := by
  refine (Ok.many ok fun p hp => ok.pk p (List.mem_of_mem_take hp)).sub ?_
  rw [St.many_l]
  exact List.drop_sublist _ _
theorem draw_in (ok : Ok S) (k j : Nat) {p : DP} (hp : p ∈ S.l) : PkIn ((S.many (S.l.take k)).left (S.l.drop j)) p := (PkIn.many (ok.pk p hp)).left _
theorem draw_take (h : Draw B w0 S base vs k k wr) (ok : Ok S) (hk : k < S.l.length) (hl : S.l.length ≤ 10000) :
    Calls Try.prog 11 #[.pointer (some ⟨B, 0, none⟩), .int .i64 S.l[k].id] wr fun e w' => e = .returned (.tuple #[S.l[k].enc.val, .nilIface]) ∧ Draw B w0 S base vs k (k + 1) w' := by
  obtain ⟨v, h1, h2, h3, h4⟩ := h
  have hk0 : 0 < ((S.many (S.l.take k)).left (S.l.drop k)).l.length := by show 0 < (S.l.drop k).length; rw [List.length_drop]; omega
  have he : ((S.many (S.l.take k)).left (S.l.drop k)).l[0] = S.l[k] := by
    have hd : 0 < (S.l.drop k).length := hk0
    exact (List.getElem_drop (h := hd)).trans (by simp)
  have hh := mem_take h1 (draw_ok ok k k) hk0 (by show (S.l.drop k).length ≤ 10000; rw [List.length_drop]; omega)
  rw [he] at hh
  refine hh.mono ?_
  rintro e w' ⟨rfl, v', hm, hmv, hc⟩
  have hlose : ((S.many (S.l.take k)).left (S.l.drop k)).lose 0 = (S.many (S.l.take k)).left (S.l.drop (k + 1)) := by
    show (S.many (S.l.take k)).left ((S.l.drop k).eraseIdx 0) = _
    rw [List.drop_eq_getElem_cons hk]
    rfl
  rw [hlose] at hm
  refine ⟨rfl, v', hm, ownsRow_keep h2 hmv.keep ?_, fun r hr e => ?_, h4⟩
  · rintro r hr (e | e)
    · have := (h2.lt r hr).1; omega
    · exact h3 r hr e
  · rcases hmv.row r e with e | e
    · exact h3 r hr e
    · have := (h2.lt r hr).2; omega
theorem draw_arrive (h : Draw B w0 S base vs k (k + 1) wr) (ok : Ok S) (hk : k < S.l.length) :
    Calls Try.prog 19 #[.pointer (some ⟨B + 1, 0, none⟩), .pointer (some ⟨B + 1 + 1 + 1, 0, none⟩), S.l[k].enc.val] wr fun e w' => e = .returned (.int .i64 0) ∧ Draw B w0 S base vs (k + 1) (k + 1) w' := by
  obtain ⟨v, h1, h2, h3, h4⟩ := h
  refine (mem_arrive h1 (draw_ok ok k (k + 1)) (draw_in ok k (k + 1) (List.getElem_mem hk))).mono ?_
  rintro e w' ⟨rfl, hm, hkp⟩
  have harr : ((S.many (S.l.take k)).left (S.l.drop (k + 1))).arr S.l[k] = (S.many (S.l.take (k + 1))).left (S.l.drop (k + 1)) := by
    rw [List.take_succ_eq_append_getElem hk, St.many_snoc]
    rfl
  rw [harr] at hm
  refine ⟨rfl, v, hm, ownsRow_keep h2 hkp ?_, h3, h4⟩
  rintro r hr (e | e)
  · have := (h2.lt r hr).1; omega
  · have := (h2.lt r hr).1; omega
theorem Draw.done (h : Draw B w0 S base vs S.l.length S.l.length wr) : Mem B w0 wr ((S.many S.l).left []) := by
  obtain ⟨v, h1, _⟩ := h
  rw [List.take_length, List.drop_length] at h1
  exact ⟨v, h1⟩
end
end Go.Proofs.Ytpbagbhoenmpcaa
