/- WigwagCarried, plain: what the bag and the links hold, step by step, and that all comes at last. -/
import Derived.Test.YtpbagbhoenmpcaaNetQ
namespace Go.Proofs.Ytpbagbhoenmpcaa
set_option linter.unusedVariables false
set_option linter.unusedSimpArgs false

/-- A packet, read. -/
structure DP where
  id : Int
  fr : Nat
  dest : Nat
  n : Int
  c : Int
  t : ByteArray
def DP.enc (p : DP) : Pkt := ⟨p.id, p.fr, p.dest, pkt p.n p.c p.t⟩
def dps (i : Nat) (c : Int) : Int → Int → List ByteArray → List DP
  | _, _, [] => []
  | N, m, s :: r => ⟨N + 1, i, 1 - i, m, c, s⟩ :: dps i c (N + 1) (m + 1) r
def Lk.dp (k : Lk) (i : Nat) (N : Int) : List DP := if k.q.isEmpty && k.owes then [⟨N + 1, i, 1 - i, -1, k.came, ⟨#[]⟩⟩] else dps i k.came N k.acked (k.q.take 8)
theorem dps_enc (i : Nat) (hi : i < 2) (c : Int) : ∀ (q : List ByteArray) (N m : Int), (dps i c N m q).map DP.enc = pks i (1 - i) N (outs c m q)
  | [], _, _ => rfl
  | s :: r, N, m => by
    simp only [dps, List.map_cons, outs, pks, dps_enc i hi c r, DP.enc]
    rw [show ((1 - i : Nat) : Int) = 1 - (i : Int) by omega]
theorem Lk.dp_enc (k : Lk) (i : Nat) (hi : i < 2) (N : Int) : (k.dp i N).map DP.enc = pks i (1 - i) N k.packs := by
  unfold Lk.dp Lk.packs Go.Proofs.Ytpbagbhoenmpcaa.packs
  split
  · simp only [List.map_cons, List.map_nil, pks, DP.enc]
    rw [show ((1 - i : Nat) : Int) = 1 - (i : Int) by omega]
  · exact dps_enc i hi _ _ _ _
theorem dps_len (i : Nat) (c : Int) : ∀ (q : List ByteArray) (N m : Int), (dps i c N m q).length = q.length
  | [], _, _ => rfl
  | s :: r, N, m => by simp [dps, dps_len i c r]
theorem pks_len' (f t : Int) : ∀ (l : List ByteArray) (n : Int), (pks f t n l).length = l.length
  | [], _ => rfl
  | _ :: r, n => by simp [pks, pks_len' f t r]
theorem Lk.dp_len (k : Lk) (i : Nat) (hi : i < 2) (N : Int) : (k.dp i N).length = k.packs.length := by
  have := congrArg List.length (k.dp_enc i hi N)
  rwa [List.length_map, pks_len'] at this
theorem Lk.dp_le (k : Lk) (i : Nat) (N : Int) : (k.dp i N).length ≤ 8 := by
  unfold Lk.dp
  split
  · simp
  · rw [dps_len]; simp; omega
def Pair (i j : Nat) : Prop := (i = 0 ∧ j = 1) ∨ (i = 1 ∧ j = 0)

structure St where
  ks : Nat → Lk
  N : Int
  l : List DP
  put : Nat → List ByteArray
  got : Nat → List ByteArray
def St.enc (s : St) : List Pkt := s.l.map DP.enc
def St.sent (s : St) : St := ⟨quietUp s.ks 2, s.N + ((s.ks 0).dp 0 s.N).length + ((s.ks 1).dp 1 (s.N + ((s.ks 0).dp 0 s.N).length)).length, s.l ++ (s.ks 0).dp 0 s.N ++ (s.ks 1).dp 1 (s.N + ((s.ks 0).dp 0 s.N).length), s.put, s.got⟩
def St.arr (s : St) (p : DP) : St := ⟨upd s.ks p.dest ((s.ks p.dest).took p.n p.c), s.N, s.l, s.put, if 0 ≤ p.n ∧ p.n = (s.ks p.dest).came then upd s.got p.dest (s.got p.dest ++ [p.t]) else s.got⟩
def St.lose (s : St) (k : Nat) : St := ⟨s.ks, s.N, s.l.eraseIdx k, s.put, s.got⟩
def St.left (s : St) (l : List DP) : St := ⟨s.ks, s.N, l, s.put, s.got⟩
def St.dup (s : St) (p : DP) : St := ⟨s.ks, s.N + 1, s.l ++ [⟨s.N + 1, p.fr, p.dest, p.n, p.c, p.t⟩], s.put, s.got⟩
def St.push (s : St) (d : Nat) (t : ByteArray) : St := ⟨upd s.ks d ⟨(s.ks d).q ++ [t], (s.ks d).acked, (s.ks d).came, (s.ks d).owes⟩, s.N, s.l, upd s.put d (s.put d ++ [t]), s.got⟩
def St.many (s : St) (ps : List DP) : St := ps.foldl St.arr s
theorem St.sent_N (s : St) : s.sent.N = sentN s.ks s.N 2 := by
  simp only [St.sent, sentN, Lk.dp_len _ 0 (by decide), Lk.dp_len _ 1 (by decide)]
theorem St.sent_enc (s : St) : s.sent.enc = sentL s.ks s.N s.enc 2 := by
  simp only [St.enc, St.sent, sentL, sentN, List.map_append, Lk.dp_enc _ 0 (by decide), Lk.dp_enc _ 1 (by decide), Lk.dp_len _ 0 (by decide)]
theorem St.arr_l (s : St) (p : DP) : (s.arr p).l = s.l := rfl
theorem St.many_l : ∀ (ps : List DP) (s : St), (s.many ps).l = s.l
  | [], _ => rfl
  | p :: ps, s => St.many_l ps (s.arr p)
theorem St.many_N : ∀ (ps : List DP) (s : St), (s.many ps).N = s.N
  | [], _ => rfl
  | p :: ps, s => St.many_N ps (s.arr p)
theorem St.many_put : ∀ (ps : List DP) (s : St), (s.many ps).put = s.put
  | [], _ => rfl
  | p :: ps, s => St.many_put ps (s.arr p)
theorem St.many_snoc (s : St) (ps : List DP) (p : DP) : s.many (ps ++ [p]) = (s.many ps).arr p := by simp [St.many]
theorem St.many_append (s : St) (ps qs : List DP) : s.many (ps ++ qs) = (s.many ps).many qs := by simp [St.many]

/-- One direction: what was put at one end, what came at the other. -/
structure Dir (put got : List ByteArray) (a b : Lk) : Prop where
  a0 : 0 ≤ a.acked
  ab : a.acked ≤ b.came
  came : b.came = (got.length : Int)
  pre : got = put.take got.length
  fits : got.length ≤ put.length
  q : a.q = put.drop a.acked.toNat
  len : a.q.length ≤ 64
structure PkIn (s : St) (p : DP) : Prop where
  pair : Pair p.fr p.dest
  n0 : -1 ≤ p.n
  n1 : p.n < (s.put p.fr).length
  none : p.n < 0 → p.t = ⟨#[]⟩
  text : ∀ m : Nat, p.n = m → (s.put p.fr)[m]? = some p.t
  c0 : 0 ≤ p.c
  c1 : p.c ≤ (s.ks p.fr).came
structure Ok (s : St) : Prop where
  dir : ∀ i j, Pair i j → Dir (s.put i) (s.got j) (s.ks i) (s.ks j)
  small : ∀ i, i < 2 → ∀ t ∈ s.put i, t.size ≤ 1000
  few : ∀ i, i < 2 → (s.put i).length ≤ 1000
  pk : ∀ p ∈ s.l, PkIn s p
  ids : s.l.Pairwise (fun p q => p.id < q.id)
  idN : ∀ p ∈ s.l, p.id ≤ s.N
theorem Pair.symm {i j : Nat} (h : Pair i j) : Pair j i := by unfold Pair at *; omega
theorem Pair.lt {i j : Nat} (h : Pair i j) : i < 2 ∧ j < 2 ∧ i ≠ j := by unfold Pair at *; omega
theorem Pair.of {i : Nat} (h : i < 2) : Pair i (1 - i) := by unfold Pair at *; omega
theorem Pair.uniq {i j k : Nat} (h : Pair i j) (h' : Pair i k) : k = j := by unfold Pair at *; omega
theorem Pair.alt {i j a b : Nat} (h : Pair i j) (h' : Pair a b) : (a = i ∧ b = j) ∨ (a = j ∧ b = i) := by unfold Pair at *; omega

theorem Ok.lkOk {s : St} (h : Ok s) {i : Nat} (hi : i < 2) : LkOk (s.ks i) := by
  have d1 := h.dir i (1 - i) (Pair.of hi)
  have d2 := h.dir (1 - i) i (Pair.of hi).symm
  have := d1.a0; have := d1.ab; have := d1.came; have := d1.fits; have := d2.came; have := d2.fits
  have := h.few i hi; have := h.few (1 - i) (by omega)
  refine ⟨by omega, by omega, by omega, by omega, d1.len, fun j hj => ?_⟩
  refine h.small i hi _ ?_
  have hm := List.getElem_mem hj
  have : ∀ x, x ∈ (s.ks i).q → x ∈ s.put i := fun x hx => by rw [d1.q] at hx; exact List.mem_of_mem_drop hx
  exact this _ hm
theorem PkIn.pkOk {s : St} (h : Ok s) {p : DP} (hp : PkIn s p) : PkOk (s.ks p.dest) p.n p.c p.t := by
  have d1 := h.dir p.dest p.fr hp.pair.symm
  have hl := hp.pair.lt
  have := h.few p.fr hl.1
  have := h.few p.dest hl.2.1
  have := d1.came; have := d1.fits; have := hp.c1; have := hp.n1; have := d1.a0; have := d1.ab
  have hq : (s.ks p.dest).q.length = (s.put p.dest).length - (s.ks p.dest).acked.toNat := by rw [d1.q]; simp
  refine ⟨hp.n0, by omega, hp.c0, by omega, by omega, ?_, hp.none⟩
  by_cases hn : p.n < 0
  · rw [hp.none hn]; decide
  · obtain ⟨m, hm⟩ : ∃ m : Nat, p.n = m := ⟨p.n.toNat, by omega⟩
    exact h.small p.fr hl.1 _ (List.mem_of_getElem? (hp.text m hm))

theorem took_came {k : Lk} {n c : Int} : k.came ≤ (k.took n c).came := by
  simp only [Lk.took]; split <;> omega
theorem arr_came (s : St) (p : DP) (i : Nat) : (s.ks i).came ≤ ((s.arr p).ks i).came := by
  simp only [St.arr]
  by_cases e : i = p.dest
  · subst e; rw [upd_same]; exact took_came
  · rw [upd_other _ _ e]; exact Int.le_refl _
theorem PkIn.arr {s : St} {p p' : DP} (h : PkIn s p') : PkIn (s.arr p) p' :=
  ⟨h.pair, h.n0, h.n1, h.none, h.text, h.c0, Int.le_trans h.c1 (arr_came s p _)⟩
theorem PkIn.many {p' : DP} : ∀ {ps : List DP} {s : St}, PkIn s p' → PkIn (s.many ps) p'
  | [], _, h => h
  | p :: ps, s, h => PkIn.many (ps := ps) (s := s.arr p) h.arr
theorem Ok.arr {s : St} (h : Ok s) {p : DP} (hp : PkIn s p) : Ok (s.arr p) := by
  have hl := hp.pair.lt
  refine ⟨fun a b hab => ?_, h.small, h.few, fun p' hp' => (h.pk p' hp').arr, h.ids, h.idN⟩
  have d := h.dir a b hab
  rcases hp.pair.alt hab with ⟨rfl, rfl⟩ | ⟨rfl, rfl⟩
  · -- the packet's own direction
    simp only [St.arr, upd_same, upd_other _ _ hl.2.2]
    by_cases hb : 0 ≤ p.n ∧ p.n = (s.ks p.dest).came
    · simp only [Lk.took, if_pos hb]
      have hn := d.came
      have ht := hp.text (s.got p.dest).length (by omega)
      have hlt : (s.got p.dest).length < (s.put p.fr).length := by
        rcases Nat.lt_or_ge (s.got p.dest).length (s.put p.fr).length with h | h
        · exact h
        · rw [List.getElem?_eq_none h] at ht; cases ht
      have := d.ab
      refine ⟨d.a0, by show (s.ks p.fr).acked ≤ (s.ks p.dest).came + 1; omega, by simp only [upd_same, List.length_append, List.length_singleton]; omega, ?_, by simp only [upd_same, List.length_append, List.length_singleton]; omega, d.q, d.len⟩
      rw [upd_same, List.length_append, List.length_singleton, List.take_add_one, ht, ← d.pre]
      rfl
    · simp only [Lk.took, if_neg hb]
      exact ⟨d.a0, d.ab, d.came, d.pre, d.fits, d.q, d.len⟩
  · have hg : (if 0 ≤ p.n ∧ p.n = (s.ks p.dest).came then upd s.got p.dest (s.got p.dest ++ [p.t]) else s.got) p.fr = s.got p.fr := by
      split
      · rw [upd_other _ _ hl.2.2]
      · rfl
    have hks : (s.arr p).ks p.fr = s.ks p.fr := by simp only [St.arr]; rw [upd_other _ _ hl.2.2]
    have hkt : (s.arr p).ks p.dest = (s.ks p.dest).took p.n p.c := by simp only [St.arr]; rw [upd_same]
    have hgg : (s.arr p).got p.fr = s.got p.fr := hg
    rw [hks, hkt, hgg]
    show Dir (s.put p.dest) _ _ _
    have := hp.c1; have := d.a0; have := d.came; have := d.fits
    by_cases hc : 0 < p.c - (s.ks p.dest).acked
    · simp only [Lk.took, if_pos hc]
      refine ⟨by show (0:Int) ≤ p.c; omega, hp.c1, d.came, d.pre, d.fits, ?_, ?_⟩
      · show List.drop _ (s.ks p.dest).q = List.drop p.c.toNat (s.put p.dest)
        rw [d.q, List.drop_drop]
        congr 1; omega
      · show (List.drop _ (s.ks p.dest).q).length ≤ 64
        have := d.len
        rw [List.length_drop]; omega
    · simp only [Lk.took, if_neg hc]
      exact ⟨d.a0, d.ab, d.came, d.pre, d.fits, d.q, d.len⟩
theorem Ok.many : ∀ {ps : List DP} {s : St}, Ok s → (∀ p ∈ ps, PkIn s p) → Ok (s.many ps)
  | [], _, h, _ => h
  | p :: ps, s, h, hp => Ok.many (ps := ps) (h.arr (hp p (by simp))) fun p' hp' => (hp p' (by simp [hp'])).arr
theorem Ok.sub {s : St} (h : Ok s) {l : List DP} (hl : l.Sublist s.l) : Ok (s.left l) :=
  ⟨h.dir, h.small, h.few, fun p hp => have g := h.pk p (hl.subset hp); ⟨g.pair, g.n0, g.n1, g.none, g.text, g.c0, g.c1⟩, h.ids.sublist hl, fun p hp => h.idN p (hl.subset hp)⟩
theorem PkIn.left {s : St} {p : DP} (g : PkIn s p) (l : List DP) : PkIn (s.left l) p := ⟨g.pair, g.n0, g.n1, g.none, g.text, g.c0, g.c1⟩
theorem Ok.lose {s : St} (h : Ok s) (k : Nat) : Ok (s.lose k) := h.sub (List.eraseIdx_sublist _ _)
theorem Ok.dup {s : St} (h : Ok s) {p : DP} (hp : PkIn s p) : Ok (s.dup p) := by
  refine ⟨h.dir, h.small, h.few, fun p' hp' => ?_, ?_, fun p' hp' => ?_⟩
  · simp only [St.dup, List.mem_append, List.mem_singleton] at hp'
    rcases hp' with hp' | rfl
    · have g := h.pk p' hp'; exact ⟨g.pair, g.n0, g.n1, g.none, g.text, g.c0, g.c1⟩
    · exact ⟨hp.pair, hp.n0, hp.n1, hp.none, hp.text, hp.c0, hp.c1⟩
  · simp only [St.dup]
    refine List.pairwise_append.2 ⟨h.ids, by simp, fun a ha b hb => ?_⟩
    simp only [List.mem_singleton] at hb
    subst hb
    have := h.idN a ha
    show a.id < s.N + 1
    omega
  · simp only [St.dup, List.mem_append, List.mem_singleton] at hp' ⊢
    rcases hp' with hp' | rfl
    · have := h.idN p' hp'; show p'.id ≤ s.N + 1; omega
    · exact Int.le_refl _
theorem Ok.push {s : St} (h : Ok s) {d : Nat} (hd : d < 2) {t : ByteArray} (ht : t.size ≤ 1000) (hq : (s.ks d).q.length < 64) (hf : (s.put d).length < 1000) : Ok (s.push d t) := by
  have hpd := Pair.of hd
  have dd := h.dir d (1 - d) hpd
  have e1 : 1 - d ≠ d := by omega
  have hcame : ∀ i, ((s.push d t).ks i).came = (s.ks i).came := fun i => by
    simp only [St.push]
    by_cases e : i = d
    · subst e; rw [upd_same]
    · rw [upd_other _ _ e]
  have hput : ∀ i, (s.put i).length ≤ ((s.push d t).put i).length := fun i => by
    simp only [St.push]
    by_cases e : i = d
    · subst e; rw [upd_same]; simp
    · rw [upd_other _ _ e]; exact Nat.le_refl _
  have hget : ∀ i m x, (s.put i)[m]? = some x → ((s.push d t).put i)[m]? = some x := fun i m x hx => by
    simp only [St.push]
    by_cases e : i = d
    · subst e; rw [upd_same, List.getElem?_append_left]
      · exact hx
      · exact (List.getElem?_eq_some_iff.1 hx).1
    · rw [upd_other _ _ e]; exact hx
  refine ⟨fun a b hab => ?_, fun i hi x hx => ?_, fun i hi => ?_, fun p hp => ?_, h.ids, h.idN⟩
  · have g := h.dir a b hab
    rcases hpd.alt hab with ⟨rfl, rfl⟩ | ⟨rfl, rfl⟩
    · simp only [St.push, upd_same, upd_other _ _ e1]
      have := dd.a0; have := dd.ab; have := dd.came; have := dd.fits
      refine ⟨dd.a0, dd.ab, dd.came, ?_, by simp; omega, ?_, by simp; omega⟩
      · rw [List.take_append_of_le_length dd.fits]; exact dd.pre
      · show (s.ks a).q ++ [t] = _
        rw [List.drop_append_of_le_length (by show (s.ks a).acked.toNat ≤ _; omega), ← dd.q]
    · simp only [St.push, upd_same, upd_other _ _ e1]
      exact ⟨g.a0, g.ab, g.came, g.pre, g.fits, g.q, g.len⟩
  · simp only [St.push] at hx
    by_cases e : i = d
    · subst e
      rw [upd_same] at hx
      rcases List.mem_append.1 hx with hx | hx
      · exact h.small i hi x hx
      · rw [List.mem_singleton.1 hx]; exact ht
    · rw [upd_other _ _ e] at hx; exact h.small i hi x hx
  · simp only [St.push]
    by_cases e : i = d
    · subst e; rw [upd_same]; simp; omega
    · rw [upd_other _ _ e]; exact h.few i hi
  · have g := h.pk p hp
    exact ⟨g.pair, g.n0, by have := g.n1; have := hput p.fr; omega, g.none, fun m hm => hget _ _ _ (g.text m hm), g.c0, by rw [hcame]; exact g.c1⟩

theorem dps_mem {i : Nat} {c : Int} : ∀ {q : List ByteArray} {N m : Int} {p : DP}, p ∈ dps i c N m q → p.fr = i ∧ p.dest = 1 - i ∧ p.c = c ∧ (∃ k : Nat, p.n = m + k ∧ q[k]? = some p.t ∧ p.id = N + k + 1)
  | s :: r, N, m, p, h => by
    simp only [dps, List.mem_cons] at h
    rcases h with rfl | h
    · exact ⟨rfl, rfl, rfl, 0, by simp, rfl, by simp⟩
    · obtain ⟨h1, h2, h3, k, h4, h5, h6⟩ := dps_mem h
      exact ⟨h1, h2, h3, k + 1, by omega, by simpa using h5, by omega⟩
theorem dps_ids (i : Nat) (c : Int) : ∀ (q : List ByteArray) (N m : Int), (dps i c N m q).Pairwise (fun p q => p.id < q.id)
  | [], _, _ => List.Pairwise.nil
  | s :: r, N, m => by
    refine List.Pairwise.cons (fun p hp => ?_) (dps_ids i c r _ _)
    obtain ⟨_, _, _, k, _, _, h⟩ := dps_mem hp
    show N + 1 < p.id
    omega
theorem dp_ids (k : Lk) (i : Nat) (N : Int) : (k.dp i N).Pairwise (fun p q => p.id < q.id) ∧ ∀ p ∈ k.dp i N, N < p.id ∧ p.id ≤ N + (k.dp i N).length := by
  unfold Lk.dp
  split
  · exact ⟨by simp, fun p hp => by rw [List.mem_singleton.1 hp]; simp; omega⟩
  · refine ⟨dps_ids _ _ _ _ _, fun p hp => ?_⟩
    obtain ⟨_, _, _, m, _, h2, h⟩ := dps_mem hp
    have := (List.getElem?_eq_some_iff.1 h2).1
    rw [dps_len]
    omega
theorem dp_in {s : St} (h : Ok s) {i : Nat} (hi : i < 2) {N : Int} {p : DP} (hp : p ∈ (s.ks i).dp i N) : PkIn s p ∧ p.fr = i ∧ p.dest = 1 - i ∧ p.c = (s.ks i).came := by
  have hpr := Pair.of hi
  have d := h.dir i (1 - i) hpr
  have d2 := h.dir (1 - i) i hpr.symm
  have := d2.came; have := d.a0; have := d.ab; have := d.came; have := d.fits
  unfold Lk.dp at hp
  split at hp
  · rw [List.mem_singleton.1 hp]
    exact ⟨⟨hpr, Int.le_refl _, by show (-1 : Int) < _; omega, fun _ => rfl, fun m hm => absurd hm (by show ¬ (-1 : Int) = m; omega), by show 0 ≤ (s.ks i).came; omega, Int.le_refl _⟩, rfl, rfl, rfl⟩
  · obtain ⟨h1, h2, h3, k, h4, h5, _⟩ := dps_mem hp
    have hk : k < 8 := by
      have := (List.getElem?_eq_some_iff.1 h5).1
      simp at this; omega
    rw [List.getElem?_take_of_lt hk, d.q, List.getElem?_drop] at h5
    have h6 := (List.getElem?_eq_some_iff.1 h5).1
    refine ⟨⟨by rw [h1, h2]; exact hpr, by omega, by rw [h1]; omega, fun h => by omega, fun m hm => ?_, by rw [h3]; omega, by rw [h1, h3]; exact Int.le_refl _⟩, h1, h2, h3⟩
    rw [h1, show m = (s.ks i).acked.toNat + k by omega]
    exact h5
theorem quiet_came (ks : Nat → Lk) (n i : Nat) : (quietUp ks n i).came = (ks i).came := by
  unfold quietUp; split <;> rfl
theorem Ok.sent {s : St} (h : Ok s) : Ok s.sent := by
  have hpk : ∀ p, PkIn s p → PkIn s.sent p := fun p g => ⟨g.pair, g.n0, g.n1, g.none, g.text, g.c0, by show p.c ≤ (quietUp s.ks 2 p.fr).came; rw [quiet_came]; exact g.c1⟩
  have i0 := dp_ids (s.ks 0) 0 s.N
  have i1 := dp_ids (s.ks 1) 1 (s.N + ((s.ks 0).dp 0 s.N).length)
  refine ⟨fun a b hab => ?_, h.small, h.few, fun p hp => hpk p ?_, ?_, fun p hp => ?_⟩
  · have g := h.dir a b hab
    have hl := hab.lt
    have e1 : s.sent.ks a = (s.ks a).quiet := by simp only [St.sent, quietUp]; rw [if_pos hl.1]
    have e2 : s.sent.ks b = (s.ks b).quiet := by simp only [St.sent, quietUp]; rw [if_pos hl.2.1]
    rw [e1, e2]
    exact ⟨g.a0, g.ab, g.came, g.pre, g.fits, g.q, g.len⟩
  · simp only [St.sent, List.mem_append] at hp
    rcases hp with (hp | hp) | hp
    · exact h.pk p hp
    · exact (dp_in h (by decide) hp).1
    · exact (dp_in h (by decide) hp).1
  · simp only [St.sent]
    refine List.pairwise_append.2 ⟨List.pairwise_append.2 ⟨h.ids, i0.1, fun a ha b hb => ?_⟩, i1.1, fun a ha b hb => ?_⟩
    · have := h.idN a ha; have := (i0.2 b hb).1; omega
    · have hb1 := (i1.2 b hb).1
      rcases List.mem_append.1 ha with ha | ha
      · have := h.idN a ha; omega
      · have := (i0.2 a ha).2; omega
  · simp only [St.sent, List.mem_append] at hp ⊢
    rcases hp with (hp | hp) | hp
    · have := h.idN p hp; omega
    · have := (i0.2 p hp).2; omega
    · have := (i1.2 p hp).2; omega
theorem arr_acked (s : St) (p : DP) (i : Nat) : (s.ks i).acked ≤ ((s.arr p).ks i).acked := by
  simp only [St.arr]
  by_cases e : i = p.dest
  · subst e; rw [upd_same]; simp only [Lk.took]; split <;> omega
  · rw [upd_other _ _ e]; exact Int.le_refl _
theorem arr_owes (s : St) (p : DP) (i : Nat) : (s.ks i).owes = true → ((s.arr p).ks i).owes = true := by
  simp only [St.arr]
  by_cases e : i = p.dest
  · subst e; rw [upd_same]; simp only [Lk.took]; intro h; split <;> simp [h]
  · rw [upd_other _ _ e]; exact id
theorem many_acked (i : Nat) : ∀ (ps : List DP) (s : St), (s.ks i).acked ≤ ((s.many ps).ks i).acked
  | [], _ => Int.le_refl _
  | p :: ps, s => Int.le_trans (arr_acked s p i) (many_acked i ps (s.arr p))
theorem many_came (i : Nat) : ∀ (ps : List DP) (s : St), (s.ks i).came ≤ ((s.many ps).ks i).came
  | [], _ => Int.le_refl _
  | p :: ps, s => Int.le_trans (arr_came s p i) (many_came i ps (s.arr p))
theorem many_owes (i : Nat) : ∀ (ps : List DP) (s : St), (s.ks i).owes = true → ((s.many ps).ks i).owes = true
  | [], _, h => h
  | p :: ps, s, h => many_owes i ps (s.arr p) (arr_owes s p i h)
theorem many_ack {p : DP} : ∀ (ps : List DP) (s : St), p ∈ ps → p.c ≤ ((s.many ps).ks p.dest).acked
  | [], _, h => by cases h
  | q :: ps, s, h => by
    rcases List.mem_cons.1 h with rfl | h
    · refine Int.le_trans ?_ (many_acked p.dest ps (s.arr p))
      simp only [St.arr, upd_same, Lk.took]
      split <;> omega
    · exact many_ack ps (s.arr q) h
theorem many_owe {p : DP} : ∀ (ps : List DP) (s : St), p ∈ ps → 0 ≤ p.n → ((s.many ps).ks p.dest).owes = true
  | [], _, h, _ => by cases h
  | q :: ps, s, h, hn => by
    rcases List.mem_cons.1 h with rfl | h
    · refine many_owes p.dest ps (s.arr p) ?_
      simp only [St.arr, upd_same, Lk.took]
      rw [if_neg (by omega)]
    · exact many_owe ps (s.arr q) h hn
theorem many_calm (i : Nat) : ∀ (ps : List DP) (s : St), (∀ p ∈ ps, p.n < 0) → ((s.many ps).ks i).owes = (s.ks i).owes
  | [], _, _ => rfl
  | p :: ps, s, h => by
    have hp := h p (by simp)
    refine (many_calm i ps (s.arr p) fun q hq => h q (by simp [hq])).trans ?_
    simp only [St.arr]
    by_cases e : i = p.dest
    · subst e; rw [upd_same]; simp only [Lk.took]; rw [if_pos hp]
    · rw [upd_other _ _ e]
theorem many_dps (i : Nat) (c : Int) : ∀ (q : List ByteArray) (N m : Int) (s : St), 0 ≤ m → m ≤ (s.ks (1 - i)).came → m + q.length ≤ ((s.many (dps i c N m q)).ks (1 - i)).came
  | [], _, m, s, _, h => by simpa [St.many, dps] using h
  | t :: r, N, m, s, h0, h => by
    have := many_dps i c r (N + 1) (m + 1) (s.arr ⟨N + 1, i, 1 - i, m, c, t⟩) (by omega) (by
      simp only [St.arr, upd_same, Lk.took]
      split <;> omega)
    simp only [dps, List.length_cons]
    show m + ((r.length + 1 : Nat) : Int) ≤ _
    refine Int.le_trans ?_ this
    omega

/-- A round without loss: all is sent, all comes. -/
def St.round (s : St) : St := (s.sent.many s.sent.l).left []
theorem left_ks (s : St) (l : List DP) : (s.left l).ks = s.ks := rfl
theorem Ok.round {s : St} (h : Ok s) : Ok s.round := (Ok.many h.sent fun p hp => h.sent.pk p hp).sub (List.nil_sublist _)
theorem round_put (s : St) : s.round.put = s.put := by
  show (s.sent.many s.sent.l).put = s.put
  rw [St.many_put]; rfl
theorem round_l (s : St) : s.round.l = [] := rfl
theorem sent_acked (s : St) (i : Nat) : (s.sent.ks i).acked = (s.ks i).acked := by
  simp only [St.sent, quietUp]; split <;> rfl
theorem sent_came (s : St) (i : Nat) : (s.sent.ks i).came = (s.ks i).came := by
  simp only [St.sent, quietUp]; split <;> rfl
theorem round_acked (s : St) (i : Nat) : (s.ks i).acked ≤ (s.round.ks i).acked := by
  rw [← sent_acked s i]; exact many_acked i _ _
theorem round_came (s : St) (i : Nat) : (s.ks i).came ≤ (s.round.ks i).came := by
  rw [← sent_came s i]; exact many_came i _ _
theorem mem_sent (s : St) {i : Nat} (hi : i < 2) : ∃ N, (∀ p ∈ (s.ks i).dp i N, p ∈ s.sent.l) ∧ ∃ A B, s.sent.l = A ++ ((s.ks i).dp i N ++ B) := by
  have : i = 0 ∨ i = 1 := by omega
  rcases this with rfl | rfl
  · exact ⟨s.N, fun p hp => by simp [St.sent, hp], s.l, (s.ks 1).dp 1 (s.N + ((s.ks 0).dp 0 s.N).length), by simp only [St.sent, List.append_assoc]⟩
  · exact ⟨s.N + ((s.ks 0).dp 0 s.N).length, fun p hp => by simp [St.sent, hp], s.l ++ (s.ks 0).dp 0 s.N, [], by simp only [St.sent, List.append_nil]⟩
/-- What was sent and is next comes. -/
theorem round_grow {s : St} (h : Ok s) {i j : Nat} (hp : Pair i j) : (s.ks i).acked + ((s.ks i).q.take 8).length ≤ (s.round.ks j).came := by
  have hl := hp.lt
  have d := h.dir i j hp
  have ej : j = 1 - i := by unfold Pair at hp; omega
  obtain ⟨N, _, A, B, hAB⟩ := mem_sent s hl.1
  show _ ≤ ((s.sent.many s.sent.l).ks j).came
  rw [hAB, St.many_append, St.many_append]
  refine Int.le_trans ?_ (many_came j B _)
  have h1 : (s.ks i).acked ≤ ((s.sent.many A).ks j).came := by
    have h2 := many_came j A s.sent
    rw [sent_came] at h2
    have := d.ab
    omega
  unfold Lk.dp
  by_cases hq : ((s.ks i).q.isEmpty && (s.ks i).owes) = true
  · rw [if_pos hq]
    have : (s.ks i).q = [] := by simp at hq; exact hq.1
    rw [this]
    exact Int.le_trans (by simpa using h1) (many_came j _ _)
  · rw [if_neg hq]
    subst ej
    exact many_dps i _ _ _ _ _ d.a0 h1
/-- Who has something to say says how many came. -/
theorem round_ack {s : St} (h : Ok s) {i j : Nat} (hp : Pair i j) (hs : (s.ks j).q ≠ [] ∨ (s.ks j).owes = true) : (s.ks j).came ≤ (s.round.ks i).acked := by
  have hl := hp.lt
  obtain ⟨N, hm, _⟩ := mem_sent s hl.2.1
  have hne : ∃ p, p ∈ (s.ks j).dp j N := by
    unfold Lk.dp
    by_cases hq : ((s.ks j).q.isEmpty && (s.ks j).owes) = true
    · rw [if_pos hq]; exact ⟨_, List.mem_singleton.2 rfl⟩
    · rw [if_neg hq]
      cases e : (s.ks j).q with
      | nil =>
        rcases hs with h1 | h1
        · exact absurd e h1
        · rw [e, h1] at hq; exact absurd rfl hq
      | cons a r => exact ⟨_, List.mem_cons_self ..⟩
  obtain ⟨p, hp1⟩ := hne
  have hin := dp_in h hl.2.1 hp1
  have hi : p.dest = i := by rw [hin.2.2.1]; unfold Pair at hp; omega
  have := many_ack s.sent.l s.sent (hm p hp1)
  rw [hin.2.2.2, hi] at this
  exact this
theorem round_owe {s : St} (h : Ok s) {i j : Nat} (hp : Pair i j) (hs : (s.ks i).q ≠ []) : (s.round.ks j).owes = true := by
  have hl := hp.lt
  obtain ⟨N, hm, _⟩ := mem_sent s hl.1
  have hd := (h.dir i j hp).a0
  have hne : ∃ p, p ∈ (s.ks i).dp i N ∧ 0 ≤ p.n := by
    unfold Lk.dp
    cases e : (s.ks i).q with
    | nil => exact absurd e hs
    | cons a r =>
      rw [if_neg (by simp)]
      exact ⟨_, List.mem_cons_self .., hd⟩
  obtain ⟨p, hp1, hn⟩ := hne
  have hin := dp_in h hl.1 hp1
  have hi : p.dest = j := by rw [hin.2.2.1]; unfold Pair at hp; omega
  have := many_owe s.sent.l s.sent (hm p hp1) hn
  rwa [hi] at this
theorem round_still {s : St} (hl : s.l = []) (h0 : (s.ks 0).q = []) (h1 : (s.ks 1).q = []) {i : Nat} (hi : i < 2) : (s.round.ks i).owes = false := by
  show ((s.sent.many s.sent.l).ks i).owes = false
  rw [many_calm]
  · simp only [St.sent, quietUp]; rw [if_pos hi]; rfl
  · intro p hp
    simp only [St.sent, hl, List.nil_append, List.mem_append] at hp
    have key : ∀ (k : Lk) (j : Nat) (N : Int), k.q = [] → p ∈ k.dp j N → p.n < 0 := by
      intro k j N hq hp
      unfold Lk.dp at hp
      split at hp
      · rw [List.mem_singleton.1 hp]; show (-1 : Int) < 0; decide
      · rw [hq] at hp; cases hp
    rcases hp with hp | hp
    · exact key _ _ _ h0 hp
    · exact key _ _ _ h1 hp
theorem q_len {s : St} (h : Ok s) {i j : Nat} (hp : Pair i j) : (s.ks i).acked + (s.ks i).q.length = (s.put i).length := by
  have d := h.dir i j hp
  have hq := congrArg List.length d.q
  rw [List.length_drop] at hq
  have := d.a0; have := d.ab; have := d.came; have := d.fits
  omega
theorem got_done {s : St} (h : Ok s) {i j : Nat} (hp : Pair i j) (hq : (s.ks i).q = []) : s.got j = s.put i := by
  have d := h.dir i j hp
  have h4 := q_len h hp
  have := d.ab; have := d.came; have := d.fits
  rw [hq] at h4
  rw [d.pre, List.take_of_length_le]
  simp at h4
  omega
def St.rounds (s : St) : Nat → St
  | 0 => s
  | n + 1 => (s.rounds n).round
theorem Ok.rounds {s : St} (h : Ok s) : ∀ n, Ok (s.rounds n)
  | 0 => h
  | n + 1 => (h.rounds n).round
theorem rounds_put (s : St) : ∀ n, (s.rounds n).put = s.put
  | 0 => rfl
  | n + 1 => (round_put _).trans (rounds_put s n)
theorem rounds_l (s : St) : ∀ n, 0 < n → (s.rounds n).l = []
  | n + 1, _ => rfl
theorem two_rounds {s : St} (h : Ok s) {i j : Nat} (hp : Pair i j) : (s.ks i).acked + ((s.ks i).q.take 8).length ≤ (s.round.round.ks i).acked := by
  by_cases hq : (s.ks i).q = []
  · rw [hq]
    have := round_acked s i; have := round_acked s.round i
    simp; omega
  · exact Int.le_trans (round_grow h hp) (round_ack h.round hp (Or.inr (round_owe h hp hq)))
theorem many_rounds {s : St} (h : Ok s) {i j : Nat} (hp : Pair i j) : ∀ n : Nat, (s.ks i).acked + min (8 * n) (s.ks i).q.length ≤ ((s.rounds (2 * n)).ks i).acked
  | 0 => by simp [St.rounds]
  | n + 1 => by
    have h1 := many_rounds h hp n
    have h2 := two_rounds (h.rounds (2 * n)) hp
    have h3 := q_len h hp
    have h4 := q_len (h.rounds (2 * n)) hp
    rw [rounds_put] at h4
    rw [List.length_take] at h2
    rw [show 2 * (n + 1) = 2 * n + 1 + 1 by omega]
    show _ ≤ ((s.rounds (2 * n)).round.round.ks i).acked
    omega
theorem q_nil {s : St} (h : Ok s) {i j : Nat} (hp : Pair i j) {n : Nat} (hn : 16 ≤ n) : ((s.rounds n).ks i).q = [] := by
  have step : ∀ m : Nat, ((s.rounds 16).ks i).acked ≤ ((s.rounds (16 + m)).ks i).acked := by
    intro m
    induction m with
    | zero => exact Int.le_refl _
    | succ m ih => exact Int.le_trans ih (round_acked _ _)
  have h1 := many_rounds h hp 8
  rw [show 2 * 8 = 16 from rfl] at h1
  have h2 := step (n - 16)
  rw [show 16 + (n - 16) = n by omega] at h2
  have h3 := q_len h hp
  have h4 := q_len (h.rounds n) hp
  rw [rounds_put] at h4
  have := (h.dir i j hp).len
  apply List.eq_nil_of_length_eq_zero
  omega
theorem at_last {s : St} (h : Ok s) : ∀ n, 17 ≤ n → (∀ i j, Pair i j → (s.rounds n).got j = s.put i) ∧ ∀ i, i < 2 → ((s.rounds n).ks i).q = [] ∧ ((s.rounds n).ks i).owes = false
  | n + 1, hn => by
    have hq : ∀ i, i < 2 → ∀ n, 16 ≤ n → ((s.rounds n).ks i).q = [] := fun i hi n hn => q_nil h (Pair.of hi) hn
    refine ⟨fun i j hp => ?_, fun i hi => ⟨hq i hi (n + 1) (by omega), ?_⟩⟩
    · have := got_done (h.rounds (n + 1)) hp (hq i hp.lt.1 (n + 1) (by omega))
      rwa [rounds_put] at this
    · show ((s.rounds n).round.ks i).owes = false
      exact round_still (rounds_l s n (by omega)) (hq 0 (by decide) n (by omega)) (hq 1 (by decide) n (by omega)) hi
end Go.Proofs.Ytpbagbhoenmpcaa
