/- WigwagCarried: the memory that holds a state of the plain law; what each call makes of it. -/
import Derived.Test.YtpbagbhoenmpcaaNetR
import Derived.Test.YtpbagbhoenmpcaaCarP
namespace Go.Proofs.Ytpbagbhoenmpcaa
set_option linter.unusedVariables false
set_option linter.unusedSimpArgs false
open Go.RowKit

/-- The bag at B, the links in B + 1, what was put in B + 1 + 1, what came in B + 1 + 1 + 1. -/
def MemV (B : Nat) (w0 wr : World) (v : Value) (s : St) : Prop := ∃ cs ds es, Net wr B B (B + 1) v s.N s.enc cs s.ks ∧ PairAt wr (B + 1 + 1) ds s.put ∧ PairAt wr (B + 1 + 1 + 1) es s.got ∧ Below B w0 wr
def Mem (B : Nat) (w0 wr : World) (s : St) : Prop := ∃ v, MemV B w0 wr v s

theorem Txts.take {w : World} {A : Option Addr} {cap : Nat} {l : List ByteArray} (h : Txts w A cap l) (n : Nat) : Txts w A cap (l.take n) :=
  ⟨Nat.le_trans (List.length_take_le' _ _) h.le, h.max, fun e => by rw [h.nil e]; simp, fun hl => by
    obtain ⟨r, o, cs, h1, h2, h3⟩ := h.row (by have := List.length_take_le' n l; omega)
    exact ⟨r, o, cs, h1, h2, fun k hk => by rw [List.getElem_take]; exact h3 k (by have := List.length_take_le' n l; omega)⟩⟩
section
variable {B : Nat} {w0 wr w' : World} {v : Value} {s : St}
theorem PairAt.below {w w' : World} {p : Nat} {cs : Array Value} {gs : Nat → List ByteArray} (h : PairAt w p cs gs) (hb : Below w.heap.size w w') : PairAt w' p cs gs :=
  ⟨Below.blk hb h.1 (blk_lt h.1), fun i hi => by
    obtain ⟨A, cap, h1, h2, h3⟩ := h.2 i hi
    exact ⟨A, cap, h1, h2.below hb, h3⟩⟩
theorem MemV.later (h : MemV B w0 wr v s) (hb : Below wr.heap.size wr w') : MemV B w0 w' v s := by
  obtain ⟨cs, ds, es, h1, h2, h3, h4⟩ := h
  exact ⟨cs, ds, es, h1.later hb, h2.below hb, h3.below hb, h4.trans (hb.mono h1.size)⟩
theorem Mem.later (h : Mem B w0 wr s) (hb : Below wr.heap.size wr w') : Mem B w0 w' s := h.elim fun v h => ⟨v, h.later hb⟩
theorem MemV.size (h : MemV B w0 wr v s) : B ≤ wr.heap.size := by
  obtain ⟨cs, ds, es, h1, _⟩ := h
  exact h1.size
theorem MemV.bel (h : MemV B w0 wr v s) : Below B w0 wr := by
  obtain ⟨_, _, _, _, _, _, h⟩ := h
  exact h
theorem Mem.bel (h : Mem B w0 wr s) : Below B w0 wr := h.elim fun v h => h.bel
theorem MemV.gt (h : MemV B w0 wr v s) : B + 1 + 1 + 1 < wr.heap.size := by
  obtain ⟨_, _, _, _, _, h, _⟩ := h
  exact blk_lt h.1

theorem pk_pos {l : List DP} (h : l.Pairwise (fun p q => p.id < q.id)) {k : Nat} (hk : k < l.length) : posOf (l.map DP.enc) l[k].id = (k : Int) := by
  unfold posOf
  have : (l.map DP.enc).findIdx? (fun p => p.id == l[k].id) = some k := by
    rw [List.findIdx?_eq_some_iff_getElem]
    refine ⟨by simpa using hk, by simp [DP.enc], fun j hj => ?_⟩
    have := List.pairwise_iff_getElem.1 h j k (by omega) hk hj
    simp [DP.enc]
    omega
  rw [this]
  rfl
theorem map_erase : ∀ (l : List DP) (k : Nat), (l.eraseIdx k).map DP.enc = (l.map DP.enc).eraseIdx k
  | [], _ => rfl
  | _ :: _, 0 => rfl
  | a :: l, k + 1 => by simp [map_erase l k]
theorem lose_enc (s : St) (k : Nat) : (s.lose k).enc = s.enc.eraseIdx k := map_erase _ _
theorem enc_len (s : St) : s.enc.length = s.l.length := by simp [St.enc]
theorem enc_get (s : St) {k : Nat} (hk : k < s.l.length) : s.enc[k]'(by rw [enc_len]; exact hk) = s.l[k].enc := by simp [St.enc]

theorem mem_send (h : Mem B w0 wr s) (ok : Ok s) (hn0 : 0 ≤ s.N) (hn : s.N < 900000) (hl : s.l.length < 3900) :
    Calls Try.prog 16 #[.pointer (some ⟨B, 0, none⟩), .pointer (some ⟨B + 1, 0, none⟩)] wr fun e w' => e = .returned (.tuple #[]) ∧ Mem B w0 w' s.sent ∧ Calm B wr w' := by
  obtain ⟨v, cs, ds, es, h1, h2, h3, h4⟩ := h
  refine (net_send wr B B (B + 1) v s.N s.enc cs s.ks h1 (fun i hi => ok.lkOk hi) hn0 hn (by rw [enc_len]; exact hl)).mono ?_
  rintro e w' ⟨rfl, ⟨v', cs', h5⟩, hc⟩
  rw [← St.sent_N, ← St.sent_enc] at h5
  exact ⟨rfl, ⟨v', cs', ds, es, h5, h2.calm hc, h3.calm hc, h4.trans hc.1⟩, hc⟩
theorem mem_len (h : Mem B w0 wr s) : Calls Try.prog 15 #[.pointer (some ⟨B, 0, none⟩)] wr fun e w' => e = .returned (.int .i64 s.l.length) ∧ w' = wr := by
  obtain ⟨v, cs, ds, es, h1, h2, h3, h4⟩ := h
  refine (len_any wr B B v s.N s.enc h1.bag).mono ?_
  rintro e w' ⟨rfl, rfl⟩
  exact ⟨by rw [enc_len], rfl⟩
theorem mem_idle (h : Mem B w0 wr s) {i : Nat} (hi : i < 2) : Calls Try.prog 14 #[.pointer (some ⟨B + 1, i * 4, none⟩)] wr fun e w' => e = .returned (.bool ((s.ks i).q.isEmpty && !(s.ks i).owes)) ∧ w' = wr := by
  obtain ⟨v, cs, ds, es, h1, h2, h3, h4⟩ := h
  obtain ⟨A, cap, hL⟩ := h1.links i hi
  exact idle_any wr (B + 1) (i * 4) cs 42 A cap _ _ _ _ hL
theorem mem_all (h : MemV B w0 wr v s) (hl : s.l.length ≤ 10000) : Calls Try.prog 17 #[.pointer (some ⟨B, 0, none⟩)] wr (Fresh s.enc wr) := by
  obtain ⟨cs, ds, es, h1, h2, h3, h4⟩ := h
  exact all_any wr B B v s.N s.enc h1.bag (by rw [enc_len]; exact hl)
def TookAt (B : Nat) (w0 wr : World) (v : Value) (s : St) (k : Nat) (p : DP) (e : Ending) (w' : World) : Prop :=
  e = .returned (.tuple #[p.enc.val, .nilIface]) ∧ ∃ v', MemV B w0 w' v' (s.lose k) ∧ Moves B v v' wr w' ∧ Calm B wr w'
theorem mem_take (h : MemV B w0 wr v s) (ok : Ok s) {k : Nat} (hk : k < s.l.length) (hl : s.l.length ≤ 10000) :
    Calls Try.prog 11 #[.pointer (some ⟨B, 0, none⟩), .int .i64 s.l[k].id] wr (TookAt B w0 wr v s k s.l[k]) := by
  obtain ⟨cs, ds, es, h1, h2, h3, h4⟩ := h
  refine (take_ok wr B B v s.N s.l[k].id s.enc k h1.bag (by rw [enc_len]; exact hl) (by rw [enc_len]; exact hk) (pk_pos ok.ids hk) h1.size).mono ?_
  rintro e w' ⟨rfl, v', hb, hm⟩
  obtain ⟨hn, hc⟩ := h1.bagged hb hm
  rw [← lose_enc] at hn
  exact ⟨by rw [enc_get s hk], v', ⟨cs, ds, es, hn, h2.calm hc, h3.calm hc, h4.trans hc.1⟩, hm, hc⟩
theorem mem_copy (h : MemV B w0 wr v s) (ok : Ok s) {k : Nat} (hk : k < s.l.length) (hl : s.l.length < 4000) (hn0 : 0 ≤ s.N) (hn : s.N < 1000000) :
    Calls Try.prog 18 #[.pointer (some ⟨B, 0, none⟩), .int .i64 s.l[k].id] wr fun e w' => (∃ x, e = .returned x) ∧ Mem B w0 w' (s.dup s.l[k]) ∧ Calm B wr w' := by
  obtain ⟨cs, ds, es, h1, h2, h3, h4⟩ := h
  have hp := ok.pk _ (List.getElem_mem hk)
  have hkk := hp.pkOk ok
  have he := enc_get s hk
  refine (copy_ok wr B B v s.N s.l[k].id s.enc k h1.bag (by rw [enc_len]; exact hk) (pk_pos ok.ids hk) ?_ (by rw [enc_len]; exact hl) hn0 hn h1.size).mono ?_
  · rw [he]
    have := hkk.n0; have := hkk.n1; have := hkk.c0; have := hkk.c1; have := hkk.size
    exact pkt_small (by omega) (by omega) (by omega) (by omega) (by omega)
  · rintro e w' ⟨rfl, v', hb, hm⟩
    rw [he] at hb
    obtain ⟨hn, hc⟩ := h1.bagged hb hm
    refine ⟨⟨_, rfl⟩, ⟨v', cs, ds, es, ?_, h2.calm hc, h3.calm hc, h4.trans hc.1⟩, hc⟩
    have : (s.dup s.l[k]).enc = s.enc ++ [⟨s.N + 1, s.l[k].enc.frm, s.l[k].enc.to, s.l[k].enc.text⟩] := by
      simp only [St.enc, St.dup, List.map_append, List.map_cons, List.map_nil, DP.enc]
    rw [this]
    exact hn
theorem mem_arrive (h : MemV B w0 wr v s) (ok : Ok s) {p : DP} (hp : PkIn s p) :
    Calls Try.prog 19 #[.pointer (some ⟨B + 1, 0, none⟩), .pointer (some ⟨B + 1 + 1 + 1, 0, none⟩), p.enc.val] wr fun e w' => e = .returned (.int .i64 0) ∧ MemV B w0 w' v (s.arr p) ∧ Keep (fun k => k = B + 1 ∨ k = B + 1 + 1 + 1) wr w' := by
  obtain ⟨cs, ds, es, h1, h2, h3, h4⟩ := h
  have hl := hp.pair.lt
  have hgl : (s.got p.dest).length ≤ 1000 := by
    have d := ok.dir p.fr p.dest hp.pair
    have := d.fits; have := ok.few p.fr hl.1; omega
  refine (arrive_any wr B B (B + 1) (B + 1 + 1 + 1) v s.N s.enc cs es s.ks s.got p.id p.fr p.dest p.n p.c p.t h1 h3 hl.2.1 (ok.lkOk hl.2.1) (hp.pkOk ok) (by omega) hgl).mono ?_
  rintro e w' ⟨rfl, ⟨cs', h5⟩, ⟨es', h6⟩, hb, hk⟩
  refine ⟨rfl, ⟨cs', ds, es', h5, ?_, h6, h4.trans hb⟩, hk⟩
  refine ⟨hk.blk h2.1 (by omega), fun i hi => ?_⟩
  obtain ⟨A, cap, e1, e2, e3⟩ := h2.2 i hi
  refine ⟨A, cap, e1, e2.keep hk fun k c hh e => ?_, e3⟩
  rcases e with e | e
  · subst e
    exact absurd (type_ne h1.gblk hh) (by decide)
  · subst e
    exact absurd (type_ne h3.1 hh) (by decide)
/-- The link takes a text; what was put is not yet written down. -/
def St.pushed (s : St) (d : Nat) (t : ByteArray) : St := ⟨upd s.ks d ⟨(s.ks d).q ++ [t], (s.ks d).acked, (s.ks d).came, (s.ks d).owes⟩, s.N, s.l, s.put, s.got⟩
theorem mem_push (h : MemV B w0 wr v s) {d : Nat} (hd : d < 2) {t : ByteArray} (ht : t.size ≤ 1970) (hq : (s.ks d).q.length < 64) :
    Calls Try.prog 21 #[.pointer (some ⟨B + 1, d * 4, none⟩), .string t] wr fun e w' => e = .returned .nilIface ∧ MemV B w0 w' v (s.pushed d t) ∧ Calm B wr w' := by
  obtain ⟨cs, ds, es, h1, h2, h3, h4⟩ := h
  obtain ⟨A, cap, hL⟩ := h1.links d hd
  refine (push_to hL ht hq).mono ?_
  rintro e w' ⟨rfl, hto⟩
  obtain ⟨⟨cs', hn⟩, hc⟩ := h1.linked hd hto
  exact ⟨rfl, ⟨cs', ds, es, hn, h2.calm hc, h3.calm hc, h4.trans hc.1⟩, hc⟩
theorem mem_full (h : MemV B w0 wr v s) {d : Nat} (hd : d < 2) {t : ByteArray} (ht : t.size ≤ 1970) (hq : 64 ≤ (s.ks d).q.length) :
    Calls Try.prog 21 #[.pointer (some ⟨B + 1, d * 4, none⟩), .string t] wr (LFault wr 4) := by
  obtain ⟨cs, ds, es, h1, h2, h3, h4⟩ := h
  obtain ⟨A, cap, hL⟩ := h1.links d hd
  exact push_full wr (B + 1) (d * 4) cs 42 A cap _ _ _ _ t hL ht hq
/-- What was put is written down. -/
theorem mem_put {w4 : World} {d g2 n cap : Nat} {t : ByteArray} (h : MemV B w0 wr v (s.pushed d t)) (hd : d < 2) (hB : Below wr.heap.size wr w4) (ho : w4.ownsRow wr.heap.size 9 1 (.slice (some ⟨g2, 0, none⟩) n cap) n (tcells (s.put d ++ [t]))) (hn : n = (s.put d).length + 1) :
    MemV B w0 (w4.setCell ⟨B + 1 + 1, d, none⟩ (.slice (some ⟨g2, 0, none⟩) n cap)) v (s.push d t) := by
  obtain ⟨cs, ds, es, h1, h2, h3, h4⟩ := h
  obtain ⟨h5, h6⟩ := pair_put h2 hd hB ho (by rw [hn]; simp) (by simp)
  have h2' : PairAt wr (B + 1 + 1) ds s.put := h2
  refine ⟨cs, _, es, h1.other (S := fun k => k = B + 1 + 1) h6 (fun k c T hh e => by cases e; exact type_ne hh h2'.1), h5, ⟨h6.blk h3.1 (by omega), fun i hi => ?_⟩, h4.trans (h6.toBelow h1.size fun k e => by omega)⟩
  obtain ⟨A, cap, e1, e2, e3⟩ := h3.2 i hi
  exact ⟨A, cap, e1, e2.keep h6 fun k c hh e => by subst e; exact absurd (type_ne h2'.1 hh) (by decide), e3⟩

def LK0 : Nat → Lk := fun _ => ⟨[], 0, 0, false⟩
def St0 (N : Int) : St := ⟨LK0, N, [], fun _ => [], fun _ => []⟩
theorem St0.ok {N : Int} : Ok (St0 N) :=
  ⟨fun i j _ => ⟨Int.le_refl _, Int.le_refl _, rfl, rfl, Nat.le_refl _, rfl, Nat.zero_le _⟩, fun _ _ t ht => (by cases ht), fun _ _ => Nat.zero_le _, fun p hp => (by cases hp), List.Pairwise.nil, fun p hp => (by cases hp)⟩
def Wstart (w : World) : World := ((((w.alloc (.cells #[.int .i64 0, .slice none 0 0] 26)).alloc (.cells #[.slice none 0 0, .int .i64 0, .int .i64 0, .bool false, .slice none 0 0, .int .i64 0, .int .i64 0, .bool false] 42)).alloc (.cells #[.slice none 0 0, .slice none 0 0] 43)).alloc (.cells #[.slice none 0 0, .slice none 0 0] 43))
theorem mem_start (w : World) : MemV w.heap.size w (Wstart w) (.slice none 0 0) (St0 0) := by
  have b1 := blk_new w (.cells #[.int .i64 0, .slice none 0 0] 26)
  have bA : Below w.heap.size w (Wstart w) := ((((Below.refl _ w).alloc (Nat.le_refl _) _).alloc (by simp) _).alloc (by simp only [size_alloc]; omega) _).alloc (by simp only [size_alloc]; omega) _
  have g0 := BagAt.new w (Nat.le_refl w.heap.size)
  have k1 : Below (w.alloc (.cells #[.int .i64 0, .slice none 0 0] 26)).heap.size (w.alloc (.cells #[.int .i64 0, .slice none 0 0] 26)) (Wstart w) := (((Below.refl _ _).alloc (Nat.le_refl _) _).alloc (by simp) _).alloc (by simp only [size_alloc]; omega) _
  have e1 : (Wstart w).heap[w.heap.size + 1]? = some (.cells #[.slice none 0 0, .int .i64 0, .int .i64 0, .bool false, .slice none 0 0, .int .i64 0, .int .i64 0, .bool false] 42 (0, 0)) := by
    have h := blk_new (w.alloc (.cells #[.int .i64 0, .slice none 0 0] 26)) (.cells #[.slice none 0 0, .int .i64 0, .int .i64 0, .bool false, .slice none 0 0, .int .i64 0, .int .i64 0, .bool false] 42)
    rw [size_alloc] at h
    exact blk_old (blk_old h _) _
  have e2 : (Wstart w).heap[w.heap.size + 1 + 1]? = some (.cells #[.slice none 0 0, .slice none 0 0] 43 (0, 0)) := by
    have h := blk_new ((w.alloc (.cells #[.int .i64 0, .slice none 0 0] 26)).alloc (.cells #[.slice none 0 0, .int .i64 0, .int .i64 0, .bool false, .slice none 0 0, .int .i64 0, .int .i64 0, .bool false] 42)) (.cells #[.slice none 0 0, .slice none 0 0] 43)
    rw [size_alloc, size_alloc] at h
    exact blk_old h _
  have e3 : (Wstart w).heap[w.heap.size + 1 + 1 + 1]? = some (.cells #[.slice none 0 0, .slice none 0 0] 43 (0, 0)) := by
    have h := blk_new (((w.alloc (.cells #[.int .i64 0, .slice none 0 0] 26)).alloc (.cells #[.slice none 0 0, .int .i64 0, .int .i64 0, .bool false, .slice none 0 0, .int .i64 0, .int .i64 0, .bool false] 42)).alloc (.cells #[.slice none 0 0, .slice none 0 0] 43)) (.cells #[.slice none 0 0, .slice none 0 0] 43)
    rw [size_alloc, size_alloc, size_alloc] at h
    exact h
  have pr : ∀ p, (Wstart w).heap[p]? = some (.cells #[.slice none 0 0, .slice none 0 0] 43 (0, 0)) → PairAt (Wstart w) p #[.slice none 0 0, .slice none 0 0] (fun _ => []) := fun p h => ⟨h, fun i hi => ⟨none, 0, by
    have : i = 0 ∨ i = 1 := by omega
    rcases this with rfl | rfl <;> rfl, Txts.empty _, fun _ => ⟨rfl, rfl⟩⟩⟩
  refine ⟨_, _, _, ⟨g0.below k1, by omega, bA.size, fun i hi => ⟨none, 0, e1, by decide, ?_, ?_, ?_, ?_, Txts.empty _⟩⟩, pr _ e2, pr _ e3, bA⟩ <;>
  · have : i = 0 ∨ i = 1 := by omega
    rcases this with rfl | rfl <;> rfl
def pk1 : Pkt := ⟨1, 1, 2, ⟨#[120]⟩⟩
def One (B : Nat) (w0 wr : World) : Prop := ∃ v cs ds es, Net wr B B (B + 1) v 1 [pk1] cs LK0 ∧ PairAt wr (B + 1 + 1) ds (fun _ => []) ∧ PairAt wr (B + 1 + 1 + 1) es (fun _ => []) ∧ Below B w0 wr
theorem first_send {B : Nat} {w0 wr : World} {v : Value} (h : MemV B w0 wr v (St0 0)) :
    Calls Try.prog 10 #[.pointer (some ⟨B, 0, none⟩), .int .i64 1, .int .i64 2, .string ⟨#[120]⟩] wr fun e w' => e = .returned (.tuple #[.int .i64 1, .nilIface]) ∧ One B w0 w' := by
  obtain ⟨cs, ds, es, h1, h2, h3, h4⟩ := h
  refine (send_ok wr B B v 0 1 2 ⟨#[120]⟩ [] h1.bag (by decide) (by decide) (by decide) (by decide) h1.size).mono ?_
  rintro e w' ⟨rfl, v', hb, hm⟩
  obtain ⟨hn, hc⟩ := h1.bagged hb hm
  exact ⟨rfl, v', cs, ds, es, hn, h2.calm hc, h3.calm hc, h4.trans hc.1⟩
theorem first_take {B : Nat} {w0 wr : World} (h : One B w0 wr) :
    Calls Try.prog 11 #[.pointer (some ⟨B, 0, none⟩), .int .i64 1] wr fun e w' => e = .returned (.tuple #[pk1.val, .nilIface]) ∧ Mem B w0 w' (St0 1) := by
  obtain ⟨v, cs, ds, es, h1, h2, h3, h4⟩ := h
  refine (take_ok wr B B v 1 1 [pk1] 0 h1.bag (by decide) (by decide) (by decide) h1.size).mono ?_
  rintro e w' ⟨rfl, v', hb, hm⟩
  obtain ⟨hn, hc⟩ := h1.bagged hb hm
  exact ⟨rfl, v', cs, ds, es, hn, h2.calm hc, h3.calm hc, h4.trans hc.1⟩
/-- How much there is behind i steps. -/
structure Cnt (s : St) (i : Nat) : Prop where
  n0 : 0 ≤ s.N
  n1 : s.N ≤ 1 + 17 * i
  l : s.l.length ≤ 17 * i
  put : ∀ d, d < 2 → (s.put d).length ≤ i
theorem Cnt.start : Cnt (St0 1) 0 := ⟨by decide, by decide, by decide, fun _ _ => Nat.le_refl _⟩
theorem Cnt.more {s : St} {i : Nat} (h : Cnt s i) : Cnt s (i + 1) := ⟨h.n0, by have := h.n1; omega, by have := h.l; omega, fun d hd => by have := h.put d hd; omega⟩
theorem Cnt.sent {s : St} {i : Nat} (h : Cnt s i) : Cnt s.sent (i + 1) := by
  have h1 := (s.ks 0).dp_le 0 s.N
  have h2 := (s.ks 1).dp_le 1 (s.N + ((s.ks 0).dp 0 s.N).length)
  have := h.n0; have := h.n1; have := h.l
  refine ⟨?_, ?_, ?_, fun d hd => Nat.le_succ_of_le (h.put d hd)⟩
  · simp only [St.sent]; omega
  · simp only [St.sent]; omega
  · simp only [St.sent, List.length_append]; omega
theorem Cnt.lose {s : St} {i : Nat} (h : Cnt s i) (k : Nat) : Cnt (s.lose k) (i + 1) :=
  ⟨h.n0, h.more.n1, Nat.le_trans (List.length_eraseIdx_le _ _) h.more.l, h.more.put⟩
theorem Cnt.arr {s : St} {i : Nat} (h : Cnt s i) (p : DP) : Cnt (s.arr p) i := ⟨h.n0, h.n1, h.l, h.put⟩
theorem Cnt.dup {s : St} {i : Nat} (h : Cnt s i) (p : DP) : Cnt (s.dup p) (i + 1) := by
  have := h.n0; have := h.n1; have := h.l
  refine ⟨?_, ?_, ?_, fun d hd => Nat.le_succ_of_le (h.put d hd)⟩
  · simp only [St.dup]; omega
  · simp only [St.dup]; omega
  · simp only [St.dup, List.length_append, List.length_singleton]; omega
theorem Cnt.push {s : St} {i : Nat} (h : Cnt s i) (d : Nat) (t : ByteArray) : Cnt (s.push d t) (i + 1) := by
  refine ⟨h.n0, h.more.n1, h.more.l, fun e he => ?_⟩
  have := h.put e he
  simp only [St.push]
  by_cases x : e = d
  · subst x; rw [upd_same]; simp; omega
  · rw [upd_other _ _ x]; omega
end
end Go.Proofs.Ytpbagbhoenmpcaa
