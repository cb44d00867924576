/- Numbers as bytes: the plain part. -/
import Derived.Laws.BytesArg
import Derived.Below
namespace Go.Proofs.Ytpbagbhoenmpcaa
set_option linter.unusedVariables false
set_option linter.unusedSimpArgs false

/-- Seven bits a byte, the lowest first; all but the last have their highest bit. -/
def encNum (n : Nat) : List UInt8 := if h : 127 < n then UInt8.ofNat (n % 128 + 128) :: encNum (n / 128) else [UInt8.ofNat n]
termination_by n
decreasing_by omega
theorem encNum_big {n : Nat} (h : 127 < n) : encNum n = UInt8.ofNat (n % 128 + 128) :: encNum (n / 128) := by rw [encNum, dif_pos h]
theorem encNum_small {n : Nat} (h : ¬ 127 < n) : encNum n = [UInt8.ofNat n] := by rw [encNum, dif_neg h]
theorem encNum_len (k : Nat) : ∀ n, n < 128 ^ (k + 1) → (encNum n).length ≤ k + 1 := by
  induction k with
  | zero => intro n hn; rw [encNum_small (by omega)]; simp
  | succ k ih =>
    intro n hn
    by_cases h : 127 < n
    · rw [encNum_big h]
      have : n / 128 < 128 ^ (k + 1) := by rw [Nat.div_lt_iff_lt_mul (by omega)]; rw [Nat.pow_succ] at hn; omega
      have := ih _ this
      simp; omega
    · rw [encNum_small h]; simp
theorem encNum_len64 {n : Nat} (h : n < 2 ^ 64) : (encNum n).length ≤ 10 := encNum_len 9 n (by omega)
theorem encNum_pos (n : Nat) : 0 < (encNum n).length := by
  by_cases h : 127 < n
  · rw [encNum_big h]; simp
  · rw [encNum_small h]; simp

/-- A number that may be below 0, as it is written. -/
def zig (n : Int) : Nat := if n < 0 then (2 * (-n) - 1).toNat else (2 * n).toNat

def bcells (l : List UInt8) : List Value := l.map fun b => Value.int .u8 (b.toNat : Int)
theorem bcells_len (l : List UInt8) : (bcells l).length = l.length * 1 := by simp [bcells]
theorem bcells_app (l m : List UInt8) : bcells (l ++ m) = bcells l ++ bcells m := by simp [bcells]
theorem bcells_one (l : List UInt8) : ∀ u ∈ bcells l, u.oneCell' = true := by
  intro u hu
  simp only [bcells, List.mem_map] at hu
  obtain ⟨b, _, rfl⟩ := hu
  rfl
def nums (l : List UInt8) : List Int := l.map fun b => (b.toNat : Int)
theorem strOf_nums (l : List UInt8) : strOfNums (nums l) = ⟨l.toArray⟩ := by
  simp [strOfNums, nums, Function.comp_def]
theorem byte_low (n : Nat) (h : n ≤ 127) : ((UInt8.ofNat n).toNat : Int) = (n : Int) := by
  simp [UInt8.toNat_ofNat']
  omega
theorem byte_more (n : Nat) : ((UInt8.ofNat (n % 128 + 128)).toNat : Int) = ((n % 128 + 128 : Nat) : Int) := by
  simp [UInt8.toNat_ofNat']
  omega
theorem or128 (n : Nat) : (n % 256) ||| 128 = n % 128 + 128 := by
  have h : ∀ m : Fin 256, (m.val ||| 128) = m.val % 128 + 128 := by decide +kernel
  have := h ⟨n % 256, by omega⟩
  simp only at this
  rw [this]
  omega
end Go.Proofs.Ytpbagbhoenmpcaa
