/- errors.Is of one of this program's faults and a code: whether the codes are equal. -/
import Derived.Test.YtpbagbhoenmpcaaErr
namespace Go.Proofs.Ytpbagbhoenmpcaa
set_option linter.unusedVariables false
set_option linter.unusedSimpArgs false
open Go.RowKit Go.Extern.Stop Go.Stop Go.Extern
theorem Try.isTypeOf (v : Value) (w : World) : (Extern.ReflectliteType.typeOf #[.iface 36 v]).run Try.prog w = .ok (.iface 109 (.agg #[.pointer (some ⟨0, 36, none⟩)])) w := by kernel_rfl
theorem Try.isComparable (w : World) : (Extern.ReflectliteType.method (fun t => do Extern.Rtype.noPackHeld "Comparable" t; pure (Value.bool (← typeInfo t).comparable)) #[.agg #[.pointer (some ⟨0, 36, none⟩)]]).run Try.prog w = .ok (.bool true) w := by kernel_rfl
theorem Try.isMethodComparable (v : Value) (w : World) : (Go.method 275 109 v "Comparable").run Try.prog w = .ok (99, v) w := by kernel_rfl
theorem Try.callTypeOf (v : Value) (w : World) : (callFunc 35 #[.iface 36 v]).run Try.prog w = .ok (.value (.iface 109 (.agg #[.pointer (some ⟨0, 36, none⟩)]))) w := by
  rw [@run_callFunc_extern Try.prog 35 _ Extern.ReflectliteType.typeOf Try.func35 (by kernel_rfl) (by kernel_rfl) (by kernel_rfl) (by kernel_rfl), Try.isTypeOf]
  rfl
theorem Try.callComparable (w : World) : (callFunc 99 #[.agg #[.pointer (some ⟨0, 36, none⟩)]]).run Try.prog w = .ok (.value (.bool true)) w := by
  rw [@run_callFunc_extern Try.prog 99 _ (Extern.ReflectliteType.method fun t => do Extern.Rtype.noPackHeld "Comparable" t; pure (.bool (← typeInfo t).comparable)) Try.func99 (by kernel_rfl) (by kernel_rfl) (by kernel_rfl) (by kernel_rfl), Try.isComparable]
  rfl
theorem is_fault (g : Nat) (c t : Int) (w : World) (h1 : w.cell? ⟨g, 2, none⟩ = some (.iface 36 (.int .i64 c))) :
    Calls Try.prog 12 #[.iface 104 (.pointer (some ⟨g, 0, none⟩)), .iface 36 (.int .i64 t)] w fun e w' => e = .returned (.bool (c == t)) ∧ w' = w := by
  have h8 := Try.callTypeOf
  have h32 := Try.callComparable
  have mR := Try.isMethodComparable
  go_enter Try.func12, Try.ntmps12
  go_wp2_with (go_at_call 36; refine (is_walk g c t w h1).mono ?_; rintro e w' ⟨rfl, rfl⟩)
  go_ret
  exact ⟨rfl, rfl⟩
end Go.Proofs.Ytpbagbhoenmpcaa
