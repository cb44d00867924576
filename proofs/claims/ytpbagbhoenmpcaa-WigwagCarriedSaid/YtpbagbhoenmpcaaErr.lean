/- errors.Is of one of this program's faults (a pointer to an api.Fault that holds an api.Code) and a code: whether the codes are equal. -/
import Derived.Test.YtpbagbhoenmpcaaMem
import Derived.Test.YtpbagbhoenmpcaaChecked
import Derived.LaidEql
import Derived.Stop.Asserts
import Derived.RowKitTokens
namespace Go.Proofs.Ytpbagbhoenmpcaa
set_option linter.unusedVariables false
set_option linter.unusedSimpArgs false
open Go.RowKit Go.Extern.Stop Go.Stop Go.Extern

theorem Try.noIsE (v : Value) (xT : TypeId) (w : World) : (Instr.typeAssert (.iface 104 v) xT 111 true).run Try.prog w = .ok (.tuple #[.nilIface, .bool false]) w := run_typeAssert_lacksB Try.underlying111 (by kernel_rfl) (by kernel_rfl) v xT w
theorem Try.hasUnwrapE (v : Value) (xT : TypeId) (w : World) : (Instr.typeAssert (.iface 104 v) xT 114 true).run Try.prog w = .ok (.tuple #[.iface 104 v, .bool true]) w := run_typeAssert_hasB Try.underlying114 (by kernel_rfl) v xT w
theorem Try.noIsC (v : Value) (xT : TypeId) (w : World) : (Instr.typeAssert (.iface 36 v) xT 111 true).run Try.prog w = .ok (.tuple #[.nilIface, .bool false]) w := run_typeAssert_lacksB Try.underlying111 (by kernel_rfl) (by kernel_rfl) v xT w
theorem Try.noUnwrapC (v : Value) (xT : TypeId) (w : World) : (Instr.typeAssert (.iface 36 v) xT 114 true).run Try.prog w = .ok (.tuple #[.nilIface, .bool false]) w := run_typeAssert_lacksB Try.underlying114 (by kernel_rfl) (by kernel_rfl) v xT w
theorem Try.noUnwrapsC (v : Value) (xT : TypeId) (w : World) : (Instr.typeAssert (.iface 36 v) xT 115 true).run Try.prog w = .ok (.tuple #[.nilIface, .bool false]) w := run_typeAssert_lacksB Try.underlying115 (by kernel_rfl) (by kernel_rfl) v xT w
theorem Try.methodUnwrap (v : Value) (w : World) : (Go.method 275 104 v "Unwrap").run Try.prog w = .ok (95, v) w := by kernel_rfl


theorem run_equalIn_iface_other {P : Program} (w : World) (d : Nat) {ti tx ty : TypeId} {ms : Array (String × TypeId)} (vx vy : Value) (hi : P.underlying ti = some (.interface ms)) (hne : tx ≠ ty) :
    (Op.equalIn (d + 1) ti (.iface tx vx) (.iface ty vy)).run P w = .ok false w := by
  simp [Op.equalIn, run_underlying hi, hne]
theorem run_eql_iface_other {P : Program} (w : World) {ti tx ty : TypeId} {ms : Array (String × TypeId)} (vx vy : Value) (hi : P.underlying ti = some (.interface ms)) (hne : tx ≠ ty) :
    (binOp .eql ti (.iface tx vx) (.iface ty vy)).run P w = .ok (.bool false) w := by
  simp only [binOp]
  simp [Op.equal, Op.maxDepth, run_equalIn_iface_other w 9999 vx vy hi hne]
theorem run_equalIn_iface_int {P : Program} (w : World) (d : Nat) {ti tn : TypeId} {ms : Array (String × TypeId)} {i : TypeInfo} {k : IntKind} (a b : Int)
    (hi : P.underlying ti = some (.interface ms)) (hn : P.underlying tn = some (.int k)) (hinfo : P.info? tn = some i) (hcomp : i.comparable = true) :
    (Op.equalIn (d + 2) ti (.iface tn (.int k a)) (.iface tn (.int k b))).run P w = .ok (a == b) w := by
  simp [Op.equalIn, run_underlying hi, run_underlying hn, typeInfo, hinfo, hcomp]
theorem run_eql_iface_int {P : Program} (w : World) {ti tn : TypeId} {ms : Array (String × TypeId)} {i : TypeInfo} {k : IntKind} (a b : Int)
    (hi : P.underlying ti = some (.interface ms)) (hn : P.underlying tn = some (.int k)) (hinfo : P.info? tn = some i) (hcomp : i.comparable = true) :
    (binOp .eql ti (.iface tn (.int k a)) (.iface tn (.int k b))).run P w = .ok (.bool (a == b)) w := by
  simp only [binOp]
  simp [Op.equal, Op.maxDepth, run_equalIn_iface_int w 9998 a b hi hn hinfo hcomp]
theorem Try.isComp : (Try.prog.info? 36).map (·.comparable) = some true := by kernel_rfl

set_option maxRecDepth 100000 in
theorem is_walk (g : Nat) (c t : Int) (w : World) (h1 : w.cell? ⟨g, 2, none⟩ = some (.iface 36 (.int .i64 c))) :
    Calls Try.prog 36 #[.iface 104 (.pointer (some ⟨g, 0, none⟩)), .iface 36 (.int .i64 t), .bool true] w fun e w' => e = .returned (.bool (c == t)) ∧ w' = w := by
  obtain ⟨i, hi, hcmp⟩ := Option.map_eq_some_iff.1 Try.isComp
  have nE := Try.noIsE
  have uE := Try.hasUnwrapE
  have nC := Try.noIsC
  have uC := Try.noUnwrapC
  have vC := Try.noUnwrapsC
  have mU := Try.methodUnwrap
  have q1 := run_eql_iface_other (P := Try.prog) w (tx := 104) (ty := 36) (.pointer (some ⟨g, 0, none⟩)) (.int .i64 t) Try.underlying28 (by decide)
  have q2 := run_eql_iface_int (P := Try.prog) w c t Try.underlying28 Try.underlying36 hi hcmp
  clear hcmp hi
  cases hct : (c == t) with
  | true =>
    go_enter Try.func36, Try.ntmps36
    go_wp2
    refine wp_loop_rounds 2 ?_
    rw [rounds_succ]
    go_wp2
    rw [rounds_succ]
    go_wp2
    go_ret
    exact ⟨rfl, rfl⟩
  | false =>
    go_enter Try.func36, Try.ntmps36
    go_wp2
    refine wp_loop_rounds 2 ?_
    rw [rounds_succ]
    go_wp2
    rw [rounds_succ]
    go_wp2
    go_ret
    exact ⟨rfl, rfl⟩

end Go.Proofs.Ytpbagbhoenmpcaa
