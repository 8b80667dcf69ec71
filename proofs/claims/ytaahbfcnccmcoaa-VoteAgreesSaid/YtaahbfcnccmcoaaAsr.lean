/- Type assertions to types that are no interfaces. Conditions: as each theorem says. -/
import Derived.Test.YtaahbfcnccmcoaaKit
namespace Go.Proofs.Ytaahbfcnccmcoaa
open Go.RowKit

def noIface : TypeDesc → Bool | .interface _ => false | _ => true
theorem run_assert_yes {P : Program} (t xT : TypeId) (v : Value) (d : TypeDesc) (hu : P.underlying t = some d) (hd : noIface d = true) (w : World) : (Instr.typeAssert (.iface t v) xT t true).run P w = .ok (.tuple #[v, .bool true]) w := by
  cases d <;> first | (cases hd; done) | simp [Instr.typeAssert, run_underlying hu]
theorem run_assert_must {P : Program} (t xT : TypeId) (v : Value) (d : TypeDesc) (hu : P.underlying t = some d) (hd : noIface d = true) (w : World) : (Instr.typeAssert (.iface t v) xT t false).run P w = .ok v w := by
  cases d <;> first | (cases hd; done) | simp [Instr.typeAssert, run_underlying hu]
theorem run_assert_no {P : Program} (t u xT : TypeId) (v : Value) (d : TypeDesc) (z : Value) (hu : P.underlying u = some d) (hd : noIface d = true) (ht : t ≠ u) (w : World) (hz : (zeroValue u).run P w = .ok z w) : (Instr.typeAssert (.iface t v) xT u true).run P w = .ok (.tuple #[z, .bool false]) w := by
  cases d <;> first | (cases hd; done) | simp [Instr.typeAssert, run_underlying hu, ht, hz]
theorem run_assert_nil {P : Program} (u xT : TypeId) (d : TypeDesc) (z : Value) (hu : P.underlying u = some d) (hd : noIface d = true) (w : World) (hz : (zeroValue u).run P w = .ok z w) : (Instr.typeAssert .nilIface xT u true).run P w = .ok (.tuple #[z, .bool false]) w := by
  cases d <;> first | (cases hd; done) | simp [Instr.typeAssert, run_underlying hu, hz]
end Go.Proofs.Ytaahbfcnccmcoaa
