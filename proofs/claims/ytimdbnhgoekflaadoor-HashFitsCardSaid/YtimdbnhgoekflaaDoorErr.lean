/- Errors that are codes: compared. -/
import Derived.Test.YtimdbnhgoekflaaDoorBase
namespace Go.Proofs.YtimdbnhgoekflaaDoor
open Go.RowKit
theorem code_info : (Tryd.prog.info? 40).map (fun i => i.comparable) = some true := by kernel_rfl
theorem eql_code (w : World) (a b : Int) : (binOp .eql 37 (.iface 40 (.int .i64 a)) (.iface 40 (.int .i64 b))).run Tryd.prog w = .ok (.bool (a == b)) w := by
  obtain ⟨i, hi, hc⟩ := Option.map_eq_some_iff.1 code_info
  exact run_eql_iface_int w a b Tryd.underlying37 Tryd.underlying40 hi hc
theorem neq_code (w : World) (a b : Int) : (binOp .neq 37 (.iface 40 (.int .i64 a)) (.iface 40 (.int .i64 b))).run Tryd.prog w = .ok (.bool (!(a == b))) w := by
  obtain ⟨i, hi, hc⟩ := Option.map_eq_some_iff.1 code_info
  exact run_neq_iface_int w a b Tryd.underlying37 Tryd.underlying40 hi hc
end Go.Proofs.YtimdbnhgoekflaaDoor
