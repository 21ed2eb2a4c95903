/- Errors that are codes: compared. -/
import Derived.Test.YtolflieiipnndaaBase
namespace Go.Proofs.Ytolflieiipnndaa
open Go.RowKit
theorem code_info : (Try.prog.info? 32).map (fun i => i.comparable) = some true := by kernel_rfl
theorem eql_code (w : World) (a b : Int) : (binOp .eql 27 (.iface 32 (.int .i64 a)) (.iface 32 (.int .i64 b))).run Try.prog w = .ok (.bool (a == b)) w := by
  obtain ⟨i, hi, hc⟩ := Option.map_eq_some_iff.1 code_info
  exact run_eql_iface_int w a b Try.underlying27 Try.underlying32 hi hc
theorem neq_code (w : World) (a b : Int) : (binOp .neq 27 (.iface 32 (.int .i64 a)) (.iface 32 (.int .i64 b))).run Try.prog w = .ok (.bool (!(a == b))) w := by
  obtain ⟨i, hi, hc⟩ := Option.map_eq_some_iff.1 code_info
  exact run_neq_iface_int w a b Try.underlying27 Try.underlying32 hi hc
theorem eql_nil_code (w : World) (b : Int) : (binOp .eql 27 .nilIface (.iface 32 (.int .i64 b))).run Try.prog w = .ok (.bool false) w := by
  have h : ∀ d : Nat, (Op.equalIn (d + 1) 27 .nilIface (.iface 32 (.int .i64 b))).run Try.prog w = .ok false w := fun d => by simp [Op.equalIn, run_underlying Try.underlying27]
  simp only [binOp]
  simp [Op.equal, Op.maxDepth, h 9999]
theorem eql_code_nil (w : World) (b : Int) : (binOp .eql 27 (.iface 32 (.int .i64 b)) .nilIface).run Try.prog w = .ok (.bool false) w := by
  have h : ∀ d : Nat, (Op.equalIn (d + 1) 27 (.iface 32 (.int .i64 b)) .nilIface).run Try.prog w = .ok false w := fun d => by simp [Op.equalIn, run_underlying Try.underlying27]
  simp only [binOp]
  simp [Op.equal, Op.maxDepth, h 9999]
theorem neq_nil_code (w : World) (b : Int) : (binOp .neq 27 .nilIface (.iface 32 (.int .i64 b))).run Try.prog w = .ok (.bool true) w := by
  have h : ∀ d : Nat, (Op.equalIn (d + 1) 27 .nilIface (.iface 32 (.int .i64 b))).run Try.prog w = .ok false w := fun d => by simp [Op.equalIn, run_underlying Try.underlying27]
  simp only [binOp]
  simp [Op.equal, Op.maxDepth, h 9999]
end Go.Proofs.Ytolflieiipnndaa
