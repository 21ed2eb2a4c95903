/- Joined: Err, XP0. -/
import Derived.Test.YtolflieiipnndaaDoorBase
import Derived.Test.YtolflieiipnndaaDoorProg
import Derived.Below
import Derived.Deep.Draws
import Derived.Deep.AppendLies
import Derived.Maps.AppendAt
import Derived.OwnWalk
import Derived.Laws.BytesArg
import Derived.Laws.MakeOwn
import Derived.Laws.OwnMore
import Derived.Deep.OwnRows
import Derived.Tactics
import Derived.Lib.ConvBytes
import Derived.Laws.Slices
import Derived.WalkKit
import Derived.KernelRfl
import Derived.RowKit3
import Derived.Deep.LoopGhost
import Derived.Deep.QuietTactic
import Derived.BigQuiet
import Derived.WideLaws
import Derived.Deep.DeepCutAuto
import Derived.Deep.CutBlock
import Derived.Deep.RegionHeld3
import Derived.Laws.Rows
import Derived.Lib.AppendStr
import Derived.ArgAppend
import Derived.Laws.IdiomCopy
import Derived.OrdersHeld
import Derived.Laws.BitsLemmas
import Derived.RowKit
import Derived.Test.YtolflieiipnndaaDoorWWords
import Derived.Test.YtolflieiipnndaaDoorWLast
import Derived.Test.YtolflieiipnndaaDoorWTab
import Derived.Test.YtolflieiipnndaaDoorWFour
import Derived.Test.YtolflieiipnndaaDoorWQPut
import Derived.Test.YtolflieiipnndaaDoorWApart
import Derived.Test.YtolflieiipnndaaDoorWArr
import Derived.Test.YtolflieiipnndaaDoorWZeros
import Derived.Test.YtolflieiipnndaaDoorWFoot
import Derived.Test.YtolflieiipnndaaDoorWKept
import Derived.Test.YtolflieiipnndaaDoorWShare
import Derived.Test.YtolflieiipnndaaDoorWN
import Derived.Test.YtolflieiipnndaaDoorWFootNe
import Derived.Test.YtolflieiipnndaaDoorWAt
import Derived.Test.YtolflieiipnndaaDoorWEqStruct
import Derived.Test.YtolflieiipnndaaDoorWRepsOne
import Derived.Test.YtolflieiipnndaaDoorWInv
import Derived.Test.YtolflieiipnndaaDoorWInvWords
import Derived.Test.YtolflieiipnndaaDoorWGuard
import Derived.Test.YtolflieiipnndaaDoorWNEv
import Derived.Test.YtolflieiipnndaaDoorWMore
/- Errors that are codes: compared. -/
namespace Go.Proofs.YtolflieiipnndaaDoor
open Go.RowKit
theorem code_info : (Tryd.prog.info? 41).map (fun i => i.comparable) = some true := by kernel_rfl
theorem eql_code (w : World) (a b : Int) : (binOp .eql 27 (.iface 41 (.int .i64 a)) (.iface 41 (.int .i64 b))).run Tryd.prog w = .ok (.bool (a == b)) w := by
  obtain ⟨i, hi, hc⟩ := Option.map_eq_some_iff.1 code_info
  exact run_eql_iface_int w a b Tryd.underlying27 Tryd.underlying41 hi hc
theorem neq_code (w : World) (a b : Int) : (binOp .neq 27 (.iface 41 (.int .i64 a)) (.iface 41 (.int .i64 b))).run Tryd.prog w = .ok (.bool (!(a == b))) w := by
  obtain ⟨i, hi, hc⟩ := Option.map_eq_some_iff.1 code_info
  exact run_neq_iface_int w a b Tryd.underlying27 Tryd.underlying41 hi hc
theorem eql_nil_code (w : World) (b : Int) : (binOp .eql 27 .nilIface (.iface 41 (.int .i64 b))).run Tryd.prog w = .ok (.bool false) w := by
  have h : ∀ d : Nat, (Op.equalIn (d + 1) 27 .nilIface (.iface 41 (.int .i64 b))).run Tryd.prog w = .ok false w := fun d => by simp [Op.equalIn, run_underlying Tryd.underlying27]
  simp only [binOp]
  simp [Op.equal, Op.maxDepth, h 9999]
theorem eql_code_nil (w : World) (b : Int) : (binOp .eql 27 (.iface 41 (.int .i64 b)) .nilIface).run Tryd.prog w = .ok (.bool false) w := by
  have h : ∀ d : Nat, (Op.equalIn (d + 1) 27 (.iface 41 (.int .i64 b)) .nilIface).run Tryd.prog w = .ok false w := fun d => by simp [Op.equalIn, run_underlying Tryd.underlying27]
  simp only [binOp]
  simp [Op.equal, Op.maxDepth, h 9999]
theorem neq_nil_code (w : World) (b : Int) : (binOp .neq 27 .nilIface (.iface 41 (.int .i64 b))).run Tryd.prog w = .ok (.bool true) w := by
  have h : ∀ d : Nat, (Op.equalIn (d + 1) 27 .nilIface (.iface 41 (.int .i64 b))).run Tryd.prog w = .ok false w := fun d => by simp [Op.equalIn, run_underlying Tryd.underlying27]
  simp only [binOp]
  simp [Op.equal, Op.maxDepth, h 9999]
end Go.Proofs.YtolflieiipnndaaDoor

-- printed by wip/xprint.py, a program of ours over the kit's print. Not trusted: Lean checks it.
namespace Go.Proofs.YtolflieiipnndaaDoor.X
open Go.RowKit Go.Proofs.YtolflieiipnndaaDoorW.PrintWords Go.Proofs.YtolflieiipnndaaDoorW.PrintLast Go.Proofs.YtolflieiipnndaaDoorW.PrintMore
attribute [local go_sem] max2_int min2_int max_two min_two max_three min_three max_four min_four   -- for this text's walks alone
set_option linter.unusedVariables false
set_option linter.unusedSimpArgs false



def errW : Option Int → Value
  | none => .nilIface
  | some c => .iface 41 (.int .i64 c)
theorem errW_none : errW none = .nilIface := rfl
theorem errW_some (c : Int) : errW (some c) = .iface 41 (.int .i64 c) := rfl

theorem info5 : (Tryd.prog.info? 5).map (fun i => (i.zero, i.size, i.bytes)) = some (some (.int .u8 0), 1, 1) := by kernel_rfl
theorem info40 : (Tryd.prog.info? 40).map (fun i => (i.zero, i.size, i.bytes)) = some (some (.int .u64 0), 1, 8) := by kernel_rfl
-- the values' own types
def rd_L1 (xs : List (List Int)) (i : Int) : (List Int) := xs.getD i.toNat ([] : List Int)
theorem at_L1 {w : World} {A : Option Addr} {n : Nat} {xs : List (List Int)} (h : Kd.C (Kd.slice 40 (Kd.int .u64)) w A n xs) (i : Int) (h0 : 0 ≤ i) (h1 : i < n) : ∃ ad A0 c0, A = some ad ∧ w.cell? (ad.add i.toNat) = some (.slice A0 (rd_L1 xs i).length c0) ∧ (rd_L1 xs i).length ≤ c0 ∧ (Kd.int .u64).C w A0 (rd_L1 xs i).length (rd_L1 xs i) := by
  obtain ⟨ad, c, e, _, hK, hc0⟩ := Kd.C_get h ([] : List Int) i h0 h1
  have hc : ∀ j u, c[j]? = some u → w.cell? (ad.add (i.toNat * 1 + j)) = some u := hc0
  obtain ⟨A0, c0, rfl, l0, g0⟩ := hK
  exact ⟨ad, A0, c0, e, by have hq := hc 0 _ rfl; rwa [Nat.mul_one, Nat.add_zero] at hq, l0, g0⟩

end Go.Proofs.YtolflieiipnndaaDoor.X
