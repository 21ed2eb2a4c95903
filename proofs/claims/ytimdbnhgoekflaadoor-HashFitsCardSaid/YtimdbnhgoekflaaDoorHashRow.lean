/- What the rows of the digest's laws share: the tables that the row lists. -/
import Derived.Test.YtimdbnhgoekflaaDoorMade
import Derived.Test.YtimdbnhgoekflaaDoorShaB
import Derived.Test.YtimdbnhgoekflaaDoorOpen
import Derived.Test.YtimdbnhgoekflaaDoorCards
import Derived.Test.YtimdbnhgoekflaaDoorTie
import Derived.ProofKit
import Derived.OpenShut
import Derived.Deep.DeepHandedRow
import Derived.Lib.LaidTab
namespace Go.Proofs.YtimdbnhgoekflaaDoor
open Go.ChangeShapes Go.WideShapes Go.ChangeAt Go.RowKit
set_option linter.unusedVariables false
set_option maxRecDepth 100000

theorem gRounds : Tryd.prog.globalNamed "treenail/hash.rounds" = some 1 := by kernel_rfl
theorem gBegin : Tryd.prog.globalNamed "treenail/hash.begin" = some 0 := by kernel_rfl
theorem tRounds : (Tryd.prog.globals[1]?).map (·.type) = some 56 := by kernel_rfl
theorem tBegin : (Tryd.prog.globals[0]?).map (·.type) = some 46 := by kernel_rfl
theorem c64 : Tryd.prog.cellsOf 56 = 64 := by kernel_rfl
theorem c8 : Tryd.prog.cellsOf 46 = 8 := by kernel_rfl
theorem c1 : Tryd.prog.cellsOf 45 = 1 := by kernel_rfl
theorem rounds_eq : (Rows.laid_treenail_hash_rounds : DataW Unit) = Lib.tabData .u32 ks256 := by kernel_rfl
theorem begin_eq : (Rows.laid_treenail_hash_begin : DataW Unit) = Lib.tabData .u32 hs256 := by kernel_rfl
def laidL : List (String × DataW Unit) := [("treenail/hash.rounds", Rows.laid_treenail_hash_rounds), ("treenail/hash.begin", Rows.laid_treenail_hash_begin)]
theorem tabs_of {W : World} (hh : laidMetH Tryd.prog laidL W) : Tabs ks256 st256.ws W := by
  have h : laidMet Tryd.prog laidL W := hh
  have h1 : Lib.TabIs Tryd.prog W "treenail/hash.rounds" .u32 ks256 := by
    unfold laidL at h
    rw [rounds_eq] at h
    exact Lib.tabIs_of_head gRounds tRounds Tryd.underlying56 Tryd.underlying45 c1 c64 h
  have h2 : Lib.TabIs Tryd.prog W "treenail/hash.begin" .u32 hs256 := by
    have h' := h.filter (fun x => x.1 == "treenail/hash.begin")
    rw [show laidL.filter (fun x => x.1 == "treenail/hash.begin") = [("treenail/hash.begin", Rows.laid_treenail_hash_begin)] by kernel_rfl, begin_eq] at h'
    exact Lib.tabIs_of_head gBegin tBegin Tryd.underlying46 Tryd.underlying45 c1 c8 h'
  exact ⟨fun j hj => h1.cell gRounds j (by rw [show ks256.length = 64 from rfl]; exact hj), fun j hj => h2.cell gBegin j (by rw [show hs256.length = 8 from rfl]; exact hj)⟩
theorem own_knob : ownKnob Tryd.prog.godebug = none := by kernel_rfl
def layCells (cs : Array Value) : Obj → Obj
  | .cells _ t frozen => .cells cs t frozen
  | o => o
/-- A world for the witness: the settled one, the tables as they are laid. -/
noncomputable def laidWorld (os : Os) : World :=
  { World.holding Tryd.prog os ⟨#[], #[], []⟩ with heap := Array.modify (Array.modify (World.holding Tryd.prog os ⟨#[], #[], []⟩).heap 1 (layCells (nums .u32 ks256).toArray)) 0 (layCells (nums .u32 hs256).toArray) }
end Go.Proofs.YtimdbnhgoekflaaDoor
