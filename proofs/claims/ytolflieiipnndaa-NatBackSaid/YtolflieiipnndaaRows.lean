/-
  No cell of these rows narrows 'for every input' (looked for: loops, veiled, ifaces, maps, wideKeys, modest, calm, conditions, laid).
  DERIVED. THE GIVEN ROWS OF THIS SEAT. 7 by the template 'for every input the law returns true; each argument reads behind the call as it read before'; 0 by the template 'total and deterministic' (their statements: YtolflieiipnndaaTotals.lean).
  GIVEN WITH THE SEED: the statements are not yours to turn. If you find one false, say at which input.
  Laid BY PROGRAM, IN A SANDBOX (cutbox-rows.mjs): the forced cells as the released guide's own fill.sh prints them over the translation b66892141e31a1c1… (all of the seat's roots in one cut). By AI agents, Wed Nov 11 2026. No macro, syntax, notation, axiom, sorry.
-/
import Derived.Test.YtolflieiipnndaaChecked
import GoSem.Claim
import GoSem.ClaimJoined
import GoSem.ClaimMapViews
import Derived.JoinedTies
import Derived.KernelRfl
namespace Go.Proofs.Ytolflieiipnndaa
/- THE CELL 'sum', in the pinned program and in every row, IS THE sha256 OF THE DUMP (.gsa) THAT YtolflieiipnndaaProg.lean LOADS. Nothing in Lean hashes anything: it is a label: what it is worth is what the hold of that sum in a sandbox is worth. -/
noncomputable def Try.pinned : Pinned := { name := "ytolflieiipnndaa", sum := "b66892141e31a1c178b7c899d7527edb292c7c795c651cadf41c5d7c412b6071", checked := Try.checked }
namespace Rows
def none {H : Type} : Left H := { results := [], args := [] }

/-- 'treenaillaw01.NatSums': WHATEVER THE INPUT: true; the input reads as it did. -/
def natSumsSpec : ChangeSpec := { name := "natSums", fn := fun _ => fun
  | [d1, d2] => { results := [.lit (.bool true)], args := [d1, d2] }
  | _ => none }
def natSumsRow : OpenClaim := { program := "ytolflieiipnndaa", sum := "b66892141e31a1c178b7c899d7527edb292c7c795c651cadf41c5d7c412b6071", func := "treenail/treenaillaw01.NatSums", spec := "natSums", inPlace := ["math/bits.Add64", "math/bits.Sub64"], named := ["math/bits.divideError", "math/bits.overflowError"], apart := false }
def NatSumsSaid : Prop := natSumsRow.holds Try.pinned (OpenSpec.ofChange natSumsSpec)

/-- ITS FALSE NEIGHBOUR: 'it returns false'. Refute it at one input. -/
def natSumsWrong : ChangeSpec := { name := "natSums", fn := fun _ => fun
  | [d1, d2] => { results := [.lit (.bool false)], args := [d1, d2] }
  | _ => none }
def NatSumsWrongFalsely : Prop := natSumsRow.holds Try.pinned (OpenSpec.ofChange natSumsWrong)

/-- 'treenaillaw01.NatOrders': WHATEVER THE INPUT: true; the input reads as it did. -/
def natOrdersSpec : ChangeSpec := { name := "natOrders", fn := fun _ => fun
  | [d1, d2, d3] => { results := [.lit (.bool true)], args := [d1, d2, d3] }
  | _ => none }
def natOrdersRow : OpenClaim := { program := "ytolflieiipnndaa", sum := "b66892141e31a1c178b7c899d7527edb292c7c795c651cadf41c5d7c412b6071", func := "treenail/treenaillaw01.NatOrders", spec := "natOrders", inPlace := ["math/bits.Add64", "math/bits.Sub64"], named := ["math/bits.divideError", "math/bits.overflowError"], apart := false }
def NatOrdersSaid : Prop := natOrdersRow.holds Try.pinned (OpenSpec.ofChange natOrdersSpec)

/-- ITS FALSE NEIGHBOUR: 'it returns false'. Refute it at one input. -/
def natOrdersWrong : ChangeSpec := { name := "natOrders", fn := fun _ => fun
  | [d1, d2, d3] => { results := [.lit (.bool false)], args := [d1, d2, d3] }
  | _ => none }
def NatOrdersWrongFalsely : Prop := natOrdersRow.holds Try.pinned (OpenSpec.ofChange natOrdersWrong)

/-- 'treenaillaw01.NatBits': WHATEVER THE INPUT: true; the input reads as it did. -/
def natBitsSpec : ChangeSpec := { name := "natBits", fn := fun _ => fun
  | [d] => { results := [.lit (.bool true)], args := [d] }
  | _ => none }
def natBitsRow : OpenClaim := { program := "ytolflieiipnndaa", sum := "b66892141e31a1c178b7c899d7527edb292c7c795c651cadf41c5d7c412b6071", func := "treenail/treenaillaw01.NatBits", spec := "natBits", inPlace := ["math/bits.Add64", "math/bits.Sub64"], named := ["math/bits.divideError", "math/bits.overflowError"], apart := false }
def NatBitsSaid : Prop := natBitsRow.holds Try.pinned (OpenSpec.ofChange natBitsSpec)

/-- ITS FALSE NEIGHBOUR: 'it returns false'. Refute it at one input. -/
def natBitsWrong : ChangeSpec := { name := "natBits", fn := fun _ => fun
  | [d] => { results := [.lit (.bool false)], args := [d] }
  | _ => none }
def NatBitsWrongFalsely : Prop := natBitsRow.holds Try.pinned (OpenSpec.ofChange natBitsWrong)

/-- 'treenaillaw01.NatBytes': WHATEVER THE INPUT: true; the input reads as it did. -/
def natBytesSpec : ChangeSpec := { name := "natBytes", fn := fun _ => fun
  | [d1, d2, d3] => { results := [.lit (.bool true)], args := [d1, d2, d3] }
  | _ => none }
def natBytesRow : OpenClaim := { program := "ytolflieiipnndaa", sum := "b66892141e31a1c178b7c899d7527edb292c7c795c651cadf41c5d7c412b6071", func := "treenail/treenaillaw01.NatBytes", spec := "natBytes", inPlace := ["math/bits.Add64", "math/bits.Sub64"], named := ["math/bits.divideError", "math/bits.overflowError"], apart := false }
def NatBytesSaid : Prop := natBytesRow.holds Try.pinned (OpenSpec.ofChange natBytesSpec)

/-- ITS FALSE NEIGHBOUR: 'it returns false'. Refute it at one input. -/
def natBytesWrong : ChangeSpec := { name := "natBytes", fn := fun _ => fun
  | [d1, d2, d3] => { results := [.lit (.bool false)], args := [d1, d2, d3] }
  | _ => none }
def NatBytesWrongFalsely : Prop := natBytesRow.holds Try.pinned (OpenSpec.ofChange natBytesWrong)

/-- 'treenaillaw01.NatProducts': WHATEVER THE INPUT: true; the input reads as it did. -/
def natProductsSpec : ChangeSpec := { name := "natProducts", fn := fun _ => fun
  | [d1, d2] => { results := [.lit (.bool true)], args := [d1, d2] }
  | _ => none }
def natProductsRow : OpenClaim := { program := "ytolflieiipnndaa", sum := "b66892141e31a1c178b7c899d7527edb292c7c795c651cadf41c5d7c412b6071", func := "treenail/treenaillaw01.NatProducts", spec := "natProducts", inPlace := ["math/bits.Add64", "math/bits.Sub64"], named := ["math/bits.divideError", "math/bits.overflowError"], apart := false }
def NatProductsSaid : Prop := natProductsRow.holds Try.pinned (OpenSpec.ofChange natProductsSpec)

/-- ITS FALSE NEIGHBOUR: 'it returns false'. Refute it at one input. -/
def natProductsWrong : ChangeSpec := { name := "natProducts", fn := fun _ => fun
  | [d1, d2] => { results := [.lit (.bool false)], args := [d1, d2] }
  | _ => none }
def NatProductsWrongFalsely : Prop := natProductsRow.holds Try.pinned (OpenSpec.ofChange natProductsWrong)

/-- 'treenaillaw01.NatSpreads': WHATEVER THE INPUT: true; the input reads as it did. -/
def natSpreadsSpec : ChangeSpec := { name := "natSpreads", fn := fun _ => fun
  | [d1, d2, d3] => { results := [.lit (.bool true)], args := [d1, d2, d3] }
  | _ => none }
def natSpreadsRow : OpenClaim := { program := "ytolflieiipnndaa", sum := "b66892141e31a1c178b7c899d7527edb292c7c795c651cadf41c5d7c412b6071", func := "treenail/treenaillaw01.NatSpreads", spec := "natSpreads", inPlace := ["math/bits.Add64", "math/bits.Sub64"], named := ["math/bits.divideError", "math/bits.overflowError"], apart := false }
def NatSpreadsSaid : Prop := natSpreadsRow.holds Try.pinned (OpenSpec.ofChange natSpreadsSpec)

/-- ITS FALSE NEIGHBOUR: 'it returns false'. Refute it at one input. -/
def natSpreadsWrong : ChangeSpec := { name := "natSpreads", fn := fun _ => fun
  | [d1, d2, d3] => { results := [.lit (.bool false)], args := [d1, d2, d3] }
  | _ => none }
def NatSpreadsWrongFalsely : Prop := natSpreadsRow.holds Try.pinned (OpenSpec.ofChange natSpreadsWrong)

/-- 'treenaillaw01.NatBack': WHATEVER THE INPUT: true; the input reads as it did. -/
def natBackSpec : ChangeSpec := { name := "natBack", fn := fun _ => fun
  | [d1, d2] => { results := [.lit (.bool true)], args := [d1, d2] }
  | _ => none }
def natBackRow : OpenClaim := { program := "ytolflieiipnndaa", sum := "b66892141e31a1c178b7c899d7527edb292c7c795c651cadf41c5d7c412b6071", func := "treenail/treenaillaw01.NatBack", spec := "natBack", inPlace := ["math/bits.Add64", "math/bits.Sub64"], named := ["math/bits.divideError", "math/bits.overflowError"], apart := false }
def NatBackSaid : Prop := natBackRow.holds Try.pinned (OpenSpec.ofChange natBackSpec)

/-- ITS FALSE NEIGHBOUR: 'it returns false'. Refute it at one input. -/
def natBackWrong : ChangeSpec := { name := "natBack", fn := fun _ => fun
  | [d1, d2] => { results := [.lit (.bool false)], args := [d1, d2] }
  | _ => none }
def NatBackWrongFalsely : Prop := natBackRow.holds Try.pinned (OpenSpec.ofChange natBackWrong)

/- THE SECOND FORM. 'bulk': how many values and letters a reading holds, each counted each time it is reached (what is shared counts as often as it is met; a slice's spare places count too). A statement '..UptoSaid' is the law's where the arguments, and the package variables that the reading takes, are together of bulk at most 1048576: NARROWER than '..Said'. Prove '..Said' where nothing that the law and all that it calls make is longer than what came in: it says more and counts as full. Else prove '..UptoSaid'. A law counts once. -/
mutual
def uptoBulk {H : Type} : DataW H → Nat
  | .lit (.string bytes) => bytes.length + 1
  | .lit _ => 1
  | .nil => 1
  | .ptr d => uptoBulk d + 1
  | .slice elems spare => uptoBulkAll elems + uptoBulkAll spare + 1
  | .agg parts => uptoBulkAll parts + 1
  | .iface _ d => uptoBulk d + 1
  | .map entries => uptoBulkEntries entries + 1
  | .held _ => 1
def uptoBulkAll {H : Type} : List (DataW H) → Nat
  | [] => 0
  | d :: r => uptoBulk d + uptoBulkAll r
def uptoBulkEntries {H : Type} : List (Lit × DataW H) → Nat
  | [] => 0
  | x :: r => uptoBulkEntry x + uptoBulkEntries r
def uptoBulkEntry {H : Type} : Lit × DataW H → Nat
  | (.string bytes, d) => bytes.length + uptoBulk d + 1
  | (_, d) => uptoBulk d + 1
 end
def uptoSmall : (H : Type) → List (DataW H) → Bool := fun _ ds => decide (uptoBulkAll ds ≤ 1048576)
def OpenSpec.upto (s : _root_.Go.ChangeSpec) : _root_.Go.OpenSpec := { _root_.Go.OpenSpec.ofChange s with cond := some uptoSmall }

/-- 'treenaillaw01.NatSums', WHERE WHAT IT READS IS OF BULK AT MOST 1048576: true; the input reads as it did. -/
def natSumsUptoRow : OpenClaim := { program := "ytolflieiipnndaa", sum := "b66892141e31a1c178b7c899d7527edb292c7c795c651cadf41c5d7c412b6071", func := "treenail/treenaillaw01.NatSums", spec := "natSums", inPlace := ["math/bits.Add64", "math/bits.Sub64"], named := ["math/bits.divideError", "math/bits.overflowError"], apart := false, narrowed := true }
def NatSumsUptoSaid : Prop := natSumsUptoRow.holds Try.pinned (OpenSpec.upto natSumsSpec)

/-- 'treenaillaw01.NatOrders', WHERE WHAT IT READS IS OF BULK AT MOST 1048576: true; the input reads as it did. -/
def natOrdersUptoRow : OpenClaim := { program := "ytolflieiipnndaa", sum := "b66892141e31a1c178b7c899d7527edb292c7c795c651cadf41c5d7c412b6071", func := "treenail/treenaillaw01.NatOrders", spec := "natOrders", inPlace := ["math/bits.Add64", "math/bits.Sub64"], named := ["math/bits.divideError", "math/bits.overflowError"], apart := false, narrowed := true }
def NatOrdersUptoSaid : Prop := natOrdersUptoRow.holds Try.pinned (OpenSpec.upto natOrdersSpec)

/-- 'treenaillaw01.NatBits', WHERE WHAT IT READS IS OF BULK AT MOST 1048576: true; the input reads as it did. -/
def natBitsUptoRow : OpenClaim := { program := "ytolflieiipnndaa", sum := "b66892141e31a1c178b7c899d7527edb292c7c795c651cadf41c5d7c412b6071", func := "treenail/treenaillaw01.NatBits", spec := "natBits", inPlace := ["math/bits.Add64", "math/bits.Sub64"], named := ["math/bits.divideError", "math/bits.overflowError"], apart := false, narrowed := true }
def NatBitsUptoSaid : Prop := natBitsUptoRow.holds Try.pinned (OpenSpec.upto natBitsSpec)

/-- 'treenaillaw01.NatBytes', WHERE WHAT IT READS IS OF BULK AT MOST 1048576: true; the input reads as it did. -/
def natBytesUptoRow : OpenClaim := { program := "ytolflieiipnndaa", sum := "b66892141e31a1c178b7c899d7527edb292c7c795c651cadf41c5d7c412b6071", func := "treenail/treenaillaw01.NatBytes", spec := "natBytes", inPlace := ["math/bits.Add64", "math/bits.Sub64"], named := ["math/bits.divideError", "math/bits.overflowError"], apart := false, narrowed := true }
def NatBytesUptoSaid : Prop := natBytesUptoRow.holds Try.pinned (OpenSpec.upto natBytesSpec)

/-- 'treenaillaw01.NatProducts', WHERE WHAT IT READS IS OF BULK AT MOST 1048576: true; the input reads as it did. -/
def natProductsUptoRow : OpenClaim := { program := "ytolflieiipnndaa", sum := "b66892141e31a1c178b7c899d7527edb292c7c795c651cadf41c5d7c412b6071", func := "treenail/treenaillaw01.NatProducts", spec := "natProducts", inPlace := ["math/bits.Add64", "math/bits.Sub64"], named := ["math/bits.divideError", "math/bits.overflowError"], apart := false, narrowed := true }
def NatProductsUptoSaid : Prop := natProductsUptoRow.holds Try.pinned (OpenSpec.upto natProductsSpec)

/-- 'treenaillaw01.NatSpreads', WHERE WHAT IT READS IS OF BULK AT MOST 1048576: true; the input reads as it did. -/
def natSpreadsUptoRow : OpenClaim := { program := "ytolflieiipnndaa", sum := "b66892141e31a1c178b7c899d7527edb292c7c795c651cadf41c5d7c412b6071", func := "treenail/treenaillaw01.NatSpreads", spec := "natSpreads", inPlace := ["math/bits.Add64", "math/bits.Sub64"], named := ["math/bits.divideError", "math/bits.overflowError"], apart := false, narrowed := true }
def NatSpreadsUptoSaid : Prop := natSpreadsUptoRow.holds Try.pinned (OpenSpec.upto natSpreadsSpec)

/-- 'treenaillaw01.NatBack', WHERE WHAT IT READS IS OF BULK AT MOST 1048576: true; the input reads as it did. -/
def natBackUptoRow : OpenClaim := { program := "ytolflieiipnndaa", sum := "b66892141e31a1c178b7c899d7527edb292c7c795c651cadf41c5d7c412b6071", func := "treenail/treenaillaw01.NatBack", spec := "natBack", inPlace := ["math/bits.Add64", "math/bits.Sub64"], named := ["math/bits.divideError", "math/bits.overflowError"], apart := false, narrowed := true }
def NatBackUptoSaid : Prop := natBackUptoRow.holds Try.pinned (OpenSpec.upto natBackSpec)

end Rows
end Go.Proofs.Ytolflieiipnndaa
