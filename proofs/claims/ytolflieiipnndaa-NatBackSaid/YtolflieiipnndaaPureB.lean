/- What the laws' plain statements share. -/
import Derived.Test.YtolflieiipnndaaNumB
namespace Go.Proofs.Ytolflieiipnndaa.Pure
open Go.RowKit Go.Proofs.Ytolflieiipnndaa Go.Proofs.Ytolflieiipnndaa.X Go.Proofs.YtolflieiipnndaaW.PrintWords Go.Proofs.YtolflieiipnndaaW.PrintLast Go.Proofs.YtolflieiipnndaaW.PrintMore Go.Proofs.Ytolflieiipnndaa.Num
set_option linter.unusedVariables false
set_option linter.unusedSimpArgs false
theorem dig_of {l : List Int} (h : ∀ x ∈ l, (Lit.int .u64 x).wf = true) : Dig 18446744073709551616 l := fun x hx => by
  have := h x hx
  simp [Lit.wf, IntKind.min, IntKind.max, IntKind.signed, IntKind.bits] at this
  omega
theorem dlen_vals (l : List Int) : (digs 18446744073709551616 (val 18446744073709551616 l)).length = dlen l := rfl
/-- How long a number's digits of 16 bits are. -/
theorem len16 {n : Int} (hn : 0 ≤ n) (m : Nat) (h : (digs 18446744073709551616 n).length ≤ m) : (digs 65536 n).length ≤ 4 * m := by
  refine (digs_len (by omega) _ n hn).2 ?_
  rw [pow16]
  exact (digs_len (by omega) _ n hn).1 h
end Go.Proofs.Ytolflieiipnndaa.Pure
