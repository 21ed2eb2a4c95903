/- NatOrders: the law's plain statement. -/
import Derived.Test.YtolflieiipnndaaNumC
import Derived.Test.YtolflieiipnndaaXP7
namespace Go.Proofs.Ytolflieiipnndaa.Pure
open Go.RowKit Go.Proofs.Ytolflieiipnndaa Go.Proofs.Ytolflieiipnndaa.X Go.Proofs.YtolflieiipnndaaW.PrintWords Go.Proofs.YtolflieiipnndaaW.PrintLast Go.Proofs.YtolflieiipnndaaW.PrintMore Go.Proofs.Ytolflieiipnndaa.Num
set_option linter.unusedVariables false
set_option linter.unusedSimpArgs false
theorem dig_of {l : List Int} (h : ∀ x ∈ l, (Lit.int .u64 x).wf = true) : Dig 18446744073709551616 l := fun x hx => by
  have := h x hx
  simp [Lit.wf, IntKind.min, IntKind.max, IntKind.signed, IntKind.bits] at this
  omega
theorem dlen_vals (l : List Int) : (digs 18446744073709551616 (val 18446744073709551616 l)).length = dlen l := rfl
theorem len16 {n : Int} (hn : 0 ≤ n) (m : Nat) (h : (digs 18446744073709551616 n).length ≤ m) : (digs 65536 n).length ≤ 4 * m := by
  refine (digs_len (by omega) _ n hn).2 ?_
  rw [pow16]
  exact (digs_len (by omega) _ n hn).1 h
theorem cmpI_neg (a b : Int) : cmpI b a = -cmpI a b := by
  unfold cmpI
  split <;> split <;> (try split) <;> omega
theorem cmpI_bd (a b : Int) : -1 ≤ cmpI a b ∧ cmpI a b ≤ 1 := by
  unfold cmpI
  split
  · omega
  · split <;> omega
theorem NatOrders : treenaillaw01_NatOrders.Pure := by
  intro a b i ma ya wa mb yb wb wi
  have ha := dig_of wa
  have hb := dig_of wb
  have hi : -9223372036854775808 ≤ i ∧ i ≤ 9223372036854775807 := by
    simpa [Lit.wf, IntKind.min, IntKind.max, IntKind.signed, IntKind.bits] using wi
  refine ⟨9000, ?_⟩
  unfold treenaillaw01_NatOrders.f treenaillaw01_up.f
  simp only [Option.bind_some]
  have hj1 : ∀ x5 : Bool, treenaillaw01_NatOrders.j0 9000 a b i x5 true = some x5 := fun x5 => by simp [treenaillaw01_NatOrders.j0]
  by_cases h1 : a.length ≤ 300
  · rw [if_neg (by omega)]
    by_cases h2 : b.length ≤ 300
    · have hd : decide ((b.length : Int) > 300) = false := by simp; omega
      rw [hd]
      have h0a := val_nonneg ha
      have h0b := val_nonneg hb
      have la := len16 h0a 300 (by have := dlen_le a ha; rw [dlen_vals]; omega)
      have lb := len16 h0b 300 (by have := dlen_le b hb; rw [dlen_vals]; omega)
      have da := dlen_le a ha
      simp only [treenaillaw01_NatOrders.j0]
      rw [if_neg (by simp), of_spec a ha (by omega) 8999 (by omega), of_spec b hb (by omega) 8999 (by omega)]
      simp only [Option.bind_some]
      rw [norm_spec a ha (by omega) 8999 (by omega), to_spec _ h0a (by omega) 8999 (by omega)]
      simp only [Option.bind_some]
      rw [same_spec _ _ (by rw [dlen_vals]; omega) 8999 (by rw [dlen_vals]; omega), rcmp_spec _ _ h0a h0b (by omega) (by omega) 8999 (by omega)]
      simp only [Option.bind_some, decide_true, if_true]
      rw [cmp_spec a b ha hb (by omega) (by omega) 8999 (by omega) (by omega)]
      simp only [Option.bind_some, if_true]
      rw [cmp_spec b a hb ha (by omega) (by omega) 8999 (by omega) (by omega)]
      simp only [Option.bind_some]
      have hc := cmpI_bd (val 18446744073709551616 a) (val 18446744073709551616 b)
      rw [w64 (by omega) (by omega), if_pos (cmpI_neg _ _), bits_spec a ha (by omega) 8999 (by omega), rbits_spec _ h0a (by omega) 8999 (by omega)]
      simp only [Option.bind_some, if_true]
      rw [natbit_spec a ha (by omega) i hi.2, rbit_spec _ h0a (by omega) i hi.2 8999 (by omega)]
      simp
    · have hd : decide ((b.length : Int) > 300) = true := by simp; omega
      rw [hd, hj1]
  · rw [if_pos (by omega), hj1]
end Go.Proofs.Ytolflieiipnndaa.Pure
