/- NatSums: the law's plain statement. -/
import Derived.Test.YtolflieiipnndaaNumB
import Derived.Test.YtolflieiipnndaaXP5
namespace Go.Proofs.Ytolflieiipnndaa.Pure
open Go.RowKit Go.Proofs.Ytolflieiipnndaa Go.Proofs.Ytolflieiipnndaa.X Go.Proofs.YtolflieiipnndaaW.PrintWords Go.Proofs.YtolflieiipnndaaW.PrintLast Go.Proofs.YtolflieiipnndaaW.PrintMore Go.Proofs.Ytolflieiipnndaa.Num
set_option linter.unusedVariables false
set_option linter.unusedSimpArgs false
theorem dig_of {l : List Int} (h : ∀ x ∈ l, (Lit.int .u64 x).wf = true) : Dig 18446744073709551616 l := fun x hx => by
  have := h x hx
  simp [Lit.wf, IntKind.min, IntKind.max, IntKind.signed, IntKind.bits] at this
  omega
theorem dlen_vals (l : List Int) : (digs 18446744073709551616 (val 18446744073709551616 l)).length = dlen l := rfl
/-- How long a number's digits of 16 bits are. -/
theorem len16 {n : Int} (hn : 0 ≤ n) (m : Nat) (h : (digs 18446744073709551616 n).length ≤ m) : (digs 65536 n).length ≤ 4 * m := by
  refine (digs_len (by omega) _ n hn).2 ?_
  rw [pow16]
  exact (digs_len (by omega) _ n hn).1 h
theorem NatSums : treenaillaw01_NatSums.Pure := by
  intro a b ma ya wa mb yb wb
  have ha := dig_of wa
  have hb := dig_of wb
  refine ⟨5000, ?_⟩
  unfold treenaillaw01_NatSums.f treenaillaw01_up.f
  simp only [Option.bind_some]
  have hj1 : ∀ x5 : Bool, treenaillaw01_NatSums.j0 5000 a b x5 true = some x5 := fun x5 => by simp [treenaillaw01_NatSums.j0]
  by_cases h1 : a.length ≤ 200
  · rw [if_neg (by omega)]
    by_cases h2 : b.length ≤ 200
    · have hd : decide ((b.length : Int) > 200) = false := by simp; omega
      rw [hd]
      have h0a := val_nonneg ha
      have h0b := val_nonneg hb
      have da := dlen_le a ha
      have db := dlen_le b hb
      simp only [treenaillaw01_NatSums.j0]
      rw [if_neg (by simp), copied_spec a (by omega), copied_spec b (by omega)]
      simp only [Option.bind_some]
      rw [add_spec a b ha hb (by omega) (by omega) 4999 (by omega) (by omega), sub_spec a b ha hb (by omega) (by omega) 4999 (by omega) (by omega)]
      rw [same_spec a a (by omega) 4999 (by omega), same_spec b b (by omega) 4999 (by omega), long_spec a ha (by omega) 4999 (by omega), long_spec b hb (by omega) 4999 (by omega)]
      by_cases hl : dlen a ≤ 64 ∧ dlen b ≤ 64
      · rw [if_pos hl, if_pos hl]
        have e1 : decide (64 < dlen a) = false := by simp; omega
        have e2 : decide (64 < dlen b) = false := by simp; omega
        have la := len16 h0a 200 (by rw [dlen_vals]; omega)
        have lb := len16 h0b 200 (by rw [dlen_vals]; omega)
        have va := val_digs (show 2 ≤ 65536 by omega) _ h0a
        have vb := val_digs (show 2 ≤ 65536 by omega) _ h0b
        have ga := digs_dig (show 2 ≤ 65536 by omega) (val 18446744073709551616 a)
        have gb := digs_dig (show 2 ≤ 65536 by omega) (val 18446744073709551616 b)
        have hs : (digs 18446744073709551616 (val 18446744073709551616 a + val 18446744073709551616 b)).length ≤ 65 := by
          have u1 := (digs_len (show 2 ≤ 18446744073709551616 by omega) 64 _ h0a).1 hl.1
          have u2 := (digs_len (show 2 ≤ 18446744073709551616 by omega) 64 _ h0b).1 hl.2
          refine (digs_len (show 2 ≤ 18446744073709551616 by omega) 65 _ (by omega)).2 ?_
          rw [pow_succ_]
          generalize ((18446744073709551616 : Nat) : Int) ^ 64 = P at *
          omega
        have ls := len16 (show 0 ≤ val 18446744073709551616 a + val 18446744073709551616 b by omega) 65 hs
        simp only [Option.bind_some, e1, e2, Bool.false_eq_true, if_false, treenaillaw01_NatSums.j1]
        rw [of_spec a ha (by omega) 4998 (by omega), of_spec b hb (by omega) 4998 (by omega)]
        simp only [Option.bind_some]
        rw [radd_spec _ _ ga gb (by omega) (by omega) 4998 (by omega) (by omega), va, vb]
        simp only [Option.bind_some]
        rw [to_spec _ (by omega) (by omega) 4998 (by omega)]
        simp only [Option.bind_some]
        rw [same_spec _ _ (by omega) 4998 (by omega), rcmp_spec _ _ h0a h0b (by omega) (by omega) 4998 (by omega)]
        simp only [Option.bind_some]
        by_cases hlt : val 18446744073709551616 a < val 18446744073709551616 b
        · rw [if_pos hlt]
          simp only [Option.bind_some]
          rw [if_pos ((cmpI_lt _ _).2 hlt)]
          simp
        · rw [if_neg hlt]
          simp only [Option.bind_some]
          rw [if_neg (fun h => hlt ((cmpI_lt _ _).1 h)), rsub_spec _ _ h0b (by omega) (by omega) 4998 (by omega)]
          have ld := len_mono (show 0 ≤ val 18446744073709551616 a - val 18446744073709551616 b by omega) (show val 18446744073709551616 a - val 18446744073709551616 b ≤ val 18446744073709551616 a by omega)
          rw [dlen_vals] at ld
          have ld2 := len16 (show 0 ≤ val 18446744073709551616 a - val 18446744073709551616 b by omega) 200 (by omega)
          simp only [Option.bind_some]
          rw [to_spec _ (by omega) (by omega) 4998 (by omega)]
          simp only [Option.bind_some]
          rw [same_spec _ _ (by omega) 4998 (by omega)]
          simp
      · rw [if_neg hl, if_neg hl]
        have hj : treenaillaw01_NatSums.j1 4999 a b true [] (some 2) [] (some 2) true true true = some true := by simp [treenaillaw01_NatSums.j1]
        simp only [Option.bind_some, decide_true]
        by_cases h3 : 64 < dlen a
        · have e1 : decide (64 < dlen a) = true := by simp; omega
          rw [e1, if_pos rfl, hj]
        · have e1 : decide (64 < dlen a) = false := by simp; omega
          have e2 : decide (64 < dlen b) = true := by simp; omega
          rw [e1, e2, if_neg (by simp), hj]
    · have hd : decide ((b.length : Int) > 200) = true := by simp; omega
      rw [hd, hj1]
  · rw [if_pos (by omega), hj1]
end Go.Proofs.Ytolflieiipnndaa.Pure
