/- NatBytes: the law's plain statement. -/
import Derived.Test.YtolflieiipnndaaNumF
import Derived.Test.YtolflieiipnndaaXP12
namespace Go.Proofs.Ytolflieiipnndaa.Pure
open Go.RowKit Go.Proofs.Ytolflieiipnndaa Go.Proofs.Ytolflieiipnndaa.X Go.Proofs.YtolflieiipnndaaW.PrintWords Go.Proofs.YtolflieiipnndaaW.PrintLast Go.Proofs.YtolflieiipnndaaW.PrintMore Go.Proofs.Ytolflieiipnndaa.Num
set_option linter.unusedVariables false
set_option linter.unusedSimpArgs false
theorem dig_of {l : List Int} (h : ∀ x ∈ l, (Lit.int .u64 x).wf = true) : Dig 18446744073709551616 l := fun x hx => by
  have := h x hx
  simp [Lit.wf, IntKind.min, IntKind.max, IntKind.signed, IntKind.bits] at this
  omega
theorem dig8_of {l : List Int} (h : ∀ x ∈ l, (Lit.int .u8 x).wf = true) : Dig 256 l := fun x hx => by
  have := h x hx
  simp [Lit.wf, IntKind.min, IntKind.max, IntKind.signed, IntKind.bits] at this
  omega
theorem len16d (l : List Int) (h : Dig 18446744073709551616 l) (hl : l.length ≤ 300) : (digs 65536 (val 18446744073709551616 l)).length ≤ 4096 := by
  refine Nat.le_trans ((digs_len (by decide) (4 * l.length) _ (val_nonneg h)).2 ?_) (by omega)
  rw [pow16]
  exact val_lt h
theorem j1_bad (k : Nat) (l : List Int) (a : Int) : treenaillaw01_NatBytes.j1 (k + 1) l a true [] (some 1) true = some true := by
  rw [treenaillaw01_NatBytes.j1, if_pos rfl, if_pos rfl]
  rfl
theorem j1_good (k : Nat) (K : Nat) (hK : K = 6000) (hk : K < k) (l : List Int) (h : Dig 18446744073709551616 l) (hl : l.length ≤ 300) (n : Nat) (hn : n ≤ 1024) (x : List Int) (e : Option Int)
    (hx : some (x, e) = if nbits (val 18446744073709551616 l) ≤ 8 * n then some (bts (val 18446744073709551616 l).toNat n n, none) else some ([], some 2)) : treenaillaw01_NatBytes.j1 (k + 1) l (n : Int) true x e false = some true := by
  have hv : ((val 18446744073709551616 l).toNat : Int) = val 18446744073709551616 l := Int.toNat_of_nonneg (val_nonneg h)
  have h16 := len16d l h hl
  have ho := of_spec l h (by omega) k (by omega)
  have hb := rbytes_spec (val 18446744073709551616 l).toNat (by rw [hv]; exact h16) n hn K hK k hk
  rw [hv] at hb
  rw [treenaillaw01_NatBytes.j1, if_neg (by decide), ho, Option.bind_some, hb, Option.bind_some]
  by_cases hz : nbits (val 18446744073709551616 l) ≤ 8 * n
  · rw [if_pos hz] at hx
    obtain ⟨rfl, rfl⟩ := Prod.mk.injEq .. ▸ Option.some.inj hx
    rw [decide_eq_true hz, if_pos rfl, if_pos rfl, if_pos (show (none : Option Int).isNone = true from rfl)]
    congr 1
    exact beq_self_eq_true _
  · rw [if_neg hz] at hx
    obtain ⟨rfl, rfl⟩ := Prod.mk.injEq .. ▸ Option.some.inj hx
    rw [decide_eq_false hz, if_neg (show ¬ (false = true) by decide), if_pos rfl, if_neg (show ¬ ((some (2 : Int)).isNone = true) by decide), if_pos (show (some (2 : Int)).getD 0 = 2 from rfl)]
    rfl
theorem j0_all (k : Nat) (K : Nat) (hK : K = 6000) (hk : K + 2 < k) (l : List Int) (h : Dig 18446744073709551616 l) (a : Int) : treenaillaw01_NatBytes.j0 k l a true = some true := by
  obtain ⟨k, rfl⟩ : ∃ m, k = m + 1 + 1 := ⟨k - 2, by omega⟩
  rw [treenaillaw01_NatBytes.j0]
  by_cases hl : (l.length : Int) > 300
  · rw [if_pos hl]
  · rw [if_neg hl]
    by_cases h0 : a < 0
    · rw [bytes_bad l a (.inl h0) _ (by omega), Option.bind_some, if_pos h0]
      exact j1_bad k l a
    · by_cases h1 : a > 1024
      · rw [bytes_bad l a (.inr h1) _ (by omega), Option.bind_some, if_neg h0, decide_eq_true h1]
        exact j1_bad k l a
      · obtain ⟨n, rfl⟩ := Int.eq_ofNat_of_zero_le (show 0 ≤ a by omega)
        have hn : n ≤ 1024 := by omega
        have hl3 : l.length ≤ 300 := by omega
        have hkk : K < k + 1 := by omega
        have hkk2 : K < k := by omega
        have hb := bytes_spec l h (by omega) n hn K hK (k + 1) hkk
        obtain ⟨⟨x, e⟩, hx⟩ : ∃ p, some p = if nbits (val 18446744073709551616 l) ≤ 8 * n then some (bts (val 18446744073709551616 l).toNat n n, (none : Option Int)) else some ([], some 2) := by
          by_cases hz : nbits (val 18446744073709551616 l) ≤ 8 * n
          · exact ⟨_, by rw [if_pos hz]⟩
          · exact ⟨_, by rw [if_neg hz]⟩
        rw [← hx] at hb
        rw [hb, Option.bind_some, if_neg h0, decide_eq_false h1]
        exact j1_good k K hK hkk2 l h hl3 n hn x e hx
theorem be_small (l : List Int) (h : Dig 256 l) (hl : l.length ≤ 512) : (digs 65536 (be l)).length ≤ 512 ∧ (digs 18446744073709551616 (be l)).length ≤ 512 ∧ nbits (be l) ≤ 8 * l.length := by
  obtain ⟨b0, b1⟩ := be_lt h
  have h1 := len16 _ b0 _ b1
  refine ⟨Nat.le_trans h1 hl, Nat.le_trans ((digs_len (by decide) l.length _ b0).2 (Int.lt_of_lt_of_le b1 ?_)) hl, (nbits_le _ b0 _).2 ?_⟩
  · exact_mod_cast Nat.pow_le_pow_left (show 256 ≤ 18446744073709551616 by decide) l.length
  · rw [Int.pow_mul]
    exact b1
theorem NatBytes : treenaillaw01_NatBytes.Pure := by
  intro a b n ma ya wa mb yb wb wn
  have ha := dig8_of wa
  have hb := dig_of wb
  obtain ⟨K, hK⟩ : ∃ K, K = 6000 := ⟨_, rfl⟩
  obtain ⟨k, hk⟩ : ∃ k, k = 9000 := ⟨_, rfl⟩
  have hj := j0_all k K hK (by omega) b hb n
  refine ⟨k, ?_⟩
  unfold treenaillaw01_NatBytes.f treenaillaw01_up.f
  rw [Option.bind_some]
  by_cases h1 : (a.length : Int) > 512
  · rw [from_long a h1, Option.bind_some, if_pos h1, if_neg (show ¬ ((some (2 : Int)).isNone = true) by decide), if_pos (show (some (2 : Int)).getD 0 = 2 from rfl), if_pos (show (([] : List Int).length : Int) = 0 from rfl)]
    exact hj
  · have hl : a.length ≤ 512 := by omega
    obtain ⟨s1, s2, s3⟩ := be_small a ha hl
    obtain ⟨b0, b1⟩ := be_lt ha
    have v1 := val_digs (show 2 ≤ 18446744073709551616 by decide) (be a) b0
    have hbb := bytes_spec (digs 18446744073709551616 (be a)) (digs_dig (by decide) _) (by omega) a.length (by omega) K hK k (by omega)
    rw [v1, if_pos s3, bts_be a ha] at hbb
    have hto := to_spec (be a) b0 (by omega) k (by omega)
    have hsame := same_spec (digs 18446744073709551616 (be a)) (digs 18446744073709551616 (be a)) (by omega) k (by omega)
    rw [from_spec a ha 512 rfl hl k (by omega), Option.bind_some, if_neg h1, rfrom_spec a ha hl k (by omega), Option.bind_some, hto, Option.bind_some, hsame, Option.bind_some, hbb, Option.bind_some,
      if_pos (show (none : Option Int).isNone = true from rfl), if_pos (decide_eq_true rfl), if_pos (show (none : Option Int).isNone = true from rfl), if_pos rfl]
    exact hj
end Go.Proofs.Ytolflieiipnndaa.Pure
