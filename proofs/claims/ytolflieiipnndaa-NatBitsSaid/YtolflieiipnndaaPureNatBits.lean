/- NatBits: the law's plain statement. -/
import Derived.Test.YtolflieiipnndaaNumC
import Derived.Test.YtolflieiipnndaaXP8
namespace Go.Proofs.Ytolflieiipnndaa.Pure
open Go.RowKit Go.Proofs.Ytolflieiipnndaa Go.Proofs.Ytolflieiipnndaa.X Go.Proofs.YtolflieiipnndaaW.PrintWords Go.Proofs.YtolflieiipnndaaW.PrintLast Go.Proofs.YtolflieiipnndaaW.PrintMore Go.Proofs.Ytolflieiipnndaa.Num
set_option linter.unusedVariables false
set_option linter.unusedSimpArgs false
theorem dig_of {l : List Int} (h : ∀ x ∈ l, (Lit.int .u64 x).wf = true) : Dig 18446744073709551616 l := fun x hx => by
  have := h x hx
  simp [Lit.wf, IntKind.min, IntKind.max, IntKind.signed, IntKind.bits] at this
  omega
/-- The sum of two numbers told by their digits. -/
theorem addD (m n : Int) (hm : 0 ≤ m) (hn : 0 ≤ n) (lm : (digs 18446744073709551616 m).length ≤ 64) (ln : (digs 18446744073709551616 n).length ≤ 64) (k : Nat) (hk : 400 < k) :
    nat_Add.f k (digs 18446744073709551616 m) (digs 18446744073709551616 n) = some (digs 18446744073709551616 (m + n), none) := by
  have v1 := val_digs (show 2 ≤ 18446744073709551616 by omega) m hm
  have v2 := val_digs (show 2 ≤ 18446744073709551616 by omega) n hn
  rw [add_spec _ _ (digs_dig (by omega) m) (digs_dig (by omega) n) (by omega) (by omega) k (by omega) (by omega)]
  unfold dlen
  rw [v1, v2, if_pos ⟨lm, ln⟩]
theorem lenD (m M n : Nat) (h : m < 2 ^ M) (hM : M ≤ 64 * n) : (digs 18446744073709551616 (m : Int)).length ≤ n := by
  refine (digs_len (by omega) n _ (by omega)).2 ?_
  have h1 : m < 2 ^ (64 * n) := Nat.lt_of_lt_of_le h (Nat.pow_le_pow_right (by omega) hM)
  have h2 : ((18446744073709551616 : Nat) : Int) ^ n = ((2 ^ (64 * n) : Nat) : Int) := by rw [Nat.pow_mul, Int.natCast_pow]
  rw [h2]
  exact Int.ofNat_lt.2 h1
theorem half (N j : Nat) : N / 2 ^ j = 2 * (N / 2 ^ (j + 1)) + (if N.testBit j then 1 else 0) := by
  rw [Nat.testBit_eq_decide_div_mod_eq, Nat.pow_succ, ← Nat.div_div_eq_div_mul]
  by_cases h : N / 2 ^ j % 2 = 1
  · simp [h]; omega
  · simp [h]; omega
theorem loop (a : List Int) (ha : Dig 18446744073709551616 a) (la : a.length ≤ 20) (N : Nat) (hN : val 18446744073709551616 a = (N : Int)) (M : Nat) (hM : M ≤ 4000) (hlt : N < 2 ^ M)
    (r : Bool) (hend : ∀ k : Nat, 600 < k → treenaillaw01_NatBits.l0 k a true (digs 18446744073709551616 (N : Int)) (nbits (N : Int) : Int) (-1) = some r) :
    ∀ (j : Nat), j ≤ 1300 → ∀ k : Nat, j + 600 < k → treenaillaw01_NatBits.l0 k a true (digs 18446744073709551616 ((N / 2 ^ j : Nat) : Int)) (nbits (N : Int) : Int) ((j : Int) - 1) = some r := by
  intro j
  induction j with
  | zero =>
    intro _ k hk
    rw [Nat.pow_zero, Nat.div_one]
    exact hend k (by omega)
  | succ j ih =>
    intro hj k hk
    obtain ⟨k, rfl⟩ : ∃ m, k = m + 1 := ⟨k - 1, by omega⟩
    have e : ((j + 1 : Nat) : Int) - 1 = (j : Int) := by omega
    have hle : N / 2 ^ (j + 1) ≤ N := Nat.div_le_self _ _
    have hh := half N j
    have hle2 : N / 2 ^ j ≤ N := Nat.div_le_self _ _
    have hb := natbit_spec a ha (by omega) (j : Int) (by omega)
    rw [hN, Int.toNat_natCast, Int.toNat_natCast, show decide ((0 : Int) ≤ (j : Int)) = true by simp, Bool.true_and] at hb
    have ih2 := ih (by omega) k (by omega)
    generalize hv : N / 2 ^ (j + 1) = v at *
    have hl1 : (digs 18446744073709551616 (v : Int)).length ≤ 64 := lenD v M 64 (by omega) (by omega)
    have hl2 : (digs 18446744073709551616 ((v : Int) + v)).length ≤ 64 := by
      have := lenD (v + v) (M + 1) 64 (by rw [Nat.pow_succ]; omega) (by omega)
      rwa [Int.natCast_add] at this
    have h1 : ([1] : List Int) = digs 18446744073709551616 1 := (digs_small (by omega) (by omega) (by omega)).symm
    have hadd1 := addD ((v : Int) + v) 1 (by omega) (by omega) hl2 (by rw [← h1]; simp) k (by omega)
    rw [← h1] at hadd1
    rw [e]
    simp only [treenaillaw01_NatBits.l0]
    rw [if_pos (by omega), addD _ _ (by omega) (by omega) hl1 hl1 k (by omega)]
    rw [Option.bind_some, if_pos (show ((digs 18446744073709551616 ((v : Int) + v), (none : Option Int)) : List Int × Option Int).2.isNone = true from rfl), hb, Option.bind_some]
    cases ht : N.testBit j with
    | true =>
      rw [ht, if_pos rfl] at hh
      rw [if_pos rfl]
      dsimp only
      rw [hadd1, Option.bind_some, if_pos (show ((digs 18446744073709551616 ((v : Int) + v + 1), (none : Option Int)) : List Int × Option Int).2.isNone = true from rfl)]
      dsimp only
      rw [w64 (by omega) (by omega), show (v : Int) + v + 1 = ((N / 2 ^ j : Nat) : Int) by omega]
      exact ih2
    | false =>
      rw [ht, if_neg Bool.false_ne_true] at hh
      rw [if_neg Bool.false_ne_true]
      dsimp only
      rw [w64 (by omega) (by omega), show (v : Int) + v = ((N / 2 ^ j : Nat) : Int) by omega]
      exact ih2
theorem bits_facts (N M : Nat) (h : N < 2 ^ M) : ∃ nb, nbits (N : Int) = nb ∧ nb ≤ M ∧ N < 2 ^ nb ∧ ∀ m, nb = m + 1 → 2 ^ m ≤ N := by
  refine ⟨_, rfl, (nbits_le _ (by omega) _).2 (by exact_mod_cast h), ?_, fun m hm => ?_⟩
  · have : (N : Int) < 2 ^ nbits (N : Int) := (nbits_le _ (by omega) _).1 (Nat.le_refl _)
    exact_mod_cast this
  · rcases Nat.lt_or_ge N (2 ^ m) with h | h
    · have : nbits (N : Int) ≤ m := (nbits_le _ (by omega) m).2 (by exact_mod_cast h)
      omega
    · exact h
theorem top_bit (N m : Nat) (h1 : N < 2 ^ (m + 1)) (h2 : 2 ^ m ≤ N) : N.testBit m = true := by
  rw [Nat.testBit_eq_decide_div_mod_eq]
  rw [Nat.pow_succ] at h1
  have hp : 0 < 2 ^ m := Nat.pow_pos (by omega)
  have : N / 2 ^ m = 1 := by apply Nat.div_eq_of_lt_le <;> omega
  simp [this]
theorem NatBits : treenaillaw01_NatBits.Pure := by
  intro a ma ya wa
  have ha := dig_of wa
  obtain ⟨K, hK⟩ : ∃ K : Nat, K = 3000 := ⟨_, rfl⟩
  refine ⟨K, ?_⟩
  unfold treenaillaw01_NatBits.f treenaillaw01_up.f
  rw [Option.bind_some]
  by_cases h1 : a.length ≤ 20
  · have h0a := val_nonneg ha
    obtain ⟨N, hN⟩ := Int.eq_ofNat_of_zero_le h0a
    have hlt : N < 2 ^ (64 * a.length) := by
      have h2 := val_lt ha
      have h3 : ((18446744073709551616 : Nat) : Int) ^ a.length = ((2 ^ (64 * a.length) : Nat) : Int) := by rw [Nat.pow_mul, Int.natCast_pow]
      rw [h3, hN] at h2
      exact Int.ofNat_lt.1 h2
    obtain ⟨nb, hnb, hle, hlo, htop⟩ := bits_facts N _ hlt
    have hlp := loop a ha h1 N hN (64 * a.length) (by omega) hlt true
    rw [hnb] at hlp
    have hl : (digs 18446744073709551616 (N : Int)).length ≤ 20 := lenD N (64 * a.length) 20 hlt (by omega)
    have hdz : N / 2 ^ nb = 0 := Nat.div_eq_of_lt hlo
    have hhigh : ∀ i : Nat, nb ≤ i → N.testBit i = false := fun i hi => Nat.testBit_lt_two_pow (Nat.lt_of_lt_of_le hlo (Nat.pow_le_pow_right (by omega) hi))
    have htb : ∀ m, nb = m + 1 → N.testBit m = true := fun m hm => by
      subst hm
      exact top_bit N m hlo (htop m rfl)
    clear htop hlo hlt
    have hbit : ∀ i : Nat, i ≤ 5000 → nat_Bit.f a (i : Int) = some (N.testBit i) := by
      intro i hi
      rw [natbit_spec a ha (by omega) (i : Int) (by omega), hN, Int.toNat_natCast, Int.toNat_natCast, show decide ((0 : Int) ≤ (i : Int)) = true by simp, Bool.true_and]
    rw [if_neg (by omega), bits_spec a ha (by omega) K (by omega), hN, hnb, Option.bind_some, w64 (by omega) (by omega)]
    have hend : ∀ k : Nat, 600 < k → treenaillaw01_NatBits.l0 k a true (digs 18446744073709551616 (N : Int)) (nb : Int) (-1) = some true := by
      clear hdz hlp
      intro k hk
      obtain ⟨k, rfl⟩ : ∃ m, k = m + 1 := ⟨k - 1, by omega⟩
      have b0 := hbit nb (by omega)
      rw [hhigh _ (Nat.le_refl _)] at b0
      have b1 := hbit (nb + 63) (by omega)
      rw [hhigh _ (by omega)] at b1
      have e1 : wrap64 ((nb : Int) + 63) = ((nb + 63 : Nat) : Int) := by rw [w64 (by omega) (by omega)]; omega
      simp only [treenaillaw01_NatBits.l0]
      rw [if_neg (by omega), norm_spec a ha (by omega) k (by omega), hN, Option.bind_some, same_spec _ _ (by omega) k (by omega), Option.bind_some, if_pos trivial, if_pos (decide_eq_true rfl)]
      by_cases hz : nb = 0
      · rw [if_pos (by omega), b0, Option.bind_some, if_neg Bool.false_ne_true, e1, b1, Option.bind_some]
        rfl
      · rw [if_neg (by omega)]
        obtain ⟨m, hm⟩ : ∃ m, nb = m + 1 := ⟨nb - 1, by omega⟩
        have b2 := hbit m (by omega)
        rw [htb m hm] at b2
        have e2 : wrap64 ((nb : Int) - 1) = (m : Int) := by rw [w64 (by omega) (by omega)]; omega
        rw [e2, b2, Option.bind_some, if_pos rfl, b0, Option.bind_some, if_neg Bool.false_ne_true, e1, b1, Option.bind_some]
        rfl
    have := hlp hend nb (by omega) K (by omega)
    rw [hdz, show ((0 : Nat) : Int) = 0 from rfl, digs_zero] at this
    exact this
  · rw [if_pos (by omega)]
end Go.Proofs.Ytolflieiipnndaa.Pure
