/- What the printed functions compute: the document's product; numbers and their bytes. -/
import Derived.Test.YtolflieiipnndaaMg34
import Derived.Test.YtolflieiipnndaaXP9
namespace Go.Proofs.Ytolflieiipnndaa.X
open Go.RowKit Go.Proofs.Ytolflieiipnndaa Go.Proofs.YtolflieiipnndaaW.PrintWords Go.Proofs.YtolflieiipnndaaW.PrintLast Go.Proofs.YtolflieiipnndaaW.PrintMore Go.Proofs.Ytolflieiipnndaa.Num
set_option linter.unusedVariables false
set_option linter.unusedSimpArgs false
theorem mul_lt {x y a b : Int} (hx : 0 ≤ x) (hy : 0 ≤ y) (h1 : x < a) (h2 : y ≤ b) (hb : 0 < b) : x * y < a * b := by
  have h3 : x * y ≤ x * b := Int.mul_le_mul_of_nonneg_left h2 hx
  have h4 : x * b < a * b := Int.mul_lt_mul_of_pos_right h1 hb
  omega
theorem pow_lt_inv {B : Nat} (hB : 2 ≤ B) {m n : Nat} (h : (B : Int) ^ m < (B : Int) ^ n) : m < n := by
  rcases Nat.lt_or_ge m n with h1 | h1
  · exact h1
  · have : (B : Int) ^ n ≤ (B : Int) ^ m := by exact_mod_cast Nat.pow_le_pow_right (by omega) h1
    omega
theorem digit_sum {o x y c : Int} (ho : 0 ≤ o ∧ o < 65536) (hx : 0 ≤ x ∧ x < 65536) (hy : 0 ≤ y ∧ y < 65536) (hc : 0 ≤ c ∧ c < 65536) : 0 ≤ x * y ∧ x * y ≤ 4294836225 ∧ 0 ≤ (o + x * y + c) / 65536 ∧ (o + x * y + c) / 65536 < 65536 := by
  have h1 := Int.mul_nonneg hx.1 hy.1
  have h2 : x * y ≤ 65535 * 65535 := by
    have a1 : x * y ≤ x * 65535 := Int.mul_le_mul_of_nonneg_left (by omega) hx.1
    omega
  omega
set_option maxHeartbeats 1000000 in
theorem rmul_inner (a b : List Int) (ha : Dig 65536 a) (hb : Dig 65536 b) (la : a.length ≤ 1073741824) (lb : b.length ≤ 1073741824) (i : Nat) (hi : i < a.length) (V0 : Int) (hV0 : V0 = val 65536 (a.take i) * val 65536 b) :
    ∀ (d j : Nat) (out : List Int) (c : Int), b.length + 1 ≤ j + d → out.length = a.length + b.length + 1 → Dig 65536 out → 0 ≤ c → c < 65536 →
      val 65536 out + ((65536 : Nat) : Int) ^ (i + j) * c = V0 + ((65536 : Nat) : Int) ^ i * (a.getD i 0 * val 65536 (b.take j)) →
      ∀ k : Nat, d + 1 < k → ∃ out' k', k ≤ k' + d + 2 ∧ treenailref01_Mul.l1 k a b out (i : Int) c (j : Int) = treenailref01_Mul.l0 k' a b out' ((i + 1 : Nat) : Int) ∧ out'.length = a.length + b.length + 1 ∧ Dig 65536 out' ∧ val 65536 out' = val 65536 (a.take (i + 1)) * val 65536 b := by
  have hx := ha.at_ (by omega) i
  have hb0 := val_nonneg hb
  have hblt := val_lt hb
  have htot : V0 + ((65536 : Nat) : Int) ^ i * (a.getD i 0 * val 65536 b) = val 65536 (a.take (i + 1)) * val 65536 b := by
    rw [hV0, val_take 65536 a i hi, Int.add_mul, Int.mul_assoc]
  have htlt : val 65536 (a.take (i + 1)) * val 65536 b < ((65536 : Nat) : Int) ^ (i + 1 + b.length) := by
    have h1 := val_lt (ha.take (i + 1))
    rw [List.length_take, Nat.min_eq_left (by omega)] at h1
    rw [Int.pow_add]
    exact mul_lt (val_nonneg (ha.take _)) hb0 h1 (Int.le_of_lt hblt) (pow_pos_ (by omega) _)
  have hend : ∀ (j : Nat) (out : List Int), b.length ≤ j → out.length = a.length + b.length + 1 → Dig 65536 out → val 65536 out + ((65536 : Nat) : Int) ^ (i + j) * 0 = V0 + ((65536 : Nat) : Int) ^ i * (a.getD i 0 * val 65536 (b.take j)) →
      ∀ k d : Nat, 1 < k → ∃ out' k', k ≤ k' + d + 2 ∧ treenailref01_Mul.l1 k a b out (i : Int) 0 (j : Int) = treenailref01_Mul.l0 k' a b out' ((i + 1 : Nat) : Int) ∧ out'.length = a.length + b.length + 1 ∧ Dig 65536 out' ∧ val 65536 out' = val 65536 (a.take (i + 1)) * val 65536 b := by
    intro j out hj ho hd hv k d hk
    obtain ⟨k, rfl⟩ : ∃ m, k = m + 1 := ⟨k - 1, by omega⟩
    refine ⟨out, k, by omega, ?_, ho, hd, ?_⟩
    · have e : (i : Int) + 1 = ((i + 1 : Nat) : Int) := by omega
      clear hv htot htlt hV0
      simp (disch := omega) only [treenailref01_Mul.l1, if_neg, w64, e]
    · rw [Int.mul_zero, Int.add_zero, List.take_of_length_le hj, htot] at hv
      exact hv
  intro d
  induction d with
  | zero =>
    intro j out c hj ho hd c0 c1 hv k hk
    have hc : c = 0 := by
      rcases Int.lt_or_eq_of_le c0 with hp | he
      · exfalso
        rw [List.take_of_length_le (by omega), htot] at hv
        have h1 : ((65536 : Nat) : Int) ^ (i + j) * 1 ≤ ((65536 : Nat) : Int) ^ (i + j) * c := Int.mul_le_mul_of_nonneg_left (by omega) (Int.le_of_lt (pow_pos_ (by omega) _))
        have h2 := val_nonneg hd
        have := pow_lt_inv (show 2 ≤ 65536 by omega) (show ((65536 : Nat) : Int) ^ (i + j) < ((65536 : Nat) : Int) ^ (i + 1 + b.length) by omega)
        omega
      · exact he.symm
    subst hc
    exact hend j out (by omega) ho hd hv k 0 (by omega)
  | succ d ih =>
    intro j out c hj ho hd c0 c1 hv k hk
    have hgo : (j < b.length ∨ 0 < c) → i + j < out.length → ∃ out' k', k ≤ k' + (d + 1) + 2 ∧ treenailref01_Mul.l1 k a b out (i : Int) c (j : Int) = treenailref01_Mul.l0 k' a b out' ((i + 1 : Nat) : Int) ∧ out'.length = a.length + b.length + 1 ∧ Dig 65536 out' ∧ val 65536 out' = val 65536 (a.take (i + 1)) * val 65536 b := by
      intro hg hidx
      obtain ⟨k, rfl⟩ : ∃ m, k = m + 1 := ⟨k - 1, by omega⟩
      have hy := hb.at_ (by omega) j
      have hp := hd.at_ (by omega) (i + j)
      obtain ⟨s0, s1, s2, s3⟩ := digit_sum hp hx hy ⟨c0, c1⟩
      have e1 : (i : Int) + (j : Int) = ((i + j : Nat) : Int) := by omega
      have e2 : (j : Int) + 1 = ((j + 1 : Nat) : Int) := by omega
      have hq := ih (j + 1) (out.set (i + j) ((out.getD (i + j) 0 + a.getD i 0 * b.getD j 0 + c) % 65536)) ((out.getD (i + j) 0 + a.getD i 0 * b.getD j 0 + c) / 65536) (by omega) (by simpa using ho) (hd.set _ (by omega)) s2 s3 (by
        rw [val_set _ _ _ _ hidx, val_take_any 65536 b j, ← Nat.add_assoc, pow_succ_, Int.mul_add (a.getD i 0), Int.mul_add (((65536 : Nat) : Int) ^ i), ← Int.add_assoc, ← hv, Int.pow_add]
        have g := Int.emod_add_mul_ediv (out.getD (i + j) 0 + a.getD i 0 * b.getD j 0 + c) 65536
        have g2 : (out.getD (i + j) 0 + a.getD i 0 * b.getD j 0 + c) % 65536 - out.getD (i + j) 0 + ((65536 : Nat) : Int) * ((out.getD (i + j) 0 + a.getD i 0 * b.getD j 0 + c) / 65536) = a.getD i 0 * b.getD j 0 + c := by omega
        have g3 := congrArg (((65536 : Nat) : Int) ^ i * ((65536 : Nat) : Int) ^ j * ·) g2
        simp only [Int.mul_add] at g3
        have g4 : ((65536 : Nat) : Int) ^ i * (a.getD i 0 * (((65536 : Nat) : Int) ^ j * b.getD j 0)) = ((65536 : Nat) : Int) ^ i * ((65536 : Nat) : Int) ^ j * (a.getD i 0 * b.getD j 0) := by
          rw [Int.mul_left_comm (a.getD i 0), Int.mul_assoc]
        have g5 : ((65536 : Nat) : Int) ^ i * ((65536 : Nat) : Int) ^ j * ((65536 : Nat) : Int) * ((out.getD (i + j) 0 + a.getD i 0 * b.getD j 0 + c) / 65536) = ((65536 : Nat) : Int) ^ i * ((65536 : Nat) : Int) ^ j * (((65536 : Nat) : Int) * ((out.getD (i + j) 0 + a.getD i 0 * b.getD j 0 + c) / 65536)) := Int.mul_assoc ..
        rw [g4, g5]
        omega) k (by omega)
      obtain ⟨out', k', h1, h2, h3⟩ := hq
      refine ⟨out', k', by omega, ?_, h3⟩
      rw [← h2]
      clear h2 h3 ih hv htot htlt hV0 hend
      by_cases hjb : j < b.length
      · simp (disch := omega) only [treenailref01_Mul.l1, if_pos, w64, e1, e2, rd_nat, at_spec, Option.bind_some, Int.toNat_natCast, tmod_, tdiv_]
      · simp (disch := omega) only [treenailref01_Mul.l1, if_pos, if_neg, w64, e1, e2, rd_nat, at_spec, Option.bind_some, Int.toNat_natCast, tmod_, tdiv_]
    by_cases hjb : j < b.length
    · exact hgo (.inl hjb) (by omega)
    · rcases Int.lt_or_eq_of_le c0 with hp | he
      · refine hgo (.inr hp) ?_
        rw [List.take_of_length_le (by omega), htot] at hv
        have h1 : ((65536 : Nat) : Int) ^ (i + j) * 1 ≤ ((65536 : Nat) : Int) ^ (i + j) * c := Int.mul_le_mul_of_nonneg_left (by omega) (Int.le_of_lt (pow_pos_ (by omega) _))
        have h2 := val_nonneg hd
        have := pow_lt_inv (show 2 ≤ 65536 by omega) (show ((65536 : Nat) : Int) ^ (i + j) < ((65536 : Nat) : Int) ^ (i + 1 + b.length) by omega)
        omega
      · subst he
        exact hend j out (by omega) ho hd hv k (d + 1) (by omega)
theorem rmul_loop (a b : List Int) (ha : Dig 65536 a) (hb : Dig 65536 b) (la : a.length ≤ 1073741824) (lb : b.length ≤ 1073741824) :
    ∀ (d i : Nat) (out : List Int), i + d = a.length → out.length = a.length + b.length + 1 → Dig 65536 out → val 65536 out = val 65536 (a.take i) * val 65536 b →
      ∀ k : Nat, d * (b.length + 6) + (a.length + b.length + 5) < k → treenailref01_Mul.l0 k a b out (i : Int) = some (digs 65536 (val 65536 a * val 65536 b)) := by
  intro d
  induction d with
  | zero =>
    intro i out hi ho hd hv k hk
    obtain ⟨k, rfl⟩ : ∃ m, k = m + 1 := ⟨k - 1, by omega⟩
    have hn : ¬ ((i : Int) < (a.length : Int)) := by omega
    rw [treenailref01_Mul.l0, if_neg hn, rtrim_spec out hd (by omega) k (by omega), Option.bind_some, hv, val_whole 65536 a i (by omega)]
  | succ d ih =>
    intro i out hi ho hd hv k hk
    obtain ⟨k, rfl⟩ : ∃ m, k = m + 1 := ⟨k - 1, by omega⟩
    have hp : (i : Int) < (a.length : Int) := by omega
    rw [Nat.succ_mul] at hk
    rw [treenailref01_Mul.l0, if_pos hp]
    obtain ⟨out', k', h1, h2, h3, h4, h5⟩ := rmul_inner a b ha hb la lb i (by omega) _ rfl (b.length + 1) 0 out 0 (by omega) ho hd (by omega) (by omega) (by
      rw [hv, List.take_zero]
      show _ = _ + ((65536 : Nat) : Int) ^ i * (a.getD i 0 * 0)
      simp only [Int.mul_zero]) k (by omega)
    rw [show (0 : Int) = ((0 : Nat) : Int) from rfl]
    rw [show ((0 : Nat) : Int) = (0 : Int) from rfl] at h2 ⊢
    rw [h2]
    exact ih (i + 1) out' (by omega) h3 h4 h5 k' (by omega)
theorem rmul_spec (a b : List Int) (ha : Dig 65536 a) (hb : Dig 65536 b) (la : a.length ≤ 1073741824) (lb : b.length ≤ 1073741824) (k : Nat) (hk : a.length * (b.length + 6) + (a.length + b.length + 5) < k) :
    treenailref01_Mul.f k a b = some (digs 65536 (val 65536 a * val 65536 b)) := by
  have e1 : wrap64 (wrap64 ((a.length : Int) + (b.length : Int)) + 1) = ((a.length + b.length + 1 : Nat) : Int) := by rw [w64 (n := (a.length : Int) + (b.length : Int)) (by omega) (by omega), w64 (by omega) (by omega)]; omega
  unfold treenailref01_Mul.f
  rw [e1, if_pos (by omega), Int.toNat_natCast, if_pos (by omega)]
  exact rmul_loop a b ha hb la lb a.length 0 _ (by omega) (by simp) (Dig.reps (by omega) _) (by rw [val_reps, List.take_zero]; show (0 : Int) = 0 * _; rw [Int.zero_mul]) k hk
end Go.Proofs.Ytolflieiipnndaa.X
