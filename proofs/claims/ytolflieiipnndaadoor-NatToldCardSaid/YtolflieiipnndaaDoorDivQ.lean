/- What Go's bits.Div64 computes: quotient and rest of two digits by one. -/
import Derived.Test.YtolflieiipnndaaDoorXP1
import Derived.Test.YtolflieiipnndaaDoorXP2
import Derived.Test.YtolflieiipnndaaDoorXP3
import Derived.Test.YtolflieiipnndaaDoorXP4
import Derived.Test.YtolflieiipnndaaDoorXP5
import Derived.Test.YtolflieiipnndaaDoorMg38
import Derived.Test.YtolflieiipnndaaDoorMg37
import Derived.Test.YtolflieiipnndaaDoorDivP
import Derived.Lib.ItoaNum
namespace Go.Proofs.YtolflieiipnndaaDoor.X
open Go.RowKit Go.Proofs.YtolflieiipnndaaDoor Go.Proofs.YtolflieiipnndaaDoorW.PrintWords Go.Proofs.YtolflieiipnndaaDoorW.PrintLast Go.Proofs.YtolflieiipnndaaDoorW.PrintMore Go.Proofs.YtolflieiipnndaaDoor.Num
set_option linter.unusedVariables false
set_option linter.unusedSimpArgs false
/-- Half a digit's guess q, its rest r: u W + z by Y = a W + b. -/
def HInv (a b u z q r : Int) : Prop := (0 ≤ q ∧ q ≤ 4294967297) ∧ (0 ≤ r ∧ r < 4294967296) ∧ q * a + r = u ∧ (u * 4294967296 + z) / (a * 4294967296 + b) ≤ q
structure HNum (a b u z : Int) : Prop where
  a1 : 2147483648 ≤ a
  a2 : a < 4294967296
  b1 : 0 ≤ b
  b2 : b < 4294967296
  z1 : 0 ≤ z
  z2 : z < 4294967296
  u1 : 0 ≤ u
  u2 : u < a * 4294967296 + b
section
variable {a b u z q r : Int} (N : HNum a b u z)
include N
theorem half_ok (h : HInv a b u z q r) (h1 : q < 4294967296) (h2 : q * b ≤ 4294967296 * r + z) : q = (u * 4294967296 + z) / (a * 4294967296 + b) := by
  obtain ⟨⟨g1, g2⟩, ⟨g3, g4⟩, g5, g6⟩ := h
  obtain ⟨a1, a2, b1, b2, z1, z2, u1, u2⟩ := N
  refine Int.le_antisymm ((Int.le_ediv_iff_mul_le (by omega)).2 ?_) g6
  subst g5
  grind
theorem half_lt : (u * 4294967296 + z) / (a * 4294967296 + b) < 4294967296 := by
  obtain ⟨a1, a2, b1, b2, z1, z2, u1, u2⟩ := N
  exact Int.ediv_lt_of_lt_mul (by omega) (by omega)
theorem half_step (h : HInv a b u z q r) (h1 : 4294967296 ≤ q ∨ 4294967296 * r + z < q * b) : 0 < q ∧ (u * 4294967296 + z) / (a * 4294967296 + b) ≤ q - 1 := by
  have hl := half_lt N
  obtain ⟨⟨g1, g2⟩, ⟨g3, g4⟩, g5, g6⟩ := h
  obtain ⟨a1, a2, b1, b2, z1, z2, u1, u2⟩ := N
  rcases h1 with h1 | h1
  · omega
  · have hq : 0 < q := by
      rcases Int.lt_or_le 0 q with hh | hh
      · exact hh
      · have : q = 0 := by omega
        subst this
        rw [Int.zero_mul] at h1
        omega
    refine ⟨hq, Int.le_sub_one_of_lt (Int.ediv_lt_of_lt_mul (by omega) ?_)⟩
    subst g5
    grind
theorem half_break (h : HInv a b u z q r) (h1 : 4294967296 ≤ q ∨ 4294967296 * r + z < q * b) (h2 : 4294967296 ≤ r + a) : q - 1 = (u * 4294967296 + z) / (a * 4294967296 + b) := by
  obtain ⟨hq, hle⟩ := half_step N h h1
  obtain ⟨⟨g1, g2⟩, ⟨g3, g4⟩, g5, g6⟩ := h
  obtain ⟨a1, a2, b1, b2, z1, z2, u1, u2⟩ := N
  refine Int.le_antisymm ((Int.le_ediv_iff_mul_le (by omega)).2 ?_) hle
  have e : (q - 1) * b ≤ 4294967296 * 4294967295 := Int.mul_le_mul (by omega) (by omega) b1 (by omega)
  have e2 : (q - 1) * a = u - r - a := by subst g5; grind
  have e3 : (q - 1) * (a * 4294967296 + b) = (q - 1) * a * 4294967296 + (q - 1) * b := by grind
  rw [e3, e2]
  omega
theorem half_next (h : HInv a b u z q r) (h1 : 4294967296 ≤ q ∨ 4294967296 * r + z < q * b) (h2 : r + a < 4294967296) : HInv a b u z (q - 1) (r + a) := by
  obtain ⟨hq, hle⟩ := half_step N h h1
  obtain ⟨⟨g1, g2⟩, ⟨g3, g4⟩, g5, g6⟩ := h
  obtain ⟨a1, a2, b1, b2, z1, z2, u1, u2⟩ := N
  exact ⟨⟨by omega, by omega⟩, ⟨by omega, h2⟩, by rw [Int.sub_mul]; omega, hle⟩
theorem half_begin : HInv a b u z (u / a) (u % a) := by
  obtain ⟨a1, a2, b1, b2, z1, z2, u1, u2⟩ := N
  have e := Int.emod_add_mul_ediv u a
  have e0 := Int.emod_nonneg u (show a ≠ 0 by omega)
  have e1 := Int.emod_lt_of_pos u (show 0 < a by omega)
  have e2 := Int.ediv_nonneg u1 (show 0 ≤ a by omega)
  have e3 : u / a < 4294967298 := Int.ediv_lt_of_lt_mul (by omega) (by omega)
  rw [Int.mul_comm] at e
  refine ⟨⟨e2, by omega⟩, ⟨e0, by omega⟩, by omega, ?_⟩
  refine Int.le_of_lt_add_one (Int.ediv_lt_of_lt_mul (by omega) ?_)
  generalize u / a = q at *
  generalize u % a = r at *
  have f1 : 0 ≤ q * b := Int.mul_nonneg e2 b1
  have e4 : (q + 1) * (a * 4294967296 + b) = q * a * 4294967296 + a * 4294967296 + q * b + b := by grind
  rw [e4]
  omega
/-- What the machine reckons stays in 64 bits. -/
theorem half_w (h : HInv a b u z q r) : IntKind.u64.wrap (q * b) = q * b ∧ IntKind.u64.wrap (IntKind.u64.wrap (4294967296 * r) + z) = 4294967296 * r + z ∧ IntKind.u64.wrap (r + a) = r + a ∧ (0 < q → IntKind.u64.wrap (q - 1) = q - 1) := by
  obtain ⟨⟨g1, g2⟩, ⟨g3, g4⟩, g5, g6⟩ := h
  obtain ⟨a1, a2, b1, b2, z1, z2, u1, u2⟩ := N
  have f1 : 0 ≤ q * b := Int.mul_nonneg g1 b1
  have f2 : q * b ≤ 4294967297 * 4294967295 := Int.mul_le_mul (by omega) (by omega) b1 (by omega)
  refine ⟨wu64 f1 (by omega), ?_, wu64 (by omega) (by omega), fun h => wu64 (by omega) (by omega)⟩
  rw [wu64 (n := 4294967296 * r) (by omega) (by omega), wu64 (by omega) (by omega)]
/-- The second loop. -/
theorem div_l1 (Y s q1 : Int) (hs : 0 ≤ s) : ∀ (d : Nat) (q r : Int), q.toNat ≤ d → HInv a b u z q r → ∀ k : Nat, 2 * d + 4 < k →
    bits_Div64.l1 k Y s a b z q1 r u q = some (IntKind.u64.wrap (IntKind.u64.wrap (q1 * 4294967296) + (u * 4294967296 + z) / (a * 4294967296 + b)), shr .u64 (IntKind.u64.wrap (IntKind.u64.wrap (IntKind.u64.wrap (u * 4294967296) + z) - IntKind.u64.wrap ((u * 4294967296 + z) / (a * 4294967296 + b) * Y))) s) := by
  intro d
  induction d with
  | zero =>
    intro q r hq hI k hk
    obtain ⟨k, rfl⟩ : ∃ m, k = m + 1 + 1 := ⟨k - 2, by omega⟩
    obtain ⟨w1, w2, w3, w4⟩ := half_w N hI
    have hq0 : q = 0 := by have := hI.1; omega
    have hn1 : ¬ (q ≥ 4294967296) := by omega
    have hn2 : ¬ (q * b > 4294967296 * r + z) := by
      have := hI.2.1; have := N.z1
      subst hq0; rw [Int.zero_mul]; omega
    have := half_ok N hI (by omega) (by omega)
    rw [bits_Div64.l1, if_neg hn1, w1, w2, decide_eq_false hn2, bits_Div64.j4, if_neg (by decide), if_pos hs, ← this]
  | succ d ih =>
    intro q r hq hI k hk
    obtain ⟨k, rfl⟩ : ∃ m, k = m + 1 + 1 := ⟨k - 2, by omega⟩
    obtain ⟨w1, w2, w3, w4⟩ := half_w N hI
    have step : (4294967296 ≤ q ∨ 4294967296 * r + z < q * b) → bits_Div64.j4 (k + 1) Y s a b z q1 r u q true = some (IntKind.u64.wrap (IntKind.u64.wrap (q1 * 4294967296) + (u * 4294967296 + z) / (a * 4294967296 + b)), shr .u64 (IntKind.u64.wrap (IntKind.u64.wrap (IntKind.u64.wrap (u * 4294967296) + z) - IntKind.u64.wrap ((u * 4294967296 + z) / (a * 4294967296 + b) * Y))) s) := by
      intro ht
      obtain ⟨hq0, hle⟩ := half_step N hI ht
      rw [bits_Div64.j4, if_pos rfl, w3, w4 hq0]
      by_cases hb : r + a ≥ 4294967296
      · rw [if_pos hb, if_pos hs, half_break N hI ht hb]
      · rw [if_neg hb]
        exact ih _ _ (by omega) (half_next N hI ht (by omega)) k (by omega)
    rw [bits_Div64.l1, w1, w2]
    by_cases h1 : q ≥ 4294967296
    · rw [if_pos h1]; exact step (.inl h1)
    · rw [if_neg h1]
      by_cases h2 : q * b > 4294967296 * r + z
      · rw [decide_eq_true h2]; exact step (.inr h2)
      · rw [decide_eq_false h2, bits_Div64.j4, if_neg (by decide), if_pos hs, ← half_ok N hI (by omega) (by omega)]
/-- The first loop. -/
theorem div_l0 (Y s z0 : Int) (R : Int × Int) (K : Nat) (hR : ∀ k : Nat, K < k → bits_Div64.j2 k Y s a b u z z0 ((u * 4294967296 + z) / (a * 4294967296 + b)) = some R) : ∀ (d : Nat) (q r : Int), q.toNat ≤ d → HInv a b u z q r → ∀ k : Nat, 2 * d + K + 4 < k →
    bits_Div64.l0 k Y s a b u z z0 q r = some R := by
  intro d
  induction d with
  | zero =>
    intro q r hq hI k hk
    obtain ⟨k, rfl⟩ : ∃ m, k = m + 1 + 1 := ⟨k - 2, by omega⟩
    obtain ⟨w1, w2, w3, w4⟩ := half_w N hI
    have hq0 : q = 0 := by have := hI.1; omega
    have hn1 : ¬ (q ≥ 4294967296) := by omega
    have hn2 : ¬ (q * b > 4294967296 * r + z) := by
      have := hI.2.1; have := N.z1
      subst hq0; rw [Int.zero_mul]; omega
    have := half_ok N hI (by omega) (by omega)
    rw [bits_Div64.l0, if_neg hn1, w1, w2, decide_eq_false hn2, bits_Div64.j1, if_neg (by decide)]
    rw [← this] at hR
    exact hR k (by omega)
  | succ d ih =>
    intro q r hq hI k hk
    obtain ⟨k, rfl⟩ : ∃ m, k = m + 1 + 1 := ⟨k - 2, by omega⟩
    obtain ⟨w1, w2, w3, w4⟩ := half_w N hI
    have step : (4294967296 ≤ q ∨ 4294967296 * r + z < q * b) → bits_Div64.j1 (k + 1) Y s a b u z z0 q r true = some R := by
      intro ht
      obtain ⟨hq0, hle⟩ := half_step N hI ht
      rw [bits_Div64.j1, if_pos rfl, w3, w4 hq0]
      by_cases hb : r + a ≥ 4294967296
      · rw [if_pos hb, half_break N hI ht hb]
        exact hR k (by omega)
      · rw [if_neg hb]
        exact ih _ _ (by omega) (half_next N hI ht (by omega)) k (by omega)
    rw [bits_Div64.l0, w1, w2]
    by_cases h1 : q ≥ 4294967296
    · rw [if_pos h1]; exact step (.inl h1)
    · rw [if_neg h1]
      by_cases h2 : q * b > 4294967296 * r + z
      · rw [decide_eq_true h2]; exact step (.inr h2)
      · rw [decide_eq_false h2, bits_Div64.j1, if_neg (by decide)]
        have := half_ok N hI (by omega) (by omega)
        rw [← this] at hR
        exact hR k (by omega)
end
/-- Sums and differences in 64 bits, where the whole is one number of 64 bits. -/
theorem wsub (A z C r : Int) (e : A + z - C = r) (h0 : 0 ≤ r) (h1 : r < 18446744073709551616) : IntKind.u64.wrap (IntKind.u64.wrap (IntKind.u64.wrap A + z) - IntKind.u64.wrap C) = r := by
  simp only [IntKind.wrap_u64]
  omega
theorem wsub1 (A C r : Int) (e : A - C = r) (h0 : 0 ≤ r) (h1 : r < 18446744073709551616) : IntKind.u64.wrap (A - IntKind.u64.wrap C) = r := by
  simp only [IntKind.wrap_u64]
  omega
/-- Both loops. -/
theorem div_half2 (a b u z z0 s Y : Int) (N : HNum a b u z) (hz0 : 0 ≤ z0 ∧ z0 < 4294967296) (hs : 0 ≤ s) (hY : Y = a * 4294967296 + b) (K : Nat) (hK : K = 20000000000) (k : Nat) (hk : K < k) :
    ∃ q1 q0 r0 : Int, bits_Div64.l0 k Y s a b u z z0 (u / a) (u % a) = some (q1 * 4294967296 + q0, shr .u64 r0 s) ∧ (0 ≤ q1 ∧ q1 < 4294967296) ∧ (0 ≤ q0 ∧ q0 < 4294967296) ∧ (0 ≤ r0 ∧ r0 < Y) ∧ (u * 4294967296 + z) * 4294967296 + z0 = (q1 * 4294967296 + q0) * Y + r0 := by
  have hY0 : 0 < Y := by have := N.a1; have := N.b1; omega
  have hYb : Y < 18446744073709551616 := by have := N.a2; have := N.b2; omega
  have a1 := N.a1
  have hl := half_lt N
  rw [← hY] at hl
  have x0 : 0 ≤ u * 4294967296 + z := by have := N.u1; have := N.z1; omega
  have l0 : 0 ≤ (u * 4294967296 + z) / Y := Int.ediv_nonneg x0 (by omega)
  have e1 := Int.emod_add_mul_ediv (u * 4294967296 + z) Y
  have r0 := Int.emod_nonneg (u * 4294967296 + z) (show Y ≠ 0 by omega)
  have r1 := Int.emod_lt_of_pos (u * 4294967296 + z) hY0
  rw [Int.mul_comm Y] at e1
  have hB := half_begin N
  have hd := div_l0 N Y s z0
  rw [← hY] at hd
  generalize hv : (u * 4294967296 + z) % Y = v at *
  generalize hq1 : (u * 4294967296 + z) / Y = q1 at *
  have N2 : HNum a b v z0 := ⟨N.a1, N.a2, N.b1, N.b2, hz0.1, hz0.2, r0, by omega⟩
  have hl2 := half_lt N2
  have hB2 := half_begin N2
  rw [← hY] at hl2
  have y0 : 0 ≤ v * 4294967296 + z0 := by omega
  have m0 : 0 ≤ (v * 4294967296 + z0) / Y := Int.ediv_nonneg y0 (by omega)
  have f1 := Int.emod_add_mul_ediv (v * 4294967296 + z0) Y
  have s0 := Int.emod_nonneg (v * 4294967296 + z0) (show Y ≠ 0 by omega)
  have s1 := Int.emod_lt_of_pos (v * 4294967296 + z0) hY0
  rw [Int.mul_comm Y] at f1
  have hl1 := div_l1 N2 Y s q1 hs
  rw [← hY] at hl1
  generalize (v * 4294967296 + z0) % Y = w at *
  generalize (v * 4294967296 + z0) / Y = q0 at *
  have va0 : 0 ≤ v / a := Int.ediv_nonneg r0 (by omega)
  have va1 : v / a ≤ 4294967297 := hB2.1.2
  have ua1 : u / a ≤ 4294967297 := hB.1.2
  have ev := Int.emod_add_mul_ediv v a
  have ev0 := hB2.2.1
  refine ⟨q1, q0, w, hd _ (K - 9000000000) ?_ 4294967297 _ _ (by omega) hB k (by omega), ⟨l0, hl⟩, ⟨m0, hl2⟩, ⟨s0, s1⟩, by grind⟩
  intro k hk
  obtain ⟨k, rfl⟩ : ∃ m, k = m + 1 := ⟨k - 1, by omega⟩
  rw [bits_Div64.j2, if_neg (by omega), wsub (u * 4294967296) z (q1 * Y) v (by omega) r0 (by omega), tdiv_ r0, wu64 va0 (by omega), wsub1 v (v / a * a) (v % a) (by rw [Int.mul_comm]; omega) ev0.1 (by omega)]
  rw [hl1 4294967297 _ _ (by omega) hB2 k (by omega)]
  rw [wu64 (n := q1 * 4294967296) (by omega) (by omega), wu64 (n := q1 * 4294967296 + q0) (by omega) (by omega), wsub (v * 4294967296) z0 (q0 * Y) w (by omega) s0 (by omega)]
theorem lead_bounds (y : Nat) (h0 : 0 < y) (h1 : y < 18446744073709551616) : ∃ s : Nat, s ≤ 63 ∧ bits_LeadingZeros64.f (y : Int) = some (s : Int) ∧ 9223372036854775808 ≤ y * 2 ^ s ∧ y * 2 ^ s < 18446744073709551616 := by
  obtain ⟨g1, g2, g3⟩ := Lib.bitLenAux_bounds 64 y (by omega) (by omega)
  have g4 : Lib.bitLenAux 64 y ≤ 64 := by
    rcases Nat.lt_or_ge 64 (Lib.bitLenAux 64 y) with hh | hh
    · exfalso
      have : 2 ^ 64 ≤ 2 ^ (Lib.bitLenAux 64 y - 1) := Nat.pow_le_pow_right (by omega) (by omega)
      omega
    · exact hh
  refine ⟨64 - Lib.bitLenAux 64 y, by omega, ?_, ?_, ?_⟩
  · unfold bits_LeadingZeros64.f bits_Len64.f
    rw [if_pos (by omega), Option.bind_some, Int.toNat_natCast]
    unfold Lib.bitLen
    rw [w64 (by omega) (by omega)]
    congr 1
    omega
  · generalize Lib.bitLenAux 64 y = n at *
    have e : 2 ^ (n - 1) * 2 ^ (64 - n) = 2 ^ 63 := by rw [← Nat.pow_add]; congr 1; omega
    have := Nat.mul_le_mul_right (2 ^ (64 - n)) g2
    omega
  · generalize Lib.bitLenAux 64 y = n at *
    have e : 2 ^ n * 2 ^ (64 - n) = 2 ^ 64 := by rw [← Nat.pow_add]; congr 1; omega
    have := Nat.mul_lt_mul_of_pos_right g3 (show 0 < 2 ^ (64 - n) from Nat.pow_pos (by omega))
    omega
theorem and_low (x : Int) (h0 : 0 ≤ x) (h1 : x < 18446744073709551616) : Go.bits .and .u64 x 4294967295 = x % 4294967296 := by
  obtain ⟨n, rfl⟩ := Int.eq_ofNat_of_zero_le h0
  rw [show (4294967295 : Int) = ((4294967295 : Nat) : Int) from rfl, u64_and_nat _ _ (by omega) (by decide), show (4294967295 : Nat) = 2 ^ 32 - 1 from rfl, Nat.and_two_pow_sub_one_eq_mod]
  omega
/-- Two digits by one that is greater than the higher one. -/
theorem div64_f (h l y : Nat) (hh : h < y) (hl : l < 18446744073709551616) (hy : y < 18446744073709551616) (K : Nat) (hK : K = 20000000000) (k : Nat) (hk : K < k) :
    bits_Div64.f k (h : Int) (l : Int) (y : Int) = some (((h : Int) * 18446744073709551616 + l) / y, ((h : Int) * 18446744073709551616 + l) % y) := by
  have hy0 : (0 : Int) < (y : Int) := by omega
  unfold bits_Div64.f
  rw [if_neg (by omega), if_neg (by omega)]
  by_cases hz : (h : Int) = 0
  · rw [if_pos hz, hz, Int.zero_mul, Int.zero_add, tdiv_ (by omega), tmod_ (by omega), wu64 (Int.ediv_nonneg (by omega) (by omega)) ?_]
    have : (l : Int) / y ≤ l := Int.ediv_le_self _ (by omega)
    omega
  rw [if_neg hz]
  obtain ⟨s, hs, e1, e2, e3⟩ := lead_bounds y (by omega) hy
  rw [e1, Option.bind_some, wu64 (n := (s : Int)) (by omega) (by omega), wu64 (n := 64 - (s : Int)) (by omega) (by omega), if_pos (by omega), if_pos (by omega)]
  have p0 : 0 < 2 ^ s := Nat.pow_pos (by omega)
  have pp : 2 ^ s * 2 ^ (64 - s) = 18446744073709551616 := by rw [← Nat.pow_add, show s + (64 - s) = 64 from by omega]
  have hY : shl .u64 (y : Int) (s : Int) = ((y * 2 ^ s : Nat) : Int) := shl_eq y s hs e3
  have hhp : h * 2 ^ s + 2 ^ s ≤ y * 2 ^ s := by rw [← Nat.succ_mul]; exact Nat.mul_le_mul_right _ hh
  have hH : shl .u64 (h : Int) (s : Int) = ((h * 2 ^ s : Nat) : Int) := shl_eq h s hs (by omega)
  have hL : shl .u64 (l : Int) (s : Int) = ((l * 2 ^ s % 18446744073709551616 : Nat) : Int) := by
    unfold shl
    rw [Int.toNat_natCast, Nat.min_eq_left (by show s ≤ 64; omega), IntKind.wrap_u64, Int.natCast_emod, Int.natCast_mul, Int.natCast_pow]
    rfl
  have hR : shr .u64 (l : Int) (64 - (s : Int)) = ((l / 2 ^ (64 - s) : Nat) : Int) := by
    unfold shr
    rw [show (64 - (s : Int)).toNat = 64 - s from by omega, Nat.min_eq_left (by show 64 - s ≤ 64; omega), Int.natCast_ediv]
    push_cast
    rfl
  have hlo : l / 2 ^ (64 - s) < 2 ^ s := Nat.div_lt_of_lt_mul (by rw [Nat.mul_comm]; omega)
  have hU : Go.bits .or .u64 ((h * 2 ^ s : Nat) : Int) ((l / 2 ^ (64 - s) : Nat) : Int) = ((h * 2 ^ s + l / 2 ^ (64 - s) : Nat) : Int) := by
    rw [u64_or_nat _ _ (by omega) (by omega), ← Nat.shiftLeft_eq, ← Nat.shiftLeft_add_eq_or_of_lt hlo]
  have hsplit : l * 2 ^ s = l / 2 ^ (64 - s) * 18446744073709551616 + l * 2 ^ s % 18446744073709551616 := by
    have a := Nat.div_add_mod (l * 2 ^ s) 18446744073709551616
    have b : l * 2 ^ s / 18446744073709551616 = l / 2 ^ (64 - s) := by rw [← pp, Nat.mul_comm l, Nat.mul_div_mul_left _ _ p0]
    omega
  have hlm : l * 2 ^ s % 18446744073709551616 < 18446744073709551616 := Nat.mod_lt _ (by decide)
  rw [hY, hH, hL, hR, hU]
  have hmulI : ((h : Int) * 18446744073709551616 + l) * ((2 ^ s : Nat) : Int) = ((h * 2 ^ s + l / 2 ^ (64 - s) : Nat) : Int) * 18446744073709551616 + ((l * 2 ^ s % 18446744073709551616 : Nat) : Int) := by
    have a : (h * 18446744073709551616 + l) * 2 ^ s = (h * 2 ^ s + l / 2 ^ (64 - s)) * 18446744073709551616 + l * 2 ^ s % 18446744073709551616 := by
      rw [Nat.add_mul, Nat.add_mul, Nat.mul_right_comm]; omega
    have a2 := congrArg (fun n : Nat => (n : Int)) a
    simp only [Int.natCast_mul, Int.natCast_add] at a2
    simp only [Int.natCast_mul, Int.natCast_add]
    exact a2
  have hYI : ((y * 2 ^ s : Nat) : Int) = (y : Int) * ((2 ^ s : Nat) : Int) := Int.natCast_mul ..
  have hpI : (0 : Int) < ((2 ^ s : Nat) : Int) := by omega
  have hshr : ∀ r : Int, shr .u64 r (s : Int) = r / ((2 ^ s : Nat) : Int) := by
    intro r
    unfold shr
    rw [Int.toNat_natCast, Nat.min_eq_left (by show s ≤ 64; omega), Int.natCast_pow]
    rfl
  have hu2 : h * 2 ^ s + l / 2 ^ (64 - s) < y * 2 ^ s := by omega
  clear hY hH hL hR hU hsplit e1 hhp hlo
  generalize y * 2 ^ s = Y at *
  generalize h * 2 ^ s + l / 2 ^ (64 - s) = u at *
  generalize l * 2 ^ s % 18446744073709551616 = m at *
  generalize ((2 ^ s : Nat) : Int) = p at *
  have u0 : (0 : Int) ≤ (u : Int) := by omega
  have a1 : (2147483648 : Int) ≤ (Y : Int) / 4294967296 := by omega
  have ed := Int.emod_add_mul_ediv (u : Int) ((Y : Int) / 4294967296)
  have q0 := Int.ediv_nonneg u0 (show (0 : Int) ≤ (Y : Int) / 4294967296 by omega)
  have r0 := Int.emod_nonneg (u : Int) (show (Y : Int) / 4294967296 ≠ 0 by omega)
  have r1 := Int.emod_lt_of_pos (u : Int) (show 0 < (Y : Int) / 4294967296 by omega)
  have N : HNum ((Y : Int) / 4294967296) ((Y : Int) % 4294967296) (u : Int) ((m : Int) / 4294967296) := ⟨a1, by omega, by omega, by omega, by omega, by omega, u0, by omega⟩
  have qb := (half_begin N).1.2
  obtain ⟨q1, q2, r, g1, g2, g3, g4, g5⟩ := div_half2 _ _ _ _ ((m : Int) % 4294967296) (s : Int) (Y : Int) N ⟨by omega, by omega⟩ (by omega) (by omega) K hK k hk
  rw [if_neg (by omega), and_low _ (by omega) (by omega), and_low _ (by omega) (by omega), tdiv_ u0, wu64 (n := (u : Int) / ((Y : Int) / 4294967296)) q0 (by omega),
    wsub1 (u : Int) ((u : Int) / ((Y : Int) / 4294967296) * ((Y : Int) / 4294967296)) ((u : Int) % ((Y : Int) / 4294967296)) (by rw [Int.mul_comm]; omega) r0 (by omega), g1, hshr]
  have key : ((h : Int) * 18446744073709551616 + l) * p = (q1 * 4294967296 + q2) * (y * p) + r := by
    rw [hmulI, ← hYI, ← g5]
    omega
  generalize q1 * 4294967296 + q2 = Q at *
  generalize (h : Int) * 18446744073709551616 + l = x at *
  have k2 : r = (x - Q * y) * p := by grind
  have k3 : 0 ≤ x - Q * y := by
    rcases Int.lt_or_le (x - Q * y) 0 with hh | hh
    · have := Int.mul_lt_mul_of_pos_right hh hpI
      omega
    · exact hh
  have k4 : x - Q * y < y := by
    rcases Int.lt_or_le (x - Q * y) y with hh | hh
    · exact hh
    · have := Int.mul_le_mul_of_nonneg_right hh (Int.le_of_lt hpI)
      omega
  obtain ⟨d1, d2⟩ := quot_of (u := x) (v := (y : Int)) (q := Q) hy0 (by rw [Int.add_mul]; omega) (by omega)
  rw [d1, d2, k2, Int.mul_ediv_cancel _ (by omega)]
end Go.Proofs.YtolflieiipnndaaDoor.X
