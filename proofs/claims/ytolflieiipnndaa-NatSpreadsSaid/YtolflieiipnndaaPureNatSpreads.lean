/- NatSpreads: the law's call answers true. -/
import Derived.Test.YtolflieiipnndaaWalkNatSpreads
namespace Go.Proofs.Ytolflieiipnndaa.Pure
open Go.RowKit Go.Proofs.Ytolflieiipnndaa Go.Proofs.Ytolflieiipnndaa.X Go.Proofs.YtolflieiipnndaaW.PrintWords Go.Proofs.YtolflieiipnndaaW.PrintLast Go.Proofs.YtolflieiipnndaaW.PrintMore Go.Proofs.Ytolflieiipnndaa.Num
set_option linter.unusedVariables false
theorem natSpreads_walk (a0 : Option Addr) (len0 cap0 : Nat) (z0 : List Int) (a1 : Option Addr) (len1 cap1 : Nat) (z1 : List Int) (a2 : Option Addr) (len2 cap2 : Nat) (z2 : List Int) (w : World)
    (w0 : (a0 = none ∧ len0 = 0 ∧ cap0 = 0 ∧ z0 = []) ∨ ∃ x, a0 = some x ∧ len0 ≤ cap0 ∧ cap0 ≤ maxLen ∧ z0.length = cap0 ∧ (∀ i, i < z0.length → w.cell? (x.add i) = some (.int .u64 (z0.getD i 0))) ∧ ∀ n ∈ z0, (Lit.int .u64 n).wf = true) (y0 : len0 * 8 ≤ 140737488351232)
    (w1 : (a1 = none ∧ len1 = 0 ∧ cap1 = 0 ∧ z1 = []) ∨ ∃ x, a1 = some x ∧ len1 ≤ cap1 ∧ cap1 ≤ maxLen ∧ z1.length = cap1 ∧ (∀ i, i < z1.length → w.cell? (x.add i) = some (.int .u64 (z1.getD i 0))) ∧ ∀ n ∈ z1, (Lit.int .u64 n).wf = true) (y1 : len1 * 8 ≤ 140737488351232)
    (w2 : (a2 = none ∧ len2 = 0 ∧ cap2 = 0 ∧ z2 = []) ∨ ∃ x, a2 = some x ∧ len2 ≤ cap2 ∧ cap2 ≤ maxLen ∧ z2.length = cap2 ∧ (∀ i, i < z2.length → w.cell? (x.add i) = some (.int .u64 (z2.getD i 0))) ∧ ∀ n ∈ z2, (Lit.int .u64 n).wf = true) (y2 : len2 * 8 ≤ 140737488351232) :
    Calls Try.prog 8 #[.slice a0 len0 cap0, .slice a1 len1 cap1, .slice a2 len2 cap2] w fun e w' => e = .returned (.bool true) ∧ Below w.heap.size w w' := by
  obtain ⟨a, rfl, hr0, hm0, hw0, hc0⟩ := ReadsInt.ofRowC w0
  obtain ⟨b, rfl, hr1, hm1, hw1, hc1⟩ := ReadsInt.ofRowC w1
  obtain ⟨c, rfl, hr2, hm2, hw2, hc2⟩ := ReadsInt.ofRowC w2
  have ra := rd_of_C (Kd.C_of_reads (d := (0 : Int)) (h1 := fun _ => rfl) hr0) hc0
  have rb := rd_of_C (Kd.C_of_reads (d := (0 : Int)) (h1 := fun _ => rfl) hr1) hc1
  have rc := rd_of_C (Kd.C_of_reads (d := (0 : Int)) (h1 := fun _ => rfl) hr2) hc2
  have da := dig_of hw0
  have db := dig_of hw1
  have dc := dig_of hw2
  obtain ⟨K, hK⟩ : ∃ K, K = 4 * (a.length + b.length + c.length) + 1000000 := ⟨_, rfl⟩
  have la := limbs_spec a da (by omega) K (by omega)
  have lb := limbs_spec b db (by omega) K (by omega)
  have lc := limbs_spec c dc (by omega) K (by omega)
  by_cases hl : 15 < dlen a ∨ 15 < dlen b ∨ 15 < dlen c
  · exact spreads_long a0 a1 a2 cap0 cap1 cap2 a b c w ra rb rc K _ _ _ la lb lc (by omega)
  · have ha : dlen a ≤ 15 := by omega
    have hb : dlen b ≤ 15 := by omega
    have hc : dlen c ≤ 15 := by omega
    have na : Nm a (val 18446744073709551616 a) := ⟨da, rfl, by omega, by omega⟩
    have nb : Nm b (val 18446744073709551616 b) := ⟨db, rfl, by omega, by omega⟩
    have nc : Nm c (val 18446744073709551616 c) := ⟨dc, rfl, by omega, by omega⟩
    have A0 := val_nonneg da
    have B0 := val_nonneg db
    have C0 := val_nonneg dc
    have A1 := (digs_len (show 2 ≤ 18446744073709551616 by decide) 15 _ A0).1 ha
    have B1 := (digs_len (show 2 ≤ 18446744073709551616 by decide) 15 _ B0).1 hb
    have C1 := (digs_len (show 2 ≤ 18446744073709551616 by decide) 15 _ C0).1 hc
    generalize val 18446744073709551616 a = x at *
    generalize val 18446744073709551616 b = y at *
    generalize val 18446744073709551616 c = z at *
    obtain ⟨M, hM⟩ : ∃ M : Int, M = ((18446744073709551616 : Nat) : Int) ^ 15 := ⟨_, rfl⟩
    have hM0 : 0 < M := by rw [hM]; exact pow_pos_ (by decide) 15
    have hBig : 4 * (M * M) < ((18446744073709551616 : Nat) : Int) ^ 64 := by rw [hM]; decide
    have hBig2 : M ≤ M * M := by
      have := Int.mul_le_mul_of_nonneg_left (show 1 ≤ M by omega) (Int.le_of_lt hM0)
      rwa [Int.mul_one] at this
    rw [← hM] at A1 B1 C1
    clear hM hl la lb lc
    have P : ∀ p q : Int, 0 ≤ p → 0 ≤ q → p ≤ 2 * M → q ≤ 2 * M → 0 ≤ p * q ∧ p * q ≤ 4 * (M * M) := fun p q h1 h2 h3 h4 => by
      refine ⟨Int.mul_nonneg h1 h2, ?_⟩
      have := Int.mul_le_mul h3 h4 h2 (by omega)
      have e : 2 * M * (2 * M) = 4 * (M * M) := by grind
      omega
    have P1 : ∀ p q : Int, 0 ≤ p → 0 ≤ q → p < M → q < M → 0 ≤ p * q ∧ p * q ≤ M * M := fun p q h1 h2 h3 h4 => ⟨Int.mul_nonneg h1 h2, Int.mul_le_mul (Int.le_of_lt h3) (Int.le_of_lt h4) h2 (Int.le_of_lt hM0)⟩
    have P2 : ∀ p q : Int, 0 ≤ p → 0 ≤ q → p < M → q ≤ 2 * M → 0 ≤ p * q ∧ p * q ≤ 2 * (M * M) := fun p q h1 h2 h3 h4 => by
      refine ⟨Int.mul_nonneg h1 h2, ?_⟩
      have := Int.mul_le_mul (Int.le_of_lt h3) h4 h2 (Int.le_of_lt hM0)
      have e : M * (2 * M) = 2 * (M * M) := by grind
      omega
    obtain ⟨xy0, xy1⟩ := P1 x y A0 B0 A1 B1
    obtain ⟨xz0, xz1⟩ := P1 x z A0 C0 A1 C1
    obtain ⟨xx0, xx1⟩ := P1 x x A0 A0 A1 A1
    obtain ⟨yy0, yy1⟩ := P1 y y B0 B0 B1 B1
    obtain ⟨xs0, xs1⟩ := P2 x (y + z) A0 (by omega) A1 (by omega)
    obtain ⟨tt0, tt1⟩ := P (x + y) (x + y) (by omega) (by omega) (by omega) (by omega)
    have nS := Nm.of (n := y + z) (by omega) (by omega)
    have nP := Nm.of xs0 (by omega)
    have nX := Nm.of xy0 (by omega)
    have nY := Nm.of xz0 (by omega)
    have nQ := Nm.of (n := x * y + x * z) (by omega) (by omega)
    have nT := Nm.of (n := x + y) (by omega) (by omega)
    have nU := Nm.of tt0 (by omega)
    have nD := Nm.of xx0 (by omega)
    have nE := Nm.of yy0 (by omega)
    have nV := Nm.of (n := x * x + y * y) (by omega) (by omega)
    have nW := Nm.of (n := x * y + x * y) (by omega) (by omega)
    have L : ∀ {l : List Int} {n : Int}, Nm (digs 18446744073709551616 n) n → (digs 18446744073709551616 n).length ≤ 64 := fun {l n} h => by
      have := h.short
      unfold dlen at this
      rwa [h.val_] at this
    have lS := L (l := []) nS
    have lP := L (l := []) nP
    have lX := L (l := []) nX
    have lY := L (l := []) nY
    have lT := L (l := []) nT
    have lU := L (l := []) nU
    have lD := L (l := []) nD
    have lE := L (l := []) nE
    have lV := L (l := []) nV
    have lW := L (l := []) nW
    have la := limbs_spec a da (by omega) K (by omega)
    have lb := limbs_spec b db (by omega) K (by omega)
    have lc := limbs_spec c dc (by omega) K (by omega)
    have sa := na.short
    refine spreads_short a0 a1 a2 cap0 cap1 cap2 a b c _ _ _ _ _ _ _ _ _ _ _ _ w ra rb rc K _ _ _ la lb lc (by omega) (by omega) (by omega)
      (add_nm nb nc K (by omega)) (mul_nm na nS K (by omega)) (mul_nm na nb K (by omega)) (mul_nm na nc K (by omega)) (add_nm nX nY K (by omega)) (same_nm ?_ (by omega) K (by omega))
      (add_nm na nb K (by omega)) (mul_nm nT nT K (by omega)) (mul_nm na na K (by omega)) (mul_nm nb nb K (by omega)) (add_nm nD nE K (by omega)) (add_nm nX nX K (by omega)) (add_nm nV nW K (by omega)) (same_nm ?_ (by omega) K (by omega))
    · rw [Int.mul_add]
    · congr 1
      grind
end Go.Proofs.Ytolflieiipnndaa.Pure
