/- What the printed functions compute: the bytes of numbers. -/
import Derived.Test.YtolflieiipnndaaDoorMg38
namespace Go.Proofs.YtolflieiipnndaaDoor.X
open Go.RowKit Go.Proofs.YtolflieiipnndaaDoor Go.Proofs.YtolflieiipnndaaDoorW.PrintWords Go.Proofs.YtolflieiipnndaaDoorW.PrintLast Go.Proofs.YtolflieiipnndaaDoorW.PrintMore Go.Proofs.YtolflieiipnndaaDoor.Num
set_option linter.unusedVariables false
set_option linter.unusedSimpArgs false
/-- The last i of a number's n bytes, the highest first. -/
def bts (N n i : Nat) : List Int := (List.range n).map fun p => if n ≤ p + i then ((N / 2 ^ (8 * (n - 1 - p)) % 2 ^ 8 : Nat) : Int) else 0
theorem bts_len (N n i : Nat) : (bts N n i).length = n := by simp [bts]
theorem bts_zero (N n : Nat) : bts N n 0 = List.replicate n 0 := by
  apply List.ext_getElem
  · simp [bts]
  · intro p h1 h2
    simp only [bts, List.length_map, List.length_range] at h1
    simp only [bts, List.getElem_map, List.getElem_range, List.getElem_replicate]
    rw [if_neg (by omega)]
theorem bts_step (N n i : Nat) (h : i < n) : (bts N n i).set (n - 1 - i) ((N / 2 ^ (8 * i) % 2 ^ 8 : Nat) : Int) = bts N n (i + 1) := by
  apply List.ext_getElem
  · simp [bts]
  · intro p h1 h2
    simp only [bts, List.length_map, List.length_range] at h2
    rw [List.getElem_set]
    simp only [bts, List.getElem_map, List.getElem_range]
    by_cases he : n - 1 - i = p
    · rw [if_pos he, if_pos (by omega), show n - 1 - p = i by omega]
    · rw [if_neg he]
      by_cases hp : n ≤ p + i
      · rw [if_pos hp, if_pos (by omega)]
      · rw [if_neg hp, if_neg (by omega)]
theorem bts_skip (N n i : Nat) (h : i < n) (hz : N / 2 ^ (8 * i) % 2 ^ 8 = 0) : bts N n i = bts N n (i + 1) := by
  apply List.ext_getElem
  · simp [bts]
  · intro p h1 h2
    simp only [bts, List.length_map, List.length_range] at h2
    simp only [bts, List.getElem_map, List.getElem_range]
    by_cases he : n - 1 - i = p
    · rw [if_neg (by omega), if_pos (by omega), show n - 1 - p = i by omega, hz]; rfl
    · by_cases hp : n ≤ p + i
      · rw [if_pos hp, if_pos (by omega)]
      · rw [if_neg hp, if_neg (by omega)]
/-- The bytes of the number that bytes tell are those bytes. -/
theorem bts_be (l : List Int) (h : Dig 256 l) : bts (be l).toNat l.length l.length = l := by
  apply List.ext_getElem
  · simp [bts]
  · intro p h1 h2
    simp only [bts, List.getElem_map, List.getElem_range]
    rw [if_pos (by omega)]
    have hd := digit_nat 8 256 rfl (by omega) (dig_rev h) (l.length - 1 - p)
    rw [rev_at l _ (by omega), show l.length - 1 - (l.length - 1 - p) = p by omega, List.getD_eq_getElem?_getD, List.getElem?_eq_getElem h2, Option.getD_some] at hd
    rw [hd]
    rfl
theorem byte_in (w n q r : Nat) (h : 8 * r + 8 ≤ w) : n / 2 ^ (w * q) % 2 ^ w / 2 ^ (8 * r) % 2 ^ 8 = n / 2 ^ (w * q + 8 * r) % 2 ^ 8 := by
  apply Nat.eq_of_testBit_eq
  intro j
  simp only [Nat.testBit_mod_two_pow, Nat.testBit_div_two_pow]
  by_cases hj : j < 8
  · have h1 : j + 8 * r < w := by omega
    simp only [hj, h1, decide_true, Bool.true_and]
    congr 1
    omega
  · simp [hj]
theorem byte_of (w B : Nat) (hB : B = 2 ^ w) (hw : 1 ≤ w) (l : List Int) (h : Dig B l) (q r : Nat) (hr : 8 * r + 8 ≤ w) : ∃ x : Nat, l.getD q 0 = (x : Int) ∧ x / 2 ^ (8 * r) % 2 ^ 8 = (val B l).toNat / 2 ^ (w * q + 8 * r) % 2 ^ 8 ∧ x < 2 ^ w :=
  ⟨_, digit_nat w B hB hw h q, byte_in w _ q r hr, Nat.mod_lt _ (Nat.pow_pos (by omega))⟩
theorem bytes_idx (n i : Nat) (h : i < n) (hn : n ≤ 1024) :
    wrap64 (Int.tdiv (i : Int) 8) = ((i / 8 : Nat) : Int) ∧ wrap64 (wrap64 ((n : Int) - 1) - (i : Int)) = ((n - 1 - i : Nat) : Int) ∧ wrap64 (8 * Int.tmod (i : Int) 8) = ((8 * (i % 8) : Nat) : Int) ∧ wrap64 ((i : Int) + 1) = ((i + 1 : Nat) : Int) ∧
      (0 : Int) ≤ ((i / 8 : Nat) : Int) ∧ (0 : Int) ≤ ((n - 1 - i : Nat) : Int) ∧ ((n - 1 - i : Nat) : Int) < (n : Int) ∧ (0 : Int) ≤ ((8 * (i % 8) : Nat) : Int) := by
  refine ⟨?_, ?_, ?_, ?_, by omega, by omega, by omega, by omega⟩
  · rw [tdiv_ (by omega), w64 (by omega) (by omega)]; omega
  · rw [w64 (n := (n : Int) - 1) (by omega) (by omega), w64 (by omega) (by omega)]; omega
  · rw [tmod_ (by omega), w64 (by omega) (by omega)]; omega
  · rw [w64 (by omega) (by omega)]; omega
theorem shr_byte (x r : Nat) (hr : r < 8) : shr .u64 (x : Int) ((8 * r : Nat) : Int) % 256 = ((x / 2 ^ (8 * r) % 2 ^ 8 : Nat) : Int) := by
  have hs : shr .u64 (x : Int) ((8 * r : Nat) : Int) = ((x / 2 ^ (8 * r) : Nat) : Int) := by
    unfold shr
    rw [Int.toNat_natCast, Nat.min_eq_left (by show 8 * r ≤ 64; omega), Int.natCast_ediv]
    push_cast
    rfl
  rw [hs, Int.natCast_emod]
  rfl
theorem bytes_loop (l : List Int) (h : Dig 18446744073709551616 l) (n : Nat) (hn : n ≤ 1024) (N : Nat) (hN : N = (val 18446744073709551616 l).toNat) (m : Int) (hm : m = (n : Int)) : ∀ (d i : Nat), i + d = n →
    ∀ k : Nat, d < k → nat_Bytes.l0 k l (n : Int) (bts N n i) m (i : Int) = some (bts N n n, none) := by
  intro d
  induction d with
  | zero =>
    intro i hi k hk
    obtain ⟨k, rfl⟩ : ∃ m, k = m + 1 := ⟨k - 1, by omega⟩
    have hneg : ¬ ((i : Int) < m) := by clear hN; omega
    rw [nat_Bytes.l0, if_neg hneg, show i = n by clear hN; omega]
  | succ d ih =>
    intro i hi k hk
    obtain ⟨k, rfl⟩ : ∃ m, k = m + 1 := ⟨k - 1, by omega⟩
    have hp : (i : Int) < m := by clear hN; omega
    have q3 : i < n := by clear hN; omega
    have q5 : i + 1 + d = n := by clear hN; omega
    have q6 : d < k := by clear hN; omega
    have hr : 8 * (i % 8) + 8 ≤ 64 := by clear hN; omega
    have hr8 : i % 8 < 8 := Nat.mod_lt _ (by decide)
    have hi8 : 64 * (i / 8) + 8 * (i % 8) = 8 * i := by clear hN; omega
    obtain ⟨e1, e2, e3, e4, g1, g3, g4, g5⟩ := bytes_idx n i q3 hn
    obtain ⟨x, x1, x2, x3⟩ := byte_of 64 18446744073709551616 rfl (by decide) l h (i / 8) (i % 8) hr
    rw [hi8, ← hN] at x2
    rw [nat_Bytes.l0, if_pos hp, e1]
    by_cases hq : ((i / 8 : Nat) : Int) < (l.length : Int)
    · rw [if_pos hq, if_pos g1, e3, if_pos g5, e2, if_pos g3, bts_len, if_pos g4, rd_nat, x1, shr_byte x _ hr8, x2, Int.toNat_natCast, bts_step N n i q3, e4]
      exact ih (i + 1) q5 k q6
    · have hz : l.getD (i / 8) 0 = 0 := by
        have : l.length ≤ i / 8 := by clear hN x2 e1 e2 e3 e4; omega
        simp [List.getD_eq_getElem?_getD, List.getElem?_eq_none this]
      have hx0 : x = 0 := by rw [hz] at x1; exact (Int.ofNat_eq_zero.1 x1.symm)
      rw [hx0, Nat.zero_div, Nat.zero_mod] at x2
      rw [if_neg hq, bts_skip N n i q3 x2.symm, e4]
      exact ih (i + 1) q5 k q6
theorem bytes_bad (l : List Int) (a : Int) (h : a < 0 ∨ 1024 < a) (k : Nat) (hk : 0 < k) : nat_Bytes.f k l a = some ([], some 1) := by
  obtain ⟨k, rfl⟩ : ∃ m, k = m + 1 := ⟨k - 1, by omega⟩
  unfold nat_Bytes.f
  by_cases h0 : a < 0
  · rw [if_pos h0, nat_Bytes.j0, if_pos rfl]
  · have h1 : decide (a > 1024) = true := by simp; omega
    rw [if_neg h0, h1, nat_Bytes.j0, if_pos rfl]
theorem bytes_spec (l : List Int) (h : Dig 18446744073709551616 l) (hl : l.length ≤ 4096) (n : Nat) (hn : n ≤ 1024) (K : Nat) (hK : K = 6000) (k : Nat) (hk : K < k) :
    nat_Bytes.f k l (n : Int) = if nbits (val 18446744073709551616 l) ≤ 8 * n then some (bts (val 18446744073709551616 l).toNat n n, none) else some ([], some 2) := by
  obtain ⟨k, rfl⟩ : ∃ m, k = m + 1 := ⟨k - 1, by omega⟩
  have h0 : ¬ ((n : Int) < 0) := by omega
  have h1 : decide ((n : Int) > 1024) = false := by simp; omega
  have e1 : wrap64 (8 * (n : Int)) = ((8 * n : Nat) : Int) := by rw [w64 (by omega) (by omega)]; omega
  have h2 : (0 : Int) ≤ (n : Int) := by omega
  have h3 : n ≤ 281474976710656 := by omega
  have h4 : l.length ≤ 17592186044415 := by omega
  have h5 : l.length < k := by omega
  have h6 : n < k := by omega
  unfold nat_Bytes.f
  rw [if_neg h0, h1, nat_Bytes.j0, if_neg (by decide), bits_spec l h h4 k h5, Option.bind_some, e1]
  by_cases hb : nbits (val 18446744073709551616 l) ≤ 8 * n
  · have hb2 : ¬ (((nbits (val 18446744073709551616 l) : Nat) : Int) > ((8 * n : Nat) : Int)) := by
      generalize nbits (val 18446744073709551616 l) = Z at *
      omega
    rw [if_neg hb2, if_pos h2, Int.toNat_natCast, if_pos h3, if_pos hb, ← bts_zero (val 18446744073709551616 l).toNat n]
    exact bytes_loop l h n hn _ rfl _ rfl n 0 (by rw [Nat.zero_add]) k h6
  · have hb2 : (((nbits (val 18446744073709551616 l) : Nat) : Int) > ((8 * n : Nat) : Int)) := by
      generalize nbits (val 18446744073709551616 l) = Z at *
      omega
    rw [if_pos hb2, if_neg hb]
theorem rbytes_idx (n i : Nat) (h : i < n) (hn : n ≤ 1024) :
    wrap64 (Int.tdiv (i : Int) 2) = ((i / 2 : Nat) : Int) ∧ wrap64 (wrap64 ((n : Int) - 1) - (i : Int)) = ((n - 1 - i : Nat) : Int) ∧ Int.tmod (i : Int) 2 = ((i % 2 : Nat) : Int) ∧ wrap64 ((i : Int) + 1) = ((i + 1 : Nat) : Int) ∧
      (0 : Int) ≤ ((n - 1 - i : Nat) : Int) ∧ ((n - 1 - i : Nat) : Int) < (n : Int) := by
  refine ⟨?_, ?_, ?_, ?_, by omega, by omega⟩
  · rw [tdiv_ (by omega), w64 (by omega) (by omega)]; omega
  · rw [w64 (n := (n : Int) - 1) (by omega) (by omega), w64 (by omega) (by omega)]; omega
  · rw [tmod_ (by omega)]; omega
  · rw [w64 (by omega) (by omega)]; omega
theorem rbyte_hi (x : Nat) (h : x < 65536) : Int.tmod (wrap64 (Int.tdiv (x : Int) 256)) 256 % 256 = ((x / 2 ^ (8 * 1) % 2 ^ 8 : Nat) : Int) := by
  rw [tdiv_ (by omega), w64 (by omega) (by omega), tmod_ (by omega)]; omega
theorem rbyte_lo (x : Nat) (h : x < 65536) : Int.tmod (x : Int) 256 % 256 = ((x / 2 ^ (8 * 0) % 2 ^ 8 : Nat) : Int) := by
  rw [tmod_ (by omega)]; omega
end Go.Proofs.YtolflieiipnndaaDoor.X
