/- Joined: NumC, NumS. -/
import Derived.Test.YtolflieiipnndaaNumB
import Derived.Test.YtolflieiipnndaaXP6
import Derived.Laws.BitsAllLaws
import Derived.Test.YtolflieiipnndaaMg23
/- What the printed functions compute: without noughts, how many bits, which. -/
namespace Go.Proofs.Ytolflieiipnndaa.X
open Go.RowKit Go.Proofs.Ytolflieiipnndaa Go.Proofs.YtolflieiipnndaaW.PrintWords Go.Proofs.YtolflieiipnndaaW.PrintLast Go.Proofs.YtolflieiipnndaaW.PrintMore Go.Proofs.Ytolflieiipnndaa.Num
set_option linter.unusedVariables false
set_option linter.unusedSimpArgs false
theorem norm_spec (l : List Int) (h : Dig 18446744073709551616 l) (hl : l.length ≤ 17592186044415) (k : Nat) (hk : l.length < k) : nat_Norm.f k l = some (digs 18446744073709551616 (val 18446744073709551616 l)) := by
  unfold nat_Norm.f
  have := dlen_le l h
  rw [trim_spec l h (by omega) k hk]
  simp only [Option.bind_some]
  unfold api_Nat_uint64.f
  unfold dlen at this
  rw [if_pos (by omega)]
  rfl
/-! ### how many bits -/
def nbits (n : Int) : Nat := (digs 2 n).length
theorem nbits_le (n : Int) (h : 0 ≤ n) (m : Nat) : nbits n ≤ m ↔ n < 2 ^ m := digs_len (B := 2) (by omega) m n h
theorem nbits_zero : nbits 0 = 0 := rfl
theorem nbits_step {n : Int} (h : 0 < n) : nbits n = nbits (n / 2) + 1 := by
  unfold nbits
  rw [digs_pos (by omega) h]
  rfl
theorem bitLenAux_eq : ∀ (f x : Nat), x < 2 ^ f → Lib.bitLenAux f x = nbits (x : Int) := by
  intro f
  induction f with
  | zero => intro x h; obtain rfl : x = 0 := by simpa using h
            rfl
  | succ f ih =>
    intro x h
    simp only [Lib.bitLenAux]
    split
    · rename_i h0; subst h0; rfl
    · rw [nbits_step (by omega), ih (x / 2) (by rw [Nat.pow_succ] at h; omega)]
      have : ((x / 2 : Nat) : Int) = (x : Int) / 2 := by omega
      rw [this]; omega
theorem len64_eq {x : Int} (h0 : 0 ≤ x) (h1 : x < 18446744073709551616) : bits_Len64.f x = some (nbits x : Int) := by
  unfold bits_Len64.f
  rw [if_pos ⟨h0, by omega⟩]
  unfold Lib.bitLen
  rw [bitLenAux_eq 64 x.toNat (by omega), Int.toNat_of_nonneg h0]
/-- The bits of a number, by its highest digit. -/
theorem nbits_top (w : Nat) (B : Nat) (hB : B = 2 ^ w) (hw : 1 ≤ w) {n : Int} (hn : 0 < n) : 0 < (digs B n).length ∧ 0 < (digs B n).getD ((digs B n).length - 1) 0 ∧ nbits n = w * ((digs B n).length - 1) + nbits ((digs B n).getD ((digs B n).length - 1) 0) := by
  have hB2 : 2 ≤ B := by
    have := Nat.pow_le_pow_right (show 0 < 2 by omega) hw
    omega
  have hp : 0 < (digs B n).length := (digs_len_lt hB2 0 n (by omega)).2 (by rw [Int.pow_zero]; omega)
  obtain ⟨L, hL⟩ : ∃ L, (digs B n).length = L + 1 := ⟨(digs B n).length - 1, by omega⟩
  have h1 := (digs_len hB2 (L + 1) n (by omega)).1 (by omega)
  have h2 := (digs_len_lt hB2 L n (by omega)).1 (by omega)
  have hP := pow_pos_ (show 0 < B by omega) L
  have ht : (digs B n).getD L 0 = n / (B : Int) ^ L := by
    rw [digs_at hB2 (by omega), Int.emod_eq_of_lt (Int.ediv_nonneg (by omega) (by omega))]
    rw [pow_succ_] at h1
    exact Int.ediv_lt_of_lt_mul hP (by rw [Int.mul_comm]; exact h1)
  have htp : 0 < n / (B : Int) ^ L := by
    rcases Int.lt_or_le 0 (n / (B : Int) ^ L) with h | h
    · exact h
    · have h3 := Int.ediv_nonneg (show (0 : Int) ≤ n by omega) (Int.le_of_lt hP)
      have h4 := Int.emod_add_mul_ediv n ((B : Int) ^ L)
      have h5 := Int.emod_lt_of_pos n hP
      rw [show n / (B : Int) ^ L = 0 by omega, Int.mul_zero] at h4
      omega
  rw [hL, Nat.add_sub_cancel, ht]
  refine ⟨by omega, htp, ?_⟩
  have hpw : (B : Int) ^ L = 2 ^ (w * L) := by
    rw [hB, Int.pow_mul]; push_cast; rfl
  generalize hq : n / (B : Int) ^ L = t at *
  have h4 := Int.emod_add_mul_ediv n ((B : Int) ^ L)
  have h5 := Int.emod_lt_of_pos n hP
  have h6 := Int.emod_nonneg n (show (B : Int) ^ L ≠ 0 by omega)
  rw [hq] at h4
  have hle : nbits n ≤ w * L + nbits t := by
    refine (nbits_le n (by omega) _).2 ?_
    have ht2 := (nbits_le t (by omega) _).1 (Nat.le_refl _)
    have := Int.mul_le_mul_of_nonneg_left (show t + 1 ≤ 2 ^ nbits t by omega) (Int.le_of_lt hP)
    rw [Int.mul_add, Int.mul_one] at this
    rw [Int.pow_add, ← hpw]
    omega
  have hge : w * L + nbits t ≤ nbits n := by
    obtain ⟨m, hm⟩ : ∃ m, nbits t = m + 1 := ⟨nbits t - 1, by
      have := nbits_step htp
      omega⟩
    have ht2 : (2 : Int) ^ m ≤ t := by
      have := nbits_le t (by omega) m
      omega
    have h7 := Int.mul_le_mul_of_nonneg_left ht2 (Int.le_of_lt hP)
    have h8 := nbits_le n (by omega) (w * L + m)
    rw [Int.pow_add, ← hpw] at h8
    omega
  omega
theorem bits_spec (l : List Int) (h : Dig 18446744073709551616 l) (hl : l.length ≤ 17592186044415) (k : Nat) (hk : l.length < k) : nat_Bits.f k l = some (nbits (val 18446744073709551616 l) : Int) := by
  unfold nat_Bits.f
  have hd := dlen_le l h
  unfold dlen at hd
  have h0 := val_nonneg h
  rw [trim_spec l h (by omega) k hk]
  simp only [Option.bind_some]
  rcases Int.lt_or_eq_of_le h0 with hp | he
  · obtain ⟨t1, t2, t3⟩ := nbits_top 64 18446744073709551616 rfl (by omega) hp
    have hb := (digs_dig (show 2 ≤ 18446744073709551616 by omega) (val 18446744073709551616 l)).at_ (by omega) ((digs 18446744073709551616 (val 18446744073709551616 l)).length - 1)
    generalize digs 18446744073709551616 (val 18446744073709551616 l) = t at *
    have e : (t.length : Int) - 1 = ((t.length - 1 : Nat) : Int) := by omega
    have hn : nbits (t.getD (t.length - 1) 0) ≤ 64 := (nbits_le _ (by omega) 64).2 (by omega)
    rw [if_neg (by omega), e]
    simp (disch := omega) only [if_pos, w64, rd_nat, len64_eq, Option.bind_some]
    rw [t3]
    congr 1
  · rw [← he]; rfl
theorem rbits_loop : ∀ (f : Nat) (c x : Int), 0 ≤ x → x < 2 ^ f → 0 ≤ c → c + f ≤ 1152921504606846976 → f ≤ 62 → ∀ k : Nat, f < k → treenailref01_Bits.l0 k c x = some (c + nbits x) := by
  intro f
  induction f with
  | zero =>
    intro c x h0 h1 hc hc2 hf k hk
    obtain ⟨k, rfl⟩ : ∃ m, k = m + 1 := ⟨k - 1, by omega⟩
    obtain rfl : x = 0 := by rw [Int.pow_zero] at h1; omega
    simp (disch := omega) only [treenailref01_Bits.l0, if_neg]
    simp [nbits_zero]
  | succ f ih =>
    intro c x h0 h1 hc hc2 hf k hk
    obtain ⟨k, rfl⟩ : ∃ m, k = m + 1 := ⟨k - 1, by omega⟩
    have hpw : (2 : Int) ^ (f + 1) ≤ 2 ^ 63 := by exact_mod_cast Nat.pow_le_pow_right (show 0 < 2 by omega) (show f + 1 ≤ 63 by omega)
    have h63 : (2 : Int) ^ 63 = 9223372036854775808 := by rfl
    by_cases hx : 0 < x
    · have h2 : x / 2 < 2 ^ f := by rw [Int.pow_succ] at h1; omega
      simp (disch := omega) only [treenailref01_Bits.l0, if_pos, w64, tdiv_]
      rw [ih (c + 1) (x / 2) (by omega) h2 (by omega) (by omega) (by omega) k (by omega), nbits_step hx]
      congr 1; omega
    · obtain rfl : x = 0 := by omega
      simp (disch := omega) only [treenailref01_Bits.l0, if_neg]
      simp [nbits_zero]
theorem rbits_spec (n : Int) (hn : 0 ≤ n) (hl : (digs 65536 n).length ≤ 1099511627776) (k : Nat) (hk : 20 < k) : treenailref01_Bits.f k (digs 65536 n) = some (nbits n : Int) := by
  unfold treenailref01_Bits.f
  rcases Int.lt_or_eq_of_le hn with hp | he
  · obtain ⟨t1, t2, t3⟩ := nbits_top 16 65536 rfl (by omega) hp
    have hb := (digs_dig (show 2 ≤ 65536 by omega) n).at_ (by omega) ((digs 65536 n).length - 1)
    generalize digs 65536 n = t at *
    have e : (t.length : Int) - 1 = ((t.length - 1 : Nat) : Int) := by omega
    have h16 : (2 : Int) ^ 16 = 65536 := by rfl
    rw [if_neg (by omega), e]
    simp (disch := omega) only [if_pos, w64, rd_nat]
    rw [rbits_loop 16 _ _ (by omega) (by omega) (by omega) (by omega) (by omega) k (by omega), t3]
    congr 1
  · rw [← he]
    rfl
/-! ### which bits -/
theorem digit_nat (w : Nat) (B : Nat) (hB : B = 2 ^ w) (hw : 1 ≤ w) {l : List Int} (h : Dig B l) (q : Nat) : l.getD q 0 = (((val B l).toNat / 2 ^ (w * q) % 2 ^ w : Nat) : Int) := by
  have hB2 : 0 < B := by rw [hB]; exact Nat.pow_pos (by omega)
  rw [digit hB2 h q]
  have hv : val B l = ((val B l).toNat : Int) := (Int.toNat_of_nonneg (val_nonneg h)).symm
  have hp : (B : Int) ^ q = ((2 ^ (w * q) : Nat) : Int) := by rw [hB, Nat.pow_mul]; push_cast; rfl
  rw [hp]
  conv => lhs; rw [hv]
  rw [Int.natCast_emod, Int.natCast_ediv, ← hB]
theorem bit_of (w : Nat) (n i : Nat) (hw : 1 ≤ w) : (n / 2 ^ (w * (i / w)) % 2 ^ w).testBit (i % w) = n.testBit i := by
  rw [Nat.testBit_mod_two_pow, Nat.testBit_div_two_pow]
  have h1 : i % w < w := Nat.mod_lt _ (by omega)
  have h2 : i % w + w * (i / w) = i := Nat.mod_add_div i w
  simp [h1, h2]
theorem and_one (x : Nat) (h : x < 18446744073709551616) : bits .and .u64 (x : Int) 1 = ((x % 2 : Nat) : Int) := by
  have := u64_and_nat x 1 h (by omega)
  rw [show ((1 : Nat) : Int) = 1 from rfl] at this
  rw [this, Nat.and_one_is_mod]
theorem natbit_spec (l : List Int) (h : Dig 18446744073709551616 l) (hl : l.length ≤ 17592186044415) (i : Int) (hi : i ≤ 9223372036854775807) : nat_Bit.f l i = some (decide (0 ≤ i) && (val 18446744073709551616 l).toNat.testBit i.toNat) := by
  unfold nat_Bit.f
  by_cases h0 : 0 ≤ i
  · obtain ⟨m, rfl⟩ := Int.eq_ofNat_of_zero_le h0
    rw [if_pos h0, tdiv_ h0, tmod_ h0]
    have e : ((m : Int) / 64) = ((m / 64 : Nat) : Int) := by omega
    have e2 : ((m : Int) % 64) = ((m % 64 : Nat) : Int) := by omega
    rw [e, e2, w64 (by omega) (by omega)]
    have hd := digit_nat 64 18446744073709551616 rfl (by omega) h (m / 64)
    have hb := bit_of 64 (val 18446744073709551616 l).toNat m (by omega)
    have ht : decide ((0 : Int) ≤ (m : Int)) = true := by simp
    by_cases hlt : m / 64 < l.length
    · rw [if_pos (by omega), if_pos (by omega), if_pos (by omega), rd_nat, hd]
      have hx : (val 18446744073709551616 l).toNat / 2 ^ (64 * (m / 64)) % 2 ^ 64 < 18446744073709551616 := Nat.mod_lt _ (by omega)
      generalize (val 18446744073709551616 l).toNat / 2 ^ (64 * (m / 64)) % 2 ^ 64 = x at *
      have hs : shr .u64 (x : Int) ((m % 64 : Nat) : Int) = ((x / 2 ^ (m % 64) : Nat) : Int) := by
        unfold shr
        rw [Int.toNat_natCast, Nat.min_eq_left (by show m % 64 ≤ 64; omega), Int.natCast_ediv]
        push_cast
        rfl
      rw [hs, and_one _ (Nat.lt_of_le_of_lt (Nat.div_le_self _ _) hx), ht, Bool.true_and, Int.toNat_natCast, ← hb, Nat.testBit_eq_decide_div_mod_eq]
      congr 1
      generalize x / 2 ^ (m % 64) % 2 = y
      rw [Bool.eq_iff_iff]
      simp only [beq_iff_eq, decide_eq_true_eq]
      omega
    · rw [if_neg (by omega), ht, Bool.true_and, Int.toNat_natCast, ← hb]
      have : l.getD (m / 64) 0 = 0 := by simp [List.getD_eq_getElem?_getD, List.getElem?_eq_none (show l.length ≤ m / 64 by omega)]
      rw [this] at hd
      have : (val 18446744073709551616 l).toNat / 2 ^ (64 * (m / 64)) % 2 ^ 64 = 0 := by omega
      rw [this, Nat.zero_testBit]
  · rw [if_neg (by omega)]
    have : decide (0 ≤ i) = false := by simp; omega
    rw [this]; rfl
theorem rbit_loop (i : Int) : ∀ (d : Nat) (j : Nat) (x : Nat), j + d = (Int.tmod i 16).toNat → 0 ≤ Int.tmod i 16 → Int.tmod i 16 < 16 → x < 65536 → ∀ k : Nat, d < k → treenailref01_Bit.l0 k i (x : Int) (j : Int) = some (decide (x / 2 ^ d % 2 = 1)) := by
  intro d
  induction d with
  | zero =>
    intro j x hj h0 h1 hx k hk
    obtain ⟨k, rfl⟩ : ∃ m, k = m + 1 := ⟨k - 1, by omega⟩
    simp (disch := omega) only [treenailref01_Bit.l0, if_neg, tmod_]
    congr 1
    rw [Bool.eq_iff_iff]
    simp only [Nat.pow_zero, Nat.div_one, beq_iff_eq, decide_eq_true_eq]
    omega
  | succ d ih =>
    intro j x hj h0 h1 hx k hk
    obtain ⟨k, rfl⟩ : ∃ m, k = m + 1 := ⟨k - 1, by omega⟩
    have e : ((j : Int) + 1) = ((j + 1 : Nat) : Int) := by omega
    have e2 : (x : Int) / 2 = ((x / 2 : Nat) : Int) := by omega
    simp (disch := omega) only [treenailref01_Bit.l0, if_pos, tdiv_, w64, e, e2]
    rw [ih (j + 1) (x / 2) (by omega) h0 h1 (by omega) k (by omega), Nat.div_div_eq_div_mul, Nat.pow_succ, Nat.mul_comm 2]
theorem rbit_spec (n : Int) (hn : 0 ≤ n) (hl : (digs 65536 n).length ≤ 1099511627776) (i : Int) (hi : i ≤ 9223372036854775807) (k : Nat) (hk : 40 < k) : treenailref01_Bit.f k (digs 65536 n) i = some (decide (0 ≤ i) && n.toNat.testBit i.toNat) := by
  obtain ⟨k, rfl⟩ : ∃ m, k = m + 1 := ⟨k - 1, by omega⟩
  have hD := digs_dig (show 2 ≤ 65536 by omega) n
  have hv := val_digs (show 2 ≤ 65536 by omega) n hn
  unfold treenailref01_Bit.f
  by_cases h0 : i < 0
  · rw [if_pos h0]
    have : decide (0 ≤ i) = false := by simp; omega
    simp only [treenailref01_Bit.j0, if_true, this, Bool.false_and]
  · obtain ⟨m, rfl⟩ := Int.eq_ofNat_of_zero_le (show 0 ≤ i by omega)
    have ht : decide ((0 : Int) ≤ (m : Int)) = true := by simp
    have e : ((m : Int) / 16) = ((m / 16 : Nat) : Int) := by omega
    rw [if_neg h0, ht, Bool.true_and, Int.toNat_natCast, tdiv_ (by omega), e, w64 (by omega) (by omega)]
    have hd := digit_nat 16 65536 rfl (by omega) hD (m / 16)
    have hb := bit_of 16 n.toNat m (by omega)
    rw [hv] at hd
    by_cases hlt : m / 16 < (digs 65536 n).length
    · have hf : decide (((m / 16 : Nat) : Int) ≥ ((digs 65536 n).length : Int)) = false := by simp; omega
      have e2 : Int.tmod (m : Int) 16 = ((m % 16 : Nat) : Int) := by rw [tmod_ (by omega)]; omega
      simp only [treenailref01_Bit.j0, hf]
      rw [if_neg (by simp), tdiv_ (by omega), e, w64 (by omega) (by omega), if_pos (by omega), if_pos (by omega), rd_nat, hd]
      have hx : n.toNat / 2 ^ (16 * (m / 16)) % 2 ^ 16 < 65536 := Nat.mod_lt _ (by omega)
      generalize n.toNat / 2 ^ (16 * (m / 16)) % 2 ^ 16 = x at *
      rw [show (0 : Int) = ((0 : Nat) : Int) from rfl, rbit_loop (m : Int) (m % 16) 0 x (by rw [e2]; omega) (by rw [e2]; omega) (by rw [e2]; omega) hx k (by omega), ← hb, Nat.testBit_eq_decide_div_mod_eq]
    · have hf : decide (((m / 16 : Nat) : Int) ≥ ((digs 65536 n).length : Int)) = true := by simp; omega
      simp only [treenailref01_Bit.j0, hf, if_true]
      have : (digs 65536 n).getD (m / 16) 0 = 0 := by simp [List.getD_eq_getElem?_getD, List.getElem?_eq_none (show (digs 65536 n).length ≤ m / 16 by omega)]
      rw [this] at hd
      have : n.toNat / 2 ^ (16 * (m / 16)) % 2 ^ 16 = 0 := by omega
      rw [← hb, this, Nat.zero_testBit]
end Go.Proofs.Ytolflieiipnndaa.X

/- Shifts and joins of numbers of 64 bits. -/
namespace Go.Proofs.Ytolflieiipnndaa.X
open Go.RowKit Go.Proofs.Ytolflieiipnndaa Go.Proofs.YtolflieiipnndaaW.PrintWords Go.Proofs.YtolflieiipnndaaW.PrintLast Go.Proofs.YtolflieiipnndaaW.PrintMore Go.Proofs.Ytolflieiipnndaa.Num
set_option linter.unusedVariables false
set_option linter.unusedSimpArgs false
theorem shl_eq (x r : Nat) (hr : r ≤ 63) (h : x * 2 ^ r < 18446744073709551616) : shl .u64 (x : Int) (r : Int) = ((x * 2 ^ r : Nat) : Int) := by
  unfold shl
  rw [Int.toNat_natCast, Nat.min_eq_left (by show r ≤ 64; omega)]
  have e : (x : Int) * 2 ^ r = ((x * 2 ^ r : Nat) : Int) := by push_cast; rfl
  rw [e]
  exact wu64 (by omega) (by omega)
theorem or_plus (a b r : Nat) (ha : a < 2 ^ r) (h1 : a < 18446744073709551616) (h : b * 2 ^ r < 18446744073709551616) : bits .or .u64 (a : Int) ((b * 2 ^ r : Nat) : Int) = ((a + b * 2 ^ r : Nat) : Int) := by
  rw [u64_or_nat _ _ h1 h, Nat.or_comm, ← Nat.shiftLeft_eq, ← Nat.shiftLeft_add_eq_or_of_lt ha, Nat.add_comm]
theorem val_set (B : Nat) (l : List Int) (p : Nat) (v : Int) (h : p < l.length) : val B (l.set p v) = val B l + (B : Int) ^ p * (v - l.getD p 0) := by
  have h1 := val_split B (l.set p v) (p + 1) (by simp; omega)
  have h2 := val_split B l (p + 1) (by omega)
  rw [val_take_set B l p v h] at h1
  rw [val_take B l p h] at h2
  have h3 : (l.set p v).drop (p + 1) = l.drop (p + 1) := by rw [List.drop_set, if_pos (by omega)]
  rw [h3] at h1
  rw [Int.mul_sub]
  generalize (B : Int) ^ (p + 1) * val B (l.drop (p + 1)) = R at *
  generalize (B : Int) ^ p * v = X at *
  generalize (B : Int) ^ p * l.getD p 0 = Y at *
  omega
end Go.Proofs.Ytolflieiipnndaa.X
