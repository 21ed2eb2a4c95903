/- Joined: PureB, NumC. -/
import Derived.Test.YtolflieiipnndaaDoorNumB
import Derived.Test.YtolflieiipnndaaDoorXP1
import Derived.Test.YtolflieiipnndaaDoorXP2
import Derived.Test.YtolflieiipnndaaDoorXP3
import Derived.Test.YtolflieiipnndaaDoorXP4
import Derived.Test.YtolflieiipnndaaDoorXP5
import Derived.Laws.BitsAllLaws
/- What the laws' plain statements share. -/
namespace Go.Proofs.YtolflieiipnndaaDoor.Pure
open Go.RowKit Go.Proofs.YtolflieiipnndaaDoor Go.Proofs.YtolflieiipnndaaDoor.X Go.Proofs.YtolflieiipnndaaDoorW.PrintWords Go.Proofs.YtolflieiipnndaaDoorW.PrintLast Go.Proofs.YtolflieiipnndaaDoorW.PrintMore Go.Proofs.YtolflieiipnndaaDoor.Num
set_option linter.unusedVariables false
set_option linter.unusedSimpArgs false
theorem dig_of {l : List Int} (h : ∀ x ∈ l, (Lit.int .u64 x).wf = true) : Dig 18446744073709551616 l := fun x hx => by
  have := h x hx
  simp [Lit.wf, IntKind.min, IntKind.max, IntKind.signed, IntKind.bits] at this
  omega
theorem dlen_vals (l : List Int) : (digs 18446744073709551616 (val 18446744073709551616 l)).length = dlen l := rfl
/-- How long a number's digits of 16 bits are. -/
theorem len16 {n : Int} (hn : 0 ≤ n) (m : Nat) (h : (digs 18446744073709551616 n).length ≤ m) : (digs 65536 n).length ≤ 4 * m := by
  refine (digs_len (by omega) _ n hn).2 ?_
  rw [pow16]
  exact (digs_len (by omega) _ n hn).1 h
end Go.Proofs.YtolflieiipnndaaDoor.Pure

/- What the printed functions compute: without noughts, how many bits, which. -/
namespace Go.Proofs.YtolflieiipnndaaDoor.X
open Go.RowKit Go.Proofs.YtolflieiipnndaaDoor Go.Proofs.YtolflieiipnndaaDoorW.PrintWords Go.Proofs.YtolflieiipnndaaDoorW.PrintLast Go.Proofs.YtolflieiipnndaaDoorW.PrintMore Go.Proofs.YtolflieiipnndaaDoor.Num
set_option linter.unusedVariables false
set_option linter.unusedSimpArgs false
theorem norm_spec (l : List Int) (h : Dig 18446744073709551616 l) (hl : l.length ≤ 17592186044415) (k : Nat) (hk : l.length < k) : nat_Norm.f k l = some (digs 18446744073709551616 (val 18446744073709551616 l)) := by
  unfold nat_Norm.f
  have := dlen_le l h
  rw [trim_spec l h (by omega) k hk]
  simp only [Option.bind_some]
  unfold api_Nat_uint64.f
  unfold dlen at this
  rw [if_pos (by omega)]
  rfl
/-! ### how many bits -/
def nbits (n : Int) : Nat := (digs 2 n).length
theorem nbits_le (n : Int) (h : 0 ≤ n) (m : Nat) : nbits n ≤ m ↔ n < 2 ^ m := digs_len (B := 2) (by omega) m n h
theorem nbits_zero : nbits 0 = 0 := rfl
theorem nbits_step {n : Int} (h : 0 < n) : nbits n = nbits (n / 2) + 1 := by
  unfold nbits
  rw [digs_pos (by omega) h]
  rfl
theorem bitLenAux_eq : ∀ (f x : Nat), x < 2 ^ f → Lib.bitLenAux f x = nbits (x : Int) := by
  intro f
  induction f with
  | zero => intro x h; obtain rfl : x = 0 := by simpa using h
            rfl
  | succ f ih =>
    intro x h
    simp only [Lib.bitLenAux]
    split
    · rename_i h0; subst h0; rfl
    · rw [nbits_step (by omega), ih (x / 2) (by rw [Nat.pow_succ] at h; omega)]
      have : ((x / 2 : Nat) : Int) = (x : Int) / 2 := by omega
      rw [this]; omega
theorem len64_eq {x : Int} (h0 : 0 ≤ x) (h1 : x < 18446744073709551616) : bits_Len64.f x = some (nbits x : Int) := by
  unfold bits_Len64.f
  rw [if_pos ⟨h0, by omega⟩]
  unfold Lib.bitLen
  rw [bitLenAux_eq 64 x.toNat (by omega), Int.toNat_of_nonneg h0]
/-- The bits of a number, by its highest digit. -/
theorem nbits_top (w : Nat) (B : Nat) (hB : B = 2 ^ w) (hw : 1 ≤ w) {n : Int} (hn : 0 < n) : 0 < (digs B n).length ∧ 0 < (digs B n).getD ((digs B n).length - 1) 0 ∧ nbits n = w * ((digs B n).length - 1) + nbits ((digs B n).getD ((digs B n).length - 1) 0) := by
  have hB2 : 2 ≤ B := by
    have := Nat.pow_le_pow_right (show 0 < 2 by omega) hw
    omega
  have hp : 0 < (digs B n).length := (digs_len_lt hB2 0 n (by omega)).2 (by rw [Int.pow_zero]; omega)
  obtain ⟨L, hL⟩ : ∃ L, (digs B n).length = L + 1 := ⟨(digs B n).length - 1, by omega⟩
  have h1 := (digs_len hB2 (L + 1) n (by omega)).1 (by omega)
  have h2 := (digs_len_lt hB2 L n (by omega)).1 (by omega)
  have hP := pow_pos_ (show 0 < B by omega) L
  have ht : (digs B n).getD L 0 = n / (B : Int) ^ L := by
    rw [digs_at hB2 (by omega), Int.emod_eq_of_lt (Int.ediv_nonneg (by omega) (by omega))]
    rw [pow_succ_] at h1
    exact Int.ediv_lt_of_lt_mul hP (by rw [Int.mul_comm]; exact h1)
  have htp : 0 < n / (B : Int) ^ L := by
    rcases Int.lt_or_le 0 (n / (B : Int) ^ L) with h | h
    · exact h
    · have h3 := Int.ediv_nonneg (show (0 : Int) ≤ n by omega) (Int.le_of_lt hP)
      have h4 := Int.emod_add_mul_ediv n ((B : Int) ^ L)
      have h5 := Int.emod_lt_of_pos n hP
      rw [show n / (B : Int) ^ L = 0 by omega, Int.mul_zero] at h4
      omega
  rw [hL, Nat.add_sub_cancel, ht]
  refine ⟨by omega, htp, ?_⟩
  have hpw : (B : Int) ^ L = 2 ^ (w * L) := by
    rw [hB, Int.pow_mul]; push_cast; rfl
  generalize hq : n / (B : Int) ^ L = t at *
  have h4 := Int.emod_add_mul_ediv n ((B : Int) ^ L)
  have h5 := Int.emod_lt_of_pos n hP
  have h6 := Int.emod_nonneg n (show (B : Int) ^ L ≠ 0 by omega)
  rw [hq] at h4
  have hle : nbits n ≤ w * L + nbits t := by
    refine (nbits_le n (by omega) _).2 ?_
    have ht2 := (nbits_le t (by omega) _).1 (Nat.le_refl _)
    have := Int.mul_le_mul_of_nonneg_left (show t + 1 ≤ 2 ^ nbits t by omega) (Int.le_of_lt hP)
    rw [Int.mul_add, Int.mul_one] at this
    rw [Int.pow_add, ← hpw]
    omega
  have hge : w * L + nbits t ≤ nbits n := by
    obtain ⟨m, hm⟩ : ∃ m, nbits t = m + 1 := ⟨nbits t - 1, by
      have := nbits_step htp
      omega⟩
    have ht2 : (2 : Int) ^ m ≤ t := by
      have := nbits_le t (by omega) m
      omega
    have h7 := Int.mul_le_mul_of_nonneg_left ht2 (Int.le_of_lt hP)
    have h8 := nbits_le n (by omega) (w * L + m)
    rw [Int.pow_add, ← hpw] at h8
    omega
  omega
theorem bits_spec (l : List Int) (h : Dig 18446744073709551616 l) (hl : l.length ≤ 17592186044415) (k : Nat) (hk : l.length < k) : nat_Bits.f k l = some (nbits (val 18446744073709551616 l) : Int) := by
  unfold nat_Bits.f
  have hd := dlen_le l h
  unfold dlen at hd
  have h0 := val_nonneg h
  rw [trim_spec l h (by omega) k hk]
  simp only [Option.bind_some]
  rcases Int.lt_or_eq_of_le h0 with hp | he
  · obtain ⟨t1, t2, t3⟩ := nbits_top 64 18446744073709551616 rfl (by omega) hp
    have hb := (digs_dig (show 2 ≤ 18446744073709551616 by omega) (val 18446744073709551616 l)).at_ (by omega) ((digs 18446744073709551616 (val 18446744073709551616 l)).length - 1)
    generalize digs 18446744073709551616 (val 18446744073709551616 l) = t at *
    have e : (t.length : Int) - 1 = ((t.length - 1 : Nat) : Int) := by omega
    have hn : nbits (t.getD (t.length - 1) 0) ≤ 64 := (nbits_le _ (by omega) 64).2 (by omega)
    rw [if_neg (by omega), e]
    simp (disch := omega) only [if_pos, w64, rd_nat, len64_eq, Option.bind_some]
    rw [t3]
    congr 1
  · rw [← he]; rfl
/-! ### which bits -/
theorem digit_nat (w : Nat) (B : Nat) (hB : B = 2 ^ w) (hw : 1 ≤ w) {l : List Int} (h : Dig B l) (q : Nat) : l.getD q 0 = (((val B l).toNat / 2 ^ (w * q) % 2 ^ w : Nat) : Int) := by
  have hB2 : 0 < B := by rw [hB]; exact Nat.pow_pos (by omega)
  rw [digit hB2 h q]
  have hv : val B l = ((val B l).toNat : Int) := (Int.toNat_of_nonneg (val_nonneg h)).symm
  have hp : (B : Int) ^ q = ((2 ^ (w * q) : Nat) : Int) := by rw [hB, Nat.pow_mul]; push_cast; rfl
  rw [hp]
  conv => lhs; rw [hv]
  rw [Int.natCast_emod, Int.natCast_ediv, ← hB]
theorem bit_of (w : Nat) (n i : Nat) (hw : 1 ≤ w) : (n / 2 ^ (w * (i / w)) % 2 ^ w).testBit (i % w) = n.testBit i := by
  rw [Nat.testBit_mod_two_pow, Nat.testBit_div_two_pow]
  have h1 : i % w < w := Nat.mod_lt _ (by omega)
  have h2 : i % w + w * (i / w) = i := Nat.mod_add_div i w
  simp [h1, h2]
theorem and_one (x : Nat) (h : x < 18446744073709551616) : bits .and .u64 (x : Int) 1 = ((x % 2 : Nat) : Int) := by
  have := u64_and_nat x 1 h (by omega)
  rw [show ((1 : Nat) : Int) = 1 from rfl] at this
  rw [this, Nat.and_one_is_mod]
end Go.Proofs.YtolflieiipnndaaDoor.X
