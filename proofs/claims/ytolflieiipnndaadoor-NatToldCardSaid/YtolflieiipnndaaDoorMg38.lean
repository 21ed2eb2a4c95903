/- Joined: NumS, NumD, NumDF, NumE. -/
import Derived.Test.YtolflieiipnndaaDoorMg25
import Derived.Test.YtolflieiipnndaaDoorNum
import Derived.Laws.BitsAllLaws
import Derived.Test.YtolflieiipnndaaDoorMg37
import Derived.Test.YtolflieiipnndaaDoorXP1
import Derived.Test.YtolflieiipnndaaDoorXP2
import Derived.Test.YtolflieiipnndaaDoorXP3
import Derived.Test.YtolflieiipnndaaDoorXP4
import Derived.Test.YtolflieiipnndaaDoorXP5
/- Shifts and joins of numbers of 64 bits. -/
namespace Go.Proofs.YtolflieiipnndaaDoor.X
open Go.RowKit Go.Proofs.YtolflieiipnndaaDoor Go.Proofs.YtolflieiipnndaaDoorW.PrintWords Go.Proofs.YtolflieiipnndaaDoorW.PrintLast Go.Proofs.YtolflieiipnndaaDoorW.PrintMore Go.Proofs.YtolflieiipnndaaDoor.Num
set_option linter.unusedVariables false
set_option linter.unusedSimpArgs false
theorem shl_eq (x r : Nat) (hr : r ≤ 63) (h : x * 2 ^ r < 18446744073709551616) : shl .u64 (x : Int) (r : Int) = ((x * 2 ^ r : Nat) : Int) := by
  unfold shl
  rw [Int.toNat_natCast, Nat.min_eq_left (by show r ≤ 64; omega)]
  have e : (x : Int) * 2 ^ r = ((x * 2 ^ r : Nat) : Int) := by push_cast; rfl
  rw [e]
  exact wu64 (by omega) (by omega)
theorem or_plus (a b r : Nat) (ha : a < 2 ^ r) (h1 : a < 18446744073709551616) (h : b * 2 ^ r < 18446744073709551616) : bits .or .u64 (a : Int) ((b * 2 ^ r : Nat) : Int) = ((a + b * 2 ^ r : Nat) : Int) := by
  rw [u64_or_nat _ _ h1 h, Nat.or_comm, ← Nat.shiftLeft_eq, ← Nat.shiftLeft_add_eq_or_of_lt ha, Nat.add_comm]
theorem val_set (B : Nat) (l : List Int) (p : Nat) (v : Int) (h : p < l.length) : val B (l.set p v) = val B l + (B : Int) ^ p * (v - l.getD p 0) := by
  have h1 := val_split B (l.set p v) (p + 1) (by simp; omega)
  have h2 := val_split B l (p + 1) (by omega)
  rw [val_take_set B l p v h] at h1
  rw [val_take B l p h] at h2
  have h3 : (l.set p v).drop (p + 1) = l.drop (p + 1) := by rw [List.drop_set, if_pos (by omega)]
  rw [h3] at h1
  rw [Int.mul_sub]
  generalize (B : Int) ^ (p + 1) * val B (l.drop (p + 1)) = R at *
  generalize (B : Int) ^ p * v = X at *
  generalize (B : Int) ^ p * l.getD p 0 = Y at *
  omega
end Go.Proofs.YtolflieiipnndaaDoor.X

/- What the printed functions compute: the document's product; numbers and their bytes. -/
namespace Go.Proofs.YtolflieiipnndaaDoor.X
open Go.RowKit Go.Proofs.YtolflieiipnndaaDoor Go.Proofs.YtolflieiipnndaaDoorW.PrintWords Go.Proofs.YtolflieiipnndaaDoorW.PrintLast Go.Proofs.YtolflieiipnndaaDoorW.PrintMore Go.Proofs.YtolflieiipnndaaDoor.Num
set_option linter.unusedVariables false
set_option linter.unusedSimpArgs false
theorem mul_lt {x y a b : Int} (hx : 0 ≤ x) (hy : 0 ≤ y) (h1 : x < a) (h2 : y ≤ b) (hb : 0 < b) : x * y < a * b := by
  have h3 : x * y ≤ x * b := Int.mul_le_mul_of_nonneg_left h2 hx
  have h4 : x * b < a * b := Int.mul_lt_mul_of_pos_right h1 hb
  omega
theorem pow_lt_inv {B : Nat} (hB : 2 ≤ B) {m n : Nat} (h : (B : Int) ^ m < (B : Int) ^ n) : m < n := by
  rcases Nat.lt_or_ge m n with h1 | h1
  · exact h1
  · have : (B : Int) ^ n ≤ (B : Int) ^ m := by exact_mod_cast Nat.pow_le_pow_right (by omega) h1
    omega
theorem digit_sum {o x y c : Int} (ho : 0 ≤ o ∧ o < 65536) (hx : 0 ≤ x ∧ x < 65536) (hy : 0 ≤ y ∧ y < 65536) (hc : 0 ≤ c ∧ c < 65536) : 0 ≤ x * y ∧ x * y ≤ 4294836225 ∧ 0 ≤ (o + x * y + c) / 65536 ∧ (o + x * y + c) / 65536 < 65536 := by
  have h1 := Int.mul_nonneg hx.1 hy.1
  have h2 : x * y ≤ 65535 * 65535 := by
    have a1 : x * y ≤ x * 65535 := Int.mul_le_mul_of_nonneg_left (by omega) hx.1
    omega
  omega
end Go.Proofs.YtolflieiipnndaaDoor.X

/- What the printed functions compute: numbers from bytes, by the document. -/
namespace Go.Proofs.YtolflieiipnndaaDoor.X
open Go.RowKit Go.Proofs.YtolflieiipnndaaDoor Go.Proofs.YtolflieiipnndaaDoorW.PrintWords Go.Proofs.YtolflieiipnndaaDoorW.PrintLast Go.Proofs.YtolflieiipnndaaDoorW.PrintMore Go.Proofs.YtolflieiipnndaaDoor.Num
set_option linter.unusedVariables false
set_option linter.unusedSimpArgs false
/-- The number that bytes tell, the highest first. -/
def be (l : List Int) : Int := val 256 l.reverse
theorem be_snoc (l : List Int) (x : Int) : be (l ++ [x]) = be l * 256 + x := by
  unfold be
  rw [List.reverse_append]
  show x + 256 * val 256 l.reverse = _
  omega
theorem dig_rev {B : Nat} {l : List Int} (h : Dig B l) : Dig B l.reverse := fun x hx => h x (List.mem_reverse.1 hx)
theorem be_lt {l : List Int} (h : Dig 256 l) : 0 ≤ be l ∧ be l < ((256 : Nat) : Int) ^ l.length := by
  have := val_lt (dig_rev h)
  rw [List.length_reverse] at this
  exact ⟨val_nonneg (dig_rev h), this⟩
theorem be_take (l : List Int) (i : Nat) (h : i < l.length) : be (l.take (i + 1)) = be (l.take i) * 256 + l.getD i 0 := by
  rw [take_rd l i h, be_snoc]
theorem len16 (n : Int) (h : 0 ≤ n) (m : Nat) (hm : n < ((256 : Nat) : Int) ^ m) : (digs 65536 n).length ≤ m := by
  refine (digs_len (by omega) m n h).2 (Int.lt_of_lt_of_le hm ?_)
  exact_mod_cast Nat.pow_le_pow_left (show 256 ≤ 65536 by omega) m
theorem len16b (l : List Int) (h : Dig 256 l) (hl : l.length ≤ 512) (i : Nat) : 0 ≤ be (l.take i) ∧ (digs 65536 (be (l.take i))).length ≤ 512 ∧ (digs 65536 (be (l.take i) * 256)).length ≤ 513 := by
  obtain ⟨b0, b1⟩ := be_lt (h.take i)
  have h1 : (l.take i).length ≤ 512 := by rw [List.length_take]; omega
  refine ⟨b0, Nat.le_trans (len16 _ b0 _ b1) h1, Nat.le_trans (len16 _ (by omega) ((l.take i).length + 1) ?_) (by omega)⟩
  rw [pow_succ_]
  generalize ((256 : Nat) : Int) ^ (l.take i).length = X at *
  omega
end Go.Proofs.YtolflieiipnndaaDoor.X

/- What the printed functions compute: numbers from bytes, and their bytes. -/
namespace Go.Proofs.YtolflieiipnndaaDoor.X
open Go.RowKit Go.Proofs.YtolflieiipnndaaDoor Go.Proofs.YtolflieiipnndaaDoorW.PrintWords Go.Proofs.YtolflieiipnndaaDoorW.PrintLast Go.Proofs.YtolflieiipnndaaDoorW.PrintMore Go.Proofs.YtolflieiipnndaaDoor.Num
set_option linter.unusedVariables false
set_option linter.unusedSimpArgs false
theorem pow_word (q r : Nat) : ((18446744073709551616 : Nat) : Int) ^ q * ((2 ^ (8 * r) : Nat) : Int) = ((256 : Nat) : Int) ^ (8 * q + r) := by
  have h : 18446744073709551616 ^ q * 2 ^ (8 * r) = 256 ^ (8 * q + r) := by
    rw [show 18446744073709551616 = 2 ^ 64 from rfl, show 256 = 2 ^ 8 from rfl, ← Nat.pow_mul, ← Nat.pow_mul, ← Nat.pow_add]
    congr 1
    omega
  exact_mod_cast h
theorem word_small (V : Int) (l : List Int) (h : Dig 18446744073709551616 l) (hV : val 18446744073709551616 l = V) (q r : Nat) (hr : r < 8) (hlt : V < ((256 : Nat) : Int) ^ (8 * q + r)) :
    0 ≤ l.getD q 0 ∧ l.getD q 0 < ((2 ^ (8 * r) : Nat) : Int) := by
  have h0 := h.at_ (by omega) q
  refine ⟨h0.1, ?_⟩
  rw [digit (by omega) h q, hV]
  have hp := pow_pos_ (show 0 < 18446744073709551616 by omega) q
  have h1 : V / ((18446744073709551616 : Nat) : Int) ^ q < ((2 ^ (8 * r) : Nat) : Int) := by
    refine Int.ediv_lt_of_lt_mul hp ?_
    rw [Int.mul_comm, pow_word]
    exact hlt
  have h2 : 0 ≤ V / ((18446744073709551616 : Nat) : Int) ^ q := Int.ediv_nonneg (by rw [← hV]; exact val_nonneg h) (Int.le_of_lt hp)
  have h3 : V / ((18446744073709551616 : Nat) : Int) ^ q % ((18446744073709551616 : Nat) : Int) ≤ V / ((18446744073709551616 : Nat) : Int) ^ q := by
    clear h1
    generalize V / ((18446744073709551616 : Nat) : Int) ^ q = Y at *
    omega
  exact Int.lt_of_le_of_lt h3 h1
theorem rev_at (l : List Int) (i : Nat) (h : i < l.length) : l.reverse.getD i 0 = l.getD (l.length - 1 - i) 0 := by
  simp [List.getD_eq_getElem?_getD, List.getElem?_reverse h]
theorem pow8 (r : Nat) (h : r < 8) : 2 ^ (8 * r) ≤ 72057594037927936 := by
  have : 2 ^ (8 * r) ≤ 2 ^ 56 := Nat.pow_le_pow_right (by omega) (by omega)
  exact Nat.le_trans this (by decide)
theorem from_round (q r : Nat) (hr : r < 8) (l : List Int) (h : Dig 18446744073709551616 l) (hq : q < l.length) (V : Int) (hV : val 18446744073709551616 l = V) (hlt : V < ((256 : Nat) : Int) ^ (8 * q + r)) (x : Int) (hx : 0 ≤ x ∧ x < 256) :
    ∃ v, bits .or .u64 (l.getD q 0) (shl .u64 x ((8 * r : Nat) : Int)) = v ∧ (0 ≤ v ∧ v < ((18446744073709551616 : Nat) : Int)) ∧ val 18446744073709551616 (l.set q v) = V + ((256 : Nat) : Int) ^ (8 * q + r) * x := by
  obtain ⟨a0, a1⟩ := word_small V l h hV q r hr hlt
  have p8 := pow8 r hr
  have hw := pow_word q r
  have hset := fun v => val_set 18446744073709551616 l q v hq
  obtain ⟨a, ha⟩ := Int.eq_ofNat_of_zero_le a0
  obtain ⟨y, rfl⟩ := Int.eq_ofNat_of_zero_le hx.1
  rw [ha] at a1 hset ⊢
  have hy : y * 2 ^ (8 * r) ≤ 255 * 2 ^ (8 * r) := Nat.mul_le_mul_right _ (by omega)
  have a2 : a < 2 ^ (8 * r) := by omega
  refine ⟨((a + y * 2 ^ (8 * r) : Nat) : Int), ?_, ⟨by omega, by omega⟩, ?_⟩
  · rw [shl_eq y (8 * r) (by omega) (by omega), or_plus a y (8 * r) a2 (by omega) (by omega)]
  · rw [hset, hV, ← hw]
    have e : ((a + y * 2 ^ (8 * r) : Nat) : Int) - (a : Int) = ((2 ^ (8 * r) : Nat) : Int) * (y : Int) := by rw [Int.natCast_add, Int.natCast_mul, Int.mul_comm (y : Int)]; omega
    rw [e, Int.mul_assoc]
theorem from_idx (n i : Nat) (h : i < n) (hn : n ≤ 512) :
    wrap64 (Int.tdiv (i : Int) 8) = ((i / 8 : Nat) : Int) ∧ wrap64 (wrap64 ((n : Int) - 1) - (i : Int)) = ((n - 1 - i : Nat) : Int) ∧ wrap64 (8 * Int.tmod (i : Int) 8) = ((8 * (i % 8) : Nat) : Int) ∧ wrap64 ((i : Int) + 1) = ((i + 1 : Nat) : Int) ∧
      (0 : Int) ≤ ((i / 8 : Nat) : Int) ∧ ((i / 8 : Nat) : Int) < (((n + 7) / 8 : Nat) : Int) ∧ (0 : Int) ≤ ((n - 1 - i : Nat) : Int) ∧ ((n - 1 - i : Nat) : Int) < (n : Int) ∧ (0 : Int) ≤ ((8 * (i % 8) : Nat) : Int) := by
  refine ⟨?_, ?_, ?_, ?_, by omega, by omega, by omega, by omega, by omega⟩
  · rw [tdiv_ (by omega), w64 (by omega) (by omega)]; omega
  · rw [w64 (n := (n : Int) - 1) (by omega) (by omega), w64 (by omega) (by omega)]; omega
  · rw [tmod_ (by omega), w64 (by omega) (by omega)]; omega
  · rw [w64 (by omega) (by omega)]; omega
end Go.Proofs.YtolflieiipnndaaDoor.X
