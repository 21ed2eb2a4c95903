/- What the printed functions compute: numbers from bytes, and their bytes. -/
import Derived.Test.YtolflieiipnndaaNumD
namespace Go.Proofs.Ytolflieiipnndaa.X
open Go.RowKit Go.Proofs.Ytolflieiipnndaa Go.Proofs.YtolflieiipnndaaW.PrintWords Go.Proofs.YtolflieiipnndaaW.PrintLast Go.Proofs.YtolflieiipnndaaW.PrintMore Go.Proofs.Ytolflieiipnndaa.Num
set_option linter.unusedVariables false
set_option linter.unusedSimpArgs false
theorem shl_eq (x r : Nat) (hr : r ≤ 63) (h : x * 2 ^ r < 18446744073709551616) : shl .u64 (x : Int) (r : Int) = ((x * 2 ^ r : Nat) : Int) := by
  unfold shl
  rw [Int.toNat_natCast, Nat.min_eq_left (by show r ≤ 64; omega)]
  have e : (x : Int) * 2 ^ r = ((x * 2 ^ r : Nat) : Int) := by push_cast; rfl
  rw [e]
  exact wu64 (by omega) (by omega)
theorem or_plus (a b r : Nat) (ha : a < 2 ^ r) (h1 : a < 18446744073709551616) (h : b * 2 ^ r < 18446744073709551616) : bits .or .u64 (a : Int) ((b * 2 ^ r : Nat) : Int) = ((a + b * 2 ^ r : Nat) : Int) := by
  rw [u64_or_nat _ _ h1 h, Nat.or_comm, ← Nat.shiftLeft_eq, ← Nat.shiftLeft_add_eq_or_of_lt ha, Nat.add_comm]
theorem pow_word (q r : Nat) : ((18446744073709551616 : Nat) : Int) ^ q * ((2 ^ (8 * r) : Nat) : Int) = ((256 : Nat) : Int) ^ (8 * q + r) := by
  have h : 18446744073709551616 ^ q * 2 ^ (8 * r) = 256 ^ (8 * q + r) := by
    rw [show 18446744073709551616 = 2 ^ 64 from rfl, show 256 = 2 ^ 8 from rfl, ← Nat.pow_mul, ← Nat.pow_mul, ← Nat.pow_add]
    congr 1
    omega
  exact_mod_cast h
theorem word_small (V : Int) (l : List Int) (h : Dig 18446744073709551616 l) (hV : val 18446744073709551616 l = V) (q r : Nat) (hr : r < 8) (hlt : V < ((256 : Nat) : Int) ^ (8 * q + r)) :
    0 ≤ l.getD q 0 ∧ l.getD q 0 < ((2 ^ (8 * r) : Nat) : Int) := by
  have h0 := h.at_ (by omega) q
  refine ⟨h0.1, ?_⟩
  rw [digit (by omega) h q, hV]
  have hp := pow_pos_ (show 0 < 18446744073709551616 by omega) q
  have h1 : V / ((18446744073709551616 : Nat) : Int) ^ q < ((2 ^ (8 * r) : Nat) : Int) := by
    refine Int.ediv_lt_of_lt_mul hp ?_
    rw [Int.mul_comm, pow_word]
    exact hlt
  have h2 : 0 ≤ V / ((18446744073709551616 : Nat) : Int) ^ q := Int.ediv_nonneg (by rw [← hV]; exact val_nonneg h) (Int.le_of_lt hp)
  have h3 : V / ((18446744073709551616 : Nat) : Int) ^ q % ((18446744073709551616 : Nat) : Int) ≤ V / ((18446744073709551616 : Nat) : Int) ^ q := by
    clear h1
    generalize V / ((18446744073709551616 : Nat) : Int) ^ q = Y at *
    omega
  exact Int.lt_of_le_of_lt h3 h1
theorem rev_at (l : List Int) (i : Nat) (h : i < l.length) : l.reverse.getD i 0 = l.getD (l.length - 1 - i) 0 := by
  simp [List.getD_eq_getElem?_getD, List.getElem?_reverse h]
theorem pow8 (r : Nat) (h : r < 8) : 2 ^ (8 * r) ≤ 72057594037927936 := by
  have : 2 ^ (8 * r) ≤ 2 ^ 56 := Nat.pow_le_pow_right (by omega) (by omega)
  exact Nat.le_trans this (by decide)
theorem from_round (q r : Nat) (hr : r < 8) (l : List Int) (h : Dig 18446744073709551616 l) (hq : q < l.length) (V : Int) (hV : val 18446744073709551616 l = V) (hlt : V < ((256 : Nat) : Int) ^ (8 * q + r)) (x : Int) (hx : 0 ≤ x ∧ x < 256) :
    ∃ v, bits .or .u64 (l.getD q 0) (shl .u64 x ((8 * r : Nat) : Int)) = v ∧ (0 ≤ v ∧ v < ((18446744073709551616 : Nat) : Int)) ∧ val 18446744073709551616 (l.set q v) = V + ((256 : Nat) : Int) ^ (8 * q + r) * x := by
  obtain ⟨a0, a1⟩ := word_small V l h hV q r hr hlt
  have p8 := pow8 r hr
  have hw := pow_word q r
  have hset := fun v => val_set 18446744073709551616 l q v hq
  obtain ⟨a, ha⟩ := Int.eq_ofNat_of_zero_le a0
  obtain ⟨y, rfl⟩ := Int.eq_ofNat_of_zero_le hx.1
  rw [ha] at a1 hset ⊢
  have hy : y * 2 ^ (8 * r) ≤ 255 * 2 ^ (8 * r) := Nat.mul_le_mul_right _ (by omega)
  have a2 : a < 2 ^ (8 * r) := by omega
  refine ⟨((a + y * 2 ^ (8 * r) : Nat) : Int), ?_, ⟨by omega, by omega⟩, ?_⟩
  · rw [shl_eq y (8 * r) (by omega) (by omega), or_plus a y (8 * r) a2 (by omega) (by omega)]
  · rw [hset, hV, ← hw]
    have e : ((a + y * 2 ^ (8 * r) : Nat) : Int) - (a : Int) = ((2 ^ (8 * r) : Nat) : Int) * (y : Int) := by rw [Int.natCast_add, Int.natCast_mul, Int.mul_comm (y : Int)]; omega
    rw [e, Int.mul_assoc]
theorem from_idx (n i : Nat) (h : i < n) (hn : n ≤ 512) :
    wrap64 (Int.tdiv (i : Int) 8) = ((i / 8 : Nat) : Int) ∧ wrap64 (wrap64 ((n : Int) - 1) - (i : Int)) = ((n - 1 - i : Nat) : Int) ∧ wrap64 (8 * Int.tmod (i : Int) 8) = ((8 * (i % 8) : Nat) : Int) ∧ wrap64 ((i : Int) + 1) = ((i + 1 : Nat) : Int) ∧
      (0 : Int) ≤ ((i / 8 : Nat) : Int) ∧ ((i / 8 : Nat) : Int) < (((n + 7) / 8 : Nat) : Int) ∧ (0 : Int) ≤ ((n - 1 - i : Nat) : Int) ∧ ((n - 1 - i : Nat) : Int) < (n : Int) ∧ (0 : Int) ≤ ((8 * (i % 8) : Nat) : Int) := by
  refine ⟨?_, ?_, ?_, ?_, by omega, by omega, by omega, by omega, by omega⟩
  · rw [tdiv_ (by omega), w64 (by omega) (by omega)]; omega
  · rw [w64 (n := (n : Int) - 1) (by omega) (by omega), w64 (by omega) (by omega)]; omega
  · rw [tmod_ (by omega), w64 (by omega) (by omega)]; omega
  · rw [w64 (by omega) (by omega)]; omega
theorem from_loop (l : List Int) (h : Dig 256 l) (hl : l.length ≤ 512) (n : Int) (hn : n = (l.length : Int)) (K : Nat) (hK : K = 600) : ∀ (d i : Nat) (out : List Int), i + d = l.length → out.length = (l.length + 7) / 8 → Dig 18446744073709551616 out → val 18446744073709551616 out = val 256 (l.reverse.take i) →
    ∀ k : Nat, d + K < k → nat_From.l0 k l out n (i : Int) = some (digs 18446744073709551616 (be l), none) := by
  intro d
  induction d with
  | zero =>
    intro i out hi ho hd hv k hk
    obtain ⟨k, rfl⟩ : ∃ m, k = m + 1 := ⟨k - 1, by omega⟩
    have hneg : ¬ ((i : Int) < n) := by omega
    rw [nat_From.l0, if_neg hneg, trim_spec out hd (by omega) k (by omega), Option.bind_some, hv, List.take_of_length_le (by rw [List.length_reverse]; omega)]
    rfl
  | succ d ih =>
    intro i out hi ho hd hv k hk
    obtain ⟨k, rfl⟩ : ∃ m, k = m + 1 := ⟨k - 1, by omega⟩
    have hp : (i : Int) < n := by omega
    obtain ⟨e1, e2, e3, e4, g1, g2, g3, g4, g5⟩ := from_idx l.length i (by omega) hl
    have q1 : i / 8 < out.length := by clear hv ih e1 e2 e3 e4; omega
    have q2 : i % 8 < 8 := Nat.mod_lt _ (by decide)
    have q3 : i < l.length := by clear hv ih e1 e2 e3 e4; omega
    have q4 : i < l.reverse.length := by rw [List.length_reverse]; exact q3
    have q5 : i + 1 + d = l.length := by clear hv ih e1 e2 e3 e4; omega
    have q6 : d + K < k := by clear hv ih e1 e2 e3 e4; omega
    have hi8 : 8 * (i / 8) + i % 8 = i := Nat.div_add_mod i 8
    have hx := h.at_ (by decide) (l.length - 1 - i)
    have hV := val_lt ((dig_rev h).take i)
    rw [List.length_take, List.length_reverse, Nat.min_eq_left (Nat.le_of_lt q3)] at hV
    obtain ⟨v, v1, v2, v3⟩ := from_round (i / 8) (i % 8) q2 out hd q1 _ hv (by rw [hi8]; exact hV) _ hx
    clear hV
    rw [hi8, ← rev_at l i q3, ← val_take 256 l.reverse i q4] at v3
    rw [← ho] at g2
    have hw : IntKind.u64.wrap (l.getD (l.length - 1 - i) 0) = l.getD (l.length - 1 - i) 0 := by clear v3 v2 v1 hv e1 e2 e3 e4 ih; exact wu64 (by omega) (by omega)
    rw [nat_From.l0, if_pos hp, e1, if_pos g1, if_pos g2, e2, if_pos g3, if_pos g4, e3, if_pos g5, rd_nat, rd_nat, hw, v1, e4, Int.toNat_natCast]
    exact ih (i + 1) (out.set (i / 8) v) q5 (by rw [List.length_set]; exact ho) (hd.set _ v2) v3 k q6
theorem from_spec (l : List Int) (h : Dig 256 l) (K : Nat) (hK : K = 512) (hl : l.length ≤ K) (k : Nat) (hk : 2000 < k) : nat_From.f k l = some (digs 18446744073709551616 (be l), none) := by
  have g0 : ¬ ((l.length : Int) > 512) := by omega
  have e1 : wrap64 (Int.tdiv (wrap64 ((l.length : Int) + 7)) 8) = (((l.length + 7) / 8 : Nat) : Int) := by rw [w64 (n := (l.length : Int) + 7) (by omega) (by omega), tdiv_ (by omega), w64 (by omega) (by omega)]; omega
  have g1 : (0 : Int) ≤ (((l.length + 7) / 8 : Nat) : Int) := by omega
  have g2 : (l.length + 7) / 8 ≤ 35184372088832 := by omega
  unfold nat_From.f
  rw [if_neg g0, e1, if_pos g1, Int.toNat_natCast, if_pos g2]
  exact from_loop l h (by omega) _ rfl _ rfl l.length 0 _ (by omega) (by simp) (Dig.reps (by omega) _) (by rw [val_reps, List.take_zero]; rfl) k (by omega)
theorem from_long (l : List Int) (h : (l.length : Int) > 512) (k : Nat) : nat_From.f k l = some ([], some 2) := by
  unfold nat_From.f
  rw [if_pos h]
end Go.Proofs.Ytolflieiipnndaa.X
