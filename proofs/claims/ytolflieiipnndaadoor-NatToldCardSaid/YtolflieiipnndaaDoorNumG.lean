/- What the printed functions compute: the product. -/
import Derived.Test.YtolflieiipnndaaDoorMg38
import Derived.Test.YtolflieiipnndaaDoorXP1
import Derived.Test.YtolflieiipnndaaDoorXP2
import Derived.Test.YtolflieiipnndaaDoorXP3
import Derived.Test.YtolflieiipnndaaDoorXP4
import Derived.Test.YtolflieiipnndaaDoorXP5
namespace Go.Proofs.YtolflieiipnndaaDoor.X
open Go.RowKit Go.Proofs.YtolflieiipnndaaDoor Go.Proofs.YtolflieiipnndaaDoorW.PrintWords Go.Proofs.YtolflieiipnndaaDoorW.PrintLast Go.Proofs.YtolflieiipnndaaDoorW.PrintMore Go.Proofs.YtolflieiipnndaaDoor.Num
set_option linter.unusedVariables false
set_option linter.unusedSimpArgs false
theorem prod_le {x y : Int} (hx : 0 ≤ x ∧ x < 18446744073709551616) (hy : 0 ≤ y ∧ y < 18446744073709551616) : 0 ≤ x * y ∧ x * y ≤ 340282366920938463426481119284349108225 := by
  refine ⟨Int.mul_nonneg hx.1 hy.1, ?_⟩
  have a1 : x * y ≤ x * 18446744073709551615 := Int.mul_le_mul_of_nonneg_left (by omega) hx.1
  omega
/-- One round of a row of the product. -/
theorem mul_round (x y o c : Int) (hx : 0 ≤ x ∧ x < 18446744073709551616) (hy : 0 ≤ y ∧ y < 18446744073709551616) (ho : 0 ≤ o ∧ o < 18446744073709551616) (hc : 0 ≤ c ∧ c < 18446744073709551616) :
    ∃ h l l1 k1 k2 : Int, bits_Mul64.f x y = some (h, l) ∧ bits_Add64.f l o 0 = some (l1, k1) ∧ bits_Add64.f l1 c 0 = some ((x * y + o + c) % 18446744073709551616, k2) ∧
      IntKind.u64.wrap (IntKind.u64.wrap (h + k1) + k2) = (x * y + o + c) / 18446744073709551616 ∧ (0 ≤ (x * y + o + c) / 18446744073709551616 ∧ (x * y + o + c) / 18446744073709551616 < 18446744073709551616) ∧ (0 ≤ (x * y + o + c) % 18446744073709551616 ∧ (x * y + o + c) % 18446744073709551616 < 18446744073709551616) := by
  obtain ⟨p0, p1⟩ := prod_le hx hy
  refine ⟨x * y / 18446744073709551616, x * y % 18446744073709551616, (x * y % 18446744073709551616 + o + 0) % 18446744073709551616, (x * y % 18446744073709551616 + o + 0) / 18446744073709551616, ((x * y % 18446744073709551616 + o + 0) % 18446744073709551616 + c + 0) / 18446744073709551616, ?_, ?_, ?_, ?_⟩
  · unfold bits_Mul64.f
    rw [if_pos ⟨hx, hy⟩]
  · generalize x * y = P at *
    exact add64_eq (by omega) (by omega) (by omega) (by omega)
  · generalize x * y = P at *
    have e : (P + o + c) % 18446744073709551616 = ((P % 18446744073709551616 + o + 0) % 18446744073709551616 + c + 0) % 18446744073709551616 := by omega
    rw [e]
    exact add64_eq (by omega) (by omega) (by omega) (by omega)
  · generalize x * y = P at *
    rw [IntKind.wrap_u64, IntKind.wrap_u64]
    omega
theorem mul_idx (i j la lb : Nat) (hi : i < la) (hj : j < lb) (h1 : la ≤ 64) (h2 : lb ≤ 64) :
    wrap64 ((i : Int) + (j : Int)) = ((i + j : Nat) : Int) ∧ wrap64 ((j : Int) + 1) = ((j + 1 : Nat) : Int) ∧ (j : Int) < (lb : Int) ∧ (0 : Int) ≤ (j : Int) ∧ (0 : Int) ≤ ((i + j : Nat) : Int) ∧ ((i + j : Nat) : Int) < ((la + lb : Nat) : Int) := by
  refine ⟨?_, ?_, by omega, by omega, by omega, by omega⟩
  · rw [w64 (by omega) (by omega)]; omega
  · rw [w64 (by omega) (by omega)]; omega
theorem mul_idx2 (i la lb : Nat) (hi : i < la) (h1 : la ≤ 64) (h2 : lb ≤ 64) :
    wrap64 ((i : Int) + (lb : Int)) = ((i + lb : Nat) : Int) ∧ wrap64 ((i : Int) + 1) = ((i + 1 : Nat) : Int) ∧ ¬ ((lb : Int) < (lb : Int)) ∧ (0 : Int) ≤ ((i + lb : Nat) : Int) ∧ ((i + lb : Nat) : Int) < ((la + lb : Nat) : Int) ∧ (i : Int) < (la : Int) ∧ (0 : Int) ≤ (i : Int) := by
  refine ⟨?_, ?_, by omega, by omega, by omega, by omega, by omega⟩
  · rw [w64 (by omega) (by omega)]; omega
  · rw [w64 (by omega) (by omega)]; omega
theorem mul_alg (P Q W V x y o c V0 T S s t : Int) (hv : V + P * Q * c = V0 + P * (x * T)) (hs : s + W * t = x * y + o + c) : V + P * Q * (s - o) + P * Q * W * t = V0 + P * (x * (T + Q * y)) := by
  have g := congrArg (P * Q * ·) hs
  simp only [Int.mul_add] at g
  rw [Int.mul_sub, Int.mul_add, Int.mul_add, ← Int.add_assoc, ← hv]
  have e1 : P * (x * (Q * y)) = P * Q * (x * y) := by rw [Int.mul_left_comm x, Int.mul_assoc]
  have e2 : P * Q * (W * t) = P * Q * W * t := (Int.mul_assoc ..).symm
  rw [e1]
  rw [e2] at g
  generalize P * Q * W * t = A at *
  generalize P * Q * s = B at *
  generalize P * Q * (x * y) = C at *
  generalize P * Q * o = D at *
  generalize P * Q * c = E at *
  omega
theorem mul_inner (a b : List Int) (ha : Dig 18446744073709551616 a) (hb : Dig 18446744073709551616 b) (la : a.length ≤ 64) (lb : b.length ≤ 64) (i : Nat) (hi : i < a.length) (V0 x : Int) (hx0 : x = a.getD i 0) (n m : Int) (hm : m = (b.length : Int)) :
    ∀ (d j : Nat) (out : List Int) (c : Int), j + d = b.length → out.length = a.length + b.length → Dig 18446744073709551616 out → 0 ≤ c ∧ c < 18446744073709551616 → out.getD (i + b.length) 0 = 0 →
      val 18446744073709551616 out + ((18446744073709551616 : Nat) : Int) ^ i * ((18446744073709551616 : Nat) : Int) ^ j * c = V0 + ((18446744073709551616 : Nat) : Int) ^ i * (x * val 18446744073709551616 (b.take j)) →
      ∀ k : Nat, ∃ out', nat_Mul.l1 (k + d + 1) b out (i : Int) x c a n (i : Int) b m (j : Int) = nat_Mul.l0 k b out' a n ((i + 1 : Nat) : Int) ∧ out'.length = a.length + b.length ∧ Dig 18446744073709551616 out' ∧
        val 18446744073709551616 out' = V0 + ((18446744073709551616 : Nat) : Int) ^ i * (x * val 18446744073709551616 b) := by
  obtain ⟨s1, s2, s3, s4, s5, s6, s7⟩ := mul_idx2 i a.length b.length hi la lb
  have hx : 0 ≤ x ∧ x < 18446744073709551616 := by rw [hx0]; exact ha.at_ (by decide) i
  intro d
  induction d with
  | zero =>
    intro j out c hj ho hd hc hz hv k
    have hj2 : j = b.length := hj
    subst hj2
    have hlen : i + b.length < out.length := by rw [ho]; exact Nat.add_lt_add_right hi _
    refine ⟨out.set (i + b.length) c, ?_, by rw [List.length_set]; exact ho, hd.set _ hc, ?_⟩
    · have s5' : ((i + b.length : Nat) : Int) < (out.length : Int) := by rw [ho]; exact s5
      rw [nat_Mul.l1, hm, if_neg s3, s1, if_pos s4, if_pos s5', Int.toNat_natCast, s2]
    · rw [val_set _ _ _ _ hlen, hz, Int.sub_zero, Int.pow_add, hv, List.take_length]
  | succ d ih =>
    intro j out c hj ho hd hc hz hv k
    have hjb : j < b.length := by clear hv ih s1 s2; omega
    obtain ⟨t1, t2, t3, t4, t5, t6⟩ := mul_idx i j a.length b.length hi hjb la lb
    have hy := hb.at_ (by decide) j
    have hp := hd.at_ (by decide) (i + j)
    obtain ⟨h, l, l1, k1, k2, r1, r2, r3, r4, r5, r6⟩ := mul_round x (b.getD j 0) (out.getD (i + j) 0) c hx hy hp hc
    have t6' : ((i + j : Nat) : Int) < (out.length : Int) := by rw [ho]; exact t6
    have hlen : i + j < out.length := by rw [ho]; exact Nat.add_lt_add hi hjb
    have q5 : j + 1 + d = b.length := by clear hv ih s1 s2 t1 t2 r1 r2 r3 r4 r5 r6; omega
    have hne : i + j ≠ i + b.length := by clear hv ih s1 s2 t1 t2 r1 r2 r3 r4 r5 r6; omega
    obtain ⟨out', g1, g2⟩ := ih (j + 1) (out.set (i + j) ((x * b.getD j 0 + out.getD (i + j) 0 + c) % 18446744073709551616)) ((x * b.getD j 0 + out.getD (i + j) 0 + c) / 18446744073709551616) q5 (by rw [List.length_set]; exact ho) (hd.set _ r6) r5
      (by rw [List.getD_eq_getElem?_getD, List.getElem?_set_ne hne, ← List.getD_eq_getElem?_getD]; exact hz)
      (by
        rw [val_set _ _ _ _ hlen, val_take_any 18446744073709551616 b j, pow_succ_, ← Int.mul_assoc, Int.pow_add]
        exact mul_alg _ _ _ _ _ _ _ _ _ _ 0 _ _ hv (Int.emod_add_mul_ediv _ _)) k
    refine ⟨out', ?_, g2⟩
    rw [← g1, ← Nat.add_assoc, Nat.add_right_comm k d 1, nat_Mul.l1, hm, if_pos t3, if_pos t4, if_pos t3, rd_nat, r1, Option.bind_some, t1, if_pos t5, if_pos t6', rd_nat]
    show (bits_Add64.f l _ 0).bind _ = _
    rw [r2, Option.bind_some]
    show (bits_Add64.f l1 _ 0).bind _ = _
    rw [r3, Option.bind_some]
    show nat_Mul.l1 _ b (out.set _ ((x * b.getD j 0 + out.getD (i + j) 0 + c) % 18446744073709551616)) _ _ (IntKind.u64.wrap (IntKind.u64.wrap (h + k1) + k2)) _ _ _ _ _ _ = _
    rw [r4, t2, Int.toNat_natCast]
theorem mul_loop (a b : List Int) (ha : Dig 18446744073709551616 a) (hb : Dig 18446744073709551616 b) (la : a.length ≤ 64) (lb : b.length ≤ 64) (n : Int) (hn : n = (a.length : Int)) :
    ∀ (d i : Nat) (out : List Int), i + d = a.length → out.length = a.length + b.length → Dig 18446744073709551616 out → val 18446744073709551616 out = val 18446744073709551616 (a.take i) * val 18446744073709551616 b →
      ∀ k : Nat, d * (b.length + 2) + 200 < k → nat_Mul.l0 k b out a n (i : Int) = some (digs 18446744073709551616 (val 18446744073709551616 a * val 18446744073709551616 b), none) := by
  intro d
  induction d with
  | zero =>
    intro i out hi ho hd hv k hk
    obtain ⟨k, rfl⟩ : ∃ m, k = m + 1 := ⟨k - 1, by clear hv; omega⟩
    have h1 : ¬ ((i : Int) < n) := by clear hv; omega
    have h2 : out.length < k := by clear hv; omega
    have h3 : out.length ≤ 4611686018427387904 := by clear hv; omega
    have h4 : a.length ≤ i := by clear hv; omega
    rw [nat_Mul.l0, if_neg h1, trim_spec out hd h3 k h2, Option.bind_some, hv, val_whole _ a i h4]
  | succ d ih =>
    intro i out hi ho hd hv k hk
    rw [Nat.succ_mul] at hk
    have hil : i < a.length := by clear hv ih; omega
    have q5 : i + 1 + d = a.length := by clear hv ih; omega
    obtain ⟨s1, s2, s3, s4, s5, s6, s7⟩ := mul_idx2 i a.length b.length hil la lb
    obtain ⟨k, rfl⟩ : ∃ m, k = m + b.length + 1 + 1 := ⟨k - b.length - 2, by clear hv ih; omega⟩
    have q6 : d * (b.length + 2) + 200 < k := by clear hv ih; omega
    have hz : out.getD (i + b.length) 0 = 0 := by
      rw [digit (by decide) hd (i + b.length), hv]
      have h1 := val_lt (ha.take i)
      have h2 := val_lt hb
      rw [List.length_take, Nat.min_eq_left (Nat.le_of_lt hil)] at h1
      have h3 := mul_lt (val_nonneg (ha.take i)) (val_nonneg hb) h1 (Int.le_of_lt h2) (pow_pos_ (by decide) b.length)
      rw [← Int.pow_add] at h3
      rw [Int.ediv_eq_zero_of_lt (Int.mul_nonneg (val_nonneg (ha.take i)) (val_nonneg hb)) h3]
      rfl
    obtain ⟨out', g1, g2, g3, g4⟩ := mul_inner a b ha hb la lb i hil _ (a.getD i 0) rfl n (b.length : Int) rfl b.length 0 out 0 (Nat.zero_add _) ho hd ⟨by decide, by decide⟩ hz (by
      rw [hv, Int.mul_zero, List.take_zero]
      show _ = _ + _ * (_ * (0 : Int))
      rw [Int.mul_zero, Int.mul_zero]) k
    rw [nat_Mul.l0, hn, if_pos s6, if_pos s7, if_pos s6, rd_nat, ← hn]
    refine Eq.trans g1 (ih (i + 1) out' q5 g2 g3 ?_ k q6)
    rw [g4, val_take 18446744073709551616 a i hil, Int.add_mul, Int.mul_assoc]
theorem mul_spec (a b : List Int) (ha : Dig 18446744073709551616 a) (hb : Dig 18446744073709551616 b) (la : a.length ≤ 4611686018427387904) (lb : b.length ≤ 4611686018427387904) (K : Nat) (hK : K = 5000) (k : Nat) (hka : a.length + K < k) (hkb : b.length + K < k) :
    nat_Mul.f k a b = if dlen a ≤ 64 ∧ dlen b ≤ 64 then some (digs 18446744073709551616 (val 18446744073709551616 a * val 18446744073709551616 b), none) else some ([], some 2) := by
  have k1 : a.length < k := by omega
  have k2 : b.length < k := by omega
  unfold nat_Mul.f
  rw [both_spec a b ha hb la lb k k1 k2]
  by_cases hl : dlen a ≤ 64 ∧ dlen b ≤ 64
  · rw [if_pos hl, if_pos hl, Option.bind_some, if_pos (show (none : Option Int).isNone = true from rfl)]
    have da := digs_dig (show 2 ≤ 18446744073709551616 by decide) (val 18446744073709551616 a)
    have db := digs_dig (show 2 ≤ 18446744073709551616 by decide) (val 18446744073709551616 b)
    have va := val_digs (show 2 ≤ 18446744073709551616 by decide) _ (val_nonneg ha)
    have vb := val_digs (show 2 ≤ 18446744073709551616 by decide) _ (val_nonneg hb)
    have l1 : (digs 18446744073709551616 (val 18446744073709551616 a)).length ≤ 64 := hl.1
    have l2 : (digs 18446744073709551616 (val 18446744073709551616 b)).length ≤ 64 := hl.2
    generalize digs 18446744073709551616 (val 18446744073709551616 a) = x at *
    generalize digs 18446744073709551616 (val 18446744073709551616 b) = y at *
    have e : wrap64 ((x.length : Int) + (y.length : Int)) = ((x.length + y.length : Nat) : Int) := by
      clear va vb da db
      rw [w64 (by omega) (by omega)]; omega
    have e2 : x.length + y.length ≤ 35184372088832 := by clear va vb da db e; omega
    have e3 : (0 : Int) ≤ ((x.length + y.length : Nat) : Int) := Int.natCast_nonneg _
    have e4 : x.length * (y.length + 2) + 200 < k := by
      have : x.length * (y.length + 2) ≤ 64 * 66 := Nat.mul_le_mul l1 (by clear va vb da db e; omega)
      clear va vb da db e
      omega
    have hm := mul_loop x y da db l1 l2 _ rfl x.length 0 (List.replicate (x.length + y.length) 0) (Nat.zero_add _) (List.length_replicate ..) (Dig.reps (by decide) _) (by
      rw [val_reps, List.take_zero]; show (0 : Int) = 0 * _; rw [Int.zero_mul]) k e4
    rw [va, vb] at hm
    show (if 0 ≤ wrap64 ((x.length : Int) + (y.length : Int)) then _ else _) = _
    rw [e, if_pos e3, Int.toNat_natCast, if_pos e2]
    exact hm
  · rw [if_neg hl, if_neg hl, Option.bind_some, if_neg (show ¬ ((some (2 : Int)).isNone = true) by decide)]
    rfl
end Go.Proofs.YtolflieiipnndaaDoor.X
