/- Joined: NumG, NumH. -/
import Derived.Test.YtolflieiipnndaaNumD
import Derived.Test.YtolflieiipnndaaXP13
import Derived.Test.YtolflieiipnndaaMg34
/- What the printed functions compute: the product. -/
namespace Go.Proofs.Ytolflieiipnndaa.X
open Go.RowKit Go.Proofs.Ytolflieiipnndaa Go.Proofs.YtolflieiipnndaaW.PrintWords Go.Proofs.YtolflieiipnndaaW.PrintLast Go.Proofs.YtolflieiipnndaaW.PrintMore Go.Proofs.Ytolflieiipnndaa.Num
set_option linter.unusedVariables false
set_option linter.unusedSimpArgs false
theorem prod_le {x y : Int} (hx : 0 ≤ x ∧ x < 18446744073709551616) (hy : 0 ≤ y ∧ y < 18446744073709551616) : 0 ≤ x * y ∧ x * y ≤ 340282366920938463426481119284349108225 := by
  refine ⟨Int.mul_nonneg hx.1 hy.1, ?_⟩
  have a1 : x * y ≤ x * 18446744073709551615 := Int.mul_le_mul_of_nonneg_left (by omega) hx.1
  omega
/-- One round of a row of the product. -/
theorem mul_round (x y o c : Int) (hx : 0 ≤ x ∧ x < 18446744073709551616) (hy : 0 ≤ y ∧ y < 18446744073709551616) (ho : 0 ≤ o ∧ o < 18446744073709551616) (hc : 0 ≤ c ∧ c < 18446744073709551616) :
    ∃ h l l1 k1 k2 : Int, bits_Mul64.f x y = some (h, l) ∧ bits_Add64.f l o 0 = some (l1, k1) ∧ bits_Add64.f l1 c 0 = some ((x * y + o + c) % 18446744073709551616, k2) ∧
      IntKind.u64.wrap (IntKind.u64.wrap (h + k1) + k2) = (x * y + o + c) / 18446744073709551616 ∧ (0 ≤ (x * y + o + c) / 18446744073709551616 ∧ (x * y + o + c) / 18446744073709551616 < 18446744073709551616) ∧ (0 ≤ (x * y + o + c) % 18446744073709551616 ∧ (x * y + o + c) % 18446744073709551616 < 18446744073709551616) := by
  obtain ⟨p0, p1⟩ := prod_le hx hy
  refine ⟨x * y / 18446744073709551616, x * y % 18446744073709551616, (x * y % 18446744073709551616 + o + 0) % 18446744073709551616, (x * y % 18446744073709551616 + o + 0) / 18446744073709551616, ((x * y % 18446744073709551616 + o + 0) % 18446744073709551616 + c + 0) / 18446744073709551616, ?_, ?_, ?_, ?_⟩
  · unfold bits_Mul64.f
    rw [if_pos ⟨hx, hy⟩]
  · generalize x * y = P at *
    exact add64_eq (by omega) (by omega) (by omega) (by omega)
  · generalize x * y = P at *
    have e : (P + o + c) % 18446744073709551616 = ((P % 18446744073709551616 + o + 0) % 18446744073709551616 + c + 0) % 18446744073709551616 := by omega
    rw [e]
    exact add64_eq (by omega) (by omega) (by omega) (by omega)
  · generalize x * y = P at *
    rw [IntKind.wrap_u64, IntKind.wrap_u64]
    omega
theorem mul_idx (i j la lb : Nat) (hi : i < la) (hj : j < lb) (h1 : la ≤ 64) (h2 : lb ≤ 64) :
    wrap64 ((i : Int) + (j : Int)) = ((i + j : Nat) : Int) ∧ wrap64 ((j : Int) + 1) = ((j + 1 : Nat) : Int) ∧ (j : Int) < (lb : Int) ∧ (0 : Int) ≤ (j : Int) ∧ (0 : Int) ≤ ((i + j : Nat) : Int) ∧ ((i + j : Nat) : Int) < ((la + lb : Nat) : Int) := by
  refine ⟨?_, ?_, by omega, by omega, by omega, by omega⟩
  · rw [w64 (by omega) (by omega)]; omega
  · rw [w64 (by omega) (by omega)]; omega
theorem mul_idx2 (i la lb : Nat) (hi : i < la) (h1 : la ≤ 64) (h2 : lb ≤ 64) :
    wrap64 ((i : Int) + (lb : Int)) = ((i + lb : Nat) : Int) ∧ wrap64 ((i : Int) + 1) = ((i + 1 : Nat) : Int) ∧ ¬ ((lb : Int) < (lb : Int)) ∧ (0 : Int) ≤ ((i + lb : Nat) : Int) ∧ ((i + lb : Nat) : Int) < ((la + lb : Nat) : Int) ∧ (i : Int) < (la : Int) ∧ (0 : Int) ≤ (i : Int) := by
  refine ⟨?_, ?_, by omega, by omega, by omega, by omega, by omega⟩
  · rw [w64 (by omega) (by omega)]; omega
  · rw [w64 (by omega) (by omega)]; omega
theorem mul_alg (P Q W V x y o c V0 T S s t : Int) (hv : V + P * Q * c = V0 + P * (x * T)) (hs : s + W * t = x * y + o + c) : V + P * Q * (s - o) + P * Q * W * t = V0 + P * (x * (T + Q * y)) := by
  have g := congrArg (P * Q * ·) hs
  simp only [Int.mul_add] at g
  rw [Int.mul_sub, Int.mul_add, Int.mul_add, ← Int.add_assoc, ← hv]
  have e1 : P * (x * (Q * y)) = P * Q * (x * y) := by rw [Int.mul_left_comm x, Int.mul_assoc]
  have e2 : P * Q * (W * t) = P * Q * W * t := (Int.mul_assoc ..).symm
  rw [e1]
  rw [e2] at g
  generalize P * Q * W * t = A at *
  generalize P * Q * s = B at *
  generalize P * Q * (x * y) = C at *
  generalize P * Q * o = D at *
  generalize P * Q * c = E at *
  omega
theorem mul_inner (a b : List Int) (ha : Dig 18446744073709551616 a) (hb : Dig 18446744073709551616 b) (la : a.length ≤ 64) (lb : b.length ≤ 64) (i : Nat) (hi : i < a.length) (V0 x : Int) (hx0 : x = a.getD i 0) (n m : Int) (hm : m = (b.length : Int)) :
    ∀ (d j : Nat) (out : List Int) (c : Int), j + d = b.length → out.length = a.length + b.length → Dig 18446744073709551616 out → 0 ≤ c ∧ c < 18446744073709551616 → out.getD (i + b.length) 0 = 0 →
      val 18446744073709551616 out + ((18446744073709551616 : Nat) : Int) ^ i * ((18446744073709551616 : Nat) : Int) ^ j * c = V0 + ((18446744073709551616 : Nat) : Int) ^ i * (x * val 18446744073709551616 (b.take j)) →
      ∀ k : Nat, ∃ out', nat_Mul.l1 (k + d + 1) b out (i : Int) x c a n (i : Int) b m (j : Int) = nat_Mul.l0 k b out' a n ((i + 1 : Nat) : Int) ∧ out'.length = a.length + b.length ∧ Dig 18446744073709551616 out' ∧
        val 18446744073709551616 out' = V0 + ((18446744073709551616 : Nat) : Int) ^ i * (x * val 18446744073709551616 b) := by
  obtain ⟨s1, s2, s3, s4, s5, s6, s7⟩ := mul_idx2 i a.length b.length hi la lb
  have hx : 0 ≤ x ∧ x < 18446744073709551616 := by rw [hx0]; exact ha.at_ (by decide) i
  intro d
  induction d with
  | zero =>
    intro j out c hj ho hd hc hz hv k
    have hj2 : j = b.length := hj
    subst hj2
    have hlen : i + b.length < out.length := by rw [ho]; exact Nat.add_lt_add_right hi _
    refine ⟨out.set (i + b.length) c, ?_, by rw [List.length_set]; exact ho, hd.set _ hc, ?_⟩
    · have s5' : ((i + b.length : Nat) : Int) < (out.length : Int) := by rw [ho]; exact s5
      rw [nat_Mul.l1, hm, if_neg s3, s1, if_pos s4, if_pos s5', Int.toNat_natCast, s2]
    · rw [val_set _ _ _ _ hlen, hz, Int.sub_zero, Int.pow_add, hv, List.take_length]
  | succ d ih =>
    intro j out c hj ho hd hc hz hv k
    have hjb : j < b.length := by clear hv ih s1 s2; omega
    obtain ⟨t1, t2, t3, t4, t5, t6⟩ := mul_idx i j a.length b.length hi hjb la lb
    have hy := hb.at_ (by decide) j
    have hp := hd.at_ (by decide) (i + j)
    obtain ⟨h, l, l1, k1, k2, r1, r2, r3, r4, r5, r6⟩ := mul_round x (b.getD j 0) (out.getD (i + j) 0) c hx hy hp hc
    have t6' : ((i + j : Nat) : Int) < (out.length : Int) := by rw [ho]; exact t6
    have hlen : i + j < out.length := by rw [ho]; exact Nat.add_lt_add hi hjb
    have q5 : j + 1 + d = b.length := by clear hv ih s1 s2 t1 t2 r1 r2 r3 r4 r5 r6; omega
    have hne : i + j ≠ i + b.length := by clear hv ih s1 s2 t1 t2 r1 r2 r3 r4 r5 r6; omega
    obtain ⟨out', g1, g2⟩ := ih (j + 1) (out.set (i + j) ((x * b.getD j 0 + out.getD (i + j) 0 + c) % 18446744073709551616)) ((x * b.getD j 0 + out.getD (i + j) 0 + c) / 18446744073709551616) q5 (by rw [List.length_set]; exact ho) (hd.set _ r6) r5
      (by rw [List.getD_eq_getElem?_getD, List.getElem?_set_ne hne, ← List.getD_eq_getElem?_getD]; exact hz)
      (by
        rw [val_set _ _ _ _ hlen, val_take_any 18446744073709551616 b j, pow_succ_, ← Int.mul_assoc, Int.pow_add]
        exact mul_alg _ _ _ _ _ _ _ _ _ _ 0 _ _ hv (Int.emod_add_mul_ediv _ _)) k
    refine ⟨out', ?_, g2⟩
    rw [← g1, ← Nat.add_assoc, Nat.add_right_comm k d 1, nat_Mul.l1, hm, if_pos t3, if_pos t4, if_pos t3, rd_nat, r1, Option.bind_some, t1, if_pos t5, if_pos t6', rd_nat]
    show (bits_Add64.f l _ 0).bind _ = _
    rw [r2, Option.bind_some]
    show (bits_Add64.f l1 _ 0).bind _ = _
    rw [r3, Option.bind_some]
    show nat_Mul.l1 _ b (out.set _ ((x * b.getD j 0 + out.getD (i + j) 0 + c) % 18446744073709551616)) _ _ (IntKind.u64.wrap (IntKind.u64.wrap (h + k1) + k2)) _ _ _ _ _ _ = _
    rw [r4, t2, Int.toNat_natCast]
theorem mul_loop (a b : List Int) (ha : Dig 18446744073709551616 a) (hb : Dig 18446744073709551616 b) (la : a.length ≤ 64) (lb : b.length ≤ 64) (n : Int) (hn : n = (a.length : Int)) :
    ∀ (d i : Nat) (out : List Int), i + d = a.length → out.length = a.length + b.length → Dig 18446744073709551616 out → val 18446744073709551616 out = val 18446744073709551616 (a.take i) * val 18446744073709551616 b →
      ∀ k : Nat, d * (b.length + 2) + 200 < k → nat_Mul.l0 k b out a n (i : Int) = some (digs 18446744073709551616 (val 18446744073709551616 a * val 18446744073709551616 b), none) := by
  intro d
  induction d with
  | zero =>
    intro i out hi ho hd hv k hk
    obtain ⟨k, rfl⟩ : ∃ m, k = m + 1 := ⟨k - 1, by clear hv; omega⟩
    have h1 : ¬ ((i : Int) < n) := by clear hv; omega
    have h2 : out.length < k := by clear hv; omega
    have h3 : out.length ≤ 4611686018427387904 := by clear hv; omega
    have h4 : a.length ≤ i := by clear hv; omega
    rw [nat_Mul.l0, if_neg h1, trim_spec out hd h3 k h2, Option.bind_some, hv, val_whole _ a i h4]
  | succ d ih =>
    intro i out hi ho hd hv k hk
    rw [Nat.succ_mul] at hk
    have hil : i < a.length := by clear hv ih; omega
    have q5 : i + 1 + d = a.length := by clear hv ih; omega
    obtain ⟨s1, s2, s3, s4, s5, s6, s7⟩ := mul_idx2 i a.length b.length hil la lb
    obtain ⟨k, rfl⟩ : ∃ m, k = m + b.length + 1 + 1 := ⟨k - b.length - 2, by clear hv ih; omega⟩
    have q6 : d * (b.length + 2) + 200 < k := by clear hv ih; omega
    have hz : out.getD (i + b.length) 0 = 0 := by
      rw [digit (by decide) hd (i + b.length), hv]
      have h1 := val_lt (ha.take i)
      have h2 := val_lt hb
      rw [List.length_take, Nat.min_eq_left (Nat.le_of_lt hil)] at h1
      have h3 := mul_lt (val_nonneg (ha.take i)) (val_nonneg hb) h1 (Int.le_of_lt h2) (pow_pos_ (by decide) b.length)
      rw [← Int.pow_add] at h3
      rw [Int.ediv_eq_zero_of_lt (Int.mul_nonneg (val_nonneg (ha.take i)) (val_nonneg hb)) h3]
      rfl
    obtain ⟨out', g1, g2, g3, g4⟩ := mul_inner a b ha hb la lb i hil _ (a.getD i 0) rfl n (b.length : Int) rfl b.length 0 out 0 (Nat.zero_add _) ho hd ⟨by decide, by decide⟩ hz (by
      rw [hv, Int.mul_zero, List.take_zero]
      show _ = _ + _ * (_ * (0 : Int))
      rw [Int.mul_zero, Int.mul_zero]) k
    rw [nat_Mul.l0, hn, if_pos s6, if_pos s7, if_pos s6, rd_nat, ← hn]
    refine Eq.trans g1 (ih (i + 1) out' q5 g2 g3 ?_ k q6)
    rw [g4, val_take 18446744073709551616 a i hil, Int.add_mul, Int.mul_assoc]
theorem mul_spec (a b : List Int) (ha : Dig 18446744073709551616 a) (hb : Dig 18446744073709551616 b) (la : a.length ≤ 4611686018427387904) (lb : b.length ≤ 4611686018427387904) (K : Nat) (hK : K = 5000) (k : Nat) (hka : a.length + K < k) (hkb : b.length + K < k) :
    nat_Mul.f k a b = if dlen a ≤ 64 ∧ dlen b ≤ 64 then some (digs 18446744073709551616 (val 18446744073709551616 a * val 18446744073709551616 b), none) else some ([], some 2) := by
  have k1 : a.length < k := by omega
  have k2 : b.length < k := by omega
  unfold nat_Mul.f
  rw [both_spec a b ha hb la lb k k1 k2]
  by_cases hl : dlen a ≤ 64 ∧ dlen b ≤ 64
  · rw [if_pos hl, if_pos hl, Option.bind_some, if_pos (show (none : Option Int).isNone = true from rfl)]
    have da := digs_dig (show 2 ≤ 18446744073709551616 by decide) (val 18446744073709551616 a)
    have db := digs_dig (show 2 ≤ 18446744073709551616 by decide) (val 18446744073709551616 b)
    have va := val_digs (show 2 ≤ 18446744073709551616 by decide) _ (val_nonneg ha)
    have vb := val_digs (show 2 ≤ 18446744073709551616 by decide) _ (val_nonneg hb)
    have l1 : (digs 18446744073709551616 (val 18446744073709551616 a)).length ≤ 64 := hl.1
    have l2 : (digs 18446744073709551616 (val 18446744073709551616 b)).length ≤ 64 := hl.2
    generalize digs 18446744073709551616 (val 18446744073709551616 a) = x at *
    generalize digs 18446744073709551616 (val 18446744073709551616 b) = y at *
    have e : wrap64 ((x.length : Int) + (y.length : Int)) = ((x.length + y.length : Nat) : Int) := by
      clear va vb da db
      rw [w64 (by omega) (by omega)]; omega
    have e2 : x.length + y.length ≤ 35184372088832 := by clear va vb da db e; omega
    have e3 : (0 : Int) ≤ ((x.length + y.length : Nat) : Int) := Int.natCast_nonneg _
    have e4 : x.length * (y.length + 2) + 200 < k := by
      have : x.length * (y.length + 2) ≤ 64 * 66 := Nat.mul_le_mul l1 (by clear va vb da db e; omega)
      clear va vb da db e
      omega
    have hm := mul_loop x y da db l1 l2 _ rfl x.length 0 (List.replicate (x.length + y.length) 0) (Nat.zero_add _) (List.length_replicate ..) (Dig.reps (by decide) _) (by
      rw [val_reps, List.take_zero]; show (0 : Int) = 0 * _; rw [Int.zero_mul]) k e4
    rw [va, vb] at hm
    show (if 0 ≤ wrap64 ((x.length : Int) + (y.length : Int)) then _ else _) = _
    rw [e, if_pos e3, Int.toNat_natCast, if_pos e2]
    exact hm
  · rw [if_neg hl, if_neg hl, Option.bind_some, if_neg (show ¬ ((some (2 : Int)).isNone = true) by decide)]
    rfl
end Go.Proofs.Ytolflieiipnndaa.X

/- What the printed functions compute: the document's division. -/
namespace Go.Proofs.Ytolflieiipnndaa.X
open Go.RowKit Go.Proofs.Ytolflieiipnndaa Go.Proofs.YtolflieiipnndaaW.PrintWords Go.Proofs.YtolflieiipnndaaW.PrintLast Go.Proofs.YtolflieiipnndaaW.PrintMore Go.Proofs.Ytolflieiipnndaa.Num
set_option linter.unusedVariables false
set_option linter.unusedSimpArgs false
theorem half_ (N j : Nat) : N / 2 ^ j = 2 * (N / 2 ^ (j + 1)) + (if N.testBit j then 1 else 0) := by
  rw [Nat.testBit_eq_decide_div_mod_eq, Nat.pow_succ, ← Nat.div_div_eq_div_mul]
  by_cases h : N / 2 ^ j % 2 = 1
  · simp [h]; omega
  · simp [h]; omega
/-- A number as the document writes it. -/
def rdg (n : Nat) : List Int := digs 65536 (n : Int)
theorem rdg_len {m n : Nat} (h : m ≤ n) : (rdg m).length ≤ (rdg n).length := rlen_mono (Int.natCast_nonneg _) (Int.ofNat_le.2 h)
theorem rdg_val (n : Nat) : val 65536 (rdg n) = (n : Int) := val_digs (by decide) _ (Int.natCast_nonneg _)
theorem rdg_dig (n : Nat) : Dig 65536 (rdg n) := digs_dig (by decide) _
theorem rdg_add (m n : Nat) (hm : (rdg m).length ≤ 5000) (hn : (rdg n).length ≤ 5000) (K : Nat) (hK : K = 20000) (k : Nat) (hk : K < k) : treenailref01_Add.f k (rdg m) (rdg n) = some (rdg (m + n)) := by
  have h := radd_spec (rdg m) (rdg n) (rdg_dig m) (rdg_dig n) (by omega) (by omega) k (by omega) (by omega)
  rw [rdg_val, rdg_val] at h
  rw [h]
  unfold rdg
  rw [Int.natCast_add]
theorem rdg_one : rdg 1 = [1] := digs_small (by decide) (by decide) (by decide)
theorem double_spec (n : Nat) (b : Bool) (hn : (rdg (2 * n)).length ≤ 5000) (K : Nat) (hK : K = 20000) (k : Nat) (hk : K < k) : treenailref01_double.f k (rdg n) b = some (rdg (2 * n + (if b then 1 else 0))) := by
  have h0 : (rdg n).length ≤ 5000 := Nat.le_trans (rdg_len (by omega)) hn
  have h1 : (rdg 1).length ≤ 5000 := by rw [rdg_one]; decide
  unfold treenailref01_double.f
  rw [rdg_add n n h0 h0 K hK k hk, Option.bind_some, ← Nat.two_mul]
  cases b with
  | false => rfl
  | true => rw [if_pos rfl, ← rdg_one, rdg_add (2 * n) 1 hn h1 K hK k hk]; rfl
theorem div_step (N M j : Nat) (hM : 0 < M) (t : Nat) (ht : t = 2 * (N / 2 ^ (j + 1) % M) + (if N.testBit j then 1 else 0)) :
    t ≤ N ∧ 2 * (N / 2 ^ (j + 1) / M) ≤ N ∧ (M ≤ t → N / 2 ^ j / M = 2 * (N / 2 ^ (j + 1) / M) + 1 ∧ N / 2 ^ j % M = t - M) ∧ (¬ M ≤ t → N / 2 ^ j / M = 2 * (N / 2 ^ (j + 1) / M) ∧ N / 2 ^ j % M = t) := by
  have h1 := half_ N j
  have h2 := Nat.div_add_mod (N / 2 ^ (j + 1)) M
  have h3 := Nat.mod_lt (N / 2 ^ (j + 1)) hM
  have h4 : N / 2 ^ j ≤ N := Nat.div_le_self _ _
  generalize hq : N / 2 ^ (j + 1) / M = q at *
  generalize hr : N / 2 ^ (j + 1) % M = r at *
  generalize N / 2 ^ (j + 1) = A at *
  generalize N / 2 ^ j = B at *
  have hb : (if N.testBit j then 1 else 0) ≤ (1 : Nat) := by by_cases h : N.testBit j <;> simp [h]
  generalize (if N.testBit j then 1 else 0 : Nat) = b at *
  have h5 : B = M * (2 * q) + t := by rw [Nat.mul_left_comm]; omega
  have h6 : q ≤ M * q := Nat.le_mul_of_pos_left q hM
  have h7 : M * (2 * q) = 2 * (M * q) := Nat.mul_left_comm ..
  refine ⟨by omega, by omega, ?_, ?_⟩
  · intro hle
    have := (Nat.div_mod_unique (a := B) (b := M) (c := t - M) (d := 2 * q + 1) hM).2 ⟨by rw [Nat.mul_add]; omega, by omega⟩
    exact this
  · intro hle
    have := (Nat.div_mod_unique (a := B) (b := M) (c := t) (d := 2 * q) hM).2 ⟨by omega, by omega⟩
    exact this
theorem cmpI_ge (a b : Int) : cmpI a b ≥ 0 ↔ b ≤ a := by
  unfold cmpI
  by_cases h : a < b
  · rw [if_pos h]; omega
  · rw [if_neg h]
    by_cases h2 : b < a
    · rw [if_pos h2]; omega
    · rw [if_neg h2]; omega
theorem rdiv_loop (N M : Nat) (hM : 0 < M) (hl : (rdg N).length ≤ 4096) (hlM : (rdg M).length ≤ 4096) (K : Nat) (hK : K = 20000) : ∀ (j : Nat), j ≤ 65536 → ∀ k : Nat, j + K + 1 < k →
    treenailref01_Div.l0 k (rdg N) (rdg M) (rdg (N / 2 ^ j / M)) (rdg (N / 2 ^ j % M)) ((j : Int) - 1) = some (rdg (N / M), rdg (N % M)) := by
  intro j
  induction j with
  | zero =>
    intro _ k hk
    obtain ⟨k, rfl⟩ : ∃ m, k = m + 1 := ⟨k - 1, by omega⟩
    have h1 : ¬ (((0 : Nat) : Int) - 1 ≥ 0) := by decide
    rw [treenailref01_Div.l0, if_neg h1, Nat.pow_zero, Nat.div_one]
  | succ j ih =>
    intro hj k hk
    obtain ⟨k, rfl⟩ : ∃ m, k = m + 1 := ⟨k - 1, by omega⟩
    have q1 : j ≤ 65536 := by omega
    have q2 : j + K + 1 < k := by omega
    have q3 : K < k := by omega
    have q4 : 40 < k := by omega
    have e1 : (((j + 1 : Nat) : Int) - 1) = (j : Int) := by omega
    have e2 : (j : Int) ≥ 0 := Int.natCast_nonneg _
    have e3 : wrap64 ((j : Int) - 1) = (j : Int) - 1 := w64 (by omega) (by omega)
    have e4 : (j : Int) ≤ 9223372036854775807 := by omega
    obtain ⟨s1, s2, s3, s4⟩ := div_step N M j hM _ rfl
    have ihk := ih q1 k q2
    have hb := rbit_spec (N : Int) (Int.natCast_nonneg _) (Nat.le_trans hl (by decide)) (j : Int) e4 k q4
    rw [decide_eq_true e2, Bool.true_and, Int.toNat_natCast, Int.toNat_natCast] at hb
    have hb2 : treenailref01_Bit.f k (rdg N) (j : Int) = some (N.testBit j) := hb
    generalize hr : N / 2 ^ (j + 1) % M = r at *
    generalize hq : N / 2 ^ (j + 1) / M = q at *
    have lr : (rdg (2 * r)).length ≤ 5000 := Nat.le_trans (Nat.le_trans (rdg_len (by clear ihk hb hb2 s3 s4 ih; omega)) hl) (by decide)
    have lq : (rdg (2 * q)).length ≤ 5000 := Nat.le_trans (Nat.le_trans (rdg_len s2) hl) (by decide)
    have hd1 := double_spec r (N.testBit j) lr K hK k q3
    have hd2 := fun b => double_spec q b lq K hK k q3
    generalize ht : 2 * r + (if N.testBit j then 1 else 0) = t at *
    have lt : (rdg t).length ≤ 4096 := Nat.le_trans (rdg_len s1) hl
    have hc := rcmp_spec (t : Int) (M : Int) (Int.natCast_nonneg _) (Int.natCast_nonneg _) (Nat.le_trans lt (by decide)) (Nat.le_trans hlM (by decide)) k (by clear ihk hb hb2 s3 s4 ih hd1 hd2 ht; have : (rdg t).length = (digs 65536 (t : Int)).length := rfl; omega)
    have hc2 : treenailref01_Cmp.f k (rdg t) (rdg M) = some (cmpI t M) := hc
    rw [treenailref01_Div.l0, e1, if_pos e2, hb2, Option.bind_some, hd1, Option.bind_some, hc2, Option.bind_some]
    by_cases hle : M ≤ t
    · have hg : cmpI t M ≥ 0 := (cmpI_ge _ _).2 (Int.ofNat_le.2 hle)
      obtain ⟨u1, u2⟩ := s3 hle
      have hs := rsub_spec (t : Int) (M : Int) (Int.natCast_nonneg _) (Int.ofNat_le.2 hle) (Nat.le_trans lt (by decide)) k (by clear ihk hb hb2 s3 s4 ih hd1 hd2 ht hc hc2 u1 u2; have : (rdg t).length = (digs 65536 (t : Int)).length := rfl; omega)
      rw [← Int.ofNat_sub hle] at hs
      have hs2 : treenailref01_Sub.f k (rdg t) (rdg M) = some (rdg (t - M)) := hs
      rw [if_pos hg, hs2, Option.bind_some, hd2, Option.bind_some, e3, decide_eq_true hg, if_pos rfl, ← u1, ← u2]
      exact ihk
    · have hg : ¬ cmpI t M ≥ 0 := fun h => hle (Int.ofNat_le.1 ((cmpI_ge _ _).1 h))
      obtain ⟨u1, u2⟩ := s4 hle
      rw [if_neg hg, hd2, Option.bind_some, e3, decide_eq_false hg, if_neg (by decide), Nat.add_zero, ← u1]
      rw [u2] at ihk
      exact ihk
theorem rdiv_spec (N M : Nat) (hM : 0 < M) (hl : (rdg N).length ≤ 4096) (hlM : (rdg M).length ≤ 4096) (K : Nat) (hK : K = 90000) (k : Nat) (hk : K < k) : treenailref01_Div.f k (rdg N) (rdg M) = some (rdg (N / M), rdg (N % M)) := by
  have hb := rbits_spec (N : Int) (Int.natCast_nonneg _) (Nat.le_trans hl (by decide)) k (by omega)
  have hb2 : treenailref01_Bits.f k (rdg N) = some (nbits (N : Int) : Int) := hb
  have h0 : N < 2 ^ nbits (N : Int) := by
    have := (nbits_le (N : Int) (Int.natCast_nonneg _) _).1 (Nat.le_refl _)
    exact_mod_cast this
  obtain ⟨E, hE⟩ : ∃ E, E = 65536 := ⟨_, rfl⟩
  have h1 : nbits (N : Int) ≤ E := by
    refine (nbits_le _ (Int.natCast_nonneg _) _).2 ?_
    have h2 := (digs_len (show 2 ≤ 65536 by decide) (rdg N).length (N : Int) (Int.natCast_nonneg _)).1 (Nat.le_refl _)
    refine Int.lt_of_lt_of_le h2 ?_
    have h3 : 65536 ^ (rdg N).length ≤ 2 ^ E := by
      rw [show 65536 ^ (rdg N).length = 2 ^ (16 * (rdg N).length) by rw [Nat.pow_mul]]
      exact Nat.pow_le_pow_right (by decide) (by omega)
    exact_mod_cast h3
  unfold treenailref01_Div.f
  rw [hb2, Option.bind_some]
  generalize nbits (N : Int) = B at *
  have e : wrap64 ((B : Int) - 1) = (B : Int) - 1 := w64 (by omega) (by omega)
  have hz : N / 2 ^ B = 0 := Nat.div_eq_of_lt h0
  have h := rdiv_loop N M hM hl hlM 20000 rfl B (by omega) k (by clear hz h0 e; omega)
  rw [hz, Nat.zero_div, Nat.zero_mod] at h
  rw [e]
  exact h
end Go.Proofs.Ytolflieiipnndaa.X
