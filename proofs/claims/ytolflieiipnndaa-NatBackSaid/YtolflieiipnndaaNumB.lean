/- What the printed functions compute: sums and differences; digits of 16 bits and of 64. -/
import Derived.Test.YtolflieiipnndaaNumA
import Derived.Test.YtolflieiipnndaaXP4
namespace Go.Proofs.Ytolflieiipnndaa.X
open Go.RowKit Go.Proofs.Ytolflieiipnndaa Go.Proofs.YtolflieiipnndaaW.PrintWords Go.Proofs.YtolflieiipnndaaW.PrintLast Go.Proofs.YtolflieiipnndaaW.PrintMore Go.Proofs.Ytolflieiipnndaa.Num
set_option linter.unusedVariables false
set_option linter.unusedSimpArgs false

theorem val_take_any (B : Nat) (l : List Int) (i : Nat) : val B (l.take (i + 1)) = val B (l.take i) + (B : Int) ^ i * l.getD i 0 := by
  rcases Nat.lt_or_ge i l.length with h | h
  · exact val_take B l i h
  · have : l.getD i 0 = 0 := by simp [List.getD_eq_getElem?_getD, List.getElem?_eq_none h]
    rw [this, List.take_of_length_le (by omega), List.take_of_length_le h]; simp
theorem carry_step (P B d c' x y c V Va Vb : Int) (h1 : V + P * c = Va + Vb) (h2 : d + B * c' = x + y + c) : V + P * d + P * B * c' = Va + P * x + (Vb + P * y) := by
  have := congrArg (P * ·) h2
  simp only [Int.mul_add, ← Int.mul_assoc] at this
  omega
theorem add64_eq {a b c : Int} (ha : 0 ≤ a) (hb : 0 ≤ b) (hc : 0 ≤ c) (h1 : c ≤ 1) : bits_Add64.f a b c = some ((a + b + c) % 18446744073709551616, (a + b + c) / 18446744073709551616) := by
  unfold bits_Add64.f; rw [if_pos ⟨⟨ha, hb⟩, hc, h1⟩]
theorem sub64_eq {a b c : Int} (ha : 0 ≤ a ∧ a < 18446744073709551616) (hb : 0 ≤ b ∧ b < 18446744073709551616) (hc : 0 ≤ c) (h1 : c ≤ 1) : bits_Sub64.f a b c = some ((a - b - c) % 18446744073709551616, if a < b + c then 1 else 0) := by
  unfold bits_Sub64.f; rw [if_pos ⟨⟨ha, hb⟩, hc, h1⟩]
/-- The end of a sum or a product: the last digit, and no noughts. -/
theorem set_last {B : Nat} (l : List Int) (n : Nat) (c : Int) (h : l.length = n + 1) : val B (l.set n c) = val B (l.take n) + (B : Int) ^ n * c := by
  rw [← val_take_set B l n c (by omega), List.take_of_length_le (by simp; omega)]
theorem add_loop (a b : List Int) (ha : Dig 18446744073709551616 a) (hb : Dig 18446744073709551616 b) (hab : b.length ≤ a.length) (la : a.length ≤ 17592186044416) :
    ∀ (d i : Nat) (out : List Int) (c : Int), i + d = a.length → out.length = a.length + 1 → Dig 18446744073709551616 out → 0 ≤ c → c ≤ 1 →
      val 18446744073709551616 (out.take i) + ((18446744073709551616 : Nat) : Int) ^ i * c = val 18446744073709551616 (a.take i) + val 18446744073709551616 (b.take i) →
      ∀ k : Nat, d + a.length + 2 < k → nat_Add.l0 k a b out c (a.length : Int) (i : Int) = some (digs 18446744073709551616 (val 18446744073709551616 a + val 18446744073709551616 b), none) := by
  intro d
  induction d with
  | zero =>
    intro i out c hi ho hd c0 c1 hv k hk
    obtain ⟨k, rfl⟩ : ∃ m, k = m + 1 := ⟨k - 1, by omega⟩
    obtain rfl : i = a.length := by omega
    simp (disch := omega) only [nat_Add.l0, if_pos, if_neg, Int.toNat_natCast]
    rw [trim_spec _ (hd.set _ ⟨c0, by omega⟩) (by simp; omega) k (by simp; omega), set_last out a.length c ho, hv, List.take_length, val_whole _ b _ hab]
    rfl
  | succ d ih =>
    intro i out c hi ho hd c0 c1 hv k hk
    obtain ⟨k, rfl⟩ : ∃ m, k = m + 1 := ⟨k - 1, by omega⟩
    have hx := ha.at_ (by omega) i
    have hy := hb.at_ (by omega) i
    have e : ((i : Int) + 1) = ((i + 1 : Nat) : Int) := by omega
    have hstep : nat_Add.l0 k a b (out.set i ((a.getD i 0 + b.getD i 0 + c) % 18446744073709551616)) ((a.getD i 0 + b.getD i 0 + c) / 18446744073709551616) (a.length : Int) ((i + 1 : Nat) : Int) = some (digs 18446744073709551616 (val 18446744073709551616 a + val 18446744073709551616 b), none) := by
      refine ih (i + 1) _ _ (by omega) (by simpa using ho) (hd.set _ (by omega)) (by omega) (by omega) ?_ k (by omega)
      rw [val_take_set _ _ _ _ (by omega), val_take _ _ _ (by omega), val_take_any _ b i, pow_succ_]
      exact carry_step _ _ _ _ _ _ _ _ _ _ hv (by omega)
    by_cases hib : i < b.length
    · simp (disch := omega) only [nat_Add.l0, if_pos, if_neg, rd_nat, w64, add64_eq, Option.bind_some, Int.toNat_natCast, e]
      exact hstep
    · have hy0 : b.getD i 0 = 0 := by simp [List.getD_eq_getElem?_getD, List.getElem?_eq_none (show b.length ≤ i by omega)]
      rw [hy0] at hstep
      simp (disch := omega) only [nat_Add.l0, if_pos, if_neg, rd_nat, w64, add64_eq, Option.bind_some, Int.toNat_natCast, e]
      exact hstep
theorem add_j (a b : List Int) (ha : Dig 18446744073709551616 a) (hb : Dig 18446744073709551616 b) (hab : b.length ≤ a.length) (la : a.length ≤ 17592186044416) (k : Nat) (hk : 2 * a.length + 3 < k) :
    nat_Add.j0 k a b = some (digs 18446744073709551616 (val 18446744073709551616 a + val 18446744073709551616 b), none) := by
  obtain ⟨k, rfl⟩ : ∃ m, k = m + 1 := ⟨k - 1, by omega⟩
  have e : ((a.length : Int) + 1).toNat = a.length + 1 := by omega
  simp (disch := omega) only [nat_Add.j0, if_pos, if_neg, w64, e]
  exact add_loop a b ha hb hab la a.length 0 _ 0 (by omega) (by simp) (Dig.reps (by omega) _) (by omega) (by omega) (by simp [val]) k (by omega)
theorem digs_lt_len (l : List Int) (h : Dig 18446744073709551616 l) : (digs 18446744073709551616 (val 18446744073709551616 l)).length ≤ l.length := dlen_le l h
theorem add_spec (a b : List Int) (ha : Dig 18446744073709551616 a) (hb : Dig 18446744073709551616 b) (la : a.length ≤ 17592186044416) (lb : b.length ≤ 17592186044416) (k : Nat) (hka : 2 * a.length + 200 < k) (hkb : 2 * b.length + 200 < k) :
    nat_Add.f k a b = if dlen a ≤ 64 ∧ dlen b ≤ 64 then some (digs 18446744073709551616 (val 18446744073709551616 a + val 18446744073709551616 b), none) else some ([], some 2) := by
  unfold nat_Add.f
  rw [both_spec a b ha hb (by omega) (by omega) k (by omega) (by omega)]
  by_cases h : dlen a ≤ 64 ∧ dlen b ≤ 64
  · rw [if_pos h, if_pos h]
    simp only [Option.bind_some, Option.isNone_none, if_true]
    have v1 := val_digs (show 2 ≤ 18446744073709551616 by omega) _ (val_nonneg ha)
    have v2 := val_digs (show 2 ≤ 18446744073709551616 by omega) _ (val_nonneg hb)
    have g1 := digs_dig (show 2 ≤ 18446744073709551616 by omega) (val 18446744073709551616 a)
    have g2 := digs_dig (show 2 ≤ 18446744073709551616 by omega) (val 18446744073709551616 b)
    have l1 := digs_lt_len a ha
    have l2 := digs_lt_len b hb
    by_cases hl : (digs 18446744073709551616 (val 18446744073709551616 a)).length < (digs 18446744073709551616 (val 18446744073709551616 b)).length
    · rw [if_pos (by omega), add_j _ _ g2 g1 (by omega) (by omega) k (by omega), v1, v2, Int.add_comm]
    · rw [if_neg (by omega), add_j _ _ g1 g2 (by omega) (by omega) k (by omega), v1, v2]
  · rw [if_neg h, if_neg h]
    rfl
theorem sub_loop (a b : List Int) (ha : Dig 18446744073709551616 a) (hb : Dig 18446744073709551616 b) (hab : b.length ≤ a.length) (la : a.length ≤ 17592186044416) (hle : val 18446744073709551616 b ≤ val 18446744073709551616 a) :
    ∀ (d i : Nat) (out : List Int) (c : Int), i + d = a.length → out.length = a.length → Dig 18446744073709551616 out → 0 ≤ c → c ≤ 1 →
      val 18446744073709551616 (a.take i) + ((18446744073709551616 : Nat) : Int) ^ i * c = val 18446744073709551616 (out.take i) + val 18446744073709551616 (b.take i) →
      ∀ k : Nat, d + a.length + 2 < k → nat_Sub.l0 k a b out c (a.length : Int) (i : Int) = some (digs 18446744073709551616 (val 18446744073709551616 a - val 18446744073709551616 b), none) := by
  intro d
  induction d with
  | zero =>
    intro i out c hi ho hd c0 c1 hv k hk
    obtain ⟨k, rfl⟩ : ∃ m, k = m + 1 := ⟨k - 1, by omega⟩
    obtain rfl : i = a.length := by omega
    simp (disch := omega) only [nat_Sub.l0, if_pos, if_neg, Int.toNat_natCast]
    rw [trim_spec _ hd (by omega) k (by omega)]
    have hlt := val_lt hd
    rw [ho] at hlt
    rw [List.take_length, val_whole _ b _ hab, val_whole _ out _ (by omega)] at hv
    have : c = 0 := by
      rcases (show c = 0 ∨ c = 1 by omega) with rfl | rfl
      · rfl
      · rw [Int.mul_one] at hv; omega
    subst this
    rw [Int.mul_zero] at hv
    rw [show val 18446744073709551616 out = val 18446744073709551616 a - val 18446744073709551616 b by omega]
    rfl
  | succ d ih =>
    intro i out c hi ho hd c0 c1 hv k hk
    obtain ⟨k, rfl⟩ : ∃ m, k = m + 1 := ⟨k - 1, by omega⟩
    have hx := ha.at_ (by omega) i
    have hy := hb.at_ (by omega) i
    have e : ((i : Int) + 1) = ((i + 1 : Nat) : Int) := by omega
    have hstep : nat_Sub.l0 k a b (out.set i ((a.getD i 0 - b.getD i 0 - c) % 18446744073709551616)) (if a.getD i 0 < b.getD i 0 + c then 1 else 0) (a.length : Int) ((i + 1 : Nat) : Int) = some (digs 18446744073709551616 (val 18446744073709551616 a - val 18446744073709551616 b), none) := by
      refine ih (i + 1) _ _ (by omega) (by simpa using ho) (hd.set _ (by omega)) (by split <;> omega) (by split <;> omega) ?_ k (by omega)
      rw [val_take_set _ _ _ _ (by omega), val_take _ _ _ (by omega), val_take_any _ b i, pow_succ_]
      have := carry_step (((18446744073709551616 : Nat) : Int) ^ i) ((18446744073709551616 : Nat) : Int) (a.getD i 0) (if a.getD i 0 < b.getD i 0 + c then 1 else 0) ((a.getD i 0 - b.getD i 0 - c) % 18446744073709551616) (b.getD i 0) c _ _ _ hv (by split <;> omega)
      omega
    by_cases hib : i < b.length
    · simp (disch := omega) only [nat_Sub.l0, if_pos, if_neg, rd_nat, w64, sub64_eq, Option.bind_some, Int.toNat_natCast, e]
      exact hstep
    · have hy0 : b.getD i 0 = 0 := by simp [List.getD_eq_getElem?_getD, List.getElem?_eq_none (show b.length ≤ i by omega)]
      rw [hy0] at hstep
      simp (disch := omega) only [nat_Sub.l0, if_pos, if_neg, rd_nat, w64, sub64_eq, Option.bind_some, Int.toNat_natCast, e]
      exact hstep
theorem cmpI_lt (a b : Int) : cmpI a b < 0 ↔ a < b := by
  unfold cmpI
  split
  · omega
  · split <;> omega
theorem len_mono {m n : Int} (hm : 0 ≤ m) (h : m ≤ n) : (digs 18446744073709551616 m).length ≤ (digs 18446744073709551616 n).length := by
  have := (digs_len (show 2 ≤ 18446744073709551616 by omega) (digs 18446744073709551616 n).length n (by omega)).1 (Nat.le_refl _)
  exact (digs_len (show 2 ≤ 18446744073709551616 by omega) _ m hm).2 (by omega)
theorem sub_spec (a b : List Int) (ha : Dig 18446744073709551616 a) (hb : Dig 18446744073709551616 b) (la : a.length ≤ 17592186044416) (lb : b.length ≤ 17592186044416) (k : Nat) (hka : 2 * a.length + 200 < k) (hkb : 2 * b.length + 200 < k) :
    nat_Sub.f k a b = if dlen a ≤ 64 ∧ dlen b ≤ 64 then (if val 18446744073709551616 a < val 18446744073709551616 b then some ([], some 3) else some (digs 18446744073709551616 (val 18446744073709551616 a - val 18446744073709551616 b), none)) else some ([], some 2) := by
  unfold nat_Sub.f
  rw [both_spec a b ha hb (by omega) (by omega) k (by omega) (by omega)]
  by_cases h : dlen a ≤ 64 ∧ dlen b ≤ 64
  · rw [if_pos h, if_pos h]
    simp only [Option.bind_some, Option.isNone_none, if_true]
    have h0a := val_nonneg ha
    have h0b := val_nonneg hb
    have v1 := val_digs (show 2 ≤ 18446744073709551616 by omega) _ h0a
    have v2 := val_digs (show 2 ≤ 18446744073709551616 by omega) _ h0b
    have g1 := digs_dig (show 2 ≤ 18446744073709551616 by omega) (val 18446744073709551616 a)
    have g2 := digs_dig (show 2 ≤ 18446744073709551616 by omega) (val 18446744073709551616 b)
    have l1 := digs_lt_len a ha
    have l2 := digs_lt_len b hb
    rw [cmp_spec _ _ g1 g2 (by omega) (by omega) k (by omega) (by omega), v1, v2]
    simp only [Option.bind_some]
    by_cases hlt : val 18446744073709551616 a < val 18446744073709551616 b
    · rw [if_pos ((cmpI_lt _ _).2 hlt), if_pos hlt]
    · rw [if_neg (fun hh => hlt ((cmpI_lt _ _).1 hh)), if_neg hlt]
      have l3 := len_mono h0b (show val 18446744073709551616 b ≤ val 18446744073709551616 a by omega)
      simp (disch := omega) only [if_pos, Int.toNat_natCast]
      have hs := sub_loop _ _ g1 g2 l3 (by omega) (by omega) (digs 18446744073709551616 (val 18446744073709551616 a)).length 0 (List.replicate (digs 18446744073709551616 (val 18446744073709551616 a)).length 0) 0 (by omega) (by simp) (Dig.reps (by omega) _) (by omega) (by omega) (by simp [val]) k (by omega)
      rw [v1, v2] at hs
      exact hs
  · rw [if_neg h, if_neg h]
    rfl
theorem same_loop (a b : List Int) (hl : a.length = b.length) (la : a.length ≤ 4611686018427387904) : ∀ (d i : Nat), i + d = a.length → a.take i = b.take i → ∀ k : Nat, d < k → treenailref01_Same.l0 k a b (i : Int) = some (decide (a = b)) := by
  intro d
  induction d with
  | zero =>
    intro i hi he k hk
    obtain ⟨k, rfl⟩ : ∃ m, k = m + 1 := ⟨k - 1, by omega⟩
    rw [List.take_of_length_le (by omega), List.take_of_length_le (by omega)] at he
    simp (disch := omega) only [treenailref01_Same.l0, if_pos, if_neg]
    simp [he]
  | succ d ih =>
    intro i hi he k hk
    obtain ⟨k, rfl⟩ : ∃ m, k = m + 1 := ⟨k - 1, by omega⟩
    have e : ((i : Int) + 1) = ((i + 1 : Nat) : Int) := by omega
    simp (disch := omega) only [treenailref01_Same.l0, if_pos, if_neg, rd_nat, w64, e]
    by_cases h : a.getD i 0 = b.getD i 0
    · rw [if_pos h]
      exact ih (i + 1) (by omega) (by rw [take_rd a i (by omega), take_rd b i (by omega), he, h]) k (by omega)
    · rw [if_neg h]
      have : ¬ a = b := fun hab => h (by rw [hab])
      simp [this]
theorem same_spec (a b : List Int) (la : a.length ≤ 4611686018427387904) (k : Nat) (hk : a.length < k) : treenailref01_Same.f k a b = some (decide (a = b)) := by
  unfold treenailref01_Same.f
  by_cases h : a.length = b.length
  · rw [if_pos (by omega)]
    exact same_loop a b h la a.length 0 (by omega) (by simp) k hk
  · rw [if_neg (by omega)]
    have : ¬ a = b := fun hab => h (by rw [hab])
    simp [this]
theorem copied_spec (l : List Int) (h : l.length ≤ 17592186044415) : treenaillaw01_copied.f l = some l := by
  unfold treenaillaw01_copied.f
  simp only [Option.bind_some, List.length_nil, List.nil_append]
  rw [if_pos (by omega)]
theorem long_spec (l : List Int) (h : Dig 18446744073709551616 l) (hl : l.length ≤ 4611686018427387904) (k : Nat) (hk : l.length < k) : treenaillaw01_long.f k l = some (decide (64 < dlen l)) := by
  unfold treenaillaw01_long.f
  rw [limbs_spec l h hl k hk]
  simp only [Option.bind_some, Option.some.injEq, decide_eq_decide]
  omega
/-! ### digits of 16 bits -/
theorem pow16 (i : Nat) : ((65536 : Nat) : Int) ^ (4 * i) = ((18446744073709551616 : Nat) : Int) ^ i := by
  rw [Int.pow_mul]; rfl
theorem of_step (x : Int) (hx : 0 ≤ x ∧ x < 18446744073709551616) (l out : List Int) (i j : Int) (hj : 0 ≤ j ∧ j < 4) (ho : out.length < 17592186044416) (k : Nat) :
    treenailref01_Of.l1 (k + 1) l out i x j = treenailref01_Of.l1 k l (out ++ [x % 65536]) i (x / 65536) (j + 1) := by
  simp (disch := omega) only [treenailref01_Of.l1, if_pos, tdiv_, tmod_, w64, wu64]
theorem of_inner (x : Int) (hx : 0 ≤ x ∧ x < 18446744073709551616) (l out : List Int) (i : Int) (ho : out.length < 17592186044412) (k : Nat) :
    treenailref01_Of.l1 (k + 5) l out i x 0 = treenailref01_Of.l0 k l (out ++ [x % 65536, x / 65536 % 65536, x / 65536 / 65536 % 65536, x / 65536 / 65536 / 65536 % 65536]) (wrap64 (i + 1)) := by
  rw [of_step x hx l out i 0 (by omega) (by omega) (k + 4), of_step _ (by omega) l _ i _ (by omega) (by simp; omega) (k + 3), of_step _ (by omega) l _ i _ (by omega) (by simp; omega) (k + 2), of_step _ (by omega) l _ i _ (by omega) (by simp; omega) (k + 1)]
  simp (disch := omega) only [treenailref01_Of.l1, if_neg, List.append_assoc, List.cons_append, List.nil_append]
theorem of_loop (l : List Int) (h : Dig 18446744073709551616 l) (hl : l.length ≤ 1099511627776) : ∀ (d i : Nat) (out : List Int), i + d = l.length → out.length = 4 * i → Dig 65536 out → val 65536 out = val 18446744073709551616 (l.take i) →
    ∀ k : Nat, 6 * d + 4 * l.length + 2 < k → treenailref01_Of.l0 k l out (i : Int) = some (digs 65536 (val 18446744073709551616 l)) := by
  intro d
  induction d with
  | zero =>
    intro i out hi ho hd hv k hk
    obtain ⟨k, rfl⟩ : ∃ m, k = m + 1 := ⟨k - 1, by omega⟩
    simp (disch := omega) only [treenailref01_Of.l0, if_pos, if_neg]
    rw [rtrim_spec out hd (by omega) k (by omega), hv, List.take_of_length_le (by omega)]
    rfl
  | succ d ih =>
    intro i out hi ho hd hv k hk
    obtain ⟨k, rfl⟩ : ∃ m, k = m + 6 := ⟨k - 6, by omega⟩
    have hx := h.at_ (by omega) i
    have e : ((i : Int) + 1) = ((i + 1 : Nat) : Int) := by omega
    simp (disch := omega) only [treenailref01_Of.l0, if_pos, if_neg, rd_nat]
    rw [of_inner _ hx l out i (by omega) k, w64 (by omega) (by omega), e]
    have hvt : val 18446744073709551616 (l.take (i + 1)) = val 18446744073709551616 (l.take i) + ((18446744073709551616 : Nat) : Int) ^ i * l.getD i 0 := val_take _ _ _ (by omega)
    generalize l.getD i 0 = x at *
    refine ih (i + 1) _ (by omega) (by simp; omega) (hd.app ?_) ?_ k (by omega)
    · intro y hy
      simp only [List.mem_cons, List.not_mem_nil, or_false] at hy
      omega
    · rw [val_append, hv, ho, pow16, hvt]
      have : val 65536 [x % 65536, x / 65536 % 65536, x / 65536 / 65536 % 65536, x / 65536 / 65536 / 65536 % 65536] = x := by
        simp only [val]; omega
      rw [this]
theorem of_spec (l : List Int) (h : Dig 18446744073709551616 l) (hl : l.length ≤ 1099511627776) (k : Nat) (hk : 10 * l.length + 2 < k) : treenailref01_Of.f k l = some (digs 65536 (val 18446744073709551616 l)) := by
  unfold treenailref01_Of.f
  exact of_loop l h hl l.length 0 [] (by omega) rfl (Dig.nil _) rfl k (by omega)
/-! ### back to digits of 64 bits -/
def group (l : List Int) (i : Nat) : Int := val 65536 ((l.drop i).take 4)
theorem group_bd (l : List Int) (h : Dig 65536 l) (i : Nat) : 0 ≤ group l i ∧ group l i < ((18446744073709551616 : Nat) : Int) := by
  refine ⟨val_nonneg ((h.drop i).take 4), ?_⟩
  have h1 := val_lt ((h.drop i).take 4)
  have h2 : ((65536 : Nat) : Int) ^ ((l.drop i).take 4).length ≤ ((65536 : Nat) : Int) ^ 4 := by
    exact_mod_cast Nat.pow_le_pow_right (by omega) (by rw [List.length_take]; omega)
  have h3 : ((65536 : Nat) : Int) ^ 4 = ((18446744073709551616 : Nat) : Int) := rfl
  unfold group
  omega
theorem to_step (l out : List Int) (h : Dig 65536 l) (hl : l.length ≤ 1099511627776) (i j : Nat) (hi : i ≤ 1099511627776) (hj : j < 4) (v : Int) (hv : 0 ≤ v ∧ v < 281474976710656) (k : Nat) :
    treenailref01_To.l1 (k + 1) l out (i : Int) v (j : Int) = treenailref01_To.l1 k l out (i : Int) (v * 65536 + l.getD (i + j) 0) ((j : Int) - 1) := by
  have e : (i : Int) + (j : Int) = ((i + j : Nat) : Int) := by omega
  have hx := h.at_ (by omega) (i + j)
  by_cases hlt : i + j < l.length
  · simp (disch := omega) only [treenailref01_To.l1, if_pos, w64, e, rd_nat, wu64]
  · have h0 : l.getD (i + j) 0 = 0 := by simp [List.getD_eq_getElem?_getD, List.getElem?_eq_none (show l.length ≤ i + j by omega)]
    rw [h0]
    simp (disch := omega) only [treenailref01_To.l1, if_pos, if_neg, w64, e, wu64, Int.add_zero]
theorem group_eq (l : List Int) (i : Nat) : group l i = ((l.getD (i + 3) 0 * 65536 + l.getD (i + 2) 0) * 65536 + l.getD (i + 1) 0) * 65536 + l.getD i 0 := by
  unfold group
  have e : ∀ n, ((l.drop i).take 4).getD n 0 = if n < 4 then l.getD (i + n) 0 else 0 := by
    intro n
    rw [List.getD_eq_getElem?_getD, List.getElem?_take]
    split
    · rw [List.getElem?_drop, List.getD_eq_getElem?_getD]
    · rfl
  have hv : ∀ m : List Int, m.length ≤ 4 → val 65536 m = ((m.getD 3 0 * 65536 + m.getD 2 0) * 65536 + m.getD 1 0) * 65536 + m.getD 0 0 := by
    intro m hm
    match m, hm with
    | [], _ => rfl
    | [a], _ => simp [val]
    | [a, b], _ => simp [val] <;> omega
    | [a, b, c], _ => simp [val] <;> omega
    | [a, b, c, d], _ => simp [val] <;> omega
    | _ :: _ :: _ :: _ :: _ :: _, h => exact absurd h (by simp)
  rw [hv _ (by rw [List.length_take]; omega), e 0, e 1, e 2, e 3]
  simp
theorem to_inner (l out : List Int) (h : Dig 65536 l) (hl : l.length ≤ 1099511627776) (i : Nat) (hi : i ≤ 1099511627776) (ho : out.length < 17592186044416) (k : Nat) :
    treenailref01_To.l1 (k + 5) l out (i : Int) 0 3 = treenailref01_To.l0 k l (out ++ [group l i]) ((i + 4 : Nat) : Int) := by
  have h3 := h.at_ (by omega) (i + 3)
  have h2 := h.at_ (by omega) (i + 2)
  have h1 := h.at_ (by omega) (i + 1)
  have h0 := h.at_ (by omega) i
  rw [group_eq]
  have s3 := to_step l out h hl i 3 hi (by omega) 0 (by omega) (k + 4)
  have s2 := to_step l out h hl i 2 hi (by omega) (0 * 65536 + l.getD (i + 3) 0) (by omega) (k + 3)
  have s1 := to_step l out h hl i 1 hi (by omega) ((0 * 65536 + l.getD (i + 3) 0) * 65536 + l.getD (i + 2) 0) (by omega) (k + 2)
  have s0 := to_step l out h hl i 0 hi (by omega) (((0 * 65536 + l.getD (i + 3) 0) * 65536 + l.getD (i + 2) 0) * 65536 + l.getD (i + 1) 0) (by omega) (k + 1)
  simp only [Int.zero_mul, Int.zero_add, Nat.add_zero] at s3 s2 s1 s0
  have e3 : ((3 : Nat) : Int) = 3 := rfl
  have e2 : ((2 : Nat) : Int) = 2 := rfl
  have e1 : ((1 : Nat) : Int) = 1 := rfl
  have e0 : ((0 : Nat) : Int) = 0 := rfl
  rw [e3, show (3 : Int) - 1 = 2 from rfl] at s3
  rw [e2, show (2 : Int) - 1 = 1 from rfl] at s2
  rw [e1, show (1 : Int) - 1 = 0 from rfl] at s1
  rw [e0, show (0 : Int) - 1 = -1 from rfl] at s0
  rw [s3, s2, s1, s0]
  have e4 : (i : Int) + 4 = ((i + 4 : Nat) : Int) := by omega
  simp (disch := omega) only [treenailref01_To.l1, if_neg, if_pos, w64, e4]
theorem to_loop (l : List Int) (h : Dig 65536 l) (hl : l.length ≤ 1099511627776) : ∀ (d i : Nat) (out : List Int), l.length ≤ 4 * (i + d) → 4 * i < l.length + 4 → out.length = i → Dig 18446744073709551616 out → val 18446744073709551616 out = val 65536 (l.take (4 * i)) →
    ∀ k : Nat, 6 * d + 2 < k → ∃ r, treenailref01_To.l0 k l out ((4 * i : Nat) : Int) = some r ∧ r.length = (l.length + 3) / 4 ∧ Dig 18446744073709551616 r ∧ val 18446744073709551616 r = val 65536 l := by
  intro d
  induction d with
  | zero =>
    intro i out hi hi2 ho hd hv k hk
    obtain ⟨k, rfl⟩ : ∃ m, k = m + 1 := ⟨k - 1, by omega⟩
    refine ⟨out, by simp (disch := omega) only [treenailref01_To.l0, if_neg], by omega, hd, ?_⟩
    rw [hv, List.take_of_length_le (by omega)]
  | succ d ih =>
    intro i out hi hi2 ho hd hv k hk
    by_cases hlt : 4 * i < l.length
    · obtain ⟨k, rfl⟩ : ∃ m, k = m + 6 := ⟨k - 6, by omega⟩
      obtain ⟨r, hr, h1, h2, h3⟩ := ih (i + 1) (out ++ [group l (4 * i)]) (by omega) (by omega) (by simp; omega) (hd.app (Dig.one (group_bd l h _))) (by
        rw [val_snoc, hv, ho, show 4 * (i + 1) = 4 * i + 4 by omega, List.take_add, val_append, List.length_take, Nat.min_eq_left (by omega), pow16]
        rfl) k (by omega)
      refine ⟨r, ?_, h1, h2, h3⟩
      simp (disch := omega) only [treenailref01_To.l0, if_pos]
      rw [to_inner l out h hl (4 * i) (by omega) (by omega) k]
      exact hr
    · obtain ⟨k, rfl⟩ : ∃ m, k = m + 1 := ⟨k - 1, by omega⟩
      refine ⟨out, by simp (disch := omega) only [treenailref01_To.l0, if_neg], by omega, hd, ?_⟩
      rw [hv, List.take_of_length_le (by omega)]
theorem to_spec (n : Int) (hn : 0 ≤ n) (hl : (digs 65536 n).length ≤ 1099511627776) (k : Nat) (hk : 2 * (digs 65536 n).length + 20 < k) : treenailref01_To.f k (digs 65536 n) = some (digs 18446744073709551616 n) := by
  unfold treenailref01_To.f
  have hd := digs_dig (show 2 ≤ 65536 by omega) n
  have hv := val_digs (show 2 ≤ 65536 by omega) n hn
  obtain ⟨r, hr, h1, h2, h3⟩ := to_loop (digs 65536 n) hd hl (((digs 65536 n).length + 3) / 4) 0 [] (by omega) (by omega) rfl (Dig.nil _) rfl k (by omega)
  have h0 : ((4 * 0 : Nat) : Int) = 0 := rfl
  rw [h0] at hr
  rw [hr]
  congr 1
  rw [hv] at h3
  have u1 := (digs_len (show 2 ≤ 65536 by omega) (digs 65536 n).length n hn).1 (Nat.le_refl _)
  refine val_inj (show 2 ≤ 18446744073709551616 by omega) h2 (digs_dig (by omega) n) ?_ (by rw [h3, val_digs (by omega) n hn])
  have hle : (digs 18446744073709551616 n).length ≤ r.length := by
    refine (digs_len (by omega) _ n hn).2 ?_
    rw [← h3]
    exact val_lt h2
  have hge : r.length ≤ (digs 18446744073709551616 n).length := by
    rw [h1]
    rcases Nat.eq_zero_or_pos (((digs 65536 n).length + 3) / 4) with h0 | h0
    · omega
    · have := (digs_len_lt (show 2 ≤ 18446744073709551616 by omega) (((digs 65536 n).length + 3) / 4 - 1) n hn).2 (by
        rw [← pow16]
        exact (digs_len_lt (show 2 ≤ 65536 by omega) _ n hn).1 (by omega))
      omega
  omega
theorem at_spec (l : List Int) (i : Nat) : treenailref01_at.f l (i : Int) = some (l.getD i 0) := by
  unfold treenailref01_at.f
  by_cases h : i < l.length
  · rw [if_pos (by omega), if_pos (by omega), rd_nat]
  · rw [if_neg (by omega)]
    simp [List.getD_eq_getElem?_getD, List.getElem?_eq_none (show l.length ≤ i by omega)]
theorem radd_loop (a b : List Int) (ha : Dig 65536 a) (hb : Dig 65536 b) (la : a.length ≤ 1099511627776) (lb : b.length ≤ 1099511627776) :
    ∀ (d i : Nat) (out : List Int) (c : Int), max a.length b.length + 1 ≤ i + d → i ≤ max a.length b.length + 1 → (max a.length b.length < i → c = 0) → out.length = i → Dig 65536 out → 0 ≤ c → c ≤ 1 →
      val 65536 out + ((65536 : Nat) : Int) ^ i * c = val 65536 (a.take i) + val 65536 (b.take i) →
      ∀ k : Nat, 2 * d + max a.length b.length + 4 < k → treenailref01_Add.l0 k a b out c (i : Int) = some (digs 65536 (val 65536 a + val 65536 b)) := by
  intro d
  induction d with
  | zero =>
    intro i out c hi hi2 hc ho hd c0 c1 hv k hk
    obtain ⟨k, rfl⟩ : ∃ m, k = m + 2 := ⟨k - 2, by omega⟩
    obtain rfl : c = 0 := hc (by omega)
    simp (disch := omega) only [treenailref01_Add.l0, treenailref01_Add.j1, if_neg]
    rw [if_neg (by simp), rtrim_spec out hd (by omega) k (by omega)]
    rw [Int.mul_zero, Int.add_zero, List.take_of_length_le (by omega), List.take_of_length_le (by omega)] at hv
    rw [hv]; rfl
  | succ d ih =>
    intro i out c hi hi2 hc ho hd c0 c1 hv k hk
    obtain ⟨k, rfl⟩ : ∃ m, k = m + 2 := ⟨k - 2, by omega⟩
    have hx := ha.at_ (by omega) i
    have hy := hb.at_ (by omega) i
    have e : ((i : Int) + 1) = ((i + 1 : Nat) : Int) := by omega
    by_cases hgo : i < max a.length b.length ∨ 0 < c
    · have hstep : treenailref01_Add.j1 (k + 1) a b out c (i : Int) true = some (digs 65536 (val 65536 a + val 65536 b)) := by
        have hi3 : i ≤ max a.length b.length := by
          rcases Nat.lt_or_ge (max a.length b.length) i with h | h
          · have := hc h; omega
          · exact h
        simp (disch := omega) only [treenailref01_Add.j1, if_true, at_spec, Option.bind_some, if_pos, w64, tmod_, tdiv_, e]
        refine ih (i + 1) _ _ (by omega) (by omega) (fun h => ?_) (by simp; omega) (hd.app (Dig.one (by omega))) (by omega) (by omega) ?_ k (by omega)
        · have h1 : a.getD i 0 = 0 := by simp [List.getD_eq_getElem?_getD, List.getElem?_eq_none (show a.length ≤ i by omega)]
          have h2 : b.getD i 0 = 0 := by simp [List.getD_eq_getElem?_getD, List.getElem?_eq_none (show b.length ≤ i by omega)]
          omega
        · rw [val_snoc, ho, val_take_any _ a i, val_take_any _ b i, pow_succ_]
          exact carry_step _ _ _ _ _ _ _ _ _ _ hv (by omega)
      simp only [treenailref01_Add.l0]
      by_cases h1 : i < a.length
      · rw [if_pos (by omega)]; exact hstep
      · rw [if_neg (by omega)]
        by_cases h2 : i < b.length
        · rw [if_pos (by omega)]; exact hstep
        · rw [if_neg (by omega)]
          have : decide (c > 0) = true := by simp; omega
          rw [this]; exact hstep
    · obtain rfl : c = 0 := by omega
      simp (disch := omega) only [treenailref01_Add.l0, treenailref01_Add.j1, if_neg]
      rw [if_neg (by simp), rtrim_spec out hd (by omega) k (by omega)]
      rw [Int.mul_zero, Int.add_zero, List.take_of_length_le (by omega), List.take_of_length_le (by omega)] at hv
      rw [hv]; rfl
theorem radd_spec (a b : List Int) (ha : Dig 65536 a) (hb : Dig 65536 b) (la : a.length ≤ 1099511627776) (lb : b.length ≤ 1099511627776) (k : Nat) (hka : 3 * a.length + 10 < k) (hkb : 3 * b.length + 10 < k) :
    treenailref01_Add.f k a b = some (digs 65536 (val 65536 a + val 65536 b)) := by
  unfold treenailref01_Add.f
  exact radd_loop a b ha hb la lb (max a.length b.length + 1) 0 [] 0 (by omega) (by omega) (fun h => rfl) rfl (Dig.nil _) (by omega) (by omega) (by simp [val]) k (by omega)
theorem rsub_loop (a b : List Int) (ha : Dig 65536 a) (hb : Dig 65536 b) (hab : b.length ≤ a.length) (la : a.length ≤ 1099511627776) (hle : val 65536 b ≤ val 65536 a) :
    ∀ (d i : Nat) (out : List Int) (c : Int), i + d = a.length → out.length = i → Dig 65536 out → 0 ≤ c → c ≤ 1 →
      val 65536 (a.take i) + ((65536 : Nat) : Int) ^ i * c = val 65536 out + val 65536 (b.take i) →
      ∀ k : Nat, d + a.length + 2 < k → treenailref01_Sub.l0 k a b out c (i : Int) = some (digs 65536 (val 65536 a - val 65536 b)) := by
  intro d
  induction d with
  | zero =>
    intro i out c hi ho hd c0 c1 hv k hk
    obtain ⟨k, rfl⟩ : ∃ m, k = m + 1 := ⟨k - 1, by omega⟩
    obtain rfl : i = a.length := by omega
    simp (disch := omega) only [treenailref01_Sub.l0, if_neg]
    rw [rtrim_spec out hd (by omega) k (by omega)]
    have hlt := val_lt hd
    rw [ho] at hlt
    rw [List.take_length, val_whole _ b _ hab] at hv
    have : c = 0 := by
      rcases (show c = 0 ∨ c = 1 by omega) with rfl | rfl
      · rfl
      · rw [Int.mul_one] at hv; omega
    subst this
    rw [Int.mul_zero] at hv
    rw [show val 65536 out = val 65536 a - val 65536 b by omega]
    rfl
  | succ d ih =>
    intro i out c hi ho hd c0 c1 hv k hk
    obtain ⟨k, rfl⟩ : ∃ m, k = m + 1 := ⟨k - 1, by omega⟩
    have hx := ha.at_ (by omega) i
    have hy := hb.at_ (by omega) i
    have e : ((i : Int) + 1) = ((i + 1 : Nat) : Int) := by omega
    have hrec : ∀ (dg c' : Int), 0 ≤ dg ∧ dg < 65536 → 0 ≤ c' → c' ≤ 1 → a.getD i 0 + 65536 * c' = dg + b.getD i 0 + c → treenailref01_Sub.l0 k a b (out ++ [dg]) c' ((i + 1 : Nat) : Int) = some (digs 65536 (val 65536 a - val 65536 b)) := by
      intro dg c' h1 h2 h3 h4
      refine ih (i + 1) _ _ (by omega) (by simp; omega) (hd.app (Dig.one (by omega))) (by omega) (by omega) ?_ k (by omega)
      rw [val_snoc, ho, val_take _ a i (by omega), val_take_any _ b i, pow_succ_]
      have := carry_step (((65536 : Nat) : Int) ^ i) ((65536 : Nat) : Int) (a.getD i 0) c' dg (b.getD i 0) c _ _ _ hv (by omega)
      omega
    simp (disch := omega) only [treenailref01_Sub.l0, if_pos, at_spec, Option.bind_some, w64, e]
    by_cases h : a.getD i 0 - b.getD i 0 - c < 0
    · rw [if_pos h]; exact hrec _ _ (by omega) (by omega) (by omega) (by omega)
    · rw [if_neg h]; exact hrec _ _ (by omega) (by omega) (by omega) (by omega)
theorem rlen_mono {m n : Int} (hm : 0 ≤ m) (h : m ≤ n) : (digs 65536 m).length ≤ (digs 65536 n).length := by
  have := (digs_len (show 2 ≤ 65536 by omega) (digs 65536 n).length n (by omega)).1 (Nat.le_refl _)
  exact (digs_len (show 2 ≤ 65536 by omega) _ m hm).2 (by omega)
theorem rsub_spec (m n : Int) (hn : 0 ≤ n) (h : n ≤ m) (hl : (digs 65536 m).length ≤ 1099511627776) (k : Nat) (hk : 2 * (digs 65536 m).length + 10 < k) : treenailref01_Sub.f k (digs 65536 m) (digs 65536 n) = some (digs 65536 (m - n)) := by
  unfold treenailref01_Sub.f
  have v1 := val_digs (show 2 ≤ 65536 by omega) m (by omega)
  have v2 := val_digs (show 2 ≤ 65536 by omega) n hn
  have := rsub_loop (digs 65536 m) (digs 65536 n) (digs_dig (by omega) m) (digs_dig (by omega) n) (rlen_mono hn h) hl (by omega) (digs 65536 m).length 0 [] 0 (by omega) rfl (Dig.nil _) (by omega) (by omega) (by simp [val]) k (by omega)
  rw [v1, v2] at this
  exact this
theorem rcmp_loop (a b : List Int) (ha : Dig 65536 a) (hb : Dig 65536 b) (hl : a.length = b.length) (hm : a.length ≤ 4611686018427387904) :
    ∀ (n : Nat), n ≤ a.length → a.drop n = b.drop n → ∀ k : Nat, n < k → treenailref01_Cmp.l0 k a b ((n : Int) - 1) = some (cmpI (val 65536 a) (val 65536 b)) := by
  intro n
  induction n with
  | zero =>
    intro _ he k hk
    obtain ⟨k, rfl⟩ : ∃ m, k = m + 1 := ⟨k - 1, by omega⟩
    simp only [List.drop_zero] at he
    subst he
    simp (disch := omega) only [treenailref01_Cmp.l0, if_pos, if_neg, cmpI]
  | succ n ih =>
    intro hn he k hk
    obtain ⟨k, rfl⟩ : ∃ m, k = m + 1 := ⟨k - 1, by omega⟩
    obtain ⟨c1, c2, c3⟩ := cmp_down (show 2 ≤ 65536 by omega) a b ha hb hl n (by omega) he
    have e : ((n + 1 : Nat) : Int) - 1 = (n : Int) := by omega
    rw [e]
    simp (disch := omega) only [treenailref01_Cmp.l0, if_pos, if_neg, w64, rd_nat]
    rcases Int.lt_trichotomy (a.getD n 0) (b.getD n 0) with h | h | h
    · have := c1 h
      rw [if_pos h]; unfold cmpI; rw [if_pos this]
    · rw [if_neg (by omega), if_neg (by omega)]
      exact ih (by omega) (c3 h) k (by omega)
    · have := c2 h
      rw [if_neg (by omega), if_pos (by omega)]; unfold cmpI; rw [if_neg (by omega), if_pos this]
theorem rcmp_spec (m n : Int) (hm : 0 ≤ m) (hn : 0 ≤ n) (l1 : (digs 65536 m).length ≤ 1099511627776) (l2 : (digs 65536 n).length ≤ 1099511627776) (k : Nat) (hk : (digs 65536 m).length + 2 < k) :
    treenailref01_Cmp.f k (digs 65536 m) (digs 65536 n) = some (cmpI m n) := by
  unfold treenailref01_Cmp.f
  have v1 := val_digs (show 2 ≤ 65536 by omega) m hm
  have v2 := val_digs (show 2 ≤ 65536 by omega) n hn
  by_cases h : (digs 65536 m).length = (digs 65536 n).length
  · rw [if_pos (by omega), w64 (by omega) (by omega), rcmp_loop _ _ (digs_dig (by omega) m) (digs_dig (by omega) n) h (by omega) _ (Nat.le_refl _) (by rw [List.drop_of_length_le (Nat.le_refl _), List.drop_of_length_le (by omega)]) k (by omega), v1, v2]
  · rw [if_neg (by omega)]
    rcases Nat.lt_or_gt_of_ne h with h | h
    · have := cmp_len (show 2 ≤ 65536 by omega) hm hn h
      rw [if_pos (by omega)]; unfold cmpI; rw [if_pos this]
    · have := cmp_len (show 2 ≤ 65536 by omega) hn hm h
      rw [if_neg (by omega)]; unfold cmpI; rw [if_neg (by omega), if_pos this]
end Go.Proofs.Ytolflieiipnndaa.X
