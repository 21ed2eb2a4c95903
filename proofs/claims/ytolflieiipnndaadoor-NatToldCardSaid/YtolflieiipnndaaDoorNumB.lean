/- What the printed functions compute: sums and differences; digits of 16 bits and of 64. -/
import Derived.Test.YtolflieiipnndaaDoorNumA
import Derived.Test.YtolflieiipnndaaDoorXP1
import Derived.Test.YtolflieiipnndaaDoorXP2
import Derived.Test.YtolflieiipnndaaDoorXP3
import Derived.Test.YtolflieiipnndaaDoorXP4
import Derived.Test.YtolflieiipnndaaDoorXP5
namespace Go.Proofs.YtolflieiipnndaaDoor.X
open Go.RowKit Go.Proofs.YtolflieiipnndaaDoor Go.Proofs.YtolflieiipnndaaDoorW.PrintWords Go.Proofs.YtolflieiipnndaaDoorW.PrintLast Go.Proofs.YtolflieiipnndaaDoorW.PrintMore Go.Proofs.YtolflieiipnndaaDoor.Num
set_option linter.unusedVariables false
set_option linter.unusedSimpArgs false

theorem val_take_any (B : Nat) (l : List Int) (i : Nat) : val B (l.take (i + 1)) = val B (l.take i) + (B : Int) ^ i * l.getD i 0 := by
  rcases Nat.lt_or_ge i l.length with h | h
  · exact val_take B l i h
  · have : l.getD i 0 = 0 := by simp [List.getD_eq_getElem?_getD, List.getElem?_eq_none h]
    rw [this, List.take_of_length_le (by omega), List.take_of_length_le h]; simp
theorem carry_step (P B d c' x y c V Va Vb : Int) (h1 : V + P * c = Va + Vb) (h2 : d + B * c' = x + y + c) : V + P * d + P * B * c' = Va + P * x + (Vb + P * y) := by
  have := congrArg (P * ·) h2
  simp only [Int.mul_add, ← Int.mul_assoc] at this
  omega
theorem add64_eq {a b c : Int} (ha : 0 ≤ a) (hb : 0 ≤ b) (hc : 0 ≤ c) (h1 : c ≤ 1) : bits_Add64.f a b c = some ((a + b + c) % 18446744073709551616, (a + b + c) / 18446744073709551616) := by
  unfold bits_Add64.f; rw [if_pos ⟨⟨ha, hb⟩, hc, h1⟩]
theorem sub64_eq {a b c : Int} (ha : 0 ≤ a ∧ a < 18446744073709551616) (hb : 0 ≤ b ∧ b < 18446744073709551616) (hc : 0 ≤ c) (h1 : c ≤ 1) : bits_Sub64.f a b c = some ((a - b - c) % 18446744073709551616, if a < b + c then 1 else 0) := by
  unfold bits_Sub64.f; rw [if_pos ⟨⟨ha, hb⟩, hc, h1⟩]
/-- The end of a sum or a product: the last digit, and no noughts. -/
theorem set_last {B : Nat} (l : List Int) (n : Nat) (c : Int) (h : l.length = n + 1) : val B (l.set n c) = val B (l.take n) + (B : Int) ^ n * c := by
  rw [← val_take_set B l n c (by omega), List.take_of_length_le (by simp; omega)]
theorem add_loop (a b : List Int) (ha : Dig 18446744073709551616 a) (hb : Dig 18446744073709551616 b) (hab : b.length ≤ a.length) (la : a.length ≤ 17592186044416) :
    ∀ (d i : Nat) (out : List Int) (c : Int), i + d = a.length → out.length = a.length + 1 → Dig 18446744073709551616 out → 0 ≤ c → c ≤ 1 →
      val 18446744073709551616 (out.take i) + ((18446744073709551616 : Nat) : Int) ^ i * c = val 18446744073709551616 (a.take i) + val 18446744073709551616 (b.take i) →
      ∀ k : Nat, d + a.length + 2 < k → nat_Add.l0 k a b out c (a.length : Int) (i : Int) = some (digs 18446744073709551616 (val 18446744073709551616 a + val 18446744073709551616 b), none) := by
  intro d
  induction d with
  | zero =>
    intro i out c hi ho hd c0 c1 hv k hk
    obtain ⟨k, rfl⟩ : ∃ m, k = m + 1 := ⟨k - 1, by omega⟩
    obtain rfl : i = a.length := by omega
    simp (disch := omega) only [nat_Add.l0, if_pos, if_neg, Int.toNat_natCast]
    rw [trim_spec _ (hd.set _ ⟨c0, by omega⟩) (by simp; omega) k (by simp; omega), set_last out a.length c ho, hv, List.take_length, val_whole _ b _ hab]
    rfl
  | succ d ih =>
    intro i out c hi ho hd c0 c1 hv k hk
    obtain ⟨k, rfl⟩ : ∃ m, k = m + 1 := ⟨k - 1, by omega⟩
    have hx := ha.at_ (by omega) i
    have hy := hb.at_ (by omega) i
    have e : ((i : Int) + 1) = ((i + 1 : Nat) : Int) := by omega
    have hstep : nat_Add.l0 k a b (out.set i ((a.getD i 0 + b.getD i 0 + c) % 18446744073709551616)) ((a.getD i 0 + b.getD i 0 + c) / 18446744073709551616) (a.length : Int) ((i + 1 : Nat) : Int) = some (digs 18446744073709551616 (val 18446744073709551616 a + val 18446744073709551616 b), none) := by
      refine ih (i + 1) _ _ (by omega) (by simpa using ho) (hd.set _ (by omega)) (by omega) (by omega) ?_ k (by omega)
      rw [val_take_set _ _ _ _ (by omega), val_take _ _ _ (by omega), val_take_any _ b i, pow_succ_]
      exact carry_step _ _ _ _ _ _ _ _ _ _ hv (by omega)
    by_cases hib : i < b.length
    · simp (disch := omega) only [nat_Add.l0, if_pos, if_neg, rd_nat, w64, add64_eq, Option.bind_some, Int.toNat_natCast, e]
      exact hstep
    · have hy0 : b.getD i 0 = 0 := by simp [List.getD_eq_getElem?_getD, List.getElem?_eq_none (show b.length ≤ i by omega)]
      rw [hy0] at hstep
      simp (disch := omega) only [nat_Add.l0, if_pos, if_neg, rd_nat, w64, add64_eq, Option.bind_some, Int.toNat_natCast, e]
      exact hstep
theorem add_j (a b : List Int) (ha : Dig 18446744073709551616 a) (hb : Dig 18446744073709551616 b) (hab : b.length ≤ a.length) (la : a.length ≤ 17592186044416) (k : Nat) (hk : 2 * a.length + 3 < k) :
    nat_Add.j0 k a b = some (digs 18446744073709551616 (val 18446744073709551616 a + val 18446744073709551616 b), none) := by
  obtain ⟨k, rfl⟩ : ∃ m, k = m + 1 := ⟨k - 1, by omega⟩
  have e : ((a.length : Int) + 1).toNat = a.length + 1 := by omega
  simp (disch := omega) only [nat_Add.j0, if_pos, if_neg, w64, e]
  exact add_loop a b ha hb hab la a.length 0 _ 0 (by omega) (by simp) (Dig.reps (by omega) _) (by omega) (by omega) (by simp [val]) k (by omega)
theorem digs_lt_len (l : List Int) (h : Dig 18446744073709551616 l) : (digs 18446744073709551616 (val 18446744073709551616 l)).length ≤ l.length := dlen_le l h
theorem add_spec (a b : List Int) (ha : Dig 18446744073709551616 a) (hb : Dig 18446744073709551616 b) (la : a.length ≤ 17592186044416) (lb : b.length ≤ 17592186044416) (k : Nat) (hka : 2 * a.length + 200 < k) (hkb : 2 * b.length + 200 < k) :
    nat_Add.f k a b = if dlen a ≤ 64 ∧ dlen b ≤ 64 then some (digs 18446744073709551616 (val 18446744073709551616 a + val 18446744073709551616 b), none) else some ([], some 2) := by
  unfold nat_Add.f
  rw [both_spec a b ha hb (by omega) (by omega) k (by omega) (by omega)]
  by_cases h : dlen a ≤ 64 ∧ dlen b ≤ 64
  · rw [if_pos h, if_pos h]
    simp only [Option.bind_some, Option.isNone_none, if_true]
    have v1 := val_digs (show 2 ≤ 18446744073709551616 by omega) _ (val_nonneg ha)
    have v2 := val_digs (show 2 ≤ 18446744073709551616 by omega) _ (val_nonneg hb)
    have g1 := digs_dig (show 2 ≤ 18446744073709551616 by omega) (val 18446744073709551616 a)
    have g2 := digs_dig (show 2 ≤ 18446744073709551616 by omega) (val 18446744073709551616 b)
    have l1 := digs_lt_len a ha
    have l2 := digs_lt_len b hb
    by_cases hl : (digs 18446744073709551616 (val 18446744073709551616 a)).length < (digs 18446744073709551616 (val 18446744073709551616 b)).length
    · rw [if_pos (by omega), add_j _ _ g2 g1 (by omega) (by omega) k (by omega), v1, v2, Int.add_comm]
    · rw [if_neg (by omega), add_j _ _ g1 g2 (by omega) (by omega) k (by omega), v1, v2]
  · rw [if_neg h, if_neg h]
    rfl
theorem sub_loop (a b : List Int) (ha : Dig 18446744073709551616 a) (hb : Dig 18446744073709551616 b) (hab : b.length ≤ a.length) (la : a.length ≤ 17592186044416) (hle : val 18446744073709551616 b ≤ val 18446744073709551616 a) :
    ∀ (d i : Nat) (out : List Int) (c : Int), i + d = a.length → out.length = a.length → Dig 18446744073709551616 out → 0 ≤ c → c ≤ 1 →
      val 18446744073709551616 (a.take i) + ((18446744073709551616 : Nat) : Int) ^ i * c = val 18446744073709551616 (out.take i) + val 18446744073709551616 (b.take i) →
      ∀ k : Nat, d + a.length + 2 < k → nat_Sub.l0 k a b out c (a.length : Int) (i : Int) = some (digs 18446744073709551616 (val 18446744073709551616 a - val 18446744073709551616 b), none) := by
  intro d
  induction d with
  | zero =>
    intro i out c hi ho hd c0 c1 hv k hk
    obtain ⟨k, rfl⟩ : ∃ m, k = m + 1 := ⟨k - 1, by omega⟩
    obtain rfl : i = a.length := by omega
    simp (disch := omega) only [nat_Sub.l0, if_pos, if_neg, Int.toNat_natCast]
    rw [trim_spec _ hd (by omega) k (by omega)]
    have hlt := val_lt hd
    rw [ho] at hlt
    rw [List.take_length, val_whole _ b _ hab, val_whole _ out _ (by omega)] at hv
    have : c = 0 := by
      rcases (show c = 0 ∨ c = 1 by omega) with rfl | rfl
      · rfl
      · rw [Int.mul_one] at hv; omega
    subst this
    rw [Int.mul_zero] at hv
    rw [show val 18446744073709551616 out = val 18446744073709551616 a - val 18446744073709551616 b by omega]
    rfl
  | succ d ih =>
    intro i out c hi ho hd c0 c1 hv k hk
    obtain ⟨k, rfl⟩ : ∃ m, k = m + 1 := ⟨k - 1, by omega⟩
    have hx := ha.at_ (by omega) i
    have hy := hb.at_ (by omega) i
    have e : ((i : Int) + 1) = ((i + 1 : Nat) : Int) := by omega
    have hstep : nat_Sub.l0 k a b (out.set i ((a.getD i 0 - b.getD i 0 - c) % 18446744073709551616)) (if a.getD i 0 < b.getD i 0 + c then 1 else 0) (a.length : Int) ((i + 1 : Nat) : Int) = some (digs 18446744073709551616 (val 18446744073709551616 a - val 18446744073709551616 b), none) := by
      refine ih (i + 1) _ _ (by omega) (by simpa using ho) (hd.set _ (by omega)) (by split <;> omega) (by split <;> omega) ?_ k (by omega)
      rw [val_take_set _ _ _ _ (by omega), val_take _ _ _ (by omega), val_take_any _ b i, pow_succ_]
      have := carry_step (((18446744073709551616 : Nat) : Int) ^ i) ((18446744073709551616 : Nat) : Int) (a.getD i 0) (if a.getD i 0 < b.getD i 0 + c then 1 else 0) ((a.getD i 0 - b.getD i 0 - c) % 18446744073709551616) (b.getD i 0) c _ _ _ hv (by split <;> omega)
      omega
    by_cases hib : i < b.length
    · simp (disch := omega) only [nat_Sub.l0, if_pos, if_neg, rd_nat, w64, sub64_eq, Option.bind_some, Int.toNat_natCast, e]
      exact hstep
    · have hy0 : b.getD i 0 = 0 := by simp [List.getD_eq_getElem?_getD, List.getElem?_eq_none (show b.length ≤ i by omega)]
      rw [hy0] at hstep
      simp (disch := omega) only [nat_Sub.l0, if_pos, if_neg, rd_nat, w64, sub64_eq, Option.bind_some, Int.toNat_natCast, e]
      exact hstep
theorem cmpI_lt (a b : Int) : cmpI a b < 0 ↔ a < b := by
  unfold cmpI
  split
  · omega
  · split <;> omega
theorem len_mono {m n : Int} (hm : 0 ≤ m) (h : m ≤ n) : (digs 18446744073709551616 m).length ≤ (digs 18446744073709551616 n).length := by
  have := (digs_len (show 2 ≤ 18446744073709551616 by omega) (digs 18446744073709551616 n).length n (by omega)).1 (Nat.le_refl _)
  exact (digs_len (show 2 ≤ 18446744073709551616 by omega) _ m hm).2 (by omega)
theorem sub_spec (a b : List Int) (ha : Dig 18446744073709551616 a) (hb : Dig 18446744073709551616 b) (la : a.length ≤ 17592186044416) (lb : b.length ≤ 17592186044416) (k : Nat) (hka : 2 * a.length + 200 < k) (hkb : 2 * b.length + 200 < k) :
    nat_Sub.f k a b = if dlen a ≤ 64 ∧ dlen b ≤ 64 then (if val 18446744073709551616 a < val 18446744073709551616 b then some ([], some 3) else some (digs 18446744073709551616 (val 18446744073709551616 a - val 18446744073709551616 b), none)) else some ([], some 2) := by
  unfold nat_Sub.f
  rw [both_spec a b ha hb (by omega) (by omega) k (by omega) (by omega)]
  by_cases h : dlen a ≤ 64 ∧ dlen b ≤ 64
  · rw [if_pos h, if_pos h]
    simp only [Option.bind_some, Option.isNone_none, if_true]
    have h0a := val_nonneg ha
    have h0b := val_nonneg hb
    have v1 := val_digs (show 2 ≤ 18446744073709551616 by omega) _ h0a
    have v2 := val_digs (show 2 ≤ 18446744073709551616 by omega) _ h0b
    have g1 := digs_dig (show 2 ≤ 18446744073709551616 by omega) (val 18446744073709551616 a)
    have g2 := digs_dig (show 2 ≤ 18446744073709551616 by omega) (val 18446744073709551616 b)
    have l1 := digs_lt_len a ha
    have l2 := digs_lt_len b hb
    rw [cmp_spec _ _ g1 g2 (by omega) (by omega) k (by omega) (by omega), v1, v2]
    simp only [Option.bind_some]
    by_cases hlt : val 18446744073709551616 a < val 18446744073709551616 b
    · rw [if_pos ((cmpI_lt _ _).2 hlt), if_pos hlt]
    · rw [if_neg (fun hh => hlt ((cmpI_lt _ _).1 hh)), if_neg hlt]
      have l3 := len_mono h0b (show val 18446744073709551616 b ≤ val 18446744073709551616 a by omega)
      simp (disch := omega) only [if_pos, Int.toNat_natCast]
      have hs := sub_loop _ _ g1 g2 l3 (by omega) (by omega) (digs 18446744073709551616 (val 18446744073709551616 a)).length 0 (List.replicate (digs 18446744073709551616 (val 18446744073709551616 a)).length 0) 0 (by omega) (by simp) (Dig.reps (by omega) _) (by omega) (by omega) (by simp [val]) k (by omega)
      rw [v1, v2] at hs
      exact hs
  · rw [if_neg h, if_neg h]
    rfl
theorem same_loop (a b : List Int) (hl : a.length = b.length) (la : a.length ≤ 4611686018427387904) : ∀ (d i : Nat), i + d = a.length → a.take i = b.take i → ∀ k : Nat, d < k → treenailref01_Same.l0 k a b (i : Int) = some (decide (a = b)) := by
  intro d
  induction d with
  | zero =>
    intro i hi he k hk
    obtain ⟨k, rfl⟩ : ∃ m, k = m + 1 := ⟨k - 1, by omega⟩
    rw [List.take_of_length_le (by omega), List.take_of_length_le (by omega)] at he
    simp (disch := omega) only [treenailref01_Same.l0, if_pos, if_neg]
    simp [he]
  | succ d ih =>
    intro i hi he k hk
    obtain ⟨k, rfl⟩ : ∃ m, k = m + 1 := ⟨k - 1, by omega⟩
    have e : ((i : Int) + 1) = ((i + 1 : Nat) : Int) := by omega
    simp (disch := omega) only [treenailref01_Same.l0, if_pos, if_neg, rd_nat, w64, e]
    by_cases h : a.getD i 0 = b.getD i 0
    · rw [if_pos h]
      exact ih (i + 1) (by omega) (by rw [take_rd a i (by omega), take_rd b i (by omega), he, h]) k (by omega)
    · rw [if_neg h]
      have : ¬ a = b := fun hab => h (by rw [hab])
      simp [this]
theorem same_spec (a b : List Int) (la : a.length ≤ 4611686018427387904) (k : Nat) (hk : a.length < k) : treenailref01_Same.f k a b = some (decide (a = b)) := by
  unfold treenailref01_Same.f
  by_cases h : a.length = b.length
  · rw [if_pos (by omega)]
    exact same_loop a b h la a.length 0 (by omega) (by simp) k hk
  · rw [if_neg (by omega)]
    have : ¬ a = b := fun hab => h (by rw [hab])
    simp [this]
theorem copied_spec (l : List Int) (h : l.length ≤ 17592186044415) : treenaillaw01_copied.f l = some l := by
  unfold treenaillaw01_copied.f
  simp only [Option.bind_some, List.length_nil, List.nil_append]
  rw [if_pos (by omega)]
/-! ### digits of 16 bits -/
theorem pow16 (i : Nat) : ((65536 : Nat) : Int) ^ (4 * i) = ((18446744073709551616 : Nat) : Int) ^ i := by
  rw [Int.pow_mul]; rfl
/-! ### back to digits of 64 bits -/
def group (l : List Int) (i : Nat) : Int := val 65536 ((l.drop i).take 4)
theorem group_bd (l : List Int) (h : Dig 65536 l) (i : Nat) : 0 ≤ group l i ∧ group l i < ((18446744073709551616 : Nat) : Int) := by
  refine ⟨val_nonneg ((h.drop i).take 4), ?_⟩
  have h1 := val_lt ((h.drop i).take 4)
  have h2 : ((65536 : Nat) : Int) ^ ((l.drop i).take 4).length ≤ ((65536 : Nat) : Int) ^ 4 := by
    exact_mod_cast Nat.pow_le_pow_right (by omega) (by rw [List.length_take]; omega)
  have h3 : ((65536 : Nat) : Int) ^ 4 = ((18446744073709551616 : Nat) : Int) := rfl
  unfold group
  omega
theorem group_eq (l : List Int) (i : Nat) : group l i = ((l.getD (i + 3) 0 * 65536 + l.getD (i + 2) 0) * 65536 + l.getD (i + 1) 0) * 65536 + l.getD i 0 := by
  unfold group
  have e : ∀ n, ((l.drop i).take 4).getD n 0 = if n < 4 then l.getD (i + n) 0 else 0 := by
    intro n
    rw [List.getD_eq_getElem?_getD, List.getElem?_take]
    split
    · rw [List.getElem?_drop, List.getD_eq_getElem?_getD]
    · rfl
  have hv : ∀ m : List Int, m.length ≤ 4 → val 65536 m = ((m.getD 3 0 * 65536 + m.getD 2 0) * 65536 + m.getD 1 0) * 65536 + m.getD 0 0 := by
    intro m hm
    match m, hm with
    | [], _ => rfl
    | [a], _ => simp [val]
    | [a, b], _ => simp [val] <;> omega
    | [a, b, c], _ => simp [val] <;> omega
    | [a, b, c, d], _ => simp [val] <;> omega
    | _ :: _ :: _ :: _ :: _ :: _, h => exact absurd h (by simp)
  rw [hv _ (by rw [List.length_take]; omega), e 0, e 1, e 2, e 3]
  simp
theorem rlen_mono {m n : Int} (hm : 0 ≤ m) (h : m ≤ n) : (digs 65536 m).length ≤ (digs 65536 n).length := by
  have := (digs_len (show 2 ≤ 65536 by omega) (digs 65536 n).length n (by omega)).1 (Nat.le_refl _)
  exact (digs_len (show 2 ≤ 65536 by omega) _ m hm).2 (by omega)
end Go.Proofs.YtolflieiipnndaaDoor.X
