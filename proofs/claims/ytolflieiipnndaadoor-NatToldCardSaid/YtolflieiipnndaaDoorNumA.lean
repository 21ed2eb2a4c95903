/- What the printed functions of nat and of the document's answer on numbers compute: trim, both, Cmp, Add, Sub. -/
import Derived.Test.YtolflieiipnndaaDoorNum
import Derived.Test.YtolflieiipnndaaDoorXP1
import Derived.Test.YtolflieiipnndaaDoorXP2
import Derived.Test.YtolflieiipnndaaDoorXP3
import Derived.Test.YtolflieiipnndaaDoorXP4
import Derived.Test.YtolflieiipnndaaDoorXP5
namespace Go.Proofs.YtolflieiipnndaaDoor.X
open Go.RowKit Go.Proofs.YtolflieiipnndaaDoor Go.Proofs.YtolflieiipnndaaDoorW.PrintWords Go.Proofs.YtolflieiipnndaaDoorW.PrintLast Go.Proofs.YtolflieiipnndaaDoorW.PrintMore Go.Proofs.YtolflieiipnndaaDoor.Num
set_option linter.unusedVariables false
set_option linter.unusedSimpArgs false

theorem rd_nat (l : List Int) (n : Nat) : rd l (n : Int) = l.getD n 0 := rfl
theorem rd_at (l : List Int) (i : Int) (n : Nat) (h : i = n) : rd l i = l.getD n 0 := by subst h; rfl
theorem trim_loop (l : List Int) (hl : l.length ≤ 4611686018427387904) : ∀ (n : Nat), n ≤ l.length → ∀ k : Nat, n < k → nat_trim.l0 k l (n : Int) = some (l.take (limbs l n)) := by
  intro n
  induction n with
  | zero =>
    intro _ k hk
    obtain ⟨k, rfl⟩ : ∃ m, k = m + 1 := ⟨k - 1, by omega⟩
    simp (disch := omega) only [nat_trim.l0, if_pos, if_neg, limbs, Int.toNat_natCast]
  | succ n ih =>
    intro hn k hk
    obtain ⟨k, rfl⟩ : ∃ m, k = m + 1 := ⟨k - 1, by omega⟩
    have e : ((n + 1 : Nat) : Int) - 1 = (n : Int) := by omega
    simp (disch := omega) only [nat_trim.l0, if_pos, if_neg, e, w64, rd_nat, limbs, Int.toNat_natCast]
    split
    · exact ih (by omega) k (by omega)
    · rfl
theorem trim_spec (l : List Int) (h : Dig 18446744073709551616 l) (hl : l.length ≤ 4611686018427387904) (k : Nat) (hk : l.length < k) : nat_trim.f k l = some (digs 18446744073709551616 (val 18446744073709551616 l)) := by
  unfold nat_trim.f
  rw [trim_loop l hl l.length (Nat.le_refl _) k hk, take_all (by omega) h]
/-- How many digits count. -/
def dlen (l : List Int) : Nat := (digs 18446744073709551616 (val 18446744073709551616 l)).length
theorem dlen_le (l : List Int) (h : Dig 18446744073709551616 l) : dlen l ≤ l.length := by
  unfold dlen
  rw [limbs_len (by omega) h]
  exact limbs_le _ _
theorem both_spec (a b : List Int) (ha : Dig 18446744073709551616 a) (hb : Dig 18446744073709551616 b) (la : a.length ≤ 4611686018427387904) (lb : b.length ≤ 4611686018427387904) (k : Nat) (hka : a.length < k) (hkb : b.length < k) :
    nat_both.f k a b = if dlen a ≤ 64 ∧ dlen b ≤ 64 then some (digs 18446744073709551616 (val 18446744073709551616 a), digs 18446744073709551616 (val 18446744073709551616 b), none) else some ([], [], some 2) := by
  unfold nat_both.f
  rw [trim_spec a ha la k hka, trim_spec b hb lb k hkb]
  simp only [Option.bind_some]
  show (if (dlen a : Int) > 64 then _ else if (dlen b : Int) > 64 then _ else _) = _
  by_cases h1 : dlen a ≤ 64
  · rw [if_neg (by omega)]
    by_cases h2 : dlen b ≤ 64
    · rw [if_neg (by omega), if_pos ⟨h1, h2⟩]
    · rw [if_pos (by omega), if_neg (fun h => h2 h.2)]
  · rw [if_pos (by omega), if_neg (fun h => h1 h.1)]
/-! ### comparison -/
def cmpI (a b : Int) : Int := if a < b then -1 else if b < a then 1 else 0
theorem cmp_len {B : Nat} (hB : 2 ≤ B) {m n : Int} (hm : 0 ≤ m) (hn : 0 ≤ n) (h : (digs B m).length < (digs B n).length) : m < n := by
  have h1 := (digs_len hB (digs B m).length m hm).1 (Nat.le_refl _)
  have h2 := (digs_len_lt hB (digs B m).length n hn).1 h
  omega
/-- From the highest digit down: above place i the two are alike. -/
theorem cmp_down {B : Nat} (hB : 2 ≤ B) (a b : List Int) (ha : Dig B a) (hb : Dig B b) (hl : a.length = b.length) (i : Nat) (hi : i < a.length) (he : a.drop (i + 1) = b.drop (i + 1)) :
    (a.getD i 0 < b.getD i 0 → val B a < val B b) ∧ (b.getD i 0 < a.getD i 0 → val B b < val B a) ∧ (a.getD i 0 = b.getD i 0 → a.drop i = b.drop i) := by
  have s1 := val_split B a (i + 1) (by omega)
  have s2 := val_split B b (i + 1) (by omega)
  rw [val_take B a i hi] at s1
  rw [val_take B b i (by omega)] at s2
  rw [← he] at s2
  have u1 := val_lt (ha.take i)
  have u2 := val_lt (hb.take i)
  rw [List.length_take, Nat.min_eq_left (by omega)] at u1 u2
  have v1 := val_nonneg (ha.take i)
  have v2 := val_nonneg (hb.take i)
  generalize (B : Int) ^ (i + 1) * val B (a.drop (i + 1)) = R at *
  have mono : ∀ x y : Int, x < y → (B : Int) ^ i * x + (B : Int) ^ i ≤ (B : Int) ^ i * y := by
    intro x y hxy
    have := Int.mul_le_mul_of_nonneg_left (show x + 1 ≤ y by omega) (Int.le_of_lt (pow_pos_ (show 0 < B by omega) i))
    rwa [Int.mul_add, Int.mul_one] at this
  refine ⟨fun h => ?_, fun h => ?_, fun h => ?_⟩
  · have := mono _ _ h; omega
  · have := mono _ _ h; omega
  · rw [List.drop_eq_getElem_cons hi, List.drop_eq_getElem_cons (show i < b.length by omega), he]
    congr 1
    simpa [List.getD_eq_getElem?_getD, hi, show i < b.length by omega] using h
theorem cmp_loop {B : Nat} (hB : 2 ≤ B) (a b : List Int) (ha : Dig B a) (hb : Dig B b) (hl : a.length = b.length) (hm : a.length ≤ 4611686018427387904) :
    ∀ (n : Nat), n ≤ a.length → a.drop n = b.drop n → ∀ k : Nat, n < k → nat_Cmp.l0 k a b ((n : Int) - 1) = some (cmpI (val B a) (val B b)) := by
  intro n
  induction n with
  | zero =>
    intro _ he k hk
    obtain ⟨k, rfl⟩ : ∃ m, k = m + 1 := ⟨k - 1, by omega⟩
    simp only [List.drop_zero] at he
    subst he
    simp (disch := omega) only [nat_Cmp.l0, if_pos, if_neg, cmpI]
  | succ n ih =>
    intro hn he k hk
    obtain ⟨k, rfl⟩ : ∃ m, k = m + 1 := ⟨k - 1, by omega⟩
    obtain ⟨c1, c2, c3⟩ := cmp_down hB a b ha hb hl n (by omega) he
    have e : ((n + 1 : Nat) : Int) - 1 = (n : Int) := by omega
    rw [e]
    simp (disch := omega) only [nat_Cmp.l0, if_pos, if_neg, w64, rd_nat]
    rcases Int.lt_trichotomy (a.getD n 0) (b.getD n 0) with h | h | h
    · have := c1 h
      rw [if_pos h]; unfold cmpI; rw [if_pos this]
    · rw [if_neg (by omega), if_neg (by omega)]
      exact ih (by omega) (c3 h) k (by omega)
    · have := c2 h
      rw [if_neg (by omega), if_pos (by omega)]; unfold cmpI; rw [if_neg (by omega), if_pos this]
theorem cmp_spec (a b : List Int) (ha : Dig 18446744073709551616 a) (hb : Dig 18446744073709551616 b) (la : a.length ≤ 4611686018427387904) (lb : b.length ≤ 4611686018427387904) (k : Nat) (hka : a.length < k) (hkb : b.length < k) :
    nat_Cmp.f k a b = some (cmpI (val 18446744073709551616 a) (val 18446744073709551616 b)) := by
  unfold nat_Cmp.f
  rw [trim_spec a ha la k hka, trim_spec b hb lb k hkb]
  simp only [Option.bind_some]
  have h0a := val_nonneg ha
  have h0b := val_nonneg hb
  have d1 := dlen_le a ha
  have d2 := dlen_le b hb
  unfold dlen at d1 d2
  have v1 := val_digs (show 2 ≤ 18446744073709551616 by omega) _ h0a
  have v2 := val_digs (show 2 ≤ 18446744073709551616 by omega) _ h0b
  have g1 := digs_dig (show 2 ≤ 18446744073709551616 by omega) (val 18446744073709551616 a)
  have g2 := digs_dig (show 2 ≤ 18446744073709551616 by omega) (val 18446744073709551616 b)
  by_cases h : (digs 18446744073709551616 (val 18446744073709551616 a)).length = (digs 18446744073709551616 (val 18446744073709551616 b)).length
  · rw [if_pos (by omega), w64 (by omega) (by omega), cmp_loop (by omega) _ _ g1 g2 h (by omega) _ (Nat.le_refl _) (by rw [List.drop_of_length_le (Nat.le_refl _), List.drop_of_length_le (by omega)]) k (by omega), v1, v2]
  · rw [if_neg (by omega)]
    rcases Nat.lt_or_gt_of_ne h with h | h
    · have := cmp_len (by omega) h0a h0b h
      rw [if_pos (by omega)]; unfold cmpI; rw [if_pos this]
    · have := cmp_len (by omega) h0b h0a h
      rw [if_neg (by omega)]; unfold cmpI; rw [if_neg (by omega), if_pos this]
end Go.Proofs.YtolflieiipnndaaDoor.X
