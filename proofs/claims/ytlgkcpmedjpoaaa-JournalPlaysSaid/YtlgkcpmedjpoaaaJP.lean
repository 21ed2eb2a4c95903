/- Plain bytes: the check, a record's frame, the records of bytes; what the printed functions compute. -/
import Derived.Test.YtlgkcpmedjpoaaaXP1
import Derived.Test.YtlgkcpmedjpoaaaXP3
import Derived.Test.YtlgkcpmedjpoaaaJN
import Derived.Laws.BitsAllLaws
namespace Go.Proofs.Ytlgkcpmedjpoaaa.X
open Go.RowKit Go.Proofs.Ytlgkcpmedjpoaaa Go.Proofs.YtlgkcpmedjpoaaaW.PrintWords Go.Proofs.YtlgkcpmedjpoaaaW.PrintLast Go.Proofs.YtlgkcpmedjpoaaaW.PrintMore
set_option linter.unusedVariables false
set_option linter.unusedSimpArgs false
theorem j64 {n : Int} (h1 : -9223372036854775808 ≤ n) (h2 : n ≤ 9223372036854775807) : wrap64 n = n := by unfold wrap64; omega
theorem jrd (l : List Int) (n : Nat) : rd l (n : Int) = l.getD n 0 := rfl
/-- Bytes. -/
def B8 (l : List Int) : Prop := ∀ x ∈ l, 0 ≤ x ∧ x < 256
theorem B8.at_ {l : List Int} (h : B8 l) (i : Nat) : 0 ≤ l.getD i 0 ∧ l.getD i 0 < 256 := by
  rcases Nat.lt_or_ge i l.length with hi | hi
  · have : l.getD i 0 = l[i] := by simp [List.getD_eq_getElem?_getD, hi]
    rw [this]; exact h _ (List.getElem_mem hi)
  · have : l.getD i 0 = 0 := by simp [List.getD_eq_getElem?_getD, List.getElem?_eq_none hi]
    rw [this]; decide
theorem B8.take {l : List Int} (h : B8 l) (n : Nat) : B8 (l.take n) := fun x hx => h x (List.mem_of_mem_take hx)
theorem B8.drop {l : List Int} (h : B8 l) (n : Nat) : B8 (l.drop n) := fun x hx => h x (List.mem_of_mem_drop hx)
theorem B8.app {l m : List Int} (h : B8 l) (k : B8 m) : B8 (l ++ m) := fun x hx => (List.mem_append.1 hx).elim (h x) (k x)
def xor32 (a b : Int) : Int := Go.bits .xor .u32 a b
theorem xor32_bd {a b : Int} (ha : 0 ≤ a ∧ a < 4294967296) (hb : 0 ≤ b ∧ b < 4294967296) : 0 ≤ xor32 a b ∧ xor32 a b < 4294967296 := by
  obtain ⟨x, rfl⟩ := Int.eq_ofNat_of_zero_le ha.1
  obtain ⟨y, rfl⟩ := Int.eq_ofNat_of_zero_le hb.1
  unfold xor32
  rw [u32_xor_nat x y (by omega) (by omega)]
  have : x ^^^ y < 2 ^ 32 := Nat.xor_lt_two_pow (by omega) (by omega)
  omega
theorem xor32_comm {a b : Int} (ha : 0 ≤ a ∧ a < 4294967296) (hb : 0 ≤ b ∧ b < 4294967296) : xor32 a b = xor32 b a := by
  obtain ⟨x, rfl⟩ := Int.eq_ofNat_of_zero_le ha.1
  obtain ⟨y, rfl⟩ := Int.eq_ofNat_of_zero_le hb.1
  unfold xor32
  rw [u32_xor_nat x y (by omega) (by omega), u32_xor_nat y x (by omega) (by omega), Nat.xor_comm]
def bit1 (c : Int) : Int := if c % 2 = 1 then xor32 (c / 2) 3988292384 else c / 2
def bitN : Nat → Int → Int
  | 0, c => c
  | n + 1, c => bitN n (bit1 c)
def crcs (c : Int) : List Int → Int
  | [] => c
  | x :: l => crcs (bitN 8 (xor32 c x)) l
/-- The check of bytes. -/
def crc (l : List Int) : Int := xor32 4294967295 (crcs 4294967295 l)
theorem bit1_bd {c : Int} (h : 0 ≤ c ∧ c < 4294967296) : 0 ≤ bit1 c ∧ bit1 c < 4294967296 := by
  unfold bit1
  split
  · exact xor32_bd (by omega) (by decide)
  · omega
theorem bitN_bd : ∀ (n : Nat) {c : Int}, 0 ≤ c ∧ c < 4294967296 → 0 ≤ bitN n c ∧ bitN n c < 4294967296
  | 0, _, h => h
  | n + 1, _, h => bitN_bd n (bit1_bd h)
theorem crcs_bd : ∀ (l : List Int) {c : Int}, B8 l → 0 ≤ c ∧ c < 4294967296 → 0 ≤ crcs c l ∧ crcs c l < 4294967296
  | [], _, _, h => h
  | x :: l, _, hb, h => crcs_bd l (fun y hy => hb y (List.mem_cons_of_mem _ hy)) (bitN_bd 8 (xor32_bd h (by have := hb x List.mem_cons_self; omega)))
theorem crc_bd {l : List Int} (h : B8 l) : 0 ≤ crc l ∧ crc l < 4294967296 := xor32_bd (by decide) (crcs_bd l h (by decide))
theorem and1 {c : Int} (h : 0 ≤ c ∧ c < 4294967296) : Go.bits .and .u32 c 1 = c % 2 := by
  obtain ⟨x, rfl⟩ := Int.eq_ofNat_of_zero_le h.1
  rw [show (1 : Int) = ((1 : Nat) : Int) from rfl, u32_and_nat x 1 (by omega) (by decide), Nat.and_one_is_mod]
  omega
theorem sum_inner (l : List Int) (n i : Int) : ∀ (d j : Nat) (c : Int), j + d = 8 → 0 ≤ c ∧ c < 4294967296 → ∀ k : Nat, journal_Sum.l1 (k + d + 1) c l n i (j : Int) = journal_Sum.l0 k (bitN d c) l n (wrap64 (i + 1)) := by
  intro d
  induction d with
  | zero =>
    intro j c hj hc k
    rw [journal_Sum.l1, if_neg (by omega)]
    rfl
  | succ d ih =>
    intro j c hj hc k
    have e : wrap64 ((j : Int) + 1) = ((j + 1 : Nat) : Int) := by rw [j64 (by omega) (by omega)]; omega
    have hi := ih (j + 1) (bit1 c) (by omega) (bit1_bd hc) k
    rw [show k + (d + 1) + 1 = (k + d + 1) + 1 from by omega, journal_Sum.l1, if_pos (by omega), and1 hc, e]
    unfold bit1 at hi
    show _ = journal_Sum.l0 k (bitN d (bit1 c)) l n (wrap64 (i + 1))
    unfold bit1
    split
    · rename_i h1
      rw [if_pos h1] at hi
      exact hi
    · rename_i h1
      rw [if_neg h1] at hi
      exact hi
theorem sum_loop (l : List Int) (h : B8 l) (hl : l.length ≤ 9000000000000000000) (n : Int) (hn : n = (l.length : Int)) : ∀ (d i : Nat) (c : Int), i + d = l.length → 0 ≤ c ∧ c < 4294967296 → ∀ k : Nat, 10 * d < k →
    journal_Sum.l0 k c l n (i : Int) = some (xor32 4294967295 (crcs c (l.drop i))) := by
  intro d
  induction d with
  | zero =>
    intro i c hi hc k hk
    obtain ⟨k, rfl⟩ : ∃ m, k = m + 1 := ⟨k - 1, by omega⟩
    rw [journal_Sum.l0, if_neg (by omega), List.drop_of_length_le (by omega)]
    rfl
  | succ d ih =>
    intro i c hi hc k hk
    obtain ⟨k, rfl⟩ : ∃ m, k = m + 8 + 1 + 1 := ⟨k - 10, by omega⟩
    have hx := h.at_ i
    have e : wrap64 ((i : Int) + 1) = ((i + 1 : Nat) : Int) := by rw [j64 (by omega) (by omega)]; omega
    have ed : l.drop i = l.getD i 0 :: l.drop (i + 1) := by
      rw [List.drop_eq_getElem_cons (by omega)]
      simp [List.getD_eq_getElem?_getD, List.getElem?_eq_getElem (show i < l.length by omega)]
    have hb : 0 ≤ xor32 c (l.getD i 0) ∧ xor32 c (l.getD i 0) < 4294967296 := xor32_bd hc (by omega)
    rw [journal_Sum.l0, if_pos (by omega), if_pos (by omega), if_pos (by omega), jrd, Int.emod_eq_of_lt hx.1 (by omega)]
    have := sum_inner l n (i : Int) 8 0 (xor32 c (l.getD i 0)) rfl hb k
    rw [e] at this
    refine this.trans ?_
    rw [ih (i + 1) _ (by omega) (bitN_bd 8 hb) k (by omega), ed]
    rfl
theorem sum_spec (l : List Int) (h : B8 l) (hl : l.length ≤ 9000000000000000000) (k : Nat) (hk : 10 * l.length < k) : journal_Sum.f k l = some (crc l) := sum_loop l h hl _ rfl l.length 0 4294967295 (by omega) (by decide) k hk
theorem rsum_inner (l : List Int) (i : Int) : ∀ (d j : Nat) (c : Int), j + d = 8 → 0 ≤ c ∧ c < 4294967296 → ∀ k : Nat, treenailref13_Sum.l1 (k + d + 1) l c i (j : Int) = treenailref13_Sum.l0 k l (bitN d c) (wrap64 (i + 1)) := by
  intro d
  induction d with
  | zero =>
    intro j c hj hc k
    rw [treenailref13_Sum.l1, if_neg (by omega)]
    rfl
  | succ d ih =>
    intro j c hj hc k
    have e : wrap64 ((j : Int) + 1) = ((j + 1 : Nat) : Int) := by rw [j64 (by omega) (by omega)]; omega
    have hi := ih (j + 1) (bit1 c) (by omega) (bit1_bd hc) k
    rw [show k + (d + 1) + 1 = (k + d + 1) + 1 from by omega, treenailref13_Sum.l1, if_pos (by omega), Int.tmod_eq_emod_of_nonneg hc.1, Int.tdiv_eq_ediv_of_nonneg hc.1, Int.emod_eq_of_lt (a := c / 2) (by omega) (by omega), e]
    unfold bit1 at hi
    show _ = treenailref13_Sum.l0 k l (bitN d (bit1 c)) (wrap64 (i + 1))
    unfold bit1
    split
    · rename_i h1
      rw [if_pos h1] at hi
      exact hi
    · rename_i h1
      rw [if_neg h1] at hi
      exact hi
theorem rsum_loop (l : List Int) (h : B8 l) (hl : l.length ≤ 9000000000000000000) : ∀ (d i : Nat) (c : Int), i + d = l.length → 0 ≤ c ∧ c < 4294967296 → ∀ k : Nat, 10 * d < k →
    treenailref13_Sum.l0 k l c (i : Int) = some (xor32 (crcs c (l.drop i)) 4294967295) := by
  intro d
  induction d with
  | zero =>
    intro i c hi hc k hk
    obtain ⟨k, rfl⟩ : ∃ m, k = m + 1 := ⟨k - 1, by omega⟩
    rw [treenailref13_Sum.l0, if_neg (by omega), List.drop_of_length_le (by omega)]
    rfl
  | succ d ih =>
    intro i c hi hc k hk
    obtain ⟨k, rfl⟩ : ∃ m, k = m + 8 + 1 + 1 := ⟨k - 10, by omega⟩
    have hx := h.at_ i
    have e : wrap64 ((i : Int) + 1) = ((i + 1 : Nat) : Int) := by rw [j64 (by omega) (by omega)]; omega
    have ed : l.drop i = l.getD i 0 :: l.drop (i + 1) := by
      rw [List.drop_eq_getElem_cons (by omega)]
      simp [List.getD_eq_getElem?_getD, List.getElem?_eq_getElem (show i < l.length by omega)]
    have hb : 0 ≤ xor32 c (l.getD i 0) ∧ xor32 c (l.getD i 0) < 4294967296 := xor32_bd hc (by omega)
    rw [treenailref13_Sum.l0, if_pos (by omega), if_pos (by omega), jrd, Int.emod_eq_of_lt hx.1 (by omega)]
    have := rsum_inner l (i : Int) 8 0 (xor32 c (l.getD i 0)) rfl hb k
    rw [e] at this
    refine this.trans ?_
    rw [ih (i + 1) _ (by omega) (bitN_bd 8 hb) k (by omega), ed]
    rfl
theorem rsum_spec (l : List Int) (h : B8 l) (hl : l.length ≤ 9000000000000000000) (k : Nat) (hk : 10 * l.length < k) : treenailref13_Sum.f k l = some (crc l) := by
  refine (rsum_loop l h hl l.length 0 4294967295 (by omega) (by decide) k hk).trans ?_
  rw [List.drop_zero, xor32_comm (crcs_bd l h (by decide)) (by decide)]
  rfl
/-- A number's four bytes; the number of four bytes. -/
def four (v : Int) : List Int := [v % 256, v / 256 % 256, v / 65536 % 256, v / 16777216 % 256]
def num4 (l : List Int) : Int := l.getD 0 0 + 256 * l.getD 1 0 + 65536 * l.getD 2 0 + 16777216 * l.getD 3 0
theorem four_b8 (v : Int) : B8 (four v) := fun x hx => by
  simp only [four, List.mem_cons, List.not_mem_nil, or_false] at hx
  rcases hx with rfl | rfl | rfl | rfl <;> omega
theorem num4_bd {l : List Int} (h : B8 l) : 0 ≤ num4 l ∧ num4 l < 4294967296 := by
  have h0 := h.at_ 0; have h1 := h.at_ 1; have h2 := h.at_ 2; have h3 := h.at_ 3
  unfold num4
  omega
theorem num4_four {v : Int} (h : 0 ≤ v ∧ v < 4294967296) : num4 (four v) = v := by
  simp [num4, four]
  omega
theorem four_num4 {l : List Int} (h : B8 l) (hl : l.length = 4) : four (num4 l) = l := by
  match l, hl with
  | [a, b, c, d], _ =>
    have ha := h a (by simp)
    have hb := h b (by simp)
    have hc := h c (by simp)
    have hd := h d (by simp)
    simp [four, num4]
    omega
/-- A record's frame. -/
def fr (l : List Int) : List Int := four (l.length : Int) ++ (four (crc (four (l.length : Int) ++ l)) ++ l)
end Go.Proofs.Ytlgkcpmedjpoaaa.X
