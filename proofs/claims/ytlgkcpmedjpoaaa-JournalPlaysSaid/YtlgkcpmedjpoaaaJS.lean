/- The journal's records of bytes, plainly; what the printed functions compute. -/
import Derived.Test.YtlgkcpmedjpoaaaJP
import Derived.Test.YtlgkcpmedjpoaaaXP2
namespace Go.Proofs.Ytlgkcpmedjpoaaa.X
open Go.RowKit Go.Proofs.Ytlgkcpmedjpoaaa Go.Proofs.YtlgkcpmedjpoaaaW.PrintWords Go.Proofs.YtlgkcpmedjpoaaaW.PrintLast Go.Proofs.YtlgkcpmedjpoaaaW.PrintMore
set_option linter.unusedVariables false
set_option linter.unusedSimpArgs false
theorem or_pow (k x y z : Nat) (hx : x < 2 ^ k) (hz : z = 2 ^ k * y) (hb : z + x < 4294967296) : Go.bits .or .u32 (x : Int) (z : Int) = ((x + z : Nat) : Int) := by
  rw [u32_or_nat x z (by omega) (by omega), Nat.or_comm, hz, ← Nat.two_pow_add_eq_or_of_lt hx y, Nat.add_comm]
theorem jof_spec (l : List Int) (h : B8 l) (hl : 4 ≤ l.length) : journal_of.f l = some (num4 l) := by
  obtain ⟨a, ha⟩ := Int.eq_ofNat_of_zero_le (h.at_ 0).1
  obtain ⟨b, hb⟩ := Int.eq_ofNat_of_zero_le (h.at_ 1).1
  obtain ⟨c, hc⟩ := Int.eq_ofNat_of_zero_le (h.at_ 2).1
  obtain ⟨d, hd⟩ := Int.eq_ofNat_of_zero_le (h.at_ 3).1
  have a2 := (h.at_ 0).2
  have b2 := (h.at_ 1).2
  have c2 := (h.at_ 2).2
  have d2 := (h.at_ 3).2
  rw [ha] at a2
  rw [hb] at b2
  rw [hc] at c2
  rw [hd] at d2
  have r0 : rd l 0 = (a : Int) := ha
  have r1 : rd l 1 = (b : Int) := hb
  have r2 : rd l 2 = (c : Int) := hc
  have r3 : rd l 3 = (d : Int) := hd
  unfold journal_of.f num4
  rw [if_pos (by omega), if_pos (by omega), if_pos (by omega), if_pos (by omega), r0, r1, r2, r3, ha, hb, hc, hd]
  rw [show (a : Int) % 4294967296 = (a : Int) by omega, show (b : Int) % 4294967296 * 256 % 4294967296 = ((256 * b : Nat) : Int) by omega, show (c : Int) % 4294967296 * 65536 % 4294967296 = ((65536 * c : Nat) : Int) by omega, show (d : Int) % 4294967296 * 16777216 % 4294967296 = ((16777216 * d : Nat) : Int) by omega]
  rw [or_pow 8 a b _ (by omega) (by omega) (by omega), or_pow 16 _ c _ (by omega) (by omega) (by omega), or_pow 24 _ d _ (by omega) (by omega) (by omega)]
  congr 1
theorem rnum_spec (l : List Int) (h : B8 l) (hl : 4 ≤ l.length) : treenailref13_number.f l = some (num4 l) := by
  have a := h.at_ 0
  have b := h.at_ 1
  have c := h.at_ 2
  have d := h.at_ 3
  have r0 : rd l 0 = l.getD 0 0 := rfl
  have r1 : rd l 1 = l.getD 1 0 := rfl
  have r2 : rd l 2 = l.getD 2 0 := rfl
  have r3 : rd l 3 = l.getD 3 0 := rfl
  unfold treenailref13_number.f num4
  rw [if_pos (by omega), if_pos (by omega), if_pos (by omega), if_pos (by omega), r0, r1, r2, r3]
  generalize l.getD 0 0 = a at *
  generalize l.getD 1 0 = b at *
  generalize l.getD 2 0 = c at *
  generalize l.getD 3 0 = d at *
  congr 1
  unfold wrap64
  omega
theorem rfour_spec (v : Int) (h : 0 ≤ v ∧ v < 4294967296) : treenailref13_four.f v = some (four v) := by
  unfold treenailref13_four.f four
  rw [Int.tmod_eq_emod_of_nonneg h.1, Int.tdiv_eq_ediv_of_nonneg h.1, Int.tdiv_eq_ediv_of_nonneg h.1, Int.tdiv_eq_ediv_of_nonneg h.1]
  congr 1
  simp only [List.cons.injEq, and_true]
  omega
theorem rframe_spec (l : List Int) (h : B8 l) (hl : l.length ≤ 4000000000) (k : Nat) (hk : 10 * (l.length + 4) < k) : treenailref13_Frame.f k l = some (fr l) := by
  unfold treenailref13_Frame.f fr
  have b4 := four_b8 (l.length : Int)
  have hb : B8 (four (l.length : Int) ++ l) := b4.app h
  have l4 : ∀ v, (four v).length = 4 := fun _ => rfl
  have e : (l.length : Int) % 4294967296 = (l.length : Int) := by omega
  rw [e, rfour_spec _ (by omega)]
  simp only [Option.bind_some, List.length_nil, List.nil_append, l4]
  rw [if_pos (by omega), if_pos (by omega), if_pos (by omega), rsum_spec _ hb (by rw [List.length_append, l4]; omega) k (by rw [List.length_append, l4]; omega)]
  have hc := crc_bd hb
  rw [Option.bind_some, rfour_spec _ hc, Option.bind_some, l4, if_pos (by omega)]
  simp only [Option.bind_some, List.append_assoc, List.length_append, l4]
  rw [if_pos (by omega)]
/-- The records of bytes from place 'at' on, and where they end. -/
def scn (l : List Int) : Nat → List (List Int) → Nat → List (List Int) × Nat
  | 0, out, at_ => (out, at_)
  | f + 1, out, at_ =>
    if at_ + 8 ≤ l.length then
      if 2097152 < (num4 (l.drop at_)).toNat ∨ l.length < at_ + 8 + (num4 (l.drop at_)).toNat then (out, at_)
      else if crc ((l.drop at_).take 4 ++ (l.drop (at_ + 8)).take (num4 (l.drop at_)).toNat) = num4 (l.drop (at_ + 4)) then
        scn l f (out ++ [(l.drop (at_ + 8)).take (num4 (l.drop at_)).toNat]) (at_ + 8 + (num4 (l.drop at_)).toNat)
      else (out, at_)
    else (out, at_)
theorem scn_at (l : List Int) : ∀ (f : Nat) (out : List (List Int)) (at_ : Nat), at_ ≤ l.length → (scn l f out at_).2 ≤ l.length := by
  intro f
  induction f with
  | zero => intro out at_ h; exact h
  | succ f ih =>
    intro out at_ h
    rw [scn]
    split
    · split
      · exact h
      · split
        · exact ih _ _ (by omega)
        · exact h
    · exact h
theorem w_nat (n : Nat) (h : n ≤ 1000000000000000) : wrap64 (n : Int) = (n : Int) := j64 (by omega) (by omega)
theorem w_add (a b : Nat) (h : a + b ≤ 1000000000000000) : wrap64 ((a : Int) + (b : Int)) = ((a + b : Nat) : Int) := by rw [j64 (by omega) (by omega)]; omega
theorem w_sub (a b : Nat) (h : b ≤ a) (h2 : a ≤ 1000000000000000) : wrap64 ((a : Int) - (b : Int)) = ((a - b : Nat) : Int) := by rw [j64 (by omega) (by omega)]; omega
theorem w_adds (a n : Nat) (h : a + n ≤ 100000000000000) : wrap64 ((a : Int) + wrap64 (8 + (n : Int))) = ((a + 8 + n : Nat) : Int) := by
  rw [show wrap64 (8 + (n : Int)) = ((8 + n : Nat) : Int) from w_add 8 n (by omega), w_add a (8 + n) (by omega), Nat.add_assoc]
theorem flat_two (a b : List Int) : ([a, b] : List (List Int)).flatten = a ++ b := by simp
theorem take_drop_ (l : List Int) (a b : Nat) : (l.take (a + b)).drop a = (l.drop a).take b := by rw [List.drop_take]; congr 1; omega
set_option maxHeartbeats 1000000 in
theorem jscan_loop (l : List Int) (h : B8 l) (hl : l.length ≤ 1000000000000) : ∀ (f at_ : Nat) (out : List (List Int)), at_ ≤ l.length → l.length - at_ < f → out.length + (l.length - at_) ≤ 1000000000000 → ∀ k : Nat, 2 * f + 10 * (l.length + 4) + 10 < k →
    journal_Scan.l0 k l out (at_ : Int) = some ((scn l f out at_).1, ((scn l f out at_).2 : Int)) := by
  intro f
  induction f with
  | zero => intro at_ out h1 h2; omega
  | succ f ih =>
    intro at_ out h1 h2 h3 k hk
    obtain ⟨k, rfl⟩ : ∃ m, k = m + 1 + 1 := ⟨k - 2, by omega⟩
    have e0 := w_sub l.length at_ h1 (by omega)
    rw [journal_Scan.l0, scn, e0]
    clear e0
    by_cases g : at_ + 8 ≤ l.length
    · rw [if_pos (by omega), if_pos (by omega), if_pos (by omega), if_pos g, Int.toNat_natCast, jof_spec _ (h.drop at_) (by rw [List.length_drop]; omega), Option.bind_some]
      obtain ⟨n, hn⟩ := Int.eq_ofNat_of_zero_le (num4_bd (h.drop at_)).1
      have hn2 := (num4_bd (h.drop at_)).2
      rw [hn] at hn2
      have e1 := w_nat n (by omega)
      have e2 : wrap64 (((l.length - at_ : Nat) : Int) - 8) = ((l.length - at_ - 8 : Nat) : Int) := w_sub _ 8 (by omega) (by omega)
      rw [hn, e1, e2, Int.toNat_natCast]
      clear hn e1 e2
      by_cases g1 : 2097152 < n
      · rw [if_pos (by omega), journal_Scan.j1, if_pos rfl, if_pos (Or.inl g1)]
      · rw [if_neg (by omega), journal_Scan.j1]
        by_cases g2 : l.length < at_ + 8 + n
        · rw [if_pos (by rw [decide_eq_true_eq]; omega), if_pos (Or.inr g2)]
        · rw [if_neg (by rw [decide_eq_true_eq]; omega), if_neg (show ¬ (2097152 < n ∨ l.length < at_ + 8 + n) by omega)]
          have hn3 : at_ + 8 + n ≤ l.length := by omega
          clear hn2 g1 g2
          have e3 : wrap64 ((at_ : Int) + 8) = ((at_ + 8 : Nat) : Int) := w_add at_ 8 (by omega)
          have e4 := w_add (at_ + 8) n (by omega)
          have e5 : wrap64 ((at_ : Int) + 4) = ((at_ + 4 : Nat) : Int) := w_add at_ 4 (by omega)
          have e6 := w_adds at_ n (by omega)
          rw [e3, e4, e5, e6]
          clear e3 e4 e5 e6
          have tk := take_drop_ l
          rw [if_pos (by omega), if_pos (by omega), if_pos (by omega), Option.bind_some, if_pos (by omega), if_pos (by omega), if_pos (by omega)]
          simp only [Int.toNat_natCast]
          rw [tk, tk]
          have lb : ((l.drop (at_ + 8)).take n).length = n := by rw [List.length_take, List.length_drop]; omega
          have lf := flat_two ((l.drop at_).take 4) ((l.drop (at_ + 8)).take n)
          have ll : ((l.drop at_).take 4 ++ (l.drop (at_ + 8)).take n).length = 4 + n := by rw [List.length_append, lb, List.length_take, List.length_drop]; omega
          have hc : slices_Concat_byte_byte.f [(l.drop at_).take 4, (l.drop (at_ + 8)).take n] = some ((l.drop at_).take 4 ++ (l.drop (at_ + 8)).take n) := by
            unfold slices_Concat_byte_byte.f
            rw [lf, ll, if_pos (by omega)]
          rw [hc, Option.bind_some, sum_spec _ (((h.drop at_).take 4).app ((h.drop (at_ + 8)).take n)) (by rw [ll]; omega) k (by rw [ll]; omega), Option.bind_some, if_pos (by omega), jof_spec _ (h.drop (at_ + 4)) (by rw [List.length_drop]; omega), Option.bind_some]
          by_cases g3 : crc ((l.drop at_).take 4 ++ (l.drop (at_ + 8)).take n) = num4 (l.drop (at_ + 4))
          · have hcl : slices_Clone_byte_byte.f ((l.drop (at_ + 8)).take n) = some ((l.drop (at_ + 8)).take n) := by
              unfold slices_Clone_byte_byte.f
              rw [if_pos (by omega)]
            rw [if_pos g3, hcl, Option.bind_some, if_pos (by omega), if_pos g3]
            exact ih (at_ + 8 + n) _ (by omega) (by omega) (by rw [List.length_append, List.length_singleton]; omega) k (by omega)
          · rw [if_neg g3, if_neg g3]
    · rw [if_neg (by omega), if_neg g]
/-- journal.Scan, of whatever bytes. -/
theorem jscan_spec (l : List Int) (h : B8 l) (hl : l.length ≤ 1000000000000) (k : Nat) (hk : 12 * l.length + 100 < k) : journal_Scan.f k l = some ((scn l (l.length + 1) [] 0).1, ((scn l (l.length + 1) [] 0).2 : Int)) :=
  jscan_loop l h hl (l.length + 1) 0 [] (by omega) (by omega) (by simp; omega) k (by omega)
end Go.Proofs.Ytlgkcpmedjpoaaa.X
