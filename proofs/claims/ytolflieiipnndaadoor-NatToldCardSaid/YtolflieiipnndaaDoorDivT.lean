/- Plain numbers: the long division, digit by digit; a number moved down. -/
import Derived.Test.YtolflieiipnndaaDoorDivP
namespace Go.Proofs.YtolflieiipnndaaDoor.Num
open Go.RowKit
set_option linter.unusedVariables false
theorem drop_cons (l : List Int) (i : Nat) (h : i < l.length) : l.drop i = l.getD i 0 :: l.drop (i + 1) := by
  rw [List.drop_eq_getElem_cons h]
  simp [List.getD_eq_getElem?_getD, List.getElem?_eq_getElem h]
/-- The digits from j on are reckoned: Q's times D and what is left are the number's. -/
structure LD (D : Int) (j : Nat) (u X Q : List Int) : Prop where
  len : X.length = u.length
  low : X.take j = u.take j
  dX : Dig 18446744073709551616 X
  dQ : Dig 18446744073709551616 Q
  lt : val 18446744073709551616 (X.drop j) < D
  eq : val 18446744073709551616 (Q.drop j) * D + val 18446744073709551616 (X.drop j) = val 18446744073709551616 (u.drop j)
def win (X : List Int) (i n : Nat) : List Int := (X.drop i).take (n + 1)
def after (X : List Int) (i n : Nat) (x : Int) : List Int := X.take i ++ (pad 18446744073709551616 (n + 1) x ++ X.drop (i + (n + 1)))
theorem LD.start (D : Int) (u : List Int) (j m : Nat) (hu : Dig 18446744073709551616 u) (h : val 18446744073709551616 (u.drop j) < D) (hm : m ≤ j) : LD D j u u (List.replicate m 0) := by
  refine ⟨rfl, rfl, hu, Dig.reps (by decide) _, h, ?_⟩
  rw [List.drop_of_length_le (by simp; omega)]
  simp [val]
section
variable {D : Int} {i n : Nat} {u X Q : List Int} (h : LD D (i + 1) u X Q) (hn : D < (18446744073709551616 : Int) ^ n) (hi : i + (n + 1) ≤ X.length)
include h hn hi
theorem LD.window : val 18446744073709551616 (win X i n) < 18446744073709551616 * D ∧ (win X i n).length = n + 1 ∧ Dig 18446744073709551616 (win X i n) ∧ 0 < D ∧ X = X.take i ++ (win X i n ++ X.drop (i + (n + 1))) ∧
    val 18446744073709551616 (win X i n) = val 18446744073709551616 (X.drop i) ∧ val 18446744073709551616 (X.drop (i + (n + 1))) = 0 := by
  have hD := h.lt
  have h0 := val_nonneg (h.dX.drop (i + 1))
  have hx := Dig.at_ (by decide) h.dX i
  rw [show ((18446744073709551616 : Nat) : Int) = 18446744073709551616 from rfl] at hx
  have e1 : val 18446744073709551616 (X.drop i) = X.getD i 0 + 18446744073709551616 * val 18446744073709551616 (X.drop (i + 1)) := by
    rw [drop_cons X i (by omega)]; rfl
  have hl : (X.drop i).length = X.length - i := List.length_drop ..
  have hs := val_split 18446744073709551616 (X.drop i) (n + 1) (by omega)
  rw [List.drop_drop, show ((18446744073709551616 : Nat) : Int) = 18446744073709551616 from rfl] at hs
  have n0 := val_nonneg ((h.dX.drop i).take (n + 1))
  have r0 := val_nonneg (h.dX.drop (i + (n + 1)))
  have hp : (0 : Int) < (18446744073709551616 : Int) ^ n := Int.pow_pos (by decide)
  have lt : val 18446744073709551616 (X.drop i) < 18446744073709551616 * D := by omega
  have rz : val 18446744073709551616 (X.drop (i + (n + 1))) = 0 := by
    rcases Int.lt_or_le 0 (val 18446744073709551616 (X.drop (i + (n + 1)))) with hh | hh
    · exfalso
      have := Int.mul_le_mul_of_nonneg_left (show 1 ≤ val 18446744073709551616 (X.drop (i + (n + 1))) by omega) (show 0 ≤ (18446744073709551616 : Int) ^ (n + 1) from Int.le_of_lt (Int.pow_pos (by decide)))
      rw [Int.mul_one, Int.pow_succ] at this
      rw [Int.pow_succ] at hs
      clear hi
      generalize (18446744073709551616 : Int) ^ n * 18446744073709551616 * val 18446744073709551616 (X.drop (i + (n + 1))) = Z at *
      generalize (18446744073709551616 : Int) ^ n = p at *
      omega
    · omega
  rw [rz, Int.mul_zero, Int.add_zero] at hs
  refine ⟨by rw [win, ← hs]; exact lt, by rw [win, List.length_take, hl]; omega, (h.dX.drop i).take _, by omega, ?_, hs.symm, rz⟩
  rw [win, ← List.drop_drop, List.take_append_drop, List.take_append_drop]
theorem LD.round (hq : i < Q.length) : (0 ≤ val 18446744073709551616 (win X i n) / D ∧ val 18446744073709551616 (win X i n) / D < 18446744073709551616) ∧
    LD D i u (after X i n (val 18446744073709551616 (win X i n) % D)) (Q.set i (val 18446744073709551616 (win X i n) / D)) := by
  obtain ⟨g1, g2, g3, g4, g5, g6, g7⟩ := h.window hn hi
  have w0 := val_nonneg g3
  have q0 := Int.ediv_nonneg w0 (Int.le_of_lt g4)
  have q1 : val 18446744073709551616 (win X i n) / D < 18446744073709551616 := Int.ediv_lt_of_lt_mul g4 g1
  have e := Int.emod_add_mul_ediv (val 18446744073709551616 (win X i n)) D
  have r0 := Int.emod_nonneg (val 18446744073709551616 (win X i n)) (show D ≠ 0 by omega)
  have r1 := Int.emod_lt_of_pos (val 18446744073709551616 (win X i n)) g4
  have hlow : X.getD i 0 = u.getD i 0 := by
    have := congrArg (fun l => l.getD i 0) h.low
    simpa [List.getD_eq_getElem?_getD, List.getElem?_take] using this
  have ex : val 18446744073709551616 (X.drop i) = X.getD i 0 + 18446744073709551616 * val 18446744073709551616 (X.drop (i + 1)) := by
    rw [drop_cons X i (by omega)]; rfl
  have eu : val 18446744073709551616 (u.drop i) = u.getD i 0 + 18446744073709551616 * val 18446744073709551616 (u.drop (i + 1)) := by
    rw [drop_cons u i (by have := h.len; omega)]; rfl
  have lt : X.take i = u.take i := by
    have := congrArg (fun l => l.take i) h.low
    simpa [List.take_take] using this
  have heq := h.eq
  generalize val 18446744073709551616 (win X i n) = W at *
  have ed : (after X i n (W % D)).drop i = pad 18446744073709551616 (n + 1) (W % D) ++ X.drop (i + (n + 1)) := by
    unfold after
    rw [List.drop_append_of_le_length (by rw [List.length_take]; omega), List.drop_of_length_le (by rw [List.length_take]; omega), List.nil_append]
  have hpb : W % D < ((18446744073709551616 : Nat) : Int) ^ (n + 1) := by
    have hp : (0 : Int) < (18446744073709551616 : Int) ^ n := Int.pow_pos (by decide)
    rw [pow_succ_, show ((18446744073709551616 : Nat) : Int) = 18446744073709551616 from rfl]
    generalize (18446744073709551616 : Int) ^ n = p at *
    omega
  have ev : val 18446744073709551616 ((after X i n (W % D)).drop i) = W % D := by
    rw [ed, val_append, val_pad (by decide) _ _ r0 hpb, g7, Int.mul_zero, Int.add_zero]
  have eq2 : (Q.set i (W / D)).drop i = W / D :: Q.drop (i + 1) := by
    rw [drop_cons _ i (by rw [List.length_set]; exact hq), List.drop_set_of_lt (by omega), getD_set _ _ _ hq]
  refine ⟨⟨q0, q1⟩, ?_, ?_, ?_, h.dQ.set _ ⟨q0, q1⟩, by rw [ev]; exact r1, ?_⟩
  · have := h.len
    simp only [after, List.length_append, List.length_take, pad_len, List.length_drop]
    omega
  · rw [after, List.take_append_of_le_length (by rw [List.length_take]; omega), List.take_take, Nat.min_self, lt]
  · exact (h.dX.take i).app ((pad_dig (by decide) _ _).app (h.dX.drop _))
  · rw [ev, eq2, eu, ← heq, ← hlow]
    show (W / D + 18446744073709551616 * val 18446744073709551616 (Q.drop (i + 1))) * D + W % D = _
    have e3 : W = X.getD i 0 + 18446744073709551616 * val 18446744073709551616 (X.drop (i + 1)) := by omega
    clear hpb ev ed eq2 g1 g2 g3 g5 g7 r0 r1 q0 q1
    grind
end
theorem LD.quot {D : Int} {u X Q : List Int} (h : LD D 0 u X Q) : val 18446744073709551616 Q = val 18446744073709551616 u / D ∧ val 18446744073709551616 X = val 18446744073709551616 u % D := by
  have h1 := h.lt
  have h2 := h.eq
  have h0 := val_nonneg h.dX
  simp only [List.drop_zero] at h1 h2
  obtain ⟨d1, d2⟩ := quot_of (u := val 18446744073709551616 u) (v := D) (q := val 18446744073709551616 Q) (by omega) (by rw [Int.add_mul]; omega) (by omega)
  exact ⟨d1.symm, by omega⟩
/-- A number's digits, moved down. -/
def dgl (p q : Int) : List Int → List Int
  | [] => []
  | x :: l => (x / p + l.getD 0 0 % p * q) :: dgl p q l
theorem dgl_len (p q : Int) : ∀ l : List Int, (dgl p q l).length = l.length
  | [] => rfl
  | x :: l => by simp [dgl, dgl_len p q l]
theorem dgl_at (p q : Int) : ∀ (l : List Int) (i : Nat), i < l.length → (dgl p q l).getD i 0 = l.getD i 0 / p + l.getD (i + 1) 0 % p * q
  | [], i, h => by simp at h
  | x :: l, 0, h => by simp [dgl]
  | x :: l, i + 1, h => by
    have := dgl_at p q l i (by simpa using h)
    simpa [dgl] using this
theorem dgl_dig {p q : Int} (hp : 0 < p) (hpq : p * q = 18446744073709551616) (hq : 0 < q) : ∀ {l : List Int}, Dig 18446744073709551616 l → Dig 18446744073709551616 (dgl p q l)
  | [], _ => Dig.nil _
  | x :: l, h => fun y hy => by
    rcases List.mem_cons.1 hy with rfl | hy
    · have hx := h.head
      have a0 := Int.ediv_nonneg hx.1 (Int.le_of_lt hp)
      have a1 : x / p < q := Int.ediv_lt_of_lt_mul hp (by rw [Int.mul_comm, hpq]; exact hx.2)
      have b0 := Int.emod_nonneg (l.getD 0 0) (show p ≠ 0 by omega)
      have b1 := Int.emod_lt_of_pos (l.getD 0 0) hp
      have b2 : 0 ≤ l.getD 0 0 % p * q := Int.mul_nonneg b0 (Int.le_of_lt hq)
      have b3 : (l.getD 0 0 % p + 1) * q ≤ p * q := Int.mul_le_mul_of_nonneg_right (by omega) (Int.le_of_lt hq)
      rw [Int.add_mul, Int.one_mul, hpq] at b3
      refine ⟨by omega, ?_⟩
      show _ < (18446744073709551616 : Int)
      omega
    · exact dgl_dig hp hpq hq h.tail y hy
theorem dgl_val {p q : Int} (hp : 0 < p) (hpq : p * q = 18446744073709551616) : ∀ l : List Int, val 18446744073709551616 (dgl p q l) * p + l.getD 0 0 % p = val 18446744073709551616 l
  | [] => by simp [dgl, val]
  | x :: l => by
    have ih := dgl_val hp hpq l
    have e := Int.emod_add_mul_ediv x p
    show (x / p + l.getD 0 0 % p * q + 18446744073709551616 * val 18446744073709551616 (dgl p q l)) * p + x % p = x + 18446744073709551616 * val 18446744073709551616 l
    rw [← ih, ← hpq]
    generalize l.getD 0 0 % p = a
    generalize val 18446744073709551616 (dgl p q l) = b
    generalize x % p = c at *
    generalize x / p = d at *
    grind
theorem dgl_div {p q : Int} (hp : 0 < p) (hpq : p * q = 18446744073709551616) (l : List Int) : val 18446744073709551616 (dgl p q l) = val 18446744073709551616 l / p := by
  have h := dgl_val hp hpq l
  have b0 := Int.emod_nonneg (l.getD 0 0) (show p ≠ 0 by omega)
  have b1 := Int.emod_lt_of_pos (l.getD 0 0) hp
  exact (quot_of (u := val 18446744073709551616 l) (v := p) (q := val 18446744073709551616 (dgl p q l)) hp (by rw [Int.add_mul]; omega) (by omega)).1.symm
theorem take_zeros_set (l : List Int) (i m : Nat) (h : i < l.length) : (l.take i ++ List.replicate (m + 1) 0).set i (l.getD i 0) = l.take (i + 1) ++ List.replicate m 0 := by
  rw [List.set_append_right _ _ (by rw [List.length_take]; omega), List.length_take, Nat.min_eq_left (by omega), Nat.sub_self, List.replicate_succ, List.set_cons_zero, take_rd l i h, List.append_assoc]
  rfl
/-- A number's highest digit is not 0. -/
theorem digs_top_ {B : Nat} (hB : 2 ≤ B) : ∀ n : Int, 0 ≤ n → 0 < n → (digs B n).getD ((digs B n).length - 1) 0 ≠ 0 := by
  refine digs_ind hB (P := fun n => 0 < n → (digs B n).getD ((digs B n).length - 1) 0 ≠ 0) (fun h => absurd h (by decide)) ?_
  intro n hn ih _
  rw [digs_pos hB hn]
  rcases Int.lt_or_le 0 (n / B) with h | h
  · have h1 := ih h
    obtain ⟨m, hm⟩ : ∃ m, (digs B (n / B)).length = m + 1 := ⟨(digs B (n / B)).length - 1, by rw [digs_pos hB h]; simp⟩
    rw [hm] at h1
    rw [List.length_cons, hm]
    exact h1
  · rw [digs_neg h]
    have e := Int.emod_add_mul_ediv n B
    have h0 : 0 ≤ n / B := Int.ediv_nonneg (by omega) (by omega)
    have h1 : n / (B : Int) = 0 := by omega
    rw [h1, Int.mul_zero] at e
    show n % B ≠ 0
    omega
theorem digs_top {B : Nat} (hB : 2 ≤ B) {n : Int} (h : 0 < n) : (digs B n).getD ((digs B n).length - 1) 0 ≠ 0 := digs_top_ hB n (Int.le_of_lt h) h
/-- Both numbers, shifted so that the divisor's highest bit is 1: what the division starts from. -/
theorem div_setup {t0 t1 : List Int} {la n s : Nat} (d0 : Dig 18446744073709551616 t0) (d1 : Dig 18446744073709551616 t1) (h0 : t0.length = la) (h1 : t1.length = n) (hn : 1 ≤ n) (hna : n ≤ la) (hs : s ≤ 63)
    (hlo : 9223372036854775808 ≤ (t1.getD (n - 1) 0).toNat * 2 ^ s) (hhi : (t1.getD (n - 1) 0).toNat * 2 ^ s < 18446744073709551616) :
    ∃ U V : List Int, U = pad 18446744073709551616 (la + 1) (val 18446744073709551616 t0 * 2 ^ s) ∧ V = (pad 18446744073709551616 (n + 1) (val 18446744073709551616 t1 * 2 ^ s)).take n ∧ U.length = la + 1 ∧ V.length = n ∧ Dig 18446744073709551616 U ∧ Dig 18446744073709551616 V ∧
      val 18446744073709551616 U = val 18446744073709551616 t0 * 2 ^ s ∧ val 18446744073709551616 V = val 18446744073709551616 t1 * 2 ^ s ∧ val 18446744073709551616 V < (18446744073709551616 : Int) ^ n ∧ val 18446744073709551616 (U.drop (la - n + 1)) < val 18446744073709551616 V ∧ 0 < val 18446744073709551616 t1 := by
  have htop := Dig.at_ (by decide) d1 (n - 1)
  have n0 := val_nonneg d0
  have l0 := val_lt d0
  have e1 := val_take 18446744073709551616 t1 (n - 1) (by omega)
  rw [show n - 1 + 1 = n from by omega, List.take_of_length_le (by omega)] at e1
  have b1 := val_lt (d1.take (n - 1))
  have b0 := val_nonneg (d1.take (n - 1))
  rw [List.length_take, Nat.min_eq_left (by omega)] at b1
  rw [h0] at l0
  have hB : ((18446744073709551616 : Nat) : Int) = 18446744073709551616 := rfl
  rw [hB] at htop l0 e1 b1
  have hP : (0 : Int) < (18446744073709551616 : Int) ^ (n - 1) := Int.pow_pos (by decide)
  have hp : (0 : Int) < (2 : Int) ^ s := Int.pow_pos (by decide)
  have hp63 : (2 : Int) ^ s ≤ 9223372036854775808 := by
    have a : 2 ^ s ≤ 2 ^ 63 := Nat.pow_le_pow_right (by omega) hs
    have b : ((2 ^ s : Nat) : Int) ≤ ((2 ^ 63 : Nat) : Int) := Int.ofNat_le.2 a
    rw [Int.natCast_pow] at b
    exact b
  have hq : (2 : Int) ^ s * (2 : Int) ^ (64 - s) = 18446744073709551616 := by rw [← Int.pow_add, show s + (64 - s) = 64 from by omega]; rfl
  have hlo' : (9223372036854775808 : Int) ≤ t1.getD (n - 1) 0 * 2 ^ s := by
    have b := Int.ofNat_le.2 hlo
    rw [Int.natCast_mul, Int.natCast_pow, Int.toNat_of_nonneg htop.1] at b
    exact b
  have hhi' : t1.getD (n - 1) 0 * 2 ^ s < (18446744073709551616 : Int) := by
    have b := Int.ofNat_lt.2 hhi
    rw [Int.natCast_mul, Int.natCast_pow, Int.toNat_of_nonneg htop.1] at b
    exact b
  have en : (18446744073709551616 : Int) ^ n = (18446744073709551616 : Int) ^ (n - 1) * 18446744073709551616 := by
    have := pow_succ_ 18446744073709551616 (n - 1)
    rw [show n - 1 + 1 = n from by omega] at this
    exact this
  have ea : (18446744073709551616 : Int) ^ la = (18446744073709551616 : Int) ^ (la - n + 1) * (18446744073709551616 : Int) ^ (n - 1) := by rw [← Int.pow_add]; congr 1; omega
  have ea1 : (18446744073709551616 : Int) ^ (la + 1) = (18446744073709551616 : Int) ^ la * 18446744073709551616 := Int.pow_succ ..
  have hA : (0 : Int) < (18446744073709551616 : Int) ^ la := Int.pow_pos (by decide)
  have en1 : (18446744073709551616 : Int) ^ (n + 1) = (18446744073709551616 : Int) ^ n * 18446744073709551616 := Int.pow_succ ..
  have hn0 : (0 : Int) < (18446744073709551616 : Int) ^ n := Int.pow_pos (by decide)
  have top1 : t1.getD (n - 1) 0 + 1 ≤ (2 : Int) ^ (64 - s) := by
    rcases Int.lt_or_le (t1.getD (n - 1) 0) ((2 : Int) ^ (64 - s)) with hh | hh
    · omega
    · exfalso
      have := Int.mul_le_mul_of_nonneg_right hh (Int.le_of_lt hp)
      rw [Int.mul_comm ((2 : Int) ^ (64 - s)), hq] at this
      omega
  have topB : (t1.getD (n - 1) 0 + 1) * 2 ^ s ≤ 18446744073709551616 := by
    have := Int.mul_le_mul_of_nonneg_right top1 (Int.le_of_lt hp)
    rwa [Int.mul_comm ((2 : Int) ^ (64 - s)), hq] at this
  clear hlo hhi hq top1
  have hT : val 18446744073709551616 t0 * 2 ^ s < (18446744073709551616 : Int) ^ la * 9223372036854775808 :=
    Int.lt_of_lt_of_le (Int.mul_lt_mul_of_pos_right l0 hp) (Int.mul_le_mul_of_nonneg_left hp63 (Int.le_of_lt hA))
  have hT0 : 0 ≤ val 18446744073709551616 t0 * 2 ^ s := Int.mul_nonneg n0 (Int.le_of_lt hp)
  have hD : val 18446744073709551616 t1 * 2 ^ s < (18446744073709551616 : Int) ^ n := by
    have a : val 18446744073709551616 t1 * 2 ^ s < (18446744073709551616 : Int) ^ (n - 1) * (t1.getD (n - 1) 0 + 1) * 2 ^ s := Int.mul_lt_mul_of_pos_right (by rw [e1, Int.mul_add, Int.mul_one]; omega) hp
    have b := Int.mul_le_mul_of_nonneg_left topB (Int.le_of_lt hP)
    rw [en]
    rw [Int.mul_assoc] at a
    omega
  have hD63 : (18446744073709551616 : Int) ^ (n - 1) * 9223372036854775808 ≤ val 18446744073709551616 t1 * 2 ^ s := by
    have a : (18446744073709551616 : Int) ^ (n - 1) * t1.getD (n - 1) 0 * 2 ^ s ≤ val 18446744073709551616 t1 * 2 ^ s := Int.mul_le_mul_of_nonneg_right (by rw [e1]; omega) (Int.le_of_lt hp)
    have b := Int.mul_le_mul_of_nonneg_left hlo' (Int.le_of_lt hP)
    rw [Int.mul_assoc] at a
    omega
  have hD0 : 0 ≤ val 18446744073709551616 t1 * 2 ^ s := Int.mul_nonneg (val_nonneg d1) (Int.le_of_lt hp)
  have vU := val_pad (B := 18446744073709551616) (by decide) (la + 1) _ hT0 (by rw [hB, ea1]; omega)
  have vP := val_pad (B := 18446744073709551616) (by decide) (n + 1) _ hD0 (by rw [hB, en1]; omega)
  have lP := pad_len 18446744073709551616 (n + 1) (val 18446744073709551616 t1 * 2 ^ s)
  have dP := pad_dig (B := 18446744073709551616) (by decide) (n + 1) (val 18446744073709551616 t1 * 2 ^ s)
  have lU := pad_len 18446744073709551616 (la + 1) (val 18446744073709551616 t0 * 2 ^ s)
  have dU := pad_dig (B := 18446744073709551616) (by decide) (la + 1) (val 18446744073709551616 t0 * 2 ^ s)
  generalize pad 18446744073709551616 (la + 1) (val 18446744073709551616 t0 * 2 ^ s) = U at *
  generalize pad 18446744073709551616 (n + 1) (val 18446744073709551616 t1 * 2 ^ s) = W at *
  have vV : val 18446744073709551616 (W.take n) = val 18446744073709551616 t1 * 2 ^ s := by
    have sp := val_split 18446744073709551616 W n (by omega)
    have z := val_nonneg (dP.drop n)
    have z0 := val_nonneg (dP.take n)
    rw [vP, hB] at sp
    rcases Int.lt_or_le 0 (val 18446744073709551616 (W.drop n)) with hh | hh
    · exfalso
      have := Int.mul_le_mul_of_nonneg_left (show 1 ≤ val 18446744073709551616 (W.drop n) by omega) (Int.le_of_lt hn0)
      rw [Int.mul_one] at this
      omega
    · have : val 18446744073709551616 (W.drop n) = 0 := by omega
      rw [this, Int.mul_zero, Int.add_zero] at sp
      exact sp.symm
  refine ⟨U, W.take n, rfl, rfl, lU, by rw [List.length_take]; omega, dU, dP.take n, vU, vV, by rw [vV]; exact hD, ?_, ?_⟩
  · rw [vV]
    rcases Int.lt_or_le (val 18446744073709551616 (U.drop (la - n + 1))) (val 18446744073709551616 t1 * 2 ^ s) with hh | hh
    · exact hh
    · exfalso
      have sp := val_split 18446744073709551616 U (la - n + 1) (by omega)
      have z0 := val_nonneg (dU.take (la - n + 1))
      rw [vU, hB] at sp
      have a := Int.mul_le_mul_of_nonneg_left (Int.le_trans hD63 hh) (show 0 ≤ (18446744073709551616 : Int) ^ (la - n + 1) from Int.le_of_lt (Int.pow_pos (by decide)))
      rw [← Int.mul_assoc, ← ea] at a
      omega
  · rcases Int.lt_or_le 0 (val 18446744073709551616 t1) with hh | hh
    · exact hh
    · exfalso
      have : val 18446744073709551616 t1 = 0 := by have := val_nonneg d1; omega
      rw [this, Int.zero_mul] at hD63
      omega
end Go.Proofs.YtolflieiipnndaaDoor.Num
