/- Plain numbers: what nat.shift computes; the long division by digits, a round; the rest, shifted back. -/
import Derived.Test.YtolflieiipnndaaDoorXP1
import Derived.Test.YtolflieiipnndaaDoorXP2
import Derived.Test.YtolflieiipnndaaDoorXP3
import Derived.Test.YtolflieiipnndaaDoorXP4
import Derived.Test.YtolflieiipnndaaDoorXP5
import Derived.Test.YtolflieiipnndaaDoorDivQ
namespace Go.Proofs.YtolflieiipnndaaDoor.X
open Go.RowKit Go.Proofs.YtolflieiipnndaaDoor Go.Proofs.YtolflieiipnndaaDoorW.PrintWords Go.Proofs.YtolflieiipnndaaDoorW.PrintLast Go.Proofs.YtolflieiipnndaaDoorW.PrintMore Go.Proofs.YtolflieiipnndaaDoor.Num
set_option linter.unusedVariables false
set_option linter.unusedSimpArgs false
abbrev v64 (l : List Int) : Int := val 18446744073709551616 l
theorem shl_any (x s : Nat) (hs : s ≤ 64) : shl .u64 (x : Int) (s : Int) = ((x * 2 ^ s % 18446744073709551616 : Nat) : Int) := by
  unfold shl
  rw [Int.toNat_natCast, Nat.min_eq_left (by show s ≤ 64; omega), IntKind.wrap_u64, Int.natCast_emod, Int.natCast_mul, Int.natCast_pow]
  rfl
theorem shr_any (x s : Nat) (hs : s ≤ 64) : shr .u64 (x : Int) (s : Int) = ((x / 2 ^ s : Nat) : Int) := by
  unfold shr
  rw [Int.toNat_natCast, Nat.min_eq_left (by show s ≤ 64; omega), Int.natCast_ediv, Int.natCast_pow]
  rfl
theorem pow_split (s : Nat) (hs : s ≤ 63) : 2 ^ s * 2 ^ (64 - s) = 18446744073709551616 := by rw [← Nat.pow_add, show s + (64 - s) = 64 from by omega]
/-- A digit moved up: what joins the lower one, what goes into the next. -/
theorem shift_word (h x s : Nat) (hs : s ≤ 63) (hh : h < 2 ^ s) (hx : x < 18446744073709551616) :
    Go.bits .or .u64 (h : Int) (shl .u64 (x : Int) (s : Int)) = ((h + x * 2 ^ s % 18446744073709551616 : Nat) : Int) ∧ shr .u64 (x : Int) (64 - (s : Int)) = ((x * 2 ^ s / 18446744073709551616 : Nat) : Int) ∧ h + x * 2 ^ s % 18446744073709551616 < 18446744073709551616 := by
  have pp := pow_split s hs
  have p0 : 0 < 2 ^ s := Nat.pow_pos (by omega)
  have e1 : x * 2 ^ s % 18446744073709551616 = x % 2 ^ (64 - s) * 2 ^ s := by rw [← pp, Nat.mul_comm x, Nat.mul_mod_mul_left, Nat.mul_comm]
  have hlt : x % 2 ^ (64 - s) < 2 ^ (64 - s) := Nat.mod_lt _ (Nat.pow_pos (by omega))
  have hm : x % 2 ^ (64 - s) * 2 ^ s + 2 ^ s ≤ 18446744073709551616 := by rw [← Nat.succ_mul, ← pp, Nat.mul_comm (2 ^ s)]; exact Nat.mul_le_mul_right _ hlt
  refine ⟨?_, ?_, by rw [e1]; omega⟩
  · rw [shl_any x s (by omega), e1, or_plus h _ s hh (by omega) (by omega)]
  · rw [show 64 - (s : Int) = ((64 - s : Nat) : Int) from by omega, shr_any _ _ (by omega), ← pp, Nat.mul_comm x, Nat.mul_div_mul_left _ _ p0]
theorem shift_loop (l : List Int) (hd : Dig 18446744073709551616 l) (hl : l.length ≤ 4096) (s : Nat) (hs : s ≤ 63) (n : Int) (hn : n = (l.length : Int)) : ∀ (d i : Nat) (out : List Int), i + d = l.length → out.length = l.length + 1 → Dig 18446744073709551616 out → v64 out = v64 (l.take i) * 2 ^ s →
    ∀ k : Nat, d < k → nat_shift.l0 k (s : Int) out l n (i : Int) = some (pad 18446744073709551616 (l.length + 1) (v64 l * 2 ^ s)) := by
  intro d
  induction d with
  | zero =>
    intro i out hi ho hD hv k hk
    obtain ⟨k, rfl⟩ : ∃ m, k = m + 1 := ⟨k - 1, by omega⟩
    rw [nat_shift.l0, if_neg (by omega)]
    congr 1
    rw [List.take_of_length_le (by omega)] at hv
    exact pad_of hD ho hv
  | succ d ih =>
    intro i out hi ho hD hv k hk
    obtain ⟨k, rfl⟩ : ∃ m, k = m + 1 := ⟨k - 1, by omega⟩
    have c1 : (i : Int) < n := by omega
    have c2 : (0 : Int) ≤ (i : Int) := by omega
    have c3 : (i : Int) < (l.length : Int) := by omega
    have c4 : (i : Int) < (out.length : Int) := by omega
    have c5 : (0 : Int) ≤ (s : Int) := by omega
    have c6 : (0 : Int) ≤ 64 - (s : Int) := by omega
    have c7 : (0 : Int) ≤ ((i + 1 : Nat) : Int) := by omega
    have c8 : ((i + 1 : Nat) : Int) < (out.length : Int) := by omega
    have c9 : i + 1 + d = l.length := by omega
    have c10 : i < out.length := by omega
    have c11 : i + 1 < out.length := by omega
    have c12 : d < k := by omega
    have c13 : i < l.length := by omega
    have w1 : wrap64 (64 - (s : Int)) = 64 - (s : Int) := w64 (by omega) (by omega)
    have w2 : wrap64 ((i : Int) + 1) = ((i + 1 : Nat) : Int) := by rw [w64 (by omega) (by omega)]; omega
    have hx := Dig.at_ (by decide) hd i
    have hc := Dig.at_ (by decide) hD i
    have b1 := val_lt (hd.take i)
    have b0 := val_nonneg (hd.take i)
    rw [List.length_take, Nat.min_eq_left (Nat.le_of_lt c13)] at b1
    have hset := val_set 18446744073709551616 out i
    have hset2 := fun v => val_set 18446744073709551616 (out.set i v) (i + 1)
    have htk := val_take 18446744073709551616 l i c13
    have hp : (0 : Int) < 2 ^ s := Int.pow_pos (by omega)
    have hP : (0 : Int) < ((18446744073709551616 : Nat) : Int) ^ i := pow_pos_ (by decide) i
    have hpb : (2 : Int) ^ s ≤ 9223372036854775808 := by
      have : 2 ^ s ≤ 2 ^ 63 := Nat.pow_le_pow_right (by omega) hs
      have : ((2 ^ s : Nat) : Int) ≤ ((2 ^ 63 : Nat) : Int) := by exact_mod_cast this
      rw [Int.natCast_pow] at this
      exact this
    have dI := digit (by decide) hD i
    have dJ := digit (by decide) hD (i + 1)
    change val 18446744073709551616 out = _ at hv
    rw [hv] at dI dJ hset
    have hlow : val 18446744073709551616 (l.take i) * 2 ^ s < ((18446744073709551616 : Nat) : Int) ^ i * 2 ^ s := Int.mul_lt_mul_of_pos_right b1 hp
    have hnn : 0 ≤ val 18446744073709551616 (l.take i) * 2 ^ s := Int.mul_nonneg b0 (Int.le_of_lt hp)
    have q1 : val 18446744073709551616 (l.take i) * 2 ^ s / ((18446744073709551616 : Nat) : Int) ^ i < 2 ^ s := Int.ediv_lt_of_lt_mul hP (by rw [Int.mul_comm (2 ^ s)]; exact hlow)
    have q0 : 0 ≤ val 18446744073709551616 (l.take i) * 2 ^ s / ((18446744073709551616 : Nat) : Int) ^ i := Int.ediv_nonneg hnn (Int.le_of_lt hP)
    have z1 : val 18446744073709551616 (l.take i) * 2 ^ s / ((18446744073709551616 : Nat) : Int) ^ (i + 1) = 0 := by
      refine Int.ediv_eq_zero_of_lt hnn (Int.lt_trans hlow ?_)
      rw [pow_succ_]
      exact Int.mul_lt_mul_of_pos_left (Int.lt_of_le_of_lt hpb (by decide)) hP
    rw [z1] at dJ
    rw [Int.emod_eq_of_lt q0 (Int.lt_of_lt_of_le q1 (Int.le_trans hpb (by decide)))] at dI
    rw [← dI] at q1 q0
    obtain ⟨h, eh⟩ := Int.eq_ofNat_of_zero_le q0
    obtain ⟨x, ex⟩ := Int.eq_ofNat_of_zero_le hx.1
    rw [eh] at q1 hset
    have hh : h < 2 ^ s := by
      have : ((h : Nat) : Int) < ((2 ^ s : Nat) : Int) := by rw [Int.natCast_pow]; exact q1
      exact Int.ofNat_lt.1 this
    have xb : x < 18446744073709551616 := by have := hx.2; rw [ex] at this; exact Int.ofNat_lt.1 this
    obtain ⟨s1, s2, s3⟩ := shift_word h x s hs hh xb
    have sp := Nat.div_add_mod (x * 2 ^ s) 18446744073709551616
    have spI : (18446744073709551616 : Int) * ((x * 2 ^ s / 18446744073709551616 : Nat) : Int) + ((x * 2 ^ s % 18446744073709551616 : Nat) : Int) = (x : Int) * 2 ^ s := by
      have := congrArg (fun n : Nat => (n : Int)) sp
      simp only [Int.natCast_mul, Int.natCast_add, Int.natCast_pow] at this ⊢
      exact this
    have hup : x * 2 ^ s / 18446744073709551616 < 18446744073709551616 := by
      refine Nat.div_lt_of_lt_mul ?_
      have : 2 ^ s ≤ 2 ^ 63 := Nat.pow_le_pow_right (by omega) hs
      exact Nat.lt_of_le_of_lt (Nat.mul_le_mul (Nat.le_of_lt_succ xb) this) (by decide)
    have hsi := hset ((h + x * 2 ^ s % 18446744073709551616 : Nat) : Int) c10
    have hV : v64 (l.take (i + 1)) * 2 ^ s = val 18446744073709551616 (l.take i) * 2 ^ s + ((18446744073709551616 : Nat) : Int) ^ i * ((x : Int) * 2 ^ s) := by
      show val 18446744073709551616 (l.take (i + 1)) * 2 ^ s = _
      rw [htk, ex, Int.add_mul, Int.mul_assoc]
    rw [nat_shift.l0, if_pos c1, if_pos c2, if_pos c3, if_pos c4, if_pos c5, Int.toNat_natCast, rd_nat, rd_nat, ex, eh, s1, Option.bind_some]
    by_cases hs0 : (s : Int) > 0
    · rw [if_pos hs0, w1, if_pos c6, w2, if_pos c7, if_pos c8, s2, Int.toNat_natCast]
      refine ih (i + 1) _ c9 (by simp [ho]) ((hD.set _ ⟨Int.natCast_nonneg _, Int.ofNat_lt.2 s3⟩).set _ ⟨Int.natCast_nonneg _, Int.ofNat_lt.2 hup⟩) ?_ k c12
      show val 18446744073709551616 _ = _
      rw [hset2 _ _ (by rw [List.length_set]; exact c11), hsi, hV]
      have e0 : (out.set i ((h + x * 2 ^ s % 18446744073709551616 : Nat) : Int)).getD (i + 1) 0 = 0 := by
        rw [List.getD_eq_getElem?_getD, List.getElem?_set_ne (by omega), ← List.getD_eq_getElem?_getD, dJ]; rfl
      rw [e0, pow_succ_, show ((18446744073709551616 : Nat) : Int) = 18446744073709551616 from rfl, Int.natCast_add, ← spI]
      generalize (18446744073709551616 : Int) ^ i = P
      generalize ((x * 2 ^ s / 18446744073709551616 : Nat) : Int) = a
      generalize ((x * 2 ^ s % 18446744073709551616 : Nat) : Int) = b
      clear hset hset2 hsi s1 s2 s3 sp spI hV htk dI dJ ih
      grind
    · have s0 : s = 0 := by clear hsi hset hset2 dI dJ htk hV sp spI hup s1 s2 s3 q1 q0 z1 hlow hnn; omega
      rw [if_neg hs0, w2]
      refine ih (i + 1) _ c9 (by simp [ho]) (hD.set _ ⟨Int.natCast_nonneg _, Int.ofNat_lt.2 s3⟩) ?_ k c12
      show val 18446744073709551616 _ = _
      rw [hsi, hV]
      subst s0
      rw [Nat.pow_zero, Nat.mul_one, Nat.mod_eq_of_lt xb, Int.natCast_add, Int.pow_zero, Int.mul_one]
      generalize ((18446744073709551616 : Nat) : Int) ^ i = P
      clear hset hset2 hsi s1 s2 s3 sp spI hV htk dI dJ ih
      grind
theorem shift_spec (l : List Int) (hd : Dig 18446744073709551616 l) (hl : l.length ≤ 4096) (s : Nat) (hs : s ≤ 63) (k : Nat) (hk : 5000 < k) : nat_shift.f k l (s : Int) = some (pad 18446744073709551616 (l.length + 1) (v64 l * 2 ^ s)) := by
  unfold nat_shift.f
  rw [w64 (by omega) (by omega), if_pos (by omega), if_pos (by omega)]
  have e : ((l.length : Int) + 1).toNat = l.length + 1 := by omega
  rw [e]
  refine shift_loop l hd hl s hs _ rfl l.length 0 _ (by omega) (by simp) (Dig.reps (by decide) _) ?_ k (by omega)
  show val _ _ = val _ _ * _
  rw [val_reps]
  simp [val]
end Go.Proofs.YtolflieiipnndaaDoor.X
