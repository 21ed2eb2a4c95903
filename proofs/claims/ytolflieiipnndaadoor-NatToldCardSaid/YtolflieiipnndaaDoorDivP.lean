/- Plain numbers: a number's digits in so many places; a product taken off a window; a digit of a quotient tried from above. No program in sight. -/
import Derived.Test.YtolflieiipnndaaDoorNum
namespace Go.Proofs.YtolflieiipnndaaDoor.Num
open Go.RowKit
set_option linter.unusedVariables false

def pad (B : Nat) : Nat → Int → List Int
  | 0, _ => []
  | n + 1, x => x % B :: pad B n (x / B)
theorem pad_len (B : Nat) : ∀ (n : Nat) (x : Int), (pad B n x).length = n
  | 0, _ => rfl
  | n + 1, x => by simp [pad, pad_len B n]
theorem pad_dig {B : Nat} (hB : 0 < B) : ∀ (n : Nat) (x : Int), Dig B (pad B n x)
  | 0, _ => Dig.nil B
  | n + 1, x => fun y hy => by
    rcases List.mem_cons.1 hy with rfl | hy
    · exact ⟨Int.emod_nonneg _ (by omega), Int.emod_lt_of_pos _ (by omega)⟩
    · exact pad_dig hB n _ y hy
theorem val_pad {B : Nat} (hB : 0 < B) : ∀ (n : Nat) (x : Int), 0 ≤ x → x < (B : Int) ^ n → val B (pad B n x) = x
  | 0, x, h0, h1 => by simp [val, pad] at *; omega
  | n + 1, x, h0, h1 => by
    have hb : (0 : Int) < B := by omega
    have h2 : x / B < (B : Int) ^ n := Int.ediv_lt_of_lt_mul hb (by rw [← pow_succ_]; exact h1)
    simp only [pad, val]
    rw [val_pad hB n (x / B) (Int.ediv_nonneg h0 (by omega)) h2]
    have := Int.emod_add_mul_ediv x B
    omega
theorem pad_val {B : Nat} : ∀ {l : List Int}, Dig B l → pad B l.length (val B l) = l
  | [], _ => rfl
  | x :: l, h => by
    have hx := h.head
    have e1 : (x + B * val B l) % B = x := by rw [Int.add_mul_emod_self_left]; exact Int.emod_eq_of_lt hx.1 hx.2
    have e2 : (x + B * val B l) / B = val B l := by
      rw [Int.add_mul_ediv_left _ _ (by omega), Int.ediv_eq_zero_of_lt hx.1 hx.2, Int.zero_add]
    show (x + B * val B l) % B :: pad B l.length ((x + B * val B l) / B) = _
    rw [e1, e2, pad_val h.tail]
theorem pad_of {B : Nat} {l : List Int} (h : Dig B l) {n : Nat} {x : Int} (hn : l.length = n) (hx : val B l = x) : l = pad B n x := by
  subst hn hx; exact (pad_val h).symm

/-- q times a digit and a carry, in two digits. -/
theorem muladd (q v c : Int) (hq : 0 ≤ q ∧ q < 18446744073709551616) (hv : 0 ≤ v ∧ v < 18446744073709551616) (hc : 0 ≤ c ∧ c < 18446744073709551616) :
    IntKind.u64.wrap (q * v / 18446744073709551616 + (q * v % 18446744073709551616 + c) / 18446744073709551616) = (q * v + c) / 18446744073709551616 ∧
    (q * v % 18446744073709551616 + c) % 18446744073709551616 = (q * v + c) % 18446744073709551616 ∧ 0 ≤ (q * v + c) / 18446744073709551616 ∧ (q * v + c) / 18446744073709551616 < 18446744073709551616 := by
  have h0 : 0 ≤ q * v := Int.mul_nonneg hq.1 hv.1
  have h1 : q * v ≤ 18446744073709551615 * 18446744073709551615 := Int.mul_le_mul (by omega) (by omega) hv.1 (by omega)
  generalize q * v = s at *
  rw [IntKind.wrap_u64]
  omega

/-- The window after i digits of q times V were taken off, the carry, the borrow. -/
def lst (q : Int) (U V : List Int) : Nat → List Int × Int × Int
  | 0 => (U, 0, 0)
  | i + 1 =>
    let p := lst q U V i
    let lo := (q * V.getD i 0 % 18446744073709551616 + p.2.1) % 18446744073709551616
    let c := IntKind.u64.wrap (q * V.getD i 0 / 18446744073709551616 + (q * V.getD i 0 % 18446744073709551616 + p.2.1) / 18446744073709551616)
    (p.1.set i ((p.1.getD i 0 - lo - p.2.2) % 18446744073709551616), c, if p.1.getD i 0 < lo + p.2.2 then 1 else 0)
def lessB (q : Int) (U V : List Int) : List Int :=
  let p := lst q U V V.length
  p.1.set V.length ((p.1.getD V.length 0 - p.2.1 - p.2.2) % 18446744073709551616)
def lessOk (q : Int) (U V : List Int) : Bool :=
  let p := lst q U V V.length
  decide (p.2.1 + p.2.2 ≤ p.1.getD V.length 0)
theorem lst_ok (q : Int) (U V : List Int) (dU : Dig 18446744073709551616 U) (dV : Dig 18446744073709551616 V) (hq : 0 ≤ q ∧ q < 18446744073709551616) : ∀ i, i ≤ V.length → V.length < U.length →
    (lst q U V i).1.length = U.length ∧ Dig 18446744073709551616 (lst q U V i).1 ∧ (0 ≤ (lst q U V i).2.1 ∧ (lst q U V i).2.1 < 18446744073709551616) ∧ (0 ≤ (lst q U V i).2.2 ∧ (lst q U V i).2.2 ≤ 1) ∧
    (lst q U V i).1.drop i = U.drop i ∧
    val 18446744073709551616 ((lst q U V i).1.take i) = val 18446744073709551616 (U.take i) - q * val 18446744073709551616 (V.take i) + 18446744073709551616 ^ i * ((lst q U V i).2.1 + (lst q U V i).2.2)
  | 0, _, _ => ⟨rfl, dU, by show (0 : Int) ≤ 0 ∧ (0 : Int) < 18446744073709551616; decide, by show (0 : Int) ≤ 0 ∧ (0 : Int) ≤ 1; decide, rfl, by simp [val, lst]⟩
  | i + 1, hi, hl => by
    obtain ⟨h1, h2, h3, h4, h5, h6⟩ := lst_ok q U V dU dV hq i (by omega) hl
    have hv := dV.at_ (by decide) i
    have hu := dU.at_ (by decide) i
    obtain ⟨m1, m2, m3⟩ := muladd q (V.getD i 0) (lst q U V i).2.1 hq hv h3
    have s1 : (lst q U V (i + 1)).1 = (lst q U V i).1.set i (((lst q U V i).1.getD i 0 - (q * V.getD i 0 + (lst q U V i).2.1) % 18446744073709551616 - (lst q U V i).2.2) % 18446744073709551616) := by rw [← m2]; rfl
    have s2 : (lst q U V (i + 1)).2.1 = (q * V.getD i 0 + (lst q U V i).2.1) / 18446744073709551616 := m1
    have s3 : (lst q U V (i + 1)).2.2 = if (lst q U V i).1.getD i 0 < (q * V.getD i 0 + (lst q U V i).2.1) % 18446744073709551616 + (lst q U V i).2.2 then 1 else 0 := by rw [← m2]; rfl
    rw [s1, s2, s3]
    have eu : (lst q U V i).1.getD i 0 = U.getD i 0 := by
      have := congrArg (fun l => l.getD 0 0) h5
      simpa [List.getD_eq_getElem?_getD] using this
    rw [eu]
    refine ⟨by rw [List.length_set]; exact h1, h2.set _ ⟨Int.emod_nonneg _ (by decide), Int.emod_lt_of_pos _ (by decide)⟩, m3, ?_, ?_, ?_⟩
    · split <;> decide
    · rw [List.drop_set_of_lt (by omega)]
      have := congrArg (fun l => l.drop 1) h5
      simpa [List.drop_drop] using this
    · rw [val_take_set _ _ _ _ (by omega), h6, val_take _ U i (by omega), val_take _ V i (by omega)]
      generalize hs : q * V.getD i 0 + (lst q U V i).2.1 = s at *
      have e1 := Int.emod_add_mul_ediv s 18446744073709551616
      have g0 : 0 ≤ s % 18446744073709551616 := Int.emod_nonneg _ (by decide)
      have g1 : s % 18446744073709551616 < 18446744073709551616 := Int.emod_lt_of_pos _ (by decide)
      generalize s % 18446744073709551616 = lo at *
      generalize s / 18446744073709551616 = hi at *
      generalize (lst q U V i).2.1 = c at *
      generalize (lst q U V i).2.2 = r at *
      generalize U.getD i 0 = u at *
      have e2 : (u - lo - r) % 18446744073709551616 = u - lo - r + 18446744073709551616 * (if u < lo + r then 1 else 0) := by split <;> omega
      rw [e2]
      generalize (if u < lo + r then (1 : Int) else 0) = r' at *
      have e3 : ((18446744073709551616 : Nat) : Int) ^ (i + 1) = (18446744073709551616 : Int) ^ i * 18446744073709551616 := pow_succ_ _ _
      have e4 : ((18446744073709551616 : Nat) : Int) = 18446744073709551616 := rfl
      rw [show (18446744073709551616 : Int) ^ (i + 1) = (18446744073709551616 : Int) ^ i * 18446744073709551616 from pow_succ_ 18446744073709551616 _, e4]
      generalize (18446744073709551616 : Int) ^ i = p at *
      clear e2 e3 h1 h2 h3 h4 h5 h6 m1 m2 m3 s1 s2 s3 dU dV hu hv
      grind
theorem lessB_ok (q : Int) (U V : List Int) (dU : Dig 18446744073709551616 U) (dV : Dig 18446744073709551616 V) (hq : 0 ≤ q ∧ q < 18446744073709551616) (hl : U.length = V.length + 1) :
    (lessOk q U V = decide (q * val 18446744073709551616 V ≤ val 18446744073709551616 U)) ∧
    (lessOk q U V = true → lessB q U V = pad 18446744073709551616 (V.length + 1) (val 18446744073709551616 U - q * val 18446744073709551616 V)) := by
  obtain ⟨h1, h2, h3, h4, h5, h6⟩ := lst_ok q U V dU dV hq V.length (Nat.le_refl _) (by omega)
  have eu : (lst q U V V.length).1.getD V.length 0 = U.getD V.length 0 := by
    have := congrArg (fun l => l.getD 0 0) h5
    simpa [List.getD_eq_getElem?_getD] using this
  have hu := dU.at_ (by decide) V.length
  have vV : val 18446744073709551616 (V.take V.length) = val 18446744073709551616 V := by rw [List.take_length]
  have vU : val 18446744073709551616 U = val 18446744073709551616 (U.take V.length) + 18446744073709551616 ^ V.length * U.getD V.length 0 := by
    rw [← val_whole 18446744073709551616 U (V.length + 1) (by omega), val_take _ U _ (by omega)]; rfl
  have bU := val_lt (dU.take V.length)
  have nU := val_nonneg (dU.take V.length)
  have bL := val_lt (h2.take V.length)
  have nL := val_nonneg (h2.take V.length)
  have dB : Dig 18446744073709551616 (lessB q U V) := h2.set _ ⟨Int.emod_nonneg _ (by decide), Int.emod_lt_of_pos _ (by decide)⟩
  have lB : (lessB q U V).length = V.length + 1 := by unfold lessB; rw [List.length_set, h1, hl]
  have vB : val 18446744073709551616 (lessB q U V) = val 18446744073709551616 ((lst q U V V.length).1.take V.length) + 18446744073709551616 ^ V.length * (((lst q U V V.length).1.getD V.length 0 - (lst q U V V.length).2.1 - (lst q U V V.length).2.2) % 18446744073709551616) := by
    rw [← val_whole 18446744073709551616 (lessB q U V) (V.length + 1) (by omega)]
    exact val_take_set _ _ _ _ (by omega)
  rw [List.length_take, Nat.min_eq_left (by omega)] at bU bL
  rw [eu, h6, vV] at vB
  rw [h6, vV] at bL nL
  have hok : lessOk q U V = decide ((lst q U V V.length).2.1 + (lst q U V V.length).2.2 ≤ U.getD V.length 0) := by rw [← eu]; rfl
  rw [hok]
  have hpos := pow_pos_ (B := 18446744073709551616) (by decide) V.length
  rw [vU]
  generalize val 18446744073709551616 (U.take V.length) = X at *
  generalize q * val 18446744073709551616 V = Y at *
  generalize U.getD V.length 0 = u at *
  generalize (lst q U V V.length).2.1 = c at *
  generalize (lst q U V V.length).2.2 = r at *
  have hp2 : ((18446744073709551616 : Nat) : Int) ^ V.length = (18446744073709551616 : Int) ^ V.length := rfl
  rw [hp2] at *
  generalize (18446744073709551616 : Int) ^ V.length = p at *
  have key : (c + r ≤ u) ↔ Y ≤ X + p * u := by
    constructor
    · intro hle
      have : p * (c + r) ≤ p * u := Int.mul_le_mul_of_nonneg_left hle (by omega)
      omega
    · intro hle
      rcases Int.lt_or_le u (c + r) with hh | hh
      · exfalso
        have : p * (u + 1) ≤ p * (c + r) := Int.mul_le_mul_of_nonneg_left (by omega) (by omega)
        rw [Int.mul_add, Int.mul_one] at this
        omega
      · exact hh
  refine ⟨by rw [Bool.eq_iff_iff]; simp [key], fun ht => ?_⟩
  have hle : c + r ≤ u := by simpa using ht
  refine pad_of dB lB ?_
  rw [vB, Int.emod_eq_of_lt (by omega) (by omega)]
  grind

/-! A digit of a quotient: the first guess is not too small; what is too great is one less. -/
theorem est_init (p lU u2 u1 u0 lV v2 v1 q s : Int) (hp : 0 < p) (hU : lU < p) (hV : 0 ≤ lV) (h2 : u2 < 18446744073709551616) (hv2 : 0 ≤ v2) (hq : 0 ≤ q) (e : u0 * 18446744073709551616 + u1 = q * v1 + s) (hs : s < v1) :
    lU + p * (u2 + 18446744073709551616 * (u1 + 18446744073709551616 * u0)) < (q + 1) * (lV + p * (v2 + 18446744073709551616 * v1)) := by
  have a1 : p * (u2 + 1 + 18446744073709551616 * (u1 + 18446744073709551616 * u0)) ≤ p * (18446744073709551616 * (q * v1 + v1)) := Int.mul_le_mul_of_nonneg_left (by omega) (by omega)
  have a2 : 0 ≤ (q + 1) * (lV + p * v2) := Int.mul_nonneg (by omega) (by have := Int.mul_nonneg (Int.le_of_lt hp) hv2; omega)
  grind
theorem est_step (p lU u2 u1 u0 lV v2 v1 q r : Int) (hp : 0 < p) (hU : lU < p) (hV : 0 ≤ lV) (hq : 0 ≤ q) (e : q * v1 + r = u0 * 18446744073709551616 + u1) (hs : r * 18446744073709551616 + u2 < q * v2) :
    lU + p * (u2 + 18446744073709551616 * (u1 + 18446744073709551616 * u0)) < q * (lV + p * (v2 + 18446744073709551616 * v1)) := by
  have a1 : p * (r * 18446744073709551616 + u2 + 1) ≤ p * (q * v2) := Int.mul_le_mul_of_nonneg_left (by omega) (by omega)
  have a2 : 0 ≤ q * lV := Int.mul_nonneg hq hV
  have a3 : p * 18446744073709551616 * (q * v1 + r) = p * 18446744073709551616 * (u0 * 18446744073709551616 + u1) := by rw [e]
  grind
theorem top2 {l : List Int} (m : Nat) (h : l.length = m + 2) : val 18446744073709551616 l = val 18446744073709551616 (l.take m) + 18446744073709551616 ^ m * (l.getD m 0 + 18446744073709551616 * l.getD (m + 1) 0) := by
  rw [← val_whole 18446744073709551616 l (m + 1 + 1) (by omega), val_take _ l _ (by omega), val_take _ l _ (by omega), pow_succ_]
  rw [show ((18446744073709551616 : Nat) : Int) = 18446744073709551616 from rfl]
  generalize (18446744073709551616 : Int) ^ m = p
  grind
theorem top3 {l : List Int} (m : Nat) (h : l.length = m + 3) : val 18446744073709551616 l = val 18446744073709551616 (l.take m) + 18446744073709551616 ^ m * (l.getD m 0 + 18446744073709551616 * (l.getD (m + 1) 0 + 18446744073709551616 * l.getD (m + 2) 0)) := by
  rw [← val_whole 18446744073709551616 l (m + 1 + 1 + 1) (by omega), val_take _ l _ (by omega), val_take _ l _ (by omega), val_take _ l _ (by omega), pow_succ_ _ (m + 1), pow_succ_ _ m]
  rw [show ((18446744073709551616 : Nat) : Int) = 18446744073709551616 from rfl]
  generalize (18446744073709551616 : Int) ^ m = p
  grind
/-- What holds of the guess q, and of the rest r, while it is bettered. -/
def Est (U V : List Int) (q r : Int) : Prop :=
  (0 ≤ q ∧ q < 18446744073709551616) ∧ (0 ≤ r ∧ r < 18446744073709551616) ∧ val 18446744073709551616 U < (q + 1) * val 18446744073709551616 V ∧ q * V.getD (V.length - 1) 0 + r = U.getD V.length 0 * 18446744073709551616 + U.getD (V.length - 1) 0
section
variable {U V : List Int} (dU : Dig 18446744073709551616 U) (dV : Dig 18446744073709551616 V) (hl : U.length = V.length + 1) (h2 : 2 ≤ V.length)
include dU dV hl h2
theorem Est.begin (hlt : U.getD V.length 0 < V.getD (V.length - 1) 0) :
    Est U V ((U.getD V.length 0 * 18446744073709551616 + U.getD (V.length - 1) 0) / V.getD (V.length - 1) 0) ((U.getD V.length 0 * 18446744073709551616 + U.getD (V.length - 1) 0) % V.getD (V.length - 1) 0) := by
  obtain ⟨m, hm⟩ : ∃ m, V.length = m + 2 := ⟨V.length - 2, by omega⟩
  have eU := top3 (l := U) m (by omega)
  have eV := top2 (l := V) m hm
  have bU := val_lt (dU.take m)
  have nV := val_nonneg (dV.take m)
  rw [List.length_take, Nat.min_eq_left (by omega)] at bU
  have hp : (0 : Int) < 18446744073709551616 ^ m := pow_pos_ (B := 18446744073709551616) (by decide) m
  have d0 := dU.at_ (by decide) m
  have d1 := dU.at_ (by decide) (m + 1)
  have d2 := dU.at_ (by decide) (m + 2)
  have f0 := dV.at_ (by decide) m
  have f1 := dV.at_ (by decide) (m + 1)
  have e1 : V.length - 1 = m + 1 := by omega
  have e3 : U.getD V.length 0 = U.getD (m + 2) 0 := by rw [hm]
  have e4 : U.getD (V.length - 1) 0 = U.getD (m + 1) 0 := by rw [e1]
  have e5 : V.getD (V.length - 1) 0 = V.getD (m + 1) 0 := by rw [e1]
  unfold Est
  rw [e3, e4, e5, eU, eV]
  rw [e3, e5] at hlt
  clear e3 e4 e5 e1 eU eV
  generalize U.getD (m + 2) 0 = u0 at *
  generalize U.getD (m + 1) 0 = u1 at *
  generalize U.getD m 0 = u2 at *
  generalize V.getD (m + 1) 0 = v1 at *
  generalize V.getD m 0 = v2 at *
  have hv : 0 < v1 := by omega
  have hx : 0 ≤ u0 * 18446744073709551616 + u1 := by omega
  have e2 := Int.emod_add_mul_ediv (u0 * 18446744073709551616 + u1) v1
  have g0 := Int.emod_nonneg (u0 * 18446744073709551616 + u1) (show v1 ≠ 0 by omega)
  have g1 := Int.emod_lt_of_pos (u0 * 18446744073709551616 + u1) hv
  have g2 := Int.ediv_nonneg hx (show 0 ≤ v1 by omega)
  have g3 : (u0 * 18446744073709551616 + u1) / v1 < 18446744073709551616 := Int.ediv_lt_of_lt_mul hv (by omega)
  rw [Int.mul_comm v1] at e2
  generalize (u0 * 18446744073709551616 + u1) / v1 = q at *
  generalize (u0 * 18446744073709551616 + u1) % v1 = r at *
  exact ⟨⟨g2, g3⟩, ⟨g0, by omega⟩, est_init _ _ _ _ _ _ _ _ _ r hp bU nV d0.2 f0.1 g2 (by omega) g1, by omega⟩
/-- The test says that q is too great. -/
theorem Est.less {q r : Int} (h : Est U V q r) (ht : r * 18446744073709551616 + U.getD (V.length - 2) 0 < q * V.getD (V.length - 2) 0) :
    0 < q ∧ val 18446744073709551616 U < q * val 18446744073709551616 V ∧ (r + V.getD (V.length - 1) 0 < 18446744073709551616 → Est U V (q - 1) (r + V.getD (V.length - 1) 0)) := by
  obtain ⟨h1, h3, h4, h5⟩ := h
  obtain ⟨m, hm⟩ : ∃ m, V.length = m + 2 := ⟨V.length - 2, by omega⟩
  have d0 := dU.at_ (by decide) (V.length - 2)
  have f1 := dV.at_ (by decide) (V.length - 1)
  have hq : 0 < q := by
    rcases Int.lt_or_le 0 q with hh | hh
    · exact hh
    · have : q = 0 := by omega
      subst this
      rw [Int.zero_mul] at ht
      omega
  have key : val 18446744073709551616 U < q * val 18446744073709551616 V := by
    have eU := top3 (l := U) m (by omega)
    have eV := top2 (l := V) m hm
    have bU := val_lt (dU.take m)
    have nV := val_nonneg (dV.take m)
    rw [List.length_take, Nat.min_eq_left (by omega)] at bU
    have hp : (0 : Int) < 18446744073709551616 ^ m := pow_pos_ (B := 18446744073709551616) (by decide) m
    have e1 : V.length - 1 = m + 1 := by omega
    have e2 : V.length - 2 = m := by omega
    rw [e1, hm] at h5
    rw [e2] at ht
    rw [eU, eV]
    exact est_step _ _ _ _ _ _ _ _ _ r hp bU nV (by omega) h5 ht
  refine ⟨hq, key, fun hlt => ⟨by omega, by omega, ?_, ?_⟩⟩
  · rw [show q - 1 + 1 = q from by omega]; exact key
  · rw [Int.sub_mul]; omega
end
/-- The guess is the digit, once it can be taken off. -/
theorem quot_of {u v q : Int} (hv : 0 < v) (h1 : u < (q + 1) * v) (h2 : q * v ≤ u) : u / v = q ∧ u % v = u - q * v := by
  have e := Int.emod_add_mul_ediv u v
  have g0 := Int.emod_nonneg u (show v ≠ 0 by omega)
  have g1 := Int.emod_lt_of_pos u hv
  have hq : u / v = q := by
    apply Int.le_antisymm
    · exact Int.le_of_lt_add_one (Int.ediv_lt_of_lt_mul hv h1)
    · exact (Int.le_ediv_iff_mul_le hv).2 h2
  refine ⟨hq, ?_⟩
  rw [hq, Int.mul_comm] at e
  omega
end Go.Proofs.YtolflieiipnndaaDoor.Num
