/- The digest in plain Lean: words of 32 bits as whole numbers. No program in sight. -/
import Derived.Test.YtimdbnhgoekflaaDoorBase
import Derived.Laws.BitsLemmas
namespace Go.Proofs.YtimdbnhgoekflaaDoor
open Go.RowKit
set_option linter.unusedVariables false

/-- A word of 32 bits. -/
def W32 (x : Int) : Prop := 0 ≤ x ∧ x ≤ 4294967295
theorem wraps_u32 (n : Int) (h₀ : 0 ≤ n) (h₁ : n < 2 ^ 32) : IntKind.u32.wrap n = n := by rw [IntKind.wrap_u32]; omega
theorem wrap_u32_W (n : Int) : W32 (IntKind.u32.wrap n) := by rw [IntKind.wrap_u32]; unfold W32; omega
theorem bits_u32_W (op : BinOp) (x y : Int) : W32 (bits op .u32 x y) := wrap_u32_W _

/-- Turned to the right by n places. -/
def rotr (x : Int) (n : Nat) : Int := x / 2 ^ n + x % 2 ^ n * 2 ^ (32 - n)
theorem rot_or (x : Int) (hx : W32 x) (n : Nat) (h1 : 1 ≤ n) (h2 : n ≤ 31) : bits .or .u32 (IntKind.u32.wrap (x * 2 ^ (32 - n))) (x / 2 ^ n) = rotr x n := by
  obtain ⟨a, rfl⟩ := Int.eq_ofNat_of_zero_le hx.1
  have ha : a < 2 ^ 32 := by have := hx.2; omega
  have e1 : (a : Int) / 2 ^ n = ((a / 2 ^ n : Nat) : Int) := by simp
  have e2 : IntKind.u32.wrap ((a : Int) * 2 ^ (32 - n)) = ((a % 2 ^ n * 2 ^ (32 - n) : Nat) : Int) := by
    rw [IntKind.wrap_u32]
    have h3 : (4294967296 : Int) = ((2 ^ n * 2 ^ (32 - n) : Nat) : Int) := by
      rw [← Nat.pow_add, show n + (32 - n) = 32 by omega]; rfl
    have h4 : (a : Int) * 2 ^ (32 - n) = ((a * 2 ^ (32 - n) : Nat) : Int) := by simp
    rw [h3, h4, ← Int.natCast_emod, Nat.mul_mod_mul_right]
  have e3 : rotr (a : Int) n = ((a % 2 ^ n * 2 ^ (32 - n) + a / 2 ^ n : Nat) : Int) := by
    unfold rotr
    rw [e1]
    have : (a : Int) % 2 ^ n = ((a % 2 ^ n : Nat) : Int) := by simp
    rw [this]
    simp
    omega
  have hlo : a / 2 ^ n < 2 ^ (32 - n) := by
    rw [Nat.div_lt_iff_lt_mul (Nat.two_pow_pos n), ← Nat.pow_add, show 32 - n + n = 32 by omega]
    exact ha
  have hhi : a % 2 ^ n * 2 ^ (32 - n) < 2 ^ 32 := by
    have h5 : a % 2 ^ n < 2 ^ n := Nat.mod_lt _ (Nat.two_pow_pos n)
    have h6 : 2 ^ n * 2 ^ (32 - n) = 2 ^ 32 := by rw [← Nat.pow_add, show n + (32 - n) = 32 by omega]
    rw [← h6]
    exact Nat.mul_lt_mul_of_pos_right h5 (Nat.two_pow_pos _)
  have hlo2 : a / 2 ^ n < 2 ^ 32 := Nat.lt_of_le_of_lt (Nat.div_le_self _ _) ha
  rw [e1, e2, e3, (bits_nat .u32 32 (by decide) wraps_u32 _ _ hhi hlo2).2]
  congr 1
  rw [Nat.mul_comm (a % 2 ^ n), ← Nat.two_pow_add_eq_or_of_lt hlo]
theorem rotr_W (x : Int) (hx : W32 x) (n : Nat) (h1 : 1 ≤ n) (h2 : n ≤ 31) : W32 (rotr x n) := by
  rw [← rot_or x hx n h1 h2]; exact bits_u32_W _ _ _
/-- Turned by one place, as the reference does it. -/
def rot1 (x : Int) : Int := x / 2 + x % 2 * 2147483648
theorem rot1_rotr (x : Int) (hx : W32 x) (n : Nat) (h : n ≤ 30) : rot1 (rotr x n) = rotr x (n + 1) := by
  obtain ⟨a, rfl⟩ := Int.eq_ofNat_of_zero_le hx.1
  unfold rotr rot1
  have hA : (2 : Int) ^ (32 - n) = 2 * 2 ^ (31 - n) := by rw [show 32 - n = (31 - n) + 1 by omega, Int.pow_succ]; omega
  have hB : (2 : Int) ^ (n + 1) = 2 * 2 ^ n := by rw [Int.pow_succ]; omega
  have hC : (2 : Int) ^ n * 2 ^ (31 - n) = 2147483648 := by rw [← Int.pow_add, show n + (31 - n) = 31 by omega]; rfl
  rw [show 32 - (n + 1) = 31 - n by omega, hA, hB]
  generalize (2 : Int) ^ (31 - n) = A at *
  have hp : (0 : Int) < 2 ^ n := Int.pow_pos (by omega)
  generalize (2 : Int) ^ n = B at *
  have h1 : (a : Int) / (2 * B) = (a : Int) / B / 2 := by rw [Int.mul_comm 2 B, Int.ediv_ediv_of_nonneg (by omega)]
  have h2 : (a : Int) % (2 * B) = (a : Int) % B + B * ((a : Int) / B % 2) := by
    have h3 := Int.emod_add_mul_ediv (a : Int) (2 * B)
    have h4 := Int.emod_add_mul_ediv (a : Int) B
    have h5 := Int.emod_add_mul_ediv ((a : Int) / B) 2
    rw [h1] at h3
    generalize (a : Int) / B / 2 = q at *
    have h6 : B * ((a : Int) / B) = B * ((a : Int) / B % 2) + 2 * B * q := by
      conv => lhs; rw [← h5]
      rw [Int.mul_add, ← Int.mul_assoc, Int.mul_comm B 2]
    omega
  rw [h1, h2, Int.add_mul, Int.mul_right_comm B, hC]
  have e : (a : Int) % B * (2 * A) = 2 * ((a : Int) % B * A) := by rw [Int.mul_left_comm]
  rw [e]
  generalize (a : Int) % B * A = R at *
  generalize (a : Int) / B = Q at *
  omega

/-- Eight words. -/
structure St where
  a : Int
  b : Int
  c : Int
  d : Int
  e : Int
  f : Int
  g : Int
  h : Int
def St.cells (s : St) : Array Value := #[.int .u32 s.a, .int .u32 s.b, .int .u32 s.c, .int .u32 s.d, .int .u32 s.e, .int .u32 s.f, .int .u32 s.g, .int .u32 s.h]
def St.ws (s : St) : List Int := [s.a, s.b, s.c, s.d, s.e, s.f, s.g, s.h]
def St.W (s : St) : Prop := (W32 s.a ∧ W32 s.b ∧ W32 s.c ∧ W32 s.d) ∧ W32 s.e ∧ W32 s.f ∧ W32 s.g ∧ W32 s.h
def xor32 (x y : Int) : Int := bits .xor .u32 x y
def and32 (x y : Int) : Int := bits .and .u32 x y
def not32 (x : Int) : Int := bits .xor .u32 IntKind.u32.max x
def add32 (x y : Int) : Int := (x + y) % 4294967296
theorem add32_W (x y : Int) : W32 (add32 x y) := by unfold add32 W32; omega
theorem xor32_W (x y : Int) : W32 (xor32 x y) := bits_u32_W _ _ _
theorem and32_W (x y : Int) : W32 (and32 x y) := bits_u32_W _ _ _
def small0 (x : Int) : Int := xor32 (xor32 (rotr x 7) (rotr x 18)) (x / 8)
def small1 (x : Int) : Int := xor32 (xor32 (rotr x 17) (rotr x 19)) (x / 1024)
def big1 (e : Int) : Int := xor32 (xor32 (rotr e 6) (rotr e 11)) (rotr e 25)
def big0 (a : Int) : Int := xor32 (xor32 (rotr a 2) (rotr a 13)) (rotr a 22)
def chF (e f g : Int) : Int := xor32 (and32 e f) (and32 (not32 e) g)
def majF (a b c : Int) : Int := xor32 (xor32 (and32 a b) (and32 a c)) (and32 b c)
def tOne (s : St) (k w : Int) : Int := (s.h + big1 s.e + chF s.e s.f s.g + k + w) % 4294967296
def rnd (s : St) (k w : Int) : St := ⟨(tOne s k w + (big0 s.a + majF s.a s.b s.c)) % 4294967296, s.a, s.b, s.c, (s.d + tOne s k w) % 4294967296, s.e, s.f, s.g⟩
theorem mod_W (x : Int) : W32 (x % 4294967296) := by unfold W32; omega
theorem rnd_W {s : St} (h : s.W) (k w : Int) : (rnd s k w).W := by
  obtain ⟨⟨h1, h2, h3, h4⟩, h5, h6, h7, h8⟩ := h
  exact ⟨⟨mod_W _, h1, h2, h3⟩, mod_W _, h5, h6, h7⟩
/-- So many rounds, by the constants ks and the words ws. -/
def rnds (ks ws : List Int) (s : St) : Nat → St
  | 0 => s
  | n + 1 => rnd (rnds ks ws s n) (ks.getD n 0) (ws.getD n 0)
theorem rnds_W {ks ws : List Int} {s : St} (h : s.W) : ∀ n, (rnds ks ws s n).W
  | 0 => h
  | n + 1 => rnd_W (rnds_W h n) _ _
def wNext (ws : List Int) : Int :=
  add32 (add32 (add32 (ws.getD (ws.length - 16) 0) (small0 (ws.getD (ws.length - 15) 0))) (ws.getD (ws.length - 7) 0)) (small1 (ws.getD (ws.length - 2) 0))
def wGo : Nat → List Int → List Int
  | 0, ws => ws
  | n + 1, ws => wGo n ws ++ [wNext (wGo n ws)]
theorem wGo_length (n : Nat) (ws : List Int) : (wGo n ws).length = ws.length + n := by
  induction n with
  | zero => rfl
  | succ n ih => simp [wGo, ih]; omega
def word (b : List Int) (i : Nat) : Int := b.getD (4 * i) 0 * 16777216 + b.getD (4 * i + 1) 0 * 65536 + b.getD (4 * i + 2) 0 * 256 + b.getD (4 * i + 3) 0
def w16 (b : List Int) : List Int := (List.range 16).map (word b)
def sched (b : List Int) : List Int := wGo 48 (w16 b)
def addSt (s v : St) : St := ⟨add32 s.a v.a, add32 s.b v.b, add32 s.c v.c, add32 s.d v.d, add32 s.e v.e, add32 s.f v.f, add32 s.g v.g, add32 s.h v.h⟩
def compress (ks : List Int) (s : St) (b : List Int) : St := addSt s (rnds ks (sched b) s 64)
theorem addSt_W (s v : St) : (addSt s v).W := ⟨⟨add32_W _ _, add32_W _ _, add32_W _ _, add32_W _ _⟩, add32_W _ _, add32_W _ _, add32_W _ _, add32_W _ _⟩
/-- Bytes. -/
def Bytes (b : List Int) : Prop := ∀ x ∈ b, 0 ≤ x ∧ x ≤ 255
theorem Bytes.at_ {b : List Int} (h : Bytes b) (i : Nat) : 0 ≤ b.getD i 0 ∧ b.getD i 0 ≤ 255 := by
  rw [List.getD_eq_getElem?_getD]
  cases he : b[i]? with
  | none => simp
  | some x => simp; exact h x (List.mem_of_getElem? he)
theorem word_W {b : List Int} (h : Bytes b) (i : Nat) : W32 (word b i) := by
  have h0 := h.at_ (4 * i)
  have h1 := h.at_ (4 * i + 1)
  have h2 := h.at_ (4 * i + 2)
  have h3 := h.at_ (4 * i + 3)
  unfold word W32
  omega
/-- Four bytes put together by shifts and 'or'. -/
theorem or_word (a b c d : Int) (ha : 0 ≤ a ∧ a ≤ 255) (hb : 0 ≤ b ∧ b ≤ 255) (hc : 0 ≤ c ∧ c ≤ 255) (hd : 0 ≤ d ∧ d ≤ 255) :
    bits .or .u32 (bits .or .u32 (bits .or .u32 (a * 16777216) (b * 65536)) (c * 256)) d = a * 16777216 + b * 65536 + c * 256 + d := by
  rw [bits_join .u32 32 (by decide) wraps_u32 24 (a * 16777216) (b * 65536) (by omega) (by omega) (by omega) (by omega) (by omega) (by omega),
    bits_join .u32 32 (by decide) wraps_u32 16 (a * 16777216 + b * 65536) (c * 256) (by omega) (by omega) (by omega) (by omega) (by omega) (by omega),
    bits_join .u32 32 (by decide) wraps_u32 8 (a * 16777216 + b * 65536 + c * 256) d (by omega) (by omega) (by omega) (by omega) (by omega) (by omega)]
theorem set_next (xs : List Int) (m : Nat) (v : Int) : (xs ++ List.replicate (m + 1) 0).set xs.length v = (xs ++ [v]) ++ List.replicate m 0 := by
  rw [List.set_append_right _ _ (Nat.le_refl _), Nat.sub_self, List.replicate_succ, List.set_cons_zero]
  simp
theorem w16_take (b : List Int) (k : Nat) (hk : k < 16) : ((w16 b).take k ++ List.replicate (64 - k) 0).set k (word b k) = (w16 b).take (k + 1) ++ List.replicate (64 - (k + 1)) 0 := by
  have hl : ((w16 b).take k).length = k := by simp [w16]; omega
  have h := set_next ((w16 b).take k) (63 - k) (word b k)
  rw [hl, show 63 - k + 1 = 64 - k by omega] at h
  rw [h, show 64 - (k + 1) = 63 - k by omega]
  congr 1
  rw [List.take_add_one]
  congr 1
  simp [w16, hk]
theorem wGo_set (b : List Int) (k : Nat) (hk : k < 48) (v : Int) (hv : v = wNext (wGo k (w16 b))) : (wGo k (w16 b) ++ List.replicate (48 - k) 0).set (16 + k) v = wGo (k + 1) (w16 b) ++ List.replicate (48 - (k + 1)) 0 := by
  have hl : (wGo k (w16 b)).length = 16 + k := by rw [wGo_length]; simp [w16]
  have h := set_next (wGo k (w16 b)) (47 - k) v
  rw [hl, show 47 - k + 1 = 48 - k by omega] at h
  rw [h, hv, show 48 - (k + 1) = 47 - k by omega]
  rfl
theorem wGo_set' (b : List Int) (i : Nat) (h1 : 16 ≤ i) (h2 : i < 64) (v : Int) (hv : v = wNext (wGo (i - 16) (w16 b))) : (wGo (i - 16) (w16 b) ++ List.replicate (64 - i) 0).set i v = wGo (i + 1 - 16) (w16 b) ++ List.replicate (64 - (i + 1)) 0 := by
  obtain ⟨k, rfl⟩ : ∃ k, i = 16 + k := ⟨i - 16, by omega⟩
  have h := wGo_set b k (by omega) v (by rw [hv, show 16 + k - 16 = k by omega])
  rw [show 16 + k - 16 = k by omega, show 16 + k + 1 - 16 = k + 1 by omega, show 64 - (16 + k) = 48 - k by omega, show 64 - (16 + k + 1) = 48 - (k + 1) by omega]
  exact h
theorem wGo_W {b : List Int} (h : Bytes b) (k : Nat) : ∀ j, W32 ((wGo k (w16 b)).getD j 0) := by
  induction k with
  | zero =>
    intro j
    rw [List.getD_eq_getElem?_getD]
    cases he : (w16 b)[j]? with
    | none => simp [wGo, he, W32]
    | some x =>
      simp only [wGo, he, Option.getD_some]
      have hm := List.mem_of_getElem? he
      simp only [w16, List.mem_map] at hm
      obtain ⟨i, _, rfl⟩ := hm
      exact word_W h i
  | succ k ih =>
    intro j
    rw [List.getD_eq_getElem?_getD]
    simp only [wGo]
    rcases Nat.lt_or_ge j (wGo k (w16 b)).length with hj | hj
    · rw [List.getElem?_append_left hj, ← List.getD_eq_getElem?_getD]; exact ih j
    · rw [List.getElem?_append_right hj]
      cases hq : j - (wGo k (w16 b)).length with
      | zero => simp only [List.getElem?_cons_zero, Option.getD_some]; exact add32_W _ _
      | succ m => simp [W32]
end Go.Proofs.YtimdbnhgoekflaaDoor
