/- The whole digest in plain Lean. -/
import Derived.Test.YtimdbnhgoekflaaDoorShaP
namespace Go.Proofs.YtimdbnhgoekflaaDoor
open Go.RowKit
set_option linter.unusedVariables false

/-- So many blocks. -/
def eat (ks : List Int) (s : St) (b : List Int) : Nat → St
  | 0 => s
  | n + 1 => compress ks (eat ks s b n) (b.drop (64 * n))
theorem eat_W {ks : List Int} {s : St} (h : s.W) (b : List Int) : ∀ n, (eat ks s b n).W
  | 0 => h
  | n + 1 => addSt_W _ _
theorem word_take (b : List Int) (i : Nat) (hi : i < 16) : word (b.take 64) i = word b i := by
  have h : ∀ j, j < 64 → (b.take 64).getD j 0 = b.getD j 0 := by
    intro j hj
    rw [List.getD_eq_getElem?_getD, List.getElem?_take_of_lt hj, ← List.getD_eq_getElem?_getD]
  unfold word
  rw [h _ (by omega), h _ (by omega), h _ (by omega), h _ (by omega)]
theorem w16_take64 (b : List Int) : w16 (b.take 64) = w16 b := by
  unfold w16
  apply List.map_congr_left
  intro i hi
  exact word_take b i (List.mem_range.1 hi)
theorem compress_take (ks : List Int) (s : St) (b : List Int) : compress ks s (b.take 64) = compress ks s b := by
  unfold compress sched; rw [w16_take64]
theorem compress_congr (ks : List Int) (s : St) (b c : List Int) (h : b.take 64 = c.take 64) : compress ks s b = compress ks s c := by
  rw [← compress_take, h, compress_take]
theorem eat_append (ks : List Int) (s : St) (b c : List Int) : ∀ n, 64 * n ≤ b.length → eat ks s (b ++ c) n = eat ks s b n
  | 0, _ => rfl
  | n + 1, h => by
    unfold eat
    rw [eat_append ks s b c n (by omega)]
    apply compress_congr
    rw [List.drop_append_of_le_length (by omega), List.take_append_of_le_length (by rw [List.length_drop]; omega)]
theorem eat_add (ks : List Int) (s : St) (b : List Int) (n : Nat) : ∀ m, eat ks s b (n + m) = eat ks (eat ks s b n) (b.drop (64 * n)) m
  | 0 => rfl
  | m + 1 => by
    rw [← Nat.add_assoc]
    unfold eat
    rw [eat_add ks s b n m, List.drop_drop, show 64 * n + 64 * m = 64 * (n + m) by omega]
/-- So many noughts behind n bytes and 128. -/
def zeros (n : Nat) : Nat := (119 - n % 64) % 64
def be8q (n : Int) : List Int := [n / 72057594037927936 % 256, n / 281474976710656 % 256, n / 1099511627776 % 256, n / 4294967296 % 256, n / 16777216 % 256, n / 65536 % 256, n / 256 % 256, n % 256]
def tail8 (n : Nat) : List Int := be8q (8 * n % 18446744073709551616)
def padded (b : List Int) : List Int := b ++ [128] ++ List.replicate (zeros b.length) 0 ++ tail8 b.length
theorem tail8_length (n : Nat) : (tail8 n).length = 8 := rfl
theorem padded_length (b : List Int) : (padded b).length = b.length + 9 + zeros b.length := by
  simp [padded, tail8_length]; omega
theorem padded_mod (b : List Int) : (padded b).length % 64 = 0 := by
  rw [padded_length]; unfold zeros; omega
/-- What is behind the full blocks. -/
def rest (b : List Int) : List Int := b.drop (64 * (b.length / 64))
def endOf (b : List Int) : List Int := rest b ++ [128] ++ List.replicate (zeros b.length) 0 ++ tail8 b.length
theorem rest_length (b : List Int) : (rest b).length = b.length % 64 := by
  simp [rest]; omega
theorem endOf_length (b : List Int) : (endOf b).length = b.length % 64 + 9 + zeros b.length := by
  simp [endOf, tail8_length, rest_length]; omega
theorem endOf_mod (b : List Int) : (endOf b).length % 64 = 0 := by
  rw [endOf_length]; unfold zeros; omega
theorem padded_split (b : List Int) : padded b = b.take (64 * (b.length / 64)) ++ endOf b := by
  unfold padded endOf rest
  simp only [← List.append_assoc, List.take_append_drop]
def bytes4 (x : Int) : List Int := [x / 16777216 % 256, x / 65536 % 256, x / 256 % 256, x % 256]
def St.bytes (s : St) : List Int := s.ws.flatMap bytes4
theorem St.bytes_length (s : St) : s.bytes.length = 32 := by simp [St.bytes, St.ws, bytes4]
/-- The digest. -/
def sha (ks : List Int) (h : St) (b : List Int) : List Int := (eat ks h (padded b) ((padded b).length / 64)).bytes
theorem sha_length (ks : List Int) (h : St) (b : List Int) : (sha ks h b).length = 32 := St.bytes_length _
/-- As the program reckons it. -/
theorem sha_ends (ks : List Int) (h : St) (b : List Int) : eat ks (eat ks h b (b.length / 64)) (endOf b) ((endOf b).length / 64) = eat ks h (padded b) ((padded b).length / 64) := by
  have hl := padded_length b
  have he := endOf_length b
  have e1 : (padded b).length / 64 = b.length / 64 + (endOf b).length / 64 := by
    have := padded_mod b
    have := endOf_mod b
    have : (padded b).length = 64 * (b.length / 64) + (endOf b).length := by rw [hl, he]; omega
    omega
  have ht : (b.take (64 * (b.length / 64))).length = 64 * (b.length / 64) := by rw [List.length_take]; omega
  rw [e1, eat_add]
  congr 1
  · rw [padded_split, eat_append _ _ _ _ _ (by omega)]
    have := eat_append ks h (b.take (64 * (b.length / 64))) (b.drop (64 * (b.length / 64))) (b.length / 64) (by omega)
    rw [List.take_append_drop] at this
    exact this
  · rw [padded_split, List.drop_left' ht]
theorem bytes4_B (x : Int) : Bytes (bytes4 x) := by
  intro y hy
  simp only [bytes4, List.mem_cons, List.not_mem_nil, or_false] at hy
  omega
theorem Bytes.app {a b : List Int} (ha : Bytes a) (hb : Bytes b) : Bytes (a ++ b) := by
  intro x hx
  rcases List.mem_append.1 hx with h | h
  · exact ha x h
  · exact hb x h
theorem Bytes.drop {a : List Int} (ha : Bytes a) (n : Nat) : Bytes (a.drop n) := fun x hx => ha x (List.mem_of_mem_drop hx)
theorem Bytes.take {a : List Int} (ha : Bytes a) (n : Nat) : Bytes (a.take n) := fun x hx => ha x (List.mem_of_mem_take hx)
theorem Bytes.reps (n : Nat) (y : Int) (hy : 0 ≤ y ∧ y ≤ 255) : Bytes (List.replicate n y) := fun x hx => by rw [List.eq_of_mem_replicate hx]; exact hy
theorem Bytes.one (y : Int) (hy : 0 ≤ y ∧ y ≤ 255) : Bytes [y] := fun x hx => by rw [List.mem_singleton.1 hx]; exact hy
theorem tail8_B (n : Nat) : Bytes (tail8 n) := by
  intro y hy
  simp only [tail8, be8q, List.mem_cons, List.not_mem_nil, or_false] at hy
  omega
theorem endOf_B {b : List Int} (h : Bytes b) : Bytes (endOf b) := ((h.drop _).app (Bytes.one _ (by omega))).app (Bytes.reps _ _ (by omega)) |>.app (tail8_B _)
theorem sha_B (ks : List Int) (h : St) (b : List Int) : Bytes (sha ks h b) := by
  intro x hx
  simp only [sha, St.bytes, List.mem_flatMap] at hx
  obtain ⟨y, _, hx⟩ := hx
  exact bytes4_B y x hx
end Go.Proofs.YtimdbnhgoekflaaDoor
