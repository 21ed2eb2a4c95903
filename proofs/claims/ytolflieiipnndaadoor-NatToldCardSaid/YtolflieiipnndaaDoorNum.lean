/- Plain numbers: digits to a base, their value, the one list of digits that a number has. No program in sight. -/
import Derived.WalkKit
namespace Go.Proofs.YtolflieiipnndaaDoor.Num
open Go.RowKit
set_option linter.unusedSimpArgs false

def val (B : Nat) : List Int → Int
  | [] => 0
  | x :: l => x + B * val B l
def Dig (B : Nat) (l : List Int) : Prop := ∀ x ∈ l, 0 ≤ x ∧ x < B
theorem Dig.nil (B : Nat) : Dig B [] := fun _ h => by cases h
theorem Dig.tail {B : Nat} {x : Int} {l : List Int} (h : Dig B (x :: l)) : Dig B l := fun y hy => h y (List.mem_cons_of_mem _ hy)
theorem Dig.head {B : Nat} {x : Int} {l : List Int} (h : Dig B (x :: l)) : 0 ≤ x ∧ x < B := h x List.mem_cons_self
theorem Dig.take {B : Nat} {l : List Int} (h : Dig B l) (n : Nat) : Dig B (l.take n) := fun x hx => h x (List.mem_of_mem_take hx)
theorem Dig.drop {B : Nat} {l : List Int} (h : Dig B l) (n : Nat) : Dig B (l.drop n) := fun x hx => h x (List.mem_of_mem_drop hx)
theorem Dig.app {B : Nat} {l m : List Int} (h : Dig B l) (k : Dig B m) : Dig B (l ++ m) := fun x hx => by
  rcases List.mem_append.1 hx with hx | hx
  · exact h x hx
  · exact k x hx
theorem Dig.one {B : Nat} {x : Int} (h : 0 ≤ x ∧ x < B) : Dig B [x] := fun y hy => by rw [List.mem_singleton.1 hy]; exact h
theorem Dig.reps {B : Nat} (hB : 0 < B) (n : Nat) : Dig B (List.replicate n 0) := fun x hx => by rw [List.eq_of_mem_replicate hx]; omega
theorem Dig.set {B : Nat} {l : List Int} (h : Dig B l) (i : Nat) {x : Int} (hx : 0 ≤ x ∧ x < B) : Dig B (l.set i x) := fun y hy => by
  rcases List.mem_or_eq_of_mem_set hy with hy | rfl
  · exact h y hy
  · exact hx
theorem Dig.at_ {B : Nat} (hB : 0 < B) {l : List Int} (h : Dig B l) (i : Nat) : 0 ≤ l.getD i 0 ∧ l.getD i 0 < B := by
  rcases Nat.lt_or_ge i l.length with hi | hi
  · have : l.getD i 0 = l[i] := by simp [List.getD_eq_getElem?_getD, hi]
    rw [this]; exact h _ (List.getElem_mem hi)
  · have : l.getD i 0 = 0 := by simp [List.getD_eq_getElem?_getD, List.getElem?_eq_none hi]
    rw [this]; omega
theorem pow_pos_ {B : Nat} (hB : 0 < B) (n : Nat) : (0 : Int) < (B : Int) ^ n := Int.pow_pos (by omega)
theorem pow_succ_ (B : Nat) (n : Nat) : (B : Int) ^ (n + 1) = (B : Int) ^ n * B := Int.pow_succ ..
theorem val_append (B : Nat) (l m : List Int) : val B (l ++ m) = val B l + (B : Int) ^ l.length * val B m := by
  induction l with
  | nil => simp [val]
  | cons x l ih =>
    simp only [List.cons_append, val, ih, List.length_cons, pow_succ_]
    rw [Int.mul_add, Int.add_assoc, ← Int.mul_assoc, Int.mul_comm ((B : Int) ^ l.length) B]
theorem val_snoc (B : Nat) (l : List Int) (x : Int) : val B (l ++ [x]) = val B l + (B : Int) ^ l.length * x := by
  rw [val_append]; simp [val]
theorem val_reps (B n : Nat) : val B (List.replicate n 0) = 0 := by
  induction n with
  | zero => rfl
  | succ n ih => simp [List.replicate_succ, val, ih]
theorem val_nonneg {B : Nat} {l : List Int} (h : Dig B l) : 0 ≤ val B l := by
  induction l with
  | nil => exact Int.le_refl _
  | cons x l ih =>
    have := ih h.tail
    have := Int.mul_nonneg (Int.natCast_nonneg B) this
    have := h.head
    simp only [val]; omega
theorem val_lt {B : Nat} {l : List Int} (h : Dig B l) : val B l < (B : Int) ^ l.length := by
  induction l with
  | nil => simp [val]
  | cons x l ih =>
    have h1 := ih h.tail
    have h2 := h.head
    have h3 : (B : Int) * (val B l + 1) ≤ B * (B : Int) ^ l.length := Int.mul_le_mul_of_nonneg_left (by omega) (Int.natCast_nonneg B)
    rw [Int.mul_add, Int.mul_one] at h3
    simp only [val, List.length_cons, pow_succ_]
    rw [Int.mul_comm ((B : Int) ^ l.length) B]
    omega
theorem take_rd (l : List Int) (i : Nat) (h : i < l.length) : l.take (i + 1) = l.take i ++ [l.getD i 0] := by
  rw [List.take_succ_eq_append_getElem h]
  simp [List.getD_eq_getElem?_getD, h]
theorem val_take (B : Nat) (l : List Int) (i : Nat) (h : i < l.length) : val B (l.take (i + 1)) = val B (l.take i) + (B : Int) ^ i * l.getD i 0 := by
  rw [take_rd l i h, val_snoc, List.length_take, Nat.min_eq_left (by omega)]
theorem take_set (l : List Int) (i : Nat) (v : Int) : (l.set i v).take i = l.take i := by
  rw [List.take_set_of_le (Nat.le_refl i)]
theorem getD_set (l : List Int) (i : Nat) (v : Int) (h : i < l.length) : (l.set i v).getD i 0 = v := by
  simp [List.getD_eq_getElem?_getD, h]
theorem val_take_set (B : Nat) (l : List Int) (i : Nat) (v : Int) (h : i < l.length) : val B ((l.set i v).take (i + 1)) = val B (l.take i) + (B : Int) ^ i * v := by
  rw [val_take B _ i (by simpa using h), take_set, getD_set l i v h]
theorem val_whole (B : Nat) (l : List Int) (n : Nat) (h : l.length ≤ n) : val B (l.take n) = val B l := by rw [List.take_of_length_le h]
/-- A number of some digits and more of them. -/
theorem val_split (B : Nat) (l : List Int) (i : Nat) (h : i ≤ l.length) : val B l = val B (l.take i) + (B : Int) ^ i * val B (l.drop i) := by
  rw [← List.take_append_drop i l, val_append, List.length_take, Nat.min_eq_left h, List.take_append_drop]
/-- A digit of a number. -/
theorem digit {B : Nat} (hB : 0 < B) {l : List Int} (h : Dig B l) (i : Nat) : l.getD i 0 = val B l / (B : Int) ^ i % B := by
  induction l generalizing i with
  | nil => simp [val]
  | cons x l ih =>
    have h2 := h.head
    have e : (x + B * val B l) / B = val B l := by
      rw [Int.add_mul_ediv_left _ _ (by omega), Int.ediv_eq_zero_of_lt h2.1 h2.2, Int.zero_add]
    cases i with
    | zero =>
      simp only [List.getD_cons_zero, val, Int.pow_zero, Int.ediv_one]
      rw [Int.add_mul_emod_self_left, Int.emod_eq_of_lt h2.1 h2.2]
    | succ i =>
      simp only [List.getD_cons_succ, val]
      rw [ih h.tail i, pow_succ_, Int.mul_comm ((B : Int) ^ i) B, ← Int.ediv_ediv_of_nonneg (by omega), e]
theorem lower {B : Nat} (hB : 0 < B) {l : List Int} (h : Dig B l) (i : Nat) : val B (l.take i) = val B l % (B : Int) ^ i := by
  rcases Nat.lt_or_ge l.length i with hi | hi
  · rw [List.take_of_length_le (by omega), Int.emod_eq_of_lt (val_nonneg h)]
    refine Int.lt_of_lt_of_le (val_lt h) ?_
    exact_mod_cast Nat.pow_le_pow_right hB (Nat.le_of_lt hi)
  · have h1 := val_split B l i hi
    have h3 := val_lt (h.take i)
    rw [List.length_take, Nat.min_eq_left hi] at h3
    rw [h1, Int.add_mul_emod_self_left, Int.emod_eq_of_lt (val_nonneg (h.take i)) h3]

/-! ### the digits of a number -/
def digsF (B : Nat) : Nat → Nat → List Int
  | 0, _ => []
  | f + 1, n => if n = 0 then [] else ((n % B : Nat) : Int) :: digsF B f (n / B)
def digs (B : Nat) (n : Int) : List Int := digsF B n.toNat n.toNat
theorem digsF_more {B : Nat} (hB : 2 ≤ B) : ∀ (f g n : Nat), n ≤ f → n ≤ g → digsF B f n = digsF B g n := by
  intro f
  induction f with
  | zero =>
    intro g n h1 _
    obtain rfl : n = 0 := by omega
    cases g <;> simp [digsF]
  | succ f ih =>
    intro g n h1 h2
    cases g with
    | zero =>
      obtain rfl : n = 0 := by omega
      simp [digsF]
    | succ g =>
      simp only [digsF]
      split
      · rfl
      · rename_i h0
        have : n / B < n := Nat.div_lt_self (by omega) (by omega)
        rw [ih g (n / B) (by omega) (by omega)]
theorem digs_zero (B : Nat) : digs B 0 = [] := rfl
theorem digs_pos {B : Nat} (hB : 2 ≤ B) {n : Int} (h : 0 < n) : digs B n = (n % B) :: digs B (n / B) := by
  obtain ⟨m, rfl⟩ := Int.eq_ofNat_of_zero_le (Int.le_of_lt h)
  obtain ⟨f, rfl⟩ : ∃ f, m = f + 1 := ⟨m - 1, by omega⟩
  have hd : (f + 1) / B < f + 1 := Nat.div_lt_self (by omega) (by omega)
  have e : (((f + 1 : Nat) : Int) / (B : Int)).toNat = (f + 1) / B := by rw [← Int.natCast_ediv, Int.toNat_natCast]
  unfold digs
  rw [e, Int.toNat_natCast]
  show (if f + 1 = 0 then [] else (((f + 1) % B : Nat) : Int) :: digsF B f ((f + 1) / B)) = _
  rw [if_neg (by omega), digsF_more hB f ((f + 1) / B) ((f + 1) / B) (by omega) (Nat.le_refl _)]
  rfl
theorem digs_neg {B : Nat} {n : Int} (h : n ≤ 0) : digs B n = [] := by
  unfold digs
  rw [show n.toNat = 0 by omega]
  rfl
theorem div_lt_ {B : Nat} (hB : 2 ≤ B) {n : Int} (h : 0 < n) : (n / B).toNat < n.toNat := by
  obtain ⟨m, rfl⟩ := Int.eq_ofNat_of_zero_le (Int.le_of_lt h)
  rw [← Int.natCast_ediv, Int.toNat_natCast, Int.toNat_natCast]
  exact Nat.div_lt_self (by omega) (by omega)
theorem digs_ind {B : Nat} (hB : 2 ≤ B) {P : Int → Prop} (h0 : P 0) (h1 : ∀ n, 0 < n → P (n / B) → P n) : ∀ n : Int, 0 ≤ n → P n := by
  have : ∀ f : Nat, ∀ n : Int, 0 ≤ n → n.toNat ≤ f → P n := by
    intro f
    induction f with
    | zero => intro n h hf; obtain rfl : n = 0 := by omega
              exact h0
    | succ f ih =>
      intro n h hf
      rcases Int.lt_or_eq_of_le h with hp | rfl
      · exact h1 n hp (ih _ (Int.ediv_nonneg h (by omega)) (by have := div_lt_ hB hp; omega))
      · exact h0
  exact fun n h => this n.toNat n h (Nat.le_refl _)
theorem digs_dig {B : Nat} (hB : 2 ≤ B) (n : Int) : Dig B (digs B n) := by
  rcases Int.lt_or_le n 0 with h | h
  · rw [digs_neg (by omega)]; exact Dig.nil B
  · refine digs_ind hB (P := fun n => Dig B (digs B n)) (by rw [digs_zero]; exact Dig.nil B) (fun n hp ih => ?_) n h
    rw [digs_pos hB hp]
    intro x hx
    rcases List.mem_cons.1 hx with rfl | hx
    · exact ⟨Int.emod_nonneg _ (by omega), Int.emod_lt_of_pos _ (by omega)⟩
    · exact ih x hx
theorem val_digs {B : Nat} (hB : 2 ≤ B) (n : Int) (h : 0 ≤ n) : val B (digs B n) = n := by
  refine digs_ind hB (P := fun n => val B (digs B n) = n) rfl (fun n hp ih => ?_) n h
  rw [digs_pos hB hp]
  simp only [val]
  rw [ih]
  have := Int.emod_add_mul_ediv n B
  omega
theorem digs_len {B : Nat} (hB : 2 ≤ B) (m : Nat) : ∀ n : Int, 0 ≤ n → ((digs B n).length ≤ m ↔ n < (B : Int) ^ m) := by
  induction m with
  | zero =>
    intro n h
    rw [Int.pow_zero]
    rcases Int.lt_or_eq_of_le h with hp | rfl
    · rw [digs_pos hB hp]; simp; omega
    · simp [digs_zero]
  | succ m ih =>
    intro n h
    rcases Int.lt_or_eq_of_le h with hp | rfl
    · rw [digs_pos hB hp, List.length_cons, Nat.succ_le_succ_iff, ih _ (Int.ediv_nonneg h (by omega)), pow_succ_]
      exact Int.ediv_lt_iff_lt_mul (by omega)
    · have := pow_pos_ (show 0 < B by omega) (m + 1)
      simp [digs_zero]; omega
theorem digs_len_lt {B : Nat} (hB : 2 ≤ B) (m : Nat) (n : Int) (h : 0 ≤ n) : m < (digs B n).length ↔ (B : Int) ^ m ≤ n := by
  have := digs_len hB m n h
  omega
theorem val_pos {B : Nat} (hB : 2 ≤ B) {l : List Int} (h : Dig B l) : l ≠ [] → l.getD (l.length - 1) 0 ≠ 0 → 0 < val B l := by
  induction l with
  | nil => intro h; exact absurd rfl h
  | cons x l ih =>
    intro _ hl
    have h1 := h.head
    have h2 := val_nonneg h.tail
    have h3 := Int.mul_nonneg (Int.natCast_nonneg B) h2
    simp only [val]
    rcases l with _ | ⟨y, l⟩
    · simp at hl; simp [val] at h3 ⊢; omega
    · have h4 := ih h.tail (by simp) (by simpa using hl)
      have h5 : (B : Int) * 1 ≤ B * val B (y :: l) := Int.mul_le_mul_of_nonneg_left (by omega) (by omega)
      omega
/-- The one list of digits without noughts at its end. -/
theorem canon {B : Nat} (hB : 2 ≤ B) {l : List Int} (h : Dig B l) (hl : l = [] ∨ l.getD (l.length - 1) 0 ≠ 0) : l = digs B (val B l) := by
  induction l with
  | nil => rfl
  | cons x l ih =>
    have hp := val_pos hB h (by simp) (hl.resolve_left (by simp))
    have h1 := h.head
    rw [digs_pos hB hp]
    have e1 : val B (x :: l) % B = x := by simp only [val]; rw [Int.add_mul_emod_self_left, Int.emod_eq_of_lt h1.1 h1.2]
    have e2 : val B (x :: l) / B = val B l := by simp only [val]; rw [Int.add_mul_ediv_left _ _ (by omega), Int.ediv_eq_zero_of_lt h1.1 h1.2, Int.zero_add]
    rw [e1, e2]
    congr 1
    refine ih h.tail ?_
    rcases l with _ | ⟨y, l⟩
    · exact .inl rfl
    · right
      have := hl.resolve_left (by simp)
      simpa using this
def limbs (l : List Int) : Nat → Nat
  | 0 => 0
  | n + 1 => if l.getD n 0 = 0 then limbs l n else n + 1
theorem limbs_le (l : List Int) (n : Nat) : limbs l n ≤ n := by
  induction n with
  | zero => exact Nat.le_refl _
  | succ n ih => simp only [limbs]; split <;> omega
theorem take_limbs {B : Nat} (hB : 2 ≤ B) {l : List Int} (h : Dig B l) : ∀ n, n ≤ l.length → l.take (limbs l n) = digs B (val B (l.take n)) := by
  intro n
  induction n with
  | zero => intro _; simp [limbs, val, digs_zero]
  | succ n ih =>
    intro hn
    simp only [limbs]
    split
    · rename_i h0
      rw [ih (by omega), val_take B l n (by omega), h0]
      simp
    · rename_i h0
      refine canon hB (h.take _) (.inr ?_)
      rw [List.length_take, Nat.min_eq_left hn]
      have : (l.take (n + 1)).getD (n + 1 - 1) 0 = l.getD n 0 := by
        simp [List.getD_eq_getElem?_getD, List.getElem?_take]
      rw [this]; exact h0
theorem limbs_len {B : Nat} (hB : 2 ≤ B) {l : List Int} (h : Dig B l) : (digs B (val B l)).length = limbs l l.length := by
  have := take_limbs hB h l.length (Nat.le_refl _)
  rw [List.take_length] at this
  rw [← this, List.length_take]
  exact Nat.min_eq_left (limbs_le _ _)
theorem take_all {B : Nat} (hB : 2 ≤ B) {l : List Int} (h : Dig B l) : l.take (limbs l l.length) = digs B (val B l) := by
  have := take_limbs hB h l.length (Nat.le_refl _)
  rwa [List.take_length] at this
/-- A digit of a number, by its list without noughts. -/
theorem digs_at {B : Nat} (hB : 2 ≤ B) {n : Int} (h : 0 ≤ n) (i : Nat) : (digs B n).getD i 0 = n / (B : Int) ^ i % B := by
  rw [digit (by omega) (digs_dig hB n) i, val_digs hB n h]
theorem digs_inj {B : Nat} (hB : 2 ≤ B) {m n : Int} (hm : 0 ≤ m) (hn : 0 ≤ n) (h : digs B m = digs B n) : m = n := by
  rw [← val_digs hB m hm, h, val_digs hB n hn]
/-- Lists of as many digits that are one number are the same list. -/
theorem val_inj {B : Nat} (hB : 2 ≤ B) {l m : List Int} (hl : Dig B l) (hm : Dig B m) (hn : l.length = m.length) (h : val B l = val B m) : l = m := by
  apply List.ext_getElem hn
  intro i h1 h2
  have := digit (by omega) hl i
  rw [h, ← digit (by omega) hm i] at this
  simpa [List.getD_eq_getElem?_getD, h1, h2] using this
theorem digs_small {B : Nat} (hB : 2 ≤ B) {x : Int} (h : 0 < x) (h2 : x < B) : digs B x = [x] := by
  rw [digs_pos hB h, Int.emod_eq_of_lt (by omega) h2, Int.ediv_eq_zero_of_lt (by omega) h2, digs_zero]
/-! ### machine words -/
theorem w64 {n : Int} (h1 : -9223372036854775808 ≤ n) (h2 : n ≤ 9223372036854775807) : wrap64 n = n := by unfold wrap64; omega
theorem wu64 {n : Int} (h1 : 0 ≤ n) (h2 : n ≤ 18446744073709551615) : IntKind.u64.wrap n = n := by rw [IntKind.wrap_u64]; omega
theorem tdiv_ {a b : Int} (h : 0 ≤ a) : Int.tdiv a b = a / b := Int.tdiv_eq_ediv_of_nonneg h
theorem tmod_ {a b : Int} (h : 0 ≤ a) : Int.tmod a b = a % b := Int.tmod_eq_emod_of_nonneg h
end Go.Proofs.YtolflieiipnndaaDoor.Num
