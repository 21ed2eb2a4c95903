/- Plain law of the journal: the records of frames one behind the other, of any beginning of them. -/
import Derived.Test.YtlgkcpmedjpoaaaJO
namespace Go.Proofs.Ytlgkcpmedjpoaaa.X
open Go.RowKit Go.Proofs.Ytlgkcpmedjpoaaa Go.Proofs.YtlgkcpmedjpoaaaW.PrintWords Go.Proofs.YtlgkcpmedjpoaaaW.PrintLast Go.Proofs.YtlgkcpmedjpoaaaW.PrintMore
set_option linter.unusedVariables false
set_option linter.unusedSimpArgs false
/-- Frames one behind the other. -/
def frs (ls : List (List Int)) : List Int := (ls.map fr).flatten
theorem frs_nil : frs [] = [] := rfl
theorem frs_cons (y : List Int) (ls : List (List Int)) : frs (y :: ls) = fr y ++ frs ls := by simp [frs]
theorem frs_app (ls ms : List (List Int)) : frs (ls ++ ms) = frs ls ++ frs ms := by simp [frs]
theorem fr_b8 {y : List Int} (h : B8 y) : B8 (fr y) := (four_b8 _).app ((four_b8 _).app h)
theorem frs_b8 {ls : List (List Int)} (h : BB8 ls) : B8 (frs ls) := by
  induction ls with
  | nil => intro x hx; simp [frs] at hx
  | cons y ls ih =>
    rw [frs_cons]
    exact (fr_b8 (h y List.mem_cons_self)).app (ih (fun x hx => h x (List.mem_cons_of_mem _ hx)))
theorem num4_four_app {v : Int} (h : 0 ≤ v ∧ v < 4294967296) (r : List Int) : num4 (four v ++ r) = v := by
  rw [← num4_take, show (four v ++ r).take 4 = four v from by simp [four], num4_four h]
theorem scn_one (l : List Int) (f : Nat) (out : List (List Int)) (a : Nat) (y rest : List Int) (hy : B8 y) (hn : y.length ≤ 2097152) (hd : l.drop a = fr y ++ rest) (ha : a ≤ l.length) :
    scn l (f + 1) out a = scn l f (out ++ [y]) (a + (fr y).length) := by
  have hl : l.length = a + ((fr y).length + rest.length) := by
    have := congrArg List.length hd
    rw [List.length_drop, List.length_append] at this
    omega
  have hf := frame_len y
  have hc := crc_bd ((four_b8 (y.length : Int)).app hy)
  have e0 : l.drop a = four (y.length : Int) ++ (four (crc (four (y.length : Int) ++ y)) ++ (y ++ rest)) := by rw [hd, fr]; simp [List.append_assoc]
  have e4 : l.drop (a + 4) = four (crc (four (y.length : Int) ++ y)) ++ (y ++ rest) := by
    rw [← List.drop_drop, e0]
    rfl
  have e8 : l.drop (a + 8) = y ++ rest := by
    rw [show a + 8 = (a + 4) + 4 from rfl, ← List.drop_drop, e4]
    rfl
  have n0 : num4 (l.drop a) = (y.length : Int) := by rw [e0, num4_four_app (by omega)]
  have n4 : num4 (l.drop (a + 4)) = crc (four (y.length : Int) ++ y) := by rw [e4, num4_four_app hc]
  have t4 : (l.drop a).take 4 = four (y.length : Int) := by rw [e0]; rfl
  rw [scn, n0, n4, t4, e8, Int.toNat_natCast, if_pos (by omega), if_neg (by omega), List.take_left' rfl, if_pos rfl, hf]
  congr 1
  omega
theorem scn_all (l : List Int) : ∀ (ls : List (List Int)) (f : Nat) (out : List (List Int)) (a : Nat) (rest : List Int), BB8 ls → (∀ y ∈ ls, y.length ≤ 2097152) → l.drop a = frs ls ++ rest → a ≤ l.length →
    scn l (f + ls.length) out a = scn l f (out ++ ls) (a + (frs ls).length) := by
  intro ls
  induction ls with
  | nil => intro f out a rest _ _ _ _; simp [frs_nil]
  | cons y ls ih =>
    intro f out a rest hb hn hd ha
    rw [frs_cons, List.append_assoc] at hd
    have hl : l.length = a + ((fr y).length + (frs ls ++ rest).length) := by
      have := congrArg List.length hd
      rw [List.length_drop, List.length_append] at this
      omega
    have e : l.drop (a + (fr y).length) = frs ls ++ rest := by
      rw [← List.drop_drop, hd, List.drop_left' rfl]
    rw [List.length_cons, ← Nat.add_assoc, scn_one l _ out a y _ (hb y List.mem_cons_self) (hn y List.mem_cons_self) hd ha, ih f _ _ rest (fun x hx => hb x (List.mem_cons_of_mem _ hx)) (fun x hx => hn x (List.mem_cons_of_mem _ hx)) e (by omega), frs_cons, List.length_append, Nat.add_assoc, List.append_assoc]
    rfl
/-- A frame that breaks off is no record. -/
theorem scn_torn (l : List Int) (f : Nat) (out : List (List Int)) (a : Nat) (y : List Int) (k : Nat) (hy : B8 y) (hn : y.length ≤ 2097152) (hd : l.drop a = (fr y).take k) (hk : k < (fr y).length) (ha : a ≤ l.length) :
    scn l f out a = (out, a) := by
  cases f with
  | zero => rfl
  | succ f =>
    have hl : l.length = a + k := by
      have := congrArg List.length hd
      rw [List.length_drop, List.length_take] at this
      omega
    have hf := frame_len y
    rw [scn]
    by_cases h8 : 8 ≤ k
    · have n0 : num4 (l.drop a) = (y.length : Int) := by
        rw [hd, ← num4_take, List.take_take, Nat.min_eq_left (by omega), num4_take]
        unfold fr
        rw [num4_four_app (by omega)]
      rw [if_pos (by omega), n0, Int.toNat_natCast, if_pos (by right; omega)]
    · rw [if_neg (by omega)]
/-- Of frames one behind the other and a beginning of one more. -/
theorem scn_frames (ls : List (List Int)) (y : List Int) (k : Nat) (hb : BB8 ls) (hn : ∀ x ∈ ls, x.length ≤ 2097152) (hy : B8 y) (hyn : y.length ≤ 2097152) (hk : k < (fr y).length) (f : Nat) (hf : ls.length ≤ f) :
    scn (frs ls ++ (fr y).take k) f [] 0 = (ls, (frs ls).length) := by
  obtain ⟨d, rfl⟩ : ∃ d, f = d + ls.length := ⟨f - ls.length, by omega⟩
  rw [scn_all _ ls d [] 0 ((fr y).take k) hb hn rfl (Nat.zero_le _), scn_torn _ d _ _ y k hy hyn (by rw [Nat.zero_add, List.drop_left' rfl]) hk (by rw [List.length_append]; omega), List.nil_append, Nat.zero_add]
theorem frs_len_ge (ls : List (List Int)) : 8 * ls.length ≤ (frs ls).length := by
  induction ls with
  | nil => simp [frs]
  | cons y ls ih =>
    rw [frs_cons, List.length_append, frame_len, List.length_cons]
    omega
theorem jl_torn (ls : List (List Int)) (y : List Int) (k : Nat) (hb : BB8 ls) (hn : ∀ x ∈ ls, x.length ≤ 2097152) (hy : B8 y) (hyn : y.length ≤ 2097152) (hk : k < (fr y).length) :
    jl (frs ls ++ (fr y).take k) = ls ∧ jn (frs ls ++ (fr y).take k) = (frs ls).length := by
  have h := frs_len_ge ls
  have := scn_frames ls y k hb hn hy hyn hk ((frs ls ++ (fr y).take k).length + 1) (by rw [List.length_append]; omega)
  unfold jl jn
  rw [this]
  exact ⟨rfl, rfl⟩
theorem jl_all (ls : List (List Int)) (hb : BB8 ls) (hn : ∀ x ∈ ls, x.length ≤ 2097152) : jl (frs ls) = ls ∧ jn (frs ls) = (frs ls).length := by
  have := jl_torn ls [] 0 hb hn (by intro x hx; simp at hx) (by simp) (by rw [frame_len]; omega)
  rwa [List.take_zero, List.append_nil] at this
theorem jl_fr (y : List Int) (hy : B8 y) (hn : y.length ≤ 2097152) : jl (fr y) = [y] ∧ jn (fr y) = (fr y).length := by
  have := jl_all [y] (by intro x hx; rw [List.mem_singleton] at hx; subst hx; exact hy) (by intro x hx; rw [List.mem_singleton] at hx; subst hx; exact hn)
  rwa [frs_cons, frs_nil, List.append_nil] at this
/-- Any beginning of frames is some frames and a beginning of the next. -/
theorem frs_take (ls : List (List Int)) : ∀ k, k ≤ (frs ls).length → ∃ m, m ≤ ls.length ∧ (frs (ls.take m)).length ≤ k ∧ (m = ls.length ∧ k = (frs ls).length ∧ (frs ls).take k = frs ls ∨
    m < ls.length ∧ k < (frs (ls.take m)).length + (fr (ls.getD m [])).length ∧ (frs ls).take k = frs (ls.take m) ++ (fr (ls.getD m [])).take (k - (frs (ls.take m)).length)) := by
  induction ls with
  | nil =>
    intro k hk
    refine ⟨0, Nat.le_refl _, by simp [frs], .inl ⟨rfl, ?_, ?_⟩⟩
    · simp [frs] at hk ⊢; exact hk
    · simp [frs]
  | cons y ls ih =>
    intro k hk
    rw [frs_cons, List.length_append] at hk
    by_cases h : k < (fr y).length
    · refine ⟨0, Nat.zero_le _, by simp [frs], .inr ⟨by simp, by simpa [frs] using h, ?_⟩⟩
      rw [frs_cons, List.take_append_of_le_length (by omega)]
      simp [frs]
    · obtain ⟨m, h1, h2, h3⟩ := ih (k - (fr y).length) (by omega)
      have e : k = (fr y).length + (k - (fr y).length) := by omega
      refine ⟨m + 1, by rw [List.length_cons]; omega, by rw [List.take_succ_cons, frs_cons, List.length_append]; omega, ?_⟩
      rcases h3 with ⟨a, b, c⟩ | ⟨a, b, c⟩
      · left
        refine ⟨by rw [List.length_cons, a], by rw [frs_cons, List.length_append]; omega, ?_⟩
        rw [List.take_of_length_le]
        rw [frs_cons, List.length_append]; omega
      · right
        refine ⟨by rw [List.length_cons]; omega, by rw [List.take_succ_cons, frs_cons, List.length_append]; simp only [List.getD_cons_succ]; omega, ?_⟩
        rw [List.take_succ_cons, frs_cons, frs_cons, List.getD_cons_succ, List.length_append, e, List.take_append, List.take_of_length_le (by omega), show (fr y).length + (k - (fr y).length) - (fr y).length = k - (fr y).length from by omega, c, List.append_assoc]
        congr 3
        omega
end Go.Proofs.Ytlgkcpmedjpoaaa.X
