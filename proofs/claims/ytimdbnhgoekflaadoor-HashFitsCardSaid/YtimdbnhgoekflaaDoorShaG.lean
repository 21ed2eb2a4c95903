/- Small functions of the law and of the document's answer. -/
import Derived.Test.YtimdbnhgoekflaaDoorShaE
import Derived.Test.YtimdbnhgoekflaaDoorShaF
import Derived.Handy
namespace Go.Proofs.YtimdbnhgoekflaaDoor
open Go.RowKit
set_option linter.unusedVariables false

theorem cut_calls (w : World) (A : Option Addr) (n c k : Nat) (b : List Int) (hr : Rd w (.slice A n c) (nums .u8 b)) (hk : k ≤ 4611686018427387904) :
    Calls Tryd.prog 8 #[.slice A n c, .int .i64 (k : Int)] w fun e w' => (∃ m, m = (b.take k).length ∧ e = .returned (.slice A m c) ∧ Rd w (.slice A m c) (nums .u8 (b.take k))) ∧ w = w' := by
  have hnl : n = b.length := by
    obtain ⟨A', c', he, _⟩ := hr
    injection he with _ he _
    rw [he, nums_length]
  have hnc : n ≤ c := by
    obtain ⟨A', c', he, h1, _⟩ := hr
    injection he with _ e2 e3
    omega
  have HR := Lib.hid hr
  have HN := Lib.hid hnl
  clear hr hnl
  by_cases hlt : k < n
  · have hlt' : (k : Int) < (n : Int) := by omega
    have hkc : k ≤ c := by omega
    have hkc' : (k : Int) ≤ (c : Int) := by omega
    have k0 : (0 : Int) ≤ (k : Int) := by omega
    go_enter Tryd.func8, Tryd.ntmps8
    go_wp2
    go_ret
    refine ⟨⟨k, by rw [List.length_take, ← HN.out]; omega, rfl, ?_⟩, rfl⟩
    rw [nums_take]
    exact HR.out.take (Nat.le_of_lt hlt) hkc
  · have hge : (n : Int) ≤ (k : Int) := by omega
    go_enter Tryd.func8, Tryd.ntmps8
    go_wp2
    go_ret
    have ht : b.take k = b := List.take_of_length_le (by rw [← HN.out]; omega)
    rw [ht]
    exact ⟨⟨n, HN.out, rfl, HR.out⟩, rfl⟩

theorem made8 (w : World) (e : Ending) (w' : World) (n a0 a1 a2 a3 a4 a5 a6 a7 : Int) (he : e = .returned (.slice (some ⟨w.heap.size, 0, none⟩) 8 8)) (hw : w' = w.alloc (.cells #[.int .u8 a0, .int .u8 a1, .int .u8 a2, .int .u8 a3, .int .u8 a4, .int .u8 a5, .int .u8 a6, .int .u8 a7] 5)) (hx : [a0, a1, a2, a3, a4, a5, a6, a7] = be8 n) : Made1 w (be8 n) e w' := by
  subst he hw
  rw [← hx]
  exact ⟨_, rfl, Own.lit w _ (Nat.le_refl _) [a0, a1, a2, a3, a4, a5, a6, a7] (by simp), (Below.refl _ _).alloc (Nat.le_refl _) _⟩
set_option maxHeartbeats 1000000 in
theorem refnumber_calls (n : Int) (hn : 0 ≤ n ∧ n ≤ 18446744073709551615) (w : World) :
    Calls Tryd.prog 24 #[.int .u64 n] w (Made1 w (be8 n)) := by
  have hmk : ∀ w, (Instr.makeSlice 22 (.int .i64 8) (.int .i64 8)).run Tryd.prog w = .ok (.slice (some ⟨w.heap.size, 0, none⟩) 8 8) (w.alloc (.cells #[.int .u8 0, .int .u8 0, .int .u8 0, .int .u8 0, .int .u8 0, .int .u8 0, .int .u8 0, .int .u8 0] 5)) := fun _ => by kernel_rfl
  go_enter Tryd.func24, Tryd.ntmps24
  go_wp2
  go_rounds 9
  go_ret
  refine made8 w _ _ n _ _ _ _ _ _ _ _ rfl rfl ?_
  unfold be8; simp only [List.cons.injEq, and_true]; omega
set_option maxHeartbeats 1000000 in
theorem lawnumber_calls (n : Int) (hn : 0 ≤ n ∧ n ≤ 9223372036854775807) (w : World) :
    Calls Tryd.prog 18 #[.int .i64 n] w (Made1 w (be8 n)) := by
  have hmk : ∀ w, (Instr.makeSlice 22 (.int .i64 8) (.int .i64 8)).run Tryd.prog w = .ok (.slice (some ⟨w.heap.size, 0, none⟩) 8 8) (w.alloc (.cells #[.int .u8 0, .int .u8 0, .int .u8 0, .int .u8 0, .int .u8 0, .int .u8 0, .int .u8 0, .int .u8 0] 5)) := fun _ => by kernel_rfl
  obtain ⟨h0, h1⟩ := hn
  have d1 : (0 : Int) ≤ n / 256 := by omega
  have d2 : (0 : Int) ≤ n / 256 / 256 := by omega
  have d3 : (0 : Int) ≤ n / 256 / 256 / 256 := by omega
  have d4 : (0 : Int) ≤ n / 256 / 256 / 256 / 256 := by omega
  have d5 : (0 : Int) ≤ n / 256 / 256 / 256 / 256 / 256 := by omega
  have d6 : (0 : Int) ≤ n / 256 / 256 / 256 / 256 / 256 / 256 := by omega
  have d7 : (0 : Int) ≤ n / 256 / 256 / 256 / 256 / 256 / 256 / 256 := by omega
  go_enter Tryd.func18, Tryd.ntmps18
  go_wp2
  go_rounds 9
  go_ret
  refine made8 w _ _ n _ _ _ _ _ _ _ _ rfl rfl ?_
  unfold be8; simp only [List.cons.injEq, and_true]; omega
end Go.Proofs.YtimdbnhgoekflaaDoor
