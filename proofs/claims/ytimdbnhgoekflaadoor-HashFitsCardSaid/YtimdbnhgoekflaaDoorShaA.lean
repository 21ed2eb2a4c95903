/- Small functions of the digest: a word that is turned, a number's eight bytes. -/
import Derived.Test.YtimdbnhgoekflaaDoorShaP
import Derived.Handy
namespace Go.Proofs.YtimdbnhgoekflaaDoor
open Go.RowKit
set_option linter.unusedVariables false
theorem ret_int {k : IntKind} {a b : Int} (h : a = b) : Ending.returned (.int k a) = .returned (.int k b) := by rw [h]
theorem rot_mask (n : Nat) (h1 : 1 ≤ n) (h2 : n ≤ 31) : bits .and .u64 (IntKind.u64.wrap (-(n : Int))) 31 = ((32 - n : Nat) : Int) := by
  have : ∀ m : Fin 32, 1 ≤ m.val → bits .and .u64 (IntKind.u64.wrap (-(m.val : Int))) 31 = ((32 - m.val : Nat) : Int) := by decide +kernel
  exact this ⟨n, by omega⟩ h1
theorem rot_calls (x : Int) (hx : W32 x) (c : Int) (n : Nat) (hc : c = -(n : Int)) (h1 : 1 ≤ n) (h2 : n ≤ 31) (w : World) :
    Calls Tryd.prog 26 #[.int .u32 x, .int .i64 c] w fun e w' => e = .returned (.int .u32 (rotr x n)) ∧ w = w' := by
  subst hc
  have hm := rot_mask n h1 h2
  have H := Lib.hid (rot_or x hx n h1 h2)
  go_enter Tryd.func26, Tryd.ntmps26
  go_wp2
  go_ret
  exact ⟨ret_int (by rw [show 32 - (32 - n) = n by omega, ← IntKind.wrap_u32]; exact H.out), rfl⟩

theorem rot_quiet (x : Int) (hx : W32 x) (c : Int) (n : Nat) (hc : c = -(n : Int)) (h1 : 1 ≤ n) (h2 : n ≤ 31) (w : World) {C : World → Prop} (h : C w) :
    Calls Tryd.prog 26 #[.int .u32 x, .int .i64 c] w fun e w'' => e = .returned (.int .u32 (rotr x n)) ∧ C w'' :=
  (rot_calls x hx c n hc h1 h2 _).mono fun _ _ ⟨he, hw⟩ => ⟨he, hw ▸ h⟩
def be8 (n : Int) : List Int := [n / 72057594037927936 % 256, n / 281474976710656 % 256, n / 1099511627776 % 256, n / 4294967296 % 256, n / 16777216 % 256, n / 65536 % 256, n / 256 % 256, n % 256]
set_option maxHeartbeats 1000000 in
theorem number_calls (n : Int) (hn : 0 ≤ n ∧ n ≤ 18446744073709551615) (w : World) :
    Calls Tryd.prog 21 #[.int .u64 n] w fun e w' => e = .returned (.slice (some ⟨w.heap.size, 0, none⟩) 8 8) ∧ Rd w' (.slice (some ⟨w.heap.size, 0, none⟩) 8 8) (nums .u8 (be8 n)) ∧ Below w.heap.size w w' := by
  go_enter Tryd.func21, Tryd.ntmps21
  go_wp2
  go_rounds 9
  go_ret
  refine ⟨rfl, ?_, (Below.refl _ _).alloc (Nat.le_refl _) _⟩
  have h := Rd.lit w .u8 57 (be8 n) (by simp [be8])
  rw [show be8 n = [n / 72057594037927936, n / 281474976710656 % 256, n / 1099511627776 % 256, n / 4294967296 % 256, n / 16777216 % 256, n / 65536 % 256, n / 256 % 256, n % 256] from by
    unfold be8
    rw [Int.emod_eq_of_lt (show 0 ≤ n / 72057594037927936 by omega) (by omega)]] at h ⊢
  exact h
end Go.Proofs.YtimdbnhgoekflaaDoor
