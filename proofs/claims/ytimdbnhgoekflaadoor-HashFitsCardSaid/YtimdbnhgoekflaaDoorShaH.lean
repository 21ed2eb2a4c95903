/- The law's digits. -/
import Derived.Test.YtimdbnhgoekflaaDoorShaG
import Derived.BigQuiet
import Derived.Deep.QuietTactic
namespace Go.Proofs.YtimdbnhgoekflaaDoor
open Go.RowKit
set_option linter.unusedVariables false

def hexd : ByteArray := ⟨#[48, 49, 50, 51, 52, 53, 54, 55, 56, 57, 97, 98, 99, 100, 101, 102]⟩
def dig (q : Nat) : ByteArray := ⟨#[hexd.data.getD q 0]⟩
theorem dig_slice (q : Nat) (hq : q < 16) (w : World) : (Instr.slice 9 (.string ⟨#[48, 49, 50, 51, 52, 53, 54, 55, 56, 57, 97, 98, 99, 100, 101, 102]⟩) (some (.int .u8 (q : Int))) (some (.int .u8 ((q : Int) + 1))) none).run Tryd.prog w = .ok (.string (dig q)) w := by
  rcases (show q = 0 ∨ q = 1 ∨ q = 2 ∨ q = 3 ∨ q = 4 ∨ q = 5 ∨ q = 6 ∨ q = 7 ∨ q = 8 ∨ q = 9 ∨ q = 10 ∨ q = 11 ∨ q = 12 ∨ q = 13 ∨ q = 14 ∨ q = 15 by omega) with rfl | rfl | rfl | rfl | rfl | rfl | rfl | rfl | rfl | rfl | rfl | rfl | rfl | rfl | rfl | rfl <;> kernel_rfl
theorem dig_slice' (x : Int) (h0 : 0 ≤ x) (h1 : x < 16) (w : World) : (Instr.slice 9 (.string ⟨#[48, 49, 50, 51, 52, 53, 54, 55, 56, 57, 97, 98, 99, 100, 101, 102]⟩) (some (.int .u8 x)) (some (.int .u8 (x + 1))) none).run Tryd.prog w = .ok (.string (dig x.toNat)) w := by
  obtain ⟨q, rfl⟩ := Int.eq_ofNat_of_zero_le h0
  exact dig_slice q (by omega) w
def hexB : List Int → ByteArray → ByteArray
  | [], s => s
  | x :: l, s => hexB l (s ++ dig (x / 16).toNat ++ dig (x % 16).toNat)
def RelH (w : World) (b : List Int) (s i : Value) (wr : World) : Prop :=
  ∃ (j : Nat) (t : ByteArray), i = .int .i64 (j : Nat) ∧ j ≤ b.length ∧ s = .string t ∧ t.size = 2 * j ∧ hexB (b.drop j) t = hexB b ⟨#[]⟩ ∧ ∃ m, wr = w.drewN m
set_option maxHeartbeats 1000000 in
theorem hex_calls (w : World) (A : Option Addr) (n c : Nat) (b : List Int) (hr : Rd w (.slice A n c) (nums .u8 b)) (hn : b.length ≤ 100000) (hB : Bytes b) :
    Calls Tryd.prog 19 #[.slice A n c] w fun e w' => e = .returned (.string (hexB b ⟨#[]⟩)) ∧ ∃ m, w' = w.drewN m := by
  have hnl : n = b.length := by
    obtain ⟨A', c', he, _⟩ := hr
    injection he with _ he _
    rw [he, nums_length]
  have HR := Lib.hid hr
  have HN := Lib.hid hnl
  have HB := Lib.hid hB
  clear hr hnl hB
  go_enter Tryd.func19, Tryd.ntmps19
  go_wp2
  go_loopw [4, 5] (fun s i wr => RelH w b s i wr) (fun _ i _ => n - (intOf i).toNat)
  case atStart => exact ⟨0, _, rfl, by omega, rfl, rfl, by simp, 0, rfl⟩
  case round =>
    obtain ⟨j, t, rfl, hj, rfl, ht, hh, m, rfl⟩ := hrel
    by_cases hlt : j < n
    · have hlt' : (j : Int) < (n : Int) := by omega
      have j0 : (0 : Int) ≤ (j : Int) := by omega
      obtain ⟨ad, rfl, hc⟩ := HR.out.at_ j (by rw [← HN.out]; exact hlt)
      have hx := HB.out.at_ j
      have HD := Lib.hid (show b.drop j = b.getD j 0 :: b.drop (j + 1) by
        rw [List.drop_eq_getElem_cons (by rw [← HN.out]; exact hlt)]; simp [List.getD_eq_getElem?_getD, show j < b.length by rw [← HN.out]; exact hlt])
      generalize b.getD j 0 = x at *
      have hs1 := fun w => dig_slice' (x / 16) (by omega) (by omega) w
      have hs2 := fun w => dig_slice' (x % 16) (by omega) (by omega) w
      have hw1 : IntKind.u8.wrap (x / 16 + 1) = x / 16 + 1 := IntWalk.u8_in _ (by omega)
      have hw2 : IntKind.u8.wrap (x % 16 + 1) = x % 16 + 1 := IntWalk.u8_in _ (by omega)
      have hd1 : (dig (x / 16).toNat).size = 1 := rfl
      have hd2 : (dig (x % 16).toNat).size = 1 := rfl
      have HX := Lib.hid (show hexB (x :: b.drop (j + 1)) t = hexB (b.drop (j + 1)) (t ++ dig (x / 16).toNat ++ dig (x % 16).toNat) from rfl)
      generalize dig (x / 16).toNat = D1 at *
      generalize dig (x % 16).toNat = D2 at *
      have hj5 : j ≤ 100000 := by omega
      have ha1 := fun w => run_string_add_sum (P := Tryd.prog) (w := w) t D1 (by omega)
      have ha2 := fun w => run_string_add_sum (P := Tryd.prog) (w := w) (t ++ D1) D2 (by rw [ByteArray.size_append]; omega)
      have HH := Lib.hid hh
      have HT := Lib.hid ht
      clear hh ht
      go_wp2
      go_quiet (fail)
      go_wp2
      go_roundw
      case rel =>
        refine ⟨j + 1, _, by go_num, by rw [← HN.out]; omega, rfl, ?_, ?_, _, rfl⟩
        · rw [ByteArray.size_append, ByteArray.size_append, HT.out, hd1, hd2]; omega
        · rw [← HX.out, ← HD.out, HH.out]
      case measure => simp [intOf]; omega
    · have hge : (n : Int) ≤ (j : Int) := by omega
      go_wp2
      go_ret
      have : hexB b ⟨#[]⟩ = t := by
        rw [← hh, List.drop_eq_nil_of_le (by rw [← HN.out]; omega)]
        rfl
      exact ⟨by rw [this]; rfl, m, rfl⟩
end Go.Proofs.YtimdbnhgoekflaaDoor
