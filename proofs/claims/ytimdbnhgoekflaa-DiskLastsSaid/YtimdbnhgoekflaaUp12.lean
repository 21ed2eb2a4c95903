/- The examples at the head of the statements of layer 12. -/
import Derived.Test.YtimdbnhgoekflaaDiskI
namespace Go.Proofs.Ytimdbnhgoekflaa
open Go.RowKit
set_option linter.unusedVariables false

set_option maxHeartbeats 1000000 in
theorem up_calls (w : World) : Calls Try.prog 4 #[] w fun e w' => e = .returned (.bool true) ∧ Below w.heap.size w w' := by
  have ec := eql_code
  go_enter Try.func4, Try.ntmps4
  go_wp2_with fail
  refine (new_inv w w w.heap.size (Below.refl _ _) (Nat.le_refl _) (fun _ => False) (fun _ h => h.elim)).mono ?_
  rintro e w1 ⟨rfl, hd, _⟩
  have HD := Lib.hid hd
  clear hd
  go_wp2_with fail
  refine (append_inv (HD.out.alloc _) (by simp [DS.ok, DS.new]) _ 2 2 [1, 2] (Rd.lit _ .u8 5 [1, 2] (by simp)) rfl (by intro _ e; have := HD.out.lt; simp [Value.ownBlock] at e; omega) (by omega)).mono ?_
  rintro e w2 ⟨he, hd, _⟩
  rw [show errV (DS.appE .new [1, 2]) = .nilIface from rfl] at he
  rw [show DS.app .new [1, 2] = ⟨[1, 2], 0, false, 1, 0⟩ from rfl] at hd
  subst he
  have HD := Lib.hid hd
  clear hd
  go_wp2_with fail
  refine (sync_inv HD.out (by simp [DS.ok])).mono ?_
  rintro e w3 ⟨he, hd, _⟩
  rw [show errV (DS.syncE ⟨[1, 2], 0, false, 1, 0⟩) = .nilIface from rfl] at he
  rw [show DS.sync ⟨[1, 2], 0, false, 1, 0⟩ = ⟨[1, 2], 2, false, 2, 0⟩ from rfl] at hd
  subst he
  have HD := Lib.hid hd
  clear hd
  go_wp2_with fail
  refine (append_inv (HD.out.alloc _) (by simp [DS.ok]) _ 1 1 [3] (Rd.lit _ .u8 5 [3] (by simp)) rfl (by intro _ e; have := HD.out.lt; simp [Value.ownBlock] at e; omega) (by omega)).mono ?_
  rintro e w4 ⟨he, hd, _⟩
  rw [show errV (DS.appE ⟨[1, 2], 2, false, 2, 0⟩ [3]) = .nilIface from rfl] at he
  rw [show DS.app ⟨[1, 2], 2, false, 2, 0⟩ [3] = ⟨[1, 2, 3], 2, false, 3, 0⟩ from rfl] at hd
  subst he
  have HD := Lib.hid hd
  clear hd
  go_wp2_with fail
  refine (cut_inv HD.out 0 (by omega)).mono ?_
  rintro e w5 ⟨he, hd, _⟩
  rw [show errV (DS.cutE ⟨[1, 2, 3], 2, false, 3, 0⟩ 0) = .nilIface from rfl] at he
  rw [show DS.cut ⟨[1, 2, 3], 2, false, 3, 0⟩ 0 = ⟨[1, 2, 3], 2, false, 3, 1⟩ from rfl] at hd
  subst he
  have HD := Lib.hid hd
  clear hd
  go_wp2_with fail
  refine (append_inv (HD.out.alloc _) (by simp [DS.ok]) _ 1 1 [4] (Rd.lit _ .u8 5 [4] (by simp)) rfl (by intro _ e; have := HD.out.lt; simp [Value.ownBlock] at e; omega) (by omega)).mono ?_
  rintro e w6 ⟨he, hd, _⟩
  rw [show errV (DS.appE ⟨[1, 2, 3], 2, false, 3, 1⟩ [4]) = .iface 37 (.int .i64 12) from rfl] at he
  rw [show DS.app ⟨[1, 2, 3], 2, false, 3, 1⟩ [4] = ⟨[1, 2, 3, 4], 2, true, 4, 1⟩ from rfl] at hd
  subst he
  have HD := Lib.hid hd
  clear hd
  go_wp2_with fail
  refine (on_inv HD.out).mono ?_
  rintro e w7 ⟨rfl, rfl⟩
  go_wp2_with fail
  refine (power_inv HD.out (by simp [DS.ok]) 1 (by omega)).mono ?_
  rintro e w8 ⟨he, hd, _⟩
  rw [show DS.power ⟨[1, 2, 3, 4], 2, true, 4, 1⟩ 1 = ⟨[1, 2, 3], 3, false, 4, 0⟩ from rfl] at hd
  subst he
  have HD := Lib.hid hd
  clear hd
  go_wp2_with fail
  refine (read_inv HD.out rfl (by simp [DS.ok])).mono ?_
  rintro e w9 ⟨x, rfl, hx, hxb, hd, _⟩
  obtain ⟨Ax, cx, rfl⟩ := hx.len
  have HX := Lib.hid hx
  have HD := Lib.hid hd
  clear hd hx hxb
  go_wp2_with fail
  refine (trim_inv HD.out (by simp [DS.ok]) 9).mono ?_
  rintro e w10 ⟨he, hd, hs⟩
  rw [show errV (DS.trimE ⟨[1, 2, 3], 3, false, 4, 0⟩ 9) = .iface 37 (.int .i64 1) from rfl] at he
  rw [show DS.trim ⟨[1, 2, 3], 3, false, 4, 0⟩ 9 = ⟨[1, 2, 3], 3, false, 4, 0⟩ from rfl] at hd
  subst he
  have HX := Lib.hid (HX.out.stay hs (fun _ h => .inr h))
  have HD := Lib.hid hd
  clear hd hs
  go_wp2_with fail
  refine (cut_inv HD.out (-1) (by omega)).mono ?_
  rintro e w11 ⟨he, hd, hs⟩
  rw [show errV (DS.cutE ⟨[1, 2, 3], 3, false, 4, 0⟩ (-1)) = .iface 37 (.int .i64 1) from rfl] at he
  subst he
  have HX := Lib.hid (HX.out.stay hs (fun _ h => .inr h))
  have HB := Lib.hid hd.below
  have hstr := HX.out.string (P := Try.prog) Try.underlying22 Try.underlying5 9 Try.underlying9
  rw [show strOfNums [1, 2, 3] = ⟨#[1, 2, 3]⟩ from rfl] at hstr
  clear hd hs
  go_wp2
  go_ret
  exact ⟨rfl, HB.out⟩
end Go.Proofs.Ytimdbnhgoekflaa
