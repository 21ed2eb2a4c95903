/- The disk's other methods: what each leaves. -/
import Derived.Test.YtlgkcpmedjpoaaaDisk
import Derived.WalkSpells
import Derived.Deep.QuietTactic
import Derived.BigQuiet
import Derived.StillTailTactics
namespace Go.Proofs.Ytlgkcpmedjpoaaa
open Go.RowKit
set_option linter.unusedVariables false

def DS.new : DS := ⟨[], 0, false, 0, 0⟩
set_option maxHeartbeats 400000 in
theorem new_calls (w : World) : Calls Try.prog 18 #[] w fun e w' => e = .returned (.pointer (some ⟨w.heap.size, 0, none⟩)) ∧ DiskAt w' w.heap.size w.heap.size (.slice none 0 0) .new ∧ Keeps (fun _ => False) w w' := by
  go_enter Try.func18, Try.ntmps18
  go_wp2
  go_ret
  exact ⟨rfl, ⟨heap_alloc_new w _, World.ownsRow_nil _ _ _ _, Nat.le_refl _⟩, (Keeps.refl _ _).alloc _⟩

set_option maxHeartbeats 400000 in
theorem on_calls (base g : Nat) (v : Value) (S : DS) (w : World) (h : DiskAt w base g v S) :
    Calls Try.prog 33 #[.pointer (some ⟨g, 0, none⟩)] w fun e w' => e = .returned (.bool (!S.off)) ∧ w = w' := by
  obtain ⟨c0, c1, c2, c3, c4⟩ := h.cell
  clear h
  go_enter Try.func33, Try.ntmps33
  go_wp2
  go_ret
  exact ⟨rfl, rfl⟩

def DS.cut (S : DS) (n : Int) : DS := if n < 0 then S else if S.off then S else { S with left := n + 1 }
def DS.cutE (S : DS) (n : Int) : Int := if n < 0 then 1 else if S.off then 12 else 0
set_option maxHeartbeats 400000 in
theorem cut_calls (base g : Nat) (v : Value) (S : DS) (w : World) (h : DiskAt w base g v S) (n : Int) (hn : n < 1000000) :
    Calls Try.prog 28 #[.pointer (some ⟨g, 0, none⟩), .int .i64 n] w fun e w' => e = .returned (errV (S.cutE n)) ∧ DiskAt w' base g v (S.cut n) ∧ Keeps (fun k => k = g) w w' := by
  obtain ⟨c0, c1, c2, c3, c4⟩ := h.cell
  have f4 := h.free 4
  have H := Lib.hid h
  clear h
  by_cases hneg : n < 0
  · have e1 : S.cut n = S := by simp [DS.cut, hneg]
    have e2 : errV (S.cutE n) = .iface 45 (.int .i64 1) := by simp [DS.cutE, errV, hneg]
    have E1 := Lib.hid e1
    have E2 := Lib.hid e2
    clear e1 e2
    go_enter Try.func28, Try.ntmps28
    go_wp2
    go_ret
    rw [E1.out, E2.out]
    exact ⟨rfl, H.out, Keeps.refl _ _⟩
  · have hnn : 0 ≤ n := by omega
    cases hf : S.off
    · have e1 : S.cut n = { S with left := n + 1 } := by simp [DS.cut, hneg, hf]
      have e2 : errV (S.cutE n) = .nilIface := by simp [DS.cutE, errV, hneg, hf]
      have E1 := Lib.hid e1
      have E2 := Lib.hid e2
      rw [hf] at c2
      clear e1 e2 hneg hf
      go_enter Try.func28, Try.ntmps28
      go_wp2
      go_ret
      rw [E1.out, E2.out]
      exact ⟨rfl, H.out.set4 _, keeps_g _ _ _ _⟩
    · have e1 : S.cut n = S := by simp [DS.cut, hneg, hf]
      have e2 : errV (S.cutE n) = cut12 := by simp [DS.cutE, errV, cut12, hneg, hf]
      have E1 := Lib.hid e1
      have E2 := Lib.hid e2
      rw [hf] at c2
      clear e1 e2 hneg hf
      go_enter Try.func28, Try.ntmps28
      go_wp2
      go_ret
      rw [E1.out, E2.out]
      exact ⟨rfl, H.out, Keeps.refl _ _⟩

/-- What a copy of bytes leaves: new bytes. -/
def BytesLeft (w : World) (xs : List Int) (v : Value) (w' : World) : Prop :=
  w'.ownsRow w.heap.size 5 1 v xs.length (numv .u8 xs) ∧ Below w.heap.size w w'
def Returns1 (R : Value → World → Prop) (e : Ending) (w' : World) : Prop := ∃ v, e = .returned v ∧ R v w'

set_option maxHeartbeats 400000 in
theorem clone_calls (A : Option Addr) (n c : Nat) (xs : List Int) (w : World) (hr : Rd w (.slice A n c) (numv .u8 xs)) (hm : n ≤ 140737488351232) :
    Calls Try.prog 37 #[.slice A n c] w (Returns1 (BytesLeft w xs)) := by
  have hl : n = xs.length := by
    obtain ⟨A', c', he, _⟩ := hr
    injection he with _ he _
    rw [he, numv_length]
  have HR := Lib.hid hr
  have HL := Lib.hid hl
  clear hr hl
  cases A with
  | none =>
    have hx : xs = [] := by
      rcases Nat.eq_zero_or_pos xs.length with h0 | h0
      · exact List.eq_nil_of_length_eq_zero h0
      · obtain ⟨A', c', he, _, _, h⟩ := HR.out
        obtain ⟨ad, ha, _⟩ := h (by rw [numv_length]; exact h0)
        injection he with he _ _
        rw [ha] at he
        cases he
    have HX := Lib.hid hx
    clear hx
    have hq := fun (w : World) => Lib.run_eql_slice_nil (P := Try.prog) w 22 5 none n c 0 0 Try.underlying22
    go_enter Try.func37, Try.ntmps37
    go_wp2
    go_ret
    rw [HX.out]
    exact ⟨_, rfl, World.ownsRow_nil _ _ _ _, Below.refl _ _⟩
  | some ad =>
    have hq := fun (w : World) => Lib.run_eql_slice_nil (P := Try.prog) w 22 5 (some ad) n c 0 0 Try.underlying22
    have hb : (0 + (numv .u8 xs).length) * 1 ≤ 140737488355328 := by rw [numv_length, ← HL.out]; omega
    have HB := Lib.hid hb
    have hbel : Below w.heap.size w (w.alloc (.cells #[] 5)) := (Below.refl _ _).alloc (Nat.le_refl _) _
    have HBEL := Lib.hid hbel
    have HR1 := Lib.hid (HR.out.below hbel)
    have HO := Lib.hid (World.ownsRow_made (e := 5) (size := 1) w #[] 0 (Nat.le_refl _) (by simp [maxLen]) (by simp))
    clear hb hbel
    go_enter Try.func37, Try.ntmps37
    go_wp2_with (at_builtin; refine wpList_app _ rfl _ _ _ rfl w.heap.size 5 (.int .u8 0) 1 Try.underlying22 u8_info rfl _ _ _ (by rfl) HO.out _ _ (by rfl) HR1.out (numv_one _ _) HB.out (by omega) (by simp) ?_)
    intro A' c' w2 hown hg hat
    have hbw : Below w.heap.size w w2 := HBEL.out.grown hg (by simp) (fun k hk => by simp [Value.ownBlock] at hk; omega)
    have HO2 := Lib.hid hown
    have HW := Lib.hid hbw
    clear hown hg hat hbw
    go_wp2
    go_ret
    refine ⟨_, rfl, ?_, HW.out⟩
    have := HO2.out
    simpa [numv_length] using this
end Go.Proofs.Ytlgkcpmedjpoaaa
