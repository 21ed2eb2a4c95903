/- Stream: its walk. -/
import Derived.Test.YtimdbnhgoekflaaDoorShaD
namespace Go.Proofs.YtimdbnhgoekflaaDoor
open Go.RowKit
set_option linter.unusedVariables false

def rawS (ks : List Int) (s : St) (key : List Int) (i : Nat) : List Int := (List.range i).flatMap fun (j : Nat) => sha ks s (partsB [key, be8 (j : Int)])
theorem rawS_length (ks : List Int) (s : St) (key : List Int) (i : Nat) : (rawS ks s key i).length = 32 * i := by
  induction i with
  | zero => rfl
  | succ i ih =>
    unfold rawS at *
    rw [List.range_succ, List.flatMap_append, List.length_append, ih]
    simp [sha_length]; omega
theorem rawS_next (ks : List Int) (s : St) (key : List Int) (i : Nat) : rawS ks s key (i + 1) = rawS ks s key i ++ sha ks s (partsB [key, be8 (i : Int)]) := by
  unfold rawS
  rw [List.range_succ, List.flatMap_append]
  simp
def stream (ks : List Int) (s : St) (key : List Int) (n : Nat) : List Int := (rawS ks s key ((n + 31) / 32)).take n
theorem rawS_take (ks : List Int) (s : St) (key : List Int) (i d : Nat) : (rawS ks s key (i + d)).take (32 * i) = rawS ks s key i := by
  induction d with
  | zero => exact List.take_of_length_le (by rw [rawS_length]; omega)
  | succ d ih => rw [← Nat.add_assoc, rawS_next, List.take_append_of_le_length (by rw [rawS_length]; omega), ih]
theorem rawS_piece (ks : List Int) (s : St) (key : List Int) (q j : Nat) (hj : j < q) : ((rawS ks s key q).drop (32 * j)).take 32 = sha ks s (partsB [key, be8 (j : Int)]) := by
  obtain ⟨d, rfl⟩ : ∃ d, q = j + 1 + d := ⟨q - (j + 1), by omega⟩
  have h := rawS_take ks s key (j + 1) d
  have h2 : ((rawS ks s key (j + 1 + d)).take (32 * (j + 1))).drop (32 * j) = ((rawS ks s key (j + 1 + d)).drop (32 * j)).take 32 := by
    rw [List.drop_take, show 32 * (j + 1) - 32 * j = 32 by omega]
  rw [← h2, h, rawS_next, List.drop_left' (rawS_length _ _ _ _)]
theorem stream_full (ks : List Int) (s : St) (key : List Int) (q : Nat) : stream ks s key (32 * q) = rawS ks s key q := by
  unfold stream
  rw [show (32 * q + 31) / 32 = q by omega]
  exact List.take_of_length_le (by rw [rawS_length]; omega)
def RelS (w : World) (ks : List Int) (s : St) (key : List Int) (n : Nat) (v i : Value) (wr : World) : Prop :=
  ∃ j A m c, i = .int .u64 (j : Nat) ∧ j ≤ (n + 31) / 32 ∧ v = .slice A m c ∧ Own wr w.heap.size (.slice A m c) (rawS ks s key j) ∧ Below w.heap.size w wr
/-- New bytes read. -/
def RdNew (w' : World) (base : Nat) (v : Value) (xs : List Int) : Prop := Rd w' v (nums .u8 xs) ∧ ∀ k, v.ownBlock = some k → base ≤ k
theorem Rd.two (w : World) (v1 v2 : Value) (p1 p2 : List Int) (h1 : Rd w v1 (nums .u8 p1)) (h2 : Rd w v2 (nums .u8 p2)) (t : TypeId) : RdL (w.alloc (.cells #[v1, v2] t)) (.slice (some ⟨w.heap.size, 0, none⟩) 2 2) [p1, p2] := by
  have hb : Below w.heap.size w (w.alloc (.cells #[v1, v2] t)) := (Below.refl _ _).alloc (Nat.le_refl _) _
  refine ⟨[v1, v2], rfl, ⟨_, 2, rfl, Nat.le_refl _, by simp, fun _ => ⟨_, rfl, by simp, fun j u hu => ?_⟩⟩, fun j p hp => ?_⟩
  · rw [add_plain, cell_of_row _ _ _ _ _ _ (heap_alloc_new w _)]
    simpa using hu
  · match j, hp with
    | 0, hp => injection hp with hp; subst hp; exact ⟨v1, rfl, h1.below hb⟩
    | 1, hp => injection hp with hp; subst hp; exact ⟨v2, rfl, h2.below hb⟩
set_option maxHeartbeats 2000000 in
theorem stream_calls (w : World) (A : Option Addr) (n c : Nat) (key : List Int) (k : Nat) (ks : List Int) (s : St) (hW : s.W) (hr : Rd w (.slice A n c) (nums .u8 key)) (hn : key.length ≤ 549755813888) (hk : k ≤ 1048576) (hB : Bytes key) (hT : Tabs ks s.ws w) :
    Calls Tryd.prog 16 #[.slice A n c, .int .i64 (k : Int)] w fun e w' => ∃ v, e = .returned (.tuple #[v, .nilIface]) ∧ RdNew w' w.heap.size v (stream ks s key k) ∧ Below w.heap.size w w' := by
  have HR := Lib.hid hr
  have HT := Lib.hid hT
  have HKB := Lib.hid hB
  clear hr hT hB
  have g1 : (0 : Int) ≤ (k : Int) := by omega
  have g2 : (k : Int) ≤ 1048576 := by omega
  have d1 : decide ((k : Int) < 0) = false := by simp
  have d2 : decide ((1048576 : Int) < (k : Int)) = false := by simp; omega
  go_enter Tryd.func16, Tryd.ntmps16
  go_wp2
  go_loopw [6, 7] (fun v i wr => RelS w ks s key k v i wr) (fun v _ _ => k - lenOf v)
  case atStart => exact ⟨0, _, _, _, rfl, by omega, rfl, Own.nil _ _, Below.refl _ _⟩
  case round =>
    rename World => w1
    obtain ⟨j, Aj, mj, cj, rfl, hj, rfl, hoj, hbj⟩ := hrel
    have hm : mj = 32 * j := by rw [hoj.len, rawS_length]
    by_cases hlt : mj < k
    · have hlt' : (mj : Int) < (k : Int) := by omega
      have HM := Lib.hid hm
      have HNX := Lib.hid (rawS_next ks s key j)
      have HLE := Lib.hid (rawS_length ks s key j)
      generalize hE : rawS ks s key j = E at *
      have HOJ := Lib.hid hoj
      have HBJ := Lib.hid hbj
      have hj8 : (0 : Int) ≤ (j : Int) ∧ (j : Int) ≤ 18446744073709551615 := by omega
      have hju : IntKind.u64.wrap ((j : Int) + 1) = (j : Int) + 1 := IntWalk.u64_in _ (by omega)
      have HSUM := Lib.hid (show 32 * j < k by omega)
      clear hoj hbj hE hm
      go_wp2_with fail
      refine (number_calls (j : Int) hj8 _).mono ?_
      rintro e w2 ⟨rfl, hr2, hb2⟩
      have HR2 := Lib.hid hr2
      have HB2 := Lib.hid (HBJ.out.trans (hb2.mono HBJ.out.size))
      have HKR := Lib.hid (HR.out.below HB2.out)
      have HO2 := Lib.hid (HOJ.out.below hb2)
      clear hr2 hb2
      go_wp2_with fail
      have HB3 := Lib.hid (HB2.out.alloc HB2.out.size (.cells #[.slice A n c, .slice (some ⟨w1.heap.size, 0, none⟩) 8 8] 22))
      have HO3 := Lib.hid (HO2.out.alloc (.cells #[.slice A n c, .slice (some ⟨w1.heap.size, 0, none⟩) 8 8] 22))
      have HRL := Lib.hid (Rd.two w2 _ _ _ _ HKR.out HR2.out 22)
      refine (parts_calls _ _ _ _ [key, be8 (j : Int)] ks s hW HRL.out (by simp [partsB, be8]; omega) (by intro p hp; simp only [List.mem_cons, List.not_mem_nil, or_false] at hp; rcases hp with rfl | rfl; exact HKB.out; exact be8_B _) (HT.out.below HB3.out)).mono ?_
      rintro e w4 ⟨v, rfl, hov, hbv⟩
      obtain ⟨A4, c4, rfl⟩ := hov.slice
      have HO4 := Lib.hid (HO3.out.below hbv)
      have HV4 := Lib.hid hov.rd
      have HB4 := Lib.hid (HB3.out.trans (hbv.mono HB3.out.size))
      have HS4 := Lib.hid (show E.length + (sha ks s (partsB [key, be8 (j : Int)])).length ≤ 140737488355328 by rw [HLE.out, sha_length]; have := HSUM.out; omega)
      have HL4 := Lib.hid (sha_length ks s (partsB [key, be8 (j : Int)]))
      clear hov hbv
      generalize sha ks s (partsB [key, be8 (j : Int)]) = X at *
      go_wp2_with (at_builtin; refine wpList_app8 rfl _ _ rfl w.heap.size _ _ (by rfl) HO4.out _ _ (by rfl) HV4.out HS4.out HB4.out.size ?_)
      intro A5 m5 c5 w5 hm5 hown hk5 _ _
      have HOW5 := Lib.hid (show Own w5 w.heap.size _ (rawS ks s key (j + 1)) by rw [HNX.out]; exact hown)
      have HB5 := Lib.hid (hk5 w.heap.size w (Nat.le_refl _) HB4.out)
      have HM5 := Lib.hid (HOW5.out.len)
      clear hown hk5 hm5
      go_wp2
      go_roundw
      case rel => exact ⟨j + 1, _, _, _, by go_num, by have := HSUM.out; omega, rfl, HOW5.out, HB5.out⟩
      case measure =>
        have h1 := HM5.out
        rw [rawS_length] at h1
        have h2 := HM.out
        simp only [lenOf]
        omega
    · have hge : (k : Int) ≤ (mj : Int) := by omega
      have hge2 : k ≤ mj := by omega
      have hjj : j = (k + 31) / 32 := by omega
      have HST := Lib.hid (show stream ks s key k = (rawS ks s key j).take k by rw [hjj]; rfl)
      have HOJ := Lib.hid hoj
      have HBJ := Lib.hid hbj
      have hcc : mj ≤ cj := by
        obtain ⟨A', c', he, h1, _⟩ := hoj.rd
        injection he with _ e2 e3
        omega
      have hkc : k ≤ cj := by omega
      have hkc' : (k : Int) ≤ (cj : Int) := by omega
      clear hoj hbj hjj hm
      go_wp2_with fail
      go_ret2
      refine ⟨.slice Aj k k, rfl, ⟨?_, fun i hi => (HOJ.out.lo i (by cases Aj <;> exact hi)).1⟩, HBJ.out⟩
      rw [HST.out, nums_take]
      exact HOJ.out.rd.take hge2 (Nat.le_refl _)
set_option maxHeartbeats 2000000 in
theorem stream_err (w : World) (v : Value) (k : Int) (hk : k < 0 ∨ 1048576 < k) :
    Calls Tryd.prog 16 #[v, .int .i64 k] w fun e w' => e = .returned (.tuple #[.slice none 0 0, .iface 40 (.int .i64 1)]) ∧ w = w' := by
  rcases hk with hk | hk
  · have d1 : decide (k < 0) = true := by simp; omega
    go_enter Tryd.func16, Tryd.ntmps16
    go_wp2
    go_ret2
    exact ⟨rfl, rfl⟩
  · have d1 : decide (k < 0) = false := by simp; omega
    have d2 : decide (1048576 < k) = true := by simp; omega
    have d3 : 0 ≤ k := by omega
    go_enter Tryd.func16, Tryd.ntmps16
    go_wp2
    go_ret2
    exact ⟨rfl, rfl⟩
end Go.Proofs.YtimdbnhgoekflaaDoor
