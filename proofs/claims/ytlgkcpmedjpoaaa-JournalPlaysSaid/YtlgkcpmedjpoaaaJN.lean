/- Leaves of the journal: the contracts of slices.Grow (of nothing), slices.Concat and slices.Clone over bytes, in the printed texts' form. -/
import Derived.Test.YtlgkcpmedjpoaaaKd
import Derived.Handy
import Derived.Lib.AppendZerosOnto
import Derived.Lib.LazyBuf
namespace Go.Proofs.Ytlgkcpmedjpoaaa.X
open Go.RowKit Go.Proofs.Ytlgkcpmedjpoaaa Go.Proofs.YtlgkcpmedjpoaaaW.PrintWords Go.Proofs.YtlgkcpmedjpoaaaW.PrintLast Go.Proofs.YtlgkcpmedjpoaaaW.PrintMore
set_option linter.unusedVariables false
set_option linter.unusedSimpArgs false
theorem u8_info : (Try.prog.info? 5).map (fun i => (i.zero, i.size, i.bytes)) = some (some (.int .u8 0), 1, 1) := by kernel_rfl
set_option maxHeartbeats 1000000 in
theorem grow_calls (n : Nat) (w : World) (hn : n ≤ 100000000000000) :
    Calls Try.prog 44 #[.slice none 0 0, .int .i64 (n : Int)] w fun e w' => ∃ v, e = .returned v ∧ w'.ownsRow w.heap.size 5 1 v 0 [] ∧ Below w.heap.size w w' := by
  obtain ⟨i0, hi, hz0, hz1, hz2⟩ := info_parts u8_info
  rcases Nat.eq_zero_or_pos n with h0 | h0
  · subst h0
    go_enter Try.func44, Try.ntmps44
    go_wp2
    go_ret
    exact ⟨_, rfl, World.ownsRow_nil _ _ _ _, Below.refl _ _⟩
  · have hold : (Builtin.firstCells i0.size 0 (.slice none 0 0)).run Try.prog w.drew = .ok (([] : List Value).toArray) w.drew := run_firstCells_none w.drew i0.size 0 0 0
    have hrz : ∀ ty, (Builtin.append_ #[22, 3] ty #[.slice none 0 0, .int .i64 (n : Int)]).run Try.prog w =
        .ok (.slice (some ⟨w.heap.size, 0, none⟩) (0 + n) (grownCap w (0 + n) 0 5)) (w.drew.alloc (.cells (([] : List Value).toArray ++ Builtin.zeroCells (Value.int .u8 0).cells n ++ Builtin.zeroCells (Value.int .u8 0).cells (grownCap w (0 + n) 0 5 - (0 + n))) 5)) := fun ty =>
      Lib.run_append_grow_zeros w 22 3 ty 5 i0 (.int .u8 0) .i64 .i64 Try.underlying22 Try.underlying3 hi hz0 none 0 0 [] hold n (by omega) (by rw [hz1]; decide) (by omega) (by omega) (by rw [hz2]; omega) (by rw [hz2]; exact growslice_fits (by omega) (by omega))
    have hG := grownCap_ge w (0 + n) 0 5
    have hG2 := grownCap_le_maxLen w (0 + n) 0 5 (by simp only [maxLen]; omega)
    generalize grownCap w (0 + n) 0 5 = G at *
    rw [Nat.zero_add] at hrz hG
    have h1 : (0 : Int) < (n : Int) := by omega
    have h2 : (n : Int) ≤ 100000000000000 := by omega
    clear hold
    go_enter Try.func44, Try.ntmps44
    go_wp2_with (at_builtin; refine Lib.wpList_append_run _ rfl _ _ _ _ rfl _ _ rfl rfl _ _ (hrz _) ?_)
    all_goals
      go_ret
      exact ⟨_, rfl, World.ownsRow_made (e := 5) (size := 1) w.drew _ G (by simp) hG2 (by simp [Builtin.zeroCells]; omega), ((Below.refl _ _).drew).alloc (by simp) _⟩
/-- All bytes, one row behind the other. -/
def slices_Concat_byte_byte.f (l : List (List Int)) : Option (List Int) := if l.flatten.length ≤ 100000000000000 then some l.flatten else none
theorem flat_take (l : List (List Int)) (k : Nat) (h : k < l.length) : (l.take (k + 1)).flatten = (l.take k).flatten ++ l.getD k [] := by
  rw [List.take_succ_eq_append_getElem h, List.flatten_append, List.flatten_singleton, List.getD_eq_getElem?_getD, List.getElem?_eq_getElem h]
  rfl
theorem flat_take_le (l : List (List Int)) (k : Nat) : (l.take k).flatten.length ≤ l.flatten.length := by
  conv => rhs; rw [← List.take_append_drop k l]
  rw [List.flatten_append, List.length_append]
  omega
/-- A row of rows that is read: one of them. -/
theorem C_row {e : Nat} {w : World} {A : Option Addr} {n : Nat} {l : List (List Int)} (h : Kd.C (Kd.slice e (Kd.int .u8)) w A n l) (k : Nat) (hk : k < n) :
    ∃ ad B c, A = some ad ∧ w.cell? (ad.add k) = some (.slice B (l.getD k []).length c) ∧ Rd w (.slice B (l.getD k []).length c) (numv .u8 (l.getD k [])) := by
  obtain ⟨ad, cs, hA, _, ⟨B, c, hcs, hle, hC⟩, hcell⟩ := Kd.C_get h [] (k : Int) (by omega) (by omega)
  rw [Int.toNat_natCast] at hC hcs hle hcell
  have h1 := hcell 0 _ (by rw [hcs]; rfl)
  refine ⟨ad, B, c, hA, ?_, rd_of_C hC hle⟩
  rw [show k * (Kd.slice e (Kd.int .u8)).sz + 0 = k from Nat.mul_one k] at h1
  exact h1
def RelS (l : List (List Int)) (x i : Value) : Prop := ∃ k : Nat, i = .int .i64 (k : Int) ∧ k ≤ l.length ∧ x = .int .i64 ((l.take k).flatten.length : Int)
def RelA (w : World) (l : List (List Int)) (v i : Value) (wr : World) : Prop := ∃ k : Nat, i = .int .i64 (k : Int) ∧ k ≤ l.length ∧ wr.ownsRow w.heap.size 5 1 v (l.take k).flatten.length (numv .u8 (l.take k).flatten) ∧ Below w.heap.size w wr
set_option maxHeartbeats 2000000 in
theorem slices_Concat_byte_byte.calls (A0 : Option Addr) (c0 : Nat) (l0 : List (List Int)) (r : List Int) (w : World) (hr0 : Kd.C (Kd.slice 5 (Kd.int .u8)) w A0 l0.length l0) (hc0 : l0.length ≤ c0) (h : slices_Concat_byte_byte.f l0 = some r) :
    Calls Try.prog 35 #[.slice A0 l0.length c0] w fun e w' => ∃ v0_ : Value, e = .returned (v0_) ∧ Kd.R (Kd.int .u8) 5 w' w.heap.size (fun _ => True) v0_ r ∧ Below w.heap.size w w' := by
  unfold slices_Concat_byte_byte.f at h
  split at h
  case isFalse => cases h
  case isTrue hb =>
  injection h with h
  subst h
  have hm : l0.length ≤ 9223372036854775807 := hr0.2.1
  obtain ⟨n, hn⟩ : ∃ n, l0.length = n := ⟨_, rfl⟩
  rw [hn] at hr0 hc0 hm ⊢
  have HN := Lib.hid hn
  have HR := Lib.hid hr0
  have HB := Lib.hid hb
  clear hr0 hb hn
  go_enter Try.func35, Try.ntmps35
  go_wp2
  go_loop [3, 11] (fun x i => RelS l0 x i) (fun _ i => n - (intOf i).toNat)
  case atStart => exact ⟨0, rfl, Nat.zero_le _, rfl⟩
  case round =>
    obtain ⟨k, rfl, hk, rfl⟩ := hrel
    by_cases hlt : k < n
    · obtain ⟨ad, B, c, e1, hcell, hrd⟩ := C_row HR.out k hlt
      subst e1
      have hft := flat_take l0 k (by rw [HN.out]; exact hlt)
      have hle1 := flat_take_le l0 (k + 1)
      have hlen : (l0.take (k + 1)).flatten.length = (l0.take k).flatten.length + (l0.getD k []).length := by rw [hft, List.length_append]
      have hbb := HB.out
      generalize (l0.getD k []).length = m at *
      have HNX := Lib.hid (show RelS l0 (.int .i64 (((l0.take k).flatten.length : Int) + (m : Int))) (.int .i64 ((k + 1 : Nat) : Int)) from ⟨k + 1, rfl, by rw [HN.out]; omega, by rw [hlen, Int.natCast_add]⟩)
      have b1 : ((l0.take k).flatten.length : Int) + (m : Int) ≤ 100000000000000 := by omega
      have b2 : (0 : Int) ≤ ((l0.take k).flatten.length : Int) + (m : Int) := by omega
      clear hft hle1 hlen hbb hrd
      generalize (l0.take k).flatten.length = s at *
      have k1 : (k : Int) < (n : Int) := by omega
      go_wp2
      go_round
      case rel => exact HNX.out
      case measure => simp [intOf]; omega
    · have hkn : k = n := by have := HN.out; omega
      obtain ⟨T, hT⟩ : ∃ T, (l0.take k).flatten.length = T := ⟨_, rfl⟩
      rw [hT]
      have hT2 : T ≤ 100000000000000 := by have := flat_take_le l0 k; have := HB.out; omega
      have HG := Lib.hid (grow_calls T w hT2)
      clear hT
      subst hkn
      go_wp2_with (go_at_call 44; (with_reducible refine HG.out.mono ?_); rintro e w2 ⟨v, rfl, ho, hb2⟩; obtain ⟨A6, c6, rfl⟩ := ownSlice ho; have HO := Lib.hid ho; have HB2 := Lib.hid hb2; clear ho hb2)
      have HR2 := Lib.hid (Kd.C_below HR.out HB2.out)
      go_loopw [6, 27] (fun v i wr => RelA w l0 v i wr) (fun _ i _ => k - (intOf i).toNat)
      case atStart => exact ⟨0, rfl, Nat.zero_le _, HO.out, HB2.out⟩
      case round =>
        obtain ⟨j, rfl, hj, ho, hb⟩ := hrel
        obtain ⟨A7, c7, rfl⟩ := ownSlice ho
        by_cases hlt : j < k
        · obtain ⟨ad, B, c, e1, hcell, hrd⟩ := C_row (Kd.C_below HR.out hb) j hlt
          subst e1
          have hft := flat_take l0 j (by rw [HN.out]; exact hlt)
          have hle1 := flat_take_le l0 (j + 1)
          have hlen : (l0.take (j + 1)).flatten.length = (l0.take j).flatten.length + (l0.getD j []).length := by rw [hft, List.length_append]
          have hbb := HB.out
          have HY := Lib.hid (show ((l0.take j).flatten.length + (numv .u8 (l0.getD j [])).length) * 1 ≤ 140737488355328 by rw [numv_length]; omega)
          have HNX := fun (v : Value) (w3 : World) (ho3 : w3.ownsRow w.heap.size 5 1 v ((l0.take j).flatten.length + (numv .u8 (l0.getD j [])).length) (numv .u8 (l0.take j).flatten ++ numv .u8 (l0.getD j []))) (hb3 : Below w.heap.size w w3) =>
            (show RelA w l0 v (.int .i64 ((j + 1 : Nat) : Int)) w3 from ⟨j + 1, rfl, by rw [HN.out]; omega, by rw [hlen, hft, numv_append, ← numv_length .u8 (l0.getD j [])]; exact ho3, hb3⟩)
          have HNX := Lib.hid HNX
          have HO7 := Lib.hid ho
          have HB7 := Lib.hid hb
          have HRD := Lib.hid hrd
          have HSZ := Lib.hid hb.size
          have HLT := Lib.hid (ho.lt)
          clear hft hle1 hlen hbb hrd ho hb
          generalize l0.getD j [] = y at *
          generalize (l0.take j).flatten = z at *
          have k1 : (j : Int) < (k : Int) := by omega
          go_wp2_with (at_builtin; refine wpList_app _ rfl _ _ _ rfl w.heap.size 5 (.int .u8 0) 1 Try.underlying22 u8_info rfl _ _ _ (by rfl) HO7.out _ (numv .u8 y) (by rfl) HRD.out (numv_one _ _) HY.out (by omega) HSZ.out ?_)
          intro A8 c8 w3 ho3 hg3 hat3
          have HX := Lib.hid (HNX.out _ w3 ho3 (HB7.out.grown hg3 HSZ.out (fun b hb => (HLT.out b hb).1)))
          clear ho3 hg3 hat3
          go_wp2
          go_round
          case rel => exact HX.out
          case measure => simp [intOf]; omega
        · have hjk : j = k := by have := HN.out; omega
          subst hjk
          have hfull : l0.take j = l0 := List.take_of_length_le (by rw [HN.out]; exact Nat.le_refl _)
          rw [hfull] at ho
          have HO7 := Lib.hid (R_of_ownN (ok := fun _ => True) ho rfl (fun _ _ => trivial))
          have HB7 := Lib.hid hb
          have HF := Lib.hid hfull
          clear ho hb hfull
          go_wp2
          go_ret
          rw [HF.out]
          exact ⟨_, rfl, HO7.out, HB7.out⟩
def slices_Clone_byte_byte.f (l : List Int) : Option (List Int) := if l.length ≤ 100000000000000 then some l else none
theorem slices_Clone_byte_byte.calls (A0 : Option Addr) (c0 : Nat) (l0 : List Int) (r : List Int) (w : World) (hr0 : Kd.C (Kd.int .u8) w A0 l0.length l0) (hc0 : l0.length ≤ c0) (h : slices_Clone_byte_byte.f l0 = some r) :
    Calls Try.prog 37 #[.slice A0 l0.length c0] w fun e w' => ∃ v0_ : Value, e = .returned (v0_) ∧ Kd.R (Kd.int .u8) 5 w' w.heap.size (fun _ => True) v0_ r ∧ Below w.heap.size w w' := by
  unfold slices_Clone_byte_byte.f at h
  split at h
  case isFalse => cases h
  case isTrue hc =>
  injection h with h
  subst h
  have hn := rd_of_C hr0 hc0
  rcases A0 with _ | ad
  · have h0 : l0 = [] := by
      rcases Nat.eq_zero_or_pos l0.length with h0 | h0
      · exact List.eq_nil_of_length_eq_zero h0
      · obtain ⟨ad, ha, _⟩ := hr0.2.2 h0
        cases ha
    subst h0
    have hq := fun (W : World) => Go.run_eql_slice_nil (P := Try.prog) W 22 5 none 0 c0 Try.underlying22
    go_enter Try.func37, Try.ntmps37
    go_wp2
    go_ret
    exact ⟨_, rfl, Kd.R_nil _ _ _ _ _, Below.refl _ _⟩
  · have hq := fun (W : World) => Go.run_eql_slice_nil (P := Try.prog) W 22 5 (some ad) l0.length c0 Try.underlying22
    have HN := Lib.hid hn
    have HL := Lib.hid hc
    clear hn hr0 hc0 hc
    have HB := Lib.hid ((Below.refl w.heap.size w).alloc (Nat.le_refl _) (.cells #[] 5))
    have HR := Lib.hid (HN.out.below HB.out)
    have HO0 := Lib.hid (World.ownsRow_made (e := 5) (size := 1) w #[] 0 (Nat.le_refl _) (by simp [maxLen]) (by simp))
    have HI := Lib.hid u8_info
    have HLB := Lib.hid (show (0 + (numv .u8 l0).length) * 1 ≤ 140737488355328 by rw [numv_length]; have := HL.out; omega)
    go_enter Try.func37, Try.ntmps37
    go_wp2_with (at_builtin; refine wpList_app _ rfl _ _ _ rfl w.heap.size 5 (.int .u8 0) 1 Try.underlying22 HI.out rfl _ 0 [] (by rfl) HO0.out _ (numv .u8 l0) (by rfl) HR.out (numv_one _ _) HLB.out (by omega) HB.out.size ?_)
    intro A c w2 hown hg hat
    have HO := Lib.hid hown
    have HB2 := Lib.hid (HB.out.grown hg (by simp) (by intro k hk; simp [Value.ownBlock] at hk; omega))
    clear hown hg hat
    go_wp2
    go_ret
    exact ⟨_, rfl, R_of_ownN HO.out (by simp [numv_length]) (fun _ _ => trivial), HB2.out⟩
end Go.Proofs.Ytlgkcpmedjpoaaa.X
