-- printed by wip/xprint.py, a program of ours over the kit's print. Not trusted: Lean checks it.
import Derived.Test.YtolflieiipnndaaDoorMg25
import Derived.Test.YtolflieiipnndaaDoorKd
import Derived.Test.YtolflieiipnndaaDoorMg27
namespace Go.Proofs.YtolflieiipnndaaDoor.X
open Go.RowKit Go.Proofs.YtolflieiipnndaaDoorW.PrintWords Go.Proofs.YtolflieiipnndaaDoorW.PrintLast Go.Proofs.YtolflieiipnndaaDoorW.PrintMore
attribute [local go_sem] max2_int min2_int max_two min_two max_three min_three max_four min_four   -- for this text's walks alone
set_option linter.unusedVariables false
set_option linter.unusedSimpArgs false

attribute [local go_sem] eql_code neq_code eql_nil_code neq_nil_code
/-! ### nat_trim: function 18 -/
def nat_trim.l0 : Nat → List Int → Int → Option (List Int)
  | 0, _, _ => none
  | k + 1, x0, x3 => if x3 > 0 then (if 0 ≤ (wrap64 (x3 - 1)) then (if (wrap64 (x3 - 1)) < (x0.length : Int) then (if (rd x0 (wrap64 (x3 - 1))) = 0 then (nat_trim.l0 k x0 (wrap64 (x3 - 1))) else (if 0 ≤ x3 then (if x3 ≤ (x0.length : Int) then (some (x0.take (x3 : Int).toNat)) else (none)) else (none))) else (none)) else (none)) else (if 0 ≤ x3 then (if x3 ≤ (x0.length : Int) then (some (x0.take (x3 : Int).toNat)) else (none)) else (none))
def nat_trim.f (k : Nat) (l0 : List Int) : Option (List Int) := nat_trim.l0 k l0 (l0.length : Int)
theorem nat_trim.mono_l : ∀ k, (∀ y0 y1, LeO (nat_trim.l0 k y0 y1) (nat_trim.l0 (k + 1) y0 y1))
  | 0 => fun _ _ r h => by simp [nat_trim.l0] at h
  | k + 1 => by
    have ih0 := nat_trim.mono_l k
    · intro y0 y1
      unfold nat_trim.l0
      repeat' first
      | (with_reducible exact ih0 _ _)
      | (with_reducible exact LeO.refl _)
      | (with_reducible exact LeO.none _)
      | (with_reducible refine LeO.ite ?_ ?_)
      | (with_reducible refine LeO.bind ?_ (fun _ => ?_))
      | exact ih0 _ _
      | exact LeO.none _
      | refine LeO.ite ?_ ?_
      | refine LeO.bind ?_ (fun _ => ?_)
theorem nat_trim.mono : ∀ a0 k, LeO (nat_trim.f k a0) (nat_trim.f (k + 1) a0) := by
  intro a0 k
  have ih0 := nat_trim.mono_l k
  unfold nat_trim.f
  repeat' first
      | (with_reducible exact ih0 _ _)
      | (with_reducible exact LeO.refl _)
      | (with_reducible exact LeO.none _)
      | (with_reducible refine LeO.ite ?_ ?_)
      | (with_reducible refine LeO.bind ?_ (fun _ => ?_))
      | exact ih0 _ _
      | exact LeO.none _
      | refine LeO.ite ?_ ?_
      | refine LeO.bind ?_ (fun _ => ?_)
set_option maxHeartbeats 8000000 in
set_option maxRecDepth 100000 in
theorem nat_trim.calls (k : Nat) (P0_ : Nat → Prop) (A0 : Option Addr) (c0 : Nat) (l0 : List Int) (r : List Int) (w : World) (hs0 : Kd.V (Kd.int .u64) 40 w w.heap.size (fun k_ => P0_ k_) (.slice A0 l0.length c0) l0) (h : nat_trim.f k l0 = some r) :
    Calls Tryd.prog 18 #[.slice A0 l0.length c0] w fun e w' => ∃ v0_ : Value, e = .returned (v0_) ∧ Kd.V (Kd.int .u64) 40 w' w.heap.size (fun k_ => (P0_ k_ ∨ w.heap.size ≤ k_)) v0_ r ∧ Below w.heap.size w w' := by
  have HO0 := aM (show Kd.V (Kd.int .u64) 40 w w.heap.size (fun k_ => (P0_ k_ ∨ w.heap.size ≤ k_)) (.slice A0 l0.length c0) l0 from Kd.V_mono hs0 (fun k_ hk => .inl hk))
  have HB := aM (Below.refl w.heap.size w)
  have H : (nat_trim.l0 k l0 (l0.length : Int)) = some r := h
  clear h
  have H' := aM H
  clear H
  go_enter Tryd.func18, Tryd.ntmps18
  go_wp2
  go_loopg [3] k (fun kq v3 w' => ∃ (x3_1 : Int), v3 = .int .i64 x3_1 ∧ Aside0 (nat_trim.l0 kq l0 x3_1 = some r) ∧ Aside0 (kq ≤ k) ∧ Aside0 (Kd.V (Kd.int .u64) 40 w' w.heap.size (fun k_ => (P0_ k_ ∨ w.heap.size ≤ k_)) (.slice A0 l0.length c0) l0) ∧ Aside0 (Below w.heap.size w w'))
  case atStart => exact ⟨((l0.length : Int)), (by first | rfl | (simp; done) | (simp [*]; done)), H', ⟨Nat.le_refl _⟩, ⟨by (with_reducible repeat (first | apply vA | apply vN | apply vD)); exact HO0.out⟩, ⟨by repeat (first | (with_reducible first | exact HB.out | apply bA | apply bN | apply bD) | exact HB.out)⟩⟩
  case round =>
    clear H'
    try clear c1
    obtain ⟨x3_1, rfl, HA, HK1, HO_0, HB⟩ := hrel
    cases gk with
    | zero => exact absurd HA.out (by simp [nat_trim.l0])
    | succ k1 =>
      have H := HA.out
      clear HA
      simp only [nat_trim.l0] at H
      by_cases c2 : x3_1 > 0
      · rw [if_pos c2] at H
        have c2b0 : decide (0 < x3_1) = true := decide_eq_true c2
        clear c2
        obtain ⟨ji3, hji3⟩ : ∃ j_ : Int, (wrap64 (x3_1 - 1)) = j_ := ⟨_, rfl⟩
        replace H : (if 0 ≤ (ji3) then (if (ji3) < (l0.length : Int) then (if (rd l0 (ji3)) = 0 then (nat_trim.l0 k1 l0 ji3) else (if 0 ≤ x3_1 then (if x3_1 ≤ (l0.length : Int) then (some (l0.take (x3_1 : Int).toNat)) else (none)) else (none))) else (none)) else (none)) = some r := by first | (rw [hji3] at H; exact H) | (simp only [hji3] at H ⊢; exact H)
        have hji3w : (IntKind.i64.wrap (x3_1 - 1)) = ji3 := (i64_w _).trans hji3
        by_cases c4 : 0 ≤ (ji3)
        · rw [if_pos c4] at H
          have c4b0 : decide (0 ≤ (ji3)) = true := decide_eq_true c4
          clear c4
          by_cases c5 : (ji3) < (l0.length : Int)
          · rw [if_pos c5] at H
            have c5b0 : decide ((ji3) < (l0.length : Int)) = true := decide_eq_true c5
            clear c5
            by_cases c6 : (rd l0 (ji3)) = 0
            · rw [if_pos c6] at H
              have c6b0 : ((rd l0 (ji3)) == 0) = true := beq_iff_eq.mpr c6
              have c6b1 : ((rd l0 (ji3)) != 0) = false := bne_eq_false_iff_eq.mpr c6
              clear c6
              have H' := aM H
              clear H
              have p101 : 0 ≤ ((ji3) : Int) := of_decide_eq_true (by first | (with_reducible assumption) | assumption)
              have q101 : (ji3) < (l0.length : Int) := of_decide_eq_true (by first | (with_reducible assumption) | assumption)
              obtain ⟨ad101, e101, hx101_0⟩ := Kd.at_int (Kd.V_reads' HO_0.out).2.2 (ji3) p101 q101
              cases e101
              replace p101 := eq_true p101
              replace q101 := eq_true q101
              go_wp2
              go_roundg k1
              case measure => have := HK1.out; omega
              case rel => exact ⟨(ji3), (by first | rfl | (simp; done) | (simp only [← hji3] <;> (first | rfl | simp)) | (simp [*]; done)), H', ⟨by have := HK1.out; omega⟩, ⟨by (with_reducible repeat (first | apply vA | apply vN | apply vD)); exact HO_0.out⟩, ⟨by repeat (first | (with_reducible first | exact HB.out | apply bA | apply bN | apply bD) | exact HB.out)⟩⟩
            · rw [if_neg c6] at H
              have c6b0 : ((rd l0 (ji3)) == 0) = false := beq_eq_false_iff_ne.mpr c6
              have c6b1 : ((rd l0 (ji3)) != 0) = true := bne_iff_ne.mpr c6
              by_cases c7 : 0 ≤ x3_1
              · rw [if_pos c7] at H
                have c7b0 := eq_true c7
                have c7b1 : decide (0 ≤ x3_1) = true := decide_eq_true c7
                clear c7
                by_cases c8 : x3_1 ≤ (l0.length : Int)
                · rw [if_pos c8] at H
                  have c8b0 := eq_true c8
                  have c8b1 : decide (x3_1 ≤ (l0.length : Int)) = true := decide_eq_true c8
                  clear c8
                  obtain ⟨y102, hy102⟩ : ∃ y_ : List Int, y_ = (l0.take (x3_1 : Int).toNat) := ⟨_, rfl⟩
                  replace H : (some y102) = some r := by first | (rw [hy102]; with_reducible exact H) | (have H2_ := (Option.bind_some _ _).symm.trans H; rw [hy102]; with_reducible exact H2_) | (have H2_ := (Option.bind_some _ _).symm.trans H; with_reducible exact H2_) | with_reducible exact H | (rw [hy102]; exact H) | exact H
                  have Ny102 := aM hy102
                  clear hy102
                  obtain rfl := Option.some.inj H
                  have p101 : 0 ≤ ((ji3) : Int) := of_decide_eq_true (by first | (with_reducible assumption) | assumption)
                  have q101 : (ji3) < (l0.length : Int) := of_decide_eq_true (by first | (with_reducible assumption) | assumption)
                  obtain ⟨ad101, e101, hx101_0⟩ := Kd.at_int (Kd.V_reads' HO_0.out).2.2 (ji3) p101 q101
                  cases e101
                  replace p101 := eq_true p101
                  replace q101 := eq_true q101
                  have q9 : (x3_1 : Int) ≤ ((l0.length : Int) : Int) := of_decide_eq_true (by first | (with_reducible assumption) | assumption)
                  obtain ⟨i09, hi09, _, hsz9, _⟩ := info_parts info40
                  have hroom9 : l0.length ≤ c0 := (Kd.V_reads' HO_0.out).2.1
                  have hC9 : Kd.F (Kd.int .u64) _ _ (some ad101) l0.length l0 := (Kd.V_at (base := w.heap.size) HO_0.out).2.2
                  have hcut9 := cut_to (P := Tryd.prog) 23 40 .i64 Tryd.underlying23 hi09 (some ad101) l0.length c0 x3_1 (of_decide_eq_true (by first | (with_reducible assumption) | assumption)) q9 hroom9
                  have hr9 := Kd.F_take (m := (x3_1 : Int).toNat) hC9 (by omega)
                  have hy9 : y102.length = (x3_1 : Int).toNat := (by rw [Ny102.out, List.length_take]; omega)
                  rw [← Ny102.out] at hr9
                  rw [← hy9] at hcut9
                  have HO106 := aM (show Kd.V (Kd.int .u64) 40 _ w.heap.size _ (.slice (some ad101) y102.length c0) y102 from Kd.V_mk (by omega) hr9)
                  have HC106 := aM (show y102.length ≤ c0 from by omega)
                  clear hr9 hC9 hroom9 hi09 hsz9
                  have KY9 := aM hy9
                  clear hy9
                  replace q9 := eq_true q9
                  go_wp2
                  go_ret
                  exact ⟨_, by first | rfl | (simp [errW_none, errW_some] <;> rfl) | (simp only [← hji3]; first | rfl | (simp [errW_none, errW_some] <;> rfl)) | (simp [*, errW_none, errW_some] <;> rfl), by (with_reducible repeat (first | apply vA | apply vN | apply vD)); exact HO106.out, by repeat (first | (with_reducible first | exact HB.out | apply bA | apply bN | apply bD) | exact HB.out)⟩
                · rw [if_neg c8] at H
                  exact absurd H (by simp)
              · rw [if_neg c7] at H
                exact absurd H (by simp)
          · rw [if_neg c5] at H
            exact absurd H (by simp)
        · rw [if_neg c4] at H
          exact absurd H (by simp)
      · rw [if_neg c2] at H
        have c2b0 : decide (0 < x3_1) = false := decide_eq_false c2
        clear c2
        by_cases c10 : 0 ≤ x3_1
        · rw [if_pos c10] at H
          have c10b0 := eq_true c10
          have c10b1 : decide (0 ≤ x3_1) = true := decide_eq_true c10
          clear c10
          by_cases c11 : x3_1 ≤ (l0.length : Int)
          · rw [if_pos c11] at H
            have c11b0 := eq_true c11
            have c11b1 : decide (x3_1 ≤ (l0.length : Int)) = true := decide_eq_true c11
            clear c11
            obtain ⟨y107, hy107⟩ : ∃ y_ : List Int, y_ = (l0.take (x3_1 : Int).toNat) := ⟨_, rfl⟩
            replace H : (some y107) = some r := by first | (rw [hy107]; with_reducible exact H) | (have H2_ := (Option.bind_some _ _).symm.trans H; rw [hy107]; with_reducible exact H2_) | (have H2_ := (Option.bind_some _ _).symm.trans H; with_reducible exact H2_) | with_reducible exact H | (rw [hy107]; exact H) | exact H
            have Ny107 := aM hy107
            clear hy107
            obtain rfl := Option.some.inj H
            have q12 : (x3_1 : Int) ≤ ((l0.length : Int) : Int) := of_decide_eq_true (by first | (with_reducible assumption) | assumption)
            obtain ⟨i012, hi012, _, hsz12, _⟩ := info_parts info40
            have hroom12 : l0.length ≤ c0 := (Kd.V_reads' HO_0.out).2.1
            have hC12 : Kd.F (Kd.int .u64) _ _ A0 l0.length l0 := (Kd.V_at (base := w.heap.size) HO_0.out).2.2
            have hcut12 := cut_to (P := Tryd.prog) 23 40 .i64 Tryd.underlying23 hi012 A0 l0.length c0 x3_1 (of_decide_eq_true (by first | (with_reducible assumption) | assumption)) q12 hroom12
            have hr12 := Kd.F_take (m := (x3_1 : Int).toNat) hC12 (by omega)
            have hy12 : y107.length = (x3_1 : Int).toNat := (by rw [Ny107.out, List.length_take]; omega)
            rw [← Ny107.out] at hr12
            rw [← hy12] at hcut12
            have HO111 := aM (show Kd.V (Kd.int .u64) 40 _ w.heap.size _ (.slice A0 y107.length c0) y107 from Kd.V_mk (by omega) hr12)
            have HC111 := aM (show y107.length ≤ c0 from by omega)
            clear hr12 hC12 hroom12 hi012 hsz12
            have KY12 := aM hy12
            clear hy12
            replace q12 := eq_true q12
            go_wp2
            go_ret
            exact ⟨_, by first | rfl | (simp [errW_none, errW_some] <;> rfl) | (simp [*, errW_none, errW_some] <;> rfl), by (with_reducible repeat (first | apply vA | apply vN | apply vD)); exact HO111.out, by repeat (first | (with_reducible first | exact HB.out | apply bA | apply bN | apply bD) | exact HB.out)⟩
          · rw [if_neg c11] at H
            exact absurd H (by simp)
        · rw [if_neg c10] at H
          exact absurd H (by simp)

/-! ### nat_both: function 16 -/
def nat_both.f (k : Nat) (l0 : List Int) (l1 : List Int) : Option (List Int × List Int × Option Int) := (nat_trim.f k l0).bind fun t112 => ((nat_trim.f k l1).bind fun t115 => (if (t112.length : Int) > 64 then (some (([] : List Int), ([] : List Int), some 2)) else (if (t115.length : Int) > 64 then (some (([] : List Int), ([] : List Int), some 2)) else (some (t112, t115, none)))))
theorem nat_both.mono : ∀ a0 a1 k, LeO (nat_both.f k a0 a1) (nat_both.f (k + 1) a0 a1) := by
  intro a0 a1 k
  unfold nat_both.f
  repeat' first
      | (with_reducible exact nat_trim.mono _ _)
      | (with_reducible exact LeO.refl _)
      | (with_reducible exact LeO.none _)
      | (with_reducible refine LeO.ite ?_ ?_)
      | (with_reducible refine LeO.bind ?_ (fun _ => ?_))
      | exact nat_trim.mono _ _
      | exact LeO.none _
      | refine LeO.ite ?_ ?_
      | refine LeO.bind ?_ (fun _ => ?_)
set_option maxHeartbeats 8000000 in
set_option maxRecDepth 100000 in
theorem nat_both.calls (k : Nat) (P0_ : Nat → Prop) (A0 : Option Addr) (c0 : Nat) (l0 : List Int) (P1_ : Nat → Prop) (A1 : Option Addr) (c1 : Nat) (l1 : List Int) (r1 : List Int) (r2 : List Int) (r3 : Option Int) (w : World) (hs0 : Kd.V (Kd.int .u64) 40 w w.heap.size (fun k_ => P0_ k_) (.slice A0 l0.length c0) l0) (hs1 : Kd.V (Kd.int .u64) 40 w w.heap.size (fun k_ => P1_ k_) (.slice A1 l1.length c1) l1) (h : nat_both.f k l0 l1 = some (r1, r2, r3)) :
    Calls Tryd.prog 16 #[.slice A0 l0.length c0, .slice A1 l1.length c1] w fun e w' => ∃ v0_ v1_ : Value, e = .returned (.tuple #[v0_, v1_, errW r3]) ∧ Kd.V (Kd.int .u64) 40 w' w.heap.size (fun k_ => ((P0_ k_ ∨ P1_ k_) ∨ w.heap.size ≤ k_)) v0_ r1 ∧ Kd.V (Kd.int .u64) 40 w' w.heap.size (fun k_ => ((P0_ k_ ∨ P1_ k_) ∨ w.heap.size ≤ k_)) v1_ r2 ∧ Below w.heap.size w w' := by
  have hu27 := Tryd.underlying27
  have hu41 := Tryd.underlying41
  have HO0 := aM (show Kd.V (Kd.int .u64) 40 w w.heap.size (fun k_ => ((P0_ k_ ∨ P1_ k_) ∨ w.heap.size ≤ k_)) (.slice A0 l0.length c0) l0 from Kd.V_mono hs0 (fun k_ hk => .inl (.inl hk)))
  have HO1 := aM (show Kd.V (Kd.int .u64) 40 w w.heap.size (fun k_ => ((P0_ k_ ∨ P1_ k_) ∨ w.heap.size ≤ k_)) (.slice A1 l1.length c1) l1 from Kd.V_mono hs1 (fun k_ hk => .inl (.inr hk)))
  have HB := aM (Below.refl w.heap.size w)
  have H : ((nat_trim.f k l0).bind fun t112 => ((nat_trim.f k l1).bind fun t115 => (if (t112.length : Int) > 64 then (some (([] : List Int), ([] : List Int), some 2)) else (if (t115.length : Int) > 64 then (some (([] : List Int), ([] : List Int), some 2)) else (some (t112, t115, none)))))) = some (r1, r2, r3) := h
  clear h
  replace H := Option.bind_eq_some_iff.mp H
  obtain ⟨t112, A30, H⟩ := H
  replace H : ((nat_trim.f k l1).bind fun t115 => (if (t112.length : Int) > 64 then (some (([] : List Int), ([] : List Int), some 2)) else (if (t115.length : Int) > 64 then (some (([] : List Int), ([] : List Int), some 2)) else (some (t112, t115, none))))) = some (r1, r2, r3) := H
  have A3 := aM A30
  clear A30
  replace H := Option.bind_eq_some_iff.mp H
  obtain ⟨t115, A40, H⟩ := H
  replace H : (if (t112.length : Int) > 64 then (some (([] : List Int), ([] : List Int), some 2)) else (if (t115.length : Int) > 64 then (some (([] : List Int), ([] : List Int), some 2)) else (some (t112, t115, none)))) = some (r1, r2, r3) := H
  have A4 := aM A40
  clear A40
  by_cases c5 : (t112.length : Int) > 64
  · rw [if_pos c5] at H
    have c5b0 : decide (64 < (t112.length : Int)) = true := decide_eq_true c5
    have c5b1 : decide (64 < t112.length) = true := decide_eq_true (by omega)
    clear c5
    simp only [Option.some.injEq, Prod.mk.injEq] at H
    obtain ⟨rfl, rfl, rfl⟩ := H
    go_enter Tryd.func16, Tryd.ntmps16
    go_wp2_with (first | ((with_reducible refine gate_callee (f := 18) rfl ?_); refine goesL_ (some 8) rfl rfl Tryd.func18 (by kernel_rfl) rfl #[.slice A0 l0.length c0] rfl (by (try simp only [mapA, mapB, mapC]); first | done | rfl | (simp only [lD, lT]; rfl) | (simp only [ge_iff_le, gt_iff_lt, *]; rfl)) ?_; (with_reducible refine (nat_trim.calls k (fun k_ => ((P0_ k_ ∨ P1_ k_) ∨ w.heap.size ≤ k_)) _ _ l0 t112 _ ?side1 A3.out).mono ?_); (case side1 => exact HO0.out); rintro e w6 ⟨v113, rfl, ho0, hb⟩; refine ⟨_, rfl, ?_⟩; have n0_ := aM (Kd.V_below (by (with_reducible repeat (first | apply vA | apply vN | apply vD)); exact HO0.out) hb); have n1_ := aM (Kd.V_below (by (with_reducible repeat (first | apply vA | apply vN | apply vD)); exact HO1.out) hb); have n2_ := aM (Kd.V_lower (Kd.V_mono (ok' := fun k_ => ((P0_ k_ ∨ P1_ k_) ∨ w.heap.size ≤ k_)) ho0 (fun k_ hk_ => Or.elim hk_ (fun hs_ => hs_) (fun hn_ => (.inr (Nat.le_trans (below_size (by repeat (first | (with_reducible first | exact HB.out | apply bA | apply bN | apply bD) | exact HB.out))) hn_))))) (below_size (by repeat (first | (with_reducible first | exact HB.out | apply bA | apply bN | apply bD) | exact HB.out)))); have n3_ := aM (below_step (by repeat (first | (with_reducible first | exact HB.out | apply bA | apply bN | apply bD) | exact HB.out)) hb); clear HO0; clear HO1; clear HB; have HO0 := n0_; have HO1 := n1_; have HO114 := n2_; have HB := n3_; clear n0_ n1_ n2_ n3_; (try clear hb); (try clear hb2); (try clear hk); (try clear hi); (try clear ho0)) | ((with_reducible refine gate_callee (f := 18) rfl ?_); refine goesL_ (some 10) rfl rfl Tryd.func18 (by kernel_rfl) rfl #[.slice A1 l1.length c1] rfl (by (try simp only [mapA, mapB, mapC]); first | done | rfl | (simp only [lD, lT]; rfl) | (simp only [ge_iff_le, gt_iff_lt, *]; rfl)) ?_; (with_reducible refine (nat_trim.calls k (fun k_ => ((P0_ k_ ∨ P1_ k_) ∨ w.heap.size ≤ k_)) _ _ l1 t115 _ ?side1 A4.out).mono ?_); (case side1 => exact HO1.out); rintro e w7 ⟨v116, rfl, ho0, hb⟩; refine ⟨_, rfl, ?_⟩; have n0_ := aM (Kd.V_below (by (with_reducible repeat (first | apply vA | apply vN | apply vD)); exact HO0.out) hb); have n1_ := aM (Kd.V_below (by (with_reducible repeat (first | apply vA | apply vN | apply vD)); exact HO1.out) hb); have n2_ := aM (Kd.V_below (by (with_reducible repeat (first | apply vA | apply vN | apply vD)); exact HO114.out) hb); have n3_ := aM (Kd.V_lower (Kd.V_mono (ok' := fun k_ => ((P0_ k_ ∨ P1_ k_) ∨ w.heap.size ≤ k_)) ho0 (fun k_ hk_ => Or.elim hk_ (fun hs_ => hs_) (fun hn_ => (.inr (Nat.le_trans (below_size (by repeat (first | (with_reducible first | exact HB.out | apply bA | apply bN | apply bD) | exact HB.out))) hn_))))) (below_size (by repeat (first | (with_reducible first | exact HB.out | apply bA | apply bN | apply bD) | exact HB.out)))); have n4_ := aM (below_step (by repeat (first | (with_reducible first | exact HB.out | apply bA | apply bN | apply bD) | exact HB.out)) hb); clear HO0; clear HO1; clear HO114; clear HB; have HO0 := n0_; have HO1 := n1_; have HO114 := n2_; have HO117 := n3_; have HB := n4_; clear n0_ n1_ n2_ n3_ n4_; (try clear hb); (try clear hb2); (try clear hk); (try clear hi); (try clear ho0); obtain ⟨Ao8, co8, eo8⟩ := Kd.V_slice HO114.out; subst eo8))
    go_ret3
    exact ⟨_, _, by first | rfl | (simp [errW_none, errW_some] <;> rfl) | (simp [*, errW_none, errW_some] <;> rfl), Kd.V_nil _ _ _ _ _, Kd.V_nil _ _ _ _ _, by repeat (first | (with_reducible first | exact HB.out | apply bA | apply bN | apply bD) | exact HB.out)⟩
  · rw [if_neg c5] at H
    have c5b0 : decide (64 < (t112.length : Int)) = false := decide_eq_false c5
    have c5b1 : decide (64 < t112.length) = false := decide_eq_false (by omega)
    clear c5
    by_cases c9 : (t115.length : Int) > 64
    · rw [if_pos c9] at H
      have c9b0 : decide (64 < (t115.length : Int)) = true := decide_eq_true c9
      have c9b1 : decide (64 < t115.length) = true := decide_eq_true (by omega)
      clear c9
      simp only [Option.some.injEq, Prod.mk.injEq] at H
      obtain ⟨rfl, rfl, rfl⟩ := H
      go_enter Tryd.func16, Tryd.ntmps16
      go_wp2_with (first | ((with_reducible refine gate_callee (f := 18) rfl ?_); refine goesL_ (some 8) rfl rfl Tryd.func18 (by kernel_rfl) rfl #[.slice A0 l0.length c0] rfl (by (try simp only [mapA, mapB, mapC]); first | done | rfl | (simp only [lD, lT]; rfl) | (simp only [ge_iff_le, gt_iff_lt, *]; rfl)) ?_; (with_reducible refine (nat_trim.calls k (fun k_ => ((P0_ k_ ∨ P1_ k_) ∨ w.heap.size ≤ k_)) _ _ l0 t112 _ ?side1 A3.out).mono ?_); (case side1 => exact HO0.out); rintro e w10 ⟨v113, rfl, ho0, hb⟩; refine ⟨_, rfl, ?_⟩; have n0_ := aM (Kd.V_below (by (with_reducible repeat (first | apply vA | apply vN | apply vD)); exact HO0.out) hb); have n1_ := aM (Kd.V_below (by (with_reducible repeat (first | apply vA | apply vN | apply vD)); exact HO1.out) hb); have n2_ := aM (Kd.V_lower (Kd.V_mono (ok' := fun k_ => ((P0_ k_ ∨ P1_ k_) ∨ w.heap.size ≤ k_)) ho0 (fun k_ hk_ => Or.elim hk_ (fun hs_ => hs_) (fun hn_ => (.inr (Nat.le_trans (below_size (by repeat (first | (with_reducible first | exact HB.out | apply bA | apply bN | apply bD) | exact HB.out))) hn_))))) (below_size (by repeat (first | (with_reducible first | exact HB.out | apply bA | apply bN | apply bD) | exact HB.out)))); have n3_ := aM (below_step (by repeat (first | (with_reducible first | exact HB.out | apply bA | apply bN | apply bD) | exact HB.out)) hb); clear HO0; clear HO1; clear HB; have HO0 := n0_; have HO1 := n1_; have HO114 := n2_; have HB := n3_; clear n0_ n1_ n2_ n3_; (try clear hb); (try clear hb2); (try clear hk); (try clear hi); (try clear ho0)) | ((with_reducible refine gate_callee (f := 18) rfl ?_); refine goesL_ (some 10) rfl rfl Tryd.func18 (by kernel_rfl) rfl #[.slice A1 l1.length c1] rfl (by (try simp only [mapA, mapB, mapC]); first | done | rfl | (simp only [lD, lT]; rfl) | (simp only [ge_iff_le, gt_iff_lt, *]; rfl)) ?_; (with_reducible refine (nat_trim.calls k (fun k_ => ((P0_ k_ ∨ P1_ k_) ∨ w.heap.size ≤ k_)) _ _ l1 t115 _ ?side1 A4.out).mono ?_); (case side1 => exact HO1.out); rintro e w11 ⟨v116, rfl, ho0, hb⟩; refine ⟨_, rfl, ?_⟩; have n0_ := aM (Kd.V_below (by (with_reducible repeat (first | apply vA | apply vN | apply vD)); exact HO0.out) hb); have n1_ := aM (Kd.V_below (by (with_reducible repeat (first | apply vA | apply vN | apply vD)); exact HO1.out) hb); have n2_ := aM (Kd.V_below (by (with_reducible repeat (first | apply vA | apply vN | apply vD)); exact HO114.out) hb); have n3_ := aM (Kd.V_lower (Kd.V_mono (ok' := fun k_ => ((P0_ k_ ∨ P1_ k_) ∨ w.heap.size ≤ k_)) ho0 (fun k_ hk_ => Or.elim hk_ (fun hs_ => hs_) (fun hn_ => (.inr (Nat.le_trans (below_size (by repeat (first | (with_reducible first | exact HB.out | apply bA | apply bN | apply bD) | exact HB.out))) hn_))))) (below_size (by repeat (first | (with_reducible first | exact HB.out | apply bA | apply bN | apply bD) | exact HB.out)))); have n4_ := aM (below_step (by repeat (first | (with_reducible first | exact HB.out | apply bA | apply bN | apply bD) | exact HB.out)) hb); clear HO0; clear HO1; clear HO114; clear HB; have HO0 := n0_; have HO1 := n1_; have HO114 := n2_; have HO117 := n3_; have HB := n4_; clear n0_ n1_ n2_ n3_ n4_; (try clear hb); (try clear hb2); (try clear hk); (try clear hi); (try clear ho0); obtain ⟨Ao12, co12, eo12⟩ := Kd.V_slice HO114.out; subst eo12; obtain ⟨Ao13, co13, eo13⟩ := Kd.V_slice HO117.out; subst eo13))
      go_ret3
      exact ⟨_, _, by first | rfl | (simp [errW_none, errW_some] <;> rfl) | (simp [*, errW_none, errW_some] <;> rfl), Kd.V_nil _ _ _ _ _, Kd.V_nil _ _ _ _ _, by repeat (first | (with_reducible first | exact HB.out | apply bA | apply bN | apply bD) | exact HB.out)⟩
    · rw [if_neg c9] at H
      have c9b0 : decide (64 < (t115.length : Int)) = false := decide_eq_false c9
      have c9b1 : decide (64 < t115.length) = false := decide_eq_false (by omega)
      clear c9
      simp only [Option.some.injEq, Prod.mk.injEq] at H
      obtain ⟨rfl, rfl, rfl⟩ := H
      go_enter Tryd.func16, Tryd.ntmps16
      go_wp2_with (first | ((with_reducible refine gate_callee (f := 18) rfl ?_); refine goesL_ (some 8) rfl rfl Tryd.func18 (by kernel_rfl) rfl #[.slice A0 l0.length c0] rfl (by (try simp only [mapA, mapB, mapC]); first | done | rfl | (simp only [lD, lT]; rfl) | (simp only [ge_iff_le, gt_iff_lt, *]; rfl)) ?_; (with_reducible refine (nat_trim.calls k (fun k_ => ((P0_ k_ ∨ P1_ k_) ∨ w.heap.size ≤ k_)) _ _ l0 t112 _ ?side1 A3.out).mono ?_); (case side1 => exact HO0.out); rintro e w14 ⟨v113, rfl, ho0, hb⟩; refine ⟨_, rfl, ?_⟩; have n0_ := aM (Kd.V_below (by (with_reducible repeat (first | apply vA | apply vN | apply vD)); exact HO0.out) hb); have n1_ := aM (Kd.V_below (by (with_reducible repeat (first | apply vA | apply vN | apply vD)); exact HO1.out) hb); have n2_ := aM (Kd.V_lower (Kd.V_mono (ok' := fun k_ => ((P0_ k_ ∨ P1_ k_) ∨ w.heap.size ≤ k_)) ho0 (fun k_ hk_ => Or.elim hk_ (fun hs_ => hs_) (fun hn_ => (.inr (Nat.le_trans (below_size (by repeat (first | (with_reducible first | exact HB.out | apply bA | apply bN | apply bD) | exact HB.out))) hn_))))) (below_size (by repeat (first | (with_reducible first | exact HB.out | apply bA | apply bN | apply bD) | exact HB.out)))); have n3_ := aM (below_step (by repeat (first | (with_reducible first | exact HB.out | apply bA | apply bN | apply bD) | exact HB.out)) hb); clear HO0; clear HO1; clear HB; have HO0 := n0_; have HO1 := n1_; have HO114 := n2_; have HB := n3_; clear n0_ n1_ n2_ n3_; (try clear hb); (try clear hb2); (try clear hk); (try clear hi); (try clear ho0)) | ((with_reducible refine gate_callee (f := 18) rfl ?_); refine goesL_ (some 10) rfl rfl Tryd.func18 (by kernel_rfl) rfl #[.slice A1 l1.length c1] rfl (by (try simp only [mapA, mapB, mapC]); first | done | rfl | (simp only [lD, lT]; rfl) | (simp only [ge_iff_le, gt_iff_lt, *]; rfl)) ?_; (with_reducible refine (nat_trim.calls k (fun k_ => ((P0_ k_ ∨ P1_ k_) ∨ w.heap.size ≤ k_)) _ _ l1 t115 _ ?side1 A4.out).mono ?_); (case side1 => exact HO1.out); rintro e w15 ⟨v116, rfl, ho0, hb⟩; refine ⟨_, rfl, ?_⟩; have n0_ := aM (Kd.V_below (by (with_reducible repeat (first | apply vA | apply vN | apply vD)); exact HO0.out) hb); have n1_ := aM (Kd.V_below (by (with_reducible repeat (first | apply vA | apply vN | apply vD)); exact HO1.out) hb); have n2_ := aM (Kd.V_below (by (with_reducible repeat (first | apply vA | apply vN | apply vD)); exact HO114.out) hb); have n3_ := aM (Kd.V_lower (Kd.V_mono (ok' := fun k_ => ((P0_ k_ ∨ P1_ k_) ∨ w.heap.size ≤ k_)) ho0 (fun k_ hk_ => Or.elim hk_ (fun hs_ => hs_) (fun hn_ => (.inr (Nat.le_trans (below_size (by repeat (first | (with_reducible first | exact HB.out | apply bA | apply bN | apply bD) | exact HB.out))) hn_))))) (below_size (by repeat (first | (with_reducible first | exact HB.out | apply bA | apply bN | apply bD) | exact HB.out)))); have n4_ := aM (below_step (by repeat (first | (with_reducible first | exact HB.out | apply bA | apply bN | apply bD) | exact HB.out)) hb); clear HO0; clear HO1; clear HO114; clear HB; have HO0 := n0_; have HO1 := n1_; have HO114 := n2_; have HO117 := n3_; have HB := n4_; clear n0_ n1_ n2_ n3_ n4_; (try clear hb); (try clear hb2); (try clear hk); (try clear hi); (try clear ho0); obtain ⟨Ao16, co16, eo16⟩ := Kd.V_slice HO114.out; subst eo16; obtain ⟨Ao17, co17, eo17⟩ := Kd.V_slice HO117.out; subst eo17))
      go_ret3
      exact ⟨_, _, by first | rfl | (simp [errW_none, errW_some] <;> rfl) | (simp [*, errW_none, errW_some] <;> rfl), by (with_reducible repeat (first | apply vA | apply vN | apply vD)); exact HO114.out, by (with_reducible repeat (first | apply vA | apply vN | apply vD)); exact HO117.out, by repeat (first | (with_reducible first | exact HB.out | apply bA | apply bN | apply bD) | exact HB.out)⟩

/-! ### nat_Add: function 6 -/
mutual
def nat_Add.j0 : Nat → List Int → List Int → Option (List Int × Option Int)
  | 0, _, _ => none
  | k + 1, x0, x1 => if 0 ≤ (wrap64 ((x0.length : Int) + 1)) then (if (wrap64 ((x0.length : Int) + 1) : Int).toNat ≤ 35184372088832 then (nat_Add.l0 k x0 x1 (List.replicate (wrap64 ((x0.length : Int) + 1) : Int).toNat 0) 0 (x0.length : Int) 0) else (none)) else (none)
def nat_Add.l0 : Nat → List Int → List Int → List Int → Int → Int → Int → Option (List Int × Option Int)
  | 0, _, _, _, _, _, _ => none
  | k + 1, x0, x1, x7, x8, x33, x34 => if x34 < x33 then (if x34 < (x1.length : Int) then (if 0 ≤ x34 then (if x34 < (x0.length : Int) then ((bits_Add64.f (rd x0 x34) (rd x1 x34) x8).bind fun bt131 => (if x34 < (x7.length : Int) then (nat_Add.l0 k x0 x1 (x7.set (x34 : Int).toNat bt131.1) bt131.2 x33 (wrap64 (x34 + 1))) else (none))) else (none)) else (none)) else (if 0 ≤ x34 then (if x34 < (x0.length : Int) then ((bits_Add64.f (rd x0 x34) 0 x8).bind fun bt135 => (if x34 < (x7.length : Int) then (nat_Add.l0 k x0 x1 (x7.set (x34 : Int).toNat bt135.1) bt135.2 x33 (wrap64 (x34 + 1))) else (none))) else (none)) else (none))) else (if 0 ≤ (x0.length : Int) then (if (x0.length : Int) < (x7.length : Int) then ((nat_trim.f k (x7.set ((x0.length : Int) : Int).toNat x8)).bind fun t139 => (some (t139, none))) else (none)) else (none))
end
def nat_Add.f (k : Nat) (l0 : List Int) (l1 : List Int) : Option (List Int × Option Int) := (nat_both.f k l0 l1).bind fun bt118 => (if bt118.2.2.isNone = true then (if (bt118.1.length : Int) < (bt118.2.1.length : Int) then (nat_Add.j0 k bt118.2.1 bt118.1) else (nat_Add.j0 k bt118.1 bt118.2.1)) else (some (([] : List Int), some (bt118.2.2.getD 0))))
theorem nat_Add.mono_l : ∀ k, (∀ y0 y1, LeO (nat_Add.j0 k y0 y1) (nat_Add.j0 (k + 1) y0 y1)) ∧ (∀ y0 y1 y2 y3 y4 y5, LeO (nat_Add.l0 k y0 y1 y2 y3 y4 y5) (nat_Add.l0 (k + 1) y0 y1 y2 y3 y4 y5))
  | 0 => ⟨fun _ _ r h => by simp [nat_Add.j0] at h, fun _ _ _ _ _ _ r h => by simp [nat_Add.l0] at h⟩
  | k + 1 => by
    obtain ⟨ih0, ih1⟩ := nat_Add.mono_l k
    refine ⟨?_, ?_⟩
    · intro y0 y1
      unfold nat_Add.j0
      repeat' first
      | (with_reducible exact ih0 _ _)
      | (with_reducible exact ih1 _ _ _ _ _ _)
      | (with_reducible exact nat_both.mono _ _ _)
      | (with_reducible exact nat_trim.mono _ _)
      | (with_reducible exact LeO.refl _)
      | (with_reducible exact LeO.none _)
      | (with_reducible refine LeO.ite ?_ ?_)
      | (with_reducible refine LeO.bind ?_ (fun _ => ?_))
      | exact ih0 _ _
      | exact ih1 _ _ _ _ _ _
      | exact nat_both.mono _ _ _
      | exact nat_trim.mono _ _
      | exact LeO.none _
      | refine LeO.ite ?_ ?_
      | refine LeO.bind ?_ (fun _ => ?_)
    · intro y0 y1 y2 y3 y4 y5
      unfold nat_Add.l0
      repeat' first
      | (with_reducible exact ih0 _ _)
      | (with_reducible exact ih1 _ _ _ _ _ _)
      | (with_reducible exact nat_both.mono _ _ _)
      | (with_reducible exact nat_trim.mono _ _)
      | (with_reducible exact LeO.refl _)
      | (with_reducible exact LeO.none _)
      | (with_reducible refine LeO.ite ?_ ?_)
      | (with_reducible refine LeO.bind ?_ (fun _ => ?_))
      | exact ih0 _ _
      | exact ih1 _ _ _ _ _ _
      | exact nat_both.mono _ _ _
      | exact nat_trim.mono _ _
      | exact LeO.none _
      | refine LeO.ite ?_ ?_
      | refine LeO.bind ?_ (fun _ => ?_)
theorem nat_Add.mono : ∀ a0 a1 k, LeO (nat_Add.f k a0 a1) (nat_Add.f (k + 1) a0 a1) := by
  intro a0 a1 k
  obtain ⟨ih0, ih1⟩ := nat_Add.mono_l k
  unfold nat_Add.f
  repeat' first
      | (with_reducible exact ih0 _ _)
      | (with_reducible exact ih1 _ _ _ _ _ _)
      | (with_reducible exact nat_both.mono _ _ _)
      | (with_reducible exact nat_trim.mono _ _)
      | (with_reducible exact LeO.refl _)
      | (with_reducible exact LeO.none _)
      | (with_reducible refine LeO.ite ?_ ?_)
      | (with_reducible refine LeO.bind ?_ (fun _ => ?_))
      | exact ih0 _ _
      | exact ih1 _ _ _ _ _ _
      | exact nat_both.mono _ _ _
      | exact nat_trim.mono _ _
      | exact LeO.none _
      | refine LeO.ite ?_ ?_
      | refine LeO.bind ?_ (fun _ => ?_)
set_option maxHeartbeats 8000000 in
set_option maxRecDepth 100000 in
theorem nat_Add.calls (k : Nat) (P0_ : Nat → Prop) (A0 : Option Addr) (c0 : Nat) (l0 : List Int) (P1_ : Nat → Prop) (A1 : Option Addr) (c1 : Nat) (l1 : List Int) (r1 : List Int) (r2 : Option Int) (w : World) (hs0 : Kd.V (Kd.int .u64) 40 w w.heap.size (fun k_ => P0_ k_) (.slice A0 l0.length c0) l0) (hs1 : Kd.V (Kd.int .u64) 40 w w.heap.size (fun k_ => P1_ k_) (.slice A1 l1.length c1) l1) (h : nat_Add.f k l0 l1 = some (r1, r2)) :
    Calls Tryd.prog 6 #[.slice A0 l0.length c0, .slice A1 l1.length c1] w fun e w' => ∃ v0_ : Value, e = .returned (.tuple #[v0_, errW r2]) ∧ Kd.V (Kd.int .u64) 40 w' w.heap.size (fun k_ => ((P0_ k_ ∨ P1_ k_) ∨ w.heap.size ≤ k_)) v0_ r1 ∧ Below w.heap.size w w' := by
  have hu27 := Tryd.underlying27
  have hu41 := Tryd.underlying41
  have HO0 := aM (show Kd.V (Kd.int .u64) 40 w w.heap.size (fun k_ => ((P0_ k_ ∨ P1_ k_) ∨ w.heap.size ≤ k_)) (.slice A0 l0.length c0) l0 from Kd.V_mono hs0 (fun k_ hk => .inl (.inl hk)))
  have HO1 := aM (show Kd.V (Kd.int .u64) 40 w w.heap.size (fun k_ => ((P0_ k_ ∨ P1_ k_) ∨ w.heap.size ≤ k_)) (.slice A1 l1.length c1) l1 from Kd.V_mono hs1 (fun k_ hk => .inl (.inr hk)))
  have HB := aM (Below.refl w.heap.size w)
  have H : ((nat_both.f k l0 l1).bind fun bt118 => (if bt118.2.2.isNone = true then (if (bt118.1.length : Int) < (bt118.2.1.length : Int) then (nat_Add.j0 k bt118.2.1 bt118.1) else (nat_Add.j0 k bt118.1 bt118.2.1)) else (some (([] : List Int), some (bt118.2.2.getD 0))))) = some (r1, r2) := h
  clear h
  replace H := Option.bind_eq_some_iff.mp H
  obtain ⟨⟨t118, t121, t124⟩, A30, H⟩ := H
  replace H : (if t124.isNone = true then (if (t118.length : Int) < (t121.length : Int) then (nat_Add.j0 k t121 t118) else (nat_Add.j0 k t118 t121)) else (some (([] : List Int), some (t124.getD 0)))) = some (r1, r2) := H
  have A3 := aM A30
  clear A30
  rcases t124 with _ | q125
  · have H1 : (if (t118.length : Int) < (t121.length : Int) then (nat_Add.j0 k t121 t118) else (nat_Add.j0 k t118 t121)) = some (r1, r2) := by rw [if_pos (show (none : Option Int).isNone = true by rfl)] at H; exact H
    clear H
    have H := H1
    clear H1
    try simp only [errW_none, errW_some]
    have HC4 := aM H
    clear H
    go_enter Tryd.func6, Tryd.ntmps6
    go_upto_if 25 with (first | ((with_reducible refine gate_callee (f := 16) rfl ?_); refine goesL_ (some 14) rfl rfl Tryd.func16 (by kernel_rfl) rfl #[.slice A0 l0.length c0, .slice A1 l1.length c1] rfl (by (try simp only [mapA, mapB, mapC]); first | done | rfl | (simp only [lD, lT]; rfl) | (simp only [ge_iff_le, gt_iff_lt, *]; rfl)) ?_; (with_reducible refine (nat_both.calls k (fun k_ => ((P0_ k_ ∨ P1_ k_) ∨ w.heap.size ≤ k_)) _ _ l0 (fun k_ => ((P0_ k_ ∨ P1_ k_) ∨ w.heap.size ≤ k_)) _ _ l1 t118 t121 none _ ?side1 ?side2 A3.out).mono ?_); (case side1 => exact HO0.out); (case side2 => exact HO1.out); rintro e w5 ⟨v119, v122, rfl, ho0, ho1, hb⟩; refine ⟨_, rfl, ?_⟩; have n0_ := aM (Kd.V_below (by (with_reducible repeat (first | apply vA | apply vN | apply vD)); exact HO0.out) hb); have n1_ := aM (Kd.V_below (by (with_reducible repeat (first | apply vA | apply vN | apply vD)); exact HO1.out) hb); have n2_ := aM (Kd.V_lower (Kd.V_mono (ok' := fun k_ => ((P0_ k_ ∨ P1_ k_) ∨ w.heap.size ≤ k_)) ho0 (fun k_ hk_ => Or.elim hk_ (fun hs_ => Or.elim hs_ (fun hs_ => hs_) (fun hs_ => hs_)) (fun hn_ => (.inr (Nat.le_trans (below_size (by repeat (first | (with_reducible first | exact HB.out | apply bA | apply bN | apply bD) | exact HB.out))) hn_))))) (below_size (by repeat (first | (with_reducible first | exact HB.out | apply bA | apply bN | apply bD) | exact HB.out)))); have n3_ := aM (Kd.V_lower (Kd.V_mono (ok' := fun k_ => ((P0_ k_ ∨ P1_ k_) ∨ w.heap.size ≤ k_)) ho1 (fun k_ hk_ => Or.elim hk_ (fun hs_ => Or.elim hs_ (fun hs_ => hs_) (fun hs_ => hs_)) (fun hn_ => (.inr (Nat.le_trans (below_size (by repeat (first | (with_reducible first | exact HB.out | apply bA | apply bN | apply bD) | exact HB.out))) hn_))))) (below_size (by repeat (first | (with_reducible first | exact HB.out | apply bA | apply bN | apply bD) | exact HB.out)))); have n4_ := aM (below_step (by repeat (first | (with_reducible first | exact HB.out | apply bA | apply bN | apply bD) | exact HB.out)) hb); clear HO0; clear HO1; clear HB; have HO0 := n0_; have HO1 := n1_; have HO120 := n2_; have HO123 := n3_; have HB := n4_; clear n0_ n1_ n2_ n3_ n4_; (try clear hb); (try clear hb2); (try clear hk); (try clear hi); (try clear ho0); (try clear ho1); (try simp only [errW_none, errW_some]); obtain ⟨Ao6, co6, eo6⟩ := Kd.V_slice HO120.out; subst eo6; obtain ⟨Ao7, co7, eo7⟩ := Kd.V_slice HO123.out; subst eo7))
    (try simp only [Act.put, List.setIfInBounds_toArray, List.set_cons_zero, List.set_cons_succ])
    go_cut [0, 1] (fun v0 v1 wc => ∃ (kq : Nat) (x0_3 : List Int) (x1_3 : List Int), Aside0 (nat_Add.j0 kq x0_3 x1_3 = some (r1, r2)) ∧ Aside0 (kq ≤ k) ∧ Aside0 (Kd.V (Kd.int .u64) 40 wc w.heap.size (fun k_ => ((P0_ k_ ∨ P1_ k_) ∨ w.heap.size ≤ k_)) v0 x0_3) ∧ Aside0 (Kd.V (Kd.int .u64) 40 wc w.heap.size (fun k_ => ((P0_ k_ ∨ P1_ k_) ∨ w.heap.size ≤ k_)) v1 x1_3) ∧ Aside0 (Below w.heap.size w wc))
    case first =>
      have H := HC4.out
      clear HC4
      by_cases c8 : (t118.length : Int) < (t121.length : Int)
      · rw [if_pos c8] at H
        have c8b0 : decide ((t118.length : Int) < (t121.length : Int)) = true := decide_eq_true c8
        have c8b1 : decide (t118.length < t121.length) = true := decide_eq_true (Int.ofNat_lt.mp c8)
        clear c8
        (first | rw [c8b0] | (simp only [i64_w, i32_w]; rw [c8b0]) | rw [c8b1] | rw [c8b2] | skip)
        have H' := aM H
        clear H
        go_wp2
        go_meet
        case rel => exact ⟨_, (t121), (t118), H', ⟨by first | omega | exact Nat.le_refl _⟩, ⟨by (with_reducible repeat (first | apply vA | apply vN | apply vD)); exact HO123.out⟩, ⟨by (with_reducible repeat (first | apply vA | apply vN | apply vD)); exact HO120.out⟩, ⟨by repeat (first | (with_reducible first | exact HB.out | apply bA | apply bN | apply bD) | exact HB.out)⟩⟩
      · rw [if_neg c8] at H
        have c8b0 : decide ((t118.length : Int) < (t121.length : Int)) = false := decide_eq_false c8
        have c8b1 : decide (t118.length < t121.length) = false := decide_eq_false (fun h => c8 (Int.ofNat_lt.mpr h))
        clear c8
        (first | rw [c8b0] | (simp only [i64_w, i32_w]; rw [c8b0]) | rw [c8b1] | rw [c8b2] | skip)
        have H' := aM H
        clear H
        go_wp2
        go_meet
        case rel => exact ⟨_, (t118), (t121), H', ⟨by first | omega | exact Nat.le_refl _⟩, ⟨by (with_reducible repeat (first | apply vA | apply vN | apply vD)); exact HO120.out⟩, ⟨by (with_reducible repeat (first | apply vA | apply vN | apply vD)); exact HO123.out⟩, ⟨by repeat (first | (with_reducible first | exact HB.out | apply bA | apply bN | apply bD) | exact HB.out)⟩⟩
    case rest =>
      clear HC4
      try clear c1
      try clear q1
      try clear p2
      try clear c6
      try clear c8
      try clear c8b0
      try clear c8b1
      try clear c8b2
      try clear q125
      obtain ⟨kq, x0_3, x1_3, HA, HJ3, HO_0, HO_1, HB⟩ := hcut
      cases kq with
      | zero => exact absurd HA.out (by simp [nat_Add.j0])
      | succ kj3 =>
        have H := HA.out
        clear HA
        simp only [nat_Add.j0] at H
        obtain ⟨ji9, hji9⟩ : ∃ j_ : Int, (wrap64 ((x0_3.length : Int) + 1)) = j_ := ⟨_, rfl⟩
        replace H : (if 0 ≤ (ji9) then (if (ji9 : Int).toNat ≤ 35184372088832 then (nat_Add.l0 kj3 x0_3 x1_3 (List.replicate (ji9 : Int).toNat 0) 0 (x0_3.length : Int) 0) else (none)) else (none)) = some (r1, r2) := by first | (rw [hji9] at H; exact H) | (simp only [hji9] at H ⊢; exact H)
        have hji9w : (IntKind.i64.wrap ((x0_3.length : Int) + 1)) = ji9 := (i64_w _).trans hji9
        by_cases c10 : 0 ≤ (ji9)
        · rw [if_pos c10] at H
          have c10b0 := eq_true c10
          have c10b1 : decide (0 ≤ (ji9)) = true := decide_eq_true c10
          clear c10
          by_cases c11 : (ji9 : Int).toNat ≤ 35184372088832
          · rw [if_pos c11] at H
            have c11b0 := eq_true c11
            have c11b1 : decide ((ji9 : Int).toNat ≤ 35184372088832) = true := decide_eq_true c11
            clear c11
            obtain ⟨y126, hy126⟩ : ∃ y_ : List Int, y_ = (List.replicate (ji9 : Int).toNat 0) := ⟨_, rfl⟩
            replace H : (nat_Add.l0 kj3 x0_3 x1_3 y126 0 (x0_3.length : Int) 0) = some (r1, r2) := by first | (rw [hy126]; with_reducible exact H) | (have H2_ := (Option.bind_some _ _).symm.trans H; rw [hy126]; with_reducible exact H2_) | (have H2_ := (Option.bind_some _ _).symm.trans H; with_reducible exact H2_) | with_reducible exact H | (rw [hy126]; exact H) | exact H
            have Ny126 := aM hy126
            clear hy126
            have H' := aM H
            clear H
            obtain ⟨Ao12, co12, eo12⟩ := Kd.V_slice HO_0.out
            subst eo12
            go_wp2_with (first | ((with_reducible refine gate_dst (N := 31) rfl ?_); refine Kd.R_make (Kd.int .u64) _ 40 rfl (N := 31) rfl 23 _ _ rfl ji9 rfl rfl Tryd.underlying23 (.int .u64 0) 8 info40 rfl (by decide) (by omega) 0 (ok := fun _ => True) (okp := fun _ => True) rfl (fun _ hk => hk) trivial (of_decide_eq_true (by first | (with_reducible assumption) | assumption)) (Nat.le_trans (Nat.mul_le_mul_right _ (of_decide_eq_true (by first | (with_reducible assumption) | assumption) : ji9.toNat ≤ 35184372088832)) (by omega)) (Below.refl _ _) (Nat.le_refl _) ?_; intro v127 w13 ho14 hb hg_ hnew_; clear hg_ hnew_; (first | rw [← Ny126.out] at ho14 | (simp only [Int.reduceToNat] at ho14; rw [← Ny126.out] at ho14)); have n0_ := aM (Kd.V_elder' (by (with_reducible repeat (first | apply vA | apply vN | apply vD)); exact HO_0.out) (Kd.R_base ho14) hb); have n1_ := aM (Kd.V_elder' (by (with_reducible repeat (first | apply vA | apply vN | apply vD)); exact HO_1.out) (Kd.R_base ho14) hb); have n2_ := aM (Kd.R_lower (Kd.R_newM (M := fun k_ => (w.heap.size ≤ k_)) ho14 (below_size (by repeat (first | (with_reducible first | exact HB.out | apply bA | apply bN | apply bD) | exact HB.out))) (fun k_ h_ => h_)) (below_size (by repeat (first | (with_reducible first | exact HB.out | apply bA | apply bN | apply bD) | exact HB.out)))); have n3_ := aM (below_step (by repeat (first | (with_reducible first | exact HB.out | apply bA | apply bN | apply bD) | exact HB.out)) hb); clear HO_0; clear HO_1; clear HB; have HO_0 := n0_; have HO_1 := n1_; have HO128 := n2_; have HB := n3_; clear n0_ n1_ n2_ n3_; clear hb ho14))
            go_loopg [8, 34] kj3 (fun kq v8 v34 w' => ∃ (x7_2 : List Int) (x8_2 : Int) (x34_2 : Int), v8 = .int .u64 x8_2 ∧ v34 = .int .i64 x34_2 ∧ Aside0 (nat_Add.l0 kq x0_3 x1_3 x7_2 x8_2 (x0_3.length : Int) x34_2 = some (r1, r2)) ∧ Aside0 (kq ≤ kj3) ∧ Aside0 (Kd.V (Kd.int .u64) 40 w' w.heap.size (fun k_ => ((P0_ k_ ∨ P1_ k_) ∨ w.heap.size ≤ k_) ∧ some k_ ≠ (v127 : Value).ownBlock) (.slice Ao12 x0_3.length co12) x0_3) ∧ Aside0 (Kd.V (Kd.int .u64) 40 w' w.heap.size (fun k_ => ((P0_ k_ ∨ P1_ k_) ∨ w.heap.size ≤ k_) ∧ some k_ ≠ (v127 : Value).ownBlock) u1 x1_3) ∧ Aside0 (Kd.R (Kd.int .u64) 40 w' w.heap.size (fun k_ => (w.heap.size ≤ k_)) v127 x7_2) ∧ Aside0 (Below w.heap.size w w'))
            case atStart => exact ⟨(y126), (0), (0), (by first | rfl | (simp; done) | (simp [*]; done)), (by first | rfl | (simp; done) | (simp [*]; done)), H', ⟨Nat.le_refl _⟩, ⟨by (with_reducible repeat (first | apply vA | apply vN | apply vD)); exact HO_0.out⟩, ⟨by (with_reducible repeat (first | apply vA | apply vN | apply vD)); exact HO_1.out⟩, ⟨by (with_reducible repeat (first | apply rA | apply rN | apply rD)); exact Kd.R_mono HO128.out (fun _ hk => hk.1)⟩, ⟨by repeat (first | (with_reducible first | exact HB.out | apply bA | apply bN | apply bD) | exact HB.out)⟩⟩
            case round =>
              clear H'
              try clear c1
              try clear q1
              try clear p2
              try clear c6
              try clear p6
              try clear c8
              try clear c8b0
              try clear c8b1
              try clear c8b2
              try clear c10
              try clear c10b0
              try clear c10b1
              try clear c11
              try clear c11b0
              try clear c11b1
              try clear q12
              try clear p2
              try clear q1
              try clear q125
              obtain ⟨x7_2, x8_2, x34_2, rfl, rfl, HA, HK2, HO_0, HO_1, HO_7, HB⟩ := hrel
              cases gk with
              | zero => exact absurd HA.out (by simp [nat_Add.l0])
              | succ k2 =>
                have H := HA.out
                clear HA
                simp only [nat_Add.l0] at H
                by_cases c15 : x34_2 < (x0_3.length : Int)
                · rw [if_pos c15] at H
                  have c15b0 : decide (x34_2 < (x0_3.length : Int)) = true := decide_eq_true c15
                  clear c15
                  by_cases c16 : x34_2 < (x1_3.length : Int)
                  · rw [if_pos c16] at H
                    have c16b0 : decide (x34_2 < (x1_3.length : Int)) = true := decide_eq_true c16
                    clear c16
                    by_cases c17 : 0 ≤ x34_2
                    · rw [if_pos c17] at H
                      have c17b0 : decide (0 ≤ x34_2) = true := decide_eq_true c17
                      clear c17
                      by_cases c18 : x34_2 < (x0_3.length : Int)
                      · rw [if_pos c18] at H
                        have c18b0 : decide (x34_2 < (x0_3.length : Int)) = true := decide_eq_true c18
                        clear c18
                        replace H := Option.bind_eq_some_iff.mp H
                        obtain ⟨⟨t131, t132⟩, A190, H⟩ := H
                        replace H : (if x34_2 < (x7_2.length : Int) then (nat_Add.l0 k2 x0_3 x1_3 (x7_2.set (x34_2 : Int).toNat t131) t132 (x0_3.length : Int) (wrap64 (x34_2 + 1))) else (none)) = some (r1, r2) := H
                        have A19 := aM A190
                        clear A190
                        by_cases c20 : x34_2 < (x7_2.length : Int)
                        · rw [if_pos c20] at H
                          have c20b0 : decide (x34_2 < (x7_2.length : Int)) = true := decide_eq_true c20
                          clear c20
                          obtain ⟨y133, hy133⟩ : ∃ y_ : List Int, y_ = (x7_2.set (x34_2 : Int).toNat t131) := ⟨_, rfl⟩
                          replace H : (nat_Add.l0 k2 x0_3 x1_3 y133 t132 (x0_3.length : Int) (wrap64 (x34_2 + 1))) = some (r1, r2) := by first | (rw [hy133]; with_reducible exact H) | (have H2_ := (Option.bind_some _ _).symm.trans H; rw [hy133]; with_reducible exact H2_) | (have H2_ := (Option.bind_some _ _).symm.trans H; with_reducible exact H2_) | with_reducible exact H | (rw [hy133]; exact H) | exact H
                          have Ny133 := aM hy133
                          clear hy133
                          have H' := aM H
                          clear H
                          obtain ⟨Ao22, co22, eo22⟩ := Kd.V_slice HO_1.out
                          subst eo22
                          have p129 : 0 ≤ (x34_2 : Int) := of_decide_eq_true (by first | (with_reducible assumption) | assumption)
                          have q129 : x34_2 < (x1_3.length : Int) := of_decide_eq_true (by first | (with_reducible assumption) | assumption)
                          obtain ⟨ad129, e129, hx129_0⟩ := Kd.at_int (Kd.V_reads' HO_1.out).2.2 x34_2 p129 q129
                          cases e129
                          replace p129 := eq_true p129
                          replace q129 := eq_true q129
                          have p130 : 0 ≤ (x34_2 : Int) := of_decide_eq_true (by first | (with_reducible assumption) | assumption)
                          have q130 : x34_2 < (x0_3.length : Int) := of_decide_eq_true (by first | (with_reducible assumption) | assumption)
                          obtain ⟨ad130, e130, hx130_0⟩ := Kd.at_int (Kd.V_reads' HO_0.out).2.2 x34_2 p130 q130
                          cases e130
                          replace p130 := eq_true p130
                          replace q130 := eq_true q130
                          go_wp2_with (first | ((with_reducible refine gate_callee (f := 17) rfl ?_); refine goesE_ (some 54) rfl rfl Tryd.func17 (by kernel_rfl) rfl #[.int .u64 (rd x0_3 x34_2), .int .u64 (rd x1_3 x34_2), .int .u64 x8_2] rfl (by (try simp only [mapA, mapB, mapC]); first | done | rfl | (simp only [lD, lT]; rfl) | (simp only [ge_iff_le, gt_iff_lt, *]; rfl)) ?_; (with_reducible refine (bits_Add64.calls (rd x0_3 x34_2) (rd x1_3 x34_2) x8_2 t131 t132 _ A19.out).mono ?_); rintro e w' ⟨rfl, ⟨nd, rfl⟩⟩; refine ⟨_, rfl, ?_⟩; (try (rw [drewN_self wr]; generalize hq_ : World.drewN wr _ = wr; have n0_ : Aside0 (Kd.V (Kd.int .u64) 40 wr w.heap.size (fun k_ => ((P0_ k_ ∨ P1_ k_) ∨ w.heap.size ≤ k_) ∧ some k_ ≠ (v127 : Value).ownBlock) (.slice (some ad130) x0_3.length co12) x0_3) := ⟨by rw [← hq_]; exact (by (with_reducible repeat (first | apply vA | apply vN | apply vD)); exact HO_0.out)⟩; have n1_ : Aside0 (Kd.V (Kd.int .u64) 40 wr w.heap.size (fun k_ => ((P0_ k_ ∨ P1_ k_) ∨ w.heap.size ≤ k_) ∧ some k_ ≠ (v127 : Value).ownBlock) (.slice (some ad129) x1_3.length co22) x1_3) := ⟨by rw [← hq_]; exact (by (with_reducible repeat (first | apply vA | apply vN | apply vD)); exact HO_1.out)⟩; have n2_ : Aside0 (Kd.R (Kd.int .u64) 40 wr w.heap.size (fun k_ => (w.heap.size ≤ k_)) v127 x7_2) := ⟨by rw [← hq_]; exact (by (with_reducible repeat (first | apply rA | apply rN | apply rD)); exact HO_7.out)⟩; have n3_ : Aside0 (Below w.heap.size w wr) := ⟨by rw [← hq_]; exact (by repeat (first | (with_reducible first | exact HB.out | apply bA | apply bN | apply bD) | exact HB.out))⟩; clear HO_0 HO_1 HO_7 HB hq_; have HO_0 := n0_; have HO_1 := n1_; have HO_7 := n2_; have HB := n3_; clear n0_ n1_ n2_ n3_)); have p21 : 0 ≤ (x34_2 : Int) := of_decide_eq_true (by first | (with_reducible assumption) | assumption); have q21 : (x34_2 : Int) < ((x7_2.length : Int) : Int) := of_decide_eq_true (by first | (with_reducible assumption) | assumption); obtain ⟨go21, co21, eo21, gb21, gl21, cl21, HG21⟩ := Kd.R_form HO_7.out (by omega); (first | cases eo21 | (injection eo21 with ea_ en_ ec_; (first | subst ea_ | (injection ea_ with ea_; subst ea_)); subst ec_; clear en_)); have GB21 := aM gb21; have GG21 := aM HG21; clear gb21 gl21 HG21; obtain ⟨hx21_0, hf21_0⟩ := Kd.R_celln 0 HO_7.out (x34_2 : Int) p21 q21; replace p21 := eq_true p21; replace q21 := eq_true q21; obtain ⟨hy23_, hz23_⟩ := Kd.R_celln 0 HO_7.out (x34_2 : Int) (of_decide_eq_true (by first | (with_reducible assumption) | assumption)) (of_decide_eq_true (by first | (with_reducible assumption) | assumption)); have HP23 := Kd.R_putg HO_7.out (x34_2 : Int) t131) | ((with_reducible refine gate_store (t := 40) (p := 57) rfl ?_); refine store_event (t := 40) (p := 57) (v := ?vo_w24) (w1 := (wr.setCell ⟨go21, (x34_2 : Int).toNat, none⟩ (.int .u64 t131))) ?hg ?ho ?hn ?hr ?_; (case ho => rfl); (case hg => rfl); (case hn => rfl); (case hr => first | (go_simp; done) | (go_simp; rfl)); intro w24 hw; have hg : wr.grownBy w24 (some go21) := (by rw [hw]; exact HP23.2); have hp_ : Kd.R (Kd.int .u64) 40 w24 w.heap.size (fun k_ => (w.heap.size ≤ k_)) (.slice (some ⟨go21, 0, none⟩) x7_2.length co21) y133 := (by rw [hw, Ny133.out]; exact HP23.1); clear HP23; have n0_ := aM (Kd.V_afterv (v := (.slice (some ⟨go21, 0, none⟩) x7_2.length co21)) (v1 := (.slice (some ⟨go21, 0, none⟩) x7_2.length co21)) (ok := (fun k_ => ((P0_ k_ ∨ P1_ k_) ∨ w.heap.size ≤ k_))) (by (with_reducible repeat (first | apply vA | apply vN | apply vD)); exact HO_0.out) hg (.inl rfl)); have n1_ := aM (Kd.V_afterv (v := (.slice (some ⟨go21, 0, none⟩) x7_2.length co21)) (v1 := (.slice (some ⟨go21, 0, none⟩) x7_2.length co21)) (ok := (fun k_ => ((P0_ k_ ∨ P1_ k_) ∨ w.heap.size ≤ k_))) (by (with_reducible repeat (first | apply vA | apply vN | apply vD)); exact HO_1.out) hg (.inl rfl)); have n2_ := aM (hp_); have n3_ := aM ((by rw [hw]; exact below_set (HB.out) GB21.out : Below w.heap.size w w24)); clear HO_0; clear HO_1; clear HO_7; clear HB; have HO_0 := n0_; have HO_1 := n1_; have HO_7 := n2_; have HB := n3_; clear n0_ n1_ n2_ n3_; clear hg hw hp_))
                          go_roundg k2
                          case measure => have := HJ3.out; have := HK2.out; omega
                          case rel => exact ⟨(y133), (t132), (wrap64 (x34_2 + 1)), (by first | rfl | (simp; done) | (simp [*]; done)), (by first | rfl | (simp; done) | (simp [*]; done)), H', ⟨by have := HJ3.out; have := HK2.out; omega⟩, ⟨by (with_reducible repeat (first | apply vA | apply vN | apply vD)); exact HO_0.out⟩, ⟨by (with_reducible repeat (first | apply vA | apply vN | apply vD)); exact HO_1.out⟩, ⟨by (with_reducible repeat (first | apply rA | apply rN | apply rD)); exact HO_7.out⟩, ⟨by repeat (first | (with_reducible first | exact HB.out | apply bA | apply bN | apply bD) | exact HB.out)⟩⟩
                        · rw [if_neg c20] at H
                          exact absurd H (by simp)
                      · rw [if_neg c18] at H
                        exact absurd H (by simp)
                    · rw [if_neg c17] at H
                      exact absurd H (by simp)
                  · rw [if_neg c16] at H
                    have c16b0 : decide (x34_2 < (x1_3.length : Int)) = false := decide_eq_false c16
                    clear c16
                    by_cases c25 : 0 ≤ x34_2
                    · rw [if_pos c25] at H
                      have c25b0 : decide (0 ≤ x34_2) = true := decide_eq_true c25
                      clear c25
                      by_cases c26 : x34_2 < (x0_3.length : Int)
                      · rw [if_pos c26] at H
                        have c26b0 : decide (x34_2 < (x0_3.length : Int)) = true := decide_eq_true c26
                        clear c26
                        replace H := Option.bind_eq_some_iff.mp H
                        obtain ⟨⟨t135, t136⟩, A270, H⟩ := H
                        replace H : (if x34_2 < (x7_2.length : Int) then (nat_Add.l0 k2 x0_3 x1_3 (x7_2.set (x34_2 : Int).toNat t135) t136 (x0_3.length : Int) (wrap64 (x34_2 + 1))) else (none)) = some (r1, r2) := H
                        have A27 := aM A270
                        clear A270
                        by_cases c28 : x34_2 < (x7_2.length : Int)
                        · rw [if_pos c28] at H
                          have c28b0 : decide (x34_2 < (x7_2.length : Int)) = true := decide_eq_true c28
                          clear c28
                          obtain ⟨y137, hy137⟩ : ∃ y_ : List Int, y_ = (x7_2.set (x34_2 : Int).toNat t135) := ⟨_, rfl⟩
                          replace H : (nat_Add.l0 k2 x0_3 x1_3 y137 t136 (x0_3.length : Int) (wrap64 (x34_2 + 1))) = some (r1, r2) := by first | (rw [hy137]; with_reducible exact H) | (have H2_ := (Option.bind_some _ _).symm.trans H; rw [hy137]; with_reducible exact H2_) | (have H2_ := (Option.bind_some _ _).symm.trans H; with_reducible exact H2_) | with_reducible exact H | (rw [hy137]; exact H) | exact H
                          have Ny137 := aM hy137
                          clear hy137
                          have H' := aM H
                          clear H
                          obtain ⟨Ao30, co30, eo30⟩ := Kd.V_slice HO_1.out
                          subst eo30
                          have p134 : 0 ≤ (x34_2 : Int) := of_decide_eq_true (by first | (with_reducible assumption) | assumption)
                          have q134 : x34_2 < (x0_3.length : Int) := of_decide_eq_true (by first | (with_reducible assumption) | assumption)
                          obtain ⟨ad134, e134, hx134_0⟩ := Kd.at_int (Kd.V_reads' HO_0.out).2.2 x34_2 p134 q134
                          cases e134
                          replace p134 := eq_true p134
                          replace q134 := eq_true q134
                          go_wp2_with (first | ((with_reducible refine gate_callee (f := 17) rfl ?_); refine goesE_ (some 54) rfl rfl Tryd.func17 (by kernel_rfl) rfl #[.int .u64 (rd x0_3 x34_2), .int .u64 0, .int .u64 x8_2] rfl (by (try simp only [mapA, mapB, mapC]); first | done | rfl | (simp only [lD, lT]; rfl) | (simp only [ge_iff_le, gt_iff_lt, *]; rfl)) ?_; (with_reducible refine (bits_Add64.calls (rd x0_3 x34_2) 0 x8_2 t135 t136 _ A27.out).mono ?_); rintro e w' ⟨rfl, ⟨nd, rfl⟩⟩; refine ⟨_, rfl, ?_⟩; (try (rw [drewN_self wr]; generalize hq_ : World.drewN wr _ = wr; have n0_ : Aside0 (Kd.V (Kd.int .u64) 40 wr w.heap.size (fun k_ => ((P0_ k_ ∨ P1_ k_) ∨ w.heap.size ≤ k_) ∧ some k_ ≠ (v127 : Value).ownBlock) (.slice (some ad134) x0_3.length co12) x0_3) := ⟨by rw [← hq_]; exact (by (with_reducible repeat (first | apply vA | apply vN | apply vD)); exact HO_0.out)⟩; have n1_ : Aside0 (Kd.V (Kd.int .u64) 40 wr w.heap.size (fun k_ => ((P0_ k_ ∨ P1_ k_) ∨ w.heap.size ≤ k_) ∧ some k_ ≠ (v127 : Value).ownBlock) (.slice Ao30 x1_3.length co30) x1_3) := ⟨by rw [← hq_]; exact (by (with_reducible repeat (first | apply vA | apply vN | apply vD)); exact HO_1.out)⟩; have n2_ : Aside0 (Kd.R (Kd.int .u64) 40 wr w.heap.size (fun k_ => (w.heap.size ≤ k_)) v127 x7_2) := ⟨by rw [← hq_]; exact (by (with_reducible repeat (first | apply rA | apply rN | apply rD)); exact HO_7.out)⟩; have n3_ : Aside0 (Below w.heap.size w wr) := ⟨by rw [← hq_]; exact (by repeat (first | (with_reducible first | exact HB.out | apply bA | apply bN | apply bD) | exact HB.out))⟩; clear HO_0 HO_1 HO_7 HB hq_; have HO_0 := n0_; have HO_1 := n1_; have HO_7 := n2_; have HB := n3_; clear n0_ n1_ n2_ n3_)); have p29 : 0 ≤ (x34_2 : Int) := of_decide_eq_true (by first | (with_reducible assumption) | assumption); have q29 : (x34_2 : Int) < ((x7_2.length : Int) : Int) := of_decide_eq_true (by first | (with_reducible assumption) | assumption); obtain ⟨go29, co29, eo29, gb29, gl29, cl29, HG29⟩ := Kd.R_form HO_7.out (by omega); (first | cases eo29 | (injection eo29 with ea_ en_ ec_; (first | subst ea_ | (injection ea_ with ea_; subst ea_)); subst ec_; clear en_)); have GB29 := aM gb29; have GG29 := aM HG29; clear gb29 gl29 HG29; obtain ⟨hx29_0, hf29_0⟩ := Kd.R_celln 0 HO_7.out (x34_2 : Int) p29 q29; replace p29 := eq_true p29; replace q29 := eq_true q29; obtain ⟨hy31_, hz31_⟩ := Kd.R_celln 0 HO_7.out (x34_2 : Int) (of_decide_eq_true (by first | (with_reducible assumption) | assumption)) (of_decide_eq_true (by first | (with_reducible assumption) | assumption)); have HP31 := Kd.R_putg HO_7.out (x34_2 : Int) t135) | ((with_reducible refine gate_store (t := 40) (p := 57) rfl ?_); refine store_event (t := 40) (p := 57) (v := ?vo_w32) (w1 := (wr.setCell ⟨go29, (x34_2 : Int).toNat, none⟩ (.int .u64 t135))) ?hg ?ho ?hn ?hr ?_; (case ho => rfl); (case hg => rfl); (case hn => rfl); (case hr => first | (go_simp; done) | (go_simp; rfl)); intro w32 hw; have hg : wr.grownBy w32 (some go29) := (by rw [hw]; exact HP31.2); have hp_ : Kd.R (Kd.int .u64) 40 w32 w.heap.size (fun k_ => (w.heap.size ≤ k_)) (.slice (some ⟨go29, 0, none⟩) x7_2.length co29) y137 := (by rw [hw, Ny137.out]; exact HP31.1); clear HP31; have n0_ := aM (Kd.V_afterv (v := (.slice (some ⟨go29, 0, none⟩) x7_2.length co29)) (v1 := (.slice (some ⟨go29, 0, none⟩) x7_2.length co29)) (ok := (fun k_ => ((P0_ k_ ∨ P1_ k_) ∨ w.heap.size ≤ k_))) (by (with_reducible repeat (first | apply vA | apply vN | apply vD)); exact HO_0.out) hg (.inl rfl)); have n1_ := aM (Kd.V_afterv (v := (.slice (some ⟨go29, 0, none⟩) x7_2.length co29)) (v1 := (.slice (some ⟨go29, 0, none⟩) x7_2.length co29)) (ok := (fun k_ => ((P0_ k_ ∨ P1_ k_) ∨ w.heap.size ≤ k_))) (by (with_reducible repeat (first | apply vA | apply vN | apply vD)); exact HO_1.out) hg (.inl rfl)); have n2_ := aM (hp_); have n3_ := aM ((by rw [hw]; exact below_set (HB.out) GB29.out : Below w.heap.size w w32)); clear HO_0; clear HO_1; clear HO_7; clear HB; have HO_0 := n0_; have HO_1 := n1_; have HO_7 := n2_; have HB := n3_; clear n0_ n1_ n2_ n3_; clear hg hw hp_))
                          go_roundg k2
                          case measure => have := HJ3.out; have := HK2.out; omega
                          case rel => exact ⟨(y137), (t136), (wrap64 (x34_2 + 1)), (by first | rfl | (simp; done) | (simp [*]; done)), (by first | rfl | (simp; done) | (simp [*]; done)), H', ⟨by have := HJ3.out; have := HK2.out; omega⟩, ⟨by (with_reducible repeat (first | apply vA | apply vN | apply vD)); exact HO_0.out⟩, ⟨by (with_reducible repeat (first | apply vA | apply vN | apply vD)); exact HO_1.out⟩, ⟨by (with_reducible repeat (first | apply rA | apply rN | apply rD)); exact HO_7.out⟩, ⟨by repeat (first | (with_reducible first | exact HB.out | apply bA | apply bN | apply bD) | exact HB.out)⟩⟩
                        · rw [if_neg c28] at H
                          exact absurd H (by simp)
                      · rw [if_neg c26] at H
                        exact absurd H (by simp)
                    · rw [if_neg c25] at H
                      exact absurd H (by simp)
                · rw [if_neg c15] at H
                  have c15b0 : decide (x34_2 < (x0_3.length : Int)) = false := decide_eq_false c15
                  clear c15
                  by_cases c33 : 0 ≤ (x0_3.length : Int)
                  · rw [if_pos c33] at H
                    have c33b0 : decide (0 ≤ (x0_3.length : Int)) = true := decide_eq_true c33
                    have c33b1 : decide (0 ≤ x0_3.length) = true := decide_eq_true (by omega)
                    clear c33
                    by_cases c34 : (x0_3.length : Int) < (x7_2.length : Int)
                    · rw [if_pos c34] at H
                      have c34b0 : decide ((x0_3.length : Int) < (x7_2.length : Int)) = true := decide_eq_true c34
                      have c34b1 : decide (x0_3.length < x7_2.length) = true := decide_eq_true (Int.ofNat_lt.mp c34)
                      clear c34
                      obtain ⟨y138, hy138⟩ : ∃ y_ : List Int, y_ = (x7_2.set ((x0_3.length : Int) : Int).toNat x8_2) := ⟨_, rfl⟩
                      replace H : ((nat_trim.f k2 y138).bind fun t139 => (some (t139, none))) = some (r1, r2) := by first | (rw [hy138]; with_reducible exact H) | (have H2_ := (Option.bind_some _ _).symm.trans H; rw [hy138]; with_reducible exact H2_) | (have H2_ := (Option.bind_some _ _).symm.trans H; with_reducible exact H2_) | with_reducible exact H | (rw [hy138]; exact H) | exact H
                      have Ny138 := aM hy138
                      clear hy138
                      replace H := Option.bind_eq_some_iff.mp H
                      obtain ⟨t139, A360, H⟩ := H
                      replace H : (some (t139, none)) = some (r1, r2) := H
                      have A36 := aM A360
                      clear A360
                      simp only [Option.some.injEq, Prod.mk.injEq] at H
                      obtain ⟨rfl, rfl⟩ := H
                      have p35 : 0 ≤ ((x0_3.length : Int) : Int) := of_decide_eq_true (by first | (with_reducible assumption) | assumption)
                      have q35 : ((x0_3.length : Int) : Int) < ((x7_2.length : Int) : Int) := of_decide_eq_true (by first | (with_reducible assumption) | assumption)
                      obtain ⟨go35, co35, eo35, gb35, gl35, cl35, HG35⟩ := Kd.R_form HO_7.out (by omega)
                      (first | cases eo35 | (injection eo35 with ea_ en_ ec_; (first | subst ea_ | (injection ea_ with ea_; subst ea_)); subst ec_; clear en_))
                      have GB35 := aM gb35
                      have GG35 := aM HG35
                      clear gb35 gl35 HG35
                      obtain ⟨hx35_0, hf35_0⟩ := Kd.R_celln 0 HO_7.out ((x0_3.length : Int) : Int) p35 q35
                      (try simp only [Go.IntWalk.toNatUp] at hx35_0 hf35_0)
                      replace p35 := eq_true p35
                      replace q35 := eq_true q35
                      have HP37 := Kd.R_putg HO_7.out ((x0_3.length : Int) : Int) x8_2
                      go_wp2_with (first | ((with_reducible refine gate_store (t := 40) (p := 63) rfl ?_); refine store_event (t := 40) (p := 63) (v := ?vo_w38) (w1 := (wr.setCell ⟨go35, ((x0_3.length : Int) : Int).toNat, none⟩ (.int .u64 x8_2))) ?hg ?ho ?hn ?hr ?_; (case ho => rfl); (case hg => rfl); (case hn => rfl); (case hr => first | (go_simp; done) | (go_simp; rfl)); intro w38 hw; have hg : wr.grownBy w38 (some go35) := (by rw [hw]; exact HP37.2); have hp_ : Kd.R (Kd.int .u64) 40 w38 w.heap.size (fun k_ => (w.heap.size ≤ k_)) (.slice (some ⟨go35, 0, none⟩) x7_2.length co35) y138 := (by rw [hw, Ny138.out]; exact HP37.1); clear HP37; have n0_ := aM (Kd.V_afterv (v := (.slice (some ⟨go35, 0, none⟩) x7_2.length co35)) (v1 := (.slice (some ⟨go35, 0, none⟩) x7_2.length co35)) (ok := (fun k_ => ((P0_ k_ ∨ P1_ k_) ∨ w.heap.size ≤ k_))) (by (with_reducible repeat (first | apply vA | apply vN | apply vD)); exact HO_0.out) hg (.inl rfl)); have n1_ := aM (Kd.V_afterv (v := (.slice (some ⟨go35, 0, none⟩) x7_2.length co35)) (v1 := (.slice (some ⟨go35, 0, none⟩) x7_2.length co35)) (ok := (fun k_ => ((P0_ k_ ∨ P1_ k_) ∨ w.heap.size ≤ k_))) (by (with_reducible repeat (first | apply vA | apply vN | apply vD)); exact HO_1.out) hg (.inl rfl)); have n2_ := aM (hp_); have n3_ := aM ((by rw [hw]; exact below_set (HB.out) GB35.out : Below w.heap.size w w38)); clear HO_0; clear HO_1; clear HO_7; clear HB; have HO_0 := n0_; have HO_1 := n1_; have HO_7 := n2_; have HB := n3_; clear n0_ n1_ n2_ n3_; clear hg hw hp_) | ((with_reducible refine gate_callee (f := 18) rfl ?_); refine goesL_ (some 65) rfl rfl Tryd.func18 (by kernel_rfl) rfl #[.slice (some ⟨go35, 0, none⟩) y138.length co35] rfl (by (try simp only [mapA, mapB, mapC]); first | done | (rw [show y138.length = x7_2.length from (Kd.R_reads' HO_7.out).1.symm] <;> rfl) | rfl | (simp only [lD, lT]; rfl) | (simp only [ge_iff_le, gt_iff_lt, *]; rfl)) ?_; (with_reducible refine (nat_trim.calls k2 (fun k_ => some k_ = (.slice (some ⟨go35, 0, none⟩) x7_2.length co35 : Value).ownBlock) _ _ y138 t139 _ ?side1 A36.out).mono ?_); (case side1 => rw [show y138.length = x7_2.length from (Kd.R_reads' HO_7.out).1.symm]; exact Kd.R_V (Kd.R_tight rfl (HO_7.out))); rintro e w39 ⟨v140, rfl, ho0, hb⟩; refine ⟨_, rfl, ?_⟩; have n0_ := aM (Kd.V_below (by (with_reducible repeat (first | apply vA | apply vN | apply vD)); exact HO_0.out) hb); have n1_ := aM (Kd.V_below (by (with_reducible repeat (first | apply vA | apply vN | apply vD)); exact HO_1.out) hb); have n2_ := aM (Kd.R_below (by (with_reducible repeat (first | apply rA | apply rN | apply rD)); exact HO_7.out) hb); have n3_ := aM (Kd.V_lower (Kd.V_mono (ok' := fun k_ => ((P0_ k_ ∨ P1_ k_) ∨ w.heap.size ≤ k_)) ho0 (fun k_ hk_ => Or.elim hk_ (fun hs_ => (.inr (((HO_7.out).1 k_ hs_.symm)))) (fun hn_ => (.inr (Nat.le_trans (below_size (by repeat (first | (with_reducible first | exact HB.out | apply bA | apply bN | apply bD) | exact HB.out))) hn_))))) (below_size (by repeat (first | (with_reducible first | exact HB.out | apply bA | apply bN | apply bD) | exact HB.out)))); have n4_ := aM (below_step (by repeat (first | (with_reducible first | exact HB.out | apply bA | apply bN | apply bD) | exact HB.out)) hb); clear HO_0; clear HO_1; clear HO_7; clear HB; have HO_0 := n0_; have HO_1 := n1_; have HO_7 := n2_; have HO141 := n3_; have HB := n4_; clear n0_ n1_ n2_ n3_ n4_; (try clear hb); (try clear hb2); (try clear hk); (try clear hi); (try clear ho0)))
                      go_ret2
                      exact ⟨_, by first | rfl | (simp [errW_none, errW_some] <;> rfl) | (simp only [← hji9]; first | rfl | (simp [errW_none, errW_some] <;> rfl)) | (simp [*, errW_none, errW_some] <;> rfl), by (with_reducible repeat (first | apply vA | apply vN | apply vD)); exact HO141.out, by repeat (first | (with_reducible first | exact HB.out | apply bA | apply bN | apply bD) | exact HB.out)⟩
                    · rw [if_neg c34] at H
                      exact absurd H (by simp)
                  · rw [if_neg c33] at H
                    exact absurd H (by simp)
          · rw [if_neg c11] at H
            exact absurd H (by simp)
        · rw [if_neg c10] at H
          exact absurd H (by simp)
  · have H1 : (some (([] : List Int), some q125)) = some (r1, r2) := by rw [if_neg (show ¬ (some q125).isNone = true by simp)] at H; exact H
    clear H
    have H := H1
    clear H1
    try simp only [errW_none, errW_some]
    simp only [Option.some.injEq, Prod.mk.injEq] at H
    obtain ⟨rfl, rfl⟩ := H
    go_enter Tryd.func6, Tryd.ntmps6
    go_wp2_with (first | ((with_reducible refine gate_callee (f := 16) rfl ?_); refine goesL_ (some 14) rfl rfl Tryd.func16 (by kernel_rfl) rfl #[.slice A0 l0.length c0, .slice A1 l1.length c1] rfl (by (try simp only [mapA, mapB, mapC]); first | done | rfl | (simp only [lD, lT]; rfl) | (simp only [ge_iff_le, gt_iff_lt, *]; rfl)) ?_; (with_reducible refine (nat_both.calls k (fun k_ => ((P0_ k_ ∨ P1_ k_) ∨ w.heap.size ≤ k_)) _ _ l0 (fun k_ => ((P0_ k_ ∨ P1_ k_) ∨ w.heap.size ≤ k_)) _ _ l1 t118 t121 (some q125) _ ?side1 ?side2 A3.out).mono ?_); (case side1 => exact HO0.out); (case side2 => exact HO1.out); rintro e w40 ⟨v119, v122, rfl, ho0, ho1, hb⟩; refine ⟨_, rfl, ?_⟩; have n0_ := aM (Kd.V_below (by (with_reducible repeat (first | apply vA | apply vN | apply vD)); exact HO0.out) hb); have n1_ := aM (Kd.V_below (by (with_reducible repeat (first | apply vA | apply vN | apply vD)); exact HO1.out) hb); have n2_ := aM (Kd.V_lower (Kd.V_mono (ok' := fun k_ => ((P0_ k_ ∨ P1_ k_) ∨ w.heap.size ≤ k_)) ho0 (fun k_ hk_ => Or.elim hk_ (fun hs_ => Or.elim hs_ (fun hs_ => hs_) (fun hs_ => hs_)) (fun hn_ => (.inr (Nat.le_trans (below_size (by repeat (first | (with_reducible first | exact HB.out | apply bA | apply bN | apply bD) | exact HB.out))) hn_))))) (below_size (by repeat (first | (with_reducible first | exact HB.out | apply bA | apply bN | apply bD) | exact HB.out)))); have n3_ := aM (Kd.V_lower (Kd.V_mono (ok' := fun k_ => ((P0_ k_ ∨ P1_ k_) ∨ w.heap.size ≤ k_)) ho1 (fun k_ hk_ => Or.elim hk_ (fun hs_ => Or.elim hs_ (fun hs_ => hs_) (fun hs_ => hs_)) (fun hn_ => (.inr (Nat.le_trans (below_size (by repeat (first | (with_reducible first | exact HB.out | apply bA | apply bN | apply bD) | exact HB.out))) hn_))))) (below_size (by repeat (first | (with_reducible first | exact HB.out | apply bA | apply bN | apply bD) | exact HB.out)))); have n4_ := aM (below_step (by repeat (first | (with_reducible first | exact HB.out | apply bA | apply bN | apply bD) | exact HB.out)) hb); clear HO0; clear HO1; clear HB; have HO0 := n0_; have HO1 := n1_; have HO120 := n2_; have HO123 := n3_; have HB := n4_; clear n0_ n1_ n2_ n3_ n4_; (try clear hb); (try clear hb2); (try clear hk); (try clear hi); (try clear ho0); (try clear ho1); (try simp only [errW_none, errW_some])))
    go_ret2
    exact ⟨_, by first | rfl | (simp [errW_none, errW_some] <;> rfl) | (simp [*, errW_none, errW_some] <;> rfl), Kd.V_nil _ _ _ _ _, by repeat (first | (with_reducible first | exact HB.out | apply bA | apply bN | apply bD) | exact HB.out)⟩

/-! ### nat_Bits: function 14 -/
def nat_Bits.f (k : Nat) (l0 : List Int) : Option (Int) := (nat_trim.f k l0).bind fun t142 => (if (t142.length : Int) = 0 then (some 0) else (if 0 ≤ (wrap64 ((t142.length : Int) - 1)) then (if (wrap64 ((t142.length : Int) - 1)) < (t142.length : Int) then ((bits_Len64.f (rd t142 (wrap64 ((t142.length : Int) - 1)))).bind fun t146 => (some (wrap64 ((wrap64 (64 * (wrap64 ((t142.length : Int) - 1)))) + t146)))) else (none)) else (none)))
theorem nat_Bits.mono : ∀ a0 k, LeO (nat_Bits.f k a0) (nat_Bits.f (k + 1) a0) := by
  intro a0 k
  unfold nat_Bits.f
  repeat' first
      | (with_reducible exact nat_trim.mono _ _)
      | (with_reducible exact LeO.refl _)
      | (with_reducible exact LeO.none _)
      | (with_reducible refine LeO.ite ?_ ?_)
      | (with_reducible refine LeO.bind ?_ (fun _ => ?_))
      | exact nat_trim.mono _ _
      | exact LeO.none _
      | refine LeO.ite ?_ ?_
      | refine LeO.bind ?_ (fun _ => ?_)
set_option maxHeartbeats 8000000 in
set_option maxRecDepth 100000 in
theorem nat_Bits.calls (k : Nat) (A0 : Option Addr) (c0 : Nat) (l0 : List Int) (r : Int) (w : World) (hr0 : Kd.C (Kd.int .u64) w A0 l0.length l0) (hc0 : l0.length ≤ c0) (h : nat_Bits.f k l0 = some r) :
    Calls Tryd.prog 14 #[.slice A0 l0.length c0] w fun e w' => e = .returned (.int .i64 r) ∧ Below w.heap.size w w' := by
  have HR0 := aM hr0
  have HC0 := aM hc0
  clear hr0 hc0
  have HB := aM (Below.refl w.heap.size w)
  have H : ((nat_trim.f k l0).bind fun t142 => (if (t142.length : Int) = 0 then (some 0) else (if 0 ≤ (wrap64 ((t142.length : Int) - 1)) then (if (wrap64 ((t142.length : Int) - 1)) < (t142.length : Int) then ((bits_Len64.f (rd t142 (wrap64 ((t142.length : Int) - 1)))).bind fun t146 => (some (wrap64 ((wrap64 (64 * (wrap64 ((t142.length : Int) - 1)))) + t146)))) else (none)) else (none)))) = some r := h
  clear h
  replace H := Option.bind_eq_some_iff.mp H
  obtain ⟨t142, A20, H⟩ := H
  replace H : (if (t142.length : Int) = 0 then (some 0) else (if 0 ≤ (wrap64 ((t142.length : Int) - 1)) then (if (wrap64 ((t142.length : Int) - 1)) < (t142.length : Int) then ((bits_Len64.f (rd t142 (wrap64 ((t142.length : Int) - 1)))).bind fun t146 => (some (wrap64 ((wrap64 (64 * (wrap64 ((t142.length : Int) - 1)))) + t146)))) else (none)) else (none))) = some r := H
  have A2 := aM A20
  clear A20
  by_cases c3 : (t142.length : Int) = 0
  · rw [if_pos c3] at H
    have c3b0 : ((t142.length : Int) == 0) = true := beq_iff_eq.mpr c3
    have c3b1 : ((t142.length : Int) != 0) = false := bne_eq_false_iff_eq.mpr c3
    clear c3
    obtain rfl := Option.some.inj H
    go_enter Tryd.func14, Tryd.ntmps14
    go_wp2_with (first | ((with_reducible refine gate_callee (f := 18) rfl ?_); refine goesL_ (some 4) rfl rfl Tryd.func18 (by kernel_rfl) rfl #[.slice A0 l0.length c0] rfl (by (try simp only [mapA, mapB, mapC]); first | done | rfl | (simp only [lD, lT]; rfl) | (simp only [ge_iff_le, gt_iff_lt, *]; rfl)) ?_; (with_reducible refine (nat_trim.calls k (fun k_ => k_ < w.heap.size) _ _ l0 t142 _ ?side1 A2.out).mono ?_); (case side1 => exact Kd.V_mk HC0.out (Kd.F_below (Kd.C_F (Kd.heap_int .u64) HR0.out) (by repeat (first | (with_reducible first | exact HB.out | apply bA | apply bN | apply bD) | exact HB.out)))); rintro e w4 ⟨v143, rfl, ho0, hb⟩; refine ⟨_, rfl, ?_⟩; have n0_ := aM (Kd.V_lower (Kd.V_mono (ok' := fun k_ => True) ho0 (fun k_ hk_ => trivial)) (below_size (by repeat (first | (with_reducible first | exact HB.out | apply bA | apply bN | apply bD) | exact HB.out)))); have n1_ := aM (below_step (by repeat (first | (with_reducible first | exact HB.out | apply bA | apply bN | apply bD) | exact HB.out)) hb); clear HB; have HO144 := n0_; have HB := n1_; clear n0_ n1_; (try clear hb); (try clear hb2); (try clear hk); (try clear hi); (try clear ho0); obtain ⟨Ao5, co5, eo5⟩ := Kd.V_slice HO144.out; subst eo5))
    go_ret
    exact ⟨by first | rfl | (simp [errW_none, errW_some] <;> rfl) | (simp [*, errW_none, errW_some] <;> rfl), by repeat (first | (with_reducible first | exact HB.out | apply bA | apply bN | apply bD) | exact HB.out)⟩
  · rw [if_neg c3] at H
    have c3b0 : ((t142.length : Int) == 0) = false := beq_eq_false_iff_ne.mpr c3
    have c3b1 : ((t142.length : Int) != 0) = true := bne_iff_ne.mpr c3
    have c3b2 : ¬ (t142 = []) := fun h_ => c3 (by rw [h_]; rfl)
    obtain ⟨ji6, hji6⟩ : ∃ j_ : Int, (wrap64 ((t142.length : Int) - 1)) = j_ := ⟨_, rfl⟩
    replace H : (if 0 ≤ (ji6) then (if (ji6) < (t142.length : Int) then ((bits_Len64.f (rd t142 (ji6))).bind fun t146 => (some (wrap64 ((wrap64 (64 * (ji6))) + t146)))) else (none)) else (none)) = some r := by first | (rw [hji6] at H; exact H) | (simp only [hji6] at H ⊢; exact H)
    (try rw [hji6] at A2)
    have hji6w : (IntKind.i64.wrap ((t142.length : Int) - 1)) = ji6 := (i64_w _).trans hji6
    by_cases c7 : 0 ≤ (ji6)
    · rw [if_pos c7] at H
      have c7b0 : decide (0 ≤ (ji6)) = true := decide_eq_true c7
      clear c7
      by_cases c8 : (ji6) < (t142.length : Int)
      · rw [if_pos c8] at H
        have c8b0 : decide ((ji6) < (t142.length : Int)) = true := decide_eq_true c8
        clear c8
        replace H := Option.bind_eq_some_iff.mp H
        obtain ⟨t146, A90, H⟩ := H
        replace H : (some (wrap64 ((wrap64 (64 * (ji6))) + t146))) = some r := H
        have A9 := aM A90
        clear A90
        obtain rfl := Option.some.inj H
        go_enter Tryd.func14, Tryd.ntmps14
        go_wp2_with (first | ((with_reducible refine gate_callee (f := 18) rfl ?_); refine goesL_ (some 4) rfl rfl Tryd.func18 (by kernel_rfl) rfl #[.slice A0 l0.length c0] rfl (by (try simp only [mapA, mapB, mapC]); first | done | rfl | (simp only [lD, lT]; rfl) | (simp only [ge_iff_le, gt_iff_lt, *]; rfl)) ?_; (with_reducible refine (nat_trim.calls k (fun k_ => k_ < w.heap.size) _ _ l0 t142 _ ?side1 A2.out).mono ?_); (case side1 => exact Kd.V_mk HC0.out (Kd.F_below (Kd.C_F (Kd.heap_int .u64) HR0.out) (by repeat (first | (with_reducible first | exact HB.out | apply bA | apply bN | apply bD) | exact HB.out)))); rintro e w10 ⟨v143, rfl, ho0, hb⟩; refine ⟨_, rfl, ?_⟩; have n0_ := aM (Kd.V_lower (Kd.V_mono (ok' := fun k_ => True) ho0 (fun k_ hk_ => trivial)) (below_size (by repeat (first | (with_reducible first | exact HB.out | apply bA | apply bN | apply bD) | exact HB.out)))); have n1_ := aM (below_step (by repeat (first | (with_reducible first | exact HB.out | apply bA | apply bN | apply bD) | exact HB.out)) hb); clear HB; have HO144 := n0_; have HB := n1_; clear n0_ n1_; (try clear hb); (try clear hb2); (try clear hk); (try clear hi); (try clear ho0); obtain ⟨Ao11, co11, eo11⟩ := Kd.V_slice HO144.out; subst eo11; have p145 : 0 ≤ ((ji6) : Int) := of_decide_eq_true (by first | (with_reducible assumption) | assumption); have q145 : (ji6) < (t142.length : Int) := of_decide_eq_true (by first | (with_reducible assumption) | assumption); obtain ⟨ad145, e145, hx145_0⟩ := Kd.at_int (Kd.V_reads' HO144.out).2.2 (ji6) p145 q145; cases e145; replace p145 := eq_true p145; replace q145 := eq_true q145) | ((with_reducible refine gate_callee (f := 28) rfl ?_); refine goesL_ (some 18) rfl rfl Tryd.func28 (by kernel_rfl) rfl #[.int .u64 (rd t142 (ji6))] rfl (by (try simp only [mapA, mapB, mapC]); first | done | (simp only [hji6]; rfl) | rfl | (simp only [lD, lT]; rfl) | (simp only [ge_iff_le, gt_iff_lt, *]; rfl)) ?_; (with_reducible refine (bits_Len64.calls (rd t142 (ji6)) t146 _ A9.out).mono ?_); rintro e w' ⟨rfl, ⟨nd, rfl⟩⟩; refine ⟨_, rfl, ?_⟩))
        go_ret
        exact ⟨by first | rfl | (simp [errW_none, errW_some] <;> rfl) | (simp only [← hji6]; first | rfl | (simp [errW_none, errW_some] <;> rfl)) | (simp [*, errW_none, errW_some] <;> rfl), by repeat (first | (with_reducible first | exact HB.out | apply bA | apply bN | apply bD) | exact HB.out)⟩
      · rw [if_neg c8] at H
        exact absurd H (by simp)
    · rw [if_neg c7] at H
      exact absurd H (by simp)

end Go.Proofs.YtolflieiipnndaaDoor.X
