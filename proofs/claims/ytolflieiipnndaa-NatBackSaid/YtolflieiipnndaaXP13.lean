-- printed by wip/xprint.py, a program of ours over the kit's print. Not trusted: Lean checks it.
import Derived.Test.YtolflieiipnndaaMg23
import Derived.Test.YtolflieiipnndaaXP1
import Derived.Test.YtolflieiipnndaaXP3
import Derived.Test.YtolflieiipnndaaXP4
import Derived.Test.YtolflieiipnndaaXP6
import Derived.Test.YtolflieiipnndaaMg25
namespace Go.Proofs.Ytolflieiipnndaa.X
open Go.RowKit Go.Proofs.YtolflieiipnndaaW.PrintWords Go.Proofs.YtolflieiipnndaaW.PrintLast Go.Proofs.YtolflieiipnndaaW.PrintMore
attribute [local go_sem] max2_int min2_int max_two min_two max_three min_three max_four min_four   -- for this text's walks alone
set_option linter.unusedVariables false
set_option linter.unusedSimpArgs false

attribute [local go_sem] eql_code neq_code eql_nil_code neq_nil_code
/-! ### nat_Mul: function 32 -/
mutual
def nat_Mul.l0 : Nat → List Int → List Int → List Int → Int → Int → Option (List Int × Option Int)
 | 0, _, _, _, _, _ => none
 | k + 1, x1, x7, x32, x33, x34 => if x34 < x33 then (if 0 ≤ x34 then (if x34 < (x32.length : Int) then (nat_Mul.l1 k x1 x7 x34 (rd x32 x34) 0 x32 x33 x34 x1 (x1.length : Int) 0) else (none)) else (none)) else ((nat_trim.f k x7).bind fun t434 => (some (t434, none)))
def nat_Mul.l1 : Nat → List Int → List Int → Int → Int → Int → List Int → Int → Int → List Int → Int → Int → Option (List Int × Option Int)
 | 0, _, _, _, _, _, _, _, _, _, _, _ => none
 | k + 1, x1, x7, x8, x9, x10, x32, x33, x34, x39, x40, x41 => if x41 < x40 then (if 0 ≤ x41 then (if x41 < (x39.length : Int) then ((bits_Mul64.f x9 (rd x39 x41)).bind fun bt439 => (if 0 ≤ (wrap64 (x8 + x41)) then (if (wrap64 (x8 + x41)) < (x7.length : Int) then ((bits_Add64.f bt439.2 (rd x7 (wrap64 (x8 + x41))) 0).bind fun bt442 => ((bits_Add64.f bt442.1 x10 0).bind fun bt444 => (nat_Mul.l1 k x1 (x7.set ((wrap64 (x8 + x41)) : Int).toNat bt444.1) x8 x9 (IntKind.u64.wrap ((IntKind.u64.wrap (bt439.1 + bt442.2)) + bt444.2)) x32 x33 x34 x39 x40 (wrap64 (x41 + 1))))) else (none)) else (none))) else (none)) else (none)) else (if 0 ≤ (wrap64 (x8 + (x1.length : Int))) then (if (wrap64 (x8 + (x1.length : Int))) < (x7.length : Int) then (nat_Mul.l0 k x1 (x7.set ((wrap64 (x8 + (x1.length : Int))) : Int).toNat x10) x32 x33 (wrap64 (x34 + 1))) else (none)) else (none))
end
def nat_Mul.f (k : Nat) (l0 : List Int) (l1 : List Int) : Option (List Int × Option Int) := (nat_both.f k l0 l1).bind fun bt423 => (if bt423.2.2.isNone = true then (if 0 ≤ (wrap64 ((bt423.1.length : Int) + (bt423.2.1.length : Int))) then (if (wrap64 ((bt423.1.length : Int) + (bt423.2.1.length : Int)) : Int).toNat ≤ 35184372088832 then (nat_Mul.l0 k bt423.2.1 (List.replicate (wrap64 ((bt423.1.length : Int) + (bt423.2.1.length : Int)) : Int).toNat 0) bt423.1 (bt423.1.length : Int) 0) else (none)) else (none)) else (some (([] : List Int), some (bt423.2.2.getD 0))))
set_option maxHeartbeats 8000000 in
set_option maxRecDepth 100000 in
theorem nat_Mul.calls (k : Nat) (P0_ : Nat → Prop) (A0 : Option Addr) (c0 : Nat) (l0 : List Int) (P1_ : Nat → Prop) (A1 : Option Addr) (c1 : Nat) (l1 : List Int) (r1 : List Int) (r2 : Option Int) (w : World) (hs0 : Kd.V (Kd.int .u64) 46 w w.heap.size (fun k_ => P0_ k_) (.slice A0 l0.length c0) l0) (hs1 : Kd.V (Kd.int .u64) 46 w w.heap.size (fun k_ => P1_ k_) (.slice A1 l1.length c1) l1) (h : nat_Mul.f k l0 l1 = some (r1, r2)) :
  Calls Try.prog 32 #[.slice A0 l0.length c0, .slice A1 l1.length c1] w fun e w' => ∃ v0_ : Value, e = .returned (.tuple #[v0_, errW r2]) ∧ Kd.V (Kd.int .u64) 46 w' w.heap.size (fun k_ => ((P0_ k_ ∨ P1_ k_) ∨ w.heap.size ≤ k_)) v0_ r1 ∧ Below w.heap.size w w' := by
 have hu27 := Try.underlying27
 have hu32 := Try.underlying32
 have HO0 := aM (show Kd.V (Kd.int .u64) 46 w w.heap.size (fun k_ => ((P0_ k_ ∨ P1_ k_) ∨ w.heap.size ≤ k_)) (.slice A0 l0.length c0) l0 from Kd.V_mono hs0 (fun k_ hk => .inl (.inl hk)))
 have HO1 := aM (show Kd.V (Kd.int .u64) 46 w w.heap.size (fun k_ => ((P0_ k_ ∨ P1_ k_) ∨ w.heap.size ≤ k_)) (.slice A1 l1.length c1) l1 from Kd.V_mono hs1 (fun k_ hk => .inl (.inr hk)))
 have HB := aM (Below.refl w.heap.size w)
 have H : ((nat_both.f k l0 l1).bind fun bt423 => (if bt423.2.2.isNone = true then (if 0 ≤ (wrap64 ((bt423.1.length : Int) + (bt423.2.1.length : Int))) then (if (wrap64 ((bt423.1.length : Int) + (bt423.2.1.length : Int)) : Int).toNat ≤ 35184372088832 then (nat_Mul.l0 k bt423.2.1 (List.replicate (wrap64 ((bt423.1.length : Int) + (bt423.2.1.length : Int)) : Int).toNat 0) bt423.1 (bt423.1.length : Int) 0) else (none)) else (none)) else (some (([] : List Int), some (bt423.2.2.getD 0))))) = some (r1, r2) := h
 clear h
 replace H := Option.bind_eq_some_iff.mp H
 obtain ⟨⟨t423, t426, t429⟩, A30, H⟩ := H
 replace H : (if t429.isNone = true then (if 0 ≤ (wrap64 ((t423.length : Int) + (t426.length : Int))) then (if (wrap64 ((t423.length : Int) + (t426.length : Int)) : Int).toNat ≤ 35184372088832 then (nat_Mul.l0 k t426 (List.replicate (wrap64 ((t423.length : Int) + (t426.length : Int)) : Int).toNat 0) t423 (t423.length : Int) 0) else (none)) else (none)) else (some (([] : List Int), some (t429.getD 0)))) = some (r1, r2) := H
 have A3 := aM A30
 clear A30
 rcases t429 with _ | q430
 ·have H1 : (if 0 ≤ (wrap64 ((t423.length : Int) + (t426.length : Int))) then (if (wrap64 ((t423.length : Int) + (t426.length : Int)) : Int).toNat ≤ 35184372088832 then (nat_Mul.l0 k t426 (List.replicate (wrap64 ((t423.length : Int) + (t426.length : Int)) : Int).toNat 0) t423 (t423.length : Int) 0) else (none)) else (none)) = some (r1, r2) := by rw [if_pos (show (none : Option Int).isNone = true by rfl)] at H; exact H
  clear H
  have H := H1
  clear H1
  try simp only [errW_none, errW_some]
  obtain ⟨ji4, hji4⟩ : ∃ j_ : Int, (wrap64 ((t423.length : Int) + (t426.length : Int))) = j_ := ⟨_, rfl⟩
  replace H : (if 0 ≤ (ji4) then (if (ji4 : Int).toNat ≤ 35184372088832 then (nat_Mul.l0 k t426 (List.replicate (ji4 : Int).toNat 0) t423 (t423.length : Int) 0) else (none)) else (none)) = some (r1, r2) := by first | (rw [hji4] at H; exact H) | (simp only [hji4] at H ⊢; exact H)
  (try rw [hji4] at A3)
  have hji4w : (IntKind.i64.wrap ((t423.length : Int) + (t426.length : Int))) = ji4 := (i64_w _).trans hji4
  by_cases c5 : 0 ≤ (ji4)
  ·rw [if_pos c5] at H
   have c5b0 := eq_true c5
   have c5b1 : decide (0 ≤ (ji4)) = true := decide_eq_true c5
   clear c5
   by_cases c6 : (ji4 : Int).toNat ≤ 35184372088832
   ·rw [if_pos c6] at H
    have c6b0 := eq_true c6
    have c6b1 : decide ((ji4 : Int).toNat ≤ 35184372088832) = true := decide_eq_true c6
    clear c6
    obtain ⟨y431, hy431⟩ : ∃ y_ : List Int, y_ = (List.replicate (ji4 : Int).toNat 0) := ⟨_, rfl⟩
    replace H : (nat_Mul.l0 k t426 y431 t423 (t423.length : Int) 0) = some (r1, r2) := by first | (rw [hy431]; with_reducible exact H) | (have H2_ := (Option.bind_some _ _).symm.trans H; rw [hy431]; with_reducible exact H2_) | (have H2_ := (Option.bind_some _ _).symm.trans H; with_reducible exact H2_) | with_reducible exact H | (rw [hy431]; exact H) | exact H
    have Ny431 := aM hy431
    clear hy431
    have H' := aM H
    clear H
    go_enter Try.func32, Try.ntmps32
    go_wp2_with (first | ((with_reducible refine gate_callee (f := 38) rfl ?_); refine goesL_ (some 19) rfl rfl Try.func38 (by kernel_rfl) rfl #[.slice A0 l0.length c0, .slice A1 l1.length c1] rfl (by (try simp only [mapA, mapB, mapC]); first | done | rfl | (simp only [lD, lT]; rfl) | (simp only [ge_iff_le, gt_iff_lt, *]; rfl)) ?_; (with_reducible refine (nat_both.calls k (fun k_ => ((P0_ k_ ∨ P1_ k_) ∨ w.heap.size ≤ k_)) _ _ l0 (fun k_ => ((P0_ k_ ∨ P1_ k_) ∨ w.heap.size ≤ k_)) _ _ l1 t423 t426 none _ ?side1 ?side2 A3.out).mono ?_); (case side1 => exact HO0.out); (case side2 => exact HO1.out); rintro e w7 ⟨v424, v427, rfl, ho0, ho1, hb⟩; refine ⟨_, rfl, ?_⟩; have n0_ := aM (Kd.V_below (by (with_reducible repeat (first | apply vA | apply vN | apply vD)); exact HO0.out) hb); have n1_ := aM (Kd.V_below (by (with_reducible repeat (first | apply vA | apply vN | apply vD)); exact HO1.out) hb); have n2_ := aM (Kd.V_lower (Kd.V_mono (ok' := fun k_ => ((P0_ k_ ∨ P1_ k_) ∨ w.heap.size ≤ k_)) ho0 (fun k_ hk_ => Or.elim hk_ (fun hs_ => Or.elim hs_ (fun hs_ => hs_) (fun hs_ => hs_)) (fun hn_ => (.inr (Nat.le_trans (below_size (by repeat (first | (with_reducible first | exact HB.out | apply bA | apply bN | apply bD) | exact HB.out))) hn_))))) (below_size (by repeat (first | (with_reducible first | exact HB.out | apply bA | apply bN | apply bD) | exact HB.out)))); have n3_ := aM (Kd.V_lower (Kd.V_mono (ok' := fun k_ => ((P0_ k_ ∨ P1_ k_) ∨ w.heap.size ≤ k_)) ho1 (fun k_ hk_ => Or.elim hk_ (fun hs_ => Or.elim hs_ (fun hs_ => hs_) (fun hs_ => hs_)) (fun hn_ => (.inr (Nat.le_trans (below_size (by repeat (first | (with_reducible first | exact HB.out | apply bA | apply bN | apply bD) | exact HB.out))) hn_))))) (below_size (by repeat (first | (with_reducible first | exact HB.out | apply bA | apply bN | apply bD) | exact HB.out)))); have n4_ := aM (below_step (by repeat (first | (with_reducible first | exact HB.out | apply bA | apply bN | apply bD) | exact HB.out)) hb); clear HO0; clear HO1; clear HB; have HO0 := n0_; have HO1 := n1_; have HO425 := n2_; have HO428 := n3_; have HB := n4_; clear n0_ n1_ n2_ n3_ n4_; (try clear hb); (try clear hb2); (try clear hk); (try clear hi); (try clear ho0); (try clear ho1); (try simp only [errW_none, errW_some]); obtain ⟨Ao8, co8, eo8⟩ := Kd.V_slice HO425.out; subst eo8; obtain ⟨Ao9, co9, eo9⟩ := Kd.V_slice HO428.out; subst eo9) | ((with_reducible refine gate_dst (N := 31) rfl ?_); refine Kd.R_make (Kd.int .u64) _ 46 rfl (N := 31) rfl 23 _ _ rfl ji4 rfl rfl Try.underlying23 (.int .u64 0) 8 info46 rfl (by decide) (by omega) 0 (ok := fun _ => True) (okp := fun _ => True) rfl (fun _ hk => hk) trivial (of_decide_eq_true (by first | (with_reducible assumption) | assumption)) (Nat.le_trans (Nat.mul_le_mul_right _ (of_decide_eq_true (by first | (with_reducible assumption) | assumption) : ji4.toNat ≤ 35184372088832)) (by omega)) (Below.refl _ _) (Nat.le_refl _) ?_; intro v432 w10 ho11 hb hg_ hnew_; clear hg_ hnew_; (first | rw [← Ny431.out] at ho11 | (simp only [Int.reduceToNat] at ho11; rw [← Ny431.out] at ho11)); have n0_ := aM (Kd.V_elder' (by (with_reducible repeat (first | apply vA | apply vN | apply vD)); exact HO0.out) (Kd.R_base ho11) hb); have n1_ := aM (Kd.V_elder' (by (with_reducible repeat (first | apply vA | apply vN | apply vD)); exact HO1.out) (Kd.R_base ho11) hb); have n2_ := aM (Kd.V_elder' (by (with_reducible repeat (first | apply vA | apply vN | apply vD)); exact HO425.out) (Kd.R_base ho11) hb); have n3_ := aM (Kd.V_elder' (by (with_reducible repeat (first | apply vA | apply vN | apply vD)); exact HO428.out) (Kd.R_base ho11) hb); have n4_ := aM (Kd.R_lower (Kd.R_newM (M := fun k_ => (w.heap.size ≤ k_)) ho11 (below_size (by repeat (first | (with_reducible first | exact HB.out | apply bA | apply bN | apply bD) | exact HB.out))) (fun k_ h_ => h_)) (below_size (by repeat (first | (with_reducible first | exact HB.out | apply bA | apply bN | apply bD) | exact HB.out)))); have n5_ := aM (below_step (by repeat (first | (with_reducible first | exact HB.out | apply bA | apply bN | apply bD) | exact HB.out)) hb); clear HO0; clear HO1; clear HO425; clear HO428; clear HB; have HO0 := n0_; have HO1 := n1_; have HO425 := n2_; have HO428 := n3_; have HO433 := n4_; have HB := n5_; clear n0_ n1_ n2_ n3_ n4_ n5_; clear hb ho11))
    go_loopg [34] k (fun kq v34 w' => ∃ (x7_1 : List Int) (x34_1 : Int), v34 = .int .i64 x34_1 ∧ Aside0 (nat_Mul.l0 kq t426 x7_1 t423 (t423.length : Int) x34_1 = some (r1, r2)) ∧ Aside0 (kq ≤ k) ∧ Aside0 (Kd.V (Kd.int .u64) 46 w' w.heap.size (fun k_ => ((P0_ k_ ∨ P1_ k_) ∨ w.heap.size ≤ k_) ∧ some k_ ≠ (v432 : Value).ownBlock) (.slice Ao9 t426.length co9) t426) ∧ Aside0 (Kd.R (Kd.int .u64) 46 w' w.heap.size (fun k_ => (w.heap.size ≤ k_)) v432 x7_1) ∧ Aside0 (Kd.V (Kd.int .u64) 46 w' w.heap.size (fun k_ => ((P0_ k_ ∨ P1_ k_) ∨ w.heap.size ≤ k_) ∧ some k_ ≠ (v432 : Value).ownBlock) (.slice Ao8 t423.length co8) t423) ∧ Aside0 (Below w.heap.size w w'))
    case atStart => exact ⟨(y431), (0), (by first | rfl | (simp; done) | (simp [*]; done)), H', ⟨Nat.le_refl _⟩, ⟨by (with_reducible repeat (first | apply vA | apply vN | apply vD)); exact HO428.out⟩, ⟨by (with_reducible repeat (first | apply rA | apply rN | apply rD)); exact Kd.R_mono HO433.out (fun _ hk => hk.1)⟩, ⟨by (with_reducible repeat (first | apply vA | apply vN | apply vD)); exact HO425.out⟩, ⟨by repeat (first | (with_reducible first | exact HB.out | apply bA | apply bN | apply bD) | exact HB.out)⟩⟩
    case round =>
     clear H'
     try clear c1
     try clear p2
     try clear c3
     try clear q4
     try clear c5
     try clear c5b0
     try clear c5b1
     try clear c6
     try clear c6b0
     try clear c6b1
     try clear p6
     try clear q430
     obtain ⟨x7_1, x34_1, rfl, HA, HK1, HO_1, HO_7, HO_32, HB⟩ := hrel
     cases gk with
     | zero => exact absurd HA.out (by simp [nat_Mul.l0])
     | succ k1 =>
      have H := HA.out
      clear HA
      simp only [nat_Mul.l0] at H
      by_cases c12 : x34_1 < (t423.length : Int)
      ·rw [if_pos c12] at H
       have c12b0 : decide (x34_1 < (t423.length : Int)) = true := decide_eq_true c12
       clear c12
       by_cases c13 : 0 ≤ x34_1
       ·rw [if_pos c13] at H
        have c13b0 : decide (0 ≤ x34_1) = true := decide_eq_true c13
        clear c13
        by_cases c14 : x34_1 < (t423.length : Int)
        ·rw [if_pos c14] at H
         have c14b0 : decide (x34_1 < (t423.length : Int)) = true := decide_eq_true c14
         clear c14
         have H' := aM H
         clear H
         have p437 : 0 ≤ (x34_1 : Int) := of_decide_eq_true (by first | (with_reducible assumption) | assumption)
         have q437 : x34_1 < (t423.length : Int) := of_decide_eq_true (by first | (with_reducible assumption) | assumption)
         obtain ⟨ad437, e437, hx437_0⟩ := Kd.at_int (Kd.V_reads' HO_32.out).2.2 x34_1 p437 q437
         cases e437
         replace p437 := eq_true p437
         replace q437 := eq_true q437
         go_wp2
         go_loopg [10, 41] k1 (fun kq v10 v41 w' => ∃ (x7_2 : List Int) (x10_2 : Int) (x41_2 : Int), v10 = .int .u64 x10_2 ∧ v41 = .int .i64 x41_2 ∧ Aside0 (nat_Mul.l1 kq t426 x7_2 x34_1 (rd t423 x34_1) x10_2 t423 (t423.length : Int) x34_1 t426 (t426.length : Int) x41_2 = some (r1, r2)) ∧ Aside0 (kq ≤ k1) ∧ Aside0 (Kd.V (Kd.int .u64) 46 w' w.heap.size (fun k_ => ((P0_ k_ ∨ P1_ k_) ∨ w.heap.size ≤ k_) ∧ some k_ ≠ (v432 : Value).ownBlock) (.slice Ao9 t426.length co9) t426) ∧ Aside0 (Kd.R (Kd.int .u64) 46 w' w.heap.size (fun k_ => (w.heap.size ≤ k_)) v432 x7_2) ∧ Aside0 (Kd.V (Kd.int .u64) 46 w' w.heap.size (fun k_ => ((P0_ k_ ∨ P1_ k_) ∨ w.heap.size ≤ k_) ∧ some k_ ≠ (v432 : Value).ownBlock) (.slice (some ad437) t423.length co8) t423) ∧ Aside0 (Kd.V (Kd.int .u64) 46 w' w.heap.size (fun k_ => ((P0_ k_ ∨ P1_ k_) ∨ w.heap.size ≤ k_) ∧ some k_ ≠ (v432 : Value).ownBlock) (.slice Ao9 t426.length co9) t426) ∧ Aside0 (Below w.heap.size w w'))
         case atStart => exact ⟨(x7_1), (0), (0), (by first | rfl | (simp; done) | (simp [*]; done)), (by first | rfl | (simp; done) | (simp [*]; done)), H', ⟨Nat.le_refl _⟩, ⟨by (with_reducible repeat (first | apply vA | apply vN | apply vD)); exact HO_1.out⟩, ⟨by (with_reducible repeat (first | apply rA | apply rN | apply rD)); exact HO_7.out⟩, ⟨by (with_reducible repeat (first | apply vA | apply vN | apply vD)); exact HO_32.out⟩, ⟨by (with_reducible repeat (first | apply vA | apply vN | apply vD)); exact HO_1.out⟩, ⟨by repeat (first | (with_reducible first | exact HB.out | apply bA | apply bN | apply bD) | exact HB.out)⟩⟩
         case round =>
          clear H'
          try clear c1
          try clear p2
          try clear c3
          try clear p4
          try clear q4
          try clear hx4
          try clear c5
          try clear c5b0
          try clear c5b1
          try clear c6
          try clear c6b0
          try clear c6b1
          try clear p6
          try clear c12
          try clear c12b0
          try clear c13
          try clear c13b0
          try clear c14
          try clear c14b0
          try clear hx437_0
          try clear p2
          try clear p437
          try clear p6
          try clear q4
          try clear q430
          try clear q437
          obtain ⟨x7_2, x10_2, x41_2, rfl, rfl, HA, HK2, HO_1, HO_7, HO_32, HO_39, HB⟩ := hrel
          cases gk with
          | zero => exact absurd HA.out (by simp [nat_Mul.l1])
          | succ k2 =>
           have H := HA.out
           clear HA
           simp only [nat_Mul.l1] at H
           by_cases c15 : x41_2 < (t426.length : Int)
           ·rw [if_pos c15] at H
            have c15b0 : decide (x41_2 < (t426.length : Int)) = true := decide_eq_true c15
            clear c15
            by_cases c16 : 0 ≤ x41_2
            ·rw [if_pos c16] at H
             have c16b0 : decide (0 ≤ x41_2) = true := decide_eq_true c16
             clear c16
             by_cases c17 : x41_2 < (t426.length : Int)
             ·rw [if_pos c17] at H
              have c17b0 : decide (x41_2 < (t426.length : Int)) = true := decide_eq_true c17
              clear c17
              replace H := Option.bind_eq_some_iff.mp H
              obtain ⟨⟨t439, t440⟩, A180, H⟩ := H
              replace H : (if 0 ≤ (wrap64 (x34_1 + x41_2)) then (if (wrap64 (x34_1 + x41_2)) < (x7_2.length : Int) then ((bits_Add64.f t440 (rd x7_2 (wrap64 (x34_1 + x41_2))) 0).bind fun bt442 => ((bits_Add64.f bt442.1 x10_2 0).bind fun bt444 => (nat_Mul.l1 k2 t426 (x7_2.set ((wrap64 (x34_1 + x41_2)) : Int).toNat bt444.1) x34_1 (rd t423 x34_1) (IntKind.u64.wrap ((IntKind.u64.wrap (t439 + bt442.2)) + bt444.2)) t423 (t423.length : Int) x34_1 t426 (t426.length : Int) (wrap64 (x41_2 + 1))))) else (none)) else (none)) = some (r1, r2) := H
              have A18 := aM A180
              clear A180
              obtain ⟨ji19, hji19⟩ : ∃ j_ : Int, (wrap64 (x34_1 + x41_2)) = j_ := ⟨_, rfl⟩
              replace H : (if 0 ≤ (ji19) then (if (ji19) < (x7_2.length : Int) then ((bits_Add64.f t440 (rd x7_2 (ji19)) 0).bind fun bt442 => ((bits_Add64.f bt442.1 x10_2 0).bind fun bt444 => (nat_Mul.l1 k2 t426 (x7_2.set ((ji19) : Int).toNat bt444.1) x34_1 (rd t423 x34_1) (IntKind.u64.wrap ((IntKind.u64.wrap (t439 + bt442.2)) + bt444.2)) t423 (t423.length : Int) x34_1 t426 (t426.length : Int) (wrap64 (x41_2 + 1))))) else (none)) else (none)) = some (r1, r2) := by first | (rw [hji19] at H; exact H) | (simp only [hji19] at H ⊢; exact H)
              (try rw [hji19] at A18)
              have hji19w : (IntKind.i64.wrap (x34_1 + x41_2)) = ji19 := (i64_w _).trans hji19
              by_cases c20 : 0 ≤ (ji19)
              ·rw [if_pos c20] at H
               have c20b0 : decide (0 ≤ (ji19)) = true := decide_eq_true c20
               clear c20
               by_cases c21 : (ji19) < (x7_2.length : Int)
               ·rw [if_pos c21] at H
                have c21b0 : decide ((ji19) < (x7_2.length : Int)) = true := decide_eq_true c21
                clear c21
                replace H := Option.bind_eq_some_iff.mp H
                obtain ⟨⟨t442, t443⟩, A220, H⟩ := H
                replace H : ((bits_Add64.f t442 x10_2 0).bind fun bt444 => (nat_Mul.l1 k2 t426 (x7_2.set ((ji19) : Int).toNat bt444.1) x34_1 (rd t423 x34_1) (IntKind.u64.wrap ((IntKind.u64.wrap (t439 + t443)) + bt444.2)) t423 (t423.length : Int) x34_1 t426 (t426.length : Int) (wrap64 (x41_2 + 1)))) = some (r1, r2) := H
                have A22 := aM A220
                clear A220
                replace H := Option.bind_eq_some_iff.mp H
                obtain ⟨⟨t444, t445⟩, A230, H⟩ := H
                replace H : (nat_Mul.l1 k2 t426 (x7_2.set ((ji19) : Int).toNat t444) x34_1 (rd t423 x34_1) (IntKind.u64.wrap ((IntKind.u64.wrap (t439 + t443)) + t445)) t423 (t423.length : Int) x34_1 t426 (t426.length : Int) (wrap64 (x41_2 + 1))) = some (r1, r2) := H
                have A23 := aM A230
                clear A230
                obtain ⟨y446, hy446⟩ : ∃ y_ : List Int, y_ = (x7_2.set ((ji19) : Int).toNat t444) := ⟨_, rfl⟩
                replace H : (nat_Mul.l1 k2 t426 y446 x34_1 (rd t423 x34_1) (IntKind.u64.wrap ((IntKind.u64.wrap (t439 + t443)) + t445)) t423 (t423.length : Int) x34_1 t426 (t426.length : Int) (wrap64 (x41_2 + 1))) = some (r1, r2) := by first | (rw [hy446]; with_reducible exact H) | (have H2_ := (Option.bind_some _ _).symm.trans H; rw [hy446]; with_reducible exact H2_) | (have H2_ := (Option.bind_some _ _).symm.trans H; with_reducible exact H2_) | with_reducible exact H | (rw [hy446]; exact H) | exact H
                have Ny446 := aM hy446
                clear hy446
                have H' := aM H
                clear H
                have p438 : 0 ≤ (x41_2 : Int) := of_decide_eq_true (by first | (with_reducible assumption) | assumption)
                have q438 : x41_2 < (t426.length : Int) := of_decide_eq_true (by first | (with_reducible assumption) | assumption)
                obtain ⟨ad438, e438, hx438_0⟩ := Kd.at_int (Kd.V_reads' HO_39.out).2.2 x41_2 p438 q438
                cases e438
                replace p438 := eq_true p438
                replace q438 := eq_true q438
                go_wp2_with (first | ((with_reducible refine gate_callee (f := 46) rfl ?_); refine goesL_ (some 49) rfl rfl Try.func46 (by kernel_rfl) rfl #[.int .u64 (rd t423 x34_1), .int .u64 (rd t426 x41_2)] rfl (by (try simp only [mapA, mapB, mapC]); first | done | rfl | (simp only [lD, lT]; rfl) | (simp only [ge_iff_le, gt_iff_lt, *]; rfl)) ?_; (with_reducible refine (bits_Mul64.calls (rd t423 x34_1) (rd t426 x41_2) t439 t440 _ A18.out).mono ?_); rintro e w' ⟨rfl, ⟨nd, rfl⟩⟩; refine ⟨_, rfl, ?_⟩; (try (rw [drewN_self wr]; generalize hq_ : World.drewN wr _ = wr; have n0_ : Aside0 (Kd.V (Kd.int .u64) 46 wr w.heap.size (fun k_ => ((P0_ k_ ∨ P1_ k_) ∨ w.heap.size ≤ k_) ∧ some k_ ≠ (v432 : Value).ownBlock) (.slice (some ad438) t426.length co9) t426) := ⟨by rw [← hq_]; exact (by (with_reducible repeat (first | apply vA | apply vN | apply vD)); exact HO_1.out)⟩; have n1_ : Aside0 (Kd.V (Kd.int .u64) 46 wr w.heap.size (fun k_ => ((P0_ k_ ∨ P1_ k_) ∨ w.heap.size ≤ k_) ∧ some k_ ≠ (v432 : Value).ownBlock) (.slice (some ad437) t423.length co8) t423) := ⟨by rw [← hq_]; exact (by (with_reducible repeat (first | apply vA | apply vN | apply vD)); exact HO_32.out)⟩; have n2_ : Aside0 (Kd.V (Kd.int .u64) 46 wr w.heap.size (fun k_ => ((P0_ k_ ∨ P1_ k_) ∨ w.heap.size ≤ k_) ∧ some k_ ≠ (v432 : Value).ownBlock) (.slice (some ad438) t426.length co9) t426) := ⟨by rw [← hq_]; exact (by (with_reducible repeat (first | apply vA | apply vN | apply vD)); exact HO_39.out)⟩; have n3_ : Aside0 (Kd.R (Kd.int .u64) 46 wr w.heap.size (fun k_ => (w.heap.size ≤ k_)) v432 x7_2) := ⟨by rw [← hq_]; exact (by (with_reducible repeat (first | apply rA | apply rN | apply rD)); exact HO_7.out)⟩; have n4_ : Aside0 (Below w.heap.size w wr) := ⟨by rw [← hq_]; exact (by repeat (first | (with_reducible first | exact HB.out | apply bA | apply bN | apply bD) | exact HB.out))⟩; clear HO_1 HO_32 HO_39 HO_7 HB hq_; have HO_1 := n0_; have HO_32 := n1_; have HO_39 := n2_; have HO_7 := n3_; have HB := n4_; clear n0_ n1_ n2_ n3_ n4_)); obtain ⟨Ao25, co25, eo25⟩ := Kd.R_slice HO_7.out; subst eo25; have p441 : 0 ≤ ((ji19) : Int) := of_decide_eq_true (by first | (with_reducible assumption) | assumption); have q441 : (ji19) < (x7_2.length : Int) := of_decide_eq_true (by first | (with_reducible assumption) | assumption); obtain ⟨ad441, e441, hx441_0⟩ := Kd.at_int (Kd.R_reads' HO_7.out).2.2 (ji19) p441 q441; cases e441; replace p441 := eq_true p441; replace q441 := eq_true q441) | ((with_reducible refine gate_callee (f := 39) rfl ?_); refine goesE_ (some 60) rfl rfl Try.func39 (by kernel_rfl) rfl #[.int .u64 t440, .int .u64 (rd x7_2 (ji19)), .int .u64 0] rfl (by (try simp only [mapA, mapB, mapC]); first | done | (simp only [hji19]; rfl) | rfl | (simp only [lD, lT]; rfl) | (simp only [ge_iff_le, gt_iff_lt, *]; rfl)) ?_; (with_reducible refine (bits_Add64.calls t440 (rd x7_2 (ji19)) 0 t442 t443 _ A22.out).mono ?_); rintro e w' ⟨rfl, ⟨nd, rfl⟩⟩; refine ⟨_, rfl, ?_⟩; (try (rw [drewN_self wr]; generalize hq_ : World.drewN wr _ = wr; have n0_ : Aside0 (Kd.V (Kd.int .u64) 46 wr w.heap.size (fun k_ => ((P0_ k_ ∨ P1_ k_) ∨ w.heap.size ≤ k_) ∧ some k_ ≠ (.slice (some ad441) x7_2.length co25 : Value).ownBlock) (.slice (some ad438) t426.length co9) t426) := ⟨by rw [← hq_]; exact (by (with_reducible repeat (first | apply vA | apply vN | apply vD)); exact HO_1.out)⟩; have n1_ : Aside0 (Kd.V (Kd.int .u64) 46 wr w.heap.size (fun k_ => ((P0_ k_ ∨ P1_ k_) ∨ w.heap.size ≤ k_) ∧ some k_ ≠ (.slice (some ad441) x7_2.length co25 : Value).ownBlock) (.slice (some ad437) t423.length co8) t423) := ⟨by rw [← hq_]; exact (by (with_reducible repeat (first | apply vA | apply vN | apply vD)); exact HO_32.out)⟩; have n2_ : Aside0 (Kd.V (Kd.int .u64) 46 wr w.heap.size (fun k_ => ((P0_ k_ ∨ P1_ k_) ∨ w.heap.size ≤ k_) ∧ some k_ ≠ (.slice (some ad441) x7_2.length co25 : Value).ownBlock) (.slice (some ad438) t426.length co9) t426) := ⟨by rw [← hq_]; exact (by (with_reducible repeat (first | apply vA | apply vN | apply vD)); exact HO_39.out)⟩; have n3_ : Aside0 (Kd.R (Kd.int .u64) 46 wr w.heap.size (fun k_ => (w.heap.size ≤ k_)) (.slice (some ad441) x7_2.length co25) x7_2) := ⟨by rw [← hq_]; exact (by (with_reducible repeat (first | apply rA | apply rN | apply rD)); exact HO_7.out)⟩; have n4_ : Aside0 (Below w.heap.size w wr) := ⟨by rw [← hq_]; exact (by repeat (first | (with_reducible first | exact HB.out | apply bA | apply bN | apply bD) | exact HB.out))⟩; clear HO_1 HO_32 HO_39 HO_7 HB hq_; have HO_1 := n0_; have HO_32 := n1_; have HO_39 := n2_; have HO_7 := n3_; have HB := n4_; clear n0_ n1_ n2_ n3_ n4_))) | ((with_reducible refine gate_callee (f := 39) rfl ?_); refine goesE_ (some 69) rfl rfl Try.func39 (by kernel_rfl) rfl #[.int .u64 t442, .int .u64 x10_2, .int .u64 0] rfl (by (try simp only [mapA, mapB, mapC]); first | done | rfl | (simp only [lD, lT]; rfl) | (simp only [ge_iff_le, gt_iff_lt, *]; rfl)) ?_; (with_reducible refine (bits_Add64.calls t442 x10_2 0 t444 t445 _ A23.out).mono ?_); rintro e w' ⟨rfl, ⟨nd, rfl⟩⟩; refine ⟨_, rfl, ?_⟩; (try (rw [drewN_self wr]; generalize hq_ : World.drewN wr _ = wr; have n0_ : Aside0 (Kd.V (Kd.int .u64) 46 wr w.heap.size (fun k_ => ((P0_ k_ ∨ P1_ k_) ∨ w.heap.size ≤ k_) ∧ some k_ ≠ (.slice (some ad441) x7_2.length co25 : Value).ownBlock) (.slice (some ad438) t426.length co9) t426) := ⟨by rw [← hq_]; exact (by (with_reducible repeat (first | apply vA | apply vN | apply vD)); exact HO_1.out)⟩; have n1_ : Aside0 (Kd.V (Kd.int .u64) 46 wr w.heap.size (fun k_ => ((P0_ k_ ∨ P1_ k_) ∨ w.heap.size ≤ k_) ∧ some k_ ≠ (.slice (some ad441) x7_2.length co25 : Value).ownBlock) (.slice (some ad437) t423.length co8) t423) := ⟨by rw [← hq_]; exact (by (with_reducible repeat (first | apply vA | apply vN | apply vD)); exact HO_32.out)⟩; have n2_ : Aside0 (Kd.V (Kd.int .u64) 46 wr w.heap.size (fun k_ => ((P0_ k_ ∨ P1_ k_) ∨ w.heap.size ≤ k_) ∧ some k_ ≠ (.slice (some ad441) x7_2.length co25 : Value).ownBlock) (.slice (some ad438) t426.length co9) t426) := ⟨by rw [← hq_]; exact (by (with_reducible repeat (first | apply vA | apply vN | apply vD)); exact HO_39.out)⟩; have n3_ : Aside0 (Kd.R (Kd.int .u64) 46 wr w.heap.size (fun k_ => (w.heap.size ≤ k_)) (.slice (some ad441) x7_2.length co25) x7_2) := ⟨by rw [← hq_]; exact (by (with_reducible repeat (first | apply rA | apply rN | apply rD)); exact HO_7.out)⟩; have n4_ : Aside0 (Below w.heap.size w wr) := ⟨by rw [← hq_]; exact (by repeat (first | (with_reducible first | exact HB.out | apply bA | apply bN | apply bD) | exact HB.out))⟩; clear HO_1 HO_32 HO_39 HO_7 HB hq_; have HO_1 := n0_; have HO_32 := n1_; have HO_39 := n2_; have HO_7 := n3_; have HB := n4_; clear n0_ n1_ n2_ n3_ n4_)); have p24 : 0 ≤ ((ji19) : Int) := of_decide_eq_true (by first | (with_reducible assumption) | assumption); have q24 : ((ji19) : Int) < ((x7_2.length : Int) : Int) := of_decide_eq_true (by first | (with_reducible assumption) | assumption); obtain ⟨go24, co24, eo24, gb24, gl24, cl24, HG24⟩ := Kd.R_form HO_7.out (by omega); (first | cases eo24 | (injection eo24 with ea_ en_ ec_; (first | subst ea_ | (injection ea_ with ea_; subst ea_)); subst ec_; clear en_)); have GB24 := aM gb24; have GG24 := aM HG24; clear gb24 gl24 HG24; (first | simp only [add_plain] at hx441_0 | skip); obtain ⟨hx24_0, hf24_0⟩ := Kd.R_celln 0 HO_7.out ((ji19) : Int) p24 q24; replace p24 := eq_true p24; replace q24 := eq_true q24; obtain ⟨hy26_, hz26_⟩ := Kd.R_celln 0 HO_7.out ((ji19) : Int) (of_decide_eq_true (by first | (with_reducible assumption) | assumption)) (of_decide_eq_true (by first | (with_reducible assumption) | assumption)); have HP26 := Kd.R_putg HO_7.out ((ji19) : Int) t444) | ((with_reducible refine gate_store (t := 46) (p := 80) rfl ?_); refine store_event (t := 46) (p := 80) (v := ?vo_w27) (w1 := (wr.setCell ⟨go24, ((ji19) : Int).toNat, none⟩ (.int .u64 t444))) ?hg ?ho ?hn ?hr ?_; (case ho => rfl); (case hg => rfl); (case hn => rfl); (case hr => first | (go_simp; done) | (go_simp; rfl)); intro w27 hw; have hg : wr.grownBy w27 (some go24) := (by rw [hw]; exact HP26.2); have hp_ : Kd.R (Kd.int .u64) 46 w27 w.heap.size (fun k_ => (w.heap.size ≤ k_)) (.slice (some ⟨go24, 0, none⟩) x7_2.length co25) y446 := (by rw [hw, Ny446.out]; exact HP26.1); clear HP26; have n0_ := aM (Kd.V_afterv (v := (.slice (some ⟨go24, 0, none⟩) x7_2.length co25)) (v1 := (.slice (some ⟨go24, 0, none⟩) x7_2.length co25)) (ok := (fun k_ => ((P0_ k_ ∨ P1_ k_) ∨ w.heap.size ≤ k_))) (by (with_reducible repeat (first | apply vA | apply vN | apply vD)); exact HO_1.out) hg (.inl rfl)); have n1_ := aM (hp_); have n2_ := aM (Kd.V_afterv (v := (.slice (some ⟨go24, 0, none⟩) x7_2.length co25)) (v1 := (.slice (some ⟨go24, 0, none⟩) x7_2.length co25)) (ok := (fun k_ => ((P0_ k_ ∨ P1_ k_) ∨ w.heap.size ≤ k_))) (by (with_reducible repeat (first | apply vA | apply vN | apply vD)); exact HO_32.out) hg (.inl rfl)); have n3_ := aM (Kd.V_afterv (v := (.slice (some ⟨go24, 0, none⟩) x7_2.length co25)) (v1 := (.slice (some ⟨go24, 0, none⟩) x7_2.length co25)) (ok := (fun k_ => ((P0_ k_ ∨ P1_ k_) ∨ w.heap.size ≤ k_))) (by (with_reducible repeat (first | apply vA | apply vN | apply vD)); exact HO_39.out) hg (.inl rfl)); have n4_ := aM ((by rw [hw]; exact below_set (HB.out) GB24.out : Below w.heap.size w w27)); clear HO_1; clear HO_7; clear HO_32; clear HO_39; clear HB; have HO_1 := n0_; have HO_7 := n1_; have HO_32 := n2_; have HO_39 := n3_; have HB := n4_; clear n0_ n1_ n2_ n3_ n4_; clear hg hw hp_))
                go_roundg k2
                case measure => have := HK1.out; have := HK2.out; omega
                case rel => exact ⟨(y446), (IntKind.u64.wrap ((IntKind.u64.wrap (t439 + t443)) + t445)), (wrap64 (x41_2 + 1)), (by first | rfl | (simp; done) | (simp [*]; done)), (by first | rfl | (simp; done) | (simp [*]; done)), H', ⟨by have := HK1.out; have := HK2.out; omega⟩, ⟨by (with_reducible repeat (first | apply vA | apply vN | apply vD)); exact HO_1.out⟩, ⟨by (with_reducible repeat (first | apply rA | apply rN | apply rD)); exact HO_7.out⟩, ⟨by (with_reducible repeat (first | apply vA | apply vN | apply vD)); exact HO_32.out⟩, ⟨by (with_reducible repeat (first | apply vA | apply vN | apply vD)); exact HO_39.out⟩, ⟨by repeat (first | (with_reducible first | exact HB.out | apply bA | apply bN | apply bD) | exact HB.out)⟩⟩
               ·rw [if_neg c21] at H
                exact absurd H (by simp)
              ·rw [if_neg c20] at H
               exact absurd H (by simp)
             ·rw [if_neg c17] at H
              exact absurd H (by simp)
            ·rw [if_neg c16] at H
             exact absurd H (by simp)
           ·rw [if_neg c15] at H
            have c15b0 : decide (x41_2 < (t426.length : Int)) = false := decide_eq_false c15
            clear c15
            obtain ⟨ji28, hji28⟩ : ∃ j_ : Int, (wrap64 (x34_1 + (t426.length : Int))) = j_ := ⟨_, rfl⟩
            replace H : (if 0 ≤ (ji28) then (if (ji28) < (x7_2.length : Int) then (nat_Mul.l0 k2 t426 (x7_2.set ((ji28) : Int).toNat x10_2) t423 (t423.length : Int) (wrap64 (x34_1 + 1))) else (none)) else (none)) = some (r1, r2) := by first | (rw [hji28] at H; exact H) | (simp only [hji28] at H ⊢; exact H)
            have hji28w : (IntKind.i64.wrap (x34_1 + (t426.length : Int))) = ji28 := (i64_w _).trans hji28
            by_cases c29 : 0 ≤ (ji28)
            ·rw [if_pos c29] at H
             have c29b0 : decide (0 ≤ (ji28)) = true := decide_eq_true c29
             clear c29
             by_cases c30 : (ji28) < (x7_2.length : Int)
             ·rw [if_pos c30] at H
              have c30b0 : decide ((ji28) < (x7_2.length : Int)) = true := decide_eq_true c30
              clear c30
              obtain ⟨y447, hy447⟩ : ∃ y_ : List Int, y_ = (x7_2.set ((ji28) : Int).toNat x10_2) := ⟨_, rfl⟩
              replace H : (nat_Mul.l0 k2 t426 y447 t423 (t423.length : Int) (wrap64 (x34_1 + 1))) = some (r1, r2) := by first | (rw [hy447]; with_reducible exact H) | (have H2_ := (Option.bind_some _ _).symm.trans H; rw [hy447]; with_reducible exact H2_) | (have H2_ := (Option.bind_some _ _).symm.trans H; with_reducible exact H2_) | with_reducible exact H | (rw [hy447]; exact H) | exact H
              have Ny447 := aM hy447
              clear hy447
              have H' := aM H
              clear H
              have p31 : 0 ≤ ((ji28) : Int) := of_decide_eq_true (by first | (with_reducible assumption) | assumption)
              have q31 : ((ji28) : Int) < ((x7_2.length : Int) : Int) := of_decide_eq_true (by first | (with_reducible assumption) | assumption)
              obtain ⟨go31, co31, eo31, gb31, gl31, cl31, HG31⟩ := Kd.R_form HO_7.out (by omega)
              (first | cases eo31 | (injection eo31 with ea_ en_ ec_; (first | subst ea_ | (injection ea_ with ea_; subst ea_)); subst ec_; clear en_))
              have GB31 := aM gb31
              have GG31 := aM HG31
              clear gb31 gl31 HG31
              obtain ⟨hx31_0, hf31_0⟩ := Kd.R_celln 0 HO_7.out ((ji28) : Int) p31 q31
              replace p31 := eq_true p31
              replace q31 := eq_true q31
              have HP32 := Kd.R_putg HO_7.out ((ji28) : Int) x10_2
              go_wp2_with (first | ((with_reducible refine gate_store (t := 46) (p := 88) rfl ?_); refine store_event (t := 46) (p := 88) (v := ?vo_w33) (w1 := (wr.setCell ⟨go31, ((ji28) : Int).toNat, none⟩ (.int .u64 x10_2))) ?hg ?ho ?hn ?hr ?_; (case ho => rfl); (case hg => rfl); (case hn => rfl); (case hr => first | (go_simp; done) | (go_simp; rfl)); intro w33 hw; have hg : wr.grownBy w33 (some go31) := (by rw [hw]; exact HP32.2); have hp_ : Kd.R (Kd.int .u64) 46 w33 w.heap.size (fun k_ => (w.heap.size ≤ k_)) (.slice (some ⟨go31, 0, none⟩) x7_2.length co31) y447 := (by rw [hw, Ny447.out]; exact HP32.1); clear HP32; have n0_ := aM (Kd.V_afterv (v := (.slice (some ⟨go31, 0, none⟩) x7_2.length co31)) (v1 := (.slice (some ⟨go31, 0, none⟩) x7_2.length co31)) (ok := (fun k_ => ((P0_ k_ ∨ P1_ k_) ∨ w.heap.size ≤ k_))) (by (with_reducible repeat (first | apply vA | apply vN | apply vD)); exact HO_1.out) hg (.inl rfl)); have n1_ := aM (hp_); have n2_ := aM (Kd.V_afterv (v := (.slice (some ⟨go31, 0, none⟩) x7_2.length co31)) (v1 := (.slice (some ⟨go31, 0, none⟩) x7_2.length co31)) (ok := (fun k_ => ((P0_ k_ ∨ P1_ k_) ∨ w.heap.size ≤ k_))) (by (with_reducible repeat (first | apply vA | apply vN | apply vD)); exact HO_32.out) hg (.inl rfl)); have n3_ := aM (Kd.V_afterv (v := (.slice (some ⟨go31, 0, none⟩) x7_2.length co31)) (v1 := (.slice (some ⟨go31, 0, none⟩) x7_2.length co31)) (ok := (fun k_ => ((P0_ k_ ∨ P1_ k_) ∨ w.heap.size ≤ k_))) (by (with_reducible repeat (first | apply vA | apply vN | apply vD)); exact HO_39.out) hg (.inl rfl)); have n4_ := aM ((by rw [hw]; exact below_set (HB.out) GB31.out : Below w.heap.size w w33)); clear HO_1; clear HO_7; clear HO_32; clear HO_39; clear HB; have HO_1 := n0_; have HO_7 := n1_; have HO_32 := n2_; have HO_39 := n3_; have HB := n4_; clear n0_ n1_ n2_ n3_ n4_; clear hg hw hp_))
              go_roundg k2
              case measure => have := HK1.out; have := HK2.out; omega
              case rel => exact ⟨(y447), (wrap64 (x34_1 + 1)), (by first | rfl | (simp; done) | (simp [*]; done)), H', ⟨by have := HK1.out; have := HK2.out; omega⟩, ⟨by (with_reducible repeat (first | apply vA | apply vN | apply vD)); exact HO_1.out⟩, ⟨by (with_reducible repeat (first | apply rA | apply rN | apply rD)); exact HO_7.out⟩, ⟨by (with_reducible repeat (first | apply vA | apply vN | apply vD)); exact HO_32.out⟩, ⟨by repeat (first | (with_reducible first | exact HB.out | apply bA | apply bN | apply bD) | exact HB.out)⟩⟩
             ·rw [if_neg c30] at H
              exact absurd H (by simp)
            ·rw [if_neg c29] at H
             exact absurd H (by simp)
        ·rw [if_neg c14] at H
         exact absurd H (by simp)
       ·rw [if_neg c13] at H
        exact absurd H (by simp)
      ·rw [if_neg c12] at H
       have c12b0 : decide (x34_1 < (t423.length : Int)) = false := decide_eq_false c12
       clear c12
       replace H := Option.bind_eq_some_iff.mp H
       obtain ⟨t434, A340, H⟩ := H
       replace H : (some (t434, none)) = some (r1, r2) := H
       have A34 := aM A340
       clear A340
       simp only [Option.some.injEq, Prod.mk.injEq] at H
       obtain ⟨rfl, rfl⟩ := H
       obtain ⟨Ao35, co35, eo35⟩ := Kd.R_slice HO_7.out
       subst eo35
       go_wp2_with (first | ((with_reducible refine gate_callee (f := 40) rfl ?_); refine goesL_ (some 91) rfl rfl Try.func40 (by kernel_rfl) rfl #[.slice Ao35 x7_1.length co35] rfl (by (try simp only [mapA, mapB, mapC]); first | done | rfl | (simp only [lD, lT]; rfl) | (simp only [ge_iff_le, gt_iff_lt, *]; rfl)) ?_; (with_reducible refine (nat_trim.calls k1 (fun k_ => some k_ = (.slice Ao35 x7_1.length co35 : Value).ownBlock) _ _ x7_1 t434 _ ?side1 A34.out).mono ?_); (case side1 => exact Kd.R_V (Kd.R_tight rfl (HO_7.out))); rintro e w36 ⟨v435, rfl, ho0, hb⟩; refine ⟨_, rfl, ?_⟩; have n0_ := aM (Kd.V_below (by (with_reducible repeat (first | apply vA | apply vN | apply vD)); exact HO_1.out) hb); have n1_ := aM (Kd.R_below (by (with_reducible repeat (first | apply rA | apply rN | apply rD)); exact HO_7.out) hb); have n2_ := aM (Kd.V_below (by (with_reducible repeat (first | apply vA | apply vN | apply vD)); exact HO_32.out) hb); have n3_ := aM (Kd.V_lower (Kd.V_mono (ok' := fun k_ => ((P0_ k_ ∨ P1_ k_) ∨ w.heap.size ≤ k_)) ho0 (fun k_ hk_ => Or.elim hk_ (fun hs_ => (.inr (((HO_7.out).1 k_ hs_.symm)))) (fun hn_ => (.inr (Nat.le_trans (below_size (by repeat (first | (with_reducible first | exact HB.out | apply bA | apply bN | apply bD) | exact HB.out))) hn_))))) (below_size (by repeat (first | (with_reducible first | exact HB.out | apply bA | apply bN | apply bD) | exact HB.out)))); have n4_ := aM (below_step (by repeat (first | (with_reducible first | exact HB.out | apply bA | apply bN | apply bD) | exact HB.out)) hb); clear HO_1; clear HO_7; clear HO_32; clear HB; have HO_1 := n0_; have HO_7 := n1_; have HO_32 := n2_; have HO436 := n3_; have HB := n4_; clear n0_ n1_ n2_ n3_ n4_; (try clear hb); (try clear hb2); (try clear hk); (try clear hi); (try clear ho0)))
       go_ret2
       exact ⟨_, by first | rfl | (simp [errW_none, errW_some] <;> rfl) | (simp only [← hji4]; first | rfl | (simp [errW_none, errW_some] <;> rfl)) | (simp [*, errW_none, errW_some] <;> rfl), by (with_reducible repeat (first | apply vA | apply vN | apply vD)); exact HO436.out, by repeat (first | (with_reducible first | exact HB.out | apply bA | apply bN | apply bD) | exact HB.out)⟩
   ·rw [if_neg c6] at H
    exact absurd H (by simp)
  ·rw [if_neg c5] at H
   exact absurd H (by simp)
 ·have H1 : (some (([] : List Int), some q430)) = some (r1, r2) := by rw [if_neg (show ¬ (some q430).isNone = true by simp)] at H; exact H
  clear H
  have H := H1
  clear H1
  try simp only [errW_none, errW_some]
  simp only [Option.some.injEq, Prod.mk.injEq] at H
  obtain ⟨rfl, rfl⟩ := H
  go_enter Try.func32, Try.ntmps32
  go_wp2_with (first | ((with_reducible refine gate_callee (f := 38) rfl ?_); refine goesL_ (some 19) rfl rfl Try.func38 (by kernel_rfl) rfl #[.slice A0 l0.length c0, .slice A1 l1.length c1] rfl (by (try simp only [mapA, mapB, mapC]); first | done | rfl | (simp only [lD, lT]; rfl) | (simp only [ge_iff_le, gt_iff_lt, *]; rfl)) ?_; (with_reducible refine (nat_both.calls k (fun k_ => ((P0_ k_ ∨ P1_ k_) ∨ w.heap.size ≤ k_)) _ _ l0 (fun k_ => ((P0_ k_ ∨ P1_ k_) ∨ w.heap.size ≤ k_)) _ _ l1 t423 t426 (some q430) _ ?side1 ?side2 A3.out).mono ?_); (case side1 => exact HO0.out); (case side2 => exact HO1.out); rintro e w37 ⟨v424, v427, rfl, ho0, ho1, hb⟩; refine ⟨_, rfl, ?_⟩; have n0_ := aM (Kd.V_below (by (with_reducible repeat (first | apply vA | apply vN | apply vD)); exact HO0.out) hb); have n1_ := aM (Kd.V_below (by (with_reducible repeat (first | apply vA | apply vN | apply vD)); exact HO1.out) hb); have n2_ := aM (Kd.V_lower (Kd.V_mono (ok' := fun k_ => ((P0_ k_ ∨ P1_ k_) ∨ w.heap.size ≤ k_)) ho0 (fun k_ hk_ => Or.elim hk_ (fun hs_ => Or.elim hs_ (fun hs_ => hs_) (fun hs_ => hs_)) (fun hn_ => (.inr (Nat.le_trans (below_size (by repeat (first | (with_reducible first | exact HB.out | apply bA | apply bN | apply bD) | exact HB.out))) hn_))))) (below_size (by repeat (first | (with_reducible first | exact HB.out | apply bA | apply bN | apply bD) | exact HB.out)))); have n3_ := aM (Kd.V_lower (Kd.V_mono (ok' := fun k_ => ((P0_ k_ ∨ P1_ k_) ∨ w.heap.size ≤ k_)) ho1 (fun k_ hk_ => Or.elim hk_ (fun hs_ => Or.elim hs_ (fun hs_ => hs_) (fun hs_ => hs_)) (fun hn_ => (.inr (Nat.le_trans (below_size (by repeat (first | (with_reducible first | exact HB.out | apply bA | apply bN | apply bD) | exact HB.out))) hn_))))) (below_size (by repeat (first | (with_reducible first | exact HB.out | apply bA | apply bN | apply bD) | exact HB.out)))); have n4_ := aM (below_step (by repeat (first | (with_reducible first | exact HB.out | apply bA | apply bN | apply bD) | exact HB.out)) hb); clear HO0; clear HO1; clear HB; have HO0 := n0_; have HO1 := n1_; have HO425 := n2_; have HO428 := n3_; have HB := n4_; clear n0_ n1_ n2_ n3_ n4_; (try clear hb); (try clear hb2); (try clear hk); (try clear hi); (try clear ho0); (try clear ho1); (try simp only [errW_none, errW_some])))
  go_ret2
  exact ⟨_, by first | rfl | (simp [errW_none, errW_some] <;> rfl) | (simp [*, errW_none, errW_some] <;> rfl), Kd.V_nil _ _ _ _ _, by repeat (first | (with_reducible first | exact HB.out | apply bA | apply bN | apply bD) | exact HB.out)⟩

/-! ### treenaillaw01_cut: function 34 -/
def treenaillaw01_cut.f (l0 : List Int) (a1 : Int) : Option (List Int) := if (l0.length : Int) > a1 then (if 0 ≤ a1 then (if a1 ≤ (l0.length : Int) then (some (l0.take (a1 : Int).toNat)) else (none)) else (none)) else (some l0)
set_option maxHeartbeats 8000000 in
set_option maxRecDepth 100000 in
theorem treenaillaw01_cut.calls (P0_ : Nat → Prop) (A0 : Option Addr) (c0 : Nat) (l0 : List Int) (a1 : Int) (r : List Int) (w : World) (hs0 : Kd.V (Kd.int .u64) 46 w w.heap.size (fun k_ => P0_ k_) (.slice A0 l0.length c0) l0) (h : treenaillaw01_cut.f l0 a1 = some r) :
  Calls Try.prog 34 #[.slice A0 l0.length c0, .int .i64 a1] w fun e w' => ∃ v0_ : Value, e = .returned (v0_) ∧ Kd.V (Kd.int .u64) 46 w' w.heap.size (fun k_ => (P0_ k_ ∨ w.heap.size ≤ k_)) v0_ r ∧ Below w.heap.size w w' := by
 have HO0 := aM (show Kd.V (Kd.int .u64) 46 w w.heap.size (fun k_ => (P0_ k_ ∨ w.heap.size ≤ k_)) (.slice A0 l0.length c0) l0 from Kd.V_mono hs0 (fun k_ hk => .inl hk))
 have HB := aM (Below.refl w.heap.size w)
 have H : (if (l0.length : Int) > a1 then (if 0 ≤ a1 then (if a1 ≤ (l0.length : Int) then (some (l0.take (a1 : Int).toNat)) else (none)) else (none)) else (some l0)) = some r := h
 clear h
 by_cases c3 : (l0.length : Int) > a1
 ·rw [if_pos c3] at H
  have c3b0 : decide (a1 < (l0.length : Int)) = true := decide_eq_true c3
  clear c3
  by_cases c4 : 0 ≤ a1
  ·rw [if_pos c4] at H
   have c4b0 := eq_true c4
   have c4b1 : decide (0 ≤ a1) = true := decide_eq_true c4
   clear c4
   by_cases c5 : a1 ≤ (l0.length : Int)
   ·rw [if_pos c5] at H
    have c5b0 := eq_true c5
    have c5b1 : decide (a1 ≤ (l0.length : Int)) = true := decide_eq_true c5
    clear c5
    obtain ⟨y448, hy448⟩ : ∃ y_ : List Int, y_ = (l0.take (a1 : Int).toNat) := ⟨_, rfl⟩
    replace H : (some y448) = some r := by first | (rw [hy448]; with_reducible exact H) | (have H2_ := (Option.bind_some _ _).symm.trans H; rw [hy448]; with_reducible exact H2_) | (have H2_ := (Option.bind_some _ _).symm.trans H; with_reducible exact H2_) | with_reducible exact H | (rw [hy448]; exact H) | exact H
    have Ny448 := aM hy448
    clear hy448
    obtain rfl := Option.some.inj H
    have q6 : (a1 : Int) ≤ ((l0.length : Int) : Int) := of_decide_eq_true (by first | (with_reducible assumption) | assumption)
    obtain ⟨i06, hi06, _, hsz6, _⟩ := info_parts info46
    have hroom6 : l0.length ≤ c0 := (Kd.V_reads' HO0.out).2.1
    have hC6 : Kd.F (Kd.int .u64) _ _ A0 l0.length l0 := (Kd.V_at (base := w.heap.size) HO0.out).2.2
    have hcut6 := cut_to (P := Try.prog) 23 46 .i64 Try.underlying23 hi06 A0 l0.length c0 a1 (of_decide_eq_true (by first | (with_reducible assumption) | assumption)) q6 hroom6
    have hr6 := Kd.F_take (m := (a1 : Int).toNat) hC6 (by omega)
    have hy6 : y448.length = (a1 : Int).toNat := (by rw [Ny448.out, List.length_take]; omega)
    rw [← Ny448.out] at hr6
    rw [← hy6] at hcut6
    have HO452 := aM (show Kd.V (Kd.int .u64) 46 _ w.heap.size _ (.slice A0 y448.length c0) y448 from Kd.V_mk (by omega) hr6)
    have HC452 := aM (show y448.length ≤ c0 from by omega)
    clear hr6 hC6 hroom6 hi06 hsz6
    have KY6 := aM hy6
    clear hy6
    replace q6 := eq_true q6
    go_enter Try.func34, Try.ntmps34
    go_wp2
    go_ret
    exact ⟨_, by first | rfl | (simp [errW_none, errW_some] <;> rfl) | (simp [*, errW_none, errW_some] <;> rfl), by (with_reducible repeat (first | apply vA | apply vN | apply vD)); exact HO452.out, by repeat (first | (with_reducible first | exact HB.out | apply bA | apply bN | apply bD) | exact HB.out)⟩
   ·rw [if_neg c5] at H
    exact absurd H (by simp)
  ·rw [if_neg c4] at H
   exact absurd H (by simp)
 ·rw [if_neg c3] at H
  have c3b0 : decide (a1 < (l0.length : Int)) = false := decide_eq_false c3
  clear c3
  obtain rfl := Option.some.inj H
  go_enter Try.func34, Try.ntmps34
  go_wp2
  go_ret
  exact ⟨_, by first | rfl | (simp [errW_none, errW_some] <;> rfl) | (simp [*, errW_none, errW_some] <;> rfl), by (with_reducible repeat (first | apply vA | apply vN | apply vD)); exact HO0.out, by repeat (first | (with_reducible first | exact HB.out | apply bA | apply bN | apply bD) | exact HB.out)⟩

/-! ### treenailref01_double: function 51 -/
def treenailref01_double.f (k : Nat) (l0 : List Int) (a1 : Bool) : Option (List Int) := (treenailref01_Add.f k l0 l0).bind fun t453 => (if a1 = true then ((treenailref01_Add.f k t453 (([1] : List Int))).bind fun t459 => (some t459)) else (some t453))
set_option maxHeartbeats 8000000 in
set_option maxRecDepth 100000 in
theorem treenailref01_double.calls (k : Nat) (A0 : Option Addr) (c0 : Nat) (l0 : List Int) (a1 : Bool) (r : List Int) (w : World) (hr0 : Kd.C (Kd.int .i64) w A0 l0.length l0) (hc0 : l0.length ≤ c0) (h : treenailref01_double.f k l0 a1 = some r) :
  Calls Try.prog 51 #[.slice A0 l0.length c0, .bool a1] w fun e w' => ∃ v0_ : Value, e = .returned (v0_) ∧ Kd.V (Kd.int .i64) 3 w' w.heap.size (fun k_ => (w.heap.size ≤ k_)) v0_ r ∧ Below w.heap.size w w' := by
 have HR0 := aM hr0
 have HC0 := aM hc0
 clear hr0 hc0
 have HB := aM (Below.refl w.heap.size w)
 have H : ((treenailref01_Add.f k l0 l0).bind fun t453 => (if a1 = true then ((treenailref01_Add.f k t453 (([1] : List Int))).bind fun t459 => (some t459)) else (some t453))) = some r := h
 clear h
 replace H := Option.bind_eq_some_iff.mp H
 obtain ⟨t453, A30, H⟩ := H
 replace H : (if a1 = true then ((treenailref01_Add.f k t453 (([1] : List Int))).bind fun t459 => (some t459)) else (some t453)) = some r := H
 have A3 := aM A30
 clear A30
 by_cases c4 : a1 = true
 ·subst c4
  have H1 : ((treenailref01_Add.f k t453 (([1] : List Int))).bind fun t459 => (some t459)) = some r := by rw [if_pos rfl] at H; exact H
  clear H
  have H := H1
  clear H1
  obtain ⟨y456, hy456⟩ : ∃ y_ : List Int, y_ = (([1] : List Int)) := ⟨_, rfl⟩
  replace H : ((treenailref01_Add.f k t453 y456).bind fun t459 => (some t459)) = some r := by first | (rw [hy456]; with_reducible exact H) | (have H2_ := (Option.bind_some _ _).symm.trans H; rw [hy456]; with_reducible exact H2_) | (have H2_ := (Option.bind_some _ _).symm.trans H; with_reducible exact H2_) | with_reducible exact H | (rw [hy456]; exact H) | exact H
  have Ny456 := aM hy456
  clear hy456
  replace H := Option.bind_eq_some_iff.mp H
  obtain ⟨t459, A50, H⟩ := H
  replace H : (some t459) = some r := H
  have A5 := aM A50
  clear A50
  obtain rfl := Option.some.inj H
  go_enter Try.func51, Try.ntmps51
  go_wp2_with (first | ((with_reducible refine gate_callee (f := 18) rfl ?_); refine goesL_ (some 8) rfl rfl Try.func18 (by kernel_rfl) rfl #[.slice A0 l0.length c0, .slice A0 l0.length c0] rfl (by (try simp only [mapA, mapB, mapC]); first | done | rfl | (simp only [lD, lT]; rfl) | (simp only [ge_iff_le, gt_iff_lt, *]; rfl)) ?_; (with_reducible refine (treenailref01_Add.calls k _ _ l0 _ _ l0 t453 _ ?side1 ?side2 ?side3 ?side4 A3.out).mono ?_); (case side1 => repeat (first | exact HR0.out | (with_reducible refine Kd.C_alloc ?_ _) | (with_reducible refine Kd.C_drewN ?_ _) | (with_reducible refine Kd.C_drew ?_))); (case side2 => exact HC0.out); (case side3 => repeat (first | exact HR0.out | (with_reducible refine Kd.C_alloc ?_ _) | (with_reducible refine Kd.C_drewN ?_ _) | (with_reducible refine Kd.C_drew ?_))); (case side4 => exact HC0.out); rintro e w6 ⟨v454, rfl, ho0, hb⟩; refine ⟨_, rfl, ?_⟩; have n0_ := aM (Kd.V_lower (Kd.V_mono (ok' := fun k_ => (w.heap.size ≤ k_)) ho0 (fun k_ hk_ => (Nat.le_trans (below_size (by repeat (first | (with_reducible first | exact HB.out | apply bA | apply bN | apply bD) | exact HB.out))) hk_))) (below_size (by repeat (first | (with_reducible first | exact HB.out | apply bA | apply bN | apply bD) | exact HB.out)))); have n1_ := aM (below_step (by repeat (first | (with_reducible first | exact HB.out | apply bA | apply bN | apply bD) | exact HB.out)) hb); clear HB; have HO455 := n0_; have HB := n1_; clear n0_ n1_; (try clear hb); (try clear hb2); (try clear hk); (try clear hi); (try clear ho0)) | ((with_reducible refine gate_dst (N := 11) rfl ?_); refine Kd.R_lit (Kd.int .i64) _ 3 ?hg (N := 11) ?hd (xs := ([1] : List Int)) (inner := [.int .i64 1]) (ok := fun _ => True) (okp := fun _ => True) ?hr ?hp (fun _ hk => hk) trivial (Below.refl _ _) (Nat.le_refl _) (by simp) ?_; (case hd => rfl); (case hg => rfl); (case hr => first | (go_simp; done) | (go_simp; rfl)); (case hp => exact (Reps.one (show Kd.M (Kd.int .i64) _ _ _ 1 [.int .i64 1] from rfl) (Reps.none _ _))); intro v457 w7 ho8 hb hg_ hnew_; clear hg_ hnew_; (first | rw [← Ny456.out] at ho8 | (simp only [Int.reduceToNat] at ho8; rw [← Ny456.out] at ho8)); have n0_ := aM (Kd.V_elder' (by (with_reducible repeat (first | apply vA | apply vN | apply vD)); exact HO455.out) (Kd.R_base ho8) hb); have n1_ := aM (Kd.R_lower (Kd.R_newM (M := fun k_ => (w.heap.size ≤ k_)) ho8 (below_size (by repeat (first | (with_reducible first | exact HB.out | apply bA | apply bN | apply bD) | exact HB.out))) (fun k_ h_ => h_)) (below_size (by repeat (first | (with_reducible first | exact HB.out | apply bA | apply bN | apply bD) | exact HB.out)))); have n2_ := aM (below_step (by repeat (first | (with_reducible first | exact HB.out | apply bA | apply bN | apply bD) | exact HB.out)) hb); clear HO455; clear HB; have HO455 := n0_; have HO458 := n1_; have HB := n2_; clear n0_ n1_ n2_; clear hb ho8; obtain ⟨Ao9, co9, eo9⟩ := Kd.V_slice HO455.out; subst eo9; obtain ⟨Ao10, co10, eo10⟩ := Kd.R_slice HO458.out; subst eo10) | ((with_reducible refine gate_callee (f := 18) rfl ?_); refine goesL_ (some 12) rfl rfl Try.func18 (by kernel_rfl) rfl #[.slice Ao9 t453.length co9, .slice Ao10 y456.length co10] rfl (by (try simp only [mapA, mapB, mapC]); first | done | rfl | (simp only [lD, lT]; rfl) | (simp only [ge_iff_le, gt_iff_lt, *]; rfl)) ?_; (with_reducible refine (treenailref01_Add.calls k _ _ t453 _ _ y456 t459 _ ?side1 ?side2 ?side3 ?side4 A5.out).mono ?_); (case side1 => repeat (first | exact (Kd.V_reads' HO455.out).2.2 | (with_reducible refine Kd.C_alloc ?_ _) | (with_reducible refine Kd.C_drewN ?_ _) | (with_reducible refine Kd.C_drew ?_))); (case side2 => exact (Kd.V_reads' HO455.out).2.1); (case side3 => repeat (first | exact (Kd.R_reads' HO458.out).2.2 | (with_reducible refine Kd.C_alloc ?_ _) | (with_reducible refine Kd.C_drewN ?_ _) | (with_reducible refine Kd.C_drew ?_))); (case side4 => exact (Kd.R_reads' HO458.out).2.1); rintro e w11 ⟨v460, rfl, ho0, hb⟩; refine ⟨_, rfl, ?_⟩; have n0_ := aM (Kd.V_below (by (with_reducible repeat (first | apply vA | apply vN | apply vD)); exact HO455.out) hb); have n1_ := aM (Kd.R_below (by (with_reducible repeat (first | apply rA | apply rN | apply rD)); exact HO458.out) hb); have n2_ := aM (Kd.V_lower (Kd.V_mono (ok' := fun k_ => (w.heap.size ≤ k_) ∧ some k_ ≠ (.slice Ao10 y456.length co10 : Value).ownBlock) ho0 (fun k_ hk_ => ⟨(Nat.le_trans (below_size (by repeat (first | (with_reducible first | exact HB.out | apply bA | apply bN | apply bD) | exact HB.out))) hk_), (Kd.fresh' (Kd.R_lt (by (with_reducible repeat (first | apply rA | apply rN | apply rD)); exact HO458.out)) k_ hk_)⟩)) (below_size (by repeat (first | (with_reducible first | exact HB.out | apply bA | apply bN | apply bD) | exact HB.out)))); have n3_ := aM (below_step (by repeat (first | (with_reducible first | exact HB.out | apply bA | apply bN | apply bD) | exact HB.out)) hb); clear HO455; clear HO458; clear HB; have HO455 := n0_; have HO458 := n1_; have HO461 := n2_; have HB := n3_; clear n0_ n1_ n2_ n3_; (try clear hb); (try clear hb2); (try clear hk); (try clear hi); (try clear ho0)))
  go_ret
  exact ⟨_, by first | rfl | (simp [errW_none, errW_some] <;> rfl) | (simp [*, errW_none, errW_some] <;> rfl), by (with_reducible repeat (first | apply vA | apply vN | apply vD)); exact Kd.V_mono HO461.out (fun _ hk => hk.1), by repeat (first | (with_reducible first | exact HB.out | apply bA | apply bN | apply bD) | exact HB.out)⟩
 ·replace c4 := Bool.eq_false_iff.mpr c4
  subst c4
  have H1 : (some t453) = some r := by rw [if_neg (show ¬ (false = true) by decide)] at H; exact H
  clear H
  have H := H1
  clear H1
  obtain rfl := Option.some.inj H
  go_enter Try.func51, Try.ntmps51
  go_wp2_with (first | ((with_reducible refine gate_callee (f := 18) rfl ?_); refine goesL_ (some 8) rfl rfl Try.func18 (by kernel_rfl) rfl #[.slice A0 l0.length c0, .slice A0 l0.length c0] rfl (by (try simp only [mapA, mapB, mapC]); first | done | rfl | (simp only [lD, lT]; rfl) | (simp only [ge_iff_le, gt_iff_lt, *]; rfl)) ?_; (with_reducible refine (treenailref01_Add.calls k _ _ l0 _ _ l0 t453 _ ?side1 ?side2 ?side3 ?side4 A3.out).mono ?_); (case side1 => repeat (first | exact HR0.out | (with_reducible refine Kd.C_alloc ?_ _) | (with_reducible refine Kd.C_drewN ?_ _) | (with_reducible refine Kd.C_drew ?_))); (case side2 => exact HC0.out); (case side3 => repeat (first | exact HR0.out | (with_reducible refine Kd.C_alloc ?_ _) | (with_reducible refine Kd.C_drewN ?_ _) | (with_reducible refine Kd.C_drew ?_))); (case side4 => exact HC0.out); rintro e w12 ⟨v454, rfl, ho0, hb⟩; refine ⟨_, rfl, ?_⟩; have n0_ := aM (Kd.V_lower (Kd.V_mono (ok' := fun k_ => (w.heap.size ≤ k_)) ho0 (fun k_ hk_ => (Nat.le_trans (below_size (by repeat (first | (with_reducible first | exact HB.out | apply bA | apply bN | apply bD) | exact HB.out))) hk_))) (below_size (by repeat (first | (with_reducible first | exact HB.out | apply bA | apply bN | apply bD) | exact HB.out)))); have n1_ := aM (below_step (by repeat (first | (with_reducible first | exact HB.out | apply bA | apply bN | apply bD) | exact HB.out)) hb); clear HB; have HO455 := n0_; have HB := n1_; clear n0_ n1_; (try clear hb); (try clear hb2); (try clear hk); (try clear hi); (try clear ho0)))
  go_ret
  exact ⟨_, by first | rfl | (simp [errW_none, errW_some] <;> rfl) | (simp [*, errW_none, errW_some] <;> rfl), by (with_reducible repeat (first | apply vA | apply vN | apply vD)); exact HO455.out, by repeat (first | (with_reducible first | exact HB.out | apply bA | apply bN | apply bD) | exact HB.out)⟩

/-! ### treenailref01_Div: function 36 -/
def treenailref01_Div.l0 : Nat → List Int → List Int → List Int → List Int → Int → Option (List Int × List Int)
 | 0, _, _, _, _, _ => none
 | k + 1, x0, x1, x6, x7, x8 => if x8 ≥ 0 then ((treenailref01_Bit.f k x0 x8).bind fun t463 => ((treenailref01_double.f k x7 t463).bind fun t464 => ((treenailref01_Cmp.f k t464 x1).bind fun t467 => (if t467 ≥ 0 then ((treenailref01_Sub.f k t464 x1).bind fun t468 => ((treenailref01_double.f k x6 (decide (t467 ≥ 0))).bind fun t471 => (treenailref01_Div.l0 k x0 x1 t471 t468 (wrap64 (x8 - 1))))) else ((treenailref01_double.f k x6 (decide (t467 ≥ 0))).bind fun t474 => (treenailref01_Div.l0 k x0 x1 t474 t464 (wrap64 (x8 - 1)))))))) else (some (x6, x7))
def treenailref01_Div.f (k : Nat) (l0 : List Int) (l1 : List Int) : Option (List Int × List Int) := (treenailref01_Bits.f k l0).bind fun t462 => (treenailref01_Div.l0 k l0 l1 ([] : List Int) ([] : List Int) (wrap64 (t462 - 1)))
set_option maxHeartbeats 8000000 in
set_option maxRecDepth 100000 in
theorem treenailref01_Div.calls (k : Nat) (A0 : Option Addr) (c0 : Nat) (l0 : List Int) (A1 : Option Addr) (c1 : Nat) (l1 : List Int) (r1 : List Int) (r2 : List Int) (w : World) (hr0 : Kd.C (Kd.int .i64) w A0 l0.length l0) (hc0 : l0.length ≤ c0) (hr1 : Kd.C (Kd.int .i64) w A1 l1.length l1) (hc1 : l1.length ≤ c1) (h : treenailref01_Div.f k l0 l1 = some (r1, r2)) :
  Calls Try.prog 36 #[.slice A0 l0.length c0, .slice A1 l1.length c1] w fun e w' => ∃ v0_ v1_ : Value, e = .returned (.tuple #[v0_, v1_]) ∧ Kd.V (Kd.int .i64) 3 w' w.heap.size (fun k_ => (w.heap.size ≤ k_)) v0_ r1 ∧ Kd.V (Kd.int .i64) 3 w' w.heap.size (fun k_ => (w.heap.size ≤ k_)) v1_ r2 ∧ Below w.heap.size w w' := by
 have HR0 := aM hr0
 have HC0 := aM hc0
 clear hr0 hc0
 have HR1 := aM hr1
 have HC1 := aM hc1
 clear hr1 hc1
 have HB := aM (Below.refl w.heap.size w)
 have H : ((treenailref01_Bits.f k l0).bind fun t462 => (treenailref01_Div.l0 k l0 l1 ([] : List Int) ([] : List Int) (wrap64 (t462 - 1)))) = some (r1, r2) := h
 clear h
 replace H := Option.bind_eq_some_iff.mp H
 obtain ⟨t462, A30, H⟩ := H
 replace H : (treenailref01_Div.l0 k l0 l1 ([] : List Int) ([] : List Int) (wrap64 (t462 - 1))) = some (r1, r2) := H
 have A3 := aM A30
 clear A30
 have H' := aM H
 clear H
 go_enter Try.func36, Try.ntmps36
 go_wp2_with (first | ((with_reducible refine gate_callee (f := 24) rfl ?_); refine goesL_ (some 12) rfl rfl Try.func24 (by kernel_rfl) rfl #[.slice A0 l0.length c0] rfl (by (try simp only [mapA, mapB, mapC]); first | done | rfl | (simp only [lD, lT]; rfl) | (simp only [ge_iff_le, gt_iff_lt, *]; rfl)) ?_; (with_reducible refine (treenailref01_Bits.calls k _ _ l0 t462 _ ?side1 ?side2 A3.out).mono ?_); (case side1 => repeat (first | exact HR0.out | (with_reducible refine Kd.C_alloc ?_ _) | (with_reducible refine Kd.C_drewN ?_ _) | (with_reducible refine Kd.C_drew ?_))); (case side2 => exact HC0.out); rintro e w' ⟨rfl, ⟨nd, rfl⟩⟩; refine ⟨_, rfl, ?_⟩))
 go_loopg [6, 7, 8] k (fun kq v6 v7 v8 w' => ∃ (x6_1 : List Int) (x7_1 : List Int) (x8_1 : Int), v8 = .int .i64 x8_1 ∧ Aside0 (treenailref01_Div.l0 kq l0 l1 x6_1 x7_1 x8_1 = some (r1, r2)) ∧ Aside0 (kq ≤ k) ∧ Aside0 (Kd.V (Kd.int .i64) 3 w' w.heap.size (fun k_ => (w.heap.size ≤ k_)) v6 x6_1) ∧ Aside0 (Kd.V (Kd.int .i64) 3 w' w.heap.size (fun k_ => (w.heap.size ≤ k_)) v7 x7_1) ∧ Aside0 (Below w.heap.size w w'))
 case atStart => exact ⟨(([] : List Int)), (([] : List Int)), (wrap64 (t462 - 1)), (by first | rfl | (simp; done) | (simp [*]; done)), H', ⟨Nat.le_refl _⟩, ⟨Kd.V_nil _ _ _ _ _⟩, ⟨Kd.V_nil _ _ _ _ _⟩, ⟨by repeat (first | (with_reducible first | exact HB.out | apply bA | apply bN | apply bD) | exact HB.out)⟩⟩
 case round =>
  clear H'
  try clear c1
  try clear c2
  try clear p2
  try clear c3
  obtain ⟨x6_1, x7_1, x8_1, rfl, HA, HK1, HO_6, HO_7, HB⟩ := hrel
  cases gk with
  | zero => exact absurd HA.out (by simp [treenailref01_Div.l0])
  | succ k1 =>
   have H := HA.out
   clear HA
   simp only [treenailref01_Div.l0] at H
   by_cases c4 : x8_1 ≥ 0
   ·rw [if_pos c4] at H
    have c4b0 : decide (0 ≤ x8_1) = true := decide_eq_true c4
    clear c4
    replace H := Option.bind_eq_some_iff.mp H
    obtain ⟨t463, A50, H⟩ := H
    replace H : ((treenailref01_double.f k1 x7_1 t463).bind fun t464 => ((treenailref01_Cmp.f k1 t464 l1).bind fun t467 => (if t467 ≥ 0 then ((treenailref01_Sub.f k1 t464 l1).bind fun t468 => ((treenailref01_double.f k1 x6_1 (decide (t467 ≥ 0))).bind fun t471 => (treenailref01_Div.l0 k1 l0 l1 t471 t468 (wrap64 (x8_1 - 1))))) else ((treenailref01_double.f k1 x6_1 (decide (t467 ≥ 0))).bind fun t474 => (treenailref01_Div.l0 k1 l0 l1 t474 t464 (wrap64 (x8_1 - 1))))))) = some (r1, r2) := H
    have A5 := aM A50
    clear A50
    replace H := Option.bind_eq_some_iff.mp H
    obtain ⟨t464, A60, H⟩ := H
    replace H : ((treenailref01_Cmp.f k1 t464 l1).bind fun t467 => (if t467 ≥ 0 then ((treenailref01_Sub.f k1 t464 l1).bind fun t468 => ((treenailref01_double.f k1 x6_1 (decide (t467 ≥ 0))).bind fun t471 => (treenailref01_Div.l0 k1 l0 l1 t471 t468 (wrap64 (x8_1 - 1))))) else ((treenailref01_double.f k1 x6_1 (decide (t467 ≥ 0))).bind fun t474 => (treenailref01_Div.l0 k1 l0 l1 t474 t464 (wrap64 (x8_1 - 1)))))) = some (r1, r2) := H
    have A6 := aM A60
    clear A60
    replace H := Option.bind_eq_some_iff.mp H
    obtain ⟨t467, A70, H⟩ := H
    replace H : (if t467 ≥ 0 then ((treenailref01_Sub.f k1 t464 l1).bind fun t468 => ((treenailref01_double.f k1 x6_1 (decide (t467 ≥ 0))).bind fun t471 => (treenailref01_Div.l0 k1 l0 l1 t471 t468 (wrap64 (x8_1 - 1))))) else ((treenailref01_double.f k1 x6_1 (decide (t467 ≥ 0))).bind fun t474 => (treenailref01_Div.l0 k1 l0 l1 t474 t464 (wrap64 (x8_1 - 1))))) = some (r1, r2) := H
    have A7 := aM A70
    clear A70
    by_cases c8 : t467 ≥ 0
    ·rw [if_pos c8] at H
     have c8b0 : decide (0 ≤ t467) = true := decide_eq_true c8
     clear c8
     replace H := Option.bind_eq_some_iff.mp H
     obtain ⟨t468, A90, H⟩ := H
     replace H : ((treenailref01_double.f k1 x6_1 (decide (t467 ≥ 0))).bind fun t471 => (treenailref01_Div.l0 k1 l0 l1 t471 t468 (wrap64 (x8_1 - 1)))) = some (r1, r2) := H
     have A9 := aM A90
     clear A90
     replace H := Option.bind_eq_some_iff.mp H
     obtain ⟨t471, A100, H⟩ := H
     replace H : (treenailref01_Div.l0 k1 l0 l1 t471 t468 (wrap64 (x8_1 - 1))) = some (r1, r2) := H
     have A10 := aM A100
     clear A100
     have H' := aM H
     clear H
     go_wp2_with (first | ((with_reducible refine gate_callee (f := 26) rfl ?_); refine goesL_ (some 20) rfl rfl Try.func26 (by kernel_rfl) rfl #[.slice A0 l0.length c0, .int .i64 x8_1] rfl (by (try simp only [mapA, mapB, mapC]); first | done | rfl | (simp only [lD, lT]; rfl) | (simp only [ge_iff_le, gt_iff_lt, *]; rfl)) ?_; (with_reducible refine (treenailref01_Bit.calls k1 _ _ l0 x8_1 t463 _ ?side1 ?side2 A5.out).mono ?_); (case side1 => repeat (first | exact (Kd.C_below HR0.out HB.out) | (with_reducible refine Kd.C_alloc ?_ _) | (with_reducible refine Kd.C_drewN ?_ _) | (with_reducible refine Kd.C_drew ?_))); (case side2 => exact HC0.out); rintro e w' ⟨rfl, ⟨nd, rfl⟩⟩; refine ⟨_, rfl, ?_⟩; obtain ⟨Ao11, co11, eo11⟩ := Kd.V_slice HO_7.out; subst eo11) | ((with_reducible refine gate_callee (f := 51) rfl ?_); refine goesL_ (some 23) rfl rfl Try.func51 (by kernel_rfl) rfl #[.slice Ao11 x7_1.length co11, .bool t463] rfl (by (try simp only [mapA, mapB, mapC]); first | done | rfl | (simp only [lD, lT]; rfl) | (simp only [ge_iff_le, gt_iff_lt, *]; rfl)) ?_; (with_reducible refine (treenailref01_double.calls k1 _ _ x7_1 t463 t464 _ ?side1 ?side2 A6.out).mono ?_); (case side1 => repeat (first | exact (Kd.V_reads' HO_7.out).2.2 | (with_reducible refine Kd.C_alloc ?_ _) | (with_reducible refine Kd.C_drewN ?_ _) | (with_reducible refine Kd.C_drew ?_))); (case side2 => exact (Kd.V_reads' HO_7.out).2.1); rintro e w12 ⟨v465, rfl, ho0, hb⟩; refine ⟨_, rfl, ?_⟩; have n0_ := aM (Kd.V_below (by (with_reducible repeat (first | apply vA | apply vN | apply vD)); exact HO_6.out) hb); have n1_ := aM (Kd.V_below (by (with_reducible repeat (first | apply vA | apply vN | apply vD)); exact HO_7.out) hb); have n2_ := aM (Kd.V_lower (Kd.V_mono (ok' := fun k_ => (w.heap.size ≤ k_)) ho0 (fun k_ hk_ => (Nat.le_trans (below_size (by repeat (first | (with_reducible first | exact HB.out | apply bA | apply bN | apply bD) | exact HB.out))) hk_))) (below_size (by repeat (first | (with_reducible first | exact HB.out | apply bA | apply bN | apply bD) | exact HB.out)))); have n3_ := aM (below_step (by repeat (first | (with_reducible first | exact HB.out | apply bA | apply bN | apply bD) | exact HB.out)) hb); clear HO_6; clear HO_7; clear HB; have HO_6 := n0_; have HO_7 := n1_; have HO466 := n2_; have HB := n3_; clear n0_ n1_ n2_ n3_; (try clear hb); (try clear hb2); (try clear hk); (try clear hi); (try clear ho0); obtain ⟨Ao13, co13, eo13⟩ := Kd.V_slice HO466.out; subst eo13) | ((with_reducible refine gate_callee (f := 19) rfl ?_); refine goesL_ (some 26) rfl rfl Try.func19 (by kernel_rfl) rfl #[.slice Ao13 t464.length co13, .slice A1 l1.length c1] rfl (by (try simp only [mapA, mapB, mapC]); first | done | rfl | (simp only [lD, lT]; rfl) | (simp only [ge_iff_le, gt_iff_lt, *]; rfl)) ?_; (with_reducible refine (treenailref01_Cmp.calls k1 _ _ t464 _ _ l1 t467 _ ?side1 ?side2 ?side3 ?side4 A7.out).mono ?_); (case side1 => repeat (first | exact (Kd.V_reads' HO466.out).2.2 | (with_reducible refine Kd.C_alloc ?_ _) | (with_reducible refine Kd.C_drewN ?_ _) | (with_reducible refine Kd.C_drew ?_))); (case side2 => exact (Kd.V_reads' HO466.out).2.1); (case side3 => repeat (first | exact (Kd.C_below HR1.out HB.out) | (with_reducible refine Kd.C_alloc ?_ _) | (with_reducible refine Kd.C_drewN ?_ _) | (with_reducible refine Kd.C_drew ?_))); (case side4 => exact HC1.out); rintro e w' ⟨rfl, ⟨nd, rfl⟩⟩; refine ⟨_, rfl, ?_⟩) | ((with_reducible refine gate_callee (f := 20) rfl ?_); refine goesL_ (some 31) rfl rfl Try.func20 (by kernel_rfl) rfl #[.slice Ao13 t464.length co13, .slice A1 l1.length c1] rfl (by (try simp only [mapA, mapB, mapC]); first | done | rfl | (simp only [lD, lT]; rfl) | (simp only [ge_iff_le, gt_iff_lt, *]; rfl)) ?_; (with_reducible refine (treenailref01_Sub.calls k1 _ _ t464 _ _ l1 t468 _ ?side1 ?side2 ?side3 ?side4 A9.out).mono ?_); (case side1 => repeat (first | exact (Kd.V_reads' HO466.out).2.2 | (with_reducible refine Kd.C_alloc ?_ _) | (with_reducible refine Kd.C_drewN ?_ _) | (with_reducible refine Kd.C_drew ?_))); (case side2 => exact (Kd.V_reads' HO466.out).2.1); (case side3 => repeat (first | exact (Kd.C_below HR1.out (by repeat (first | (with_reducible first | exact HB.out | apply bA | apply bN | apply bD) | exact HB.out))) | (with_reducible refine Kd.C_alloc ?_ _) | (with_reducible refine Kd.C_drewN ?_ _) | (with_reducible refine Kd.C_drew ?_))); (case side4 => exact HC1.out); rintro e w14 ⟨v469, rfl, ho0, hb⟩; refine ⟨_, rfl, ?_⟩; have n0_ := aM (Kd.V_below (by (with_reducible repeat (first | apply vA | apply vN | apply vD)); exact HO_6.out) hb); have n1_ := aM (Kd.V_below (by (with_reducible repeat (first | apply vA | apply vN | apply vD)); exact HO_7.out) hb); have n2_ := aM (Kd.V_below (by (with_reducible repeat (first | apply vA | apply vN | apply vD)); exact HO466.out) hb); have n3_ := aM (Kd.V_lower (Kd.V_mono (ok' := fun k_ => (w.heap.size ≤ k_)) ho0 (fun k_ hk_ => (Nat.le_trans (below_size (by repeat (first | (with_reducible first | exact HB.out | apply bA | apply bN | apply bD) | exact HB.out))) hk_))) (below_size (by repeat (first | (with_reducible first | exact HB.out | apply bA | apply bN | apply bD) | exact HB.out)))); have n4_ := aM (below_step (by repeat (first | (with_reducible first | exact HB.out | apply bA | apply bN | apply bD) | exact HB.out)) hb); clear HO_6; clear HO_7; clear HO466; clear HB; have HO_6 := n0_; have HO_7 := n1_; have HO466 := n2_; have HO470 := n3_; have HB := n4_; clear n0_ n1_ n2_ n3_ n4_; (try clear hb); (try clear hb2); (try clear hk); (try clear hi); (try clear ho0); obtain ⟨Ao15, co15, eo15⟩ := Kd.V_slice HO_6.out; subst eo15) | ((with_reducible refine gate_callee (f := 51) rfl ?_); refine goesL_ (some 34) rfl rfl Try.func51 (by kernel_rfl) rfl #[.slice Ao15 x6_1.length co15, .bool (decide (t467 ≥ 0))] rfl (by (try simp only [mapA, mapB, mapC]); first | done | rfl | (simp only [lD, lT]; rfl) | (simp only [ge_iff_le, gt_iff_lt, *]; rfl)) ?_; (with_reducible refine (treenailref01_double.calls k1 _ _ x6_1 (decide (t467 ≥ 0)) t471 _ ?side1 ?side2 A10.out).mono ?_); (case side1 => repeat (first | exact (Kd.V_reads' HO_6.out).2.2 | (with_reducible refine Kd.C_alloc ?_ _) | (with_reducible refine Kd.C_drewN ?_ _) | (with_reducible refine Kd.C_drew ?_))); (case side2 => exact (Kd.V_reads' HO_6.out).2.1); rintro e w16 ⟨v472, rfl, ho0, hb⟩; refine ⟨_, rfl, ?_⟩; have n0_ := aM (Kd.V_below (by (with_reducible repeat (first | apply vA | apply vN | apply vD)); exact HO_6.out) hb); have n1_ := aM (Kd.V_below (by (with_reducible repeat (first | apply vA | apply vN | apply vD)); exact HO_7.out) hb); have n2_ := aM (Kd.V_below (by (with_reducible repeat (first | apply vA | apply vN | apply vD)); exact HO466.out) hb); have n3_ := aM (Kd.V_below (by (with_reducible repeat (first | apply vA | apply vN | apply vD)); exact HO470.out) hb); have n4_ := aM (Kd.V_lower (Kd.V_mono (ok' := fun k_ => (w.heap.size ≤ k_)) ho0 (fun k_ hk_ => (Nat.le_trans (below_size (by repeat (first | (with_reducible first | exact HB.out | apply bA | apply bN | apply bD) | exact HB.out))) hk_))) (below_size (by repeat (first | (with_reducible first | exact HB.out | apply bA | apply bN | apply bD) | exact HB.out)))); have n5_ := aM (below_step (by repeat (first | (with_reducible first | exact HB.out | apply bA | apply bN | apply bD) | exact HB.out)) hb); clear HO_6; clear HO_7; clear HO466; clear HO470; clear HB; have HO_6 := n0_; have HO_7 := n1_; have HO466 := n2_; have HO470 := n3_; have HO473 := n4_; have HB := n5_; clear n0_ n1_ n2_ n3_ n4_ n5_; (try clear hb); (try clear hb2); (try clear hk); (try clear hi); (try clear ho0)))
     go_roundg k1
     case measure => have := HK1.out; omega
     case rel => exact ⟨(t471), (t468), (wrap64 (x8_1 - 1)), (by first | rfl | (simp; done) | (simp [*]; done)), H', ⟨by have := HK1.out; omega⟩, ⟨by (with_reducible repeat (first | apply vA | apply vN | apply vD)); exact HO473.out⟩, ⟨by (with_reducible repeat (first | apply vA | apply vN | apply vD)); exact HO470.out⟩, ⟨by repeat (first | (with_reducible first | exact HB.out | apply bA | apply bN | apply bD) | exact HB.out)⟩⟩
    ·rw [if_neg c8] at H
     have c8b0 : decide (0 ≤ t467) = false := decide_eq_false c8
     clear c8
     replace H := Option.bind_eq_some_iff.mp H
     obtain ⟨t474, A170, H⟩ := H
     replace H : (treenailref01_Div.l0 k1 l0 l1 t474 t464 (wrap64 (x8_1 - 1))) = some (r1, r2) := H
     have A17 := aM A170
     clear A170
     have H' := aM H
     clear H
     go_wp2_with (first | ((with_reducible refine gate_callee (f := 26) rfl ?_); refine goesL_ (some 20) rfl rfl Try.func26 (by kernel_rfl) rfl #[.slice A0 l0.length c0, .int .i64 x8_1] rfl (by (try simp only [mapA, mapB, mapC]); first | done | rfl | (simp only [lD, lT]; rfl) | (simp only [ge_iff_le, gt_iff_lt, *]; rfl)) ?_; (with_reducible refine (treenailref01_Bit.calls k1 _ _ l0 x8_1 t463 _ ?side1 ?side2 A5.out).mono ?_); (case side1 => repeat (first | exact (Kd.C_below HR0.out HB.out) | (with_reducible refine Kd.C_alloc ?_ _) | (with_reducible refine Kd.C_drewN ?_ _) | (with_reducible refine Kd.C_drew ?_))); (case side2 => exact HC0.out); rintro e w' ⟨rfl, ⟨nd, rfl⟩⟩; refine ⟨_, rfl, ?_⟩; obtain ⟨Ao18, co18, eo18⟩ := Kd.V_slice HO_7.out; subst eo18) | ((with_reducible refine gate_callee (f := 51) rfl ?_); refine goesL_ (some 23) rfl rfl Try.func51 (by kernel_rfl) rfl #[.slice Ao18 x7_1.length co18, .bool t463] rfl (by (try simp only [mapA, mapB, mapC]); first | done | rfl | (simp only [lD, lT]; rfl) | (simp only [ge_iff_le, gt_iff_lt, *]; rfl)) ?_; (with_reducible refine (treenailref01_double.calls k1 _ _ x7_1 t463 t464 _ ?side1 ?side2 A6.out).mono ?_); (case side1 => repeat (first | exact (Kd.V_reads' HO_7.out).2.2 | (with_reducible refine Kd.C_alloc ?_ _) | (with_reducible refine Kd.C_drewN ?_ _) | (with_reducible refine Kd.C_drew ?_))); (case side2 => exact (Kd.V_reads' HO_7.out).2.1); rintro e w19 ⟨v465, rfl, ho0, hb⟩; refine ⟨_, rfl, ?_⟩; have n0_ := aM (Kd.V_below (by (with_reducible repeat (first | apply vA | apply vN | apply vD)); exact HO_6.out) hb); have n1_ := aM (Kd.V_below (by (with_reducible repeat (first | apply vA | apply vN | apply vD)); exact HO_7.out) hb); have n2_ := aM (Kd.V_lower (Kd.V_mono (ok' := fun k_ => (w.heap.size ≤ k_)) ho0 (fun k_ hk_ => (Nat.le_trans (below_size (by repeat (first | (with_reducible first | exact HB.out | apply bA | apply bN | apply bD) | exact HB.out))) hk_))) (below_size (by repeat (first | (with_reducible first | exact HB.out | apply bA | apply bN | apply bD) | exact HB.out)))); have n3_ := aM (below_step (by repeat (first | (with_reducible first | exact HB.out | apply bA | apply bN | apply bD) | exact HB.out)) hb); clear HO_6; clear HO_7; clear HB; have HO_6 := n0_; have HO_7 := n1_; have HO466 := n2_; have HB := n3_; clear n0_ n1_ n2_ n3_; (try clear hb); (try clear hb2); (try clear hk); (try clear hi); (try clear ho0); obtain ⟨Ao20, co20, eo20⟩ := Kd.V_slice HO466.out; subst eo20) | ((with_reducible refine gate_callee (f := 19) rfl ?_); refine goesL_ (some 26) rfl rfl Try.func19 (by kernel_rfl) rfl #[.slice Ao20 t464.length co20, .slice A1 l1.length c1] rfl (by (try simp only [mapA, mapB, mapC]); first | done | rfl | (simp only [lD, lT]; rfl) | (simp only [ge_iff_le, gt_iff_lt, *]; rfl)) ?_; (with_reducible refine (treenailref01_Cmp.calls k1 _ _ t464 _ _ l1 t467 _ ?side1 ?side2 ?side3 ?side4 A7.out).mono ?_); (case side1 => repeat (first | exact (Kd.V_reads' HO466.out).2.2 | (with_reducible refine Kd.C_alloc ?_ _) | (with_reducible refine Kd.C_drewN ?_ _) | (with_reducible refine Kd.C_drew ?_))); (case side2 => exact (Kd.V_reads' HO466.out).2.1); (case side3 => repeat (first | exact (Kd.C_below HR1.out HB.out) | (with_reducible refine Kd.C_alloc ?_ _) | (with_reducible refine Kd.C_drewN ?_ _) | (with_reducible refine Kd.C_drew ?_))); (case side4 => exact HC1.out); rintro e w' ⟨rfl, ⟨nd, rfl⟩⟩; refine ⟨_, rfl, ?_⟩; obtain ⟨Ao21, co21, eo21⟩ := Kd.V_slice HO_6.out; subst eo21) | ((with_reducible refine gate_callee (f := 51) rfl ?_); refine goesL_ (some 34) rfl rfl Try.func51 (by kernel_rfl) rfl #[.slice Ao21 x6_1.length co21, .bool (decide (t467 ≥ 0))] rfl (by (try simp only [mapA, mapB, mapC]); first | done | rfl | (simp only [lD, lT]; rfl) | (simp only [ge_iff_le, gt_iff_lt, *]; rfl)) ?_; (with_reducible refine (treenailref01_double.calls k1 _ _ x6_1 (decide (t467 ≥ 0)) t474 _ ?side1 ?side2 A17.out).mono ?_); (case side1 => repeat (first | exact (Kd.V_reads' HO_6.out).2.2 | (with_reducible refine Kd.C_alloc ?_ _) | (with_reducible refine Kd.C_drewN ?_ _) | (with_reducible refine Kd.C_drew ?_))); (case side2 => exact (Kd.V_reads' HO_6.out).2.1); rintro e w22 ⟨v475, rfl, ho0, hb⟩; refine ⟨_, rfl, ?_⟩; have n0_ := aM (Kd.V_below (by (with_reducible repeat (first | apply vA | apply vN | apply vD)); exact HO_6.out) hb); have n1_ := aM (Kd.V_below (by (with_reducible repeat (first | apply vA | apply vN | apply vD)); exact HO_7.out) hb); have n2_ := aM (Kd.V_below (by (with_reducible repeat (first | apply vA | apply vN | apply vD)); exact HO466.out) hb); have n3_ := aM (Kd.V_lower (Kd.V_mono (ok' := fun k_ => (w.heap.size ≤ k_)) ho0 (fun k_ hk_ => (Nat.le_trans (below_size (by repeat (first | (with_reducible first | exact HB.out | apply bA | apply bN | apply bD) | exact HB.out))) hk_))) (below_size (by repeat (first | (with_reducible first | exact HB.out | apply bA | apply bN | apply bD) | exact HB.out)))); have n4_ := aM (below_step (by repeat (first | (with_reducible first | exact HB.out | apply bA | apply bN | apply bD) | exact HB.out)) hb); clear HO_6; clear HO_7; clear HO466; clear HB; have HO_6 := n0_; have HO_7 := n1_; have HO466 := n2_; have HO476 := n3_; have HB := n4_; clear n0_ n1_ n2_ n3_ n4_; (try clear hb); (try clear hb2); (try clear hk); (try clear hi); (try clear ho0)))
     go_roundg k1
     case measure => have := HK1.out; omega
     case rel => exact ⟨(t474), (t464), (wrap64 (x8_1 - 1)), (by first | rfl | (simp; done) | (simp [*]; done)), H', ⟨by have := HK1.out; omega⟩, ⟨by (with_reducible repeat (first | apply vA | apply vN | apply vD)); exact HO476.out⟩, ⟨by (with_reducible repeat (first | apply vA | apply vN | apply vD)); exact HO466.out⟩, ⟨by repeat (first | (with_reducible first | exact HB.out | apply bA | apply bN | apply bD) | exact HB.out)⟩⟩
   ·rw [if_neg c4] at H
    have c4b0 : decide (0 ≤ x8_1) = false := decide_eq_false c4
    clear c4
    simp only [Option.some.injEq, Prod.mk.injEq] at H
    obtain ⟨rfl, rfl⟩ := H
    go_wp2
    go_ret2
    exact ⟨_, _, by first | rfl | (simp [errW_none, errW_some] <;> rfl) | (simp [*, errW_none, errW_some] <;> rfl), by (with_reducible repeat (first | apply vA | apply vN | apply vD)); exact HO_6.out, by (with_reducible repeat (first | apply vA | apply vN | apply vD)); exact HO_7.out, by repeat (first | (with_reducible first | exact HB.out | apply bA | apply bN | apply bD) | exact HB.out)⟩

end Go.Proofs.Ytolflieiipnndaa.X
