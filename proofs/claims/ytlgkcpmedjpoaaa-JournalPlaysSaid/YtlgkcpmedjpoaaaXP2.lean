-- printed by wip/xprint.py, a program of ours over the kit's print. Not trusted: Lean checks it.
import Derived.Test.YtlgkcpmedjpoaaaXP0
import Derived.Test.YtlgkcpmedjpoaaaXP1
import Derived.Test.YtlgkcpmedjpoaaaJN
import Derived.Test.YtlgkcpmedjpoaaaKd
namespace Go.Proofs.Ytlgkcpmedjpoaaa.X
open Go.RowKit Go.Proofs.YtlgkcpmedjpoaaaW.PrintWords Go.Proofs.YtlgkcpmedjpoaaaW.PrintLast Go.Proofs.YtlgkcpmedjpoaaaW.PrintMore
attribute [local go_sem] max2_int min2_int max_two min_two max_three min_three max_four min_four   -- for this text's walks alone
set_option linter.unusedVariables false
set_option linter.unusedSimpArgs false

/-! ### journal_Scan: function 11 -/
mutual
def journal_Scan.l0 : Nat → List Int → List (List Int) → Int → Option ((List (List Int)) × Int)
  | 0, _, _, _ => none
  | k + 1, x0, x4, x5 => if (wrap64 ((x0.length : Int) - x5)) ≥ 8 then (if 0 ≤ x5 then (if x5 ≤ (x0.length : Int) then ((journal_of.f (x0.drop (x5 : Int).toNat)).bind fun t111 => (if (wrap64 (t111)) > 2097152 then (journal_Scan.j1 k x0 x4 x5 (wrap64 (t111)) true) else (journal_Scan.j1 k x0 x4 x5 (wrap64 (t111)) (decide ((wrap64 ((wrap64 ((x0.length : Int) - x5)) - 8)) < (wrap64 (t111))))))) else (none)) else (none)) else (some (x4, x5))
def journal_Scan.j1 : Nat → List Int → List (List Int) → Int → Int → Bool → Option ((List (List Int)) × Int)
  | 0, _, _, _, _, _ => none
  | k + 1, x0, x4, x5, x6, x28 => if x28 = true then (some (x4, x5)) else (if 0 ≤ (wrap64 (x5 + 8)) then (if (wrap64 (x5 + 8)) ≤ (wrap64 ((wrap64 (x5 + 8)) + x6)) then (if (wrap64 ((wrap64 (x5 + 8)) + x6)) ≤ (x0.length : Int) then ((some ((x0.take ((wrap64 ((wrap64 (x5 + 8)) + x6)) : Int).toNat).drop ((wrap64 (x5 + 8)) : Int).toNat : List Int)).bind fun y112 => (if 0 ≤ x5 then (if x5 ≤ (wrap64 (x5 + 4)) then (if (wrap64 (x5 + 4)) ≤ (x0.length : Int) then ((slices_Concat_byte_byte.f (([((x0.take ((wrap64 (x5 + 4)) : Int).toNat).drop (x5 : Int).toNat), y112] : List (List Int)))).bind fun t125 => ((journal_Sum.f k t125).bind fun t128 => (if 0 ≤ (wrap64 (x5 + 4)) then ((journal_of.f (x0.drop ((wrap64 (x5 + 4)) : Int).toNat)).bind fun t134 => (if t128 = t134 then ((slices_Clone_byte_byte.f y112).bind fun t135 => (if x4.length < 5864062014805 then (journal_Scan.l0 k x0 (x4 ++ [t135]) (wrap64 (x5 + (wrap64 (8 + x6))))) else (none))) else (some (x4, x5)))) else (none)))) else (none)) else (none)) else (none))) else (none)) else (none)) else (none))
end
def journal_Scan.f (k : Nat) (l0 : List Int) : Option ((List (List Int)) × Int) := journal_Scan.l0 k l0 ([] : List (List Int)) 0
theorem journal_Scan.mono_l : ∀ k, (∀ y0 y1 y2, LeO (journal_Scan.l0 k y0 y1 y2) (journal_Scan.l0 (k + 1) y0 y1 y2)) ∧ (∀ y0 y1 y2 y3 y4, LeO (journal_Scan.j1 k y0 y1 y2 y3 y4) (journal_Scan.j1 (k + 1) y0 y1 y2 y3 y4))
  | 0 => ⟨fun _ _ _ r h => by simp [journal_Scan.l0] at h, fun _ _ _ _ _ r h => by simp [journal_Scan.j1] at h⟩
  | k + 1 => by
    obtain ⟨ih0, ih1⟩ := journal_Scan.mono_l k
    refine ⟨?_, ?_⟩
    · intro y0 y1 y2
      unfold journal_Scan.l0
      repeat' first
      | (with_reducible exact ih0 _ _ _)
      | (with_reducible exact ih1 _ _ _ _ _)
      | (with_reducible exact journal_Sum.mono _ _)
      | (with_reducible exact LeO.refl _)
      | (with_reducible exact LeO.none _)
      | (with_reducible refine LeO.ite ?_ ?_)
      | (with_reducible refine LeO.bind ?_ (fun _ => ?_))
      | exact ih0 _ _ _
      | exact ih1 _ _ _ _ _
      | exact journal_Sum.mono _ _
      | exact LeO.none _
      | refine LeO.ite ?_ ?_
      | refine LeO.bind ?_ (fun _ => ?_)
    · intro y0 y1 y2 y3 y4
      unfold journal_Scan.j1
      repeat' first
      | (with_reducible exact ih0 _ _ _)
      | (with_reducible exact ih1 _ _ _ _ _)
      | (with_reducible exact journal_Sum.mono _ _)
      | (with_reducible exact LeO.refl _)
      | (with_reducible exact LeO.none _)
      | (with_reducible refine LeO.ite ?_ ?_)
      | (with_reducible refine LeO.bind ?_ (fun _ => ?_))
      | exact ih0 _ _ _
      | exact ih1 _ _ _ _ _
      | exact journal_Sum.mono _ _
      | exact LeO.none _
      | refine LeO.ite ?_ ?_
      | refine LeO.bind ?_ (fun _ => ?_)
theorem journal_Scan.mono : ∀ a0 k, LeO (journal_Scan.f k a0) (journal_Scan.f (k + 1) a0) := by
  intro a0 k
  obtain ⟨ih0, ih1⟩ := journal_Scan.mono_l k
  unfold journal_Scan.f
  repeat' first
      | (with_reducible exact ih0 _ _ _)
      | (with_reducible exact ih1 _ _ _ _ _)
      | (with_reducible exact journal_Sum.mono _ _)
      | (with_reducible exact LeO.refl _)
      | (with_reducible exact LeO.none _)
      | (with_reducible refine LeO.ite ?_ ?_)
      | (with_reducible refine LeO.bind ?_ (fun _ => ?_))
      | exact ih0 _ _ _
      | exact ih1 _ _ _ _ _
      | exact journal_Sum.mono _ _
      | exact LeO.none _
      | refine LeO.ite ?_ ?_
      | refine LeO.bind ?_ (fun _ => ?_)
def journal_Scan.T7 : Bool × List (List Nat × List Nat) := (true, [([], []), ([], []), ([], []), ([2], [2]), ([0, 1, 3], [0, 1, 3]), ([], []), ([4, 5], [4, 5]), ([6], [6]), ([7, 7], [7]), ([], []), ([], []), ([10], [10]), ([9, 11], [9, 11]), ([12, 8], [12]), ([8, 13], [8, 13])])
def journal_Scan.B7 : List Nat := [0, 0, 0, 4, 15, 0, 63, 127, 255, 0, 0, 1024, 3584, 8191, 16383]
theorem journal_Scan.tab7 : rtab .any (opsOf Try.f11 7) = journal_Scan.T7 := by kernel_rfl
theorem journal_Scan.bits7 : waitsOk journal_Scan.T7.2 journal_Scan.B7 = true := by kernel_rfl
set_option maxHeartbeats 8000000 in
set_option maxRecDepth 100000 in
theorem journal_Scan.calls (k : Nat) (P0_ : Nat → Prop) (A0 : Option Addr) (c0 : Nat) (l0 : List Int) (r1 : List (List Int)) (r2 : Int) (w : World) (hs0 : Kd.V (Kd.int .u8) 5 w w.heap.size (fun k_ => P0_ k_) (.slice A0 l0.length c0) l0) (h : journal_Scan.f k l0 = some (r1, r2)) :
    Calls Try.prog 11 #[.slice A0 l0.length c0] w fun e w' => ∃ v0_ : Value, e = .returned (.tuple #[v0_, .int .i64 r2]) ∧ Kd.N (Kd.slice 5 (Kd.int .u8)) 22 w' w.heap.size (fun k_ => (P0_ k_ ∨ w.heap.size ≤ k_)) v0_ r1 ∧ Below w.heap.size w w' := by
  have HO0 := aM (show Kd.V (Kd.int .u8) 5 w w.heap.size (fun k_ => (P0_ k_ ∨ w.heap.size ≤ k_)) (.slice A0 l0.length c0) l0 from Kd.V_mono hs0 (fun k_ hk => .inl hk))
  have HB := aM (Below.refl w.heap.size w)
  have H : (journal_Scan.l0 k l0 ([] : List (List Int)) 0) = some (r1, r2) := h
  clear h
  have H' := aM H
  clear H
  go_enter Try.func11, Try.ntmps11
  go_wp2
  go_loopg [4, 5] k (fun kq v4 v5 w' => ∃ (x4_1 : List (List Int)) (x5_1 : Int), v5 = .int .i64 x5_1 ∧ Aside0 (journal_Scan.l0 kq l0 x4_1 x5_1 = some (r1, r2)) ∧ Aside0 (kq ≤ k) ∧ Aside0 (Kd.V (Kd.int .u8) 5 w' w.heap.size (fun k_ => (P0_ k_ ∨ w.heap.size ≤ k_) ∧ some k_ ≠ (v4 : Value).ownBlock) (.slice A0 l0.length c0) l0) ∧ Aside0 (Kd.N (Kd.slice 5 (Kd.int .u8)) 22 w' w.heap.size (fun k_ => (P0_ k_ ∨ w.heap.size ≤ k_)) v4 x4_1) ∧ Aside0 (Below w.heap.size w w'))
  case atStart => exact ⟨(([] : List (List Int))), (0), (by first | rfl | (simp; done) | (simp [*]; done)), H', ⟨Nat.le_refl _⟩, ⟨by (with_reducible repeat (first | apply vA | apply vN | apply vD)); exact Kd.V_mono HO0.out (fun _ hk => ⟨hk, (by simp [Value.ownBlock])⟩)⟩, ⟨by first | exact Kd.S_nil _ _ _ _ _ | exact Kd.N_nil _ _ _ _ _ | exact Kd.V_nil _ _ _ _ _ | exact Kd.Q_nil _ _ _ _ _ | exact Kd.R_nil _ _ _ _ _⟩, ⟨by repeat (first | (with_reducible first | exact HB.out | apply bA | apply bN | apply bD) | exact HB.out)⟩⟩
  case round =>
    clear H'
    try clear c1
    obtain ⟨x4_1, x5_1, rfl, HA, HK1, HO_0, HO_4, HB⟩ := hrel
    cases gk with
    | zero => exact absurd HA.out (by simp [journal_Scan.l0])
    | succ k1 =>
      have H := HA.out
      clear HA
      simp only [journal_Scan.l0] at H
      by_cases c2 : (wrap64 ((l0.length : Int) - x5_1)) ≥ 8
      · rw [if_pos c2] at H
        have c2b0 : decide (8 ≤ (wrap64 ((l0.length : Int) - x5_1))) = true := decide_eq_true c2
        clear c2
        by_cases c3 : 0 ≤ x5_1
        · rw [if_pos c3] at H
          have c3b0 := eq_true c3
          have c3b1 : decide (0 ≤ x5_1) = true := decide_eq_true c3
          clear c3
          by_cases c4 : x5_1 ≤ (l0.length : Int)
          · rw [if_pos c4] at H
            have c4b0 := eq_true c4
            have c4b1 : decide (x5_1 ≤ (l0.length : Int)) = true := decide_eq_true c4
            clear c4
            obtain ⟨y106, hy106⟩ : ∃ y_ : List Int, y_ = (l0.drop (x5_1 : Int).toNat) := ⟨_, rfl⟩
            replace H : ((journal_of.f y106).bind fun t111 => (if (wrap64 (t111)) > 2097152 then (journal_Scan.j1 k1 l0 x4_1 x5_1 (wrap64 (t111)) true) else (journal_Scan.j1 k1 l0 x4_1 x5_1 (wrap64 (t111)) (decide ((wrap64 ((wrap64 ((l0.length : Int) - x5_1)) - 8)) < (wrap64 (t111))))))) = some (r1, r2) := by first | (rw [hy106]; with_reducible exact H) | (have H2_ := (Option.bind_some _ _).symm.trans H; rw [hy106]; with_reducible exact H2_) | (have H2_ := (Option.bind_some _ _).symm.trans H; with_reducible exact H2_) | with_reducible exact H | (rw [hy106]; exact H) | exact H
            have Ny106 := aM hy106
            clear hy106
            replace H := Option.bind_eq_some_iff.mp H
            obtain ⟨t111, A50, H⟩ := H
            replace H : (if (wrap64 (t111)) > 2097152 then (journal_Scan.j1 k1 l0 x4_1 x5_1 (wrap64 (t111)) true) else (journal_Scan.j1 k1 l0 x4_1 x5_1 (wrap64 (t111)) (decide ((wrap64 ((wrap64 ((l0.length : Int) - x5_1)) - 8)) < (wrap64 (t111)))))) = some (r1, r2) := H
            have A5 := aM A50
            clear A50
            have HC6 := aM H
            clear H
            have q7 : (x5_1 : Int) ≤ ((l0.length : Int) : Int) := of_decide_eq_true (by first | (with_reducible assumption) | assumption)
            obtain ⟨i07, hi07, _, hsz7, _⟩ := info_parts info5
            have hroom7 : l0.length ≤ c0 := (Kd.V_reads' HO_0.out).2.1
            have hC7 : Kd.F (Kd.int .u8) _ _ A0 l0.length l0 := (Kd.V_at (base := w.heap.size) HO_0.out).2.2
            have q07 : (0 : Int) ≤ (x5_1 : Int) := of_decide_eq_true (by first | (with_reducible assumption) | assumption)
            have hcut7 := cut_from (P := Try.prog) 22 5 .i64 Try.underlying22 hi07 1 hsz7 A0 l0.length c0 x5_1 q07 q7
            have hr7 := Kd.F_cut (m := (x5_1 : Int).toNat) (c := c0) hC7 (by omega) hroom7
            obtain ⟨A7, hA7⟩ : ∃ A1, A1 = (if c0 = (x5_1 : Int).toNat then A0 else (A0 : Option Addr).map (·.add ((x5_1 : Int).toNat * 1))) := ⟨_, rfl⟩
            obtain ⟨c7, hc7⟩ : ∃ c1, c1 = c0 - (x5_1 : Int).toNat := ⟨_, rfl⟩
            have hy7 : y106.length = l0.length - (x5_1 : Int).toNat := (by rw [Ny106.out, List.length_drop] <;> omega)
            rw [show (l0).drop (x5_1 : Int).toNat = y106 from Ny106.out.symm] at hr7
            replace hr7 : Kd.F (Kd.int .u8) _ _ A7 y106.length y106 := (by rw [hA7]; exact hr7)
            rw [← hy7, ← hA7, ← hc7] at hcut7
            have HO110 := aM (show Kd.V (Kd.int .u8) 5 _ w.heap.size _ (.slice A7 y106.length c7) y106 from Kd.V_mk (by rw [hy7, hc7]; exact Nat.sub_le_sub_right hroom7 _) hr7)
            have HC110 := aM (show y106.length ≤ c7 from by rw [hy7, hc7]; exact Nat.sub_le_sub_right hroom7 _)
            clear hr7 hC7 hroom7 hi07 hsz7 hc7
            have KY7 := aM hy7
            have KA7 := aM hA7
            clear hy7 hA7
            replace q7 := eq_true q7
            go_upto_region 5 with (first | ((with_reducible refine gate_callee (f := 36) rfl ?_); refine goesL_ (some 16) rfl rfl Try.func36 (by kernel_rfl) rfl #[.slice A7 y106.length c7] rfl (by (try simp only [mapA, mapB, mapC]); first | done | rfl | (simp only [lD, lT]; rfl) | (simp only [ge_iff_le, gt_iff_lt, *]; rfl)) ?_; (with_reducible refine (journal_of.calls _ _ y106 t111 _ ?side1 ?side2 A5.out).mono ?_); (case side1 => repeat (first | exact (Kd.V_reads' HO110.out).2.2 | (with_reducible refine Kd.C_alloc ?_ _) | (with_reducible refine Kd.C_drewN ?_ _) | (with_reducible refine Kd.C_drew ?_))); (case side2 => exact (Kd.V_reads' HO110.out).2.1); rintro e w' ⟨rfl, ⟨nd, rfl⟩⟩; refine ⟨_, rfl, ?_⟩))
            (try simp only [Act.put, List.setIfInBounds_toArray, List.set_cons_zero, List.set_cons_succ])
            go_cut [28] (fun v28 wc => ∃ (kq : Nat) (x28_5 : Bool), v28 = .bool x28_5 ∧ Aside0 (journal_Scan.j1 kq l0 x4_1 x5_1 (wrap64 (t111)) x28_5 = some (r1, r2)) ∧ Aside0 (kq ≤ k1) ∧ Aside0 (Kd.V (Kd.int .u8) 5 wc w.heap.size (fun k_ => (P0_ k_ ∨ w.heap.size ≤ k_) ∧ some k_ ≠ (u4 : Value).ownBlock) (.slice A0 l0.length c0) l0) ∧ Aside0 (Kd.N (Kd.slice 5 (Kd.int .u8)) 22 wc w.heap.size (fun k_ => (P0_ k_ ∨ w.heap.size ≤ k_)) u4 x4_1) ∧ Aside0 (Below w.heap.size w wc))
            case first =>
              have H := HC6.out
              clear HC6
              by_cases c8 : (wrap64 (t111)) > 2097152
              · rw [if_pos c8] at H
                have c8b0 : decide (2097152 < (wrap64 (t111))) = true := decide_eq_true c8
                clear c8
                (first | rw [c8b0] | (simp only [i64_w, i32_w]; rw [c8b0]) | rw [c8b1] | rw [c8b2] | skip)
                have H' := aM H
                clear H
                go_wp2
                go_meet
                case rel => exact ⟨_, (true), (by first | rfl | (simp; done) | (simp [*]; done)), H', ⟨by have := HK1.out; first | omega | exact Nat.le_refl _⟩, ⟨by (with_reducible repeat (first | apply vA | apply vN | apply vD)); exact HO_0.out⟩, ⟨by (with_reducible repeat (first | apply nA | apply nN | apply nD)); exact HO_4.out⟩, ⟨by repeat (first | (with_reducible first | exact HB.out | apply bA | apply bN | apply bD) | exact HB.out)⟩⟩
              · rw [if_neg c8] at H
                have c8b0 : decide (2097152 < (wrap64 (t111))) = false := decide_eq_false c8
                clear c8
                (first | rw [c8b0] | (simp only [i64_w, i32_w]; rw [c8b0]) | rw [c8b1] | rw [c8b2] | skip)
                have H' := aM H
                clear H
                go_wp2
                go_meet
                case rel => exact ⟨_, (decide ((wrap64 ((wrap64 ((l0.length : Int) - x5_1)) - 8)) < (wrap64 (t111)))), (by first | rfl | (simp; done) | (simp [*]; done)), H', ⟨by have := HK1.out; first | omega | exact Nat.le_refl _⟩, ⟨by (with_reducible repeat (first | apply vA | apply vN | apply vD)); exact HO_0.out⟩, ⟨by (with_reducible repeat (first | apply nA | apply nN | apply nD)); exact HO_4.out⟩, ⟨by repeat (first | (with_reducible first | exact HB.out | apply bA | apply bN | apply bD) | exact HB.out)⟩⟩
            case rest =>
              clear HC6
              try clear c1
              try clear c2
              try clear c2b0
              try clear p2
              try clear c3
              try clear c3b0
              try clear c3b1
              try clear c4
              try clear c4b0
              try clear c4b1
              try clear p6
              try clear c7
              try clear q7
              try clear c8
              try clear c8b0
              try clear c8b1
              try clear c8b2
              try clear q07
              try clear q7
              obtain ⟨kq, x28_5, rfl, HA, HJ5, HO_0, HO_4, HB⟩ := hcut
              cases kq with
              | zero => exact absurd HA.out (by simp [journal_Scan.j1])
              | succ kj5 =>
                have H := HA.out
                clear HA
                simp only [journal_Scan.j1] at H
                by_cases c9 : x28_5 = true
                · subst c9
                  have H1 : (some (x4_1, x5_1)) = some (r1, r2) := by rw [if_pos rfl] at H; exact H
                  clear H
                  have H := H1
                  clear H1
                  simp only [Option.some.injEq, Prod.mk.injEq] at H
                  obtain ⟨rfl, rfl⟩ := H
                  go_wp2
                  go_ret2
                  exact ⟨_, by first | rfl | (simp [errW_none, errW_some] <;> rfl) | (simp [*, errW_none, errW_some] <;> rfl), by (with_reducible repeat (first | apply nA | apply nN | apply nD)); exact HO_4.out, by repeat (first | (with_reducible first | exact HB.out | apply bA | apply bN | apply bD) | exact HB.out)⟩
                · replace c9 := Bool.eq_false_iff.mpr c9
                  subst c9
                  have H1 : (if 0 ≤ (wrap64 (x5_1 + 8)) then (if (wrap64 (x5_1 + 8)) ≤ (wrap64 ((wrap64 (x5_1 + 8)) + (wrap64 (t111)))) then (if (wrap64 ((wrap64 (x5_1 + 8)) + (wrap64 (t111)))) ≤ (l0.length : Int) then ((some ((l0.take ((wrap64 ((wrap64 (x5_1 + 8)) + (wrap64 (t111)))) : Int).toNat).drop ((wrap64 (x5_1 + 8)) : Int).toNat : List Int)).bind fun y112 => (if 0 ≤ x5_1 then (if x5_1 ≤ (wrap64 (x5_1 + 4)) then (if (wrap64 (x5_1 + 4)) ≤ (l0.length : Int) then ((slices_Concat_byte_byte.f (([((l0.take ((wrap64 (x5_1 + 4)) : Int).toNat).drop (x5_1 : Int).toNat), y112] : List (List Int)))).bind fun t125 => ((journal_Sum.f kj5 t125).bind fun t128 => (if 0 ≤ (wrap64 (x5_1 + 4)) then ((journal_of.f (l0.drop ((wrap64 (x5_1 + 4)) : Int).toNat)).bind fun t134 => (if t128 = t134 then ((slices_Clone_byte_byte.f y112).bind fun t135 => (if x4_1.length < 5864062014805 then (journal_Scan.l0 kj5 l0 (x4_1 ++ [t135]) (wrap64 (x5_1 + (wrap64 (8 + (wrap64 (t111))))))) else (none))) else (some (x4_1, x5_1)))) else (none)))) else (none)) else (none)) else (none))) else (none)) else (none)) else (none)) = some (r1, r2) := by rw [if_neg (show ¬ (false = true) by decide)] at H; exact H
                  clear H
                  have H := H1
                  clear H1
                  obtain ⟨ji10, hji10⟩ : ∃ j_ : Int, (wrap64 (x5_1 + 8)) = j_ := ⟨_, rfl⟩
                  replace H : (if 0 ≤ (ji10) then (if (ji10) ≤ (wrap64 ((ji10) + (wrap64 (t111)))) then (if (wrap64 ((ji10) + (wrap64 (t111)))) ≤ (l0.length : Int) then ((some ((l0.take ((wrap64 ((ji10) + (wrap64 (t111)))) : Int).toNat).drop ((ji10) : Int).toNat : List Int)).bind fun y112 => (if 0 ≤ x5_1 then (if x5_1 ≤ (wrap64 (x5_1 + 4)) then (if (wrap64 (x5_1 + 4)) ≤ (l0.length : Int) then ((slices_Concat_byte_byte.f (([((l0.take ((wrap64 (x5_1 + 4)) : Int).toNat).drop (x5_1 : Int).toNat), y112] : List (List Int)))).bind fun t125 => ((journal_Sum.f kj5 t125).bind fun t128 => (if 0 ≤ (wrap64 (x5_1 + 4)) then ((journal_of.f (l0.drop ((wrap64 (x5_1 + 4)) : Int).toNat)).bind fun t134 => (if t128 = t134 then ((slices_Clone_byte_byte.f y112).bind fun t135 => (if x4_1.length < 5864062014805 then (journal_Scan.l0 kj5 l0 (x4_1 ++ [t135]) (wrap64 (x5_1 + (wrap64 (8 + (wrap64 (t111))))))) else (none))) else (some (x4_1, x5_1)))) else (none)))) else (none)) else (none)) else (none))) else (none)) else (none)) else (none)) = some (r1, r2) := by first | (rw [hji10] at H; exact H) | (simp only [hji10] at H ⊢; exact H)
                  have hji10w : (IntKind.i64.wrap (x5_1 + 8)) = ji10 := (i64_w _).trans hji10
                  by_cases c11 : 0 ≤ (ji10)
                  · rw [if_pos c11] at H
                    have c11b0 := eq_true c11
                    have c11b1 : decide (0 ≤ (ji10)) = true := decide_eq_true c11
                    clear c11
                    by_cases c12 : (ji10) ≤ (wrap64 ((ji10) + (wrap64 (t111))))
                    · rw [if_pos c12] at H
                      have c12b0 := eq_true c12
                      have c12b1 : decide ((ji10) ≤ (wrap64 ((ji10) + (wrap64 (t111))))) = true := decide_eq_true c12
                      by_cases c13 : (wrap64 ((ji10) + (wrap64 (t111)))) ≤ (l0.length : Int)
                      · rw [if_pos c13] at H
                        have c13b0 := eq_true c13
                        have c13b1 : decide ((wrap64 ((ji10) + (wrap64 (t111)))) ≤ (l0.length : Int)) = true := decide_eq_true c13
                        obtain ⟨y112, hy112⟩ : ∃ y_ : List Int, y_ = ((l0.take ((wrap64 ((ji10) + (wrap64 (t111)))) : Int).toNat).drop ((ji10) : Int).toNat) := ⟨_, rfl⟩
                        replace H : (if 0 ≤ x5_1 then (if x5_1 ≤ (wrap64 (x5_1 + 4)) then (if (wrap64 (x5_1 + 4)) ≤ (l0.length : Int) then ((slices_Concat_byte_byte.f (([((l0.take ((wrap64 (x5_1 + 4)) : Int).toNat).drop (x5_1 : Int).toNat), y112] : List (List Int)))).bind fun t125 => ((journal_Sum.f kj5 t125).bind fun t128 => (if 0 ≤ (wrap64 (x5_1 + 4)) then ((journal_of.f (l0.drop ((wrap64 (x5_1 + 4)) : Int).toNat)).bind fun t134 => (if t128 = t134 then ((slices_Clone_byte_byte.f y112).bind fun t135 => (if x4_1.length < 5864062014805 then (journal_Scan.l0 kj5 l0 (x4_1 ++ [t135]) (wrap64 (x5_1 + (wrap64 (8 + (wrap64 (t111))))))) else (none))) else (some (x4_1, x5_1)))) else (none)))) else (none)) else (none)) else (none)) = some (r1, r2) := by first | (rw [hy112]; with_reducible exact H) | (have H2_ := (Option.bind_some _ _).symm.trans H; rw [hy112]; with_reducible exact H2_) | (have H2_ := (Option.bind_some _ _).symm.trans H; with_reducible exact H2_) | with_reducible exact H | (rw [hy112]; exact H) | exact H
                        have Ny112 := aM hy112
                        clear hy112
                        by_cases c14 : 0 ≤ x5_1
                        · rw [if_pos c14] at H
                          have c14b0 := eq_true c14
                          have c14b1 : decide (0 ≤ x5_1) = true := decide_eq_true c14
                          clear c14
                          by_cases c15 : x5_1 ≤ (wrap64 (x5_1 + 4))
                          · rw [if_pos c15] at H
                            have c15b0 := eq_true c15
                            have c15b1 : decide (x5_1 ≤ (wrap64 (x5_1 + 4))) = true := decide_eq_true c15
                            by_cases c16 : (wrap64 (x5_1 + 4)) ≤ (l0.length : Int)
                            · rw [if_pos c16] at H
                              have c16b0 := eq_true c16
                              have c16b1 : decide ((wrap64 (x5_1 + 4)) ≤ (l0.length : Int)) = true := decide_eq_true c16
                              obtain ⟨y117, hy117⟩ : ∃ y_ : List Int, y_ = ((l0.take ((wrap64 (x5_1 + 4)) : Int).toNat).drop (x5_1 : Int).toNat) := ⟨_, rfl⟩
                              replace H : ((slices_Concat_byte_byte.f (([y117, y112] : List (List Int)))).bind fun t125 => ((journal_Sum.f kj5 t125).bind fun t128 => (if 0 ≤ (wrap64 (x5_1 + 4)) then ((journal_of.f (l0.drop ((wrap64 (x5_1 + 4)) : Int).toNat)).bind fun t134 => (if t128 = t134 then ((slices_Clone_byte_byte.f y112).bind fun t135 => (if x4_1.length < 5864062014805 then (journal_Scan.l0 kj5 l0 (x4_1 ++ [t135]) (wrap64 (x5_1 + (wrap64 (8 + (wrap64 (t111))))))) else (none))) else (some (x4_1, x5_1)))) else (none)))) = some (r1, r2) := by first | (rw [hy117]; with_reducible exact H) | (have H2_ := (Option.bind_some _ _).symm.trans H; rw [hy117]; with_reducible exact H2_) | (have H2_ := (Option.bind_some _ _).symm.trans H; with_reducible exact H2_) | with_reducible exact H | (rw [hy117]; exact H) | exact H
                              have Ny117 := aM hy117
                              clear hy117
                              obtain ⟨y122, hy122⟩ : ∃ y_ : List (List Int), y_ = (([y117, y112] : List (List Int))) := ⟨_, rfl⟩
                              replace H : ((slices_Concat_byte_byte.f y122).bind fun t125 => ((journal_Sum.f kj5 t125).bind fun t128 => (if 0 ≤ (wrap64 (x5_1 + 4)) then ((journal_of.f (l0.drop ((wrap64 (x5_1 + 4)) : Int).toNat)).bind fun t134 => (if t128 = t134 then ((slices_Clone_byte_byte.f y112).bind fun t135 => (if x4_1.length < 5864062014805 then (journal_Scan.l0 kj5 l0 (x4_1 ++ [t135]) (wrap64 (x5_1 + (wrap64 (8 + (wrap64 (t111))))))) else (none))) else (some (x4_1, x5_1)))) else (none)))) = some (r1, r2) := by first | (rw [hy122]; with_reducible exact H) | (have H2_ := (Option.bind_some _ _).symm.trans H; rw [hy122]; with_reducible exact H2_) | (have H2_ := (Option.bind_some _ _).symm.trans H; with_reducible exact H2_) | with_reducible exact H | (rw [hy122]; exact H) | exact H
                              have Ny122 := aM hy122
                              clear hy122
                              replace H := Option.bind_eq_some_iff.mp H
                              obtain ⟨t125, A170, H⟩ := H
                              replace H : ((journal_Sum.f kj5 t125).bind fun t128 => (if 0 ≤ (wrap64 (x5_1 + 4)) then ((journal_of.f (l0.drop ((wrap64 (x5_1 + 4)) : Int).toNat)).bind fun t134 => (if t128 = t134 then ((slices_Clone_byte_byte.f y112).bind fun t135 => (if x4_1.length < 5864062014805 then (journal_Scan.l0 kj5 l0 (x4_1 ++ [t135]) (wrap64 (x5_1 + (wrap64 (8 + (wrap64 (t111))))))) else (none))) else (some (x4_1, x5_1)))) else (none))) = some (r1, r2) := H
                              have A17 := aM A170
                              clear A170
                              replace H := Option.bind_eq_some_iff.mp H
                              obtain ⟨t128, A180, H⟩ := H
                              replace H : (if 0 ≤ (wrap64 (x5_1 + 4)) then ((journal_of.f (l0.drop ((wrap64 (x5_1 + 4)) : Int).toNat)).bind fun t134 => (if t128 = t134 then ((slices_Clone_byte_byte.f y112).bind fun t135 => (if x4_1.length < 5864062014805 then (journal_Scan.l0 kj5 l0 (x4_1 ++ [t135]) (wrap64 (x5_1 + (wrap64 (8 + (wrap64 (t111))))))) else (none))) else (some (x4_1, x5_1)))) else (none)) = some (r1, r2) := H
                              have A18 := aM A180
                              clear A180
                              obtain ⟨ji19, hji19⟩ : ∃ j_ : Int, (wrap64 (x5_1 + 4)) = j_ := ⟨_, rfl⟩
                              replace H : (if 0 ≤ (ji19) then ((journal_of.f (l0.drop ((ji19) : Int).toNat)).bind fun t134 => (if t128 = t134 then ((slices_Clone_byte_byte.f y112).bind fun t135 => (if x4_1.length < 5864062014805 then (journal_Scan.l0 kj5 l0 (x4_1 ++ [t135]) (wrap64 (x5_1 + (wrap64 (8 + (wrap64 (t111))))))) else (none))) else (some (x4_1, x5_1)))) else (none)) = some (r1, r2) := by first | (rw [hji19] at H; exact H) | (simp only [hji19] at H ⊢; exact H)
                              (try rw [hji19] at c15b0)
                              (try rw [hji19] at c15b1)
                              (try rw [hji19] at c15)
                              (try rw [hji19] at c16b0)
                              (try rw [hji19] at c16b1)
                              (try rw [hji19] at c16)
                              (try rw [hji19] at Ny117)
                              (try rw [hji19] at A17)
                              (try rw [hji19] at A18)
                              have hji19w : (IntKind.i64.wrap (x5_1 + 4)) = ji19 := (i64_w _).trans hji19
                              by_cases c20 : 0 ≤ (ji19)
                              · rw [if_pos c20] at H
                                have c20b0 := eq_true c20
                                have c20b1 : decide (0 ≤ (ji19)) = true := decide_eq_true c20
                                clear c20
                                have c21b0 := eq_true (of_decide_eq_true (by first | (with_reducible assumption) | assumption) : (ji19) ≤ (l0.length : Int))
                                obtain ⟨y129, hy129⟩ : ∃ y_ : List Int, y_ = (l0.drop ((ji19) : Int).toNat) := ⟨_, rfl⟩
                                replace H : ((journal_of.f y129).bind fun t134 => (if t128 = t134 then ((slices_Clone_byte_byte.f y112).bind fun t135 => (if x4_1.length < 5864062014805 then (journal_Scan.l0 kj5 l0 (x4_1 ++ [t135]) (wrap64 (x5_1 + (wrap64 (8 + (wrap64 (t111))))))) else (none))) else (some (x4_1, x5_1)))) = some (r1, r2) := by first | (rw [hy129]; with_reducible exact H) | (have H2_ := (Option.bind_some _ _).symm.trans H; rw [hy129]; with_reducible exact H2_) | (have H2_ := (Option.bind_some _ _).symm.trans H; with_reducible exact H2_) | with_reducible exact H | (rw [hy129]; exact H) | exact H
                                have Ny129 := aM hy129
                                clear hy129
                                replace H := Option.bind_eq_some_iff.mp H
                                obtain ⟨t134, A220, H⟩ := H
                                replace H : (if t128 = t134 then ((slices_Clone_byte_byte.f y112).bind fun t135 => (if x4_1.length < 5864062014805 then (journal_Scan.l0 kj5 l0 (x4_1 ++ [t135]) (wrap64 (x5_1 + (wrap64 (8 + (wrap64 (t111))))))) else (none))) else (some (x4_1, x5_1))) = some (r1, r2) := H
                                have A22 := aM A220
                                clear A220
                                by_cases c23 : t128 = t134
                                · rw [if_pos c23] at H
                                  have c23b0 : (t128 == t134) = true := beq_iff_eq.mpr c23
                                  have c23b1 : (t128 != t134) = false := bne_eq_false_iff_eq.mpr c23
                                  clear c23
                                  replace H := Option.bind_eq_some_iff.mp H
                                  obtain ⟨t135, A240, H⟩ := H
                                  replace H : (if x4_1.length < 5864062014805 then (journal_Scan.l0 kj5 l0 (x4_1 ++ [t135]) (wrap64 (x5_1 + (wrap64 (8 + (wrap64 (t111))))))) else (none)) = some (r1, r2) := H
                                  have A24 := aM A240
                                  clear A240
                                  by_cases c25 : x4_1.length < 5864062014805
                                  · rw [if_pos c25] at H
                                    have LMc25 := aM c25
                                    clear c25
                                    obtain ⟨y138, hy138⟩ : ∃ y_ : List (List Int), y_ = (x4_1 ++ [t135]) := ⟨_, rfl⟩
                                    replace H : (journal_Scan.l0 kj5 l0 y138 (wrap64 (x5_1 + (wrap64 (8 + (wrap64 (t111))))))) = some (r1, r2) := by first | (rw [hy138]; with_reducible exact H) | (have H2_ := (Option.bind_some _ _).symm.trans H; rw [hy138]; with_reducible exact H2_) | (have H2_ := (Option.bind_some _ _).symm.trans H; with_reducible exact H2_) | with_reducible exact H | (rw [hy138]; exact H) | exact H
                                    have Ny138 := aM hy138
                                    clear hy138
                                    have H' := aM H
                                    clear H
                                    have q26 : ((wrap64 ((ji10) + (wrap64 (t111)))) : Int) ≤ ((l0.length : Int) : Int) := of_decide_eq_true (by first | (with_reducible assumption) | assumption)
                                    obtain ⟨i026, hi026, _, hsz26, _⟩ := info_parts info5
                                    have hroom26 : l0.length ≤ c0 := (Kd.V_reads' HO_0.out).2.1
                                    have hC26 : Kd.F (Kd.int .u8) _ _ A0 l0.length l0 := (Kd.V_at (base := w.heap.size) HO_0.out).2.2
                                    have ql26 : ((ji10) : Int) ≤ ((wrap64 ((ji10) + (wrap64 (t111)))) : Int) := of_decide_eq_true (by first | (with_reducible assumption) | assumption)
                                    have q026 : (0 : Int) ≤ ((ji10) : Int) := of_decide_eq_true (by first | (with_reducible assumption) | assumption)
                                    have hcut26 := cut_mid (P := Try.prog) 22 5 .i64 .i64 Try.underlying22 hi026 1 hsz26 A0 l0.length c0 (ji10) (wrap64 ((ji10) + (wrap64 (t111)))) q026 ql26 q26 hroom26
                                    have hr26 := Kd.F_mid (lo := ((ji10) : Int).toNat) (hi := ((wrap64 ((ji10) + (wrap64 (t111)))) : Int).toNat) (c := c0) hC26 (by omega) (by omega) hroom26
                                    obtain ⟨A26, hA26⟩ : ∃ A1, A1 = (if c0 = ((ji10) : Int).toNat then A0 else (A0 : Option Addr).map (·.add (((ji10) : Int).toNat * 1))) := ⟨_, rfl⟩
                                    obtain ⟨c26, hc26⟩ : ∃ c1, c1 = c0 - ((ji10) : Int).toNat := ⟨_, rfl⟩
                                    have hy26 : y112.length = ((wrap64 ((ji10) + (wrap64 (t111)))) : Int).toNat - ((ji10) : Int).toNat := (by rw [Ny112.out, lD, lT] <;> omega)
                                    rw [show ((l0).take ((wrap64 ((ji10) + (wrap64 (t111)))) : Int).toNat).drop ((ji10) : Int).toNat = y112 from Ny112.out.symm] at hr26
                                    replace hr26 : Kd.F (Kd.int .u8) _ _ A26 y112.length y112 := (by rw [hA26]; exact hr26)
                                    rw [← hy26, ← hA26, ← hc26] at hcut26
                                    have HO116 := aM (show Kd.V (Kd.int .u8) 5 _ w.heap.size _ (.slice A26 y112.length c26) y112 from Kd.V_mk (by rw [hy26, hc26]; exact Nat.sub_le_sub_right (Nat.le_trans (by omega) hroom26) _) hr26)
                                    have HC116 := aM (show y112.length ≤ c26 from by rw [hy26, hc26]; exact Nat.sub_le_sub_right (Nat.le_trans (by omega) hroom26) _)
                                    clear hr26 hC26 hroom26 hi026 hsz26 hc26
                                    have KY26 := aM hy26
                                    have KA26 := aM hA26
                                    clear hy26 hA26
                                    replace q26 := eq_true q26
                                    try go_wp2
                                    have n0_ := aM (Kd.V_drew HO_0.out)
                                    have n1_ := aM (Kd.N_drew HO_4.out)
                                    have n2_ := aM (Kd.V_drew HO116.out)
                                    have n3_ := aM (below_drew1 HB.out)
                                    clear HO_0
                                    clear HO_4
                                    clear HO116
                                    clear HB
                                    have HO_0 := n0_
                                    have HO_4 := n1_
                                    have HO116 := n2_
                                    have HB := n3_
                                    clear n0_ n1_ n2_ n3_
                                    have q28 : ((ji19) : Int) ≤ ((l0.length : Int) : Int) := of_decide_eq_true (by first | (with_reducible assumption) | assumption)
                                    obtain ⟨i028, hi028, _, hsz28, _⟩ := info_parts info5
                                    have hroom28 : l0.length ≤ c0 := (Kd.V_reads' HO_0.out).2.1
                                    have hC28 : Kd.F (Kd.int .u8) _ _ A0 l0.length l0 := (Kd.V_at (base := w.heap.size) HO_0.out).2.2
                                    have ql28 : (x5_1 : Int) ≤ ((ji19) : Int) := of_decide_eq_true (by first | (with_reducible assumption) | assumption)
                                    have q028 : (0 : Int) ≤ (x5_1 : Int) := of_decide_eq_true (by first | (with_reducible assumption) | assumption)
                                    have hcut28 := cut_mid (P := Try.prog) 22 5 .i64 .i64 Try.underlying22 hi028 1 hsz28 A0 l0.length c0 x5_1 (ji19) q028 ql28 q28 hroom28
                                    have hr28 := Kd.F_mid (lo := (x5_1 : Int).toNat) (hi := ((ji19) : Int).toNat) (c := c0) hC28 (by omega) (by omega) hroom28
                                    obtain ⟨A28, hA28⟩ : ∃ A1, A1 = (if c0 = (x5_1 : Int).toNat then A0 else (A0 : Option Addr).map (·.add ((x5_1 : Int).toNat * 1))) := ⟨_, rfl⟩
                                    obtain ⟨c28, hc28⟩ : ∃ c1, c1 = c0 - (x5_1 : Int).toNat := ⟨_, rfl⟩
                                    have hy28 : y117.length = ((ji19) : Int).toNat - (x5_1 : Int).toNat := (by rw [Ny117.out, lD, lT] <;> omega)
                                    rw [show ((l0).take ((ji19) : Int).toNat).drop (x5_1 : Int).toNat = y117 from Ny117.out.symm] at hr28
                                    replace hr28 : Kd.F (Kd.int .u8) _ _ A28 y117.length y117 := (by rw [hA28]; exact hr28)
                                    rw [← hy28, ← hA28, ← hc28] at hcut28
                                    have HO121 := aM (show Kd.V (Kd.int .u8) 5 _ w.heap.size _ (.slice A28 y117.length c28) y117 from Kd.V_mk (by rw [hy28, hc28]; exact Nat.sub_le_sub_right (Nat.le_trans (by omega) hroom28) _) hr28)
                                    have HC121 := aM (show y117.length ≤ c28 from by rw [hy28, hc28]; exact Nat.sub_le_sub_right (Nat.le_trans (by omega) hroom28) _)
                                    clear hr28 hC28 hroom28 hi028 hsz28 hc28
                                    have KY28 := aM hy28
                                    have KA28 := aM hA28
                                    clear hy28 hA28
                                    replace q28 := eq_true q28
                                    have q29 : ((ji19) : Int) ≤ ((l0.length : Int) : Int) := of_decide_eq_true (by first | (with_reducible assumption) | assumption)
                                    obtain ⟨i029, hi029, _, hsz29, _⟩ := info_parts info5
                                    have hroom29 : l0.length ≤ c0 := (Kd.V_reads' HO_0.out).2.1
                                    have hC29 : Kd.F (Kd.int .u8) _ _ A0 l0.length l0 := (Kd.V_at (base := w.heap.size) HO_0.out).2.2
                                    have q029 : (0 : Int) ≤ ((ji19) : Int) := of_decide_eq_true (by first | (with_reducible assumption) | assumption)
                                    have hcut29 := cut_from (P := Try.prog) 22 5 .i64 Try.underlying22 hi029 1 hsz29 A0 l0.length c0 (ji19) q029 q29
                                    have hr29 := Kd.F_cut (m := ((ji19) : Int).toNat) (c := c0) hC29 (by omega) hroom29
                                    obtain ⟨A29, hA29⟩ : ∃ A1, A1 = (if c0 = ((ji19) : Int).toNat then A0 else (A0 : Option Addr).map (·.add (((ji19) : Int).toNat * 1))) := ⟨_, rfl⟩
                                    obtain ⟨c29, hc29⟩ : ∃ c1, c1 = c0 - ((ji19) : Int).toNat := ⟨_, rfl⟩
                                    have hy29 : y129.length = l0.length - ((ji19) : Int).toNat := (by rw [Ny129.out, List.length_drop] <;> omega)
                                    rw [show (l0).drop ((ji19) : Int).toNat = y129 from Ny129.out.symm] at hr29
                                    replace hr29 : Kd.F (Kd.int .u8) _ _ A29 y129.length y129 := (by rw [hA29]; exact hr29)
                                    rw [← hy29, ← hA29, ← hc29] at hcut29
                                    have HO133 := aM (show Kd.V (Kd.int .u8) 5 _ w.heap.size _ (.slice A29 y129.length c29) y129 from Kd.V_mk (by rw [hy29, hc29]; exact Nat.sub_le_sub_right hroom29 _) hr29)
                                    have HC133 := aM (show y129.length ≤ c29 from by rw [hy29, hc29]; exact Nat.sub_le_sub_right hroom29 _)
                                    clear hr29 hC29 hroom29 hi029 hsz29 hc29
                                    have KY29 := aM hy29
                                    have KA29 := aM hA29
                                    clear hy29 hA29
                                    replace q29 := eq_true q29
                                    refine start_ (n := 15) (S := fun w' => True) (ds := []) #[false, false, false, false, false, false, false, false, false, false, false, false, false, false, false] (by kernel_rfl) rfl rfl trivial (fun hHeld => ?_); refine with_tabW journal_Scan.tab7 journal_Scan.bits7 (fun HT_ HW_ => ?_)
                                    generalize wc.drew = w27 at HO_0 HO_4 HO116 HB HO121 HO133 hHeld ⊢
                                    refine pure_ (i := 0) (N := some 37) (v := ?_) (a' := ?_) #[true, false, false, false, false, false, false, false, false, false, false, false, false, false, false] rfl rfl (any_of HT_.out (by kernel_rfl)) (fun _ _ _ h => h) (Or.inl ⟨by rfl, ?_⟩) ?_ ?_
                                    rotate_left
                                    · intro w'
                                      go_simp
                                      with_reducible rfl
                                    rotate_left
                                    · simp only [Act.put, List.setIfInBounds_toArray, List.set_cons_zero, List.set_cons_succ, i64_w, i32_w]
                                      rfl
                                    refine pure_ (i := 1) (N := some 38) (v := ?_) (a' := ?_) #[true, true, false, false, false, false, false, false, false, false, false, false, false, false, false] rfl rfl (any_of HT_.out (by kernel_rfl)) (fun _ _ _ h => h) (Or.inl ⟨by rfl, ?_⟩) ?_ ?_
                                    rotate_left
                                    · intro w'
                                      go_simp
                                      with_reducible rfl
                                    rotate_left
                                    · simp only [Act.put, List.setIfInBounds_toArray, List.set_cons_zero, List.set_cons_succ, i64_w, i32_w]
                                      rfl
                                    refine pure_ (i := 2) (N := some 39) (v := ?_) (a' := ?_) #[true, true, true, false, false, false, false, false, false, false, false, false, false, false, false] rfl rfl (any_of HT_.out (by kernel_rfl)) (fun _ _ _ h => h) (Or.inl ⟨by rfl, ?_⟩) ?_ ?_
                                    rotate_left
                                    · intro w'
                                      go_simp
                                      with_reducible rfl
                                    rotate_left
                                    · simp only [Act.put, List.setIfInBounds_toArray, List.set_cons_zero, List.set_cons_succ, i64_w, i32_w]
                                      rfl
                                    refine pure_ (i := 3) (N := some 40) (v := ?_) (a' := ?_) #[true, true, true, true, false, false, false, false, false, false, false, false, false, false, false] rfl rfl (any_of HT_.out (by kernel_rfl)) (fun _ _ _ h => h) (Or.inl ⟨by rfl, ?_⟩) ?_ ?_
                                    rotate_left
                                    · intro w'
                                      go_simp
                                      with_reducible rfl
                                    rotate_left
                                    · simp only [Act.put, List.setIfInBounds_toArray, List.set_cons_zero, List.set_cons_succ, i64_w, i32_w]
                                      rfl
                                    refine pure_ (i := 4) (N := some 41) (v := ?_) (a' := ?_) #[true, true, true, true, true, false, false, false, false, false, false, false, false, false, false] rfl rfl (any_of HT_.out (by kernel_rfl)) (fun _ _ _ h => h) (Or.inl ⟨by rfl, ?_⟩) ?_ ?_
                                    rotate_left
                                    · intro w'
                                      go_simp
                                      with_reducible rfl
                                    rotate_left
                                    · simp only [Act.put, List.setIfInBounds_toArray, List.set_cons_zero, List.set_cons_succ, i64_w, i32_w]
                                      rfl
                                    refine pure_ (i := 5) (N := some 42) (v := ?_) (a' := ?_) #[true, true, true, true, true, true, false, false, false, false, false, false, false, false, false] rfl rfl (any_of HT_.out (by kernel_rfl)) (fun _ _ _ h => h) (Or.inl ⟨by rfl, ?_⟩) ?_ ?_
                                    rotate_left
                                    · intro w'
                                      go_simp
                                      with_reducible rfl
                                    rotate_left
                                    · simp only [Act.put, List.setIfInBounds_toArray, List.set_cons_zero, List.set_cons_succ, i64_w, i32_w]
                                      rfl
                                    refine pure_ (i := 9) (N := some 46) (v := ?_) (a' := ?_) #[true, true, true, true, true, true, false, false, false, true, false, false, false, false, false] rfl rfl (any_of HT_.out (by kernel_rfl)) (fun _ _ _ h => h) (Or.inl ⟨by rfl, ?_⟩) ?_ ?_
                                    rotate_left
                                    · intro w'
                                      go_simp
                                      with_reducible rfl
                                    rotate_left
                                    · simp only [Act.put, List.setIfInBounds_toArray, List.set_cons_zero, List.set_cons_succ, i64_w, i32_w]
                                      rfl
                                    refine pure_ (i := 10) (N := some 47) (v := ?_) (a' := ?_) #[true, true, true, true, true, true, false, false, false, true, true, false, false, false, false] rfl rfl (any_of HT_.out (by kernel_rfl)) (fun _ _ _ h => h) (Or.inl ⟨by rfl, ?_⟩) ?_ ?_
                                    rotate_left
                                    · intro w'
                                      go_simp
                                      with_reducible rfl
                                    rotate_left
                                    · simp only [Act.put, List.setIfInBounds_toArray, List.set_cons_zero, List.set_cons_succ, i64_w, i32_w]
                                      rfl
                                    refine pure_ (i := 11) (N := some 48) (v := ?_) (a' := ?_) #[true, true, true, true, true, true, false, false, false, true, true, true, false, false, false] rfl rfl (any_of HT_.out (by kernel_rfl)) (fun _ _ _ h => h) (Or.inl ⟨by rfl, ?_⟩) ?_ ?_
                                    rotate_left
                                    · intro w'
                                      go_simp
                                      with_reducible rfl
                                    rotate_left
                                    · simp only [Act.put, List.setIfInBounds_toArray, List.set_cons_zero, List.set_cons_succ, i64_w, i32_w]
                                      rfl
                                    refine pure_ (i := 12) (N := some 49) (v := ?_) (a' := ?_) #[true, true, true, true, true, true, false, false, false, true, true, true, true, false, false] rfl rfl (any_of HT_.out (by kernel_rfl)) (fun _ _ _ h => h) (Or.inl ⟨by rfl, ?_⟩) ?_ ?_
                                    rotate_left
                                    · intro w'
                                      go_simp
                                      with_reducible rfl
                                    rotate_left
                                    · simp only [Act.put, List.setIfInBounds_toArray, List.set_cons_zero, List.set_cons_succ, i64_w, i32_w]
                                      rfl
                                    refine one_ (i := 6) (N := some 43) #[true, true, true, true, true, true, true, false, false, true, true, true, true, false, false] rfl rfl (one_of HT_.out (by kernel_rfl)) (by decide) (fun K hK => ?_)
                                    refine Kd.N_lit_step (Kd.slice 5 (Kd.int .u8)) _ 22 ?hg (N' := 43) ?hd (xs := ([y117, y112] : List (List Int))) (inner := [.slice A28 y117.length c28, .slice A26 y112.length c26]) (ok := (fun k_ => (P0_ k_ ∨ w.heap.size ≤ k_) ∧ some k_ ≠ (u4 : Value).ownBlock)) (okp := (fun k_ => (P0_ k_ ∨ w.heap.size ≤ k_) ∧ some k_ ≠ (u4 : Value).ownBlock)) ?hr ?hp (fun _ hk => hk) ((show ∀ k_, w27.heap.size ≤ k_ → (fun k_ => (P0_ k_ ∨ w.heap.size ≤ k_) ∧ some k_ ≠ (u4 : Value).ownBlock) k_ from fun k_ hk => ⟨(.inr (Nat.le_trans (below_size (by repeat (first | (with_reducible first | exact HB.out | apply bA | apply bN | apply bD) | exact HB.out))) hk)), Kd.fresh' (Kd.N_lt (by (with_reducible repeat (first | apply nA | apply nN | apply nD)); exact HO_4.out)) k_ hk⟩) _ (Nat.le_refl _)) (Below.refl _ _) (Nat.le_refl _) (by simp) ?_; (case hd => rfl); (case hg => rfl); (case hr => first | (go_simp; done) | (go_simp; rfl)); (case hp => exact (Reps.one (show Kd.FK (Kd.slice 5 (Kd.int .u8)) _ _ y117 [.slice A28 y117.length c28] from (Kd.FK_slice_mk (Kd.V_reads' (Kd.V_mono (ok' := (fun k_ => (P0_ k_ ∨ w.heap.size ≤ k_) ∧ some k_ ≠ (u4 : Value).ownBlock)) (HO121.out) (fun k_ hk => ⟨hk.1, hk.2⟩))).2.1 (Kd.V_F (Kd.V_mono (ok' := (fun k_ => (P0_ k_ ∨ w.heap.size ≤ k_) ∧ some k_ ≠ (u4 : Value).ownBlock)) (HO121.out) (fun k_ hk => ⟨hk.1, hk.2⟩))))) (Reps.one (show Kd.FK (Kd.slice 5 (Kd.int .u8)) _ _ y112 [.slice A26 y112.length c26] from (Kd.FK_slice_mk (Kd.V_reads' (Kd.V_mono (ok' := (fun k_ => (P0_ k_ ∨ w.heap.size ≤ k_) ∧ some k_ ≠ (u4 : Value).ownBlock)) (HO116.out) (fun k_ hk => ⟨hk.1, hk.2⟩))).2.1 (Kd.V_F (Kd.V_mono (ok' := (fun k_ => (P0_ k_ ∨ w.heap.size ≤ k_) ∧ some k_ ≠ (u4 : Value).ownBlock)) (HO116.out) (fun k_ hk => ⟨hk.1, hk.2⟩))))) (Reps.none _ _))))
                                    intro v123 w30 ho31 hb hg_ hnew_
                                    clear hg_ hnew_
                                    (first | rw [← Ny122.out] at ho31 | (simp only [Int.reduceToNat] at ho31; rw [← Ny122.out] at ho31))
                                    have n0_ := aM (Kd.V_elder' (by (with_reducible repeat (first | apply vA | apply vN | apply vD)); exact HO_0.out) (Kd.N_base ho31) hb)
                                    have n1_ := aM (Kd.N_elder' (by (with_reducible repeat (first | apply nA | apply nN | apply nD)); exact HO_4.out) (Kd.N_base ho31) hb)
                                    have n2_ := aM (Kd.V_elder' (by (with_reducible repeat (first | apply vA | apply vN | apply vD)); exact HO116.out) (Kd.N_base ho31) hb)
                                    have n3_ := aM (Kd.V_elder' (by (with_reducible repeat (first | apply vA | apply vN | apply vD)); exact HO121.out) (Kd.N_base ho31) hb)
                                    have n4_ := aM (Kd.V_elder' (by (with_reducible repeat (first | apply vA | apply vN | apply vD)); exact HO133.out) (Kd.N_base ho31) hb)
                                    have n5_ := aM (Kd.N_lower ho31 (below_size (by repeat (first | (with_reducible first | exact HB.out | apply bA | apply bN | apply bD) | exact HB.out))))
                                    have n6_ := aM (below_step (by repeat (first | (with_reducible first | exact HB.out | apply bA | apply bN | apply bD) | exact HB.out)) hb)
                                    clear HO_0
                                    clear HO_4
                                    clear HO116
                                    clear HO121
                                    clear HO133
                                    clear HB
                                    have HO_0 := n0_
                                    have HO_4 := n1_
                                    have HO116 := n2_
                                    have HO121 := n3_
                                    have HO133 := n4_
                                    have HO124 := n5_
                                    have HB := n6_
                                    clear n0_ n1_ n2_ n3_ n4_ n5_ n6_
                                    clear hb ho31
                                    obtain ⟨Ao32, co32, eo32⟩ := Kd.N_slice HO124.out
                                    (first | subst eo32 | (injection eo32 with f1_ f2_ f3_; have f4_ := f1_.symm; have f5_ := f3_.symm; clear f1_ f2_ f3_; subst f4_; subst f5_))
                                    refine hK.out _ _ trivial (fun hHeld => ?_)
                                    clear hK K
                                    refine norm_ (a' := ?_) ?_ ?_
                                    rotate_left
                                    · show Act.put _ (some 43) _ = _
                                      simp only [Act.put, List.setIfInBounds_toArray, List.set_cons_zero, List.set_cons_succ, i64_w, i32_w]
                                      rfl
                                    refine one_ (i := 7) (N := some 44) #[true, true, true, true, true, true, true, true, false, true, true, true, true, false, false] rfl rfl (one_of HT_.out (by kernel_rfl)) (by decide) (fun K hK => ?_)
                                    refine goes_ Try.func35 (by kernel_rfl) rfl #[.slice Ao32 y122.length co32] (by rfl) rfl rfl (by (try simp only [mapA, mapB, mapC]); first | done | rfl | (simp only [lD, lT]; rfl) | (simp only [ge_iff_le, gt_iff_lt, *]; rfl)) ?_
                                    with_reducible refine (slices_Concat_byte_byte.calls _ _ y122 t125 _ ?side1 ?side2 A17.out).mono ?_
                                    (case side1 => repeat (first | exact (Kd.N_reads' HO124.out).2.2 | (with_reducible refine Kd.C_alloc ?_ _) | (with_reducible refine Kd.C_drewN ?_ _) | (with_reducible refine Kd.C_drew ?_)))
                                    (case side2 => exact (Kd.N_reads' HO124.out).2.1)
                                    rintro e w33 ⟨v126, rfl, ho0, hb⟩
                                    refine ⟨_, rfl, ?_⟩
                                    have n0_ := aM (Kd.V_elder' (by (with_reducible repeat (first | apply vA | apply vN | apply vD)); exact HO_0.out) (Kd.R_base ho0) hb)
                                    have n1_ := aM (Kd.N_elder' (by (with_reducible repeat (first | apply nA | apply nN | apply nD)); exact HO_4.out) (Kd.R_base ho0) hb)
                                    have n2_ := aM (Kd.V_elder' (by (with_reducible repeat (first | apply vA | apply vN | apply vD)); exact HO116.out) (Kd.R_base ho0) hb)
                                    have n3_ := aM (Kd.V_elder' (by (with_reducible repeat (first | apply vA | apply vN | apply vD)); exact HO121.out) (Kd.R_base ho0) hb)
                                    have n4_ := aM (Kd.V_elder' (by (with_reducible repeat (first | apply vA | apply vN | apply vD)); exact HO133.out) (Kd.R_base ho0) hb)
                                    have n5_ := aM (Kd.N_elder' (by (with_reducible repeat (first | apply nA | apply nN | apply nD)); exact HO124.out) (Kd.R_base ho0) hb)
                                    have n6_ := aM (Kd.R_lower (Kd.R_newM (M := fun k_ => (w.heap.size ≤ k_)) ho0 (below_size (by repeat (first | (with_reducible first | exact HB.out | apply bA | apply bN | apply bD) | exact HB.out))) (fun k_ h_ => h_)) (below_size (by repeat (first | (with_reducible first | exact HB.out | apply bA | apply bN | apply bD) | exact HB.out))))
                                    have n7_ := aM (below_step (by repeat (first | (with_reducible first | exact HB.out | apply bA | apply bN | apply bD) | exact HB.out)) hb)
                                    clear HO_0
                                    clear HO_4
                                    clear HO116
                                    clear HO121
                                    clear HO133
                                    clear HO124
                                    clear HB
                                    have HO_0 := n0_
                                    have HO_4 := n1_
                                    have HO116 := n2_
                                    have HO121 := n3_
                                    have HO133 := n4_
                                    have HO124 := n5_
                                    have HO127 := n6_
                                    have HB := n7_
                                    clear n0_ n1_ n2_ n3_ n4_ n5_ n6_ n7_
                                    (try clear hb)
                                    (try clear hb2)
                                    (try clear hk)
                                    (try clear hi)
                                    (try clear ho0)
                                    obtain ⟨Ao34, co34, eo34⟩ := Kd.R_slice HO127.out
                                    (first | subst eo34 | (injection eo34 with f1_ f2_ f3_; have f4_ := f1_.symm; have f5_ := f3_.symm; clear f1_ f2_ f3_; subst f4_; subst f5_))
                                    refine hK.out _ _ trivial (fun hHeld => ?_)
                                    clear hK K
                                    refine norm_ (a' := ?_) ?_ ?_
                                    rotate_left
                                    · show Act.put _ (some 44) _ = _
                                      simp only [Act.put, List.setIfInBounds_toArray, List.set_cons_zero, List.set_cons_succ, i64_w, i32_w]
                                      rfl
                                    refine one_ (i := 8) (N := some 45) #[true, true, true, true, true, true, true, true, true, true, true, true, true, false, false] rfl rfl (one_of HT_.out (by kernel_rfl)) (by decide) (fun K hK => ?_)
                                    refine goes_ Try.func14 (by kernel_rfl) rfl #[.slice Ao34 t125.length co34] (by rfl) rfl rfl (by (try simp only [mapA, mapB, mapC]); first | done | rfl | (simp only [lD, lT]; rfl) | (simp only [ge_iff_le, gt_iff_lt, *]; rfl)) ?_
                                    with_reducible refine (journal_Sum.calls kj5 _ _ t125 t128 _ ?side1 ?side2 A18.out).mono ?_
                                    (case side1 => repeat (first | exact (Kd.R_reads' HO127.out).2.2 | (with_reducible refine Kd.C_alloc ?_ _) | (with_reducible refine Kd.C_drewN ?_ _) | (with_reducible refine Kd.C_drew ?_)))
                                    (case side2 => exact (Kd.R_reads' HO127.out).2.1)
                                    rintro e w' ⟨rfl, ⟨nd, rfl⟩⟩
                                    refine ⟨_, rfl, ?_⟩
                                    refine hK.out _ _ trivial (fun hHeld => ?_)
                                    clear hK K
                                    refine norm_ (a' := ?_) ?_ ?_
                                    rotate_left
                                    · show Act.put _ (some 45) _ = _
                                      simp only [Act.put, List.setIfInBounds_toArray, List.set_cons_zero, List.set_cons_succ, i64_w, i32_w]
                                      rfl
                                    refine one_ (i := 13) (N := some 50) #[true, true, true, true, true, true, true, true, true, true, true, true, true, true, false] rfl rfl (one_of HT_.out (by kernel_rfl)) (by decide) (fun K hK => ?_)
                                    refine goes_ Try.func36 (by kernel_rfl) rfl #[.slice A29 y129.length c29] (by rfl) rfl rfl (by (try simp only [mapA, mapB, mapC]); first | done | rfl | (simp only [lD, lT]; rfl) | (simp only [ge_iff_le, gt_iff_lt, *]; rfl)) ?_
                                    with_reducible refine (journal_of.calls _ _ y129 t134 _ ?side1 ?side2 A22.out).mono ?_
                                    (case side1 => repeat (first | exact (Kd.V_reads' HO133.out).2.2 | (with_reducible refine Kd.C_alloc ?_ _) | (with_reducible refine Kd.C_drewN ?_ _) | (with_reducible refine Kd.C_drew ?_)))
                                    (case side2 => exact (Kd.V_reads' HO133.out).2.1)
                                    rintro e w' ⟨rfl, ⟨nd, rfl⟩⟩
                                    refine ⟨_, rfl, ?_⟩
                                    refine hK.out _ _ trivial (fun hHeld => ?_)
                                    clear hK K
                                    refine norm_ (a' := ?_) ?_ ?_
                                    rotate_left
                                    · show Act.put _ (some 50) _ = _
                                      simp only [Act.put, List.setIfInBounds_toArray, List.set_cons_zero, List.set_cons_succ, i64_w, i32_w]
                                      rfl
                                    refine pure_ (i := 14) (N := some 51) (v := ?_) (a' := ?_) #[true, true, true, true, true, true, true, true, true, true, true, true, true, true, true] rfl rfl (any_of HT_.out (by kernel_rfl)) (fun _ _ _ h => h) (Or.inl ⟨by rfl, ?_⟩) ?_ ?_
                                    rotate_left
                                    · intro w'
                                      go_simp
                                      with_reducible rfl
                                    rotate_left
                                    · simp only [Act.put, List.setIfInBounds_toArray, List.set_cons_zero, List.set_cons_succ, i64_w, i32_w]
                                      rfl
                                    refine done_ (done_of HT_.out (by kernel_rfl)) ?_
                                    try go_wp2_with (first | ((with_reducible refine gate_callee (f := 37) rfl ?_); refine goesL_ (some 54) rfl rfl Try.func37 (by kernel_rfl) rfl #[.slice A26 y112.length c26] rfl (by (try simp only [mapA, mapB, mapC]); first | done | rfl | (simp only [lD, lT]; rfl) | (simp only [ge_iff_le, gt_iff_lt, *]; rfl)) ?_; (with_reducible refine (slices_Clone_byte_byte.calls _ _ y112 t135 _ ?side1 ?side2 A24.out).mono ?_); (case side1 => repeat (first | exact (Kd.V_reads' HO116.out).2.2 | (with_reducible refine Kd.C_alloc ?_ _) | (with_reducible refine Kd.C_drewN ?_ _) | (with_reducible refine Kd.C_drew ?_))); (case side2 => exact (Kd.V_reads' HO116.out).2.1); rintro e w35 ⟨v136, rfl, ho0, hb⟩; refine ⟨_, rfl, ?_⟩; have n0_ := aM (Kd.V_elder' (by (with_reducible repeat (first | apply vA | apply vN | apply vD)); exact HO_0.out) (Kd.R_base ho0) hb); have n1_ := aM (Kd.N_elder' (by (with_reducible repeat (first | apply nA | apply nN | apply nD)); exact HO_4.out) (Kd.R_base ho0) hb); have n2_ := aM (Kd.V_elder' (by (with_reducible repeat (first | apply vA | apply vN | apply vD)); exact HO116.out) (Kd.R_base ho0) hb); have n3_ := aM (Kd.V_elder' (by (with_reducible repeat (first | apply vA | apply vN | apply vD)); exact HO121.out) (Kd.R_base ho0) hb); have n4_ := aM (Kd.V_elder' (by (with_reducible repeat (first | apply vA | apply vN | apply vD)); exact HO133.out) (Kd.R_base ho0) hb); have n5_ := aM (Kd.N_elder' (by (with_reducible repeat (first | apply nA | apply nN | apply nD)); exact HO124.out) (Kd.R_base ho0) hb); have n6_ := aM (Kd.R_elder' (by (with_reducible repeat (first | apply rA | apply rN | apply rD)); exact HO127.out) (Kd.R_base ho0) hb); have n7_ := aM (Kd.R_lower (Kd.R_new' (Kd.R_newM (M := fun k_ => (w.heap.size ≤ k_)) ho0 (below_size (by repeat (first | (with_reducible first | exact HB.out | apply bA | apply bN | apply bD) | exact HB.out))) (fun k_ h_ => h_)) (Kd.R_lt (by (with_reducible repeat (first | apply rA | apply rN | apply rD)); exact HO127.out))) (below_size (by repeat (first | (with_reducible first | exact HB.out | apply bA | apply bN | apply bD) | exact HB.out)))); have n8_ := aM (below_step (by repeat (first | (with_reducible first | exact HB.out | apply bA | apply bN | apply bD) | exact HB.out)) hb); clear HO_0; clear HO_4; clear HO116; clear HO121; clear HO133; clear HO124; clear HO127; clear HB; have HO_0 := n0_; have HO_4 := n1_; have HO116 := n2_; have HO121 := n3_; have HO133 := n4_; have HO124 := n5_; have HO127 := n6_; have HO137 := n7_; have HB := n8_; clear n0_ n1_ n2_ n3_ n4_ n5_ n6_ n7_ n8_; (try clear hb); (try clear hb2); (try clear hk); (try clear hi); (try clear ho0); obtain ⟨Ao37, co37, eo37⟩ := Kd.R_slice HO137.out; subst eo37) | ((with_reducible refine gate_builtin (b := .append) (xs := #[.tmp 52, .tmp 55]) rfl ?_); (try (refine gate_guard (by rfl) ?_; dsimp only)); at_builtin; refine Kd.N_append (Kd.slice 5 (Kd.int .u8)) (w0 := w) w.heap.size rfl (.tmp 52) (.tmp 55) 28 22 (.slice none 0 0) 24 rfl Try.underlying28 info22 rfl (by decide) (by omega) u4 x4_1 t135 [.slice Ao37 t135.length co37] (fun k_ => (P0_ k_ ∨ w.heap.size ≤ k_) ∧ some k_ ≠ (.slice Ao32 y122.length co32 : Value).ownBlock ∧ some k_ ≠ (.slice Ao34 t125.length co34 : Value).ownBlock) (fun k_ => ((fun k_ => (P0_ k_ ∨ w.heap.size ≤ k_) ∧ some k_ ≠ (.slice Ao32 y122.length co32 : Value).ownBlock ∧ some k_ ≠ (.slice Ao34 t125.length co34 : Value).ownBlock)) k_ ∧ some k_ ≠ (u4 : Value).ownBlock) rfl rfl ?aP (fun _ hk => hk) ?aF ?aO ?aB ?aS ?aL ?_; (case aP => exact (Kd.FK_slice_mk (Kd.R_reads' (Kd.R_mono (ok' := (fun k_ => ((fun k_ => (P0_ k_ ∨ w.heap.size ≤ k_) ∧ some k_ ≠ (.slice Ao32 y122.length co32 : Value).ownBlock ∧ some k_ ≠ (.slice Ao34 t125.length co34 : Value).ownBlock)) k_ ∧ some k_ ≠ (u4 : Value).ownBlock)) (Kd.R_apart' (Kd.R_apart' (HO137.out) (Kd.N_typed HO124.out) (by decide)) (Kd.N_typed HO_4.out) (by decide)) (fun k_ hk => ⟨⟨(.inr (hk.1.1.1.1)), ⟨hk.1.2, hk.1.1.2⟩⟩, hk.2⟩))).2.1 (Kd.R_F (Kd.R_mono (ok' := (fun k_ => ((fun k_ => (P0_ k_ ∨ w.heap.size ≤ k_) ∧ some k_ ≠ (.slice Ao32 y122.length co32 : Value).ownBlock ∧ some k_ ≠ (.slice Ao34 t125.length co34 : Value).ownBlock)) k_ ∧ some k_ ≠ (u4 : Value).ownBlock)) (Kd.R_apart' (Kd.R_apart' (HO137.out) (Kd.N_typed HO124.out) (by decide)) (Kd.N_typed HO_4.out) (by decide)) (fun k_ hk => ⟨⟨(.inr (hk.1.1.1.1)), ⟨hk.1.2, hk.1.1.2⟩⟩, hk.2⟩))))); (case aB => exact (by repeat (first | (with_reducible first | exact HB.out | apply bA | apply bN | apply bD) | exact HB.out))); (case aF => exact (fun k_ hk => ⟨(.inr (Nat.le_trans (below_size (by repeat (first | (with_reducible first | exact HB.out | apply bA | apply bN | apply bD) | exact HB.out))) hk)), Kd.fresh' (Kd.N_lt (by (with_reducible repeat (first | apply nA | apply nN | apply nD)); exact HO124.out)) k_ hk, Kd.fresh' (Kd.R_lt (by (with_reducible repeat (first | apply rA | apply rN | apply rD)); exact HO127.out)) k_ hk⟩)); (case aO => exact (by (with_reducible repeat (first | apply nA | apply nN | apply nD)); exact Kd.N_mono HO_4.out (fun _ hk => ⟨hk.1.1.1, ⟨hk.1.1.2, hk.1.2⟩⟩))); (case aS => exact (below_size (by repeat (first | (with_reducible first | exact HB.out | apply bA | apply bN | apply bD) | exact HB.out)))); (case aL => have := LMc25.out; omega); intro v139 w36 ho hb hg hat; rw [← Ny138.out] at ho; have n0_ := aM (Kd.V_afterv (ok := (fun k_ => (P0_ k_ ∨ w.heap.size ≤ k_) ∧ some k_ ≠ (.slice Ao32 y122.length co32 : Value).ownBlock ∧ some k_ ≠ (.slice Ao34 t125.length co34 : Value).ownBlock ∧ some k_ ≠ (.slice Ao37 t135.length co37 : Value).ownBlock)) (by (with_reducible repeat (first | apply vA | apply vN | apply vD)); exact Kd.V_mono HO_0.out (fun _ hk => ⟨⟨hk.1.1.1.1, ⟨hk.1.1.2, ⟨hk.1.2, hk.2⟩⟩⟩, hk.1.1.1.2⟩)) hg hat); have n1_ := aM (Kd.V_afterv (ok := (fun k_ => (P0_ k_ ∨ w.heap.size ≤ k_) ∧ some k_ ≠ (.slice Ao32 y122.length co32 : Value).ownBlock ∧ some k_ ≠ (.slice Ao34 t125.length co34 : Value).ownBlock ∧ some k_ ≠ (.slice Ao37 t135.length co37 : Value).ownBlock)) (by (with_reducible repeat (first | apply vA | apply vN | apply vD)); exact Kd.V_mono HO116.out (fun _ hk => ⟨⟨hk.1.1.1.1, ⟨hk.1.1.2, ⟨hk.1.2, hk.2⟩⟩⟩, hk.1.1.1.2⟩)) hg hat); have n2_ := aM (Kd.V_afterv (ok := (fun k_ => (P0_ k_ ∨ w.heap.size ≤ k_) ∧ some k_ ≠ (.slice Ao32 y122.length co32 : Value).ownBlock ∧ some k_ ≠ (.slice Ao34 t125.length co34 : Value).ownBlock ∧ some k_ ≠ (.slice Ao37 t135.length co37 : Value).ownBlock)) (by (with_reducible repeat (first | apply vA | apply vN | apply vD)); exact Kd.V_mono HO121.out (fun _ hk => ⟨⟨hk.1.1.1.1, ⟨hk.1.1.2, ⟨hk.1.2, hk.2⟩⟩⟩, hk.1.1.1.2⟩)) hg hat); have n3_ := aM (Kd.V_afterv (ok := (fun k_ => (P0_ k_ ∨ w.heap.size ≤ k_) ∧ some k_ ≠ (.slice Ao32 y122.length co32 : Value).ownBlock ∧ some k_ ≠ (.slice Ao34 t125.length co34 : Value).ownBlock ∧ some k_ ≠ (.slice Ao37 t135.length co37 : Value).ownBlock)) (by (with_reducible repeat (first | apply vA | apply vN | apply vD)); exact Kd.V_mono HO133.out (fun _ hk => ⟨⟨hk.1.1.1.1, ⟨hk.1.1.2, ⟨hk.1.2, hk.2⟩⟩⟩, hk.1.1.1.2⟩)) hg hat); have n4_ := aM (Kd.N_afterv (ok := (fun k_ => (P0_ k_ ∨ w.heap.size ≤ k_) ∧ some k_ ≠ (.slice Ao34 t125.length co34 : Value).ownBlock ∧ some k_ ≠ (.slice Ao37 t135.length co37 : Value).ownBlock)) (by (with_reducible repeat (first | apply nA | apply nN | apply nD)); exact Kd.N_mono HO124.out (fun _ hk => ⟨⟨hk.1.1.1, ⟨hk.1.2, hk.2⟩⟩, hk.1.1.2⟩)) hg hat); have n5_ := aM (Kd.R_over' (by (with_reducible repeat (first | apply rA | apply rN | apply rD)); exact HO127.out) (Kd.N_typed (by (with_reducible repeat (first | apply nA | apply nN | apply nD)); exact HO_4.out)) (by decide) hg); have n6_ := aM (hb); have n7_ := aM (ho); clear HO_0; clear HO116; clear HO121; clear HO133; clear HO124; clear HO127; clear HB; clear HO_4; clear HO137; have HO_0 := n0_; have HO116 := n1_; have HO121 := n2_; have HO133 := n3_; have HO124 := n4_; have HO127 := n5_; have HB := n6_; have HO140 := n7_; clear n0_ n1_ n2_ n3_ n4_ n5_ n6_ n7_; clear ho hb hg hat))
                                    go_roundg kj5
                                    case measure => have := HK1.out; have := HJ5.out; omega
                                    case rel => exact ⟨(y138), (wrap64 (x5_1 + (wrap64 (8 + (wrap64 (t111)))))), (by first | rfl | (simp; done) | (simp [*]; done)), H', ⟨by have := HK1.out; have := HJ5.out; omega⟩, ⟨by (with_reducible repeat (first | apply vA | apply vN | apply vD)); exact Kd.V_mono HO_0.out (fun _ hk => ⟨hk.1.1, hk.2⟩)⟩, ⟨by (with_reducible repeat (first | apply nA | apply nN | apply nD)); exact Kd.N_mono HO140.out (fun _ hk => hk.1)⟩, ⟨by repeat (first | (with_reducible first | exact HB.out | apply bA | apply bN | apply bD) | exact HB.out)⟩⟩
                                  · rw [if_neg c25] at H
                                    exact absurd H (by simp)
                                · rw [if_neg c23] at H
                                  have c23b0 : (t128 == t134) = false := beq_eq_false_iff_ne.mpr c23
                                  have c23b1 : (t128 != t134) = true := bne_iff_ne.mpr c23
                                  simp only [Option.some.injEq, Prod.mk.injEq] at H
                                  obtain ⟨rfl, rfl⟩ := H
                                  have q38 : ((wrap64 ((ji10) + (wrap64 (t111)))) : Int) ≤ ((l0.length : Int) : Int) := of_decide_eq_true (by first | (with_reducible assumption) | assumption)
                                  obtain ⟨i038, hi038, _, hsz38, _⟩ := info_parts info5
                                  have hroom38 : l0.length ≤ c0 := (Kd.V_reads' HO_0.out).2.1
                                  have hC38 : Kd.F (Kd.int .u8) _ _ A0 l0.length l0 := (Kd.V_at (base := w.heap.size) HO_0.out).2.2
                                  have ql38 : ((ji10) : Int) ≤ ((wrap64 ((ji10) + (wrap64 (t111)))) : Int) := of_decide_eq_true (by first | (with_reducible assumption) | assumption)
                                  have q038 : (0 : Int) ≤ ((ji10) : Int) := of_decide_eq_true (by first | (with_reducible assumption) | assumption)
                                  have hcut38 := cut_mid (P := Try.prog) 22 5 .i64 .i64 Try.underlying22 hi038 1 hsz38 A0 l0.length c0 (ji10) (wrap64 ((ji10) + (wrap64 (t111)))) q038 ql38 q38 hroom38
                                  have hr38 := Kd.F_mid (lo := ((ji10) : Int).toNat) (hi := ((wrap64 ((ji10) + (wrap64 (t111)))) : Int).toNat) (c := c0) hC38 (by omega) (by omega) hroom38
                                  obtain ⟨A38, hA38⟩ : ∃ A1, A1 = (if c0 = ((ji10) : Int).toNat then A0 else (A0 : Option Addr).map (·.add (((ji10) : Int).toNat * 1))) := ⟨_, rfl⟩
                                  obtain ⟨c38, hc38⟩ : ∃ c1, c1 = c0 - ((ji10) : Int).toNat := ⟨_, rfl⟩
                                  have hy38 : y112.length = ((wrap64 ((ji10) + (wrap64 (t111)))) : Int).toNat - ((ji10) : Int).toNat := (by rw [Ny112.out, lD, lT] <;> omega)
                                  rw [show ((l0).take ((wrap64 ((ji10) + (wrap64 (t111)))) : Int).toNat).drop ((ji10) : Int).toNat = y112 from Ny112.out.symm] at hr38
                                  replace hr38 : Kd.F (Kd.int .u8) _ _ A38 y112.length y112 := (by rw [hA38]; exact hr38)
                                  rw [← hy38, ← hA38, ← hc38] at hcut38
                                  have HO116 := aM (show Kd.V (Kd.int .u8) 5 _ w.heap.size _ (.slice A38 y112.length c38) y112 from Kd.V_mk (by rw [hy38, hc38]; exact Nat.sub_le_sub_right (Nat.le_trans (by omega) hroom38) _) hr38)
                                  have HC116 := aM (show y112.length ≤ c38 from by rw [hy38, hc38]; exact Nat.sub_le_sub_right (Nat.le_trans (by omega) hroom38) _)
                                  clear hr38 hC38 hroom38 hi038 hsz38 hc38
                                  have KY38 := aM hy38
                                  have KA38 := aM hA38
                                  clear hy38 hA38
                                  replace q38 := eq_true q38
                                  try go_wp2
                                  have n0_ := aM (Kd.V_drew HO_0.out)
                                  have n1_ := aM (Kd.N_drew HO_4.out)
                                  have n2_ := aM (Kd.V_drew HO116.out)
                                  have n3_ := aM (below_drew1 HB.out)
                                  clear HO_0
                                  clear HO_4
                                  clear HO116
                                  clear HB
                                  have HO_0 := n0_
                                  have HO_4 := n1_
                                  have HO116 := n2_
                                  have HB := n3_
                                  clear n0_ n1_ n2_ n3_
                                  have q40 : ((ji19) : Int) ≤ ((l0.length : Int) : Int) := of_decide_eq_true (by first | (with_reducible assumption) | assumption)
                                  obtain ⟨i040, hi040, _, hsz40, _⟩ := info_parts info5
                                  have hroom40 : l0.length ≤ c0 := (Kd.V_reads' HO_0.out).2.1
                                  have hC40 : Kd.F (Kd.int .u8) _ _ A0 l0.length l0 := (Kd.V_at (base := w.heap.size) HO_0.out).2.2
                                  have ql40 : (x5_1 : Int) ≤ ((ji19) : Int) := of_decide_eq_true (by first | (with_reducible assumption) | assumption)
                                  have q040 : (0 : Int) ≤ (x5_1 : Int) := of_decide_eq_true (by first | (with_reducible assumption) | assumption)
                                  have hcut40 := cut_mid (P := Try.prog) 22 5 .i64 .i64 Try.underlying22 hi040 1 hsz40 A0 l0.length c0 x5_1 (ji19) q040 ql40 q40 hroom40
                                  have hr40 := Kd.F_mid (lo := (x5_1 : Int).toNat) (hi := ((ji19) : Int).toNat) (c := c0) hC40 (by omega) (by omega) hroom40
                                  obtain ⟨A40, hA40⟩ : ∃ A1, A1 = (if c0 = (x5_1 : Int).toNat then A0 else (A0 : Option Addr).map (·.add ((x5_1 : Int).toNat * 1))) := ⟨_, rfl⟩
                                  obtain ⟨c40, hc40⟩ : ∃ c1, c1 = c0 - (x5_1 : Int).toNat := ⟨_, rfl⟩
                                  have hy40 : y117.length = ((ji19) : Int).toNat - (x5_1 : Int).toNat := (by rw [Ny117.out, lD, lT] <;> omega)
                                  rw [show ((l0).take ((ji19) : Int).toNat).drop (x5_1 : Int).toNat = y117 from Ny117.out.symm] at hr40
                                  replace hr40 : Kd.F (Kd.int .u8) _ _ A40 y117.length y117 := (by rw [hA40]; exact hr40)
                                  rw [← hy40, ← hA40, ← hc40] at hcut40
                                  have HO121 := aM (show Kd.V (Kd.int .u8) 5 _ w.heap.size _ (.slice A40 y117.length c40) y117 from Kd.V_mk (by rw [hy40, hc40]; exact Nat.sub_le_sub_right (Nat.le_trans (by omega) hroom40) _) hr40)
                                  have HC121 := aM (show y117.length ≤ c40 from by rw [hy40, hc40]; exact Nat.sub_le_sub_right (Nat.le_trans (by omega) hroom40) _)
                                  clear hr40 hC40 hroom40 hi040 hsz40 hc40
                                  have KY40 := aM hy40
                                  have KA40 := aM hA40
                                  clear hy40 hA40
                                  replace q40 := eq_true q40
                                  have q41 : ((ji19) : Int) ≤ ((l0.length : Int) : Int) := of_decide_eq_true (by first | (with_reducible assumption) | assumption)
                                  obtain ⟨i041, hi041, _, hsz41, _⟩ := info_parts info5
                                  have hroom41 : l0.length ≤ c0 := (Kd.V_reads' HO_0.out).2.1
                                  have hC41 : Kd.F (Kd.int .u8) _ _ A0 l0.length l0 := (Kd.V_at (base := w.heap.size) HO_0.out).2.2
                                  have q041 : (0 : Int) ≤ ((ji19) : Int) := of_decide_eq_true (by first | (with_reducible assumption) | assumption)
                                  have hcut41 := cut_from (P := Try.prog) 22 5 .i64 Try.underlying22 hi041 1 hsz41 A0 l0.length c0 (ji19) q041 q41
                                  have hr41 := Kd.F_cut (m := ((ji19) : Int).toNat) (c := c0) hC41 (by omega) hroom41
                                  obtain ⟨A41, hA41⟩ : ∃ A1, A1 = (if c0 = ((ji19) : Int).toNat then A0 else (A0 : Option Addr).map (·.add (((ji19) : Int).toNat * 1))) := ⟨_, rfl⟩
                                  obtain ⟨c41, hc41⟩ : ∃ c1, c1 = c0 - ((ji19) : Int).toNat := ⟨_, rfl⟩
                                  have hy41 : y129.length = l0.length - ((ji19) : Int).toNat := (by rw [Ny129.out, List.length_drop] <;> omega)
                                  rw [show (l0).drop ((ji19) : Int).toNat = y129 from Ny129.out.symm] at hr41
                                  replace hr41 : Kd.F (Kd.int .u8) _ _ A41 y129.length y129 := (by rw [hA41]; exact hr41)
                                  rw [← hy41, ← hA41, ← hc41] at hcut41
                                  have HO133 := aM (show Kd.V (Kd.int .u8) 5 _ w.heap.size _ (.slice A41 y129.length c41) y129 from Kd.V_mk (by rw [hy41, hc41]; exact Nat.sub_le_sub_right hroom41 _) hr41)
                                  have HC133 := aM (show y129.length ≤ c41 from by rw [hy41, hc41]; exact Nat.sub_le_sub_right hroom41 _)
                                  clear hr41 hC41 hroom41 hi041 hsz41 hc41
                                  have KY41 := aM hy41
                                  have KA41 := aM hA41
                                  clear hy41 hA41
                                  replace q41 := eq_true q41
                                  refine start_ (n := 15) (S := fun w' => True) (ds := []) #[false, false, false, false, false, false, false, false, false, false, false, false, false, false, false] (by kernel_rfl) rfl rfl trivial (fun hHeld => ?_); refine with_tabW journal_Scan.tab7 journal_Scan.bits7 (fun HT_ HW_ => ?_)
                                  generalize wc.drew = w39 at HO_0 HO_4 HO116 HB HO121 HO133 hHeld ⊢
                                  refine pure_ (i := 0) (N := some 37) (v := ?_) (a' := ?_) #[true, false, false, false, false, false, false, false, false, false, false, false, false, false, false] rfl rfl (any_of HT_.out (by kernel_rfl)) (fun _ _ _ h => h) (Or.inl ⟨by rfl, ?_⟩) ?_ ?_
                                  rotate_left
                                  · intro w'
                                    go_simp
                                    with_reducible rfl
                                  rotate_left
                                  · simp only [Act.put, List.setIfInBounds_toArray, List.set_cons_zero, List.set_cons_succ, i64_w, i32_w]
                                    rfl
                                  refine pure_ (i := 1) (N := some 38) (v := ?_) (a' := ?_) #[true, true, false, false, false, false, false, false, false, false, false, false, false, false, false] rfl rfl (any_of HT_.out (by kernel_rfl)) (fun _ _ _ h => h) (Or.inl ⟨by rfl, ?_⟩) ?_ ?_
                                  rotate_left
                                  · intro w'
                                    go_simp
                                    with_reducible rfl
                                  rotate_left
                                  · simp only [Act.put, List.setIfInBounds_toArray, List.set_cons_zero, List.set_cons_succ, i64_w, i32_w]
                                    rfl
                                  refine pure_ (i := 2) (N := some 39) (v := ?_) (a' := ?_) #[true, true, true, false, false, false, false, false, false, false, false, false, false, false, false] rfl rfl (any_of HT_.out (by kernel_rfl)) (fun _ _ _ h => h) (Or.inl ⟨by rfl, ?_⟩) ?_ ?_
                                  rotate_left
                                  · intro w'
                                    go_simp
                                    with_reducible rfl
                                  rotate_left
                                  · simp only [Act.put, List.setIfInBounds_toArray, List.set_cons_zero, List.set_cons_succ, i64_w, i32_w]
                                    rfl
                                  refine pure_ (i := 3) (N := some 40) (v := ?_) (a' := ?_) #[true, true, true, true, false, false, false, false, false, false, false, false, false, false, false] rfl rfl (any_of HT_.out (by kernel_rfl)) (fun _ _ _ h => h) (Or.inl ⟨by rfl, ?_⟩) ?_ ?_
                                  rotate_left
                                  · intro w'
                                    go_simp
                                    with_reducible rfl
                                  rotate_left
                                  · simp only [Act.put, List.setIfInBounds_toArray, List.set_cons_zero, List.set_cons_succ, i64_w, i32_w]
                                    rfl
                                  refine pure_ (i := 4) (N := some 41) (v := ?_) (a' := ?_) #[true, true, true, true, true, false, false, false, false, false, false, false, false, false, false] rfl rfl (any_of HT_.out (by kernel_rfl)) (fun _ _ _ h => h) (Or.inl ⟨by rfl, ?_⟩) ?_ ?_
                                  rotate_left
                                  · intro w'
                                    go_simp
                                    with_reducible rfl
                                  rotate_left
                                  · simp only [Act.put, List.setIfInBounds_toArray, List.set_cons_zero, List.set_cons_succ, i64_w, i32_w]
                                    rfl
                                  refine pure_ (i := 5) (N := some 42) (v := ?_) (a' := ?_) #[true, true, true, true, true, true, false, false, false, false, false, false, false, false, false] rfl rfl (any_of HT_.out (by kernel_rfl)) (fun _ _ _ h => h) (Or.inl ⟨by rfl, ?_⟩) ?_ ?_
                                  rotate_left
                                  · intro w'
                                    go_simp
                                    with_reducible rfl
                                  rotate_left
                                  · simp only [Act.put, List.setIfInBounds_toArray, List.set_cons_zero, List.set_cons_succ, i64_w, i32_w]
                                    rfl
                                  refine pure_ (i := 9) (N := some 46) (v := ?_) (a' := ?_) #[true, true, true, true, true, true, false, false, false, true, false, false, false, false, false] rfl rfl (any_of HT_.out (by kernel_rfl)) (fun _ _ _ h => h) (Or.inl ⟨by rfl, ?_⟩) ?_ ?_
                                  rotate_left
                                  · intro w'
                                    go_simp
                                    with_reducible rfl
                                  rotate_left
                                  · simp only [Act.put, List.setIfInBounds_toArray, List.set_cons_zero, List.set_cons_succ, i64_w, i32_w]
                                    rfl
                                  refine pure_ (i := 10) (N := some 47) (v := ?_) (a' := ?_) #[true, true, true, true, true, true, false, false, false, true, true, false, false, false, false] rfl rfl (any_of HT_.out (by kernel_rfl)) (fun _ _ _ h => h) (Or.inl ⟨by rfl, ?_⟩) ?_ ?_
                                  rotate_left
                                  · intro w'
                                    go_simp
                                    with_reducible rfl
                                  rotate_left
                                  · simp only [Act.put, List.setIfInBounds_toArray, List.set_cons_zero, List.set_cons_succ, i64_w, i32_w]
                                    rfl
                                  refine pure_ (i := 11) (N := some 48) (v := ?_) (a' := ?_) #[true, true, true, true, true, true, false, false, false, true, true, true, false, false, false] rfl rfl (any_of HT_.out (by kernel_rfl)) (fun _ _ _ h => h) (Or.inl ⟨by rfl, ?_⟩) ?_ ?_
                                  rotate_left
                                  · intro w'
                                    go_simp
                                    with_reducible rfl
                                  rotate_left
                                  · simp only [Act.put, List.setIfInBounds_toArray, List.set_cons_zero, List.set_cons_succ, i64_w, i32_w]
                                    rfl
                                  refine pure_ (i := 12) (N := some 49) (v := ?_) (a' := ?_) #[true, true, true, true, true, true, false, false, false, true, true, true, true, false, false] rfl rfl (any_of HT_.out (by kernel_rfl)) (fun _ _ _ h => h) (Or.inl ⟨by rfl, ?_⟩) ?_ ?_
                                  rotate_left
                                  · intro w'
                                    go_simp
                                    with_reducible rfl
                                  rotate_left
                                  · simp only [Act.put, List.setIfInBounds_toArray, List.set_cons_zero, List.set_cons_succ, i64_w, i32_w]
                                    rfl
                                  refine one_ (i := 6) (N := some 43) #[true, true, true, true, true, true, true, false, false, true, true, true, true, false, false] rfl rfl (one_of HT_.out (by kernel_rfl)) (by decide) (fun K hK => ?_)
                                  refine Kd.N_lit_step (Kd.slice 5 (Kd.int .u8)) _ 22 ?hg (N' := 43) ?hd (xs := ([y117, y112] : List (List Int))) (inner := [.slice A40 y117.length c40, .slice A38 y112.length c38]) (ok := (fun k_ => (P0_ k_ ∨ w.heap.size ≤ k_) ∧ some k_ ≠ (u4 : Value).ownBlock)) (okp := (fun k_ => (P0_ k_ ∨ w.heap.size ≤ k_) ∧ some k_ ≠ (u4 : Value).ownBlock)) ?hr ?hp (fun _ hk => hk) ((show ∀ k_, w39.heap.size ≤ k_ → (fun k_ => (P0_ k_ ∨ w.heap.size ≤ k_) ∧ some k_ ≠ (u4 : Value).ownBlock) k_ from fun k_ hk => ⟨(.inr (Nat.le_trans (below_size (by repeat (first | (with_reducible first | exact HB.out | apply bA | apply bN | apply bD) | exact HB.out))) hk)), Kd.fresh' (Kd.N_lt (by (with_reducible repeat (first | apply nA | apply nN | apply nD)); exact HO_4.out)) k_ hk⟩) _ (Nat.le_refl _)) (Below.refl _ _) (Nat.le_refl _) (by simp) ?_; (case hd => rfl); (case hg => rfl); (case hr => first | (go_simp; done) | (go_simp; rfl)); (case hp => exact (Reps.one (show Kd.FK (Kd.slice 5 (Kd.int .u8)) _ _ y117 [.slice A40 y117.length c40] from (Kd.FK_slice_mk (Kd.V_reads' (Kd.V_mono (ok' := (fun k_ => (P0_ k_ ∨ w.heap.size ≤ k_) ∧ some k_ ≠ (u4 : Value).ownBlock)) (HO121.out) (fun k_ hk => ⟨hk.1, hk.2⟩))).2.1 (Kd.V_F (Kd.V_mono (ok' := (fun k_ => (P0_ k_ ∨ w.heap.size ≤ k_) ∧ some k_ ≠ (u4 : Value).ownBlock)) (HO121.out) (fun k_ hk => ⟨hk.1, hk.2⟩))))) (Reps.one (show Kd.FK (Kd.slice 5 (Kd.int .u8)) _ _ y112 [.slice A38 y112.length c38] from (Kd.FK_slice_mk (Kd.V_reads' (Kd.V_mono (ok' := (fun k_ => (P0_ k_ ∨ w.heap.size ≤ k_) ∧ some k_ ≠ (u4 : Value).ownBlock)) (HO116.out) (fun k_ hk => ⟨hk.1, hk.2⟩))).2.1 (Kd.V_F (Kd.V_mono (ok' := (fun k_ => (P0_ k_ ∨ w.heap.size ≤ k_) ∧ some k_ ≠ (u4 : Value).ownBlock)) (HO116.out) (fun k_ hk => ⟨hk.1, hk.2⟩))))) (Reps.none _ _))))
                                  intro v123 w42 ho43 hb hg_ hnew_
                                  clear hg_ hnew_
                                  (first | rw [← Ny122.out] at ho43 | (simp only [Int.reduceToNat] at ho43; rw [← Ny122.out] at ho43))
                                  have n0_ := aM (Kd.V_elder' (by (with_reducible repeat (first | apply vA | apply vN | apply vD)); exact HO_0.out) (Kd.N_base ho43) hb)
                                  have n1_ := aM (Kd.N_elder' (by (with_reducible repeat (first | apply nA | apply nN | apply nD)); exact HO_4.out) (Kd.N_base ho43) hb)
                                  have n2_ := aM (Kd.V_elder' (by (with_reducible repeat (first | apply vA | apply vN | apply vD)); exact HO116.out) (Kd.N_base ho43) hb)
                                  have n3_ := aM (Kd.V_elder' (by (with_reducible repeat (first | apply vA | apply vN | apply vD)); exact HO121.out) (Kd.N_base ho43) hb)
                                  have n4_ := aM (Kd.V_elder' (by (with_reducible repeat (first | apply vA | apply vN | apply vD)); exact HO133.out) (Kd.N_base ho43) hb)
                                  have n5_ := aM (Kd.N_lower ho43 (below_size (by repeat (first | (with_reducible first | exact HB.out | apply bA | apply bN | apply bD) | exact HB.out))))
                                  have n6_ := aM (below_step (by repeat (first | (with_reducible first | exact HB.out | apply bA | apply bN | apply bD) | exact HB.out)) hb)
                                  clear HO_0
                                  clear HO_4
                                  clear HO116
                                  clear HO121
                                  clear HO133
                                  clear HB
                                  have HO_0 := n0_
                                  have HO_4 := n1_
                                  have HO116 := n2_
                                  have HO121 := n3_
                                  have HO133 := n4_
                                  have HO124 := n5_
                                  have HB := n6_
                                  clear n0_ n1_ n2_ n3_ n4_ n5_ n6_
                                  clear hb ho43
                                  obtain ⟨Ao44, co44, eo44⟩ := Kd.N_slice HO124.out
                                  (first | subst eo44 | (injection eo44 with f1_ f2_ f3_; have f4_ := f1_.symm; have f5_ := f3_.symm; clear f1_ f2_ f3_; subst f4_; subst f5_))
                                  refine hK.out _ _ trivial (fun hHeld => ?_)
                                  clear hK K
                                  refine norm_ (a' := ?_) ?_ ?_
                                  rotate_left
                                  · show Act.put _ (some 43) _ = _
                                    simp only [Act.put, List.setIfInBounds_toArray, List.set_cons_zero, List.set_cons_succ, i64_w, i32_w]
                                    rfl
                                  refine one_ (i := 7) (N := some 44) #[true, true, true, true, true, true, true, true, false, true, true, true, true, false, false] rfl rfl (one_of HT_.out (by kernel_rfl)) (by decide) (fun K hK => ?_)
                                  refine goes_ Try.func35 (by kernel_rfl) rfl #[.slice Ao44 y122.length co44] (by rfl) rfl rfl (by (try simp only [mapA, mapB, mapC]); first | done | rfl | (simp only [lD, lT]; rfl) | (simp only [ge_iff_le, gt_iff_lt, *]; rfl)) ?_
                                  with_reducible refine (slices_Concat_byte_byte.calls _ _ y122 t125 _ ?side1 ?side2 A17.out).mono ?_
                                  (case side1 => repeat (first | exact (Kd.N_reads' HO124.out).2.2 | (with_reducible refine Kd.C_alloc ?_ _) | (with_reducible refine Kd.C_drewN ?_ _) | (with_reducible refine Kd.C_drew ?_)))
                                  (case side2 => exact (Kd.N_reads' HO124.out).2.1)
                                  rintro e w45 ⟨v126, rfl, ho0, hb⟩
                                  refine ⟨_, rfl, ?_⟩
                                  have n0_ := aM (Kd.V_elder' (by (with_reducible repeat (first | apply vA | apply vN | apply vD)); exact HO_0.out) (Kd.R_base ho0) hb)
                                  have n1_ := aM (Kd.N_elder' (by (with_reducible repeat (first | apply nA | apply nN | apply nD)); exact HO_4.out) (Kd.R_base ho0) hb)
                                  have n2_ := aM (Kd.V_elder' (by (with_reducible repeat (first | apply vA | apply vN | apply vD)); exact HO116.out) (Kd.R_base ho0) hb)
                                  have n3_ := aM (Kd.V_elder' (by (with_reducible repeat (first | apply vA | apply vN | apply vD)); exact HO121.out) (Kd.R_base ho0) hb)
                                  have n4_ := aM (Kd.V_elder' (by (with_reducible repeat (first | apply vA | apply vN | apply vD)); exact HO133.out) (Kd.R_base ho0) hb)
                                  have n5_ := aM (Kd.N_elder' (by (with_reducible repeat (first | apply nA | apply nN | apply nD)); exact HO124.out) (Kd.R_base ho0) hb)
                                  have n6_ := aM (Kd.R_lower (Kd.R_newM (M := fun k_ => (w.heap.size ≤ k_)) ho0 (below_size (by repeat (first | (with_reducible first | exact HB.out | apply bA | apply bN | apply bD) | exact HB.out))) (fun k_ h_ => h_)) (below_size (by repeat (first | (with_reducible first | exact HB.out | apply bA | apply bN | apply bD) | exact HB.out))))
                                  have n7_ := aM (below_step (by repeat (first | (with_reducible first | exact HB.out | apply bA | apply bN | apply bD) | exact HB.out)) hb)
                                  clear HO_0
                                  clear HO_4
                                  clear HO116
                                  clear HO121
                                  clear HO133
                                  clear HO124
                                  clear HB
                                  have HO_0 := n0_
                                  have HO_4 := n1_
                                  have HO116 := n2_
                                  have HO121 := n3_
                                  have HO133 := n4_
                                  have HO124 := n5_
                                  have HO127 := n6_
                                  have HB := n7_
                                  clear n0_ n1_ n2_ n3_ n4_ n5_ n6_ n7_
                                  (try clear hb)
                                  (try clear hb2)
                                  (try clear hk)
                                  (try clear hi)
                                  (try clear ho0)
                                  obtain ⟨Ao46, co46, eo46⟩ := Kd.R_slice HO127.out
                                  (first | subst eo46 | (injection eo46 with f1_ f2_ f3_; have f4_ := f1_.symm; have f5_ := f3_.symm; clear f1_ f2_ f3_; subst f4_; subst f5_))
                                  refine hK.out _ _ trivial (fun hHeld => ?_)
                                  clear hK K
                                  refine norm_ (a' := ?_) ?_ ?_
                                  rotate_left
                                  · show Act.put _ (some 44) _ = _
                                    simp only [Act.put, List.setIfInBounds_toArray, List.set_cons_zero, List.set_cons_succ, i64_w, i32_w]
                                    rfl
                                  refine one_ (i := 8) (N := some 45) #[true, true, true, true, true, true, true, true, true, true, true, true, true, false, false] rfl rfl (one_of HT_.out (by kernel_rfl)) (by decide) (fun K hK => ?_)
                                  refine goes_ Try.func14 (by kernel_rfl) rfl #[.slice Ao46 t125.length co46] (by rfl) rfl rfl (by (try simp only [mapA, mapB, mapC]); first | done | rfl | (simp only [lD, lT]; rfl) | (simp only [ge_iff_le, gt_iff_lt, *]; rfl)) ?_
                                  with_reducible refine (journal_Sum.calls kj5 _ _ t125 t128 _ ?side1 ?side2 A18.out).mono ?_
                                  (case side1 => repeat (first | exact (Kd.R_reads' HO127.out).2.2 | (with_reducible refine Kd.C_alloc ?_ _) | (with_reducible refine Kd.C_drewN ?_ _) | (with_reducible refine Kd.C_drew ?_)))
                                  (case side2 => exact (Kd.R_reads' HO127.out).2.1)
                                  rintro e w' ⟨rfl, ⟨nd, rfl⟩⟩
                                  refine ⟨_, rfl, ?_⟩
                                  refine hK.out _ _ trivial (fun hHeld => ?_)
                                  clear hK K
                                  refine norm_ (a' := ?_) ?_ ?_
                                  rotate_left
                                  · show Act.put _ (some 45) _ = _
                                    simp only [Act.put, List.setIfInBounds_toArray, List.set_cons_zero, List.set_cons_succ, i64_w, i32_w]
                                    rfl
                                  refine one_ (i := 13) (N := some 50) #[true, true, true, true, true, true, true, true, true, true, true, true, true, true, false] rfl rfl (one_of HT_.out (by kernel_rfl)) (by decide) (fun K hK => ?_)
                                  refine goes_ Try.func36 (by kernel_rfl) rfl #[.slice A41 y129.length c41] (by rfl) rfl rfl (by (try simp only [mapA, mapB, mapC]); first | done | rfl | (simp only [lD, lT]; rfl) | (simp only [ge_iff_le, gt_iff_lt, *]; rfl)) ?_
                                  with_reducible refine (journal_of.calls _ _ y129 t134 _ ?side1 ?side2 A22.out).mono ?_
                                  (case side1 => repeat (first | exact (Kd.V_reads' HO133.out).2.2 | (with_reducible refine Kd.C_alloc ?_ _) | (with_reducible refine Kd.C_drewN ?_ _) | (with_reducible refine Kd.C_drew ?_)))
                                  (case side2 => exact (Kd.V_reads' HO133.out).2.1)
                                  rintro e w' ⟨rfl, ⟨nd, rfl⟩⟩
                                  refine ⟨_, rfl, ?_⟩
                                  refine hK.out _ _ trivial (fun hHeld => ?_)
                                  clear hK K
                                  refine norm_ (a' := ?_) ?_ ?_
                                  rotate_left
                                  · show Act.put _ (some 50) _ = _
                                    simp only [Act.put, List.setIfInBounds_toArray, List.set_cons_zero, List.set_cons_succ, i64_w, i32_w]
                                    rfl
                                  refine pure_ (i := 14) (N := some 51) (v := ?_) (a' := ?_) #[true, true, true, true, true, true, true, true, true, true, true, true, true, true, true] rfl rfl (any_of HT_.out (by kernel_rfl)) (fun _ _ _ h => h) (Or.inl ⟨by rfl, ?_⟩) ?_ ?_
                                  rotate_left
                                  · intro w'
                                    go_simp
                                    with_reducible rfl
                                  rotate_left
                                  · simp only [Act.put, List.setIfInBounds_toArray, List.set_cons_zero, List.set_cons_succ, i64_w, i32_w]
                                    rfl
                                  refine done_ (done_of HT_.out (by kernel_rfl)) ?_
                                  try go_wp2
                                  go_ret2
                                  exact ⟨_, by first | rfl | (simp [errW_none, errW_some] <;> rfl) | (simp only [← hji10, ← hji19]; first | rfl | (simp [errW_none, errW_some] <;> rfl)) | (simp [*, errW_none, errW_some] <;> rfl), by (with_reducible repeat (first | apply nA | apply nN | apply nD)); exact Kd.N_mono HO_4.out (fun _ hk => hk.1.1), by repeat (first | (with_reducible first | exact HB.out | apply bA | apply bN | apply bD) | exact HB.out)⟩
                              · rw [if_neg c20] at H
                                exact absurd H (by simp)
                            · rw [if_neg c16] at H
                              exact absurd H (by simp)
                          · rw [if_neg c15] at H
                            exact absurd H (by simp)
                        · rw [if_neg c14] at H
                          exact absurd H (by simp)
                      · rw [if_neg c13] at H
                        exact absurd H (by simp)
                    · rw [if_neg c12] at H
                      exact absurd H (by simp)
                  · rw [if_neg c11] at H
                    exact absurd H (by simp)
          · rw [if_neg c4] at H
            exact absurd H (by simp)
        · rw [if_neg c3] at H
          exact absurd H (by simp)
      · rw [if_neg c2] at H
        have c2b0 : decide (8 ≤ (wrap64 ((l0.length : Int) - x5_1))) = false := decide_eq_false c2
        clear c2
        simp only [Option.some.injEq, Prod.mk.injEq] at H
        obtain ⟨rfl, rfl⟩ := H
        go_wp2
        go_ret2
        exact ⟨_, by first | rfl | (simp [errW_none, errW_some] <;> rfl) | (simp [*, errW_none, errW_some] <;> rfl), by (with_reducible repeat (first | apply nA | apply nN | apply nD)); exact HO_4.out, by repeat (first | (with_reducible first | exact HB.out | apply bA | apply bN | apply bD) | exact HB.out)⟩

end Go.Proofs.Ytlgkcpmedjpoaaa.X
