import Derived.Test.YtimdbnhgoekflaaDoorPHashShasx0
namespace Go.Proofs.YtimdbnhgoekflaaDoor.PHashShas
open Go.RowKit Go.Proofs.YtimdbnhgoekflaaDoorW.PrintWords Go.Proofs.YtimdbnhgoekflaaDoorW.PrintLast Go.Proofs.YtimdbnhgoekflaaDoorW.PrintMore
attribute [local go_sem] max2_int min2_int max_two min_two max_three min_three max_four min_four   -- for this text's walks alone
set_option linter.unusedVariables false
set_option linter.unusedSimpArgs false

/-! ### treenailref05_primes: function 22 -/
mutual
def treenailref05_primes.l0 : Nat → Int → List Int → Int → Option (List Int)
  | 0, _, _, _ => none
  | k + 1, x0, x3, x4 => if (x3.length : Int) < x0 then (treenailref05_primes.l1 k x0 x3 x4 true 0) else (some x3)
def treenailref05_primes.l1 : Nat → Int → List Int → Int → Bool → Int → Option (List Int)
  | 0, _, _, _, _, _ => none
  | k + 1, x0, x3, x4, x5, x6 => if x6 < (x3.length : Int) then (if 0 ≤ x6 then (if (rd x3 x6) = 0 then (none) else (if (Int.tmod x4 (rd x3 x6)) = 0 then (treenailref05_primes.l1 k x0 x3 x4 false (wrap64 (x6 + 1))) else (treenailref05_primes.l1 k x0 x3 x4 x5 (wrap64 (x6 + 1))))) else (none)) else (if x5 = true then (if x3.length < 17592186044416 then (treenailref05_primes.l0 k x0 (x3 ++ [x4]) (wrap64 (x4 + 1))) else (none)) else (treenailref05_primes.l0 k x0 x3 (wrap64 (x4 + 1))))
end
def treenailref05_primes.f (k : Nat) (a0 : Int) : Option (List Int) := treenailref05_primes.l0 k a0 ([] : List Int) 2
theorem treenailref05_primes.mono_l : ∀ k, (∀ y0 y1 y2, LeO (treenailref05_primes.l0 k y0 y1 y2) (treenailref05_primes.l0 (k + 1) y0 y1 y2)) ∧ (∀ y0 y1 y2 y3 y4, LeO (treenailref05_primes.l1 k y0 y1 y2 y3 y4) (treenailref05_primes.l1 (k + 1) y0 y1 y2 y3 y4))
  | 0 => ⟨fun _ _ _ r h => by simp [treenailref05_primes.l0] at h, fun _ _ _ _ _ r h => by simp [treenailref05_primes.l1] at h⟩
  | k + 1 => by
    obtain ⟨ih0, ih1⟩ := treenailref05_primes.mono_l k
    refine ⟨?_, ?_⟩
    · intro y0 y1 y2
      unfold treenailref05_primes.l0
      repeat' first
      | (with_reducible exact ih0 _ _ _)
      | (with_reducible exact ih1 _ _ _ _ _)
      | (with_reducible exact LeO.refl _)
      | (with_reducible exact LeO.none _)
      | (with_reducible refine LeO.ite ?_ ?_)
      | (with_reducible refine LeO.bind ?_ (fun _ => ?_))
      | exact ih0 _ _ _
      | exact ih1 _ _ _ _ _
      | exact LeO.none _
      | refine LeO.ite ?_ ?_
      | refine LeO.bind ?_ (fun _ => ?_)
    · intro y0 y1 y2 y3 y4
      unfold treenailref05_primes.l1
      repeat' first
      | (with_reducible exact ih0 _ _ _)
      | (with_reducible exact ih1 _ _ _ _ _)
      | (with_reducible exact LeO.refl _)
      | (with_reducible exact LeO.none _)
      | (with_reducible refine LeO.ite ?_ ?_)
      | (with_reducible refine LeO.bind ?_ (fun _ => ?_))
      | exact ih0 _ _ _
      | exact ih1 _ _ _ _ _
      | exact LeO.none _
      | refine LeO.ite ?_ ?_
      | refine LeO.bind ?_ (fun _ => ?_)
theorem treenailref05_primes.mono : ∀ a0 k, LeO (treenailref05_primes.f k a0) (treenailref05_primes.f (k + 1) a0) := by
  intro a0 k
  obtain ⟨ih0, ih1⟩ := treenailref05_primes.mono_l k
  unfold treenailref05_primes.f
  repeat' first
      | (with_reducible exact ih0 _ _ _)
      | (with_reducible exact ih1 _ _ _ _ _)
      | (with_reducible exact LeO.refl _)
      | (with_reducible exact LeO.none _)
      | (with_reducible refine LeO.ite ?_ ?_)
      | (with_reducible refine LeO.bind ?_ (fun _ => ?_))
      | exact ih0 _ _ _
      | exact ih1 _ _ _ _ _
      | exact LeO.none _
      | refine LeO.ite ?_ ?_
      | refine LeO.bind ?_ (fun _ => ?_)
set_option maxHeartbeats 8000000 in
set_option maxRecDepth 100000 in
theorem treenailref05_primes.calls (k : Nat) (a0 : Int) (r : List Int) (w : World) (h : treenailref05_primes.f k a0 = some r) :
    Calls Tryd.prog 22 #[.int .i64 a0] w fun e w' => ∃ v0_ : Value, e = .returned (v0_) ∧ Kd.R (Kd.int .i64) 3 w' w.heap.size (fun _ => True) v0_ r ∧ Below w.heap.size w w' := by
  have HB := Aside0.mk (Below.refl w.heap.size w)
  have H : (treenailref05_primes.l0 k a0 ([] : List Int) 2) = some r := h
  clear h
  have H' := Aside0.mk H
  clear H
  go_enter Tryd.func22, Tryd.ntmps22
  go_wp2
  go_loopg [3, 4] k (fun kq v3 v4 w' => ∃ (x3_1 : List Int) (x4_1 : Int), v4 = .int .i64 x4_1 ∧ Aside0 (treenailref05_primes.l0 kq a0 x3_1 x4_1 = some r) ∧ Aside0 (kq ≤ k) ∧ Aside0 (Kd.R (Kd.int .i64) 3 w' w.heap.size (fun _ => True) v3 x3_1) ∧ Aside0 (Below w.heap.size w w'))
  case atStart => exact ⟨(([] : List Int)), (2), (by first | rfl | (simp; done) | (simp [*]; done)), H', ⟨Nat.le_refl _⟩, ⟨by first | exact Kd.R_nil _ _ _ _ _ | exact Kd.N_nil _ _ _ _ _ | exact Kd.V_nil _ _ _ _ _ | exact Kd.Q_nil _ _ _ _ _ | exact Kd.S_nil _ _ _ _ _⟩, ⟨by repeat (first | (with_reducible first | exact HB.out | apply below_alloc | apply pw_below_drewN | apply below_drew1) | exact HB.out)⟩⟩
  case round =>
    clear H'
    obtain ⟨x3_1, x4_1, rfl, HA, HK1, HO_3, HB⟩ := hrel
    cases gk with
    | zero => exact absurd HA.out (by simp [treenailref05_primes.l0])
    | succ k1 =>
      have H := HA.out
      clear HA
      simp only [treenailref05_primes.l0] at H
      by_cases c2 : (x3_1.length : Int) < a0
      · rw [if_pos c2] at H
        have c2b0 : decide ((x3_1.length : Int) < a0) = true := decide_eq_true c2
        clear c2
        have H' := Aside0.mk H
        clear H
        obtain ⟨Ao3, co3, eo3⟩ := Kd.R_slice HO_3.out
        subst eo3
        go_wp2
        go_loopg [5, 6] k1 (fun kq v5 v6 w' => ∃ (x5_2 : Bool) (x6_2 : Int), v5 = .bool x5_2 ∧ v6 = .int .i64 x6_2 ∧ Aside0 (treenailref05_primes.l1 kq a0 x3_1 x4_1 x5_2 x6_2 = some r) ∧ Aside0 (kq ≤ k1) ∧ Aside0 (Kd.R (Kd.int .i64) 3 w' w.heap.size (fun _ => True) (.slice Ao3 x3_1.length co3) x3_1) ∧ Aside0 (Below w.heap.size w w'))
        case atStart => exact ⟨(true), (0), (by first | rfl | (simp; done) | (simp [*]; done)), (by first | rfl | (simp; done) | (simp [*]; done)), H', ⟨Nat.le_refl _⟩, ⟨by (with_reducible repeat (first | apply Kd.R_alloc | apply Kd.R_drewN | apply Kd.R_drew)); exact HO_3.out⟩, ⟨by repeat (first | (with_reducible first | exact HB.out | apply below_alloc | apply pw_below_drewN | apply below_drew1) | exact HB.out)⟩⟩
        case round =>
          clear H'
          try clear c2
          try clear c2b0
          try clear p2
          obtain ⟨x5_2, x6_2, rfl, rfl, HA, HK2, HO_3, HB⟩ := hrel
          cases gk with
          | zero => exact absurd HA.out (by simp [treenailref05_primes.l1])
          | succ k2 =>
            have H := HA.out
            clear HA
            simp only [treenailref05_primes.l1] at H
            by_cases c4 : x6_2 < (x3_1.length : Int)
            · rw [if_pos c4] at H
              have c4b0 : decide (x6_2 < (x3_1.length : Int)) = true := decide_eq_true c4
              clear c4
              by_cases c5 : 0 ≤ x6_2
              · rw [if_pos c5] at H
                have c5b0 : decide (0 ≤ x6_2) = true := decide_eq_true c5
                clear c5
                by_cases c6 : (rd x3_1 x6_2) = 0
                · rw [if_pos c6] at H
                  exact absurd H (by simp)
                · rw [if_neg c6] at H
                  have c6b0 : ((rd x3_1 x6_2) == 0) = false := beq_eq_false_iff_ne.mpr c6
                  have c6b1 : ((rd x3_1 x6_2) != 0) = true := bne_iff_ne.mpr c6
                  by_cases c7 : (Int.tmod x4_1 (rd x3_1 x6_2)) = 0
                  · rw [if_pos c7] at H
                    have c7b0 : ((Int.tmod x4_1 (rd x3_1 x6_2)) == 0) = true := beq_iff_eq.mpr c7
                    have c7b1 : ((Int.tmod x4_1 (rd x3_1 x6_2)) != 0) = false := bne_eq_false_iff_eq.mpr c7
                    clear c7
                    have H' := Aside0.mk H
                    clear H
                    have p112 : 0 ≤ (x6_2 : Int) := of_decide_eq_true (by first | (with_reducible assumption) | assumption)
                    have q112 : x6_2 < (x3_1.length : Int) := of_decide_eq_true (by first | (with_reducible assumption) | assumption)
                    obtain ⟨ad112, e112, hx112_0⟩ := Kd.at_int (Kd.R_reads' HO_3.out).2.2 x6_2 p112 q112
                    cases e112
                    replace p112 := eq_true p112
                    replace q112 := eq_true q112
                    go_wp2
                    go_roundg k2
                    case measure => have := HK1.out; have := HK2.out; omega
                    case rel => exact ⟨(false), (wrap64 (x6_2 + 1)), (by first | rfl | (simp; done) | (simp [*]; done)), (by first | rfl | (simp; done) | (simp [*]; done)), H', ⟨by have := HK1.out; have := HK2.out; omega⟩, ⟨by (with_reducible repeat (first | apply Kd.R_alloc | apply Kd.R_drewN | apply Kd.R_drew)); exact HO_3.out⟩, ⟨by repeat (first | (with_reducible first | exact HB.out | apply below_alloc | apply pw_below_drewN | apply below_drew1) | exact HB.out)⟩⟩
                  · rw [if_neg c7] at H
                    have c7b0 : ((Int.tmod x4_1 (rd x3_1 x6_2)) == 0) = false := beq_eq_false_iff_ne.mpr c7
                    have c7b1 : ((Int.tmod x4_1 (rd x3_1 x6_2)) != 0) = true := bne_iff_ne.mpr c7
                    have H' := Aside0.mk H
                    clear H
                    have p112 : 0 ≤ (x6_2 : Int) := of_decide_eq_true (by first | (with_reducible assumption) | assumption)
                    have q112 : x6_2 < (x3_1.length : Int) := of_decide_eq_true (by first | (with_reducible assumption) | assumption)
                    obtain ⟨ad112, e112, hx112_0⟩ := Kd.at_int (Kd.R_reads' HO_3.out).2.2 x6_2 p112 q112
                    cases e112
                    replace p112 := eq_true p112
                    replace q112 := eq_true q112
                    go_wp2
                    go_roundg k2
                    case measure => have := HK1.out; have := HK2.out; omega
                    case rel => exact ⟨(x5_2), (wrap64 (x6_2 + 1)), (by first | rfl | (simp; done) | (simp [*]; done)), (by first | rfl | (simp; done) | (simp [*]; done)), H', ⟨by have := HK1.out; have := HK2.out; omega⟩, ⟨by (with_reducible repeat (first | apply Kd.R_alloc | apply Kd.R_drewN | apply Kd.R_drew)); exact HO_3.out⟩, ⟨by repeat (first | (with_reducible first | exact HB.out | apply below_alloc | apply pw_below_drewN | apply below_drew1) | exact HB.out)⟩⟩
              · rw [if_neg c5] at H
                exact absurd H (by simp)
            · rw [if_neg c4] at H
              have c4b0 : decide (x6_2 < (x3_1.length : Int)) = false := decide_eq_false c4
              clear c4
              by_cases c8 : x5_2 = true
              · subst c8
                have H1 : (if x3_1.length < 17592186044416 then (treenailref05_primes.l0 k2 a0 (x3_1 ++ [x4_1]) (wrap64 (x4_1 + 1))) else (none)) = some r := by rw [if_pos rfl] at H; exact H
                clear H
                have H := H1
                clear H1
                by_cases c9 : x3_1.length < 17592186044416
                · rw [if_pos c9] at H
                  have LMc9 := Aside0.mk c9
                  clear c9
                  obtain ⟨y113, hy113⟩ : ∃ y_ : List Int, y_ = (x3_1 ++ [x4_1]) := ⟨_, rfl⟩
                  replace H : (treenailref05_primes.l0 k2 a0 y113 (wrap64 (x4_1 + 1))) = some r := by first | (rw [hy113]; with_reducible exact H) | (have H2_ := (Option.bind_some _ _).symm.trans H; rw [hy113]; with_reducible exact H2_) | (have H2_ := (Option.bind_some _ _).symm.trans H; with_reducible exact H2_) | with_reducible exact H | (rw [hy113]; exact H) | exact H
                  have Ny113 := Aside0.mk hy113
                  clear hy113
                  have H' := Aside0.mk H
                  clear H
                  go_wp2_with (first | ((with_reducible refine gate_builtin (b := .append) (xs := #[.tmp 27, .tmp 29]) rfl ?_); at_builtin; refine Kd.R_append (Kd.int .i64) (w0 := w) w.heap.size rfl (.tmp 27) (.tmp 29) 52 3 (.int .i64 0) 8 rfl Tryd.underlying52 info3 rfl (by decide) (by omega) (.slice Ao3 x3_1.length co3) x3_1 x4_1 [.int .i64 x4_1] (fun _ => True) (fun _ => False) rfl rfl ?aP (fun _ hk => hk.elim) ?aF ?aO ?aB ?aS ?aL ?_; (case aP => exact rfl); (case aB => exact (by repeat (first | (with_reducible first | exact HB.out | apply below_alloc | apply pw_below_drewN | apply below_drew1) | exact HB.out))); (case aF => exact (fun _ _ => trivial)); (case aO => exact (by (with_reducible repeat (first | apply Kd.R_alloc | apply Kd.R_drewN | apply Kd.R_drew)); exact HO_3.out)); (case aS => exact (below_size (by repeat (first | (with_reducible first | exact HB.out | apply below_alloc | apply pw_below_drewN | apply below_drew1) | exact HB.out)))); (case aL => have := LMc9.out; omega); intro v114 w10 ho hb hg hat; rw [← Ny113.out] at ho; have n0_ := Aside0.mk (hb); have n1_ := Aside0.mk (ho); clear HB; clear HO_3; have HB := n0_; have HO115 := n1_; clear n0_ n1_; clear ho hb hg hat))
                  go_roundg k2
                  case measure => have := HK1.out; have := HK2.out; omega
                  case rel => exact ⟨(y113), (wrap64 (x4_1 + 1)), (by first | rfl | (simp; done) | (simp [*]; done)), H', ⟨by have := HK1.out; have := HK2.out; omega⟩, ⟨by (with_reducible repeat (first | apply Kd.R_alloc | apply Kd.R_drewN | apply Kd.R_drew)); exact HO115.out⟩, ⟨by repeat (first | (with_reducible first | exact HB.out | apply below_alloc | apply pw_below_drewN | apply below_drew1) | exact HB.out)⟩⟩
                · rw [if_neg c9] at H
                  exact absurd H (by simp)
              · replace c8 := Bool.eq_false_iff.mpr c8
                subst c8
                have H1 : (treenailref05_primes.l0 k2 a0 x3_1 (wrap64 (x4_1 + 1))) = some r := by rw [if_neg (show ¬ (false = true) by decide)] at H; exact H
                clear H
                have H := H1
                clear H1
                have H' := Aside0.mk H
                clear H
                go_wp2
                go_roundg k2
                case measure => have := HK1.out; have := HK2.out; omega
                case rel => exact ⟨(x3_1), (wrap64 (x4_1 + 1)), (by first | rfl | (simp; done) | (simp [*]; done)), H', ⟨by have := HK1.out; have := HK2.out; omega⟩, ⟨by (with_reducible repeat (first | apply Kd.R_alloc | apply Kd.R_drewN | apply Kd.R_drew)); exact HO_3.out⟩, ⟨by repeat (first | (with_reducible first | exact HB.out | apply below_alloc | apply pw_below_drewN | apply below_drew1) | exact HB.out)⟩⟩
      · rw [if_neg c2] at H
        have c2b0 : decide ((x3_1.length : Int) < a0) = false := decide_eq_false c2
        clear c2
        obtain rfl := Option.some.inj H
        obtain ⟨Ao11, co11, eo11⟩ := Kd.R_slice HO_3.out
        subst eo11
        go_wp2
        go_ret
        exact ⟨_, by first | rfl | (simp [errW_none, errW_some] <;> rfl) | (simp [*, errW_none, errW_some] <;> rfl), by (with_reducible repeat (first | apply Kd.R_alloc | apply Kd.R_drewN | apply Kd.R_drew)); exact HO_3.out, by repeat (first | (with_reducible first | exact HB.out | apply below_alloc | apply pw_below_drewN | apply below_drew1) | exact HB.out)⟩

/-! ### treenailref05_times: function 27 -/
def treenailref05_times.f (a0 : Int) (a1 : Int) : Option (Int × Int) := if (IntKind.u64.wrap ((IntKind.u64.wrap ((Go.bits .and .u64 a0 4294967295) * (Go.bits .and .u64 a1 4294967295))) + (IntKind.u64.wrap ((IntKind.u64.wrap ((IntKind.u64.wrap ((a0 / 4294967296) * (Go.bits .and .u64 a1 4294967295))) + (IntKind.u64.wrap ((Go.bits .and .u64 a0 4294967295) * (a1 / 4294967296))))) * 4294967296)))) < (IntKind.u64.wrap ((Go.bits .and .u64 a0 4294967295) * (Go.bits .and .u64 a1 4294967295))) then (some (IntKind.u64.wrap ((IntKind.u64.wrap ((IntKind.u64.wrap ((a0 / 4294967296) * (a1 / 4294967296))) + ((IntKind.u64.wrap ((IntKind.u64.wrap ((a0 / 4294967296) * (Go.bits .and .u64 a1 4294967295))) + (IntKind.u64.wrap ((Go.bits .and .u64 a0 4294967295) * (a1 / 4294967296))))) / 4294967296))) + 1), IntKind.u64.wrap ((IntKind.u64.wrap ((Go.bits .and .u64 a0 4294967295) * (Go.bits .and .u64 a1 4294967295))) + (IntKind.u64.wrap ((IntKind.u64.wrap ((IntKind.u64.wrap ((a0 / 4294967296) * (Go.bits .and .u64 a1 4294967295))) + (IntKind.u64.wrap ((Go.bits .and .u64 a0 4294967295) * (a1 / 4294967296))))) * 4294967296))))) else (some (IntKind.u64.wrap ((IntKind.u64.wrap ((a0 / 4294967296) * (a1 / 4294967296))) + ((IntKind.u64.wrap ((IntKind.u64.wrap ((a0 / 4294967296) * (Go.bits .and .u64 a1 4294967295))) + (IntKind.u64.wrap ((Go.bits .and .u64 a0 4294967295) * (a1 / 4294967296))))) / 4294967296)), IntKind.u64.wrap ((IntKind.u64.wrap ((Go.bits .and .u64 a0 4294967295) * (Go.bits .and .u64 a1 4294967295))) + (IntKind.u64.wrap ((IntKind.u64.wrap ((IntKind.u64.wrap ((a0 / 4294967296) * (Go.bits .and .u64 a1 4294967295))) + (IntKind.u64.wrap ((Go.bits .and .u64 a0 4294967295) * (a1 / 4294967296))))) * 4294967296)))))
set_option maxHeartbeats 8000000 in
set_option maxRecDepth 100000 in
theorem treenailref05_times.calls (a0 : Int) (a1 : Int) (r1 : Int) (r2 : Int) (w : World) (h : treenailref05_times.f a0 a1 = some (r1, r2)) :
    Calls Tryd.prog 27 #[.int .u64 a0, .int .u64 a1] w fun e w' => e = .returned (.tuple #[.int .u64 r1, .int .u64 r2]) ∧ Drawn0 w w' := by
  have H : (if (IntKind.u64.wrap ((IntKind.u64.wrap ((Go.bits .and .u64 a0 4294967295) * (Go.bits .and .u64 a1 4294967295))) + (IntKind.u64.wrap ((IntKind.u64.wrap ((IntKind.u64.wrap ((a0 / 4294967296) * (Go.bits .and .u64 a1 4294967295))) + (IntKind.u64.wrap ((Go.bits .and .u64 a0 4294967295) * (a1 / 4294967296))))) * 4294967296)))) < (IntKind.u64.wrap ((Go.bits .and .u64 a0 4294967295) * (Go.bits .and .u64 a1 4294967295))) then (some (IntKind.u64.wrap ((IntKind.u64.wrap ((IntKind.u64.wrap ((a0 / 4294967296) * (a1 / 4294967296))) + ((IntKind.u64.wrap ((IntKind.u64.wrap ((a0 / 4294967296) * (Go.bits .and .u64 a1 4294967295))) + (IntKind.u64.wrap ((Go.bits .and .u64 a0 4294967295) * (a1 / 4294967296))))) / 4294967296))) + 1), IntKind.u64.wrap ((IntKind.u64.wrap ((Go.bits .and .u64 a0 4294967295) * (Go.bits .and .u64 a1 4294967295))) + (IntKind.u64.wrap ((IntKind.u64.wrap ((IntKind.u64.wrap ((a0 / 4294967296) * (Go.bits .and .u64 a1 4294967295))) + (IntKind.u64.wrap ((Go.bits .and .u64 a0 4294967295) * (a1 / 4294967296))))) * 4294967296))))) else (some (IntKind.u64.wrap ((IntKind.u64.wrap ((a0 / 4294967296) * (a1 / 4294967296))) + ((IntKind.u64.wrap ((IntKind.u64.wrap ((a0 / 4294967296) * (Go.bits .and .u64 a1 4294967295))) + (IntKind.u64.wrap ((Go.bits .and .u64 a0 4294967295) * (a1 / 4294967296))))) / 4294967296)), IntKind.u64.wrap ((IntKind.u64.wrap ((Go.bits .and .u64 a0 4294967295) * (Go.bits .and .u64 a1 4294967295))) + (IntKind.u64.wrap ((IntKind.u64.wrap ((IntKind.u64.wrap ((a0 / 4294967296) * (Go.bits .and .u64 a1 4294967295))) + (IntKind.u64.wrap ((Go.bits .and .u64 a0 4294967295) * (a1 / 4294967296))))) * 4294967296)))))) = some (r1, r2) := h
  clear h
  by_cases c3 : (IntKind.u64.wrap ((IntKind.u64.wrap ((Go.bits .and .u64 a0 4294967295) * (Go.bits .and .u64 a1 4294967295))) + (IntKind.u64.wrap ((IntKind.u64.wrap ((IntKind.u64.wrap ((a0 / 4294967296) * (Go.bits .and .u64 a1 4294967295))) + (IntKind.u64.wrap ((Go.bits .and .u64 a0 4294967295) * (a1 / 4294967296))))) * 4294967296)))) < (IntKind.u64.wrap ((Go.bits .and .u64 a0 4294967295) * (Go.bits .and .u64 a1 4294967295)))
  · rw [if_pos c3] at H
    have c3b0 : decide ((IntKind.u64.wrap ((IntKind.u64.wrap ((Go.bits .and .u64 a0 4294967295) * (Go.bits .and .u64 a1 4294967295))) + (IntKind.u64.wrap ((IntKind.u64.wrap ((IntKind.u64.wrap ((a0 / 4294967296) * (Go.bits .and .u64 a1 4294967295))) + (IntKind.u64.wrap ((Go.bits .and .u64 a0 4294967295) * (a1 / 4294967296))))) * 4294967296)))) < (IntKind.u64.wrap ((Go.bits .and .u64 a0 4294967295) * (Go.bits .and .u64 a1 4294967295)))) = true := decide_eq_true c3
    clear c3
    simp only [Option.some.injEq, Prod.mk.injEq] at H
    obtain ⟨rfl, rfl⟩ := H
    go_enter Tryd.func27, Tryd.ntmps27
    go_wp2
    go_ret2
    exact ⟨by first | rfl | (simp; done) | (simp [*]; done), by repeat (first | exact Drawn0.refl _ | apply Drawn0.step)⟩
  · rw [if_neg c3] at H
    have c3b0 : decide ((IntKind.u64.wrap ((IntKind.u64.wrap ((Go.bits .and .u64 a0 4294967295) * (Go.bits .and .u64 a1 4294967295))) + (IntKind.u64.wrap ((IntKind.u64.wrap ((IntKind.u64.wrap ((a0 / 4294967296) * (Go.bits .and .u64 a1 4294967295))) + (IntKind.u64.wrap ((Go.bits .and .u64 a0 4294967295) * (a1 / 4294967296))))) * 4294967296)))) < (IntKind.u64.wrap ((Go.bits .and .u64 a0 4294967295) * (Go.bits .and .u64 a1 4294967295)))) = false := decide_eq_false c3
    clear c3
    simp only [Option.some.injEq, Prod.mk.injEq] at H
    obtain ⟨rfl, rfl⟩ := H
    go_enter Tryd.func27, Tryd.ntmps27
    go_wp2
    go_ret2
    exact ⟨by first | rfl | (simp; done) | (simp [*]; done), by repeat (first | exact Drawn0.refl _ | apply Drawn0.step)⟩

/-! ### treenailref05_root: function 23 -/
mutual
def treenailref05_root.l0 : Nat → Int → Bool → Int → Int → Option (Int)
  | 0, _, _, _, _ => none
  | k + 1, x0, x1, x5, x6 => if x6 ≥ 0 then (if 0 ≤ x6 then ((treenailref05_times.f (IntKind.u64.wrap (x5 + (shl .u64 1 x6))) (IntKind.u64.wrap (x5 + (shl .u64 1 x6)))).bind fun bt116 => (if x1 = true then ((treenailref05_times.f (Go.bits .and .u64 bt116.2 4294967295) (IntKind.u64.wrap (x5 + (shl .u64 1 x6)))).bind fun bt118 => ((treenailref05_times.f (bt116.2 / 4294967296) (IntKind.u64.wrap (x5 + (shl .u64 1 x6)))).bind fun bt120 => ((treenailref05_times.f bt116.1 (IntKind.u64.wrap (x5 + (shl .u64 1 x6)))).bind fun bt122 => (if (IntKind.u64.wrap (bt118.2 + (IntKind.u64.wrap (bt120.2 * 4294967296)))) < (IntKind.u64.wrap (bt120.2 * 4294967296)) then (treenailref05_root.j1 k x0 x1 x5 x6 (IntKind.u64.wrap (x5 + (shl .u64 1 x6))) bt120.1 bt120.2 bt122.1 bt122.2 (IntKind.u64.wrap (bt118.2 + (IntKind.u64.wrap (bt120.2 * 4294967296)))) (IntKind.u64.wrap (bt118.1 + 1))) else (treenailref05_root.j1 k x0 x1 x5 x6 (IntKind.u64.wrap (x5 + (shl .u64 1 x6))) bt120.1 bt120.2 bt122.1 bt122.2 (IntKind.u64.wrap (bt118.2 + (IntKind.u64.wrap (bt120.2 * 4294967296)))) bt118.1))))) else (if bt116.1 < x0 then (treenailref05_root.l0 k x0 x1 (IntKind.u64.wrap (x5 + (shl .u64 1 x6))) (wrap64 (x6 - 1))) else (if bt116.1 = x0 then (if bt116.2 = 0 then (treenailref05_root.l0 k x0 x1 (IntKind.u64.wrap (x5 + (shl .u64 1 x6))) (wrap64 (x6 - 1))) else (treenailref05_root.l0 k x0 x1 x5 (wrap64 (x6 - 1)))) else (treenailref05_root.l0 k x0 x1 x5 (wrap64 (x6 - 1))))))) else (none)) else (some (Go.bits .and .u64 x5 4294967295))
def treenailref05_root.j1 : Nat → Int → Bool → Int → Int → Int → Int → Int → Int → Int → Int → Int → Option (Int)
  | 0, _, _, _, _, _, _, _, _, _, _, _ => none
  | k + 1, x0, x1, x5, x6, x7, x12, x13, x14, x15, x16, x17 => if (IntKind.u64.wrap ((IntKind.u64.wrap ((IntKind.u64.wrap (x17 + (x13 / 4294967296))) + (IntKind.u64.wrap (x12 * 4294967296)))) + x15)) < (IntKind.u64.wrap ((IntKind.u64.wrap (x17 + (x13 / 4294967296))) + (IntKind.u64.wrap (x12 * 4294967296)))) then (if (IntKind.u64.wrap ((IntKind.u64.wrap ((IntKind.u64.wrap (x14 + 1)) * 4294967296)) + ((IntKind.u64.wrap ((IntKind.u64.wrap ((IntKind.u64.wrap (x17 + (x13 / 4294967296))) + (IntKind.u64.wrap (x12 * 4294967296)))) + x15)) / 4294967296))) < x0 then (treenailref05_root.l0 k x0 x1 x7 (wrap64 (x6 - 1))) else (if (IntKind.u64.wrap ((IntKind.u64.wrap ((IntKind.u64.wrap (x14 + 1)) * 4294967296)) + ((IntKind.u64.wrap ((IntKind.u64.wrap ((IntKind.u64.wrap (x17 + (x13 / 4294967296))) + (IntKind.u64.wrap (x12 * 4294967296)))) + x15)) / 4294967296))) = x0 then (if (Go.bits .and .u64 (IntKind.u64.wrap ((IntKind.u64.wrap ((IntKind.u64.wrap (x17 + (x13 / 4294967296))) + (IntKind.u64.wrap (x12 * 4294967296)))) + x15)) 4294967295) = 0 then (if x16 = 0 then (treenailref05_root.l0 k x0 x1 x7 (wrap64 (x6 - 1))) else (treenailref05_root.l0 k x0 x1 x5 (wrap64 (x6 - 1)))) else (treenailref05_root.l0 k x0 x1 x5 (wrap64 (x6 - 1)))) else (treenailref05_root.l0 k x0 x1 x5 (wrap64 (x6 - 1))))) else (if (IntKind.u64.wrap ((IntKind.u64.wrap (x14 * 4294967296)) + ((IntKind.u64.wrap ((IntKind.u64.wrap ((IntKind.u64.wrap (x17 + (x13 / 4294967296))) + (IntKind.u64.wrap (x12 * 4294967296)))) + x15)) / 4294967296))) < x0 then (treenailref05_root.l0 k x0 x1 x7 (wrap64 (x6 - 1))) else (if (IntKind.u64.wrap ((IntKind.u64.wrap (x14 * 4294967296)) + ((IntKind.u64.wrap ((IntKind.u64.wrap ((IntKind.u64.wrap (x17 + (x13 / 4294967296))) + (IntKind.u64.wrap (x12 * 4294967296)))) + x15)) / 4294967296))) = x0 then (if (Go.bits .and .u64 (IntKind.u64.wrap ((IntKind.u64.wrap ((IntKind.u64.wrap (x17 + (x13 / 4294967296))) + (IntKind.u64.wrap (x12 * 4294967296)))) + x15)) 4294967295) = 0 then (if x16 = 0 then (treenailref05_root.l0 k x0 x1 x7 (wrap64 (x6 - 1))) else (treenailref05_root.l0 k x0 x1 x5 (wrap64 (x6 - 1)))) else (treenailref05_root.l0 k x0 x1 x5 (wrap64 (x6 - 1)))) else (treenailref05_root.l0 k x0 x1 x5 (wrap64 (x6 - 1)))))
end
def treenailref05_root.f (k : Nat) (a0 : Int) (a1 : Bool) : Option (Int) := treenailref05_root.l0 k a0 a1 0 39
theorem treenailref05_root.mono_l : ∀ k, (∀ y0 y1 y2 y3, LeO (treenailref05_root.l0 k y0 y1 y2 y3) (treenailref05_root.l0 (k + 1) y0 y1 y2 y3)) ∧ (∀ y0 y1 y2 y3 y4 y5 y6 y7 y8 y9 y10, LeO (treenailref05_root.j1 k y0 y1 y2 y3 y4 y5 y6 y7 y8 y9 y10) (treenailref05_root.j1 (k + 1) y0 y1 y2 y3 y4 y5 y6 y7 y8 y9 y10))
  | 0 => ⟨fun _ _ _ _ r h => by simp [treenailref05_root.l0] at h, fun _ _ _ _ _ _ _ _ _ _ _ r h => by simp [treenailref05_root.j1] at h⟩
  | k + 1 => by
    obtain ⟨ih0, ih1⟩ := treenailref05_root.mono_l k
    refine ⟨?_, ?_⟩
    · intro y0 y1 y2 y3
      unfold treenailref05_root.l0
      repeat' first
      | (with_reducible exact ih0 _ _ _ _)
      | (with_reducible exact ih1 _ _ _ _ _ _ _ _ _ _ _)
      | (with_reducible exact LeO.refl _)
      | (with_reducible exact LeO.none _)
      | (with_reducible refine LeO.ite ?_ ?_)
      | (with_reducible refine LeO.bind ?_ (fun _ => ?_))
      | exact ih0 _ _ _ _
      | exact ih1 _ _ _ _ _ _ _ _ _ _ _
      | exact LeO.none _
      | refine LeO.ite ?_ ?_
      | refine LeO.bind ?_ (fun _ => ?_)
    · intro y0 y1 y2 y3 y4 y5 y6 y7 y8 y9 y10
      unfold treenailref05_root.j1
      repeat' first
      | (with_reducible exact ih0 _ _ _ _)
      | (with_reducible exact ih1 _ _ _ _ _ _ _ _ _ _ _)
      | (with_reducible exact LeO.refl _)
      | (with_reducible exact LeO.none _)
      | (with_reducible refine LeO.ite ?_ ?_)
      | (with_reducible refine LeO.bind ?_ (fun _ => ?_))
      | exact ih0 _ _ _ _
      | exact ih1 _ _ _ _ _ _ _ _ _ _ _
      | exact LeO.none _
      | refine LeO.ite ?_ ?_
      | refine LeO.bind ?_ (fun _ => ?_)
theorem treenailref05_root.mono : ∀ a0 a1 k, LeO (treenailref05_root.f k a0 a1) (treenailref05_root.f (k + 1) a0 a1) := by
  intro a0 a1 k
  obtain ⟨ih0, ih1⟩ := treenailref05_root.mono_l k
  unfold treenailref05_root.f
  repeat' first
      | (with_reducible exact ih0 _ _ _ _)
      | (with_reducible exact ih1 _ _ _ _ _ _ _ _ _ _ _)
      | (with_reducible exact LeO.refl _)
      | (with_reducible exact LeO.none _)
      | (with_reducible refine LeO.ite ?_ ?_)
      | (with_reducible refine LeO.bind ?_ (fun _ => ?_))
      | exact ih0 _ _ _ _
      | exact ih1 _ _ _ _ _ _ _ _ _ _ _
      | exact LeO.none _
      | refine LeO.ite ?_ ?_
      | refine LeO.bind ?_ (fun _ => ?_)
set_option maxHeartbeats 8000000 in
set_option maxRecDepth 100000 in
theorem treenailref05_root.calls (k : Nat) (a0 : Int) (a1 : Bool) (r : Int) (w : World) (h : treenailref05_root.f k a0 a1 = some r) :
    Calls Tryd.prog 23 #[.int .u64 a0, .bool a1] w fun e w' => e = .returned (.int .u64 r) ∧ Drawn0 w w' := by
  have H : (treenailref05_root.l0 k a0 a1 0 39) = some r := h
  clear h
  have H' := Aside0.mk H
  clear H
  go_enter Tryd.func23, Tryd.ntmps23
  go_wp2
  go_loopg [5, 6] k (fun kq v5 v6 w' => ∃ (x5_1 : Int) (x6_1 : Int), v5 = .int .u64 x5_1 ∧ v6 = .int .i64 x6_1 ∧ Aside0 (treenailref05_root.l0 kq a0 a1 x5_1 x6_1 = some r) ∧ Aside0 (kq ≤ k) ∧ Drawn0 w w')
  case atStart => exact ⟨(0), (39), (by first | rfl | (simp; done) | (simp [*]; done)), (by first | rfl | (simp; done) | (simp [*]; done)), H', ⟨Nat.le_refl _⟩, by repeat (first | exact Drawn0.refl _ | apply Drawn0.step)⟩
  case round =>
    clear H'
    try clear c2
    try clear p2
    obtain ⟨x5_1, x6_1, rfl, rfl, HA, HK1, ⟨m1, rfl⟩⟩ := hrel
    cases gk with
    | zero => exact absurd HA.out (by simp [treenailref05_root.l0])
    | succ k1 =>
      have H := HA.out
      clear HA
      simp only [treenailref05_root.l0] at H
      by_cases c3 : x6_1 ≥ 0
      · rw [if_pos c3] at H
        have c3b0 : decide (0 ≤ x6_1) = true := decide_eq_true c3
        clear c3
        by_cases c4 : 0 ≤ x6_1
        · rw [if_pos c4] at H
          have c4b0 := eq_true c4
          have c4b1 : decide (0 ≤ x6_1) = true := decide_eq_true c4
          clear c4
          obtain ⟨ji5, hji5⟩ : ∃ j_ : Int, (shl .u64 1 x6_1) = j_ := ⟨_, rfl⟩
          replace H : ((treenailref05_times.f (IntKind.u64.wrap (x5_1 + (ji5))) (IntKind.u64.wrap (x5_1 + (ji5)))).bind fun bt116 => (if a1 = true then ((treenailref05_times.f (Go.bits .and .u64 bt116.2 4294967295) (IntKind.u64.wrap (x5_1 + (ji5)))).bind fun bt118 => ((treenailref05_times.f (bt116.2 / 4294967296) (IntKind.u64.wrap (x5_1 + (ji5)))).bind fun bt120 => ((treenailref05_times.f bt116.1 (IntKind.u64.wrap (x5_1 + (ji5)))).bind fun bt122 => (if (IntKind.u64.wrap (bt118.2 + (IntKind.u64.wrap (bt120.2 * 4294967296)))) < (IntKind.u64.wrap (bt120.2 * 4294967296)) then (treenailref05_root.j1 k1 a0 a1 x5_1 x6_1 (IntKind.u64.wrap (x5_1 + (ji5))) bt120.1 bt120.2 bt122.1 bt122.2 (IntKind.u64.wrap (bt118.2 + (IntKind.u64.wrap (bt120.2 * 4294967296)))) (IntKind.u64.wrap (bt118.1 + 1))) else (treenailref05_root.j1 k1 a0 a1 x5_1 x6_1 (IntKind.u64.wrap (x5_1 + (ji5))) bt120.1 bt120.2 bt122.1 bt122.2 (IntKind.u64.wrap (bt118.2 + (IntKind.u64.wrap (bt120.2 * 4294967296)))) bt118.1))))) else (if bt116.1 < a0 then (treenailref05_root.l0 k1 a0 a1 (IntKind.u64.wrap (x5_1 + (ji5))) (wrap64 (x6_1 - 1))) else (if bt116.1 = a0 then (if bt116.2 = 0 then (treenailref05_root.l0 k1 a0 a1 (IntKind.u64.wrap (x5_1 + (ji5))) (wrap64 (x6_1 - 1))) else (treenailref05_root.l0 k1 a0 a1 x5_1 (wrap64 (x6_1 - 1)))) else (treenailref05_root.l0 k1 a0 a1 x5_1 (wrap64 (x6_1 - 1))))))) = some r := by first | (rw [hji5] at H; exact H) | (simp only [hji5] at H ⊢; exact H)
          have hji5_ : (IntKind.u64.wrap (1 * 2 ^ min x6_1.toNat 64)) = ji5 := hji5
          have hji5z : x6_1 ≤ 64 → (IntKind.u64.wrap (1 * 2 ^ x6_1.toNat)) = ji5 := shl_small hji5
          have hji5u : (IntKind.u64.wrap (2 ^ min x6_1.toNat 64)) = ji5 := by have h_ := hji5_; rw [Int.one_mul] at h_; exact h_
          have hji5v : x6_1 ≤ 64 → (IntKind.u64.wrap (2 ^ x6_1.toNat)) = ji5 := fun hle_ => by have h_ := hji5z hle_; rw [Int.one_mul] at h_; exact h_
          replace H := Option.bind_eq_some_iff.mp H
          obtain ⟨⟨t116, t117⟩, A60, H⟩ := H
          replace H : (if a1 = true then ((treenailref05_times.f (Go.bits .and .u64 t117 4294967295) (IntKind.u64.wrap (x5_1 + (ji5)))).bind fun bt118 => ((treenailref05_times.f (t117 / 4294967296) (IntKind.u64.wrap (x5_1 + (ji5)))).bind fun bt120 => ((treenailref05_times.f t116 (IntKind.u64.wrap (x5_1 + (ji5)))).bind fun bt122 => (if (IntKind.u64.wrap (bt118.2 + (IntKind.u64.wrap (bt120.2 * 4294967296)))) < (IntKind.u64.wrap (bt120.2 * 4294967296)) then (treenailref05_root.j1 k1 a0 a1 x5_1 x6_1 (IntKind.u64.wrap (x5_1 + (ji5))) bt120.1 bt120.2 bt122.1 bt122.2 (IntKind.u64.wrap (bt118.2 + (IntKind.u64.wrap (bt120.2 * 4294967296)))) (IntKind.u64.wrap (bt118.1 + 1))) else (treenailref05_root.j1 k1 a0 a1 x5_1 x6_1 (IntKind.u64.wrap (x5_1 + (ji5))) bt120.1 bt120.2 bt122.1 bt122.2 (IntKind.u64.wrap (bt118.2 + (IntKind.u64.wrap (bt120.2 * 4294967296)))) bt118.1))))) else (if t116 < a0 then (treenailref05_root.l0 k1 a0 a1 (IntKind.u64.wrap (x5_1 + (ji5))) (wrap64 (x6_1 - 1))) else (if t116 = a0 then (if t117 = 0 then (treenailref05_root.l0 k1 a0 a1 (IntKind.u64.wrap (x5_1 + (ji5))) (wrap64 (x6_1 - 1))) else (treenailref05_root.l0 k1 a0 a1 x5_1 (wrap64 (x6_1 - 1)))) else (treenailref05_root.l0 k1 a0 a1 x5_1 (wrap64 (x6_1 - 1)))))) = some r := H
          have A6 := Aside0.mk A60
          clear A60
          by_cases c7 : a1 = true
          · subst c7
            have H1 : ((treenailref05_times.f (Go.bits .and .u64 t117 4294967295) (IntKind.u64.wrap (x5_1 + (ji5)))).bind fun bt118 => ((treenailref05_times.f (t117 / 4294967296) (IntKind.u64.wrap (x5_1 + (ji5)))).bind fun bt120 => ((treenailref05_times.f t116 (IntKind.u64.wrap (x5_1 + (ji5)))).bind fun bt122 => (if (IntKind.u64.wrap (bt118.2 + (IntKind.u64.wrap (bt120.2 * 4294967296)))) < (IntKind.u64.wrap (bt120.2 * 4294967296)) then (treenailref05_root.j1 k1 a0 true x5_1 x6_1 (IntKind.u64.wrap (x5_1 + (ji5))) bt120.1 bt120.2 bt122.1 bt122.2 (IntKind.u64.wrap (bt118.2 + (IntKind.u64.wrap (bt120.2 * 4294967296)))) (IntKind.u64.wrap (bt118.1 + 1))) else (treenailref05_root.j1 k1 a0 true x5_1 x6_1 (IntKind.u64.wrap (x5_1 + (ji5))) bt120.1 bt120.2 bt122.1 bt122.2 (IntKind.u64.wrap (bt118.2 + (IntKind.u64.wrap (bt120.2 * 4294967296)))) bt118.1))))) = some r := by rw [if_pos rfl] at H; exact H
            clear H
            have H := H1
            clear H1
            replace H := Option.bind_eq_some_iff.mp H
            obtain ⟨⟨t118, t119⟩, A80, H⟩ := H
            replace H : ((treenailref05_times.f (t117 / 4294967296) (IntKind.u64.wrap (x5_1 + (ji5)))).bind fun bt120 => ((treenailref05_times.f t116 (IntKind.u64.wrap (x5_1 + (ji5)))).bind fun bt122 => (if (IntKind.u64.wrap (t119 + (IntKind.u64.wrap (bt120.2 * 4294967296)))) < (IntKind.u64.wrap (bt120.2 * 4294967296)) then (treenailref05_root.j1 k1 a0 true x5_1 x6_1 (IntKind.u64.wrap (x5_1 + (ji5))) bt120.1 bt120.2 bt122.1 bt122.2 (IntKind.u64.wrap (t119 + (IntKind.u64.wrap (bt120.2 * 4294967296)))) (IntKind.u64.wrap (t118 + 1))) else (treenailref05_root.j1 k1 a0 true x5_1 x6_1 (IntKind.u64.wrap (x5_1 + (ji5))) bt120.1 bt120.2 bt122.1 bt122.2 (IntKind.u64.wrap (t119 + (IntKind.u64.wrap (bt120.2 * 4294967296)))) t118)))) = some r := H
            have A8 := Aside0.mk A80
            clear A80
            replace H := Option.bind_eq_some_iff.mp H
            obtain ⟨⟨t120, t121⟩, A90, H⟩ := H
            replace H : ((treenailref05_times.f t116 (IntKind.u64.wrap (x5_1 + (ji5)))).bind fun bt122 => (if (IntKind.u64.wrap (t119 + (IntKind.u64.wrap (t121 * 4294967296)))) < (IntKind.u64.wrap (t121 * 4294967296)) then (treenailref05_root.j1 k1 a0 true x5_1 x6_1 (IntKind.u64.wrap (x5_1 + (ji5))) t120 t121 bt122.1 bt122.2 (IntKind.u64.wrap (t119 + (IntKind.u64.wrap (t121 * 4294967296)))) (IntKind.u64.wrap (t118 + 1))) else (treenailref05_root.j1 k1 a0 true x5_1 x6_1 (IntKind.u64.wrap (x5_1 + (ji5))) t120 t121 bt122.1 bt122.2 (IntKind.u64.wrap (t119 + (IntKind.u64.wrap (t121 * 4294967296)))) t118))) = some r := H
            have A9 := Aside0.mk A90
            clear A90
            replace H := Option.bind_eq_some_iff.mp H
            obtain ⟨⟨t122, t123⟩, A100, H⟩ := H
            replace H : (if (IntKind.u64.wrap (t119 + (IntKind.u64.wrap (t121 * 4294967296)))) < (IntKind.u64.wrap (t121 * 4294967296)) then (treenailref05_root.j1 k1 a0 true x5_1 x6_1 (IntKind.u64.wrap (x5_1 + (ji5))) t120 t121 t122 t123 (IntKind.u64.wrap (t119 + (IntKind.u64.wrap (t121 * 4294967296)))) (IntKind.u64.wrap (t118 + 1))) else (treenailref05_root.j1 k1 a0 true x5_1 x6_1 (IntKind.u64.wrap (x5_1 + (ji5))) t120 t121 t122 t123 (IntKind.u64.wrap (t119 + (IntKind.u64.wrap (t121 * 4294967296)))) t118)) = some r := H
            have A10 := Aside0.mk A100
            clear A100
            have HC11 := Aside0.mk H
            clear H
            go_upto_if 80 with (first | ((with_reducible refine gate_callee (f := 27) rfl ?_); refine goesL_ (some 33) rfl rfl Tryd.func27 (by kernel_rfl) rfl #[.int .u64 (IntKind.u64.wrap (x5_1 + (ji5))), .int .u64 (IntKind.u64.wrap (x5_1 + (ji5)))] rfl (by (try simp only [List.map_toArray, List.map_cons, List.map_nil]); first | done | (simp only [hji5]; rfl) | rfl | (simp only [List.length_drop, List.length_take]; rfl)) ?_; (with_reducible refine (treenailref05_times.calls (IntKind.u64.wrap (x5_1 + (ji5))) (IntKind.u64.wrap (x5_1 + (ji5))) t116 t117 _ A6.out).mono ?_); rintro e w' ⟨rfl, ⟨nd, rfl⟩⟩; refine ⟨_, rfl, ?_⟩) | ((with_reducible refine gate_callee (f := 27) rfl ?_); refine goesL_ (some 55) rfl rfl Tryd.func27 (by kernel_rfl) rfl #[.int .u64 (Go.bits .and .u64 t117 4294967295), .int .u64 (IntKind.u64.wrap (x5_1 + (ji5)))] rfl (by (try simp only [List.map_toArray, List.map_cons, List.map_nil]); first | done | (simp only [hji5]; rfl) | rfl | (simp only [List.length_drop, List.length_take]; rfl)) ?_; (with_reducible refine (treenailref05_times.calls (Go.bits .and .u64 t117 4294967295) (IntKind.u64.wrap (x5_1 + (ji5))) t118 t119 _ A8.out).mono ?_); rintro e w' ⟨rfl, ⟨nd, rfl⟩⟩; refine ⟨_, rfl, ?_⟩) | ((with_reducible refine gate_callee (f := 27) rfl ?_); refine goesL_ (some 62) rfl rfl Tryd.func27 (by kernel_rfl) rfl #[.int .u64 (t117 / 4294967296), .int .u64 (IntKind.u64.wrap (x5_1 + (ji5)))] rfl (by (try simp only [List.map_toArray, List.map_cons, List.map_nil]); first | done | (simp only [hji5]; rfl) | rfl | (simp only [List.length_drop, List.length_take]; rfl)) ?_; (with_reducible refine (treenailref05_times.calls (t117 / 4294967296) (IntKind.u64.wrap (x5_1 + (ji5))) t120 t121 _ A9.out).mono ?_); rintro e w' ⟨rfl, ⟨nd, rfl⟩⟩; refine ⟨_, rfl, ?_⟩) | ((with_reducible refine gate_callee (f := 27) rfl ?_); refine goesL_ (some 68) rfl rfl Tryd.func27 (by kernel_rfl) rfl #[.int .u64 t116, .int .u64 (IntKind.u64.wrap (x5_1 + (ji5)))] rfl (by (try simp only [List.map_toArray, List.map_cons, List.map_nil]); first | done | (simp only [hji5]; rfl) | rfl | (simp only [List.length_drop, List.length_take]; rfl)) ?_; (with_reducible refine (treenailref05_times.calls t116 (IntKind.u64.wrap (x5_1 + (ji5))) t122 t123 _ A10.out).mono ?_); rintro e w' ⟨rfl, ⟨nd, rfl⟩⟩; refine ⟨_, rfl, ?_⟩))
            (try simp only [Act.put, List.setIfInBounds_toArray, List.set_cons_zero, List.set_cons_succ])
            go_cut [17] (fun v17 wc => ∃ (kq : Nat) (x17_10 : Int), v17 = .int .u64 x17_10 ∧ Aside0 (treenailref05_root.j1 kq a0 true x5_1 x6_1 (IntKind.u64.wrap (x5_1 + (ji5))) t120 t121 t122 t123 (IntKind.u64.wrap (t119 + (IntKind.u64.wrap (t121 * 4294967296)))) x17_10 = some r) ∧ Aside0 (kq ≤ k1) ∧ Drawn0 w wc)
            case first =>
              have H := HC11.out
              clear HC11
              by_cases c12 : (IntKind.u64.wrap (t119 + (IntKind.u64.wrap (t121 * 4294967296)))) < (IntKind.u64.wrap (t121 * 4294967296))
              · rw [if_pos c12] at H
                have c12b0 : decide ((IntKind.u64.wrap (t119 + (IntKind.u64.wrap (t121 * 4294967296)))) < (IntKind.u64.wrap (t121 * 4294967296))) = true := decide_eq_true c12
                clear c12
                (first | rw [c12b0] | (simp only [i64_w, i32_w]; rw [c12b0]) | skip)
                have H' := Aside0.mk H
                clear H
                go_wp2
                go_meet
                case rel => exact ⟨_, (IntKind.u64.wrap (t118 + 1)), (by first | rfl | (simp; done) | (simp [*]; done)), H', ⟨by have := HK1.out; first | omega | exact Nat.le_refl _⟩, by repeat (first | exact Drawn0.refl _ | apply Drawn0.step)⟩
              · rw [if_neg c12] at H
                have c12b0 : decide ((IntKind.u64.wrap (t119 + (IntKind.u64.wrap (t121 * 4294967296)))) < (IntKind.u64.wrap (t121 * 4294967296))) = false := decide_eq_false c12
                clear c12
                (first | rw [c12b0] | (simp only [i64_w, i32_w]; rw [c12b0]) | skip)
                have H' := Aside0.mk H
                clear H
                go_wp2
                go_meet
                case rel => exact ⟨_, (t118), (by first | rfl | (simp; done) | (simp [*]; done)), H', ⟨by have := HK1.out; first | omega | exact Nat.le_refl _⟩, by repeat (first | exact Drawn0.refl _ | apply Drawn0.step)⟩
            case rest =>
              clear HC11
              try clear c1
              try clear c2
              try clear p2
              try clear c3
              try clear c3b0
              try clear c4
              try clear c4b0
              try clear c4b1
              try clear p6
              try clear c7
              try clear c12
              try clear c12b0
              try clear p2
              obtain ⟨kq, x17_10, rfl, HA, HJ10, ⟨mc10, rfl⟩⟩ := hcut
              cases kq with
              | zero => exact absurd HA.out (by simp [treenailref05_root.j1])
              | succ kj10 =>
                have H := HA.out
                clear HA
                simp only [treenailref05_root.j1] at H
                by_cases c13 : (IntKind.u64.wrap ((IntKind.u64.wrap ((IntKind.u64.wrap (x17_10 + (t121 / 4294967296))) + (IntKind.u64.wrap (t120 * 4294967296)))) + t123)) < (IntKind.u64.wrap ((IntKind.u64.wrap (x17_10 + (t121 / 4294967296))) + (IntKind.u64.wrap (t120 * 4294967296))))
                · rw [if_pos c13] at H
                  have c13b0 : decide ((IntKind.u64.wrap ((IntKind.u64.wrap ((IntKind.u64.wrap (x17_10 + (t121 / 4294967296))) + (IntKind.u64.wrap (t120 * 4294967296)))) + t123)) < (IntKind.u64.wrap ((IntKind.u64.wrap (x17_10 + (t121 / 4294967296))) + (IntKind.u64.wrap (t120 * 4294967296))))) = true := decide_eq_true c13
                  clear c13
                  by_cases c14 : (IntKind.u64.wrap ((IntKind.u64.wrap ((IntKind.u64.wrap (t122 + 1)) * 4294967296)) + ((IntKind.u64.wrap ((IntKind.u64.wrap ((IntKind.u64.wrap (x17_10 + (t121 / 4294967296))) + (IntKind.u64.wrap (t120 * 4294967296)))) + t123)) / 4294967296))) < a0
                  · rw [if_pos c14] at H
                    have c14b0 : decide ((IntKind.u64.wrap ((IntKind.u64.wrap ((IntKind.u64.wrap (t122 + 1)) * 4294967296)) + ((IntKind.u64.wrap ((IntKind.u64.wrap ((IntKind.u64.wrap (x17_10 + (t121 / 4294967296))) + (IntKind.u64.wrap (t120 * 4294967296)))) + t123)) / 4294967296))) < a0) = true := decide_eq_true c14
                    clear c14
                    have H' := Aside0.mk H
                    clear H
                    go_wp2
                    go_roundg kj10
                    case measure => have := HK1.out; have := HJ10.out; omega
                    case rel => exact ⟨((IntKind.u64.wrap (x5_1 + (ji5)))), (wrap64 (x6_1 - 1)), (by first | rfl | (simp; done) | (simp only [← hji5] <;> (first | rfl | simp)) | (simp [*]; done)), (by first | rfl | (simp; done) | (simp [*]; done)), H', ⟨by have := HK1.out; have := HJ10.out; omega⟩, by repeat (first | exact Drawn0.refl _ | apply Drawn0.step)⟩
                  · rw [if_neg c14] at H
                    have c14b0 : decide ((IntKind.u64.wrap ((IntKind.u64.wrap ((IntKind.u64.wrap (t122 + 1)) * 4294967296)) + ((IntKind.u64.wrap ((IntKind.u64.wrap ((IntKind.u64.wrap (x17_10 + (t121 / 4294967296))) + (IntKind.u64.wrap (t120 * 4294967296)))) + t123)) / 4294967296))) < a0) = false := decide_eq_false c14
                    clear c14
                    by_cases c15 : (IntKind.u64.wrap ((IntKind.u64.wrap ((IntKind.u64.wrap (t122 + 1)) * 4294967296)) + ((IntKind.u64.wrap ((IntKind.u64.wrap ((IntKind.u64.wrap (x17_10 + (t121 / 4294967296))) + (IntKind.u64.wrap (t120 * 4294967296)))) + t123)) / 4294967296))) = a0
                    · rw [if_pos c15] at H
                      have c15b0 : ((IntKind.u64.wrap ((IntKind.u64.wrap ((IntKind.u64.wrap (t122 + 1)) * 4294967296)) + ((IntKind.u64.wrap ((IntKind.u64.wrap ((IntKind.u64.wrap (x17_10 + (t121 / 4294967296))) + (IntKind.u64.wrap (t120 * 4294967296)))) + t123)) / 4294967296))) == a0) = true := beq_iff_eq.mpr c15
                      have c15b1 : ((IntKind.u64.wrap ((IntKind.u64.wrap ((IntKind.u64.wrap (t122 + 1)) * 4294967296)) + ((IntKind.u64.wrap ((IntKind.u64.wrap ((IntKind.u64.wrap (x17_10 + (t121 / 4294967296))) + (IntKind.u64.wrap (t120 * 4294967296)))) + t123)) / 4294967296))) != a0) = false := bne_eq_false_iff_eq.mpr c15
                      clear c15
                      by_cases c16 : (Go.bits .and .u64 (IntKind.u64.wrap ((IntKind.u64.wrap ((IntKind.u64.wrap (x17_10 + (t121 / 4294967296))) + (IntKind.u64.wrap (t120 * 4294967296)))) + t123)) 4294967295) = 0
                      · rw [if_pos c16] at H
                        have c16b0 : ((Go.bits .and .u64 (IntKind.u64.wrap ((IntKind.u64.wrap ((IntKind.u64.wrap (x17_10 + (t121 / 4294967296))) + (IntKind.u64.wrap (t120 * 4294967296)))) + t123)) 4294967295) == 0) = true := beq_iff_eq.mpr c16
                        have c16b1 : ((Go.bits .and .u64 (IntKind.u64.wrap ((IntKind.u64.wrap ((IntKind.u64.wrap (x17_10 + (t121 / 4294967296))) + (IntKind.u64.wrap (t120 * 4294967296)))) + t123)) 4294967295) != 0) = false := bne_eq_false_iff_eq.mpr c16
                        clear c16
                        by_cases c17 : (IntKind.u64.wrap (t119 + (IntKind.u64.wrap (t121 * 4294967296)))) = 0
                        · rw [if_pos c17] at H
                          have c17b0 : ((IntKind.u64.wrap (t119 + (IntKind.u64.wrap (t121 * 4294967296)))) == 0) = true := beq_iff_eq.mpr c17
                          have c17b1 : ((IntKind.u64.wrap (t119 + (IntKind.u64.wrap (t121 * 4294967296)))) != 0) = false := bne_eq_false_iff_eq.mpr c17
                          clear c17
                          have H' := Aside0.mk H
                          clear H
                          go_wp2
                          go_roundg kj10
                          case measure => have := HK1.out; have := HJ10.out; omega
                          case rel => exact ⟨((IntKind.u64.wrap (x5_1 + (ji5)))), (wrap64 (x6_1 - 1)), (by first | rfl | (simp; done) | (simp only [← hji5] <;> (first | rfl | simp)) | (simp [*]; done)), (by first | rfl | (simp; done) | (simp [*]; done)), H', ⟨by have := HK1.out; have := HJ10.out; omega⟩, by repeat (first | exact Drawn0.refl _ | apply Drawn0.step)⟩
                        · rw [if_neg c17] at H
                          have c17b0 : ((IntKind.u64.wrap (t119 + (IntKind.u64.wrap (t121 * 4294967296)))) == 0) = false := beq_eq_false_iff_ne.mpr c17
                          have c17b1 : ((IntKind.u64.wrap (t119 + (IntKind.u64.wrap (t121 * 4294967296)))) != 0) = true := bne_iff_ne.mpr c17
                          have H' := Aside0.mk H
                          clear H
                          go_wp2
                          go_roundg kj10
                          case measure => have := HK1.out; have := HJ10.out; omega
                          case rel => exact ⟨(x5_1), (wrap64 (x6_1 - 1)), (by first | rfl | (simp; done) | (simp [*]; done)), (by first | rfl | (simp; done) | (simp [*]; done)), H', ⟨by have := HK1.out; have := HJ10.out; omega⟩, by repeat (first | exact Drawn0.refl _ | apply Drawn0.step)⟩
                      · rw [if_neg c16] at H
                        have c16b0 : ((Go.bits .and .u64 (IntKind.u64.wrap ((IntKind.u64.wrap ((IntKind.u64.wrap (x17_10 + (t121 / 4294967296))) + (IntKind.u64.wrap (t120 * 4294967296)))) + t123)) 4294967295) == 0) = false := beq_eq_false_iff_ne.mpr c16
                        have c16b1 : ((Go.bits .and .u64 (IntKind.u64.wrap ((IntKind.u64.wrap ((IntKind.u64.wrap (x17_10 + (t121 / 4294967296))) + (IntKind.u64.wrap (t120 * 4294967296)))) + t123)) 4294967295) != 0) = true := bne_iff_ne.mpr c16
                        have H' := Aside0.mk H
                        clear H
                        go_wp2
                        go_roundg kj10
                        case measure => have := HK1.out; have := HJ10.out; omega
                        case rel => exact ⟨(x5_1), (wrap64 (x6_1 - 1)), (by first | rfl | (simp; done) | (simp [*]; done)), (by first | rfl | (simp; done) | (simp [*]; done)), H', ⟨by have := HK1.out; have := HJ10.out; omega⟩, by repeat (first | exact Drawn0.refl _ | apply Drawn0.step)⟩
                    · rw [if_neg c15] at H
                      have c15b0 : ((IntKind.u64.wrap ((IntKind.u64.wrap ((IntKind.u64.wrap (t122 + 1)) * 4294967296)) + ((IntKind.u64.wrap ((IntKind.u64.wrap ((IntKind.u64.wrap (x17_10 + (t121 / 4294967296))) + (IntKind.u64.wrap (t120 * 4294967296)))) + t123)) / 4294967296))) == a0) = false := beq_eq_false_iff_ne.mpr c15
                      have c15b1 : ((IntKind.u64.wrap ((IntKind.u64.wrap ((IntKind.u64.wrap (t122 + 1)) * 4294967296)) + ((IntKind.u64.wrap ((IntKind.u64.wrap ((IntKind.u64.wrap (x17_10 + (t121 / 4294967296))) + (IntKind.u64.wrap (t120 * 4294967296)))) + t123)) / 4294967296))) != a0) = true := bne_iff_ne.mpr c15
                      have H' := Aside0.mk H
                      clear H
                      go_wp2
                      go_roundg kj10
                      case measure => have := HK1.out; have := HJ10.out; omega
                      case rel => exact ⟨(x5_1), (wrap64 (x6_1 - 1)), (by first | rfl | (simp; done) | (simp [*]; done)), (by first | rfl | (simp; done) | (simp [*]; done)), H', ⟨by have := HK1.out; have := HJ10.out; omega⟩, by repeat (first | exact Drawn0.refl _ | apply Drawn0.step)⟩
                · rw [if_neg c13] at H
                  have c13b0 : decide ((IntKind.u64.wrap ((IntKind.u64.wrap ((IntKind.u64.wrap (x17_10 + (t121 / 4294967296))) + (IntKind.u64.wrap (t120 * 4294967296)))) + t123)) < (IntKind.u64.wrap ((IntKind.u64.wrap (x17_10 + (t121 / 4294967296))) + (IntKind.u64.wrap (t120 * 4294967296))))) = false := decide_eq_false c13
                  clear c13
                  by_cases c18 : (IntKind.u64.wrap ((IntKind.u64.wrap (t122 * 4294967296)) + ((IntKind.u64.wrap ((IntKind.u64.wrap ((IntKind.u64.wrap (x17_10 + (t121 / 4294967296))) + (IntKind.u64.wrap (t120 * 4294967296)))) + t123)) / 4294967296))) < a0
                  · rw [if_pos c18] at H
                    have c18b0 : decide ((IntKind.u64.wrap ((IntKind.u64.wrap (t122 * 4294967296)) + ((IntKind.u64.wrap ((IntKind.u64.wrap ((IntKind.u64.wrap (x17_10 + (t121 / 4294967296))) + (IntKind.u64.wrap (t120 * 4294967296)))) + t123)) / 4294967296))) < a0) = true := decide_eq_true c18
                    clear c18
                    have H' := Aside0.mk H
                    clear H
                    go_wp2
                    go_roundg kj10
                    case measure => have := HK1.out; have := HJ10.out; omega
                    case rel => exact ⟨((IntKind.u64.wrap (x5_1 + (ji5)))), (wrap64 (x6_1 - 1)), (by first | rfl | (simp; done) | (simp only [← hji5] <;> (first | rfl | simp)) | (simp [*]; done)), (by first | rfl | (simp; done) | (simp [*]; done)), H', ⟨by have := HK1.out; have := HJ10.out; omega⟩, by repeat (first | exact Drawn0.refl _ | apply Drawn0.step)⟩
                  · rw [if_neg c18] at H
                    have c18b0 : decide ((IntKind.u64.wrap ((IntKind.u64.wrap (t122 * 4294967296)) + ((IntKind.u64.wrap ((IntKind.u64.wrap ((IntKind.u64.wrap (x17_10 + (t121 / 4294967296))) + (IntKind.u64.wrap (t120 * 4294967296)))) + t123)) / 4294967296))) < a0) = false := decide_eq_false c18
                    clear c18
                    by_cases c19 : (IntKind.u64.wrap ((IntKind.u64.wrap (t122 * 4294967296)) + ((IntKind.u64.wrap ((IntKind.u64.wrap ((IntKind.u64.wrap (x17_10 + (t121 / 4294967296))) + (IntKind.u64.wrap (t120 * 4294967296)))) + t123)) / 4294967296))) = a0
                    · rw [if_pos c19] at H
                      have c19b0 : ((IntKind.u64.wrap ((IntKind.u64.wrap (t122 * 4294967296)) + ((IntKind.u64.wrap ((IntKind.u64.wrap ((IntKind.u64.wrap (x17_10 + (t121 / 4294967296))) + (IntKind.u64.wrap (t120 * 4294967296)))) + t123)) / 4294967296))) == a0) = true := beq_iff_eq.mpr c19
                      have c19b1 : ((IntKind.u64.wrap ((IntKind.u64.wrap (t122 * 4294967296)) + ((IntKind.u64.wrap ((IntKind.u64.wrap ((IntKind.u64.wrap (x17_10 + (t121 / 4294967296))) + (IntKind.u64.wrap (t120 * 4294967296)))) + t123)) / 4294967296))) != a0) = false := bne_eq_false_iff_eq.mpr c19
                      clear c19
                      by_cases c20 : (Go.bits .and .u64 (IntKind.u64.wrap ((IntKind.u64.wrap ((IntKind.u64.wrap (x17_10 + (t121 / 4294967296))) + (IntKind.u64.wrap (t120 * 4294967296)))) + t123)) 4294967295) = 0
                      · rw [if_pos c20] at H
                        have c20b0 : ((Go.bits .and .u64 (IntKind.u64.wrap ((IntKind.u64.wrap ((IntKind.u64.wrap (x17_10 + (t121 / 4294967296))) + (IntKind.u64.wrap (t120 * 4294967296)))) + t123)) 4294967295) == 0) = true := beq_iff_eq.mpr c20
                        have c20b1 : ((Go.bits .and .u64 (IntKind.u64.wrap ((IntKind.u64.wrap ((IntKind.u64.wrap (x17_10 + (t121 / 4294967296))) + (IntKind.u64.wrap (t120 * 4294967296)))) + t123)) 4294967295) != 0) = false := bne_eq_false_iff_eq.mpr c20
                        clear c20
                        by_cases c21 : (IntKind.u64.wrap (t119 + (IntKind.u64.wrap (t121 * 4294967296)))) = 0
                        · rw [if_pos c21] at H
                          have c21b0 : ((IntKind.u64.wrap (t119 + (IntKind.u64.wrap (t121 * 4294967296)))) == 0) = true := beq_iff_eq.mpr c21
                          have c21b1 : ((IntKind.u64.wrap (t119 + (IntKind.u64.wrap (t121 * 4294967296)))) != 0) = false := bne_eq_false_iff_eq.mpr c21
                          clear c21
                          have H' := Aside0.mk H
                          clear H
                          go_wp2
                          go_roundg kj10
                          case measure => have := HK1.out; have := HJ10.out; omega
                          case rel => exact ⟨((IntKind.u64.wrap (x5_1 + (ji5)))), (wrap64 (x6_1 - 1)), (by first | rfl | (simp; done) | (simp only [← hji5] <;> (first | rfl | simp)) | (simp [*]; done)), (by first | rfl | (simp; done) | (simp [*]; done)), H', ⟨by have := HK1.out; have := HJ10.out; omega⟩, by repeat (first | exact Drawn0.refl _ | apply Drawn0.step)⟩
                        · rw [if_neg c21] at H
                          have c21b0 : ((IntKind.u64.wrap (t119 + (IntKind.u64.wrap (t121 * 4294967296)))) == 0) = false := beq_eq_false_iff_ne.mpr c21
                          have c21b1 : ((IntKind.u64.wrap (t119 + (IntKind.u64.wrap (t121 * 4294967296)))) != 0) = true := bne_iff_ne.mpr c21
                          have H' := Aside0.mk H
                          clear H
                          go_wp2
                          go_roundg kj10
                          case measure => have := HK1.out; have := HJ10.out; omega
                          case rel => exact ⟨(x5_1), (wrap64 (x6_1 - 1)), (by first | rfl | (simp; done) | (simp [*]; done)), (by first | rfl | (simp; done) | (simp [*]; done)), H', ⟨by have := HK1.out; have := HJ10.out; omega⟩, by repeat (first | exact Drawn0.refl _ | apply Drawn0.step)⟩
                      · rw [if_neg c20] at H
                        have c20b0 : ((Go.bits .and .u64 (IntKind.u64.wrap ((IntKind.u64.wrap ((IntKind.u64.wrap (x17_10 + (t121 / 4294967296))) + (IntKind.u64.wrap (t120 * 4294967296)))) + t123)) 4294967295) == 0) = false := beq_eq_false_iff_ne.mpr c20
                        have c20b1 : ((Go.bits .and .u64 (IntKind.u64.wrap ((IntKind.u64.wrap ((IntKind.u64.wrap (x17_10 + (t121 / 4294967296))) + (IntKind.u64.wrap (t120 * 4294967296)))) + t123)) 4294967295) != 0) = true := bne_iff_ne.mpr c20
                        have H' := Aside0.mk H
                        clear H
                        go_wp2
                        go_roundg kj10
                        case measure => have := HK1.out; have := HJ10.out; omega
                        case rel => exact ⟨(x5_1), (wrap64 (x6_1 - 1)), (by first | rfl | (simp; done) | (simp [*]; done)), (by first | rfl | (simp; done) | (simp [*]; done)), H', ⟨by have := HK1.out; have := HJ10.out; omega⟩, by repeat (first | exact Drawn0.refl _ | apply Drawn0.step)⟩
                    · rw [if_neg c19] at H
                      have c19b0 : ((IntKind.u64.wrap ((IntKind.u64.wrap (t122 * 4294967296)) + ((IntKind.u64.wrap ((IntKind.u64.wrap ((IntKind.u64.wrap (x17_10 + (t121 / 4294967296))) + (IntKind.u64.wrap (t120 * 4294967296)))) + t123)) / 4294967296))) == a0) = false := beq_eq_false_iff_ne.mpr c19
                      have c19b1 : ((IntKind.u64.wrap ((IntKind.u64.wrap (t122 * 4294967296)) + ((IntKind.u64.wrap ((IntKind.u64.wrap ((IntKind.u64.wrap (x17_10 + (t121 / 4294967296))) + (IntKind.u64.wrap (t120 * 4294967296)))) + t123)) / 4294967296))) != a0) = true := bne_iff_ne.mpr c19
                      have H' := Aside0.mk H
                      clear H
                      go_wp2
                      go_roundg kj10
                      case measure => have := HK1.out; have := HJ10.out; omega
                      case rel => exact ⟨(x5_1), (wrap64 (x6_1 - 1)), (by first | rfl | (simp; done) | (simp [*]; done)), (by first | rfl | (simp; done) | (simp [*]; done)), H', ⟨by have := HK1.out; have := HJ10.out; omega⟩, by repeat (first | exact Drawn0.refl _ | apply Drawn0.step)⟩
          · replace c7 := Bool.eq_false_iff.mpr c7
            subst c7
            have H1 : (if t116 < a0 then (treenailref05_root.l0 k1 a0 false (IntKind.u64.wrap (x5_1 + (ji5))) (wrap64 (x6_1 - 1))) else (if t116 = a0 then (if t117 = 0 then (treenailref05_root.l0 k1 a0 false (IntKind.u64.wrap (x5_1 + (ji5))) (wrap64 (x6_1 - 1))) else (treenailref05_root.l0 k1 a0 false x5_1 (wrap64 (x6_1 - 1)))) else (treenailref05_root.l0 k1 a0 false x5_1 (wrap64 (x6_1 - 1))))) = some r := by rw [if_neg (show ¬ (false = true) by decide)] at H; exact H
            clear H
            have H := H1
            clear H1
            by_cases c22 : t116 < a0
            · rw [if_pos c22] at H
              have c22b0 : decide (t116 < a0) = true := decide_eq_true c22
              clear c22
              have H' := Aside0.mk H
              clear H
              go_wp2_with (first | ((with_reducible refine gate_callee (f := 27) rfl ?_); refine goesL_ (some 33) rfl rfl Tryd.func27 (by kernel_rfl) rfl #[.int .u64 (IntKind.u64.wrap (x5_1 + (ji5))), .int .u64 (IntKind.u64.wrap (x5_1 + (ji5)))] rfl (by (try simp only [List.map_toArray, List.map_cons, List.map_nil]); first | done | (simp only [hji5]; rfl) | rfl | (simp only [List.length_drop, List.length_take]; rfl)) ?_; (with_reducible refine (treenailref05_times.calls (IntKind.u64.wrap (x5_1 + (ji5))) (IntKind.u64.wrap (x5_1 + (ji5))) t116 t117 _ A6.out).mono ?_); rintro e w' ⟨rfl, ⟨nd, rfl⟩⟩; refine ⟨_, rfl, ?_⟩))
              go_roundg k1
              case measure => have := HK1.out; omega
              case rel => exact ⟨(IntKind.u64.wrap (x5_1 + (ji5))), (wrap64 (x6_1 - 1)), (by first | rfl | (simp; done) | (simp only [← hji5] <;> (first | rfl | simp)) | (simp [*]; done)), (by first | rfl | (simp; done) | (simp [*]; done)), H', ⟨by have := HK1.out; omega⟩, by repeat (first | exact Drawn0.refl _ | apply Drawn0.step)⟩
            · rw [if_neg c22] at H
              have c22b0 : decide (t116 < a0) = false := decide_eq_false c22
              clear c22
              by_cases c23 : t116 = a0
              · rw [if_pos c23] at H
                have c23b0 : (t116 == a0) = true := beq_iff_eq.mpr c23
                have c23b1 : (t116 != a0) = false := bne_eq_false_iff_eq.mpr c23
                clear c23
                by_cases c24 : t117 = 0
                · rw [if_pos c24] at H
                  have c24b0 : (t117 == 0) = true := beq_iff_eq.mpr c24
                  have c24b1 : (t117 != 0) = false := bne_eq_false_iff_eq.mpr c24
                  clear c24
                  have H' := Aside0.mk H
                  clear H
                  go_wp2_with (first | ((with_reducible refine gate_callee (f := 27) rfl ?_); refine goesL_ (some 33) rfl rfl Tryd.func27 (by kernel_rfl) rfl #[.int .u64 (IntKind.u64.wrap (x5_1 + (ji5))), .int .u64 (IntKind.u64.wrap (x5_1 + (ji5)))] rfl (by (try simp only [List.map_toArray, List.map_cons, List.map_nil]); first | done | (simp only [hji5]; rfl) | rfl | (simp only [List.length_drop, List.length_take]; rfl)) ?_; (with_reducible refine (treenailref05_times.calls (IntKind.u64.wrap (x5_1 + (ji5))) (IntKind.u64.wrap (x5_1 + (ji5))) t116 t117 _ A6.out).mono ?_); rintro e w' ⟨rfl, ⟨nd, rfl⟩⟩; refine ⟨_, rfl, ?_⟩))
                  go_roundg k1
                  case measure => have := HK1.out; omega
                  case rel => exact ⟨(IntKind.u64.wrap (x5_1 + (ji5))), (wrap64 (x6_1 - 1)), (by first | rfl | (simp; done) | (simp only [← hji5] <;> (first | rfl | simp)) | (simp [*]; done)), (by first | rfl | (simp; done) | (simp [*]; done)), H', ⟨by have := HK1.out; omega⟩, by repeat (first | exact Drawn0.refl _ | apply Drawn0.step)⟩
                · rw [if_neg c24] at H
                  have c24b0 : (t117 == 0) = false := beq_eq_false_iff_ne.mpr c24
                  have c24b1 : (t117 != 0) = true := bne_iff_ne.mpr c24
                  have H' := Aside0.mk H
                  clear H
                  go_wp2_with (first | ((with_reducible refine gate_callee (f := 27) rfl ?_); refine goesL_ (some 33) rfl rfl Tryd.func27 (by kernel_rfl) rfl #[.int .u64 (IntKind.u64.wrap (x5_1 + (ji5))), .int .u64 (IntKind.u64.wrap (x5_1 + (ji5)))] rfl (by (try simp only [List.map_toArray, List.map_cons, List.map_nil]); first | done | (simp only [hji5]; rfl) | rfl | (simp only [List.length_drop, List.length_take]; rfl)) ?_; (with_reducible refine (treenailref05_times.calls (IntKind.u64.wrap (x5_1 + (ji5))) (IntKind.u64.wrap (x5_1 + (ji5))) t116 t117 _ A6.out).mono ?_); rintro e w' ⟨rfl, ⟨nd, rfl⟩⟩; refine ⟨_, rfl, ?_⟩))
                  go_roundg k1
                  case measure => have := HK1.out; omega
                  case rel => exact ⟨(x5_1), (wrap64 (x6_1 - 1)), (by first | rfl | (simp; done) | (simp [*]; done)), (by first | rfl | (simp; done) | (simp [*]; done)), H', ⟨by have := HK1.out; omega⟩, by repeat (first | exact Drawn0.refl _ | apply Drawn0.step)⟩
              · rw [if_neg c23] at H
                have c23b0 : (t116 == a0) = false := beq_eq_false_iff_ne.mpr c23
                have c23b1 : (t116 != a0) = true := bne_iff_ne.mpr c23
                have H' := Aside0.mk H
                clear H
                go_wp2_with (first | ((with_reducible refine gate_callee (f := 27) rfl ?_); refine goesL_ (some 33) rfl rfl Tryd.func27 (by kernel_rfl) rfl #[.int .u64 (IntKind.u64.wrap (x5_1 + (ji5))), .int .u64 (IntKind.u64.wrap (x5_1 + (ji5)))] rfl (by (try simp only [List.map_toArray, List.map_cons, List.map_nil]); first | done | (simp only [hji5]; rfl) | rfl | (simp only [List.length_drop, List.length_take]; rfl)) ?_; (with_reducible refine (treenailref05_times.calls (IntKind.u64.wrap (x5_1 + (ji5))) (IntKind.u64.wrap (x5_1 + (ji5))) t116 t117 _ A6.out).mono ?_); rintro e w' ⟨rfl, ⟨nd, rfl⟩⟩; refine ⟨_, rfl, ?_⟩))
                go_roundg k1
                case measure => have := HK1.out; omega
                case rel => exact ⟨(x5_1), (wrap64 (x6_1 - 1)), (by first | rfl | (simp; done) | (simp [*]; done)), (by first | rfl | (simp; done) | (simp [*]; done)), H', ⟨by have := HK1.out; omega⟩, by repeat (first | exact Drawn0.refl _ | apply Drawn0.step)⟩
        · rw [if_neg c4] at H
          exact absurd H (by simp)
      · rw [if_neg c3] at H
        have c3b0 : decide (0 ≤ x6_1) = false := decide_eq_false c3
        clear c3
        obtain rfl := Option.some.inj H
        go_wp2
        go_ret
        exact ⟨by first | rfl | (simp; done) | (simp [*]; done), by repeat (first | exact Drawn0.refl _ | apply Drawn0.step)⟩

end Go.Proofs.YtimdbnhgoekflaaDoor.PHashShas
