-- printed by wip/xprint.py, a program of ours over the kit's print. Not trusted: Lean checks it.
import Derived.Test.YtolflieiipnndaaMg23
import Derived.Test.YtolflieiipnndaaMg25
namespace Go.Proofs.Ytolflieiipnndaa.X
open Go.RowKit Go.Proofs.YtolflieiipnndaaW.PrintWords Go.Proofs.YtolflieiipnndaaW.PrintLast Go.Proofs.YtolflieiipnndaaW.PrintMore
attribute [local go_sem] max2_int min2_int max_two min_two max_three min_three max_four min_four   -- for this text's walks alone
set_option linter.unusedVariables false
set_option linter.unusedSimpArgs false

attribute [local go_sem] eql_code neq_code eql_nil_code neq_nil_code
/-! ### treenaillaw01_copied: function 11 -/
def treenaillaw01_copied.f (l0 : List Int) : Option (List Int) := (some (([] : List Int) : List Int)).bind fun y101 => (if y101.length + l0.length < 17592186044416 then (some (y101 ++ l0)) else (none))
set_option maxHeartbeats 8000000 in
set_option maxRecDepth 100000 in
theorem treenaillaw01_copied.calls (A0 : Option Addr) (c0 : Nat) (l0 : List Int) (r : List Int) (w : World) (hr0 : Kd.C (Kd.int .u64) w A0 l0.length l0) (hc0 : l0.length ≤ c0) (h : treenaillaw01_copied.f l0 = some r) :
  Calls Try.prog 11 #[.slice A0 l0.length c0] w fun e w' => ∃ v0_ : Value, e = .returned (v0_) ∧ Kd.R (Kd.int .u64) 46 w' w.heap.size (fun _ => True) v0_ r ∧ Below w.heap.size w w' := by
 have HR0 := aM hr0
 have HC0 := aM hc0
 clear hr0 hc0
 have HB := aM (Below.refl w.heap.size w)
 have H : ((some (([] : List Int) : List Int)).bind fun y101 => (if y101.length + l0.length < 17592186044416 then (some (y101 ++ l0)) else (none))) = some r := h
 clear h
 obtain ⟨y101, hy101⟩ : ∃ y_ : List Int, y_ = (([] : List Int)) := ⟨_, rfl⟩
 replace H : (if y101.length + l0.length < 17592186044416 then (some (y101 ++ l0)) else (none)) = some r := by first | (rw [hy101]; with_reducible exact H) | (have H2_ := (Option.bind_some _ _).symm.trans H; rw [hy101]; with_reducible exact H2_) | (have H2_ := (Option.bind_some _ _).symm.trans H; with_reducible exact H2_) | with_reducible exact H | (rw [hy101]; exact H) | exact H
 have Ny101 := aM hy101
 clear hy101
 by_cases c2 : y101.length + l0.length < 17592186044416
 ·rw [if_pos c2] at H
  have LMc2 := aM c2
  clear c2
  obtain ⟨y104, hy104⟩ : ∃ y_ : List Int, y_ = (y101 ++ l0) := ⟨_, rfl⟩
  replace H : (some y104) = some r := by first | (rw [hy104]; with_reducible exact H) | (have H2_ := (Option.bind_some _ _).symm.trans H; rw [hy104]; with_reducible exact H2_) | (have H2_ := (Option.bind_some _ _).symm.trans H; with_reducible exact H2_) | with_reducible exact H | (rw [hy104]; exact H) | exact H
  have Ny104 := aM hy104
  clear hy104
  obtain rfl := Option.some.inj H
  go_enter Try.func11, Try.ntmps11
  go_wp2_with (first | ((with_reducible refine gate_dst (N := 3) rfl ?_); refine Kd.R_lit (Kd.int .u64) _ 46 ?hg (N := 3) ?hd (xs := ([] : List Int)) (inner := []) (ok := fun _ => True) (okp := fun _ => True) ?hr ?hp (fun _ hk => hk) trivial (Below.refl _ _) (Nat.le_refl _) (by simp) ?_; (case hd => rfl); (case hg => rfl); (case hr => first | (go_simp; done) | (go_simp; rfl)); (case hp => exact (Reps.none _ _)); intro v102 w3 ho4 hb hg_ hnew_; clear hg_ hnew_; (first | rw [← Ny101.out] at ho4 | (simp only [Int.reduceToNat] at ho4; rw [← Ny101.out] at ho4)); have n0_ := aM (Kd.R_lower ho4 (below_size (by repeat (first | (with_reducible first | exact HB.out | apply bA | apply bN | apply bD) | exact HB.out)))); have n1_ := aM (below_step (by repeat (first | (with_reducible first | exact HB.out | apply bA | apply bN | apply bD) | exact HB.out)) hb); clear HB; have HO103 := n0_; have HB := n1_; clear n0_ n1_; clear hb ho4) | ((with_reducible refine gate_builtin (b := .append) (xs := #[.tmp 3, .tmp 4]) rfl ?_); at_builtin; refine Kd.R_append_rows (Kd.int .u64) (w0 := w) w.heap.size rfl (.tmp 3) (.tmp 4) 23 46 (.int .u64 0) 8 rfl Try.underlying23 info46 rfl (by decide) (by omega) v102 y101 l0 _ _ _ (fun _ => True) (fun _ => False) rfl rfl ?aO ?aR (fun _ _ h => h) (fun _ h => h.elim) ?aF ?aB ?aS ?aL ?_; (case aR => repeat (first | exact (Kd.C_below HR0.out HB.out) | (with_reducible refine Kd.C_alloc ?_ _) | (with_reducible refine Kd.C_drewN ?_ _) | (with_reducible refine Kd.C_drew ?_))); (case aB => exact (by repeat (first | (with_reducible first | exact HB.out | apply bA | apply bN | apply bD) | exact HB.out))); (case aF => exact (fun _ _ => trivial)); (case aO => exact (by (with_reducible repeat (first | apply rA | apply rN | apply rD)); exact HO103.out)); (case aS => exact (below_size (by repeat (first | (with_reducible first | exact HB.out | apply bA | apply bN | apply bD) | exact HB.out)))); (case aL => have := LMc2.out; omega); intro v105 w5 ho hb hg hat; rw [← Ny104.out] at ho; have n0_ := aM (hb); have n1_ := aM (ho); clear HB; clear HO103; have HB := n0_; have HO106 := n1_; clear n0_ n1_; clear ho hb hg hat))
  go_ret
  exact ⟨_, by first | rfl | (simp [errW_none, errW_some] <;> rfl) | (simp [*, errW_none, errW_some] <;> rfl), by (with_reducible repeat (first | apply rA | apply rN | apply rD)); exact HO106.out, by repeat (first | (with_reducible first | exact HB.out | apply bA | apply bN | apply bD) | exact HB.out)⟩
 ·rw [if_neg c2] at H
  exact absurd H (by simp)

/-! ### nat_trim: function 40 -/
def nat_trim.l0 : Nat → List Int → Int → Option (List Int)
 | 0, _, _ => none
 | k + 1, x0, x3 => if x3 > 0 then (if 0 ≤ (wrap64 (x3 - 1)) then (if (wrap64 (x3 - 1)) < (x0.length : Int) then (if (rd x0 (wrap64 (x3 - 1))) = 0 then (nat_trim.l0 k x0 (wrap64 (x3 - 1))) else (if 0 ≤ x3 then (if x3 ≤ (x0.length : Int) then (some (x0.take (x3 : Int).toNat)) else (none)) else (none))) else (none)) else (none)) else (if 0 ≤ x3 then (if x3 ≤ (x0.length : Int) then (some (x0.take (x3 : Int).toNat)) else (none)) else (none))
def nat_trim.f (k : Nat) (l0 : List Int) : Option (List Int) := nat_trim.l0 k l0 (l0.length : Int)
set_option maxHeartbeats 8000000 in
set_option maxRecDepth 100000 in
theorem nat_trim.calls (k : Nat) (P0_ : Nat → Prop) (A0 : Option Addr) (c0 : Nat) (l0 : List Int) (r : List Int) (w : World) (hs0 : Kd.V (Kd.int .u64) 46 w w.heap.size (fun k_ => P0_ k_) (.slice A0 l0.length c0) l0) (h : nat_trim.f k l0 = some r) :
  Calls Try.prog 40 #[.slice A0 l0.length c0] w fun e w' => ∃ v0_ : Value, e = .returned (v0_) ∧ Kd.V (Kd.int .u64) 46 w' w.heap.size (fun k_ => (P0_ k_ ∨ w.heap.size ≤ k_)) v0_ r ∧ Below w.heap.size w w' := by
 have HO0 := aM (show Kd.V (Kd.int .u64) 46 w w.heap.size (fun k_ => (P0_ k_ ∨ w.heap.size ≤ k_)) (.slice A0 l0.length c0) l0 from Kd.V_mono hs0 (fun k_ hk => .inl hk))
 have HB := aM (Below.refl w.heap.size w)
 have H : (nat_trim.l0 k l0 (l0.length : Int)) = some r := h
 clear h
 have H' := aM H
 clear H
 go_enter Try.func40, Try.ntmps40
 go_wp2
 go_loopg [3] k (fun kq v3 w' => ∃ (x3_1 : Int), v3 = .int .i64 x3_1 ∧ Aside0 (nat_trim.l0 kq l0 x3_1 = some r) ∧ Aside0 (kq ≤ k) ∧ Aside0 (Kd.V (Kd.int .u64) 46 w' w.heap.size (fun k_ => (P0_ k_ ∨ w.heap.size ≤ k_)) (.slice A0 l0.length c0) l0) ∧ Aside0 (Below w.heap.size w w'))
 case atStart => exact ⟨((l0.length : Int)), (by first | rfl | (simp; done) | (simp [*]; done)), H', ⟨Nat.le_refl _⟩, ⟨by (with_reducible repeat (first | apply vA | apply vN | apply vD)); exact HO0.out⟩, ⟨by repeat (first | (with_reducible first | exact HB.out | apply bA | apply bN | apply bD) | exact HB.out)⟩⟩
 case round =>
  clear H'
  obtain ⟨x3_1, rfl, HA, HK1, HO_0, HB⟩ := hrel
  cases gk with
  | zero => exact absurd HA.out (by simp [nat_trim.l0])
  | succ k1 =>
   have H := HA.out
   clear HA
   simp only [nat_trim.l0] at H
   by_cases c2 : x3_1 > 0
   ·rw [if_pos c2] at H
    have c2b0 : decide (0 < x3_1) = true := decide_eq_true c2
    clear c2
    obtain ⟨ji3, hji3⟩ : ∃ j_ : Int, (wrap64 (x3_1 - 1)) = j_ := ⟨_, rfl⟩
    replace H : (if 0 ≤ (ji3) then (if (ji3) < (l0.length : Int) then (if (rd l0 (ji3)) = 0 then (nat_trim.l0 k1 l0 ji3) else (if 0 ≤ x3_1 then (if x3_1 ≤ (l0.length : Int) then (some (l0.take (x3_1 : Int).toNat)) else (none)) else (none))) else (none)) else (none)) = some r := by first | (rw [hji3] at H; exact H) | (simp only [hji3] at H ⊢; exact H)
    have hji3w : (IntKind.i64.wrap (x3_1 - 1)) = ji3 := (i64_w _).trans hji3
    by_cases c4 : 0 ≤ (ji3)
    ·rw [if_pos c4] at H
     have c4b0 : decide (0 ≤ (ji3)) = true := decide_eq_true c4
     clear c4
     by_cases c5 : (ji3) < (l0.length : Int)
     ·rw [if_pos c5] at H
      have c5b0 : decide ((ji3) < (l0.length : Int)) = true := decide_eq_true c5
      clear c5
      by_cases c6 : (rd l0 (ji3)) = 0
      ·rw [if_pos c6] at H
       have c6b0 : ((rd l0 (ji3)) == 0) = true := beq_iff_eq.mpr c6
       have c6b1 : ((rd l0 (ji3)) != 0) = false := bne_eq_false_iff_eq.mpr c6
       clear c6
       have H' := aM H
       clear H
       have p107 : 0 ≤ ((ji3) : Int) := of_decide_eq_true (by first | (with_reducible assumption) | assumption)
       have q107 : (ji3) < (l0.length : Int) := of_decide_eq_true (by first | (with_reducible assumption) | assumption)
       obtain ⟨ad107, e107, hx107_0⟩ := Kd.at_int (Kd.V_reads' HO_0.out).2.2 (ji3) p107 q107
       cases e107
       replace p107 := eq_true p107
       replace q107 := eq_true q107
       go_wp2
       go_roundg k1
       case measure => have := HK1.out; omega
       case rel => exact ⟨(ji3), (by first | rfl | (simp; done) | (simp only [← hji3] <;> (first | rfl | simp)) | (simp [*]; done)), H', ⟨by have := HK1.out; omega⟩, ⟨by (with_reducible repeat (first | apply vA | apply vN | apply vD)); exact HO_0.out⟩, ⟨by repeat (first | (with_reducible first | exact HB.out | apply bA | apply bN | apply bD) | exact HB.out)⟩⟩
      ·rw [if_neg c6] at H
       have c6b0 : ((rd l0 (ji3)) == 0) = false := beq_eq_false_iff_ne.mpr c6
       have c6b1 : ((rd l0 (ji3)) != 0) = true := bne_iff_ne.mpr c6
       by_cases c7 : 0 ≤ x3_1
       ·rw [if_pos c7] at H
        have c7b0 := eq_true c7
        have c7b1 : decide (0 ≤ x3_1) = true := decide_eq_true c7
        clear c7
        by_cases c8 : x3_1 ≤ (l0.length : Int)
        ·rw [if_pos c8] at H
         have c8b0 := eq_true c8
         have c8b1 : decide (x3_1 ≤ (l0.length : Int)) = true := decide_eq_true c8
         clear c8
         obtain ⟨y108, hy108⟩ : ∃ y_ : List Int, y_ = (l0.take (x3_1 : Int).toNat) := ⟨_, rfl⟩
         replace H : (some y108) = some r := by first | (rw [hy108]; with_reducible exact H) | (have H2_ := (Option.bind_some _ _).symm.trans H; rw [hy108]; with_reducible exact H2_) | (have H2_ := (Option.bind_some _ _).symm.trans H; with_reducible exact H2_) | with_reducible exact H | (rw [hy108]; exact H) | exact H
         have Ny108 := aM hy108
         clear hy108
         obtain rfl := Option.some.inj H
         have p107 : 0 ≤ ((ji3) : Int) := of_decide_eq_true (by first | (with_reducible assumption) | assumption)
         have q107 : (ji3) < (l0.length : Int) := of_decide_eq_true (by first | (with_reducible assumption) | assumption)
         obtain ⟨ad107, e107, hx107_0⟩ := Kd.at_int (Kd.V_reads' HO_0.out).2.2 (ji3) p107 q107
         cases e107
         replace p107 := eq_true p107
         replace q107 := eq_true q107
         have q9 : (x3_1 : Int) ≤ ((l0.length : Int) : Int) := of_decide_eq_true (by first | (with_reducible assumption) | assumption)
         obtain ⟨i09, hi09, _, hsz9, _⟩ := info_parts info46
         have hroom9 : l0.length ≤ c0 := (Kd.V_reads' HO_0.out).2.1
         have hC9 : Kd.F (Kd.int .u64) _ _ (some ad107) l0.length l0 := (Kd.V_at (base := w.heap.size) HO_0.out).2.2
         have hcut9 := cut_to (P := Try.prog) 23 46 .i64 Try.underlying23 hi09 (some ad107) l0.length c0 x3_1 (of_decide_eq_true (by first | (with_reducible assumption) | assumption)) q9 hroom9
         have hr9 := Kd.F_take (m := (x3_1 : Int).toNat) hC9 (by omega)
         have hy9 : y108.length = (x3_1 : Int).toNat := (by rw [Ny108.out, List.length_take]; omega)
         rw [← Ny108.out] at hr9
         rw [← hy9] at hcut9
         have HO112 := aM (show Kd.V (Kd.int .u64) 46 _ w.heap.size _ (.slice (some ad107) y108.length c0) y108 from Kd.V_mk (by omega) hr9)
         have HC112 := aM (show y108.length ≤ c0 from by omega)
         clear hr9 hC9 hroom9 hi09 hsz9
         have KY9 := aM hy9
         clear hy9
         replace q9 := eq_true q9
         go_wp2
         go_ret
         exact ⟨_, by first | rfl | (simp [errW_none, errW_some] <;> rfl) | (simp only [← hji3]; first | rfl | (simp [errW_none, errW_some] <;> rfl)) | (simp [*, errW_none, errW_some] <;> rfl), by (with_reducible repeat (first | apply vA | apply vN | apply vD)); exact HO112.out, by repeat (first | (with_reducible first | exact HB.out | apply bA | apply bN | apply bD) | exact HB.out)⟩
        ·rw [if_neg c8] at H
         exact absurd H (by simp)
       ·rw [if_neg c7] at H
        exact absurd H (by simp)
     ·rw [if_neg c5] at H
      exact absurd H (by simp)
    ·rw [if_neg c4] at H
     exact absurd H (by simp)
   ·rw [if_neg c2] at H
    have c2b0 : decide (0 < x3_1) = false := decide_eq_false c2
    clear c2
    by_cases c10 : 0 ≤ x3_1
    ·rw [if_pos c10] at H
     have c10b0 := eq_true c10
     have c10b1 : decide (0 ≤ x3_1) = true := decide_eq_true c10
     clear c10
     by_cases c11 : x3_1 ≤ (l0.length : Int)
     ·rw [if_pos c11] at H
      have c11b0 := eq_true c11
      have c11b1 : decide (x3_1 ≤ (l0.length : Int)) = true := decide_eq_true c11
      clear c11
      obtain ⟨y113, hy113⟩ : ∃ y_ : List Int, y_ = (l0.take (x3_1 : Int).toNat) := ⟨_, rfl⟩
      replace H : (some y113) = some r := by first | (rw [hy113]; with_reducible exact H) | (have H2_ := (Option.bind_some _ _).symm.trans H; rw [hy113]; with_reducible exact H2_) | (have H2_ := (Option.bind_some _ _).symm.trans H; with_reducible exact H2_) | with_reducible exact H | (rw [hy113]; exact H) | exact H
      have Ny113 := aM hy113
      clear hy113
      obtain rfl := Option.some.inj H
      have q12 : (x3_1 : Int) ≤ ((l0.length : Int) : Int) := of_decide_eq_true (by first | (with_reducible assumption) | assumption)
      obtain ⟨i012, hi012, _, hsz12, _⟩ := info_parts info46
      have hroom12 : l0.length ≤ c0 := (Kd.V_reads' HO_0.out).2.1
      have hC12 : Kd.F (Kd.int .u64) _ _ A0 l0.length l0 := (Kd.V_at (base := w.heap.size) HO_0.out).2.2
      have hcut12 := cut_to (P := Try.prog) 23 46 .i64 Try.underlying23 hi012 A0 l0.length c0 x3_1 (of_decide_eq_true (by first | (with_reducible assumption) | assumption)) q12 hroom12
      have hr12 := Kd.F_take (m := (x3_1 : Int).toNat) hC12 (by omega)
      have hy12 : y113.length = (x3_1 : Int).toNat := (by rw [Ny113.out, List.length_take]; omega)
      rw [← Ny113.out] at hr12
      rw [← hy12] at hcut12
      have HO117 := aM (show Kd.V (Kd.int .u64) 46 _ w.heap.size _ (.slice A0 y113.length c0) y113 from Kd.V_mk (by omega) hr12)
      have HC117 := aM (show y113.length ≤ c0 from by omega)
      clear hr12 hC12 hroom12 hi012 hsz12
      have KY12 := aM hy12
      clear hy12
      replace q12 := eq_true q12
      go_wp2
      go_ret
      exact ⟨_, by first | rfl | (simp [errW_none, errW_some] <;> rfl) | (simp [*, errW_none, errW_some] <;> rfl), by (with_reducible repeat (first | apply vA | apply vN | apply vD)); exact HO117.out, by repeat (first | (with_reducible first | exact HB.out | apply bA | apply bN | apply bD) | exact HB.out)⟩
     ·rw [if_neg c11] at H
      exact absurd H (by simp)
    ·rw [if_neg c10] at H
     exact absurd H (by simp)

/-! ### nat_both: function 38 -/
def nat_both.f (k : Nat) (l0 : List Int) (l1 : List Int) : Option (List Int × List Int × Option Int) := (nat_trim.f k l0).bind fun t118 => ((nat_trim.f k l1).bind fun t121 => (if (t118.length : Int) > 64 then (some (([] : List Int), ([] : List Int), some 2)) else (if (t121.length : Int) > 64 then (some (([] : List Int), ([] : List Int), some 2)) else (some (t118, t121, none)))))
set_option maxHeartbeats 8000000 in
set_option maxRecDepth 100000 in
theorem nat_both.calls (k : Nat) (P0_ : Nat → Prop) (A0 : Option Addr) (c0 : Nat) (l0 : List Int) (P1_ : Nat → Prop) (A1 : Option Addr) (c1 : Nat) (l1 : List Int) (r1 : List Int) (r2 : List Int) (r3 : Option Int) (w : World) (hs0 : Kd.V (Kd.int .u64) 46 w w.heap.size (fun k_ => P0_ k_) (.slice A0 l0.length c0) l0) (hs1 : Kd.V (Kd.int .u64) 46 w w.heap.size (fun k_ => P1_ k_) (.slice A1 l1.length c1) l1) (h : nat_both.f k l0 l1 = some (r1, r2, r3)) :
  Calls Try.prog 38 #[.slice A0 l0.length c0, .slice A1 l1.length c1] w fun e w' => ∃ v0_ v1_ : Value, e = .returned (.tuple #[v0_, v1_, errW r3]) ∧ Kd.V (Kd.int .u64) 46 w' w.heap.size (fun k_ => ((P0_ k_ ∨ P1_ k_) ∨ w.heap.size ≤ k_)) v0_ r1 ∧ Kd.V (Kd.int .u64) 46 w' w.heap.size (fun k_ => ((P0_ k_ ∨ P1_ k_) ∨ w.heap.size ≤ k_)) v1_ r2 ∧ Below w.heap.size w w' := by
 have hu27 := Try.underlying27
 have hu32 := Try.underlying32
 have HO0 := aM (show Kd.V (Kd.int .u64) 46 w w.heap.size (fun k_ => ((P0_ k_ ∨ P1_ k_) ∨ w.heap.size ≤ k_)) (.slice A0 l0.length c0) l0 from Kd.V_mono hs0 (fun k_ hk => .inl (.inl hk)))
 have HO1 := aM (show Kd.V (Kd.int .u64) 46 w w.heap.size (fun k_ => ((P0_ k_ ∨ P1_ k_) ∨ w.heap.size ≤ k_)) (.slice A1 l1.length c1) l1 from Kd.V_mono hs1 (fun k_ hk => .inl (.inr hk)))
 have HB := aM (Below.refl w.heap.size w)
 have H : ((nat_trim.f k l0).bind fun t118 => ((nat_trim.f k l1).bind fun t121 => (if (t118.length : Int) > 64 then (some (([] : List Int), ([] : List Int), some 2)) else (if (t121.length : Int) > 64 then (some (([] : List Int), ([] : List Int), some 2)) else (some (t118, t121, none)))))) = some (r1, r2, r3) := h
 clear h
 replace H := Option.bind_eq_some_iff.mp H
 obtain ⟨t118, A30, H⟩ := H
 replace H : ((nat_trim.f k l1).bind fun t121 => (if (t118.length : Int) > 64 then (some (([] : List Int), ([] : List Int), some 2)) else (if (t121.length : Int) > 64 then (some (([] : List Int), ([] : List Int), some 2)) else (some (t118, t121, none))))) = some (r1, r2, r3) := H
 have A3 := aM A30
 clear A30
 replace H := Option.bind_eq_some_iff.mp H
 obtain ⟨t121, A40, H⟩ := H
 replace H : (if (t118.length : Int) > 64 then (some (([] : List Int), ([] : List Int), some 2)) else (if (t121.length : Int) > 64 then (some (([] : List Int), ([] : List Int), some 2)) else (some (t118, t121, none)))) = some (r1, r2, r3) := H
 have A4 := aM A40
 clear A40
 by_cases c5 : (t118.length : Int) > 64
 ·rw [if_pos c5] at H
  have c5b0 : decide (64 < (t118.length : Int)) = true := decide_eq_true c5
  have c5b1 : decide (64 < t118.length) = true := decide_eq_true (by omega)
  clear c5
  simp only [Option.some.injEq, Prod.mk.injEq] at H
  obtain ⟨rfl, rfl, rfl⟩ := H
  go_enter Try.func38, Try.ntmps38
  go_wp2_with (first | ((with_reducible refine gate_callee (f := 40) rfl ?_); refine goesL_ (some 8) rfl rfl Try.func40 (by kernel_rfl) rfl #[.slice A0 l0.length c0] rfl (by (try simp only [mapA, mapB, mapC]); first | done | rfl | (simp only [lD, lT]; rfl) | (simp only [ge_iff_le, gt_iff_lt, *]; rfl)) ?_; (with_reducible refine (nat_trim.calls k (fun k_ => ((P0_ k_ ∨ P1_ k_) ∨ w.heap.size ≤ k_)) _ _ l0 t118 _ ?side1 A3.out).mono ?_); (case side1 => exact HO0.out); rintro e w6 ⟨v119, rfl, ho0, hb⟩; refine ⟨_, rfl, ?_⟩; have n0_ := aM (Kd.V_below (by (with_reducible repeat (first | apply vA | apply vN | apply vD)); exact HO0.out) hb); have n1_ := aM (Kd.V_below (by (with_reducible repeat (first | apply vA | apply vN | apply vD)); exact HO1.out) hb); have n2_ := aM (Kd.V_lower (Kd.V_mono (ok' := fun k_ => ((P0_ k_ ∨ P1_ k_) ∨ w.heap.size ≤ k_)) ho0 (fun k_ hk_ => Or.elim hk_ (fun hs_ => hs_) (fun hn_ => (.inr (Nat.le_trans (below_size (by repeat (first | (with_reducible first | exact HB.out | apply bA | apply bN | apply bD) | exact HB.out))) hn_))))) (below_size (by repeat (first | (with_reducible first | exact HB.out | apply bA | apply bN | apply bD) | exact HB.out)))); have n3_ := aM (below_step (by repeat (first | (with_reducible first | exact HB.out | apply bA | apply bN | apply bD) | exact HB.out)) hb); clear HO0; clear HO1; clear HB; have HO0 := n0_; have HO1 := n1_; have HO120 := n2_; have HB := n3_; clear n0_ n1_ n2_ n3_; (try clear hb); (try clear hb2); (try clear hk); (try clear hi); (try clear ho0)) | ((with_reducible refine gate_callee (f := 40) rfl ?_); refine goesL_ (some 10) rfl rfl Try.func40 (by kernel_rfl) rfl #[.slice A1 l1.length c1] rfl (by (try simp only [mapA, mapB, mapC]); first | done | rfl | (simp only [lD, lT]; rfl) | (simp only [ge_iff_le, gt_iff_lt, *]; rfl)) ?_; (with_reducible refine (nat_trim.calls k (fun k_ => ((P0_ k_ ∨ P1_ k_) ∨ w.heap.size ≤ k_)) _ _ l1 t121 _ ?side1 A4.out).mono ?_); (case side1 => exact HO1.out); rintro e w7 ⟨v122, rfl, ho0, hb⟩; refine ⟨_, rfl, ?_⟩; have n0_ := aM (Kd.V_below (by (with_reducible repeat (first | apply vA | apply vN | apply vD)); exact HO0.out) hb); have n1_ := aM (Kd.V_below (by (with_reducible repeat (first | apply vA | apply vN | apply vD)); exact HO1.out) hb); have n2_ := aM (Kd.V_below (by (with_reducible repeat (first | apply vA | apply vN | apply vD)); exact HO120.out) hb); have n3_ := aM (Kd.V_lower (Kd.V_mono (ok' := fun k_ => ((P0_ k_ ∨ P1_ k_) ∨ w.heap.size ≤ k_)) ho0 (fun k_ hk_ => Or.elim hk_ (fun hs_ => hs_) (fun hn_ => (.inr (Nat.le_trans (below_size (by repeat (first | (with_reducible first | exact HB.out | apply bA | apply bN | apply bD) | exact HB.out))) hn_))))) (below_size (by repeat (first | (with_reducible first | exact HB.out | apply bA | apply bN | apply bD) | exact HB.out)))); have n4_ := aM (below_step (by repeat (first | (with_reducible first | exact HB.out | apply bA | apply bN | apply bD) | exact HB.out)) hb); clear HO0; clear HO1; clear HO120; clear HB; have HO0 := n0_; have HO1 := n1_; have HO120 := n2_; have HO123 := n3_; have HB := n4_; clear n0_ n1_ n2_ n3_ n4_; (try clear hb); (try clear hb2); (try clear hk); (try clear hi); (try clear ho0); obtain ⟨Ao8, co8, eo8⟩ := Kd.V_slice HO120.out; subst eo8))
  go_ret3
  exact ⟨_, _, by first | rfl | (simp [errW_none, errW_some] <;> rfl) | (simp [*, errW_none, errW_some] <;> rfl), Kd.V_nil _ _ _ _ _, Kd.V_nil _ _ _ _ _, by repeat (first | (with_reducible first | exact HB.out | apply bA | apply bN | apply bD) | exact HB.out)⟩
 ·rw [if_neg c5] at H
  have c5b0 : decide (64 < (t118.length : Int)) = false := decide_eq_false c5
  have c5b1 : decide (64 < t118.length) = false := decide_eq_false (by omega)
  clear c5
  by_cases c9 : (t121.length : Int) > 64
  ·rw [if_pos c9] at H
   have c9b0 : decide (64 < (t121.length : Int)) = true := decide_eq_true c9
   have c9b1 : decide (64 < t121.length) = true := decide_eq_true (by omega)
   clear c9
   simp only [Option.some.injEq, Prod.mk.injEq] at H
   obtain ⟨rfl, rfl, rfl⟩ := H
   go_enter Try.func38, Try.ntmps38
   go_wp2_with (first | ((with_reducible refine gate_callee (f := 40) rfl ?_); refine goesL_ (some 8) rfl rfl Try.func40 (by kernel_rfl) rfl #[.slice A0 l0.length c0] rfl (by (try simp only [mapA, mapB, mapC]); first | done | rfl | (simp only [lD, lT]; rfl) | (simp only [ge_iff_le, gt_iff_lt, *]; rfl)) ?_; (with_reducible refine (nat_trim.calls k (fun k_ => ((P0_ k_ ∨ P1_ k_) ∨ w.heap.size ≤ k_)) _ _ l0 t118 _ ?side1 A3.out).mono ?_); (case side1 => exact HO0.out); rintro e w10 ⟨v119, rfl, ho0, hb⟩; refine ⟨_, rfl, ?_⟩; have n0_ := aM (Kd.V_below (by (with_reducible repeat (first | apply vA | apply vN | apply vD)); exact HO0.out) hb); have n1_ := aM (Kd.V_below (by (with_reducible repeat (first | apply vA | apply vN | apply vD)); exact HO1.out) hb); have n2_ := aM (Kd.V_lower (Kd.V_mono (ok' := fun k_ => ((P0_ k_ ∨ P1_ k_) ∨ w.heap.size ≤ k_)) ho0 (fun k_ hk_ => Or.elim hk_ (fun hs_ => hs_) (fun hn_ => (.inr (Nat.le_trans (below_size (by repeat (first | (with_reducible first | exact HB.out | apply bA | apply bN | apply bD) | exact HB.out))) hn_))))) (below_size (by repeat (first | (with_reducible first | exact HB.out | apply bA | apply bN | apply bD) | exact HB.out)))); have n3_ := aM (below_step (by repeat (first | (with_reducible first | exact HB.out | apply bA | apply bN | apply bD) | exact HB.out)) hb); clear HO0; clear HO1; clear HB; have HO0 := n0_; have HO1 := n1_; have HO120 := n2_; have HB := n3_; clear n0_ n1_ n2_ n3_; (try clear hb); (try clear hb2); (try clear hk); (try clear hi); (try clear ho0)) | ((with_reducible refine gate_callee (f := 40) rfl ?_); refine goesL_ (some 10) rfl rfl Try.func40 (by kernel_rfl) rfl #[.slice A1 l1.length c1] rfl (by (try simp only [mapA, mapB, mapC]); first | done | rfl | (simp only [lD, lT]; rfl) | (simp only [ge_iff_le, gt_iff_lt, *]; rfl)) ?_; (with_reducible refine (nat_trim.calls k (fun k_ => ((P0_ k_ ∨ P1_ k_) ∨ w.heap.size ≤ k_)) _ _ l1 t121 _ ?side1 A4.out).mono ?_); (case side1 => exact HO1.out); rintro e w11 ⟨v122, rfl, ho0, hb⟩; refine ⟨_, rfl, ?_⟩; have n0_ := aM (Kd.V_below (by (with_reducible repeat (first | apply vA | apply vN | apply vD)); exact HO0.out) hb); have n1_ := aM (Kd.V_below (by (with_reducible repeat (first | apply vA | apply vN | apply vD)); exact HO1.out) hb); have n2_ := aM (Kd.V_below (by (with_reducible repeat (first | apply vA | apply vN | apply vD)); exact HO120.out) hb); have n3_ := aM (Kd.V_lower (Kd.V_mono (ok' := fun k_ => ((P0_ k_ ∨ P1_ k_) ∨ w.heap.size ≤ k_)) ho0 (fun k_ hk_ => Or.elim hk_ (fun hs_ => hs_) (fun hn_ => (.inr (Nat.le_trans (below_size (by repeat (first | (with_reducible first | exact HB.out | apply bA | apply bN | apply bD) | exact HB.out))) hn_))))) (below_size (by repeat (first | (with_reducible first | exact HB.out | apply bA | apply bN | apply bD) | exact HB.out)))); have n4_ := aM (below_step (by repeat (first | (with_reducible first | exact HB.out | apply bA | apply bN | apply bD) | exact HB.out)) hb); clear HO0; clear HO1; clear HO120; clear HB; have HO0 := n0_; have HO1 := n1_; have HO120 := n2_; have HO123 := n3_; have HB := n4_; clear n0_ n1_ n2_ n3_ n4_; (try clear hb); (try clear hb2); (try clear hk); (try clear hi); (try clear ho0); obtain ⟨Ao12, co12, eo12⟩ := Kd.V_slice HO120.out; subst eo12; obtain ⟨Ao13, co13, eo13⟩ := Kd.V_slice HO123.out; subst eo13))
   go_ret3
   exact ⟨_, _, by first | rfl | (simp [errW_none, errW_some] <;> rfl) | (simp [*, errW_none, errW_some] <;> rfl), Kd.V_nil _ _ _ _ _, Kd.V_nil _ _ _ _ _, by repeat (first | (with_reducible first | exact HB.out | apply bA | apply bN | apply bD) | exact HB.out)⟩
  ·rw [if_neg c9] at H
   have c9b0 : decide (64 < (t121.length : Int)) = false := decide_eq_false c9
   have c9b1 : decide (64 < t121.length) = false := decide_eq_false (by omega)
   clear c9
   simp only [Option.some.injEq, Prod.mk.injEq] at H
   obtain ⟨rfl, rfl, rfl⟩ := H
   go_enter Try.func38, Try.ntmps38
   go_wp2_with (first | ((with_reducible refine gate_callee (f := 40) rfl ?_); refine goesL_ (some 8) rfl rfl Try.func40 (by kernel_rfl) rfl #[.slice A0 l0.length c0] rfl (by (try simp only [mapA, mapB, mapC]); first | done | rfl | (simp only [lD, lT]; rfl) | (simp only [ge_iff_le, gt_iff_lt, *]; rfl)) ?_; (with_reducible refine (nat_trim.calls k (fun k_ => ((P0_ k_ ∨ P1_ k_) ∨ w.heap.size ≤ k_)) _ _ l0 t118 _ ?side1 A3.out).mono ?_); (case side1 => exact HO0.out); rintro e w14 ⟨v119, rfl, ho0, hb⟩; refine ⟨_, rfl, ?_⟩; have n0_ := aM (Kd.V_below (by (with_reducible repeat (first | apply vA | apply vN | apply vD)); exact HO0.out) hb); have n1_ := aM (Kd.V_below (by (with_reducible repeat (first | apply vA | apply vN | apply vD)); exact HO1.out) hb); have n2_ := aM (Kd.V_lower (Kd.V_mono (ok' := fun k_ => ((P0_ k_ ∨ P1_ k_) ∨ w.heap.size ≤ k_)) ho0 (fun k_ hk_ => Or.elim hk_ (fun hs_ => hs_) (fun hn_ => (.inr (Nat.le_trans (below_size (by repeat (first | (with_reducible first | exact HB.out | apply bA | apply bN | apply bD) | exact HB.out))) hn_))))) (below_size (by repeat (first | (with_reducible first | exact HB.out | apply bA | apply bN | apply bD) | exact HB.out)))); have n3_ := aM (below_step (by repeat (first | (with_reducible first | exact HB.out | apply bA | apply bN | apply bD) | exact HB.out)) hb); clear HO0; clear HO1; clear HB; have HO0 := n0_; have HO1 := n1_; have HO120 := n2_; have HB := n3_; clear n0_ n1_ n2_ n3_; (try clear hb); (try clear hb2); (try clear hk); (try clear hi); (try clear ho0)) | ((with_reducible refine gate_callee (f := 40) rfl ?_); refine goesL_ (some 10) rfl rfl Try.func40 (by kernel_rfl) rfl #[.slice A1 l1.length c1] rfl (by (try simp only [mapA, mapB, mapC]); first | done | rfl | (simp only [lD, lT]; rfl) | (simp only [ge_iff_le, gt_iff_lt, *]; rfl)) ?_; (with_reducible refine (nat_trim.calls k (fun k_ => ((P0_ k_ ∨ P1_ k_) ∨ w.heap.size ≤ k_)) _ _ l1 t121 _ ?side1 A4.out).mono ?_); (case side1 => exact HO1.out); rintro e w15 ⟨v122, rfl, ho0, hb⟩; refine ⟨_, rfl, ?_⟩; have n0_ := aM (Kd.V_below (by (with_reducible repeat (first | apply vA | apply vN | apply vD)); exact HO0.out) hb); have n1_ := aM (Kd.V_below (by (with_reducible repeat (first | apply vA | apply vN | apply vD)); exact HO1.out) hb); have n2_ := aM (Kd.V_below (by (with_reducible repeat (first | apply vA | apply vN | apply vD)); exact HO120.out) hb); have n3_ := aM (Kd.V_lower (Kd.V_mono (ok' := fun k_ => ((P0_ k_ ∨ P1_ k_) ∨ w.heap.size ≤ k_)) ho0 (fun k_ hk_ => Or.elim hk_ (fun hs_ => hs_) (fun hn_ => (.inr (Nat.le_trans (below_size (by repeat (first | (with_reducible first | exact HB.out | apply bA | apply bN | apply bD) | exact HB.out))) hn_))))) (below_size (by repeat (first | (with_reducible first | exact HB.out | apply bA | apply bN | apply bD) | exact HB.out)))); have n4_ := aM (below_step (by repeat (first | (with_reducible first | exact HB.out | apply bA | apply bN | apply bD) | exact HB.out)) hb); clear HO0; clear HO1; clear HO120; clear HB; have HO0 := n0_; have HO1 := n1_; have HO120 := n2_; have HO123 := n3_; have HB := n4_; clear n0_ n1_ n2_ n3_ n4_; (try clear hb); (try clear hb2); (try clear hk); (try clear hi); (try clear ho0); obtain ⟨Ao16, co16, eo16⟩ := Kd.V_slice HO120.out; subst eo16; obtain ⟨Ao17, co17, eo17⟩ := Kd.V_slice HO123.out; subst eo17))
   go_ret3
   exact ⟨_, _, by first | rfl | (simp [errW_none, errW_some] <;> rfl) | (simp [*, errW_none, errW_some] <;> rfl), by (with_reducible repeat (first | apply vA | apply vN | apply vD)); exact HO120.out, by (with_reducible repeat (first | apply vA | apply vN | apply vD)); exact HO123.out, by repeat (first | (with_reducible first | exact HB.out | apply bA | apply bN | apply bD) | exact HB.out)⟩

/-! ### nat_Add: function 12 -/
mutual
def nat_Add.j0 : Nat → List Int → List Int → Option (List Int × Option Int)
 | 0, _, _ => none
 | k + 1, x0, x1 => if 0 ≤ (wrap64 ((x0.length : Int) + 1)) then (if (wrap64 ((x0.length : Int) + 1) : Int).toNat ≤ 35184372088832 then (nat_Add.l0 k x0 x1 (List.replicate (wrap64 ((x0.length : Int) + 1) : Int).toNat 0) 0 (x0.length : Int) 0) else (none)) else (none)
def nat_Add.l0 : Nat → List Int → List Int → List Int → Int → Int → Int → Option (List Int × Option Int)
 | 0, _, _, _, _, _, _ => none
 | k + 1, x0, x1, x7, x8, x33, x34 => if x34 < x33 then (if x34 < (x1.length : Int) then (if 0 ≤ x34 then (if x34 < (x0.length : Int) then ((bits_Add64.f (rd x0 x34) (rd x1 x34) x8).bind fun bt137 => (if x34 < (x7.length : Int) then (nat_Add.l0 k x0 x1 (x7.set (x34 : Int).toNat bt137.1) bt137.2 x33 (wrap64 (x34 + 1))) else (none))) else (none)) else (none)) else (if 0 ≤ x34 then (if x34 < (x0.length : Int) then ((bits_Add64.f (rd x0 x34) 0 x8).bind fun bt141 => (if x34 < (x7.length : Int) then (nat_Add.l0 k x0 x1 (x7.set (x34 : Int).toNat bt141.1) bt141.2 x33 (wrap64 (x34 + 1))) else (none))) else (none)) else (none))) else (if 0 ≤ (x0.length : Int) then (if (x0.length : Int) < (x7.length : Int) then ((nat_trim.f k (x7.set ((x0.length : Int) : Int).toNat x8)).bind fun t145 => (some (t145, none))) else (none)) else (none))
end
def nat_Add.f (k : Nat) (l0 : List Int) (l1 : List Int) : Option (List Int × Option Int) := (nat_both.f k l0 l1).bind fun bt124 => (if bt124.2.2.isNone = true then (if (bt124.1.length : Int) < (bt124.2.1.length : Int) then (nat_Add.j0 k bt124.2.1 bt124.1) else (nat_Add.j0 k bt124.1 bt124.2.1)) else (some (([] : List Int), some (bt124.2.2.getD 0))))
set_option maxHeartbeats 8000000 in
set_option maxRecDepth 100000 in
theorem nat_Add.calls (k : Nat) (P0_ : Nat → Prop) (A0 : Option Addr) (c0 : Nat) (l0 : List Int) (P1_ : Nat → Prop) (A1 : Option Addr) (c1 : Nat) (l1 : List Int) (r1 : List Int) (r2 : Option Int) (w : World) (hs0 : Kd.V (Kd.int .u64) 46 w w.heap.size (fun k_ => P0_ k_) (.slice A0 l0.length c0) l0) (hs1 : Kd.V (Kd.int .u64) 46 w w.heap.size (fun k_ => P1_ k_) (.slice A1 l1.length c1) l1) (h : nat_Add.f k l0 l1 = some (r1, r2)) :
  Calls Try.prog 12 #[.slice A0 l0.length c0, .slice A1 l1.length c1] w fun e w' => ∃ v0_ : Value, e = .returned (.tuple #[v0_, errW r2]) ∧ Kd.V (Kd.int .u64) 46 w' w.heap.size (fun k_ => ((P0_ k_ ∨ P1_ k_) ∨ w.heap.size ≤ k_)) v0_ r1 ∧ Below w.heap.size w w' := by
 have hu27 := Try.underlying27
 have hu32 := Try.underlying32
 have HO0 := aM (show Kd.V (Kd.int .u64) 46 w w.heap.size (fun k_ => ((P0_ k_ ∨ P1_ k_) ∨ w.heap.size ≤ k_)) (.slice A0 l0.length c0) l0 from Kd.V_mono hs0 (fun k_ hk => .inl (.inl hk)))
 have HO1 := aM (show Kd.V (Kd.int .u64) 46 w w.heap.size (fun k_ => ((P0_ k_ ∨ P1_ k_) ∨ w.heap.size ≤ k_)) (.slice A1 l1.length c1) l1 from Kd.V_mono hs1 (fun k_ hk => .inl (.inr hk)))
 have HB := aM (Below.refl w.heap.size w)
 have H : ((nat_both.f k l0 l1).bind fun bt124 => (if bt124.2.2.isNone = true then (if (bt124.1.length : Int) < (bt124.2.1.length : Int) then (nat_Add.j0 k bt124.2.1 bt124.1) else (nat_Add.j0 k bt124.1 bt124.2.1)) else (some (([] : List Int), some (bt124.2.2.getD 0))))) = some (r1, r2) := h
 clear h
 replace H := Option.bind_eq_some_iff.mp H
 obtain ⟨⟨t124, t127, t130⟩, A30, H⟩ := H
 replace H : (if t130.isNone = true then (if (t124.length : Int) < (t127.length : Int) then (nat_Add.j0 k t127 t124) else (nat_Add.j0 k t124 t127)) else (some (([] : List Int), some (t130.getD 0)))) = some (r1, r2) := H
 have A3 := aM A30
 clear A30
 rcases t130 with _ | q131
 ·have H1 : (if (t124.length : Int) < (t127.length : Int) then (nat_Add.j0 k t127 t124) else (nat_Add.j0 k t124 t127)) = some (r1, r2) := by rw [if_pos (show (none : Option Int).isNone = true by rfl)] at H; exact H
  clear H
  have H := H1
  clear H1
  try simp only [errW_none, errW_some]
  have HC4 := aM H
  clear H
  go_enter Try.func12, Try.ntmps12
  go_upto_if 25 with (first | ((with_reducible refine gate_callee (f := 38) rfl ?_); refine goesL_ (some 14) rfl rfl Try.func38 (by kernel_rfl) rfl #[.slice A0 l0.length c0, .slice A1 l1.length c1] rfl (by (try simp only [mapA, mapB, mapC]); first | done | rfl | (simp only [lD, lT]; rfl) | (simp only [ge_iff_le, gt_iff_lt, *]; rfl)) ?_; (with_reducible refine (nat_both.calls k (fun k_ => ((P0_ k_ ∨ P1_ k_) ∨ w.heap.size ≤ k_)) _ _ l0 (fun k_ => ((P0_ k_ ∨ P1_ k_) ∨ w.heap.size ≤ k_)) _ _ l1 t124 t127 none _ ?side1 ?side2 A3.out).mono ?_); (case side1 => exact HO0.out); (case side2 => exact HO1.out); rintro e w5 ⟨v125, v128, rfl, ho0, ho1, hb⟩; refine ⟨_, rfl, ?_⟩; have n0_ := aM (Kd.V_below (by (with_reducible repeat (first | apply vA | apply vN | apply vD)); exact HO0.out) hb); have n1_ := aM (Kd.V_below (by (with_reducible repeat (first | apply vA | apply vN | apply vD)); exact HO1.out) hb); have n2_ := aM (Kd.V_lower (Kd.V_mono (ok' := fun k_ => ((P0_ k_ ∨ P1_ k_) ∨ w.heap.size ≤ k_)) ho0 (fun k_ hk_ => Or.elim hk_ (fun hs_ => Or.elim hs_ (fun hs_ => hs_) (fun hs_ => hs_)) (fun hn_ => (.inr (Nat.le_trans (below_size (by repeat (first | (with_reducible first | exact HB.out | apply bA | apply bN | apply bD) | exact HB.out))) hn_))))) (below_size (by repeat (first | (with_reducible first | exact HB.out | apply bA | apply bN | apply bD) | exact HB.out)))); have n3_ := aM (Kd.V_lower (Kd.V_mono (ok' := fun k_ => ((P0_ k_ ∨ P1_ k_) ∨ w.heap.size ≤ k_)) ho1 (fun k_ hk_ => Or.elim hk_ (fun hs_ => Or.elim hs_ (fun hs_ => hs_) (fun hs_ => hs_)) (fun hn_ => (.inr (Nat.le_trans (below_size (by repeat (first | (with_reducible first | exact HB.out | apply bA | apply bN | apply bD) | exact HB.out))) hn_))))) (below_size (by repeat (first | (with_reducible first | exact HB.out | apply bA | apply bN | apply bD) | exact HB.out)))); have n4_ := aM (below_step (by repeat (first | (with_reducible first | exact HB.out | apply bA | apply bN | apply bD) | exact HB.out)) hb); clear HO0; clear HO1; clear HB; have HO0 := n0_; have HO1 := n1_; have HO126 := n2_; have HO129 := n3_; have HB := n4_; clear n0_ n1_ n2_ n3_ n4_; (try clear hb); (try clear hb2); (try clear hk); (try clear hi); (try clear ho0); (try clear ho1); (try simp only [errW_none, errW_some]); obtain ⟨Ao6, co6, eo6⟩ := Kd.V_slice HO126.out; subst eo6; obtain ⟨Ao7, co7, eo7⟩ := Kd.V_slice HO129.out; subst eo7))
  (try simp only [Act.put, List.setIfInBounds_toArray, List.set_cons_zero, List.set_cons_succ])
  go_cut [0, 1] (fun v0 v1 wc => ∃ (kq : Nat) (x0_3 : List Int) (x1_3 : List Int), Aside0 (nat_Add.j0 kq x0_3 x1_3 = some (r1, r2)) ∧ Aside0 (kq ≤ k) ∧ Aside0 (Kd.V (Kd.int .u64) 46 wc w.heap.size (fun k_ => ((P0_ k_ ∨ P1_ k_) ∨ w.heap.size ≤ k_)) v0 x0_3) ∧ Aside0 (Kd.V (Kd.int .u64) 46 wc w.heap.size (fun k_ => ((P0_ k_ ∨ P1_ k_) ∨ w.heap.size ≤ k_)) v1 x1_3) ∧ Aside0 (Below w.heap.size w wc))
  case first =>
   have H := HC4.out
   clear HC4
   by_cases c8 : (t124.length : Int) < (t127.length : Int)
   ·rw [if_pos c8] at H
    have c8b0 : decide ((t124.length : Int) < (t127.length : Int)) = true := decide_eq_true c8
    have c8b1 : decide (t124.length < t127.length) = true := decide_eq_true (Int.ofNat_lt.mp c8)
    clear c8
    (first | rw [c8b0] | (simp only [i64_w, i32_w]; rw [c8b0]) | rw [c8b1] | rw [c8b2] | skip)
    have H' := aM H
    clear H
    go_wp2
    go_meet
    case rel => exact ⟨_, (t127), (t124), H', ⟨by first | omega | exact Nat.le_refl _⟩, ⟨by (with_reducible repeat (first | apply vA | apply vN | apply vD)); exact HO129.out⟩, ⟨by (with_reducible repeat (first | apply vA | apply vN | apply vD)); exact HO126.out⟩, ⟨by repeat (first | (with_reducible first | exact HB.out | apply bA | apply bN | apply bD) | exact HB.out)⟩⟩
   ·rw [if_neg c8] at H
    have c8b0 : decide ((t124.length : Int) < (t127.length : Int)) = false := decide_eq_false c8
    have c8b1 : decide (t124.length < t127.length) = false := decide_eq_false (fun h => c8 (Int.ofNat_lt.mpr h))
    clear c8
    (first | rw [c8b0] | (simp only [i64_w, i32_w]; rw [c8b0]) | rw [c8b1] | rw [c8b2] | skip)
    have H' := aM H
    clear H
    go_wp2
    go_meet
    case rel => exact ⟨_, (t124), (t127), H', ⟨by first | omega | exact Nat.le_refl _⟩, ⟨by (with_reducible repeat (first | apply vA | apply vN | apply vD)); exact HO126.out⟩, ⟨by (with_reducible repeat (first | apply vA | apply vN | apply vD)); exact HO129.out⟩, ⟨by repeat (first | (with_reducible first | exact HB.out | apply bA | apply bN | apply bD) | exact HB.out)⟩⟩
  case rest =>
   clear HC4
   try clear c1
   try clear q1
   try clear p2
   try clear c3
   try clear c8
   try clear c8b0
   try clear c8b1
   try clear c8b2
   try clear q131
   obtain ⟨kq, x0_3, x1_3, HA, HJ3, HO_0, HO_1, HB⟩ := hcut
   cases kq with
   | zero => exact absurd HA.out (by simp [nat_Add.j0])
   | succ kj3 =>
    have H := HA.out
    clear HA
    simp only [nat_Add.j0] at H
    obtain ⟨ji9, hji9⟩ : ∃ j_ : Int, (wrap64 ((x0_3.length : Int) + 1)) = j_ := ⟨_, rfl⟩
    replace H : (if 0 ≤ (ji9) then (if (ji9 : Int).toNat ≤ 35184372088832 then (nat_Add.l0 kj3 x0_3 x1_3 (List.replicate (ji9 : Int).toNat 0) 0 (x0_3.length : Int) 0) else (none)) else (none)) = some (r1, r2) := by first | (rw [hji9] at H; exact H) | (simp only [hji9] at H ⊢; exact H)
    have hji9w : (IntKind.i64.wrap ((x0_3.length : Int) + 1)) = ji9 := (i64_w _).trans hji9
    by_cases c10 : 0 ≤ (ji9)
    ·rw [if_pos c10] at H
     have c10b0 := eq_true c10
     have c10b1 : decide (0 ≤ (ji9)) = true := decide_eq_true c10
     clear c10
     by_cases c11 : (ji9 : Int).toNat ≤ 35184372088832
     ·rw [if_pos c11] at H
      have c11b0 := eq_true c11
      have c11b1 : decide ((ji9 : Int).toNat ≤ 35184372088832) = true := decide_eq_true c11
      clear c11
      obtain ⟨y132, hy132⟩ : ∃ y_ : List Int, y_ = (List.replicate (ji9 : Int).toNat 0) := ⟨_, rfl⟩
      replace H : (nat_Add.l0 kj3 x0_3 x1_3 y132 0 (x0_3.length : Int) 0) = some (r1, r2) := by first | (rw [hy132]; with_reducible exact H) | (have H2_ := (Option.bind_some _ _).symm.trans H; rw [hy132]; with_reducible exact H2_) | (have H2_ := (Option.bind_some _ _).symm.trans H; with_reducible exact H2_) | with_reducible exact H | (rw [hy132]; exact H) | exact H
      have Ny132 := aM hy132
      clear hy132
      have H' := aM H
      clear H
      obtain ⟨Ao12, co12, eo12⟩ := Kd.V_slice HO_0.out
      subst eo12
      go_wp2_with (first | ((with_reducible refine gate_dst (N := 31) rfl ?_); refine Kd.R_make (Kd.int .u64) _ 46 rfl (N := 31) rfl 23 _ _ rfl ji9 rfl rfl Try.underlying23 (.int .u64 0) 8 info46 rfl (by decide) (by omega) 0 (ok := fun _ => True) (okp := fun _ => True) rfl (fun _ hk => hk) trivial (of_decide_eq_true (by first | (with_reducible assumption) | assumption)) (Nat.le_trans (Nat.mul_le_mul_right _ (of_decide_eq_true (by first | (with_reducible assumption) | assumption) : ji9.toNat ≤ 35184372088832)) (by omega)) (Below.refl _ _) (Nat.le_refl _) ?_; intro v133 w13 ho14 hb hg_ hnew_; clear hg_ hnew_; (first | rw [← Ny132.out] at ho14 | (simp only [Int.reduceToNat] at ho14; rw [← Ny132.out] at ho14)); have n0_ := aM (Kd.V_elder' (by (with_reducible repeat (first | apply vA | apply vN | apply vD)); exact HO_0.out) (Kd.R_base ho14) hb); have n1_ := aM (Kd.V_elder' (by (with_reducible repeat (first | apply vA | apply vN | apply vD)); exact HO_1.out) (Kd.R_base ho14) hb); have n2_ := aM (Kd.R_lower (Kd.R_newM (M := fun k_ => (w.heap.size ≤ k_)) ho14 (below_size (by repeat (first | (with_reducible first | exact HB.out | apply bA | apply bN | apply bD) | exact HB.out))) (fun k_ h_ => h_)) (below_size (by repeat (first | (with_reducible first | exact HB.out | apply bA | apply bN | apply bD) | exact HB.out)))); have n3_ := aM (below_step (by repeat (first | (with_reducible first | exact HB.out | apply bA | apply bN | apply bD) | exact HB.out)) hb); clear HO_0; clear HO_1; clear HB; have HO_0 := n0_; have HO_1 := n1_; have HO134 := n2_; have HB := n3_; clear n0_ n1_ n2_ n3_; clear hb ho14))
      go_loopg [8, 34] kj3 (fun kq v8 v34 w' => ∃ (x7_2 : List Int) (x8_2 : Int) (x34_2 : Int), v8 = .int .u64 x8_2 ∧ v34 = .int .i64 x34_2 ∧ Aside0 (nat_Add.l0 kq x0_3 x1_3 x7_2 x8_2 (x0_3.length : Int) x34_2 = some (r1, r2)) ∧ Aside0 (kq ≤ kj3) ∧ Aside0 (Kd.V (Kd.int .u64) 46 w' w.heap.size (fun k_ => ((P0_ k_ ∨ P1_ k_) ∨ w.heap.size ≤ k_) ∧ some k_ ≠ (v133 : Value).ownBlock) (.slice Ao12 x0_3.length co12) x0_3) ∧ Aside0 (Kd.V (Kd.int .u64) 46 w' w.heap.size (fun k_ => ((P0_ k_ ∨ P1_ k_) ∨ w.heap.size ≤ k_) ∧ some k_ ≠ (v133 : Value).ownBlock) u1 x1_3) ∧ Aside0 (Kd.R (Kd.int .u64) 46 w' w.heap.size (fun k_ => (w.heap.size ≤ k_)) v133 x7_2) ∧ Aside0 (Below w.heap.size w w'))
      case atStart => exact ⟨(y132), (0), (0), (by first | rfl | (simp; done) | (simp [*]; done)), (by first | rfl | (simp; done) | (simp [*]; done)), H', ⟨Nat.le_refl _⟩, ⟨by (with_reducible repeat (first | apply vA | apply vN | apply vD)); exact HO_0.out⟩, ⟨by (with_reducible repeat (first | apply vA | apply vN | apply vD)); exact HO_1.out⟩, ⟨by (with_reducible repeat (first | apply rA | apply rN | apply rD)); exact Kd.R_mono HO134.out (fun _ hk => hk.1)⟩, ⟨by repeat (first | (with_reducible first | exact HB.out | apply bA | apply bN | apply bD) | exact HB.out)⟩⟩
      case round =>
       clear H'
       try clear c1
       try clear q1
       try clear p2
       try clear c3
       try clear p6
       try clear c8
       try clear c8b0
       try clear c8b1
       try clear c8b2
       try clear c10
       try clear c10b0
       try clear c10b1
       try clear c11
       try clear c11b0
       try clear c11b1
       try clear c12
       try clear q13
       try clear p2
       try clear q1
       try clear q131
       obtain ⟨x7_2, x8_2, x34_2, rfl, rfl, HA, HK2, HO_0, HO_1, HO_7, HB⟩ := hrel
       cases gk with
       | zero => exact absurd HA.out (by simp [nat_Add.l0])
       | succ k2 =>
        have H := HA.out
        clear HA
        simp only [nat_Add.l0] at H
        by_cases c15 : x34_2 < (x0_3.length : Int)
        ·rw [if_pos c15] at H
         have c15b0 : decide (x34_2 < (x0_3.length : Int)) = true := decide_eq_true c15
         clear c15
         by_cases c16 : x34_2 < (x1_3.length : Int)
         ·rw [if_pos c16] at H
          have c16b0 : decide (x34_2 < (x1_3.length : Int)) = true := decide_eq_true c16
          clear c16
          by_cases c17 : 0 ≤ x34_2
          ·rw [if_pos c17] at H
           have c17b0 : decide (0 ≤ x34_2) = true := decide_eq_true c17
           clear c17
           by_cases c18 : x34_2 < (x0_3.length : Int)
           ·rw [if_pos c18] at H
            have c18b0 : decide (x34_2 < (x0_3.length : Int)) = true := decide_eq_true c18
            clear c18
            replace H := Option.bind_eq_some_iff.mp H
            obtain ⟨⟨t137, t138⟩, A190, H⟩ := H
            replace H : (if x34_2 < (x7_2.length : Int) then (nat_Add.l0 k2 x0_3 x1_3 (x7_2.set (x34_2 : Int).toNat t137) t138 (x0_3.length : Int) (wrap64 (x34_2 + 1))) else (none)) = some (r1, r2) := H
            have A19 := aM A190
            clear A190
            by_cases c20 : x34_2 < (x7_2.length : Int)
            ·rw [if_pos c20] at H
             have c20b0 : decide (x34_2 < (x7_2.length : Int)) = true := decide_eq_true c20
             clear c20
             obtain ⟨y139, hy139⟩ : ∃ y_ : List Int, y_ = (x7_2.set (x34_2 : Int).toNat t137) := ⟨_, rfl⟩
             replace H : (nat_Add.l0 k2 x0_3 x1_3 y139 t138 (x0_3.length : Int) (wrap64 (x34_2 + 1))) = some (r1, r2) := by first | (rw [hy139]; with_reducible exact H) | (have H2_ := (Option.bind_some _ _).symm.trans H; rw [hy139]; with_reducible exact H2_) | (have H2_ := (Option.bind_some _ _).symm.trans H; with_reducible exact H2_) | with_reducible exact H | (rw [hy139]; exact H) | exact H
             have Ny139 := aM hy139
             clear hy139
             have H' := aM H
             clear H
             obtain ⟨Ao22, co22, eo22⟩ := Kd.V_slice HO_1.out
             subst eo22
             have p135 : 0 ≤ (x34_2 : Int) := of_decide_eq_true (by first | (with_reducible assumption) | assumption)
             have q135 : x34_2 < (x1_3.length : Int) := of_decide_eq_true (by first | (with_reducible assumption) | assumption)
             obtain ⟨ad135, e135, hx135_0⟩ := Kd.at_int (Kd.V_reads' HO_1.out).2.2 x34_2 p135 q135
             cases e135
             replace p135 := eq_true p135
             replace q135 := eq_true q135
             have p136 : 0 ≤ (x34_2 : Int) := of_decide_eq_true (by first | (with_reducible assumption) | assumption)
             have q136 : x34_2 < (x0_3.length : Int) := of_decide_eq_true (by first | (with_reducible assumption) | assumption)
             obtain ⟨ad136, e136, hx136_0⟩ := Kd.at_int (Kd.V_reads' HO_0.out).2.2 x34_2 p136 q136
             cases e136
             replace p136 := eq_true p136
             replace q136 := eq_true q136
             go_wp2_with (first | ((with_reducible refine gate_callee (f := 39) rfl ?_); refine goesE_ (some 54) rfl rfl Try.func39 (by kernel_rfl) rfl #[.int .u64 (rd x0_3 x34_2), .int .u64 (rd x1_3 x34_2), .int .u64 x8_2] rfl (by (try simp only [mapA, mapB, mapC]); first | done | rfl | (simp only [lD, lT]; rfl) | (simp only [ge_iff_le, gt_iff_lt, *]; rfl)) ?_; (with_reducible refine (bits_Add64.calls (rd x0_3 x34_2) (rd x1_3 x34_2) x8_2 t137 t138 _ A19.out).mono ?_); rintro e w' ⟨rfl, ⟨nd, rfl⟩⟩; refine ⟨_, rfl, ?_⟩; (try (rw [drewN_self wr]; generalize hq_ : World.drewN wr _ = wr; have n0_ : Aside0 (Kd.V (Kd.int .u64) 46 wr w.heap.size (fun k_ => ((P0_ k_ ∨ P1_ k_) ∨ w.heap.size ≤ k_) ∧ some k_ ≠ (v133 : Value).ownBlock) (.slice (some ad136) x0_3.length co12) x0_3) := ⟨by rw [← hq_]; exact (by (with_reducible repeat (first | apply vA | apply vN | apply vD)); exact HO_0.out)⟩; have n1_ : Aside0 (Kd.V (Kd.int .u64) 46 wr w.heap.size (fun k_ => ((P0_ k_ ∨ P1_ k_) ∨ w.heap.size ≤ k_) ∧ some k_ ≠ (v133 : Value).ownBlock) (.slice (some ad135) x1_3.length co22) x1_3) := ⟨by rw [← hq_]; exact (by (with_reducible repeat (first | apply vA | apply vN | apply vD)); exact HO_1.out)⟩; have n2_ : Aside0 (Kd.R (Kd.int .u64) 46 wr w.heap.size (fun k_ => (w.heap.size ≤ k_)) v133 x7_2) := ⟨by rw [← hq_]; exact (by (with_reducible repeat (first | apply rA | apply rN | apply rD)); exact HO_7.out)⟩; have n3_ : Aside0 (Below w.heap.size w wr) := ⟨by rw [← hq_]; exact (by repeat (first | (with_reducible first | exact HB.out | apply bA | apply bN | apply bD) | exact HB.out))⟩; clear HO_0 HO_1 HO_7 HB hq_; have HO_0 := n0_; have HO_1 := n1_; have HO_7 := n2_; have HB := n3_; clear n0_ n1_ n2_ n3_)); have p21 : 0 ≤ (x34_2 : Int) := of_decide_eq_true (by first | (with_reducible assumption) | assumption); have q21 : (x34_2 : Int) < ((x7_2.length : Int) : Int) := of_decide_eq_true (by first | (with_reducible assumption) | assumption); obtain ⟨go21, co21, eo21, gb21, gl21, cl21, HG21⟩ := Kd.R_form HO_7.out (by omega); (first | cases eo21 | (injection eo21 with ea_ en_ ec_; (first | subst ea_ | (injection ea_ with ea_; subst ea_)); subst ec_; clear en_)); have GB21 := aM gb21; have GG21 := aM HG21; clear gb21 gl21 HG21; obtain ⟨hx21_0, hf21_0⟩ := Kd.R_celln 0 HO_7.out (x34_2 : Int) p21 q21; replace p21 := eq_true p21; replace q21 := eq_true q21; obtain ⟨hy23_, hz23_⟩ := Kd.R_celln 0 HO_7.out (x34_2 : Int) (of_decide_eq_true (by first | (with_reducible assumption) | assumption)) (of_decide_eq_true (by first | (with_reducible assumption) | assumption)); have HP23 := Kd.R_putg HO_7.out (x34_2 : Int) t137) | ((with_reducible refine gate_store (t := 46) (p := 57) rfl ?_); refine store_event (t := 46) (p := 57) (v := ?vo_w24) (w1 := (wr.setCell ⟨go21, (x34_2 : Int).toNat, none⟩ (.int .u64 t137))) ?hg ?ho ?hn ?hr ?_; (case ho => rfl); (case hg => rfl); (case hn => rfl); (case hr => first | (go_simp; done) | (go_simp; rfl)); intro w24 hw; have hg : wr.grownBy w24 (some go21) := (by rw [hw]; exact HP23.2); have hp_ : Kd.R (Kd.int .u64) 46 w24 w.heap.size (fun k_ => (w.heap.size ≤ k_)) (.slice (some ⟨go21, 0, none⟩) x7_2.length co21) y139 := (by rw [hw, Ny139.out]; exact HP23.1); clear HP23; have n0_ := aM (Kd.V_afterv (v := (.slice (some ⟨go21, 0, none⟩) x7_2.length co21)) (v1 := (.slice (some ⟨go21, 0, none⟩) x7_2.length co21)) (ok := (fun k_ => ((P0_ k_ ∨ P1_ k_) ∨ w.heap.size ≤ k_))) (by (with_reducible repeat (first | apply vA | apply vN | apply vD)); exact HO_0.out) hg (.inl rfl)); have n1_ := aM (Kd.V_afterv (v := (.slice (some ⟨go21, 0, none⟩) x7_2.length co21)) (v1 := (.slice (some ⟨go21, 0, none⟩) x7_2.length co21)) (ok := (fun k_ => ((P0_ k_ ∨ P1_ k_) ∨ w.heap.size ≤ k_))) (by (with_reducible repeat (first | apply vA | apply vN | apply vD)); exact HO_1.out) hg (.inl rfl)); have n2_ := aM (hp_); have n3_ := aM ((by rw [hw]; exact below_set (HB.out) GB21.out : Below w.heap.size w w24)); clear HO_0; clear HO_1; clear HO_7; clear HB; have HO_0 := n0_; have HO_1 := n1_; have HO_7 := n2_; have HB := n3_; clear n0_ n1_ n2_ n3_; clear hg hw hp_))
             go_roundg k2
             case measure => have := HJ3.out; have := HK2.out; omega
             case rel => exact ⟨(y139), (t138), (wrap64 (x34_2 + 1)), (by first | rfl | (simp; done) | (simp [*]; done)), (by first | rfl | (simp; done) | (simp [*]; done)), H', ⟨by have := HJ3.out; have := HK2.out; omega⟩, ⟨by (with_reducible repeat (first | apply vA | apply vN | apply vD)); exact HO_0.out⟩, ⟨by (with_reducible repeat (first | apply vA | apply vN | apply vD)); exact HO_1.out⟩, ⟨by (with_reducible repeat (first | apply rA | apply rN | apply rD)); exact HO_7.out⟩, ⟨by repeat (first | (with_reducible first | exact HB.out | apply bA | apply bN | apply bD) | exact HB.out)⟩⟩
            ·rw [if_neg c20] at H
             exact absurd H (by simp)
           ·rw [if_neg c18] at H
            exact absurd H (by simp)
          ·rw [if_neg c17] at H
           exact absurd H (by simp)
         ·rw [if_neg c16] at H
          have c16b0 : decide (x34_2 < (x1_3.length : Int)) = false := decide_eq_false c16
          clear c16
          by_cases c25 : 0 ≤ x34_2
          ·rw [if_pos c25] at H
           have c25b0 : decide (0 ≤ x34_2) = true := decide_eq_true c25
           clear c25
           by_cases c26 : x34_2 < (x0_3.length : Int)
           ·rw [if_pos c26] at H
            have c26b0 : decide (x34_2 < (x0_3.length : Int)) = true := decide_eq_true c26
            clear c26
            replace H := Option.bind_eq_some_iff.mp H
            obtain ⟨⟨t141, t142⟩, A270, H⟩ := H
            replace H : (if x34_2 < (x7_2.length : Int) then (nat_Add.l0 k2 x0_3 x1_3 (x7_2.set (x34_2 : Int).toNat t141) t142 (x0_3.length : Int) (wrap64 (x34_2 + 1))) else (none)) = some (r1, r2) := H
            have A27 := aM A270
            clear A270
            by_cases c28 : x34_2 < (x7_2.length : Int)
            ·rw [if_pos c28] at H
             have c28b0 : decide (x34_2 < (x7_2.length : Int)) = true := decide_eq_true c28
             clear c28
             obtain ⟨y143, hy143⟩ : ∃ y_ : List Int, y_ = (x7_2.set (x34_2 : Int).toNat t141) := ⟨_, rfl⟩
             replace H : (nat_Add.l0 k2 x0_3 x1_3 y143 t142 (x0_3.length : Int) (wrap64 (x34_2 + 1))) = some (r1, r2) := by first | (rw [hy143]; with_reducible exact H) | (have H2_ := (Option.bind_some _ _).symm.trans H; rw [hy143]; with_reducible exact H2_) | (have H2_ := (Option.bind_some _ _).symm.trans H; with_reducible exact H2_) | with_reducible exact H | (rw [hy143]; exact H) | exact H
             have Ny143 := aM hy143
             clear hy143
             have H' := aM H
             clear H
             obtain ⟨Ao30, co30, eo30⟩ := Kd.V_slice HO_1.out
             subst eo30
             have p140 : 0 ≤ (x34_2 : Int) := of_decide_eq_true (by first | (with_reducible assumption) | assumption)
             have q140 : x34_2 < (x0_3.length : Int) := of_decide_eq_true (by first | (with_reducible assumption) | assumption)
             obtain ⟨ad140, e140, hx140_0⟩ := Kd.at_int (Kd.V_reads' HO_0.out).2.2 x34_2 p140 q140
             cases e140
             replace p140 := eq_true p140
             replace q140 := eq_true q140
             go_wp2_with (first | ((with_reducible refine gate_callee (f := 39) rfl ?_); refine goesE_ (some 54) rfl rfl Try.func39 (by kernel_rfl) rfl #[.int .u64 (rd x0_3 x34_2), .int .u64 0, .int .u64 x8_2] rfl (by (try simp only [mapA, mapB, mapC]); first | done | rfl | (simp only [lD, lT]; rfl) | (simp only [ge_iff_le, gt_iff_lt, *]; rfl)) ?_; (with_reducible refine (bits_Add64.calls (rd x0_3 x34_2) 0 x8_2 t141 t142 _ A27.out).mono ?_); rintro e w' ⟨rfl, ⟨nd, rfl⟩⟩; refine ⟨_, rfl, ?_⟩; (try (rw [drewN_self wr]; generalize hq_ : World.drewN wr _ = wr; have n0_ : Aside0 (Kd.V (Kd.int .u64) 46 wr w.heap.size (fun k_ => ((P0_ k_ ∨ P1_ k_) ∨ w.heap.size ≤ k_) ∧ some k_ ≠ (v133 : Value).ownBlock) (.slice (some ad140) x0_3.length co12) x0_3) := ⟨by rw [← hq_]; exact (by (with_reducible repeat (first | apply vA | apply vN | apply vD)); exact HO_0.out)⟩; have n1_ : Aside0 (Kd.V (Kd.int .u64) 46 wr w.heap.size (fun k_ => ((P0_ k_ ∨ P1_ k_) ∨ w.heap.size ≤ k_) ∧ some k_ ≠ (v133 : Value).ownBlock) (.slice Ao30 x1_3.length co30) x1_3) := ⟨by rw [← hq_]; exact (by (with_reducible repeat (first | apply vA | apply vN | apply vD)); exact HO_1.out)⟩; have n2_ : Aside0 (Kd.R (Kd.int .u64) 46 wr w.heap.size (fun k_ => (w.heap.size ≤ k_)) v133 x7_2) := ⟨by rw [← hq_]; exact (by (with_reducible repeat (first | apply rA | apply rN | apply rD)); exact HO_7.out)⟩; have n3_ : Aside0 (Below w.heap.size w wr) := ⟨by rw [← hq_]; exact (by repeat (first | (with_reducible first | exact HB.out | apply bA | apply bN | apply bD) | exact HB.out))⟩; clear HO_0 HO_1 HO_7 HB hq_; have HO_0 := n0_; have HO_1 := n1_; have HO_7 := n2_; have HB := n3_; clear n0_ n1_ n2_ n3_)); have p29 : 0 ≤ (x34_2 : Int) := of_decide_eq_true (by first | (with_reducible assumption) | assumption); have q29 : (x34_2 : Int) < ((x7_2.length : Int) : Int) := of_decide_eq_true (by first | (with_reducible assumption) | assumption); obtain ⟨go29, co29, eo29, gb29, gl29, cl29, HG29⟩ := Kd.R_form HO_7.out (by omega); (first | cases eo29 | (injection eo29 with ea_ en_ ec_; (first | subst ea_ | (injection ea_ with ea_; subst ea_)); subst ec_; clear en_)); have GB29 := aM gb29; have GG29 := aM HG29; clear gb29 gl29 HG29; obtain ⟨hx29_0, hf29_0⟩ := Kd.R_celln 0 HO_7.out (x34_2 : Int) p29 q29; replace p29 := eq_true p29; replace q29 := eq_true q29; obtain ⟨hy31_, hz31_⟩ := Kd.R_celln 0 HO_7.out (x34_2 : Int) (of_decide_eq_true (by first | (with_reducible assumption) | assumption)) (of_decide_eq_true (by first | (with_reducible assumption) | assumption)); have HP31 := Kd.R_putg HO_7.out (x34_2 : Int) t141) | ((with_reducible refine gate_store (t := 46) (p := 57) rfl ?_); refine store_event (t := 46) (p := 57) (v := ?vo_w32) (w1 := (wr.setCell ⟨go29, (x34_2 : Int).toNat, none⟩ (.int .u64 t141))) ?hg ?ho ?hn ?hr ?_; (case ho => rfl); (case hg => rfl); (case hn => rfl); (case hr => first | (go_simp; done) | (go_simp; rfl)); intro w32 hw; have hg : wr.grownBy w32 (some go29) := (by rw [hw]; exact HP31.2); have hp_ : Kd.R (Kd.int .u64) 46 w32 w.heap.size (fun k_ => (w.heap.size ≤ k_)) (.slice (some ⟨go29, 0, none⟩) x7_2.length co29) y143 := (by rw [hw, Ny143.out]; exact HP31.1); clear HP31; have n0_ := aM (Kd.V_afterv (v := (.slice (some ⟨go29, 0, none⟩) x7_2.length co29)) (v1 := (.slice (some ⟨go29, 0, none⟩) x7_2.length co29)) (ok := (fun k_ => ((P0_ k_ ∨ P1_ k_) ∨ w.heap.size ≤ k_))) (by (with_reducible repeat (first | apply vA | apply vN | apply vD)); exact HO_0.out) hg (.inl rfl)); have n1_ := aM (Kd.V_afterv (v := (.slice (some ⟨go29, 0, none⟩) x7_2.length co29)) (v1 := (.slice (some ⟨go29, 0, none⟩) x7_2.length co29)) (ok := (fun k_ => ((P0_ k_ ∨ P1_ k_) ∨ w.heap.size ≤ k_))) (by (with_reducible repeat (first | apply vA | apply vN | apply vD)); exact HO_1.out) hg (.inl rfl)); have n2_ := aM (hp_); have n3_ := aM ((by rw [hw]; exact below_set (HB.out) GB29.out : Below w.heap.size w w32)); clear HO_0; clear HO_1; clear HO_7; clear HB; have HO_0 := n0_; have HO_1 := n1_; have HO_7 := n2_; have HB := n3_; clear n0_ n1_ n2_ n3_; clear hg hw hp_))
             go_roundg k2
             case measure => have := HJ3.out; have := HK2.out; omega
             case rel => exact ⟨(y143), (t142), (wrap64 (x34_2 + 1)), (by first | rfl | (simp; done) | (simp [*]; done)), (by first | rfl | (simp; done) | (simp [*]; done)), H', ⟨by have := HJ3.out; have := HK2.out; omega⟩, ⟨by (with_reducible repeat (first | apply vA | apply vN | apply vD)); exact HO_0.out⟩, ⟨by (with_reducible repeat (first | apply vA | apply vN | apply vD)); exact HO_1.out⟩, ⟨by (with_reducible repeat (first | apply rA | apply rN | apply rD)); exact HO_7.out⟩, ⟨by repeat (first | (with_reducible first | exact HB.out | apply bA | apply bN | apply bD) | exact HB.out)⟩⟩
            ·rw [if_neg c28] at H
             exact absurd H (by simp)
           ·rw [if_neg c26] at H
            exact absurd H (by simp)
          ·rw [if_neg c25] at H
           exact absurd H (by simp)
        ·rw [if_neg c15] at H
         have c15b0 : decide (x34_2 < (x0_3.length : Int)) = false := decide_eq_false c15
         clear c15
         by_cases c33 : 0 ≤ (x0_3.length : Int)
         ·rw [if_pos c33] at H
          have c33b0 : decide (0 ≤ (x0_3.length : Int)) = true := decide_eq_true c33
          have c33b1 : decide (0 ≤ x0_3.length) = true := decide_eq_true (by omega)
          clear c33
          by_cases c34 : (x0_3.length : Int) < (x7_2.length : Int)
          ·rw [if_pos c34] at H
           have c34b0 : decide ((x0_3.length : Int) < (x7_2.length : Int)) = true := decide_eq_true c34
           have c34b1 : decide (x0_3.length < x7_2.length) = true := decide_eq_true (Int.ofNat_lt.mp c34)
           clear c34
           obtain ⟨y144, hy144⟩ : ∃ y_ : List Int, y_ = (x7_2.set ((x0_3.length : Int) : Int).toNat x8_2) := ⟨_, rfl⟩
           replace H : ((nat_trim.f k2 y144).bind fun t145 => (some (t145, none))) = some (r1, r2) := by first | (rw [hy144]; with_reducible exact H) | (have H2_ := (Option.bind_some _ _).symm.trans H; rw [hy144]; with_reducible exact H2_) | (have H2_ := (Option.bind_some _ _).symm.trans H; with_reducible exact H2_) | with_reducible exact H | (rw [hy144]; exact H) | exact H
           have Ny144 := aM hy144
           clear hy144
           replace H := Option.bind_eq_some_iff.mp H
           obtain ⟨t145, A360, H⟩ := H
           replace H : (some (t145, none)) = some (r1, r2) := H
           have A36 := aM A360
           clear A360
           simp only [Option.some.injEq, Prod.mk.injEq] at H
           obtain ⟨rfl, rfl⟩ := H
           have p35 : 0 ≤ ((x0_3.length : Int) : Int) := of_decide_eq_true (by first | (with_reducible assumption) | assumption)
           have q35 : ((x0_3.length : Int) : Int) < ((x7_2.length : Int) : Int) := of_decide_eq_true (by first | (with_reducible assumption) | assumption)
           obtain ⟨go35, co35, eo35, gb35, gl35, cl35, HG35⟩ := Kd.R_form HO_7.out (by omega)
           (first | cases eo35 | (injection eo35 with ea_ en_ ec_; (first | subst ea_ | (injection ea_ with ea_; subst ea_)); subst ec_; clear en_))
           have GB35 := aM gb35
           have GG35 := aM HG35
           clear gb35 gl35 HG35
           obtain ⟨hx35_0, hf35_0⟩ := Kd.R_celln 0 HO_7.out ((x0_3.length : Int) : Int) p35 q35
           (try simp only [Go.IntWalk.toNatUp] at hx35_0 hf35_0)
           replace p35 := eq_true p35
           replace q35 := eq_true q35
           have HP37 := Kd.R_putg HO_7.out ((x0_3.length : Int) : Int) x8_2
           go_wp2_with (first | ((with_reducible refine gate_store (t := 46) (p := 63) rfl ?_); refine store_event (t := 46) (p := 63) (v := ?vo_w38) (w1 := (wr.setCell ⟨go35, ((x0_3.length : Int) : Int).toNat, none⟩ (.int .u64 x8_2))) ?hg ?ho ?hn ?hr ?_; (case ho => rfl); (case hg => rfl); (case hn => rfl); (case hr => first | (go_simp; done) | (go_simp; rfl)); intro w38 hw; have hg : wr.grownBy w38 (some go35) := (by rw [hw]; exact HP37.2); have hp_ : Kd.R (Kd.int .u64) 46 w38 w.heap.size (fun k_ => (w.heap.size ≤ k_)) (.slice (some ⟨go35, 0, none⟩) x7_2.length co35) y144 := (by rw [hw, Ny144.out]; exact HP37.1); clear HP37; have n0_ := aM (Kd.V_afterv (v := (.slice (some ⟨go35, 0, none⟩) x7_2.length co35)) (v1 := (.slice (some ⟨go35, 0, none⟩) x7_2.length co35)) (ok := (fun k_ => ((P0_ k_ ∨ P1_ k_) ∨ w.heap.size ≤ k_))) (by (with_reducible repeat (first | apply vA | apply vN | apply vD)); exact HO_0.out) hg (.inl rfl)); have n1_ := aM (Kd.V_afterv (v := (.slice (some ⟨go35, 0, none⟩) x7_2.length co35)) (v1 := (.slice (some ⟨go35, 0, none⟩) x7_2.length co35)) (ok := (fun k_ => ((P0_ k_ ∨ P1_ k_) ∨ w.heap.size ≤ k_))) (by (with_reducible repeat (first | apply vA | apply vN | apply vD)); exact HO_1.out) hg (.inl rfl)); have n2_ := aM (hp_); have n3_ := aM ((by rw [hw]; exact below_set (HB.out) GB35.out : Below w.heap.size w w38)); clear HO_0; clear HO_1; clear HO_7; clear HB; have HO_0 := n0_; have HO_1 := n1_; have HO_7 := n2_; have HB := n3_; clear n0_ n1_ n2_ n3_; clear hg hw hp_) | ((with_reducible refine gate_callee (f := 40) rfl ?_); refine goesL_ (some 65) rfl rfl Try.func40 (by kernel_rfl) rfl #[.slice (some ⟨go35, 0, none⟩) y144.length co35] rfl (by (try simp only [mapA, mapB, mapC]); first | done | (rw [show y144.length = x7_2.length from (Kd.R_reads' HO_7.out).1.symm] <;> rfl) | rfl | (simp only [lD, lT]; rfl) | (simp only [ge_iff_le, gt_iff_lt, *]; rfl)) ?_; (with_reducible refine (nat_trim.calls k2 (fun k_ => some k_ = (.slice (some ⟨go35, 0, none⟩) x7_2.length co35 : Value).ownBlock) _ _ y144 t145 _ ?side1 A36.out).mono ?_); (case side1 => rw [show y144.length = x7_2.length from (Kd.R_reads' HO_7.out).1.symm]; exact Kd.R_V (Kd.R_tight rfl (HO_7.out))); rintro e w39 ⟨v146, rfl, ho0, hb⟩; refine ⟨_, rfl, ?_⟩; have n0_ := aM (Kd.V_below (by (with_reducible repeat (first | apply vA | apply vN | apply vD)); exact HO_0.out) hb); have n1_ := aM (Kd.V_below (by (with_reducible repeat (first | apply vA | apply vN | apply vD)); exact HO_1.out) hb); have n2_ := aM (Kd.R_below (by (with_reducible repeat (first | apply rA | apply rN | apply rD)); exact HO_7.out) hb); have n3_ := aM (Kd.V_lower (Kd.V_mono (ok' := fun k_ => ((P0_ k_ ∨ P1_ k_) ∨ w.heap.size ≤ k_)) ho0 (fun k_ hk_ => Or.elim hk_ (fun hs_ => (.inr (((HO_7.out).1 k_ hs_.symm)))) (fun hn_ => (.inr (Nat.le_trans (below_size (by repeat (first | (with_reducible first | exact HB.out | apply bA | apply bN | apply bD) | exact HB.out))) hn_))))) (below_size (by repeat (first | (with_reducible first | exact HB.out | apply bA | apply bN | apply bD) | exact HB.out)))); have n4_ := aM (below_step (by repeat (first | (with_reducible first | exact HB.out | apply bA | apply bN | apply bD) | exact HB.out)) hb); clear HO_0; clear HO_1; clear HO_7; clear HB; have HO_0 := n0_; have HO_1 := n1_; have HO_7 := n2_; have HO147 := n3_; have HB := n4_; clear n0_ n1_ n2_ n3_ n4_; (try clear hb); (try clear hb2); (try clear hk); (try clear hi); (try clear ho0)))
           go_ret2
           exact ⟨_, by first | rfl | (simp [errW_none, errW_some] <;> rfl) | (simp only [← hji9]; first | rfl | (simp [errW_none, errW_some] <;> rfl)) | (simp [*, errW_none, errW_some] <;> rfl), by (with_reducible repeat (first | apply vA | apply vN | apply vD)); exact HO147.out, by repeat (first | (with_reducible first | exact HB.out | apply bA | apply bN | apply bD) | exact HB.out)⟩
          ·rw [if_neg c34] at H
           exact absurd H (by simp)
         ·rw [if_neg c33] at H
          exact absurd H (by simp)
     ·rw [if_neg c11] at H
      exact absurd H (by simp)
    ·rw [if_neg c10] at H
     exact absurd H (by simp)
 ·have H1 : (some (([] : List Int), some q131)) = some (r1, r2) := by rw [if_neg (show ¬ (some q131).isNone = true by simp)] at H; exact H
  clear H
  have H := H1
  clear H1
  try simp only [errW_none, errW_some]
  simp only [Option.some.injEq, Prod.mk.injEq] at H
  obtain ⟨rfl, rfl⟩ := H
  go_enter Try.func12, Try.ntmps12
  go_wp2_with (first | ((with_reducible refine gate_callee (f := 38) rfl ?_); refine goesL_ (some 14) rfl rfl Try.func38 (by kernel_rfl) rfl #[.slice A0 l0.length c0, .slice A1 l1.length c1] rfl (by (try simp only [mapA, mapB, mapC]); first | done | rfl | (simp only [lD, lT]; rfl) | (simp only [ge_iff_le, gt_iff_lt, *]; rfl)) ?_; (with_reducible refine (nat_both.calls k (fun k_ => ((P0_ k_ ∨ P1_ k_) ∨ w.heap.size ≤ k_)) _ _ l0 (fun k_ => ((P0_ k_ ∨ P1_ k_) ∨ w.heap.size ≤ k_)) _ _ l1 t124 t127 (some q131) _ ?side1 ?side2 A3.out).mono ?_); (case side1 => exact HO0.out); (case side2 => exact HO1.out); rintro e w40 ⟨v125, v128, rfl, ho0, ho1, hb⟩; refine ⟨_, rfl, ?_⟩; have n0_ := aM (Kd.V_below (by (with_reducible repeat (first | apply vA | apply vN | apply vD)); exact HO0.out) hb); have n1_ := aM (Kd.V_below (by (with_reducible repeat (first | apply vA | apply vN | apply vD)); exact HO1.out) hb); have n2_ := aM (Kd.V_lower (Kd.V_mono (ok' := fun k_ => ((P0_ k_ ∨ P1_ k_) ∨ w.heap.size ≤ k_)) ho0 (fun k_ hk_ => Or.elim hk_ (fun hs_ => Or.elim hs_ (fun hs_ => hs_) (fun hs_ => hs_)) (fun hn_ => (.inr (Nat.le_trans (below_size (by repeat (first | (with_reducible first | exact HB.out | apply bA | apply bN | apply bD) | exact HB.out))) hn_))))) (below_size (by repeat (first | (with_reducible first | exact HB.out | apply bA | apply bN | apply bD) | exact HB.out)))); have n3_ := aM (Kd.V_lower (Kd.V_mono (ok' := fun k_ => ((P0_ k_ ∨ P1_ k_) ∨ w.heap.size ≤ k_)) ho1 (fun k_ hk_ => Or.elim hk_ (fun hs_ => Or.elim hs_ (fun hs_ => hs_) (fun hs_ => hs_)) (fun hn_ => (.inr (Nat.le_trans (below_size (by repeat (first | (with_reducible first | exact HB.out | apply bA | apply bN | apply bD) | exact HB.out))) hn_))))) (below_size (by repeat (first | (with_reducible first | exact HB.out | apply bA | apply bN | apply bD) | exact HB.out)))); have n4_ := aM (below_step (by repeat (first | (with_reducible first | exact HB.out | apply bA | apply bN | apply bD) | exact HB.out)) hb); clear HO0; clear HO1; clear HB; have HO0 := n0_; have HO1 := n1_; have HO126 := n2_; have HO129 := n3_; have HB := n4_; clear n0_ n1_ n2_ n3_ n4_; (try clear hb); (try clear hb2); (try clear hk); (try clear hi); (try clear ho0); (try clear ho1); (try simp only [errW_none, errW_some])))
  go_ret2
  exact ⟨_, by first | rfl | (simp [errW_none, errW_some] <;> rfl) | (simp [*, errW_none, errW_some] <;> rfl), Kd.V_nil _ _ _ _ _, by repeat (first | (with_reducible first | exact HB.out | apply bA | apply bN | apply bD) | exact HB.out)⟩

/-! ### nat_Cmp: function 22 -/
def nat_Cmp.l0 : Nat → List Int → List Int → Int → Option (Int)
 | 0, _, _, _ => none
 | k + 1, x0, x1, x5 => if x5 ≥ 0 then (if 0 ≤ x5 then (if x5 < (x0.length : Int) then (if x5 < (x1.length : Int) then (if (rd x0 x5) < (rd x1 x5) then (some (-1)) else (if (rd x0 x5) > (rd x1 x5) then (some 1) else (nat_Cmp.l0 k x0 x1 (wrap64 (x5 - 1))))) else (none)) else (none)) else (none)) else (some 0)
def nat_Cmp.f (k : Nat) (l0 : List Int) (l1 : List Int) : Option (Int) := (nat_trim.f k l0).bind fun t148 => ((nat_trim.f k l1).bind fun t151 => (if (t148.length : Int) = (t151.length : Int) then (nat_Cmp.l0 k t148 t151 (wrap64 ((t148.length : Int) - 1))) else (if (t148.length : Int) < (t151.length : Int) then (some (-1)) else (some 1))))
set_option maxHeartbeats 8000000 in
set_option maxRecDepth 100000 in
theorem nat_Cmp.calls (k : Nat) (A0 : Option Addr) (c0 : Nat) (l0 : List Int) (A1 : Option Addr) (c1 : Nat) (l1 : List Int) (r : Int) (w : World) (hr0 : Kd.C (Kd.int .u64) w A0 l0.length l0) (hc0 : l0.length ≤ c0) (hr1 : Kd.C (Kd.int .u64) w A1 l1.length l1) (hc1 : l1.length ≤ c1) (h : nat_Cmp.f k l0 l1 = some r) :
  Calls Try.prog 22 #[.slice A0 l0.length c0, .slice A1 l1.length c1] w fun e w' => e = .returned (.int .i64 r) ∧ Below w.heap.size w w' := by
 have HR0 := aM hr0
 have HC0 := aM hc0
 clear hr0 hc0
 have HR1 := aM hr1
 have HC1 := aM hc1
 clear hr1 hc1
 have HB := aM (Below.refl w.heap.size w)
 have H : ((nat_trim.f k l0).bind fun t148 => ((nat_trim.f k l1).bind fun t151 => (if (t148.length : Int) = (t151.length : Int) then (nat_Cmp.l0 k t148 t151 (wrap64 ((t148.length : Int) - 1))) else (if (t148.length : Int) < (t151.length : Int) then (some (-1)) else (some 1))))) = some r := h
 clear h
 replace H := Option.bind_eq_some_iff.mp H
 obtain ⟨t148, A30, H⟩ := H
 replace H : ((nat_trim.f k l1).bind fun t151 => (if (t148.length : Int) = (t151.length : Int) then (nat_Cmp.l0 k t148 t151 (wrap64 ((t148.length : Int) - 1))) else (if (t148.length : Int) < (t151.length : Int) then (some (-1)) else (some 1)))) = some r := H
 have A3 := aM A30
 clear A30
 replace H := Option.bind_eq_some_iff.mp H
 obtain ⟨t151, A40, H⟩ := H
 replace H : (if (t148.length : Int) = (t151.length : Int) then (nat_Cmp.l0 k t148 t151 (wrap64 ((t148.length : Int) - 1))) else (if (t148.length : Int) < (t151.length : Int) then (some (-1)) else (some 1))) = some r := H
 have A4 := aM A40
 clear A40
 by_cases c5 : (t148.length : Int) = (t151.length : Int)
 ·rw [if_pos c5] at H
  have c5b0 : ((t148.length : Int) == (t151.length : Int)) = true := beq_iff_eq.mpr c5
  have c5b1 : ((t148.length : Int) != (t151.length : Int)) = false := bne_eq_false_iff_eq.mpr c5
  have c5b2 : (t148.length == t151.length) = true := by first | simpa using c5 | (simp at c5 ⊢; omega)
  clear c5
  have H' := aM H
  clear H
  go_enter Try.func22, Try.ntmps22
  go_wp2_with (first | (go_at_call 40; (with_reducible refine (nat_trim.calls k (fun k_ => k_ < w.heap.size) _ _ l0 t148 _ ?side1 A3.out).mono ?_); (case side1 => exact Kd.V_mk HC0.out (Kd.F_below (Kd.C_F (Kd.heap_int .u64) HR0.out) (by repeat (first | (with_reducible first | exact HB.out | apply bA | apply bN | apply bD) | exact HB.out)))); rintro e w6 ⟨v149, rfl, ho0, hb⟩; have n0_ := aM (Kd.V_lower (Kd.V_mono (ok' := fun k_ => True) ho0 (fun k_ hk_ => trivial)) (below_size (by repeat (first | (with_reducible first | exact HB.out | apply bA | apply bN | apply bD) | exact HB.out)))); have n1_ := aM (below_step (by repeat (first | (with_reducible first | exact HB.out | apply bA | apply bN | apply bD) | exact HB.out)) hb); clear HB; have HO150 := n0_; have HB := n1_; clear n0_ n1_; (try clear hb); (try clear hb2); (try clear hk); (try clear hi); (try clear ho0)) | (go_at_call 40; (with_reducible refine (nat_trim.calls k (fun k_ => k_ < w.heap.size) _ _ l1 t151 _ ?side1 A4.out).mono ?_); (case side1 => exact Kd.V_mk HC1.out (Kd.F_below (Kd.C_F (Kd.heap_int .u64) HR1.out) (by repeat (first | (with_reducible first | exact HB.out | apply bA | apply bN | apply bD) | exact HB.out)))); rintro e w7 ⟨v152, rfl, ho0, hb⟩; have n0_ := aM (Kd.V_below (by (with_reducible repeat (first | apply vA | apply vN | apply vD)); exact HO150.out) hb); have n1_ := aM (Kd.V_lower (Kd.V_mono (ok' := fun k_ => True) ho0 (fun k_ hk_ => trivial)) (below_size (by repeat (first | (with_reducible first | exact HB.out | apply bA | apply bN | apply bD) | exact HB.out)))); have n2_ := aM (below_step (by repeat (first | (with_reducible first | exact HB.out | apply bA | apply bN | apply bD) | exact HB.out)) hb); clear HO150; clear HB; have HO150 := n0_; have HO153 := n1_; have HB := n2_; clear n0_ n1_ n2_; (try clear hb); (try clear hb2); (try clear hk); (try clear hi); (try clear ho0); obtain ⟨Ao8, co8, eo8⟩ := Kd.V_slice HO150.out; subst eo8; obtain ⟨Ao9, co9, eo9⟩ := Kd.V_slice HO153.out; subst eo9))
  repeat (go_quiet (first | (go_at_call 40; (with_reducible refine (nat_trim.calls k (fun k_ => k_ < w.heap.size) _ _ l0 t148 _ ?side1 A3.out).mono ?_); (case side1 => exact Kd.V_mk HC0.out (Kd.F_below (Kd.C_F (Kd.heap_int .u64) HR0.out) (by repeat (first | (with_reducible first | exact HB.out | apply bA | apply bN | apply bD) | exact HB.out)))); rintro e w6 ⟨v149, rfl, ho0, hb⟩; have n0_ := aM (Kd.V_lower (Kd.V_mono (ok' := fun k_ => True) ho0 (fun k_ hk_ => trivial)) (below_size (by repeat (first | (with_reducible first | exact HB.out | apply bA | apply bN | apply bD) | exact HB.out)))); have n1_ := aM (below_step (by repeat (first | (with_reducible first | exact HB.out | apply bA | apply bN | apply bD) | exact HB.out)) hb); clear HB; have HO150 := n0_; have HB := n1_; clear n0_ n1_; (try clear hb); (try clear hb2); (try clear hk); (try clear hi); (try clear ho0)) | (go_at_call 40; (with_reducible refine (nat_trim.calls k (fun k_ => k_ < w.heap.size) _ _ l1 t151 _ ?side1 A4.out).mono ?_); (case side1 => exact Kd.V_mk HC1.out (Kd.F_below (Kd.C_F (Kd.heap_int .u64) HR1.out) (by repeat (first | (with_reducible first | exact HB.out | apply bA | apply bN | apply bD) | exact HB.out)))); rintro e w7 ⟨v152, rfl, ho0, hb⟩; have n0_ := aM (Kd.V_below (by (with_reducible repeat (first | apply vA | apply vN | apply vD)); exact HO150.out) hb); have n1_ := aM (Kd.V_lower (Kd.V_mono (ok' := fun k_ => True) ho0 (fun k_ hk_ => trivial)) (below_size (by repeat (first | (with_reducible first | exact HB.out | apply bA | apply bN | apply bD) | exact HB.out)))); have n2_ := aM (below_step (by repeat (first | (with_reducible first | exact HB.out | apply bA | apply bN | apply bD) | exact HB.out)) hb); clear HO150; clear HB; have HO150 := n0_; have HO153 := n1_; have HB := n2_; clear n0_ n1_ n2_; (try clear hb); (try clear hb2); (try clear hk); (try clear hi); (try clear ho0); obtain ⟨Ao8, co8, eo8⟩ := Kd.V_slice HO150.out; subst eo8; obtain ⟨Ao9, co9, eo9⟩ := Kd.V_slice HO153.out; subst eo9)); try go_wp2_with (first | (go_at_call 40; (with_reducible refine (nat_trim.calls k (fun k_ => k_ < w.heap.size) _ _ l0 t148 _ ?side1 A3.out).mono ?_); (case side1 => exact Kd.V_mk HC0.out (Kd.F_below (Kd.C_F (Kd.heap_int .u64) HR0.out) (by repeat (first | (with_reducible first | exact HB.out | apply bA | apply bN | apply bD) | exact HB.out)))); rintro e w6 ⟨v149, rfl, ho0, hb⟩; have n0_ := aM (Kd.V_lower (Kd.V_mono (ok' := fun k_ => True) ho0 (fun k_ hk_ => trivial)) (below_size (by repeat (first | (with_reducible first | exact HB.out | apply bA | apply bN | apply bD) | exact HB.out)))); have n1_ := aM (below_step (by repeat (first | (with_reducible first | exact HB.out | apply bA | apply bN | apply bD) | exact HB.out)) hb); clear HB; have HO150 := n0_; have HB := n1_; clear n0_ n1_; (try clear hb); (try clear hb2); (try clear hk); (try clear hi); (try clear ho0)) | (go_at_call 40; (with_reducible refine (nat_trim.calls k (fun k_ => k_ < w.heap.size) _ _ l1 t151 _ ?side1 A4.out).mono ?_); (case side1 => exact Kd.V_mk HC1.out (Kd.F_below (Kd.C_F (Kd.heap_int .u64) HR1.out) (by repeat (first | (with_reducible first | exact HB.out | apply bA | apply bN | apply bD) | exact HB.out)))); rintro e w7 ⟨v152, rfl, ho0, hb⟩; have n0_ := aM (Kd.V_below (by (with_reducible repeat (first | apply vA | apply vN | apply vD)); exact HO150.out) hb); have n1_ := aM (Kd.V_lower (Kd.V_mono (ok' := fun k_ => True) ho0 (fun k_ hk_ => trivial)) (below_size (by repeat (first | (with_reducible first | exact HB.out | apply bA | apply bN | apply bD) | exact HB.out)))); have n2_ := aM (below_step (by repeat (first | (with_reducible first | exact HB.out | apply bA | apply bN | apply bD) | exact HB.out)) hb); clear HO150; clear HB; have HO150 := n0_; have HO153 := n1_; have HB := n2_; clear n0_ n1_ n2_; (try clear hb); (try clear hb2); (try clear hk); (try clear hi); (try clear ho0); obtain ⟨Ao8, co8, eo8⟩ := Kd.V_slice HO150.out; subst eo8; obtain ⟨Ao9, co9, eo9⟩ := Kd.V_slice HO153.out; subst eo9)))
  go_loopg [5] k (fun kq v5 w' => ∃ (x5_1 : Int), v5 = .int .i64 x5_1 ∧ Aside0 (nat_Cmp.l0 kq t148 t151 x5_1 = some r) ∧ Aside0 (kq ≤ k) ∧ Aside0 (Kd.V (Kd.int .u64) 46 w' w.heap.size (fun _ => True) (.slice Ao8 t148.length co8) t148) ∧ Aside0 (Kd.V (Kd.int .u64) 46 w' w.heap.size (fun _ => True) (.slice Ao9 t151.length co9) t151) ∧ Aside0 (Below w.heap.size w w'))
  case atStart => exact ⟨(wrap64 ((t148.length : Int) - 1)), (by first | rfl | (simp; done) | (simp [*]; done)), H', ⟨Nat.le_refl _⟩, ⟨by (with_reducible repeat (first | apply vA | apply vN | apply vD)); exact HO150.out⟩, ⟨by (with_reducible repeat (first | apply vA | apply vN | apply vD)); exact HO153.out⟩, ⟨by repeat (first | (with_reducible first | exact HB.out | apply bA | apply bN | apply bD) | exact HB.out)⟩⟩
  case round =>
   clear H'
   try clear c1
   try clear c2
   try clear p2
   try clear c5
   try clear c5b0
   try clear c5b1
   try clear c5b2
   try clear p6
   obtain ⟨x5_1, rfl, HA, HK1, HO_0, HO_1, HB⟩ := hrel
   cases gk with
   | zero => exact absurd HA.out (by simp [nat_Cmp.l0])
   | succ k1 =>
    have H := HA.out
    clear HA
    simp only [nat_Cmp.l0] at H
    by_cases c10 : x5_1 ≥ 0
    ·rw [if_pos c10] at H
     have c10b0 : decide (0 ≤ x5_1) = true := decide_eq_true c10
     clear c10
     by_cases c11 : 0 ≤ x5_1
     ·rw [if_pos c11] at H
      have c11b0 : decide (0 ≤ x5_1) = true := decide_eq_true c11
      clear c11
      by_cases c12 : x5_1 < (t148.length : Int)
      ·rw [if_pos c12] at H
       have c12b0 : decide (x5_1 < (t148.length : Int)) = true := decide_eq_true c12
       clear c12
       by_cases c13 : x5_1 < (t151.length : Int)
       ·rw [if_pos c13] at H
        have c13b0 : decide (x5_1 < (t151.length : Int)) = true := decide_eq_true c13
        clear c13
        by_cases c14 : (rd t148 x5_1) < (rd t151 x5_1)
        ·rw [if_pos c14] at H
         have c14b0 : decide ((rd t148 x5_1) < (rd t151 x5_1)) = true := decide_eq_true c14
         clear c14
         obtain rfl := Option.some.inj H
         have p154 : 0 ≤ (x5_1 : Int) := of_decide_eq_true (by first | (with_reducible assumption) | assumption)
         have q154 : x5_1 < (t148.length : Int) := of_decide_eq_true (by first | (with_reducible assumption) | assumption)
         obtain ⟨ad154, e154, hx154_0⟩ := Kd.at_int (Kd.V_reads' HO_0.out).2.2 x5_1 p154 q154
         cases e154
         replace p154 := eq_true p154
         replace q154 := eq_true q154
         have p155 : 0 ≤ (x5_1 : Int) := of_decide_eq_true (by first | (with_reducible assumption) | assumption)
         have q155 : x5_1 < (t151.length : Int) := of_decide_eq_true (by first | (with_reducible assumption) | assumption)
         obtain ⟨ad155, e155, hx155_0⟩ := Kd.at_int (Kd.V_reads' HO_1.out).2.2 x5_1 p155 q155
         cases e155
         replace p155 := eq_true p155
         replace q155 := eq_true q155
         go_wp2
         repeat (go_quiet (fail); try go_wp2)
         go_ret
         exact ⟨by first | rfl | (simp [errW_none, errW_some] <;> rfl) | (simp [*, errW_none, errW_some] <;> rfl), by repeat (first | (with_reducible first | exact HB.out | apply bA | apply bN | apply bD) | exact HB.out)⟩
        ·rw [if_neg c14] at H
         have c14b0 : decide ((rd t148 x5_1) < (rd t151 x5_1)) = false := decide_eq_false c14
         clear c14
         by_cases c15 : (rd t148 x5_1) > (rd t151 x5_1)
         ·rw [if_pos c15] at H
          have c15b0 : decide ((rd t151 x5_1) < (rd t148 x5_1)) = true := decide_eq_true c15
          clear c15
          obtain rfl := Option.some.inj H
          have p154 : 0 ≤ (x5_1 : Int) := of_decide_eq_true (by first | (with_reducible assumption) | assumption)
          have q154 : x5_1 < (t148.length : Int) := of_decide_eq_true (by first | (with_reducible assumption) | assumption)
          obtain ⟨ad154, e154, hx154_0⟩ := Kd.at_int (Kd.V_reads' HO_0.out).2.2 x5_1 p154 q154
          cases e154
          replace p154 := eq_true p154
          replace q154 := eq_true q154
          have p155 : 0 ≤ (x5_1 : Int) := of_decide_eq_true (by first | (with_reducible assumption) | assumption)
          have q155 : x5_1 < (t151.length : Int) := of_decide_eq_true (by first | (with_reducible assumption) | assumption)
          obtain ⟨ad155, e155, hx155_0⟩ := Kd.at_int (Kd.V_reads' HO_1.out).2.2 x5_1 p155 q155
          cases e155
          replace p155 := eq_true p155
          replace q155 := eq_true q155
          have p156 : 0 ≤ (x5_1 : Int) := of_decide_eq_true (by first | (with_reducible assumption) | assumption)
          have q156 : x5_1 < (t148.length : Int) := of_decide_eq_true (by first | (with_reducible assumption) | assumption)
          obtain ⟨ad156, e156, hx156_0⟩ := Kd.at_int (Kd.V_reads' HO_0.out).2.2 x5_1 p156 q156
          obtain rfl : ad154 = ad156 := (by injection e156)
          replace p156 := eq_true p156
          replace q156 := eq_true q156
          have p157 : 0 ≤ (x5_1 : Int) := of_decide_eq_true (by first | (with_reducible assumption) | assumption)
          have q157 : x5_1 < (t151.length : Int) := of_decide_eq_true (by first | (with_reducible assumption) | assumption)
          obtain ⟨ad157, e157, hx157_0⟩ := Kd.at_int (Kd.V_reads' HO_1.out).2.2 x5_1 p157 q157
          obtain rfl : ad155 = ad157 := (by injection e157)
          replace p157 := eq_true p157
          replace q157 := eq_true q157
          go_wp2
          repeat (go_quiet (fail); try go_wp2)
          go_ret
          exact ⟨by first | rfl | (simp [errW_none, errW_some] <;> rfl) | (simp [*, errW_none, errW_some] <;> rfl), by repeat (first | (with_reducible first | exact HB.out | apply bA | apply bN | apply bD) | exact HB.out)⟩
         ·rw [if_neg c15] at H
          have c15b0 : decide ((rd t151 x5_1) < (rd t148 x5_1)) = false := decide_eq_false c15
          clear c15
          have H' := aM H
          clear H
          have p154 : 0 ≤ (x5_1 : Int) := of_decide_eq_true (by first | (with_reducible assumption) | assumption)
          have q154 : x5_1 < (t148.length : Int) := of_decide_eq_true (by first | (with_reducible assumption) | assumption)
          obtain ⟨ad154, e154, hx154_0⟩ := Kd.at_int (Kd.V_reads' HO_0.out).2.2 x5_1 p154 q154
          cases e154
          replace p154 := eq_true p154
          replace q154 := eq_true q154
          have p155 : 0 ≤ (x5_1 : Int) := of_decide_eq_true (by first | (with_reducible assumption) | assumption)
          have q155 : x5_1 < (t151.length : Int) := of_decide_eq_true (by first | (with_reducible assumption) | assumption)
          obtain ⟨ad155, e155, hx155_0⟩ := Kd.at_int (Kd.V_reads' HO_1.out).2.2 x5_1 p155 q155
          cases e155
          replace p155 := eq_true p155
          replace q155 := eq_true q155
          have p156 : 0 ≤ (x5_1 : Int) := of_decide_eq_true (by first | (with_reducible assumption) | assumption)
          have q156 : x5_1 < (t148.length : Int) := of_decide_eq_true (by first | (with_reducible assumption) | assumption)
          obtain ⟨ad156, e156, hx156_0⟩ := Kd.at_int (Kd.V_reads' HO_0.out).2.2 x5_1 p156 q156
          obtain rfl : ad154 = ad156 := (by injection e156)
          replace p156 := eq_true p156
          replace q156 := eq_true q156
          have p157 : 0 ≤ (x5_1 : Int) := of_decide_eq_true (by first | (with_reducible assumption) | assumption)
          have q157 : x5_1 < (t151.length : Int) := of_decide_eq_true (by first | (with_reducible assumption) | assumption)
          obtain ⟨ad157, e157, hx157_0⟩ := Kd.at_int (Kd.V_reads' HO_1.out).2.2 x5_1 p157 q157
          obtain rfl : ad155 = ad157 := (by injection e157)
          replace p157 := eq_true p157
          replace q157 := eq_true q157
          go_wp2
          repeat (go_quiet (fail); try go_wp2)
          go_roundg k1
          case measure => have := HK1.out; omega
          case rel => exact ⟨(wrap64 (x5_1 - 1)), (by first | rfl | (simp; done) | (simp [*]; done)), H', ⟨by have := HK1.out; omega⟩, ⟨by (with_reducible repeat (first | apply vA | apply vN | apply vD)); exact HO_0.out⟩, ⟨by (with_reducible repeat (first | apply vA | apply vN | apply vD)); exact HO_1.out⟩, ⟨by repeat (first | (with_reducible first | exact HB.out | apply bA | apply bN | apply bD) | exact HB.out)⟩⟩
       ·rw [if_neg c13] at H
        exact absurd H (by simp)
      ·rw [if_neg c12] at H
       exact absurd H (by simp)
     ·rw [if_neg c11] at H
      exact absurd H (by simp)
    ·rw [if_neg c10] at H
     have c10b0 : decide (0 ≤ x5_1) = false := decide_eq_false c10
     clear c10
     obtain rfl := Option.some.inj H
     go_wp2
     repeat (go_quiet (fail); try go_wp2)
     go_ret
     exact ⟨by first | rfl | (simp [errW_none, errW_some] <;> rfl) | (simp [*, errW_none, errW_some] <;> rfl), by repeat (first | (with_reducible first | exact HB.out | apply bA | apply bN | apply bD) | exact HB.out)⟩
 ·rw [if_neg c5] at H
  have c5b0 : ((t148.length : Int) == (t151.length : Int)) = false := beq_eq_false_iff_ne.mpr c5
  have c5b1 : ((t148.length : Int) != (t151.length : Int)) = true := bne_iff_ne.mpr c5
  have c5b2 : (t148.length == t151.length) = false := by first | simpa using c5 | (simp at c5 ⊢; omega)
  by_cases c16 : (t148.length : Int) < (t151.length : Int)
  ·rw [if_pos c16] at H
   have c16b0 : decide ((t148.length : Int) < (t151.length : Int)) = true := decide_eq_true c16
   have c16b1 : decide (t148.length < t151.length) = true := decide_eq_true (Int.ofNat_lt.mp c16)
   clear c16
   obtain rfl := Option.some.inj H
   go_enter Try.func22, Try.ntmps22
   go_wp2_with (first | (go_at_call 40; (with_reducible refine (nat_trim.calls k (fun k_ => k_ < w.heap.size) _ _ l0 t148 _ ?side1 A3.out).mono ?_); (case side1 => exact Kd.V_mk HC0.out (Kd.F_below (Kd.C_F (Kd.heap_int .u64) HR0.out) (by repeat (first | (with_reducible first | exact HB.out | apply bA | apply bN | apply bD) | exact HB.out)))); rintro e w17 ⟨v149, rfl, ho0, hb⟩; have n0_ := aM (Kd.V_lower (Kd.V_mono (ok' := fun k_ => True) ho0 (fun k_ hk_ => trivial)) (below_size (by repeat (first | (with_reducible first | exact HB.out | apply bA | apply bN | apply bD) | exact HB.out)))); have n1_ := aM (below_step (by repeat (first | (with_reducible first | exact HB.out | apply bA | apply bN | apply bD) | exact HB.out)) hb); clear HB; have HO150 := n0_; have HB := n1_; clear n0_ n1_; (try clear hb); (try clear hb2); (try clear hk); (try clear hi); (try clear ho0)) | (go_at_call 40; (with_reducible refine (nat_trim.calls k (fun k_ => k_ < w.heap.size) _ _ l1 t151 _ ?side1 A4.out).mono ?_); (case side1 => exact Kd.V_mk HC1.out (Kd.F_below (Kd.C_F (Kd.heap_int .u64) HR1.out) (by repeat (first | (with_reducible first | exact HB.out | apply bA | apply bN | apply bD) | exact HB.out)))); rintro e w18 ⟨v152, rfl, ho0, hb⟩; have n0_ := aM (Kd.V_below (by (with_reducible repeat (first | apply vA | apply vN | apply vD)); exact HO150.out) hb); have n1_ := aM (Kd.V_lower (Kd.V_mono (ok' := fun k_ => True) ho0 (fun k_ hk_ => trivial)) (below_size (by repeat (first | (with_reducible first | exact HB.out | apply bA | apply bN | apply bD) | exact HB.out)))); have n2_ := aM (below_step (by repeat (first | (with_reducible first | exact HB.out | apply bA | apply bN | apply bD) | exact HB.out)) hb); clear HO150; clear HB; have HO150 := n0_; have HO153 := n1_; have HB := n2_; clear n0_ n1_ n2_; (try clear hb); (try clear hb2); (try clear hk); (try clear hi); (try clear ho0); obtain ⟨Ao19, co19, eo19⟩ := Kd.V_slice HO150.out; subst eo19; obtain ⟨Ao20, co20, eo20⟩ := Kd.V_slice HO153.out; subst eo20))
   repeat (go_quiet (first | (go_at_call 40; (with_reducible refine (nat_trim.calls k (fun k_ => k_ < w.heap.size) _ _ l0 t148 _ ?side1 A3.out).mono ?_); (case side1 => exact Kd.V_mk HC0.out (Kd.F_below (Kd.C_F (Kd.heap_int .u64) HR0.out) (by repeat (first | (with_reducible first | exact HB.out | apply bA | apply bN | apply bD) | exact HB.out)))); rintro e w17 ⟨v149, rfl, ho0, hb⟩; have n0_ := aM (Kd.V_lower (Kd.V_mono (ok' := fun k_ => True) ho0 (fun k_ hk_ => trivial)) (below_size (by repeat (first | (with_reducible first | exact HB.out | apply bA | apply bN | apply bD) | exact HB.out)))); have n1_ := aM (below_step (by repeat (first | (with_reducible first | exact HB.out | apply bA | apply bN | apply bD) | exact HB.out)) hb); clear HB; have HO150 := n0_; have HB := n1_; clear n0_ n1_; (try clear hb); (try clear hb2); (try clear hk); (try clear hi); (try clear ho0)) | (go_at_call 40; (with_reducible refine (nat_trim.calls k (fun k_ => k_ < w.heap.size) _ _ l1 t151 _ ?side1 A4.out).mono ?_); (case side1 => exact Kd.V_mk HC1.out (Kd.F_below (Kd.C_F (Kd.heap_int .u64) HR1.out) (by repeat (first | (with_reducible first | exact HB.out | apply bA | apply bN | apply bD) | exact HB.out)))); rintro e w18 ⟨v152, rfl, ho0, hb⟩; have n0_ := aM (Kd.V_below (by (with_reducible repeat (first | apply vA | apply vN | apply vD)); exact HO150.out) hb); have n1_ := aM (Kd.V_lower (Kd.V_mono (ok' := fun k_ => True) ho0 (fun k_ hk_ => trivial)) (below_size (by repeat (first | (with_reducible first | exact HB.out | apply bA | apply bN | apply bD) | exact HB.out)))); have n2_ := aM (below_step (by repeat (first | (with_reducible first | exact HB.out | apply bA | apply bN | apply bD) | exact HB.out)) hb); clear HO150; clear HB; have HO150 := n0_; have HO153 := n1_; have HB := n2_; clear n0_ n1_ n2_; (try clear hb); (try clear hb2); (try clear hk); (try clear hi); (try clear ho0); obtain ⟨Ao19, co19, eo19⟩ := Kd.V_slice HO150.out; subst eo19; obtain ⟨Ao20, co20, eo20⟩ := Kd.V_slice HO153.out; subst eo20)); try go_wp2_with (first | (go_at_call 40; (with_reducible refine (nat_trim.calls k (fun k_ => k_ < w.heap.size) _ _ l0 t148 _ ?side1 A3.out).mono ?_); (case side1 => exact Kd.V_mk HC0.out (Kd.F_below (Kd.C_F (Kd.heap_int .u64) HR0.out) (by repeat (first | (with_reducible first | exact HB.out | apply bA | apply bN | apply bD) | exact HB.out)))); rintro e w17 ⟨v149, rfl, ho0, hb⟩; have n0_ := aM (Kd.V_lower (Kd.V_mono (ok' := fun k_ => True) ho0 (fun k_ hk_ => trivial)) (below_size (by repeat (first | (with_reducible first | exact HB.out | apply bA | apply bN | apply bD) | exact HB.out)))); have n1_ := aM (below_step (by repeat (first | (with_reducible first | exact HB.out | apply bA | apply bN | apply bD) | exact HB.out)) hb); clear HB; have HO150 := n0_; have HB := n1_; clear n0_ n1_; (try clear hb); (try clear hb2); (try clear hk); (try clear hi); (try clear ho0)) | (go_at_call 40; (with_reducible refine (nat_trim.calls k (fun k_ => k_ < w.heap.size) _ _ l1 t151 _ ?side1 A4.out).mono ?_); (case side1 => exact Kd.V_mk HC1.out (Kd.F_below (Kd.C_F (Kd.heap_int .u64) HR1.out) (by repeat (first | (with_reducible first | exact HB.out | apply bA | apply bN | apply bD) | exact HB.out)))); rintro e w18 ⟨v152, rfl, ho0, hb⟩; have n0_ := aM (Kd.V_below (by (with_reducible repeat (first | apply vA | apply vN | apply vD)); exact HO150.out) hb); have n1_ := aM (Kd.V_lower (Kd.V_mono (ok' := fun k_ => True) ho0 (fun k_ hk_ => trivial)) (below_size (by repeat (first | (with_reducible first | exact HB.out | apply bA | apply bN | apply bD) | exact HB.out)))); have n2_ := aM (below_step (by repeat (first | (with_reducible first | exact HB.out | apply bA | apply bN | apply bD) | exact HB.out)) hb); clear HO150; clear HB; have HO150 := n0_; have HO153 := n1_; have HB := n2_; clear n0_ n1_ n2_; (try clear hb); (try clear hb2); (try clear hk); (try clear hi); (try clear ho0); obtain ⟨Ao19, co19, eo19⟩ := Kd.V_slice HO150.out; subst eo19; obtain ⟨Ao20, co20, eo20⟩ := Kd.V_slice HO153.out; subst eo20)))
   go_ret
   exact ⟨by first | rfl | (simp [errW_none, errW_some] <;> rfl) | (simp [*, errW_none, errW_some] <;> rfl), by repeat (first | (with_reducible first | exact HB.out | apply bA | apply bN | apply bD) | exact HB.out)⟩
  ·rw [if_neg c16] at H
   have c16b0 : decide ((t148.length : Int) < (t151.length : Int)) = false := decide_eq_false c16
   have c16b1 : decide (t148.length < t151.length) = false := decide_eq_false (fun h => c16 (Int.ofNat_lt.mpr h))
   clear c16
   obtain rfl := Option.some.inj H
   go_enter Try.func22, Try.ntmps22
   go_wp2_with (first | (go_at_call 40; (with_reducible refine (nat_trim.calls k (fun k_ => k_ < w.heap.size) _ _ l0 t148 _ ?side1 A3.out).mono ?_); (case side1 => exact Kd.V_mk HC0.out (Kd.F_below (Kd.C_F (Kd.heap_int .u64) HR0.out) (by repeat (first | (with_reducible first | exact HB.out | apply bA | apply bN | apply bD) | exact HB.out)))); rintro e w21 ⟨v149, rfl, ho0, hb⟩; have n0_ := aM (Kd.V_lower (Kd.V_mono (ok' := fun k_ => True) ho0 (fun k_ hk_ => trivial)) (below_size (by repeat (first | (with_reducible first | exact HB.out | apply bA | apply bN | apply bD) | exact HB.out)))); have n1_ := aM (below_step (by repeat (first | (with_reducible first | exact HB.out | apply bA | apply bN | apply bD) | exact HB.out)) hb); clear HB; have HO150 := n0_; have HB := n1_; clear n0_ n1_; (try clear hb); (try clear hb2); (try clear hk); (try clear hi); (try clear ho0)) | (go_at_call 40; (with_reducible refine (nat_trim.calls k (fun k_ => k_ < w.heap.size) _ _ l1 t151 _ ?side1 A4.out).mono ?_); (case side1 => exact Kd.V_mk HC1.out (Kd.F_below (Kd.C_F (Kd.heap_int .u64) HR1.out) (by repeat (first | (with_reducible first | exact HB.out | apply bA | apply bN | apply bD) | exact HB.out)))); rintro e w22 ⟨v152, rfl, ho0, hb⟩; have n0_ := aM (Kd.V_below (by (with_reducible repeat (first | apply vA | apply vN | apply vD)); exact HO150.out) hb); have n1_ := aM (Kd.V_lower (Kd.V_mono (ok' := fun k_ => True) ho0 (fun k_ hk_ => trivial)) (below_size (by repeat (first | (with_reducible first | exact HB.out | apply bA | apply bN | apply bD) | exact HB.out)))); have n2_ := aM (below_step (by repeat (first | (with_reducible first | exact HB.out | apply bA | apply bN | apply bD) | exact HB.out)) hb); clear HO150; clear HB; have HO150 := n0_; have HO153 := n1_; have HB := n2_; clear n0_ n1_ n2_; (try clear hb); (try clear hb2); (try clear hk); (try clear hi); (try clear ho0); obtain ⟨Ao23, co23, eo23⟩ := Kd.V_slice HO150.out; subst eo23; obtain ⟨Ao24, co24, eo24⟩ := Kd.V_slice HO153.out; subst eo24))
   repeat (go_quiet (first | (go_at_call 40; (with_reducible refine (nat_trim.calls k (fun k_ => k_ < w.heap.size) _ _ l0 t148 _ ?side1 A3.out).mono ?_); (case side1 => exact Kd.V_mk HC0.out (Kd.F_below (Kd.C_F (Kd.heap_int .u64) HR0.out) (by repeat (first | (with_reducible first | exact HB.out | apply bA | apply bN | apply bD) | exact HB.out)))); rintro e w21 ⟨v149, rfl, ho0, hb⟩; have n0_ := aM (Kd.V_lower (Kd.V_mono (ok' := fun k_ => True) ho0 (fun k_ hk_ => trivial)) (below_size (by repeat (first | (with_reducible first | exact HB.out | apply bA | apply bN | apply bD) | exact HB.out)))); have n1_ := aM (below_step (by repeat (first | (with_reducible first | exact HB.out | apply bA | apply bN | apply bD) | exact HB.out)) hb); clear HB; have HO150 := n0_; have HB := n1_; clear n0_ n1_; (try clear hb); (try clear hb2); (try clear hk); (try clear hi); (try clear ho0)) | (go_at_call 40; (with_reducible refine (nat_trim.calls k (fun k_ => k_ < w.heap.size) _ _ l1 t151 _ ?side1 A4.out).mono ?_); (case side1 => exact Kd.V_mk HC1.out (Kd.F_below (Kd.C_F (Kd.heap_int .u64) HR1.out) (by repeat (first | (with_reducible first | exact HB.out | apply bA | apply bN | apply bD) | exact HB.out)))); rintro e w22 ⟨v152, rfl, ho0, hb⟩; have n0_ := aM (Kd.V_below (by (with_reducible repeat (first | apply vA | apply vN | apply vD)); exact HO150.out) hb); have n1_ := aM (Kd.V_lower (Kd.V_mono (ok' := fun k_ => True) ho0 (fun k_ hk_ => trivial)) (below_size (by repeat (first | (with_reducible first | exact HB.out | apply bA | apply bN | apply bD) | exact HB.out)))); have n2_ := aM (below_step (by repeat (first | (with_reducible first | exact HB.out | apply bA | apply bN | apply bD) | exact HB.out)) hb); clear HO150; clear HB; have HO150 := n0_; have HO153 := n1_; have HB := n2_; clear n0_ n1_ n2_; (try clear hb); (try clear hb2); (try clear hk); (try clear hi); (try clear ho0); obtain ⟨Ao23, co23, eo23⟩ := Kd.V_slice HO150.out; subst eo23; obtain ⟨Ao24, co24, eo24⟩ := Kd.V_slice HO153.out; subst eo24)); try go_wp2_with (first | (go_at_call 40; (with_reducible refine (nat_trim.calls k (fun k_ => k_ < w.heap.size) _ _ l0 t148 _ ?side1 A3.out).mono ?_); (case side1 => exact Kd.V_mk HC0.out (Kd.F_below (Kd.C_F (Kd.heap_int .u64) HR0.out) (by repeat (first | (with_reducible first | exact HB.out | apply bA | apply bN | apply bD) | exact HB.out)))); rintro e w21 ⟨v149, rfl, ho0, hb⟩; have n0_ := aM (Kd.V_lower (Kd.V_mono (ok' := fun k_ => True) ho0 (fun k_ hk_ => trivial)) (below_size (by repeat (first | (with_reducible first | exact HB.out | apply bA | apply bN | apply bD) | exact HB.out)))); have n1_ := aM (below_step (by repeat (first | (with_reducible first | exact HB.out | apply bA | apply bN | apply bD) | exact HB.out)) hb); clear HB; have HO150 := n0_; have HB := n1_; clear n0_ n1_; (try clear hb); (try clear hb2); (try clear hk); (try clear hi); (try clear ho0)) | (go_at_call 40; (with_reducible refine (nat_trim.calls k (fun k_ => k_ < w.heap.size) _ _ l1 t151 _ ?side1 A4.out).mono ?_); (case side1 => exact Kd.V_mk HC1.out (Kd.F_below (Kd.C_F (Kd.heap_int .u64) HR1.out) (by repeat (first | (with_reducible first | exact HB.out | apply bA | apply bN | apply bD) | exact HB.out)))); rintro e w22 ⟨v152, rfl, ho0, hb⟩; have n0_ := aM (Kd.V_below (by (with_reducible repeat (first | apply vA | apply vN | apply vD)); exact HO150.out) hb); have n1_ := aM (Kd.V_lower (Kd.V_mono (ok' := fun k_ => True) ho0 (fun k_ hk_ => trivial)) (below_size (by repeat (first | (with_reducible first | exact HB.out | apply bA | apply bN | apply bD) | exact HB.out)))); have n2_ := aM (below_step (by repeat (first | (with_reducible first | exact HB.out | apply bA | apply bN | apply bD) | exact HB.out)) hb); clear HO150; clear HB; have HO150 := n0_; have HO153 := n1_; have HB := n2_; clear n0_ n1_ n2_; (try clear hb); (try clear hb2); (try clear hk); (try clear hi); (try clear ho0); obtain ⟨Ao23, co23, eo23⟩ := Kd.V_slice HO150.out; subst eo23; obtain ⟨Ao24, co24, eo24⟩ := Kd.V_slice HO153.out; subst eo24)))
   go_ret
   exact ⟨by first | rfl | (simp [errW_none, errW_some] <;> rfl) | (simp [*, errW_none, errW_some] <;> rfl), by repeat (first | (with_reducible first | exact HB.out | apply bA | apply bN | apply bD) | exact HB.out)⟩

end Go.Proofs.Ytolflieiipnndaa.X
