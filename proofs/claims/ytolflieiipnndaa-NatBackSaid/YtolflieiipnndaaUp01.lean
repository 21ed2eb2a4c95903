/- The head of the laws on numbers: the document's examples. -/
import Derived.Test.YtolflieiipnndaaDivS
import Derived.Test.YtolflieiipnndaaXP2
import Derived.Test.YtolflieiipnndaaXP10
namespace Go.Proofs.Ytolflieiipnndaa.X
open Go.RowKit Go.Proofs.Ytolflieiipnndaa Go.Proofs.YtolflieiipnndaaW.PrintWords Go.Proofs.YtolflieiipnndaaW.PrintLast Go.Proofs.YtolflieiipnndaaW.PrintMore
set_option linter.unusedVariables false
theorem V_lit1 (W : World) (d : Int) : Kd.V (Kd.int .u64) 46 (W.alloc (.cells #[.int .u64 d] 46)) (W.alloc (.cells #[.int .u64 d] 46)).heap.size (fun _ => True) (.slice (some ⟨W.heap.size, 0, none⟩) 1 1) [d] :=
  V_of_rd (Rd.lit W .u64 46 [d] (by simp)) (fun _ _ => trivial)
theorem V_base {α : Type} {d : Kd α} {e b b' : Nat} {W : World} {ok : Nat → Prop} {v : Value} {xs : List α} (h : Kd.V d e W b ok v xs) : Kd.V d e W b' ok v xs := h
theorem V_lit2 (W : World) (a b : Int) : Kd.V (Kd.int .u64) 46 ((W.alloc (.cells #[.int .u64 a] 46)).alloc (.cells #[.int .u64 b] 46)) ((W.alloc (.cells #[.int .u64 a] 46)).alloc (.cells #[.int .u64 b] 46)).heap.size (fun _ => True) (.slice (some ⟨W.heap.size, 0, none⟩) 1 1) [a] ∧
    Kd.V (Kd.int .u64) 46 ((W.alloc (.cells #[.int .u64 a] 46)).alloc (.cells #[.int .u64 b] 46)) ((W.alloc (.cells #[.int .u64 a] 46)).alloc (.cells #[.int .u64 b] 46)).heap.size (fun _ => True) (.slice (some ⟨W.heap.size + 1, 0, none⟩) 1 1) [b] := by
  refine ⟨V_base (Kd.V_alloc (V_lit1 W a) _), ?_⟩
  have h := V_lit1 (W.alloc (.cells #[.int .u64 a] 46)) b
  rwa [show (W.alloc (.cells #[.int .u64 a] 46)).heap.size = W.heap.size + 1 by simp] at h
theorem up_add : nat_Add.f 200 [18446744073709551615] [1] = some ([0, 1], none) := by kernel_rfl
theorem up_both : nat_both.f 200 [7] [2] = some ([7], [2], none) := by kernel_rfl
theorem up_cmp : nat_Cmp.f 200 [7] [2] = some 1 := by kernel_rfl
theorem up_short : nat_short.f 200 [7] 2 = some ([3], [1]) := by kernel_rfl
theorem up_both0 : nat_both.f 200 [7] [] = some ([7], [], none) := by kernel_rfl
theorem up_sub : nat_Sub.f 200 [1] [2] = some ([], some 3) := by kernel_rfl
theorem up_bytes : nat_Bytes.f 200 [256] 3 = some ([0, 1, 0], none) := by kernel_rfl
def treenaillaw01_up.f : Option Bool := some true
set_option maxHeartbeats 4000000 in
theorem treenaillaw01_up.calls (r : Bool) (w : World) (h : treenaillaw01_up.f = some r) :
    Calls Try.prog 10 #[] w fun e w' => e = .returned (.bool r) ∧ Below w.heap.size w w' := by
  injection h with h
  subst h
  have hu := Try.underlying27
  have hc := Try.underlying32
  have ec := eql_code
  go_enter Try.func10, Try.ntmps10
  go_wp2_with fail
  have HA := V_lit2 w 18446744073709551615 1
  have HB1 := Lib.hid (((Below.refl w.heap.size w).alloc (Nat.le_refl _) (.cells #[.int .u64 18446744073709551615] 46)).alloc (by simp) (.cells #[.int .u64 1] 46))
  refine (nat_Add.calls 200 (fun _ => True) _ 1 [18446744073709551615] (fun _ => True) _ 1 [1] [0, 1] none _ HA.1 HA.2 up_add).mono ?_
  clear HA
  rintro e w2 ⟨v2, rfl, h2, hb2⟩
  have HB2 := Lib.hid (HB1.out.trans (hb2.mono HB1.out.size))
  have HR2 := Lib.hid (rd_of_V h2)
  obtain ⟨A2, c2, rfl⟩ := Kd.V_slice h2
  clear h2 hb2 HB1
  simp only [errW_none]
  go_wp2_with fail
  have HA := V_lit2 w2 7 2
  have HB3 := Lib.hid ((HB2.out.alloc HB2.out.size (.cells #[.int .u64 7] 46)).alloc (by have := HB2.out.size; simp; omega) (.cells #[.int .u64 2] 46))
  have HR3 := Lib.hid ((HR2.out.below ((Below.refl w2.heap.size w2).alloc (Nat.le_refl _) (.cells #[.int .u64 7] 46))).below ((Below.refl _ _).alloc (Nat.le_refl _) (.cells #[.int .u64 2] 46)))
  refine (div_one 200 (fun _ => True) (fun _ => True) _ _ 1 1 [7] [2] [7] [3] [1] 2 1 _ HA.1 HA.2 up_both up_cmp (by omega) up_short).mono ?_
  clear HA HR2 HB2
  rintro e w4 ⟨v3, v4, rfl, h3, h4, hb4⟩
  have HB4 := Lib.hid (HB3.out.trans (hb4.mono HB3.out.size))
  have HR2 := Lib.hid (HR3.out.below hb4)
  have HR3 := Lib.hid (rd_of_V h3)
  have HR4 := Lib.hid (rd_of_V h4)
  obtain ⟨A3, c3, rfl⟩ := Kd.V_slice h3
  obtain ⟨A4, c4, rfl⟩ := Kd.V_slice h4
  clear h3 h4 hb4 HB3
  simp only [errW_none]
  go_wp2_with fail
  have HA := V_lit1 w4 7
  have hbx := (Below.refl w4.heap.size w4).alloc (Nat.le_refl _) (.cells #[.int .u64 7] 46)
  have HB5 := Lib.hid (HB4.out.trans (hbx.mono HB4.out.size))
  refine (div_zero 200 (fun _ => True) (fun _ => True) _ none 1 0 [7] [] [7] _ HA (Kd.V_nil _ _ _ _ _) up_both0).mono ?_
  clear HA
  rintro e w5 ⟨rfl, hb5⟩
  have HB6 := Lib.hid (HB5.out.trans (hb5.mono HB5.out.size))
  have HR2' := Lib.hid ((HR2.out.below hbx).below hb5)
  have HR3' := Lib.hid ((HR3.out.below hbx).below hb5)
  have HR4' := Lib.hid ((HR4.out.below hbx).below hb5)
  clear HR2 HR3 HR4 HB4 HB5 hb5 hbx
  simp only [errW_some]
  go_wp2_with fail
  have HA := V_lit2 w5 1 2
  have hbx := ((Below.refl w5.heap.size w5).alloc (Nat.le_refl _) (.cells #[.int .u64 1] 46)).alloc (by simp) (.cells #[.int .u64 2] 46)
  have HB7 := Lib.hid (HB6.out.trans (hbx.mono HB6.out.size))
  refine (nat_Sub.calls 200 (fun _ => True) _ 1 [1] (fun _ => True) _ 1 [2] [] (some 3) _ HA.1 HA.2 up_sub).mono ?_
  clear HA
  rintro e w6 ⟨v6, rfl, h6, hb6⟩
  obtain ⟨A6, c6, rfl⟩ := Kd.V_slice h6
  have HB8 := Lib.hid (HB7.out.trans (hb6.mono HB7.out.size))
  have HR2 := Lib.hid ((HR2'.out.below hbx).below hb6)
  have HR3 := Lib.hid ((HR3'.out.below hbx).below hb6)
  have HR4 := Lib.hid ((HR4'.out.below hbx).below hb6)
  clear HR2' HR3' HR4' HB6 HB7 hb6 hbx h6
  simp only [errW_some]
  go_wp2_with fail
  have HA := V_C (V_lit1 w6 256)
  have hbx := (Below.refl w6.heap.size w6).alloc (Nat.le_refl _) (.cells #[.int .u64 256] 46)
  have HB9 := Lib.hid (HB8.out.trans (hbx.mono HB8.out.size))
  refine (nat_Bytes.calls 200 _ 1 [256] 3 [0, 1, 0] none _ HA.2.2 (by simp) up_bytes).mono ?_
  clear HA
  rintro e w7 ⟨v7, rfl, h7, hb7⟩
  have HB10 := Lib.hid (HB9.out.trans (hb7.mono HB9.out.size))
  have hr2 := (HR2.out.below hbx).below hb7
  have hr3 := (HR3.out.below hbx).below hb7
  have hr4 := (HR4.out.below hbx).below hb7
  have hr7 := rd_of_RN h7
  have hs7 := hr7.string (P := Try.prog) Try.underlying47 Try.underlying5 9 Try.underlying9
  obtain ⟨A7, c7, rfl⟩ := hr7.len
  obtain ⟨a2, rfl, q20⟩ := hr2.at_ 0 (by simp)
  obtain ⟨a2', e2, q21⟩ := hr2.at_ 1 (by simp)
  injection e2 with e2
  subst e2
  obtain ⟨a3, rfl, q30⟩ := hr3.at_ 0 (by simp)
  obtain ⟨a4, rfl, q40⟩ := hr4.at_ 0 (by simp)
  have hz : ∀ ad : Addr, (ad.add 0) = ad := by intro ad; simp [Addr.add]
  rw [hz] at q20 q30 q40
  rw [add_pos _ _ (by omega)] at q21
  simp only [List.getD_cons_zero, List.getD_cons_succ] at q20 q21 q30 q40
  clear HR2 HR3 HR4 HB8 HB9 hb7 hbx h7 hr2 hr3 hr4 hr7 hz
  simp only [errW_none]
  have hst : (strOfNums [0, 1, 0]).toList = [0, 1, 0] := by kernel_rfl
  go_wp2
  go_ret
  exact ⟨rfl, HB10.out⟩
end Go.Proofs.Ytolflieiipnndaa.X
