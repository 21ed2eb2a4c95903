/- Joined: DivS, Up01. -/
import Derived.Test.YtolflieiipnndaaDoorXP1
import Derived.Test.YtolflieiipnndaaDoorXP2
import Derived.Test.YtolflieiipnndaaDoorXP3
import Derived.Test.YtolflieiipnndaaDoorXP4
import Derived.Test.YtolflieiipnndaaDoorXP5
import Derived.Handy
import Derived.Deep.DeepFit
/- nat.Div where the divisor has at most one digit. -/
namespace Go.Proofs.YtolflieiipnndaaDoor.X
open Go.RowKit Go.Proofs.YtolflieiipnndaaDoor Go.Proofs.YtolflieiipnndaaDoorW.PrintWords Go.Proofs.YtolflieiipnndaaDoorW.PrintLast Go.Proofs.YtolflieiipnndaaDoorW.PrintMore
set_option linter.unusedVariables false
theorem V_below' {α : Type} {d : Kd α} {e base : Nat} {W w1 : World} {ok : Nat → Prop} {v : Value} {xs : List α} (h : Kd.V d e W base ok v xs) (hb : Below W.heap.size W w1) : Kd.V d e w1 base ok v xs := Kd.V_below h hb
theorem V_C {α : Type} {d : Kd α} {e base : Nat} {W : World} {ok : Nat → Prop} {A : Option Addr} {n c : Nat} {xs : List α} (h : Kd.V d e W base ok (.slice A n c) xs) : n = xs.length ∧ n ≤ c ∧ Kd.C d W A xs.length xs := ⟨(Kd.V_at h).1, (Kd.V_at h).2.1, Kd.F_now (Kd.V_at h).2.2⟩
set_option maxHeartbeats 2000000 in
/-- By nothing. -/
theorem div_zero (k : Nat) (P0 P1 : Nat → Prop) (A0 A1 : Option Addr) (c0 c1 : Nat) (l0 l1 t0 : List Int) (w : World)
    (hs0 : Kd.V (Kd.int .u64) 40 w w.heap.size P0 (.slice A0 l0.length c0) l0) (hs1 : Kd.V (Kd.int .u64) 40 w w.heap.size P1 (.slice A1 l1.length c1) l1) (h : nat_both.f k l0 l1 = some (t0, [], none)) :
    Calls Tryd.prog 8 #[.slice A0 l0.length c0, .slice A1 l1.length c1] w fun e w' => e = .returned (.tuple #[.slice none 0 0, .slice none 0 0, errW (some 4)]) ∧ Below w.heap.size w w' := by
  have HC := Lib.hid (nat_both.calls k P0 A0 c0 l0 P1 A1 c1 l1 t0 [] none w hs0 hs1 h)
  clear hs0 hs1 h
  have hu := Tryd.underlying27
  have hc := Tryd.underlying41
  go_enter Tryd.func8, Tryd.ntmps8
  go_wp2_with fail
  refine HC.out.mono ?_
  rintro e w2 ⟨v0, v1, rfl, h0, h1, hb⟩
  obtain ⟨A2, c2, rfl⟩ := Kd.V_slice h0
  obtain ⟨A3, c3, rfl⟩ := Kd.V_slice h1
  have HB := Lib.hid hb
  clear HC hb h0 h1
  simp only [errW_none, List.length_nil]
  go_wp2
  go_ret3
  exact ⟨rfl, HB.out⟩
set_option maxHeartbeats 2000000 in
/-- By one digit, of a number that isn't less. -/
theorem div_one (k : Nat) (P0 P1 : Nat → Prop) (A0 A1 : Option Addr) (c0 c1 : Nat) (l0 l1 t0 r1 r2 : List Int) (d c : Int) (w : World)
    (hs0 : Kd.V (Kd.int .u64) 40 w w.heap.size P0 (.slice A0 l0.length c0) l0) (hs1 : Kd.V (Kd.int .u64) 40 w w.heap.size P1 (.slice A1 l1.length c1) l1) (h : nat_both.f k l0 l1 = some (t0, [d], none))
    (hc : nat_Cmp.f k t0 [d] = some c) (hc0 : 0 ≤ c) (hsh : nat_short.f k t0 d = some (r1, r2)) :
    Calls Tryd.prog 8 #[.slice A0 l0.length c0, .slice A1 l1.length c1] w fun e w' => ∃ v0 v1 : Value, e = .returned (.tuple #[v0, v1, errW none]) ∧ Kd.V (Kd.int .u64) 40 w' w.heap.size (fun k_ => w.heap.size ≤ k_) v0 r1 ∧ Kd.V (Kd.int .u64) 40 w' w.heap.size (fun k_ => w.heap.size ≤ k_) v1 r2 ∧ Below w.heap.size w w' := by
  have HC := Lib.hid (nat_both.calls k P0 A0 c0 l0 P1 A1 c1 l1 t0 [d] none w hs0 hs1 h)
  have HCM := Lib.hid hc
  have HSH := Lib.hid hsh
  have hd : decide (c < 0) = false := by simpa using hc0
  clear hs0 hs1 h hc hsh
  have hu := Tryd.underlying27
  have hc := Tryd.underlying41
  go_enter Tryd.func8, Tryd.ntmps8
  go_wp2_with fail
  refine HC.out.mono ?_
  rintro e w2 ⟨v0, v1, rfl, h0, h1, hb⟩
  obtain ⟨A2, c2, rfl⟩ := Kd.V_slice h0
  obtain ⟨A3, c3, rfl⟩ := Kd.V_slice h1
  have HB := Lib.hid hb
  have H0 := Lib.hid h0
  have H1 := Lib.hid h1
  clear HC hb h0 h1
  simp only [errW_none, List.length_cons, List.length_nil]
  go_wp2_with fail
  refine (nat_Cmp.calls k A2 c2 t0 A3 c3 [d] c w2 (V_C H0.out).2.2 (V_C H0.out).2.1 (V_C H1.out).2.2 (V_C H1.out).2.1 HCM.out).mono ?_
  rintro e w3 ⟨rfl, hb3⟩
  have HB3 := Lib.hid (HB.out.trans (hb3.mono HB.out.size))
  have H03 := Lib.hid (V_below' H0.out hb3)
  have hx := rd_of_V (V_below' H1.out hb3)
  obtain ⟨ad, rfl, hcell⟩ := hx.at_ 0 (by simp)
  have hz : (ad.add 0) = ad := by simp [Addr.add]
  rw [hz] at hcell
  simp only [List.getD_cons_zero] at hcell
  clear hb3 hx hz H0 H1 HB
  go_wp2_with fail
  refine (nat_short.calls k A2 c2 t0 d r1 r2 w3 (V_C H03.out).2.2 (V_C H03.out).2.1 HSH.out).mono ?_
  rintro e w4 ⟨v4, v5, rfl, g4, g5, hb4⟩
  have HB4 := Lib.hid (HB3.out.trans (hb4.mono HB3.out.size))
  have H4 := Lib.hid g4
  have H5 := Lib.hid g5
  have HL := Lib.hid HB3.out.size
  clear g4 g5 hb4 hcell
  go_wp2
  go_ret3
  exact ⟨v4, v5, rfl, Kd.V_lower (Kd.V_mono H4.out (fun k hk => Nat.le_trans HL.out hk)) HL.out, Kd.V_lower (Kd.V_mono H5.out (fun k hk => Nat.le_trans HL.out hk)) HL.out, HB4.out⟩
end Go.Proofs.YtolflieiipnndaaDoor.X

/- The head of the laws on numbers: the document's examples. -/
namespace Go.Proofs.YtolflieiipnndaaDoor.X
open Go.RowKit Go.Proofs.YtolflieiipnndaaDoor Go.Proofs.YtolflieiipnndaaDoorW.PrintWords Go.Proofs.YtolflieiipnndaaDoorW.PrintLast Go.Proofs.YtolflieiipnndaaDoorW.PrintMore
set_option linter.unusedVariables false
theorem V_lit1 (W : World) (d : Int) : Kd.V (Kd.int .u64) 40 (W.alloc (.cells #[.int .u64 d] 40)) (W.alloc (.cells #[.int .u64 d] 40)).heap.size (fun _ => True) (.slice (some ⟨W.heap.size, 0, none⟩) 1 1) [d] :=
  V_of_rd (Rd.lit W .u64 40 [d] (by simp)) (fun _ _ => trivial)
theorem V_base {α : Type} {d : Kd α} {e b b' : Nat} {W : World} {ok : Nat → Prop} {v : Value} {xs : List α} (h : Kd.V d e W b ok v xs) : Kd.V d e W b' ok v xs := h
theorem V_lit2 (W : World) (a b : Int) : Kd.V (Kd.int .u64) 40 ((W.alloc (.cells #[.int .u64 a] 40)).alloc (.cells #[.int .u64 b] 40)) ((W.alloc (.cells #[.int .u64 a] 40)).alloc (.cells #[.int .u64 b] 40)).heap.size (fun _ => True) (.slice (some ⟨W.heap.size, 0, none⟩) 1 1) [a] ∧
    Kd.V (Kd.int .u64) 40 ((W.alloc (.cells #[.int .u64 a] 40)).alloc (.cells #[.int .u64 b] 40)) ((W.alloc (.cells #[.int .u64 a] 40)).alloc (.cells #[.int .u64 b] 40)).heap.size (fun _ => True) (.slice (some ⟨W.heap.size + 1, 0, none⟩) 1 1) [b] := by
  refine ⟨V_base (Kd.V_alloc (V_lit1 W a) _), ?_⟩
  have h := V_lit1 (W.alloc (.cells #[.int .u64 a] 40)) b
  rwa [show (W.alloc (.cells #[.int .u64 a] 40)).heap.size = W.heap.size + 1 by simp] at h
theorem up_add : nat_Add.f 200 [18446744073709551615] [1] = some ([0, 1], none) := by kernel_rfl
theorem up_both : nat_both.f 200 [7] [2] = some ([7], [2], none) := by kernel_rfl
theorem up_cmp : nat_Cmp.f 200 [7] [2] = some 1 := by kernel_rfl
theorem up_short : nat_short.f 200 [7] 2 = some ([3], [1]) := by kernel_rfl
theorem up_both0 : nat_both.f 200 [7] [] = some ([7], [], none) := by kernel_rfl
theorem up_sub : nat_Sub.f 200 [1] [2] = some ([], some 3) := by kernel_rfl
theorem up_bytes : nat_Bytes.f 200 [256] 3 = some ([0, 1, 0], none) := by kernel_rfl
def treenaillaw01_up.f : Option Bool := some true
set_option maxHeartbeats 4000000 in
theorem treenaillaw01_up.calls (r : Bool) (w : World) (h : treenaillaw01_up.f = some r) :
    Calls Tryd.prog 4 #[] w fun e w' => e = .returned (.bool r) ∧ Below w.heap.size w w' := by
  injection h with h
  subst h
  have hu := Tryd.underlying27
  have hc := Tryd.underlying41
  have ec := eql_code
  go_enter Tryd.func4, Tryd.ntmps4
  go_wp2_with fail
  have HA := V_lit2 w 18446744073709551615 1
  have HB1 := Lib.hid (((Below.refl w.heap.size w).alloc (Nat.le_refl _) (.cells #[.int .u64 18446744073709551615] 40)).alloc (by simp) (.cells #[.int .u64 1] 40))
  refine (nat_Add.calls 200 (fun _ => True) _ 1 [18446744073709551615] (fun _ => True) _ 1 [1] [0, 1] none _ HA.1 HA.2 up_add).mono ?_
  clear HA
  rintro e w2 ⟨v2, rfl, h2, hb2⟩
  have HB2 := Lib.hid (HB1.out.trans (hb2.mono HB1.out.size))
  have HR2 := Lib.hid (rd_of_V h2)
  obtain ⟨A2, c2, rfl⟩ := Kd.V_slice h2
  clear h2 hb2 HB1
  simp only [errW_none]
  go_wp2_with fail
  have HA := V_lit2 w2 7 2
  have HB3 := Lib.hid ((HB2.out.alloc HB2.out.size (.cells #[.int .u64 7] 40)).alloc (by have := HB2.out.size; simp; omega) (.cells #[.int .u64 2] 40))
  have HR3 := Lib.hid ((HR2.out.below ((Below.refl w2.heap.size w2).alloc (Nat.le_refl _) (.cells #[.int .u64 7] 40))).below ((Below.refl _ _).alloc (Nat.le_refl _) (.cells #[.int .u64 2] 40)))
  refine (div_one 200 (fun _ => True) (fun _ => True) _ _ 1 1 [7] [2] [7] [3] [1] 2 1 _ HA.1 HA.2 up_both up_cmp (by omega) up_short).mono ?_
  clear HA HR2 HB2
  rintro e w4 ⟨v3, v4, rfl, h3, h4, hb4⟩
  have HB4 := Lib.hid (HB3.out.trans (hb4.mono HB3.out.size))
  have HR2 := Lib.hid (HR3.out.below hb4)
  have HR3 := Lib.hid (rd_of_V h3)
  have HR4 := Lib.hid (rd_of_V h4)
  obtain ⟨A3, c3, rfl⟩ := Kd.V_slice h3
  obtain ⟨A4, c4, rfl⟩ := Kd.V_slice h4
  clear h3 h4 hb4 HB3
  simp only [errW_none]
  go_wp2_with fail
  have HA := V_lit1 w4 7
  have hbx := (Below.refl w4.heap.size w4).alloc (Nat.le_refl _) (.cells #[.int .u64 7] 40)
  have HB5 := Lib.hid (HB4.out.trans (hbx.mono HB4.out.size))
  refine (div_zero 200 (fun _ => True) (fun _ => True) _ none 1 0 [7] [] [7] _ HA (Kd.V_nil _ _ _ _ _) up_both0).mono ?_
  clear HA
  rintro e w5 ⟨rfl, hb5⟩
  have HB6 := Lib.hid (HB5.out.trans (hb5.mono HB5.out.size))
  have HR2' := Lib.hid ((HR2.out.below hbx).below hb5)
  have HR3' := Lib.hid ((HR3.out.below hbx).below hb5)
  have HR4' := Lib.hid ((HR4.out.below hbx).below hb5)
  clear HR2 HR3 HR4 HB4 HB5 hb5 hbx
  simp only [errW_some]
  go_wp2_with fail
  have HA := V_lit2 w5 1 2
  have hbx := ((Below.refl w5.heap.size w5).alloc (Nat.le_refl _) (.cells #[.int .u64 1] 40)).alloc (by simp) (.cells #[.int .u64 2] 40)
  have HB7 := Lib.hid (HB6.out.trans (hbx.mono HB6.out.size))
  refine (nat_Sub.calls 200 (fun _ => True) _ 1 [1] (fun _ => True) _ 1 [2] [] (some 3) _ HA.1 HA.2 up_sub).mono ?_
  clear HA
  rintro e w6 ⟨v6, rfl, h6, hb6⟩
  obtain ⟨A6, c6, rfl⟩ := Kd.V_slice h6
  have HB8 := Lib.hid (HB7.out.trans (hb6.mono HB7.out.size))
  have HR2 := Lib.hid ((HR2'.out.below hbx).below hb6)
  have HR3 := Lib.hid ((HR3'.out.below hbx).below hb6)
  have HR4 := Lib.hid ((HR4'.out.below hbx).below hb6)
  clear HR2' HR3' HR4' HB6 HB7 hb6 hbx h6
  simp only [errW_some]
  go_wp2_with fail
  have HA := V_C (V_lit1 w6 256)
  have hbx := (Below.refl w6.heap.size w6).alloc (Nat.le_refl _) (.cells #[.int .u64 256] 40)
  have HB9 := Lib.hid (HB8.out.trans (hbx.mono HB8.out.size))
  refine (nat_Bytes.calls 200 _ 1 [256] 3 [0, 1, 0] none _ HA.2.2 (by simp) up_bytes).mono ?_
  clear HA
  rintro e w7 ⟨v7, rfl, h7, hb7⟩
  have HB10 := Lib.hid (HB9.out.trans (hb7.mono HB9.out.size))
  have hr2 := (HR2.out.below hbx).below hb7
  have hr3 := (HR3.out.below hbx).below hb7
  have hr4 := (HR4.out.below hbx).below hb7
  have hr7 := rd_of_RN h7
  have hs7 := hr7.string (P := Tryd.prog) Tryd.underlying33 Tryd.underlying5 9 Tryd.underlying9
  obtain ⟨A7, c7, rfl⟩ := hr7.len
  obtain ⟨a2, rfl, q20⟩ := hr2.at_ 0 (by simp)
  obtain ⟨a2', e2, q21⟩ := hr2.at_ 1 (by simp)
  injection e2 with e2
  subst e2
  obtain ⟨a3, rfl, q30⟩ := hr3.at_ 0 (by simp)
  obtain ⟨a4, rfl, q40⟩ := hr4.at_ 0 (by simp)
  have hz : ∀ ad : Addr, (ad.add 0) = ad := by intro ad; simp [Addr.add]
  rw [hz] at q20 q30 q40
  rw [add_pos _ _ (by omega)] at q21
  simp only [List.getD_cons_zero, List.getD_cons_succ] at q20 q21 q30 q40
  clear HR2 HR3 HR4 HB8 HB9 hb7 hbx h7 hr2 hr3 hr4 hr7 hz
  simp only [errW_none]
  have hst : (strOfNums [0, 1, 0]).toList = [0, 1, 0] := by kernel_rfl
  go_wp2
  go_ret
  exact ⟨rfl, HB10.out⟩
end Go.Proofs.YtolflieiipnndaaDoor.X
