/- NatTold: the law's walk, over what the printed functions compute. -/
import Derived.Test.YtolflieiipnndaaDoorMg28
import Derived.Test.YtolflieiipnndaaDoorMg37
import Derived.Test.YtolflieiipnndaaDoorNumF
import Derived.Test.YtolflieiipnndaaDoorNumG
import Derived.Test.YtolflieiipnndaaDoorMg41
import Derived.Test.YtolflieiipnndaaDoorDiv
import Derived.Test.YtolflieiipnndaaDoorWZeros
import Derived.Handy
import Derived.Lib.AppendZerosOnto
namespace Go.Proofs.YtolflieiipnndaaDoor.PureK
open Go.RowKit Go.Proofs.YtolflieiipnndaaDoor Go.Proofs.YtolflieiipnndaaDoor.X Go.Proofs.YtolflieiipnndaaDoorW.PrintWords Go.Proofs.YtolflieiipnndaaDoorW.PrintLast Go.Proofs.YtolflieiipnndaaDoorW.PrintMore Go.Proofs.YtolflieiipnndaaDoor.Num
set_option linter.unusedVariables false

theorem W_Add (k : Nat) {A0 : Option Addr} {c0 : Nat} {l0 : List Int} {A1 : Option Addr} {c1 : Nat} {l1 : List Int} (W : World) {r0 : List Int} {r1 : Option Int} (h0 : Rd W (.slice A0 l0.length c0) (numv .u64 l0)) (h1 : Rd W (.slice A1 l1.length c1) (numv .u64 l1)) (h : nat_Add.f k l0 l1 = some (r0, r1)) :
    Calls Tryd.prog 6 #[.slice A0 l0.length c0, .slice A1 l1.length c1] W fun e w' => ∃ (B0 : Option Addr) (d0 : Nat), e = .returned (.tuple #[.slice B0 r0.length d0, errW r1]) ∧ Rd w' (.slice B0 r0.length d0) (numv .u64 r0) ∧ Below W.heap.size W w' := by
  refine (nat_Add.calls k (fun _ => True) A0 c0 l0 (fun _ => True) A1 c1 l1 r0 r1 W (V_of_rd h0 (fun _ _ => trivial)) (V_of_rd h1 (fun _ _ => trivial)) h).mono ?_
  rintro e w' ⟨v0, rfl, g0, hb⟩
  obtain ⟨B0, d0, rfl⟩ := Kd.V_slice g0
  exact ⟨B0, d0, rfl, rd_of_V g0, hb⟩

theorem W_Mul (k : Nat) {A0 : Option Addr} {c0 : Nat} {l0 : List Int} {A1 : Option Addr} {c1 : Nat} {l1 : List Int} (W : World) {r0 : List Int} {r1 : Option Int} (h0 : Rd W (.slice A0 l0.length c0) (numv .u64 l0)) (h1 : Rd W (.slice A1 l1.length c1) (numv .u64 l1)) (h : nat_Mul.f k l0 l1 = some (r0, r1)) :
    Calls Tryd.prog 7 #[.slice A0 l0.length c0, .slice A1 l1.length c1] W fun e w' => ∃ (B0 : Option Addr) (d0 : Nat), e = .returned (.tuple #[.slice B0 r0.length d0, errW r1]) ∧ Rd w' (.slice B0 r0.length d0) (numv .u64 r0) ∧ Below W.heap.size W w' := by
  refine (nat_Mul.calls k (fun _ => True) A0 c0 l0 (fun _ => True) A1 c1 l1 r0 r1 W (V_of_rd h0 (fun _ _ => trivial)) (V_of_rd h1 (fun _ _ => trivial)) h).mono ?_
  rintro e w' ⟨v0, rfl, g0, hb⟩
  obtain ⟨B0, d0, rfl⟩ := Kd.V_slice g0
  exact ⟨B0, d0, rfl, rd_of_V g0, hb⟩

theorem W_Norm (k : Nat) {A0 : Option Addr} {c0 : Nat} {l0 : List Int} (W : World) {r0 : List Int} (h0 : Rd W (.slice A0 l0.length c0) (numv .u64 l0)) (h : nat_Norm.f k l0 = some r0) :
    Calls Tryd.prog 10 #[.slice A0 l0.length c0] W fun e w' => ∃ (B0 : Option Addr) (d0 : Nat), e = .returned (.slice B0 r0.length d0) ∧ Rd w' (.slice B0 r0.length d0) (numv .u64 r0) ∧ Below W.heap.size W w' := by
  refine (nat_Norm.calls k A0 c0 l0 r0 W (C_of_rd h0).1 (C_of_rd h0).2.1 h).mono ?_
  rintro e w' ⟨v0, rfl, g0, hb⟩
  obtain ⟨B0, d0, rfl⟩ := ownSlice (own_of_RN g0)
  exact ⟨B0, d0, rfl, rd_of_RN g0, hb⟩

theorem W_Same (k : Nat) {A0 : Option Addr} {c0 : Nat} {l0 : List Int} {A1 : Option Addr} {c1 : Nat} {l1 : List Int} (W : World) {r0 : Bool} (h0 : Rd W (.slice A0 l0.length c0) (numv .u64 l0)) (h1 : Rd W (.slice A1 l1.length c1) (numv .u64 l1)) (h : treenailref01_Same.f k l0 l1 = some r0) :
    Calls Tryd.prog 9 #[.slice A0 l0.length c0, .slice A1 l1.length c1] W fun e w' => e = .returned (.bool r0) ∧ Below W.heap.size W w' := by
  refine (treenailref01_Same.calls k A0 c0 l0 A1 c1 l1 r0 W (C_of_rd h0).1 (C_of_rd h0).2.1 (C_of_rd h1).1 (C_of_rd h1).2.1 h).mono ?_
  rintro e w' ⟨rfl, hb⟩
  exact ⟨rfl, by obtain ⟨n, rfl⟩ := hb; exact (Below.refl _ _).drewN n⟩

theorem W_Cmp (k : Nat) {A0 : Option Addr} {c0 : Nat} {l0 : List Int} {A1 : Option Addr} {c1 : Nat} {l1 : List Int} (W : World) {r0 : Int} (h0 : Rd W (.slice A0 l0.length c0) (numv .u64 l0)) (h1 : Rd W (.slice A1 l1.length c1) (numv .u64 l1)) (h : nat_Cmp.f k l0 l1 = some r0) :
    Calls Tryd.prog 13 #[.slice A0 l0.length c0, .slice A1 l1.length c1] W fun e w' => e = .returned (.int .i64 r0) ∧ Below W.heap.size W w' := by
  refine (nat_Cmp.calls k A0 c0 l0 A1 c1 l1 r0 W (C_of_rd h0).1 (C_of_rd h0).2.1 (C_of_rd h1).1 (C_of_rd h1).2.1 h).mono ?_
  rintro e w' ⟨rfl, hb⟩
  exact ⟨rfl, hb⟩

theorem W_Div {A0 : Option Addr} {c0 : Nat} {l0 : List Int} {A1 : Option Addr} {c1 : Nat} {l1 : List Int} (W : World) {r0 : List Int} {r1 : List Int} {r2 : Option Int} (h0 : Rd W (.slice A0 l0.length c0) (numv .u64 l0)) (h1 : Rd W (.slice A1 l1.length c1) (numv .u64 l1)) (h : nat_Div.f l0 l1 = some (r0, r1, r2)) :
    Calls Tryd.prog 8 #[.slice A0 l0.length c0, .slice A1 l1.length c1] W fun e w' => ∃ (B0 : Option Addr) (d0 : Nat) (B1 : Option Addr) (d1 : Nat), e = .returned (.tuple #[.slice B0 r0.length d0, .slice B1 r1.length d1, errW r2]) ∧ Rd w' (.slice B0 r0.length d0) (numv .u64 r0) ∧ Rd w' (.slice B1 r1.length d1) (numv .u64 r1) ∧ Below W.heap.size W w' := by
  refine (nat_Div.calls A0 c0 l0 A1 c1 l1 r0 r1 r2 W (C_of_rd h0).1 (C_of_rd h0).2.1 (C_of_rd h1).1 (C_of_rd h1).2.1 h).mono ?_
  rintro e w' ⟨v0, v1, rfl, g0, g1, hb⟩
  obtain ⟨B0, d0, rfl⟩ := Kd.V_slice g0
  obtain ⟨B1, d1, rfl⟩ := Kd.V_slice g1
  exact ⟨B0, d0, B1, d1, rfl, rd_of_V g0, rd_of_V g1, hb⟩

theorem W_Bytes (k : Nat) {A0 : Option Addr} {c0 : Nat} {l0 : List Int} (a1 : Int) (W : World) {r0 : List Int} {r1 : Option Int} (h0 : Rd W (.slice A0 l0.length c0) (numv .u64 l0)) (h : nat_Bytes.f k l0 a1 = some (r0, r1)) :
    Calls Tryd.prog 11 #[.slice A0 l0.length c0, .int .i64 a1] W fun e w' => ∃ (B0 : Option Addr) (d0 : Nat), e = .returned (.tuple #[.slice B0 r0.length d0, errW r1]) ∧ Rd w' (.slice B0 r0.length d0) (numv .u8 r0) ∧ Below W.heap.size W w' := by
  refine (nat_Bytes.calls k A0 c0 l0 a1 r0 r1 W (C_of_rd h0).1 (C_of_rd h0).2.1 h).mono ?_
  rintro e w' ⟨v0, rfl, g0, hb⟩
  obtain ⟨B0, d0, rfl⟩ := ownSlice (own_of_RN g0)
  exact ⟨B0, d0, rfl, rd_of_RN g0, hb⟩

theorem W_Bits (k : Nat) {A0 : Option Addr} {c0 : Nat} {l0 : List Int} (W : World) {r0 : Int} (h0 : Rd W (.slice A0 l0.length c0) (numv .u64 l0)) (h : nat_Bits.f k l0 = some r0) :
    Calls Tryd.prog 14 #[.slice A0 l0.length c0] W fun e w' => e = .returned (.int .i64 r0) ∧ Below W.heap.size W w' := by
  refine (nat_Bits.calls k A0 c0 l0 r0 W (C_of_rd h0).1 (C_of_rd h0).2.1 h).mono ?_
  rintro e w' ⟨rfl, hb⟩
  exact ⟨rfl, hb⟩

theorem numv_zeros (m : Nat) : (Builtin.zeroCells (Value.int .u64 0).cells m).toList = numv .u64 (List.replicate m 0) := by
  apply List.ext_getElem?
  intro j
  simp only [Builtin.zeroCells, numv, Value.cells]
  by_cases hj : j < m <;> simp [hj, Nat.mod_one]
/-- Noughts behind a row of the call's own. -/
theorem zeros_run {base : Nat} {w : World} {v : Value} {l : List Int} (m : Nat) (h : w.ownsRow base 40 1 v l.length (numv .u64 l)) (hb : base ≤ w.heap.size) (hl : l.length + m ≤ 1000000) (lX : List Int) (hX : lX = l ++ List.replicate m 0) (t : TypeId) :
    ∃ A c w', (Builtin.append_ #[23, 3] t #[v, .int .i64 (m : Int)]).run Tryd.prog w = .ok (.slice A lX.length c) w' ∧ Rd w' (.slice A lX.length c) (numv .u64 lX) ∧ Below base w w' := by
  obtain ⟨i0, hi, hz0, hz1, hz2⟩ := info_parts app_u64_info
  obtain ⟨v', w', h1, h2, h3, h4⟩ := run_append_zeros (P := Tryd.prog) w base 23 3 t 40 i0 (.int .u64 0) 1 8 Tryd.underlying23 Tryd.underlying3 hi hz0 hz1 hz2 rfl (by decide) (by decide) v l.length (numv .u64 l) h .i64 m (by rw [numv_zeros]; exact numv_one _ _) (by omega) hb
  have e : l.length + m = lX.length := by rw [hX, List.length_append, List.length_replicate]
  rw [numv_zeros, show numv .u64 l ++ numv .u64 (List.replicate m 0) = numv .u64 lX by rw [hX]; simp [numv], e] at h2
  obtain ⟨A, c, rfl⟩ := ownSlice h2
  exact ⟨A, c, w', h1, Rd.of_own h2, (Below.refl base w).grown h3 hb fun k hk => (own_lo h k hk).1⟩
attribute [local go_sem] eql_code neq_code eql_nil_code neq_nil_code

set_option maxHeartbeats 4000000 in
set_option maxRecDepth 100000 in
theorem long_a (A0 A1 : Option Addr) (c0 c1 : Nat) (la lb : List Int) (n : Int) (w : World) (ha : Rd w (.slice A0 la.length c0) (numv .u64 la)) (hb : Rd w (.slice A1 lb.length c1) (numv .u64 lb)) (hg : Handle w) (h0 : 60 < (la.length : Int)) :
    Calls Tryd.prog 3 #[.slice A0 la.length c0, .slice A1 lb.length c1, .int .i64 n] w fun e w' => e = .returned (.bool true) ∧ Below w.heap.size w w' := by
  have Ha := Lib.hid ha
  have Hb := Lib.hid hb
  have HG := Lib.hid hg
  clear ha hb hg 
  go_enter Tryd.func3, Tryd.ntmps3
  go_wp2_with fail
  refine (treenaillaw01_up.calls true w rfl).mono ?_
  rintro e w0 ⟨rfl, hb⟩
  have HB := Lib.hid hb
  replace Ha := Lib.hid (Ha.out.below hb)
  replace Hb := Lib.hid (Hb.out.below hb)
  replace HG := Lib.hid (HG.out.below hb)
  clear hb
  go_wp2
  go_ret
  exact ⟨rfl, HB.out⟩

set_option maxHeartbeats 4000000 in
set_option maxRecDepth 100000 in
theorem long_b (A0 A1 : Option Addr) (c0 c1 : Nat) (la lb : List Int) (n : Int) (w : World) (ha : Rd w (.slice A0 la.length c0) (numv .u64 la)) (hb : Rd w (.slice A1 lb.length c1) (numv .u64 lb)) (hg : Handle w) (h0 : (la.length : Int) ≤ 60) (h1 : 60 < (lb.length : Int)) :
    Calls Tryd.prog 3 #[.slice A0 la.length c0, .slice A1 lb.length c1, .int .i64 n] w fun e w' => e = .returned (.bool true) ∧ Below w.heap.size w w' := by
  have Ha := Lib.hid ha
  have Hb := Lib.hid hb
  have HG := Lib.hid hg
  clear ha hb hg 
  go_enter Tryd.func3, Tryd.ntmps3
  go_wp2_with fail
  refine (treenaillaw01_up.calls true w rfl).mono ?_
  rintro e w0 ⟨rfl, hb⟩
  have HB := Lib.hid hb
  replace Ha := Lib.hid (Ha.out.below hb)
  replace Hb := Lib.hid (Hb.out.below hb)
  replace HG := Lib.hid (HG.out.below hb)
  clear hb
  go_wp2
  go_ret
  exact ⟨rfl, HB.out⟩

set_option maxHeartbeats 4000000 in
set_option maxRecDepth 100000 in
theorem plain (A0 A1 : Option Addr) (c0 c1 : Nat) (la lb : List Int) (n : Int) (w : World) (ha : Rd w (.slice A0 la.length c0) (numv .u64 la)) (hb : Rd w (.slice A1 lb.length c1) (numv .u64 lb)) (hg : Handle w) (lX lS lP lQ lR lN lY : List Int) (K m : Nat) (ee : Option Int) (nb nc : Int)
    (h0 : (la.length : Int) ≤ 60) (h1 : (lb.length : Int) ≤ 60) (hn : 0 ≤ n) (hm : Int.tmod n 9 = (m : Int))
    (f0 : treenaillaw01_copied.f la = some la) (f1 : nat_Add.f K la lb = some (lS, none)) (f2 : nat_Add.f K lX lb = some (lS, none)) (f3 : nat_Mul.f K la lb = some (lP, none)) (f4 : nat_Mul.f K lX lb = some (lP, none)) (f5 : nat_Div.f lb la = some (lQ, lR, ee)) (f6 : nat_Div.f lb lX = some (lQ, lR, ee)) (f7 : treenailref01_Same.f K lS lS = some true) (f8 : treenailref01_Same.f K lP lP = some true) (f9 : treenailref01_Same.f K lQ lQ = some true) (f10 : treenailref01_Same.f K lR lR = some true) (f11 : nat_Norm.f K la = some lN) (f12 : nat_Norm.f K lX = some lN) (f13 : treenailref01_Same.f K lN lN = some true) (f14 : nat_Bytes.f K la 600 = some (lY, none)) (f15 : nat_Bytes.f K lX 600 = some (lY, none)) (f16 : nat_Cmp.f K la lX = some 0) (f17 : nat_Bits.f K la = some nb) (f18 : nat_Bits.f K lX = some nb) (f19 : nat_Cmp.f K la lb = some nc) (f20 : nat_Cmp.f K lX lb = some nc) (hE : ∀ x, ee = some x → 1 ≤ x ∧ x ≤ 15) (hX : lX = la ++ List.replicate m 0) (hl : la.length + m ≤ 1000000) :
    Calls Tryd.prog 3 #[.slice A0 la.length c0, .slice A1 lb.length c1, .int .i64 n] w fun e w' => e = .returned (.bool true) ∧ Below w.heap.size w w' := by
  have Ha := Lib.hid ha
  have Hb := Lib.hid hb
  have HG := Lib.hid hg
  have F0 := Lib.hid f0
  have F1 := Lib.hid f1
  have F2 := Lib.hid f2
  have F3 := Lib.hid f3
  have F4 := Lib.hid f4
  have F5 := Lib.hid f5
  have F6 := Lib.hid f6
  have F7 := Lib.hid f7
  have F8 := Lib.hid f8
  have F9 := Lib.hid f9
  have F10 := Lib.hid f10
  have F11 := Lib.hid f11
  have F12 := Lib.hid f12
  have F13 := Lib.hid f13
  have F14 := Lib.hid f14
  have F15 := Lib.hid f15
  have F16 := Lib.hid f16
  have F17 := Lib.hid f17
  have F18 := Lib.hid f18
  have F19 := Lib.hid f19
  have F20 := Lib.hid f20
  have HE := Lib.hid hE
  have HX := Lib.hid hX
  have HL := Lib.hid hl
  clear ha hb hg f0 f1 f2 f3 f4 f5 f6 f7 f8 f9 f10 f11 f12 f13 f14 f15 f16 f17 f18 f19 f20 hE hX hl
  go_enter Tryd.func3, Tryd.ntmps3
  go_wp2_with fail
  refine (treenaillaw01_up.calls true w rfl).mono ?_
  rintro e w0 ⟨rfl, hb⟩
  have HB := Lib.hid hb
  replace Ha := Lib.hid (Ha.out.below hb)
  replace Hb := Lib.hid (Hb.out.below hb)
  replace HG := Lib.hid (HG.out.below hb)
  clear hb
  go_wp2_with fail
  refine (treenaillaw01_copied.calls A0 c0 la la w0 (C_of_rd Ha.out).1 (C_of_rd Ha.out).2.1 F0.out).mono ?_
  rintro e w1 ⟨v1, rfl, g1, hb⟩
  obtain ⟨AX, cX, w2, hrun, gx, hb2⟩ := zeros_run m (own_of_RN g1) hb.size HL.out lX HX.out 23
  replace hb := hb.trans hb2
  replace Ha := Lib.hid (Ha.out.below hb)
  replace Hb := Lib.hid (Hb.out.below hb)
  replace HG := Lib.hid (HG.out.below hb)
  replace HB := Lib.hid (HB.out.trans (hb.mono HB.out.size))
  have Hx := Lib.hid gx
  clear hb hb2 gx g1
  go_upto_region 7 with (at_builtin; refine Lib.wpList_append_run _ rfl _ _ _ _ rfl _ _ rfl rfl _ _ hrun ?_)
  clear hrun
  go_wp2_with fail
  refine (W_Add K _ Ha.out Hb.out F1.out).mono ?_
  rintro e w3 ⟨B3_0, d3_0, rfl, g0, hb⟩
  replace Ha := Lib.hid (Ha.out.below hb)
  replace Hb := Lib.hid (Hb.out.below hb)
  replace HG := Lib.hid (HG.out.below hb)
  replace Hx := Lib.hid (Hx.out.below hb)
  replace HB := Lib.hid (HB.out.trans (hb.mono HB.out.size))
  have HS := Lib.hid g0
  clear hb g0
  simp only [errW_none]
  go_wp2_with fail
  refine (W_Add K _ Hx.out Hb.out F2.out).mono ?_
  rintro e w4 ⟨B4_0, d4_0, rfl, g0, hb⟩
  replace Ha := Lib.hid (Ha.out.below hb)
  replace Hb := Lib.hid (Hb.out.below hb)
  replace HG := Lib.hid (HG.out.below hb)
  replace Hx := Lib.hid (Hx.out.below hb)
  replace HS := Lib.hid (HS.out.below hb)
  replace HB := Lib.hid (HB.out.trans (hb.mono HB.out.size))
  have HT := Lib.hid g0
  clear hb g0
  simp only [errW_none]
  go_wp2_with fail
  refine (W_Mul K _ Ha.out Hb.out F3.out).mono ?_
  rintro e w5 ⟨B5_0, d5_0, rfl, g0, hb⟩
  replace Ha := Lib.hid (Ha.out.below hb)
  replace Hb := Lib.hid (Hb.out.below hb)
  replace HG := Lib.hid (HG.out.below hb)
  replace Hx := Lib.hid (Hx.out.below hb)
  replace HS := Lib.hid (HS.out.below hb)
  replace HT := Lib.hid (HT.out.below hb)
  replace HB := Lib.hid (HB.out.trans (hb.mono HB.out.size))
  have HP := Lib.hid g0
  clear hb g0
  simp only [errW_none]
  go_wp2_with fail
  refine (W_Mul K _ Hx.out Hb.out F4.out).mono ?_
  rintro e w6 ⟨B6_0, d6_0, rfl, g0, hb⟩
  replace Ha := Lib.hid (Ha.out.below hb)
  replace Hb := Lib.hid (Hb.out.below hb)
  replace HG := Lib.hid (HG.out.below hb)
  replace Hx := Lib.hid (Hx.out.below hb)
  replace HS := Lib.hid (HS.out.below hb)
  replace HT := Lib.hid (HT.out.below hb)
  replace HP := Lib.hid (HP.out.below hb)
  replace HB := Lib.hid (HB.out.trans (hb.mono HB.out.size))
  have HQ := Lib.hid g0
  clear hb g0
  simp only [errW_none]
  go_wp2_with fail
  refine (W_Div _ Hb.out Ha.out F5.out).mono ?_
  rintro e w7 ⟨B7_0, d7_0, B7_1, d7_1, rfl, g0, g1, hb⟩
  replace Ha := Lib.hid (Ha.out.below hb)
  replace Hb := Lib.hid (Hb.out.below hb)
  replace HG := Lib.hid (HG.out.below hb)
  replace Hx := Lib.hid (Hx.out.below hb)
  replace HS := Lib.hid (HS.out.below hb)
  replace HT := Lib.hid (HT.out.below hb)
  replace HP := Lib.hid (HP.out.below hb)
  replace HQ := Lib.hid (HQ.out.below hb)
  replace HB := Lib.hid (HB.out.trans (hb.mono HB.out.size))
  have HU := Lib.hid g0
  have HV := Lib.hid g1
  clear hb g0 g1
  go_wp2_with fail
  refine (W_Div _ Hb.out Hx.out F6.out).mono ?_
  rintro e w8 ⟨B8_0, d8_0, B8_1, d8_1, rfl, g0, g1, hb⟩
  replace Ha := Lib.hid (Ha.out.below hb)
  replace Hb := Lib.hid (Hb.out.below hb)
  replace HG := Lib.hid (HG.out.below hb)
  replace Hx := Lib.hid (Hx.out.below hb)
  replace HS := Lib.hid (HS.out.below hb)
  replace HT := Lib.hid (HT.out.below hb)
  replace HP := Lib.hid (HP.out.below hb)
  replace HQ := Lib.hid (HQ.out.below hb)
  replace HU := Lib.hid (HU.out.below hb)
  replace HV := Lib.hid (HV.out.below hb)
  replace HB := Lib.hid (HB.out.trans (hb.mono HB.out.size))
  have HW := Lib.hid g0
  have HY := Lib.hid g1
  clear hb g0 g1
  go_wp2_with fail
  refine (W_Same K _ HS.out HT.out F7.out).mono ?_
  rintro e w9 ⟨rfl, hb⟩
  replace Ha := Lib.hid (Ha.out.below hb)
  replace Hb := Lib.hid (Hb.out.below hb)
  replace HG := Lib.hid (HG.out.below hb)
  replace Hx := Lib.hid (Hx.out.below hb)
  replace HS := Lib.hid (HS.out.below hb)
  replace HT := Lib.hid (HT.out.below hb)
  replace HP := Lib.hid (HP.out.below hb)
  replace HQ := Lib.hid (HQ.out.below hb)
  replace HU := Lib.hid (HU.out.below hb)
  replace HV := Lib.hid (HV.out.below hb)
  replace HW := Lib.hid (HW.out.below hb)
  replace HY := Lib.hid (HY.out.below hb)
  replace HB := Lib.hid (HB.out.trans (hb.mono HB.out.size))
  clear hb
  clear HS
  clear HT
  go_wp2_with fail
  refine (W_Same K _ HP.out HQ.out F8.out).mono ?_
  rintro e w10 ⟨rfl, hb⟩
  replace Ha := Lib.hid (Ha.out.below hb)
  replace Hb := Lib.hid (Hb.out.below hb)
  replace HG := Lib.hid (HG.out.below hb)
  replace Hx := Lib.hid (Hx.out.below hb)
  replace HP := Lib.hid (HP.out.below hb)
  replace HQ := Lib.hid (HQ.out.below hb)
  replace HU := Lib.hid (HU.out.below hb)
  replace HV := Lib.hid (HV.out.below hb)
  replace HW := Lib.hid (HW.out.below hb)
  replace HY := Lib.hid (HY.out.below hb)
  replace HB := Lib.hid (HB.out.trans (hb.mono HB.out.size))
  clear hb
  clear HP
  clear HQ
  go_wp2_with fail
  refine (W_Same K _ HU.out HW.out F9.out).mono ?_
  rintro e w11 ⟨rfl, hb⟩
  replace Ha := Lib.hid (Ha.out.below hb)
  replace Hb := Lib.hid (Hb.out.below hb)
  replace HG := Lib.hid (HG.out.below hb)
  replace Hx := Lib.hid (Hx.out.below hb)
  replace HU := Lib.hid (HU.out.below hb)
  replace HV := Lib.hid (HV.out.below hb)
  replace HW := Lib.hid (HW.out.below hb)
  replace HY := Lib.hid (HY.out.below hb)
  replace HB := Lib.hid (HB.out.trans (hb.mono HB.out.size))
  clear hb
  clear HU
  clear HW
  go_wp2_with fail
  refine (W_Same K _ HV.out HY.out F10.out).mono ?_
  rintro e w12 ⟨rfl, hb⟩
  replace Ha := Lib.hid (Ha.out.below hb)
  replace Hb := Lib.hid (Hb.out.below hb)
  replace HG := Lib.hid (HG.out.below hb)
  replace Hx := Lib.hid (Hx.out.below hb)
  replace HV := Lib.hid (HV.out.below hb)
  replace HY := Lib.hid (HY.out.below hb)
  replace HB := Lib.hid (HB.out.trans (hb.mono HB.out.size))
  clear hb
  clear HV
  clear HY
  go_wp2_with fail
  refine (W_Norm K _ Ha.out F11.out).mono ?_
  rintro e w13 ⟨B13_0, d13_0, rfl, g0, hb⟩
  replace Ha := Lib.hid (Ha.out.below hb)
  replace Hb := Lib.hid (Hb.out.below hb)
  replace HG := Lib.hid (HG.out.below hb)
  replace Hx := Lib.hid (Hx.out.below hb)
  replace HB := Lib.hid (HB.out.trans (hb.mono HB.out.size))
  have HN := Lib.hid g0
  clear hb g0
  go_wp2_with fail
  refine (W_Norm K _ Hx.out F12.out).mono ?_
  rintro e w14 ⟨B14_0, d14_0, rfl, g0, hb⟩
  replace Ha := Lib.hid (Ha.out.below hb)
  replace Hb := Lib.hid (Hb.out.below hb)
  replace HG := Lib.hid (HG.out.below hb)
  replace Hx := Lib.hid (Hx.out.below hb)
  replace HN := Lib.hid (HN.out.below hb)
  replace HB := Lib.hid (HB.out.trans (hb.mono HB.out.size))
  have HM := Lib.hid g0
  clear hb g0
  go_wp2_with fail
  refine (W_Same K _ HN.out HM.out F13.out).mono ?_
  rintro e w15 ⟨rfl, hb⟩
  replace Ha := Lib.hid (Ha.out.below hb)
  replace Hb := Lib.hid (Hb.out.below hb)
  replace HG := Lib.hid (HG.out.below hb)
  replace Hx := Lib.hid (Hx.out.below hb)
  replace HN := Lib.hid (HN.out.below hb)
  replace HM := Lib.hid (HM.out.below hb)
  replace HB := Lib.hid (HB.out.trans (hb.mono HB.out.size))
  clear hb
  clear HN
  clear HM
  go_wp2_with fail
  refine (W_Bytes K 600 _ Ha.out F14.out).mono ?_
  rintro e w16 ⟨B16_0, d16_0, rfl, g0, hb⟩
  replace Ha := Lib.hid (Ha.out.below hb)
  replace Hb := Lib.hid (Hb.out.below hb)
  replace HG := Lib.hid (HG.out.below hb)
  replace Hx := Lib.hid (Hx.out.below hb)
  replace HB := Lib.hid (HB.out.trans (hb.mono HB.out.size))
  have HC := Lib.hid g0
  clear hb g0
  simp only [errW_none]
  go_wp2_with fail
  refine (W_Bytes K 600 _ Hx.out F15.out).mono ?_
  rintro e w17 ⟨B17_0, d17_0, rfl, g0, hb⟩
  replace Ha := Lib.hid (Ha.out.below hb)
  replace Hb := Lib.hid (Hb.out.below hb)
  replace HG := Lib.hid (HG.out.below hb)
  replace Hx := Lib.hid (Hx.out.below hb)
  replace HC := Lib.hid (HC.out.below hb)
  replace HB := Lib.hid (HB.out.trans (hb.mono HB.out.size))
  have HD := Lib.hid g0
  clear hb g0
  simp only [errW_none]
  go_wp2_with fail
  refine (Z.same_nil _ HG.out).mono ?_
  rintro e w18 ⟨rfl, hb⟩
  replace Ha := Lib.hid (Ha.out.below hb)
  replace Hb := Lib.hid (Hb.out.below hb)
  replace HG := Lib.hid (HG.out.below hb)
  replace Hx := Lib.hid (Hx.out.below hb)
  replace HC := Lib.hid (HC.out.below hb)
  replace HD := Lib.hid (HD.out.below hb)
  replace HB := Lib.hid (HB.out.trans (hb.mono HB.out.size))
  clear hb
  go_wp2_with fail
  refine (Z.same_nil _ HG.out).mono ?_
  rintro e w19 ⟨rfl, hb⟩
  replace Ha := Lib.hid (Ha.out.below hb)
  replace Hb := Lib.hid (Hb.out.below hb)
  replace HG := Lib.hid (HG.out.below hb)
  replace Hx := Lib.hid (Hx.out.below hb)
  replace HC := Lib.hid (HC.out.below hb)
  replace HD := Lib.hid (HD.out.below hb)
  replace HB := Lib.hid (HB.out.trans (hb.mono HB.out.size))
  clear hb
  go_wp2_with fail
  refine (Z.same ee HE.out _ HG.out).mono ?_
  rintro e w20 ⟨rfl, hb⟩
  replace Ha := Lib.hid (Ha.out.below hb)
  replace Hb := Lib.hid (Hb.out.below hb)
  replace HG := Lib.hid (HG.out.below hb)
  replace Hx := Lib.hid (Hx.out.below hb)
  replace HC := Lib.hid (HC.out.below hb)
  replace HD := Lib.hid (HD.out.below hb)
  replace HB := Lib.hid (HB.out.trans (hb.mono HB.out.size))
  clear hb
  have s1 := Rd.string (P := Tryd.prog) Tryd.underlying33 Tryd.underlying5 HC.out 9 Tryd.underlying9
  have s2 := Rd.string (P := Tryd.prog) Tryd.underlying33 Tryd.underlying5 HD.out 9 Tryd.underlying9
  go_wp2_with fail
  refine (W_Cmp K _ Ha.out Hx.out F16.out).mono ?_
  rintro e w21 ⟨rfl, hb⟩
  replace Ha := Lib.hid (Ha.out.below hb)
  replace Hb := Lib.hid (Hb.out.below hb)
  replace HG := Lib.hid (HG.out.below hb)
  replace Hx := Lib.hid (Hx.out.below hb)
  replace HC := Lib.hid (HC.out.below hb)
  replace HD := Lib.hid (HD.out.below hb)
  replace HB := Lib.hid (HB.out.trans (hb.mono HB.out.size))
  clear hb
  clear s1 s2
  clear HC
  clear HD
  go_wp2_with fail
  refine (W_Bits K _ Ha.out F17.out).mono ?_
  rintro e w22 ⟨rfl, hb⟩
  replace Ha := Lib.hid (Ha.out.below hb)
  replace Hb := Lib.hid (Hb.out.below hb)
  replace HG := Lib.hid (HG.out.below hb)
  replace Hx := Lib.hid (Hx.out.below hb)
  replace HB := Lib.hid (HB.out.trans (hb.mono HB.out.size))
  clear hb
  go_wp2_with fail
  refine (W_Bits K _ Hx.out F18.out).mono ?_
  rintro e w23 ⟨rfl, hb⟩
  replace Ha := Lib.hid (Ha.out.below hb)
  replace Hb := Lib.hid (Hb.out.below hb)
  replace HG := Lib.hid (HG.out.below hb)
  replace Hx := Lib.hid (Hx.out.below hb)
  replace HB := Lib.hid (HB.out.trans (hb.mono HB.out.size))
  clear hb
  go_wp2_with fail
  refine (W_Cmp K _ Ha.out Hb.out F19.out).mono ?_
  rintro e w24 ⟨rfl, hb⟩
  replace Ha := Lib.hid (Ha.out.below hb)
  replace Hb := Lib.hid (Hb.out.below hb)
  replace HG := Lib.hid (HG.out.below hb)
  replace Hx := Lib.hid (Hx.out.below hb)
  replace HB := Lib.hid (HB.out.trans (hb.mono HB.out.size))
  clear hb
  go_wp2_with fail
  refine (W_Cmp K _ Hx.out Hb.out F20.out).mono ?_
  rintro e w25 ⟨rfl, hb⟩
  replace Ha := Lib.hid (Ha.out.below hb)
  replace Hb := Lib.hid (Hb.out.below hb)
  replace HG := Lib.hid (HG.out.below hb)
  replace Hx := Lib.hid (Hx.out.below hb)
  replace HB := Lib.hid (HB.out.trans (hb.mono HB.out.size))
  clear hb
  go_wp2
  go_ret
  exact ⟨rfl, HB.out⟩

set_option maxHeartbeats 4000000 in
set_option maxRecDepth 100000 in
theorem neg (A0 A1 : Option Addr) (c0 c1 : Nat) (la lb : List Int) (n : Int) (w : World) (ha : Rd w (.slice A0 la.length c0) (numv .u64 la)) (hb : Rd w (.slice A1 lb.length c1) (numv .u64 lb)) (hg : Handle w) (lX lS lP lQ lR lN lY : List Int) (K m : Nat) (ee : Option Int) (nb nc : Int)
    (h0 : (la.length : Int) ≤ 60) (h1 : (lb.length : Int) ≤ 60) (hn : n < 0) (hn1 : -9223372036854775808 ≤ n) (hm : Int.tmod (-(n + 1)) 9 = (m : Int))
    (f0 : treenaillaw01_copied.f la = some la) (f1 : nat_Add.f K la lb = some (lS, none)) (f2 : nat_Add.f K lX lb = some (lS, none)) (f3 : nat_Mul.f K la lb = some (lP, none)) (f4 : nat_Mul.f K lX lb = some (lP, none)) (f5 : nat_Div.f lb la = some (lQ, lR, ee)) (f6 : nat_Div.f lb lX = some (lQ, lR, ee)) (f7 : treenailref01_Same.f K lS lS = some true) (f8 : treenailref01_Same.f K lP lP = some true) (f9 : treenailref01_Same.f K lQ lQ = some true) (f10 : treenailref01_Same.f K lR lR = some true) (f11 : nat_Norm.f K la = some lN) (f12 : nat_Norm.f K lX = some lN) (f13 : treenailref01_Same.f K lN lN = some true) (f14 : nat_Bytes.f K la 600 = some (lY, none)) (f15 : nat_Bytes.f K lX 600 = some (lY, none)) (f16 : nat_Cmp.f K la lX = some 0) (f17 : nat_Bits.f K la = some nb) (f18 : nat_Bits.f K lX = some nb) (f19 : nat_Cmp.f K la lb = some nc) (f20 : nat_Cmp.f K lX lb = some nc) (hE : ∀ x, ee = some x → 1 ≤ x ∧ x ≤ 15) (hX : lX = la ++ List.replicate m 0) (hl : la.length + m ≤ 1000000) :
    Calls Tryd.prog 3 #[.slice A0 la.length c0, .slice A1 lb.length c1, .int .i64 n] w fun e w' => e = .returned (.bool true) ∧ Below w.heap.size w w' := by
  have Ha := Lib.hid ha
  have Hb := Lib.hid hb
  have HG := Lib.hid hg
  have F0 := Lib.hid f0
  have F1 := Lib.hid f1
  have F2 := Lib.hid f2
  have F3 := Lib.hid f3
  have F4 := Lib.hid f4
  have F5 := Lib.hid f5
  have F6 := Lib.hid f6
  have F7 := Lib.hid f7
  have F8 := Lib.hid f8
  have F9 := Lib.hid f9
  have F10 := Lib.hid f10
  have F11 := Lib.hid f11
  have F12 := Lib.hid f12
  have F13 := Lib.hid f13
  have F14 := Lib.hid f14
  have F15 := Lib.hid f15
  have F16 := Lib.hid f16
  have F17 := Lib.hid f17
  have F18 := Lib.hid f18
  have F19 := Lib.hid f19
  have F20 := Lib.hid f20
  have HE := Lib.hid hE
  have HX := Lib.hid hX
  have HL := Lib.hid hl
  clear ha hb hg f0 f1 f2 f3 f4 f5 f6 f7 f8 f9 f10 f11 f12 f13 f14 f15 f16 f17 f18 f19 f20 hE hX hl
  go_enter Tryd.func3, Tryd.ntmps3
  go_wp2_with fail
  refine (treenaillaw01_up.calls true w rfl).mono ?_
  rintro e w0 ⟨rfl, hb⟩
  have HB := Lib.hid hb
  replace Ha := Lib.hid (Ha.out.below hb)
  replace Hb := Lib.hid (Hb.out.below hb)
  replace HG := Lib.hid (HG.out.below hb)
  clear hb
  go_wp2_with fail
  refine (treenaillaw01_copied.calls A0 c0 la la w0 (C_of_rd Ha.out).1 (C_of_rd Ha.out).2.1 F0.out).mono ?_
  rintro e w1 ⟨v1, rfl, g1, hb⟩
  obtain ⟨AX, cX, w2, hrun, gx, hb2⟩ := zeros_run m (own_of_RN g1) hb.size HL.out lX HX.out 23
  replace hb := hb.trans hb2
  replace Ha := Lib.hid (Ha.out.below hb)
  replace Hb := Lib.hid (Hb.out.below hb)
  replace HG := Lib.hid (HG.out.below hb)
  replace HB := Lib.hid (HB.out.trans (hb.mono HB.out.size))
  have Hx := Lib.hid gx
  clear hb hb2 gx g1
  go_upto_region 7 with (at_builtin; refine Lib.wpList_append_run _ rfl _ _ _ _ rfl _ _ rfl rfl _ _ hrun ?_)
  clear hrun
  go_wp2_with fail
  refine (W_Add K _ Ha.out Hb.out F1.out).mono ?_
  rintro e w3 ⟨B3_0, d3_0, rfl, g0, hb⟩
  replace Ha := Lib.hid (Ha.out.below hb)
  replace Hb := Lib.hid (Hb.out.below hb)
  replace HG := Lib.hid (HG.out.below hb)
  replace Hx := Lib.hid (Hx.out.below hb)
  replace HB := Lib.hid (HB.out.trans (hb.mono HB.out.size))
  have HS := Lib.hid g0
  clear hb g0
  simp only [errW_none]
  go_wp2_with fail
  refine (W_Add K _ Hx.out Hb.out F2.out).mono ?_
  rintro e w4 ⟨B4_0, d4_0, rfl, g0, hb⟩
  replace Ha := Lib.hid (Ha.out.below hb)
  replace Hb := Lib.hid (Hb.out.below hb)
  replace HG := Lib.hid (HG.out.below hb)
  replace Hx := Lib.hid (Hx.out.below hb)
  replace HS := Lib.hid (HS.out.below hb)
  replace HB := Lib.hid (HB.out.trans (hb.mono HB.out.size))
  have HT := Lib.hid g0
  clear hb g0
  simp only [errW_none]
  go_wp2_with fail
  refine (W_Mul K _ Ha.out Hb.out F3.out).mono ?_
  rintro e w5 ⟨B5_0, d5_0, rfl, g0, hb⟩
  replace Ha := Lib.hid (Ha.out.below hb)
  replace Hb := Lib.hid (Hb.out.below hb)
  replace HG := Lib.hid (HG.out.below hb)
  replace Hx := Lib.hid (Hx.out.below hb)
  replace HS := Lib.hid (HS.out.below hb)
  replace HT := Lib.hid (HT.out.below hb)
  replace HB := Lib.hid (HB.out.trans (hb.mono HB.out.size))
  have HP := Lib.hid g0
  clear hb g0
  simp only [errW_none]
  go_wp2_with fail
  refine (W_Mul K _ Hx.out Hb.out F4.out).mono ?_
  rintro e w6 ⟨B6_0, d6_0, rfl, g0, hb⟩
  replace Ha := Lib.hid (Ha.out.below hb)
  replace Hb := Lib.hid (Hb.out.below hb)
  replace HG := Lib.hid (HG.out.below hb)
  replace Hx := Lib.hid (Hx.out.below hb)
  replace HS := Lib.hid (HS.out.below hb)
  replace HT := Lib.hid (HT.out.below hb)
  replace HP := Lib.hid (HP.out.below hb)
  replace HB := Lib.hid (HB.out.trans (hb.mono HB.out.size))
  have HQ := Lib.hid g0
  clear hb g0
  simp only [errW_none]
  go_wp2_with fail
  refine (W_Div _ Hb.out Ha.out F5.out).mono ?_
  rintro e w7 ⟨B7_0, d7_0, B7_1, d7_1, rfl, g0, g1, hb⟩
  replace Ha := Lib.hid (Ha.out.below hb)
  replace Hb := Lib.hid (Hb.out.below hb)
  replace HG := Lib.hid (HG.out.below hb)
  replace Hx := Lib.hid (Hx.out.below hb)
  replace HS := Lib.hid (HS.out.below hb)
  replace HT := Lib.hid (HT.out.below hb)
  replace HP := Lib.hid (HP.out.below hb)
  replace HQ := Lib.hid (HQ.out.below hb)
  replace HB := Lib.hid (HB.out.trans (hb.mono HB.out.size))
  have HU := Lib.hid g0
  have HV := Lib.hid g1
  clear hb g0 g1
  go_wp2_with fail
  refine (W_Div _ Hb.out Hx.out F6.out).mono ?_
  rintro e w8 ⟨B8_0, d8_0, B8_1, d8_1, rfl, g0, g1, hb⟩
  replace Ha := Lib.hid (Ha.out.below hb)
  replace Hb := Lib.hid (Hb.out.below hb)
  replace HG := Lib.hid (HG.out.below hb)
  replace Hx := Lib.hid (Hx.out.below hb)
  replace HS := Lib.hid (HS.out.below hb)
  replace HT := Lib.hid (HT.out.below hb)
  replace HP := Lib.hid (HP.out.below hb)
  replace HQ := Lib.hid (HQ.out.below hb)
  replace HU := Lib.hid (HU.out.below hb)
  replace HV := Lib.hid (HV.out.below hb)
  replace HB := Lib.hid (HB.out.trans (hb.mono HB.out.size))
  have HW := Lib.hid g0
  have HY := Lib.hid g1
  clear hb g0 g1
  go_wp2_with fail
  refine (W_Same K _ HS.out HT.out F7.out).mono ?_
  rintro e w9 ⟨rfl, hb⟩
  replace Ha := Lib.hid (Ha.out.below hb)
  replace Hb := Lib.hid (Hb.out.below hb)
  replace HG := Lib.hid (HG.out.below hb)
  replace Hx := Lib.hid (Hx.out.below hb)
  replace HS := Lib.hid (HS.out.below hb)
  replace HT := Lib.hid (HT.out.below hb)
  replace HP := Lib.hid (HP.out.below hb)
  replace HQ := Lib.hid (HQ.out.below hb)
  replace HU := Lib.hid (HU.out.below hb)
  replace HV := Lib.hid (HV.out.below hb)
  replace HW := Lib.hid (HW.out.below hb)
  replace HY := Lib.hid (HY.out.below hb)
  replace HB := Lib.hid (HB.out.trans (hb.mono HB.out.size))
  clear hb
  clear HS
  clear HT
  go_wp2_with fail
  refine (W_Same K _ HP.out HQ.out F8.out).mono ?_
  rintro e w10 ⟨rfl, hb⟩
  replace Ha := Lib.hid (Ha.out.below hb)
  replace Hb := Lib.hid (Hb.out.below hb)
  replace HG := Lib.hid (HG.out.below hb)
  replace Hx := Lib.hid (Hx.out.below hb)
  replace HP := Lib.hid (HP.out.below hb)
  replace HQ := Lib.hid (HQ.out.below hb)
  replace HU := Lib.hid (HU.out.below hb)
  replace HV := Lib.hid (HV.out.below hb)
  replace HW := Lib.hid (HW.out.below hb)
  replace HY := Lib.hid (HY.out.below hb)
  replace HB := Lib.hid (HB.out.trans (hb.mono HB.out.size))
  clear hb
  clear HP
  clear HQ
  go_wp2_with fail
  refine (W_Same K _ HU.out HW.out F9.out).mono ?_
  rintro e w11 ⟨rfl, hb⟩
  replace Ha := Lib.hid (Ha.out.below hb)
  replace Hb := Lib.hid (Hb.out.below hb)
  replace HG := Lib.hid (HG.out.below hb)
  replace Hx := Lib.hid (Hx.out.below hb)
  replace HU := Lib.hid (HU.out.below hb)
  replace HV := Lib.hid (HV.out.below hb)
  replace HW := Lib.hid (HW.out.below hb)
  replace HY := Lib.hid (HY.out.below hb)
  replace HB := Lib.hid (HB.out.trans (hb.mono HB.out.size))
  clear hb
  clear HU
  clear HW
  go_wp2_with fail
  refine (W_Same K _ HV.out HY.out F10.out).mono ?_
  rintro e w12 ⟨rfl, hb⟩
  replace Ha := Lib.hid (Ha.out.below hb)
  replace Hb := Lib.hid (Hb.out.below hb)
  replace HG := Lib.hid (HG.out.below hb)
  replace Hx := Lib.hid (Hx.out.below hb)
  replace HV := Lib.hid (HV.out.below hb)
  replace HY := Lib.hid (HY.out.below hb)
  replace HB := Lib.hid (HB.out.trans (hb.mono HB.out.size))
  clear hb
  clear HV
  clear HY
  go_wp2_with fail
  refine (W_Norm K _ Ha.out F11.out).mono ?_
  rintro e w13 ⟨B13_0, d13_0, rfl, g0, hb⟩
  replace Ha := Lib.hid (Ha.out.below hb)
  replace Hb := Lib.hid (Hb.out.below hb)
  replace HG := Lib.hid (HG.out.below hb)
  replace Hx := Lib.hid (Hx.out.below hb)
  replace HB := Lib.hid (HB.out.trans (hb.mono HB.out.size))
  have HN := Lib.hid g0
  clear hb g0
  go_wp2_with fail
  refine (W_Norm K _ Hx.out F12.out).mono ?_
  rintro e w14 ⟨B14_0, d14_0, rfl, g0, hb⟩
  replace Ha := Lib.hid (Ha.out.below hb)
  replace Hb := Lib.hid (Hb.out.below hb)
  replace HG := Lib.hid (HG.out.below hb)
  replace Hx := Lib.hid (Hx.out.below hb)
  replace HN := Lib.hid (HN.out.below hb)
  replace HB := Lib.hid (HB.out.trans (hb.mono HB.out.size))
  have HM := Lib.hid g0
  clear hb g0
  go_wp2_with fail
  refine (W_Same K _ HN.out HM.out F13.out).mono ?_
  rintro e w15 ⟨rfl, hb⟩
  replace Ha := Lib.hid (Ha.out.below hb)
  replace Hb := Lib.hid (Hb.out.below hb)
  replace HG := Lib.hid (HG.out.below hb)
  replace Hx := Lib.hid (Hx.out.below hb)
  replace HN := Lib.hid (HN.out.below hb)
  replace HM := Lib.hid (HM.out.below hb)
  replace HB := Lib.hid (HB.out.trans (hb.mono HB.out.size))
  clear hb
  clear HN
  clear HM
  go_wp2_with fail
  refine (W_Bytes K 600 _ Ha.out F14.out).mono ?_
  rintro e w16 ⟨B16_0, d16_0, rfl, g0, hb⟩
  replace Ha := Lib.hid (Ha.out.below hb)
  replace Hb := Lib.hid (Hb.out.below hb)
  replace HG := Lib.hid (HG.out.below hb)
  replace Hx := Lib.hid (Hx.out.below hb)
  replace HB := Lib.hid (HB.out.trans (hb.mono HB.out.size))
  have HC := Lib.hid g0
  clear hb g0
  simp only [errW_none]
  go_wp2_with fail
  refine (W_Bytes K 600 _ Hx.out F15.out).mono ?_
  rintro e w17 ⟨B17_0, d17_0, rfl, g0, hb⟩
  replace Ha := Lib.hid (Ha.out.below hb)
  replace Hb := Lib.hid (Hb.out.below hb)
  replace HG := Lib.hid (HG.out.below hb)
  replace Hx := Lib.hid (Hx.out.below hb)
  replace HC := Lib.hid (HC.out.below hb)
  replace HB := Lib.hid (HB.out.trans (hb.mono HB.out.size))
  have HD := Lib.hid g0
  clear hb g0
  simp only [errW_none]
  go_wp2_with fail
  refine (Z.same_nil _ HG.out).mono ?_
  rintro e w18 ⟨rfl, hb⟩
  replace Ha := Lib.hid (Ha.out.below hb)
  replace Hb := Lib.hid (Hb.out.below hb)
  replace HG := Lib.hid (HG.out.below hb)
  replace Hx := Lib.hid (Hx.out.below hb)
  replace HC := Lib.hid (HC.out.below hb)
  replace HD := Lib.hid (HD.out.below hb)
  replace HB := Lib.hid (HB.out.trans (hb.mono HB.out.size))
  clear hb
  go_wp2_with fail
  refine (Z.same_nil _ HG.out).mono ?_
  rintro e w19 ⟨rfl, hb⟩
  replace Ha := Lib.hid (Ha.out.below hb)
  replace Hb := Lib.hid (Hb.out.below hb)
  replace HG := Lib.hid (HG.out.below hb)
  replace Hx := Lib.hid (Hx.out.below hb)
  replace HC := Lib.hid (HC.out.below hb)
  replace HD := Lib.hid (HD.out.below hb)
  replace HB := Lib.hid (HB.out.trans (hb.mono HB.out.size))
  clear hb
  go_wp2_with fail
  refine (Z.same ee HE.out _ HG.out).mono ?_
  rintro e w20 ⟨rfl, hb⟩
  replace Ha := Lib.hid (Ha.out.below hb)
  replace Hb := Lib.hid (Hb.out.below hb)
  replace HG := Lib.hid (HG.out.below hb)
  replace Hx := Lib.hid (Hx.out.below hb)
  replace HC := Lib.hid (HC.out.below hb)
  replace HD := Lib.hid (HD.out.below hb)
  replace HB := Lib.hid (HB.out.trans (hb.mono HB.out.size))
  clear hb
  have s1 := Rd.string (P := Tryd.prog) Tryd.underlying33 Tryd.underlying5 HC.out 9 Tryd.underlying9
  have s2 := Rd.string (P := Tryd.prog) Tryd.underlying33 Tryd.underlying5 HD.out 9 Tryd.underlying9
  go_wp2_with fail
  refine (W_Cmp K _ Ha.out Hx.out F16.out).mono ?_
  rintro e w21 ⟨rfl, hb⟩
  replace Ha := Lib.hid (Ha.out.below hb)
  replace Hb := Lib.hid (Hb.out.below hb)
  replace HG := Lib.hid (HG.out.below hb)
  replace Hx := Lib.hid (Hx.out.below hb)
  replace HC := Lib.hid (HC.out.below hb)
  replace HD := Lib.hid (HD.out.below hb)
  replace HB := Lib.hid (HB.out.trans (hb.mono HB.out.size))
  clear hb
  clear s1 s2
  clear HC
  clear HD
  go_wp2_with fail
  refine (W_Bits K _ Ha.out F17.out).mono ?_
  rintro e w22 ⟨rfl, hb⟩
  replace Ha := Lib.hid (Ha.out.below hb)
  replace Hb := Lib.hid (Hb.out.below hb)
  replace HG := Lib.hid (HG.out.below hb)
  replace Hx := Lib.hid (Hx.out.below hb)
  replace HB := Lib.hid (HB.out.trans (hb.mono HB.out.size))
  clear hb
  go_wp2_with fail
  refine (W_Bits K _ Hx.out F18.out).mono ?_
  rintro e w23 ⟨rfl, hb⟩
  replace Ha := Lib.hid (Ha.out.below hb)
  replace Hb := Lib.hid (Hb.out.below hb)
  replace HG := Lib.hid (HG.out.below hb)
  replace Hx := Lib.hid (Hx.out.below hb)
  replace HB := Lib.hid (HB.out.trans (hb.mono HB.out.size))
  clear hb
  go_wp2_with fail
  refine (W_Cmp K _ Ha.out Hb.out F19.out).mono ?_
  rintro e w24 ⟨rfl, hb⟩
  replace Ha := Lib.hid (Ha.out.below hb)
  replace Hb := Lib.hid (Hb.out.below hb)
  replace HG := Lib.hid (HG.out.below hb)
  replace Hx := Lib.hid (Hx.out.below hb)
  replace HB := Lib.hid (HB.out.trans (hb.mono HB.out.size))
  clear hb
  go_wp2_with fail
  refine (W_Cmp K _ Hx.out Hb.out F20.out).mono ?_
  rintro e w25 ⟨rfl, hb⟩
  replace Ha := Lib.hid (Ha.out.below hb)
  replace Hb := Lib.hid (Hb.out.below hb)
  replace HG := Lib.hid (HG.out.below hb)
  replace Hx := Lib.hid (Hx.out.below hb)
  replace HB := Lib.hid (HB.out.trans (hb.mono HB.out.size))
  clear hb
  go_wp2
  go_ret
  exact ⟨rfl, HB.out⟩

end Go.Proofs.YtolflieiipnndaaDoor.PureK
