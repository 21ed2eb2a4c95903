/- NatProducts: the law's walk, over what the printed functions compute. -/
import Derived.Test.YtolflieiipnndaaPureB
import Derived.Test.YtolflieiipnndaaMg38
import Derived.Test.YtolflieiipnndaaUp01
import Derived.Test.YtolflieiipnndaaDiv
import Derived.Handy
namespace Go.Proofs.Ytolflieiipnndaa.PureP
open Go.RowKit Go.Proofs.Ytolflieiipnndaa Go.Proofs.Ytolflieiipnndaa.X Go.Proofs.YtolflieiipnndaaW.PrintWords Go.Proofs.YtolflieiipnndaaW.PrintLast Go.Proofs.YtolflieiipnndaaW.PrintMore Go.Proofs.Ytolflieiipnndaa.Num
set_option linter.unusedVariables false

theorem W_long (k : Nat) {A0 : Option Addr} {c0 : Nat} {l0 : List Int} (W : World) {r0 : Bool} (h0 : Rd W (.slice A0 l0.length c0) (numv .u64 l0)) (h : treenaillaw01_long.f k l0 = some r0) :
    Calls Try.prog 15 #[.slice A0 l0.length c0] W fun e w' => e = .returned (.bool r0) ∧ Below W.heap.size W w' := by
  refine (treenaillaw01_long.calls k A0 c0 l0 r0 W (C_of_rd h0).1 (C_of_rd h0).2.1 h).mono ?_
  rintro e w' ⟨rfl, hb⟩
  exact ⟨rfl, by obtain ⟨n, rfl⟩ := hb; exact (Below.refl _ _).drewN n⟩

theorem W_cut {A0 : Option Addr} {c0 : Nat} {l0 : List Int} (a1 : Int) (W : World) {r0 : List Int} (h0 : Rd W (.slice A0 l0.length c0) (numv .u64 l0)) (h : treenaillaw01_cut.f l0 a1 = some r0) :
    Calls Try.prog 34 #[.slice A0 l0.length c0, .int .i64 a1] W fun e w' => ∃ (B0 : Option Addr) (d0 : Nat), e = .returned (.slice B0 r0.length d0) ∧ Rd w' (.slice B0 r0.length d0) (numv .u64 r0) ∧ Below W.heap.size W w' := by
  refine (treenaillaw01_cut.calls (fun _ => True) A0 c0 l0 a1 r0 W (V_of_rd h0 (fun _ _ => trivial)) h).mono ?_
  rintro e w' ⟨v0, rfl, g0, hb⟩
  obtain ⟨B0, d0, rfl⟩ := Kd.V_slice g0
  exact ⟨B0, d0, rfl, rd_of_V g0, hb⟩

theorem W_copied {A0 : Option Addr} {c0 : Nat} {l0 : List Int} (W : World) {r0 : List Int} (h0 : Rd W (.slice A0 l0.length c0) (numv .u64 l0)) (h : treenaillaw01_copied.f l0 = some r0) :
    Calls Try.prog 11 #[.slice A0 l0.length c0] W fun e w' => ∃ (B0 : Option Addr) (d0 : Nat), e = .returned (.slice B0 r0.length d0) ∧ Rd w' (.slice B0 r0.length d0) (numv .u64 r0) ∧ Below W.heap.size W w' := by
  refine (treenaillaw01_copied.calls A0 c0 l0 r0 W (C_of_rd h0).1 (C_of_rd h0).2.1 h).mono ?_
  rintro e w' ⟨v0, rfl, g0, hb⟩
  obtain ⟨B0, d0, rfl⟩ := ownSlice (own_of_RN g0)
  exact ⟨B0, d0, rfl, rd_of_RN g0, hb⟩

theorem W_Mul (k : Nat) {A0 : Option Addr} {c0 : Nat} {l0 : List Int} {A1 : Option Addr} {c1 : Nat} {l1 : List Int} (W : World) {r0 : List Int} {r1 : Option Int} (h0 : Rd W (.slice A0 l0.length c0) (numv .u64 l0)) (h1 : Rd W (.slice A1 l1.length c1) (numv .u64 l1)) (h : nat_Mul.f k l0 l1 = some (r0, r1)) :
    Calls Try.prog 32 #[.slice A0 l0.length c0, .slice A1 l1.length c1] W fun e w' => ∃ (B0 : Option Addr) (d0 : Nat), e = .returned (.tuple #[.slice B0 r0.length d0, errW r1]) ∧ Rd w' (.slice B0 r0.length d0) (numv .u64 r0) ∧ Below W.heap.size W w' := by
  refine (nat_Mul.calls k (fun _ => True) A0 c0 l0 (fun _ => True) A1 c1 l1 r0 r1 W (V_of_rd h0 (fun _ _ => trivial)) (V_of_rd h1 (fun _ _ => trivial)) h).mono ?_
  rintro e w' ⟨v0, rfl, g0, hb⟩
  obtain ⟨B0, d0, rfl⟩ := Kd.V_slice g0
  exact ⟨B0, d0, rfl, rd_of_V g0, hb⟩

theorem W_Div {A0 : Option Addr} {c0 : Nat} {l0 : List Int} {A1 : Option Addr} {c1 : Nat} {l1 : List Int} (W : World) {r0 : List Int} {r1 : List Int} {r2 : Option Int} (h0 : Rd W (.slice A0 l0.length c0) (numv .u64 l0)) (h1 : Rd W (.slice A1 l1.length c1) (numv .u64 l1)) (h : nat_Div.f l0 l1 = some (r0, r1, r2)) :
    Calls Try.prog 33 #[.slice A0 l0.length c0, .slice A1 l1.length c1] W fun e w' => ∃ (B0 : Option Addr) (d0 : Nat) (B1 : Option Addr) (d1 : Nat), e = .returned (.tuple #[.slice B0 r0.length d0, .slice B1 r1.length d1, errW r2]) ∧ Rd w' (.slice B0 r0.length d0) (numv .u64 r0) ∧ Rd w' (.slice B1 r1.length d1) (numv .u64 r1) ∧ Below W.heap.size W w' := by
  refine (nat_Div.calls A0 c0 l0 A1 c1 l1 r0 r1 r2 W (C_of_rd h0).1 (C_of_rd h0).2.1 (C_of_rd h1).1 (C_of_rd h1).2.1 h).mono ?_
  rintro e w' ⟨v0, v1, rfl, g0, g1, hb⟩
  obtain ⟨B0, d0, rfl⟩ := Kd.V_slice g0
  obtain ⟨B1, d1, rfl⟩ := Kd.V_slice g1
  exact ⟨B0, d0, B1, d1, rfl, rd_of_V g0, rd_of_V g1, hb⟩

theorem W_Same (k : Nat) {A0 : Option Addr} {c0 : Nat} {l0 : List Int} {A1 : Option Addr} {c1 : Nat} {l1 : List Int} (W : World) {r0 : Bool} (h0 : Rd W (.slice A0 l0.length c0) (numv .u64 l0)) (h1 : Rd W (.slice A1 l1.length c1) (numv .u64 l1)) (h : treenailref01_Same.f k l0 l1 = some r0) :
    Calls Try.prog 14 #[.slice A0 l0.length c0, .slice A1 l1.length c1] W fun e w' => e = .returned (.bool r0) ∧ Below W.heap.size W w' := by
  refine (treenailref01_Same.calls k A0 c0 l0 A1 c1 l1 r0 W (C_of_rd h0).1 (C_of_rd h0).2.1 (C_of_rd h1).1 (C_of_rd h1).2.1 h).mono ?_
  rintro e w' ⟨rfl, hb⟩
  exact ⟨rfl, by obtain ⟨n, rfl⟩ := hb; exact (Below.refl _ _).drewN n⟩

theorem W_Of (k : Nat) {A0 : Option Addr} {c0 : Nat} {l0 : List Int} (W : World) {r0 : List Int} (h0 : Rd W (.slice A0 l0.length c0) (numv .u64 l0)) (h : treenailref01_Of.f k l0 = some r0) :
    Calls Try.prog 16 #[.slice A0 l0.length c0] W fun e w' => ∃ (B0 : Option Addr) (d0 : Nat), e = .returned (.slice B0 r0.length d0) ∧ Rd w' (.slice B0 r0.length d0) (numv .i64 r0) ∧ Below W.heap.size W w' := by
  refine (treenailref01_Of.calls k A0 c0 l0 r0 W (C_of_rd h0).1 (C_of_rd h0).2.1 h).mono ?_
  rintro e w' ⟨v0, rfl, g0, hb⟩
  obtain ⟨B0, d0, rfl⟩ := Kd.V_slice g0
  exact ⟨B0, d0, rfl, rd_of_V g0, hb⟩

theorem W_rMul (k : Nat) {A0 : Option Addr} {c0 : Nat} {l0 : List Int} {A1 : Option Addr} {c1 : Nat} {l1 : List Int} (W : World) {r0 : List Int} (h0 : Rd W (.slice A0 l0.length c0) (numv .i64 l0)) (h1 : Rd W (.slice A1 l1.length c1) (numv .i64 l1)) (h : treenailref01_Mul.f k l0 l1 = some r0) :
    Calls Try.prog 35 #[.slice A0 l0.length c0, .slice A1 l1.length c1] W fun e w' => ∃ (B0 : Option Addr) (d0 : Nat), e = .returned (.slice B0 r0.length d0) ∧ Rd w' (.slice B0 r0.length d0) (numv .i64 r0) ∧ Below W.heap.size W w' := by
  refine (treenailref01_Mul.calls k A0 c0 l0 A1 c1 l1 r0 W (C_of_rd h0).1 (C_of_rd h0).2.1 (C_of_rd h1).1 (C_of_rd h1).2.1 h).mono ?_
  rintro e w' ⟨v0, rfl, g0, hb⟩
  obtain ⟨B0, d0, rfl⟩ := Kd.V_slice g0
  exact ⟨B0, d0, rfl, rd_of_V g0, hb⟩

theorem W_To (k : Nat) {A0 : Option Addr} {c0 : Nat} {l0 : List Int} (W : World) {r0 : List Int} (h0 : Rd W (.slice A0 l0.length c0) (numv .i64 l0)) (h : treenailref01_To.f k l0 = some r0) :
    Calls Try.prog 17 #[.slice A0 l0.length c0] W fun e w' => ∃ (B0 : Option Addr) (d0 : Nat), e = .returned (.slice B0 r0.length d0) ∧ Rd w' (.slice B0 r0.length d0) (numv .u64 r0) ∧ Below W.heap.size W w' := by
  refine (treenailref01_To.calls k A0 c0 l0 r0 W (C_of_rd h0).1 (C_of_rd h0).2.1 h).mono ?_
  rintro e w' ⟨v0, rfl, g0, hb⟩
  obtain ⟨B0, d0, rfl⟩ := ownSlice (own_of_RN g0)
  exact ⟨B0, d0, rfl, rd_of_RN g0, hb⟩

theorem W_rDiv (k : Nat) {A0 : Option Addr} {c0 : Nat} {l0 : List Int} {A1 : Option Addr} {c1 : Nat} {l1 : List Int} (W : World) {r0 : List Int} {r1 : List Int} (h0 : Rd W (.slice A0 l0.length c0) (numv .i64 l0)) (h1 : Rd W (.slice A1 l1.length c1) (numv .i64 l1)) (h : treenailref01_Div.f k l0 l1 = some (r0, r1)) :
    Calls Try.prog 36 #[.slice A0 l0.length c0, .slice A1 l1.length c1] W fun e w' => ∃ (B0 : Option Addr) (d0 : Nat) (B1 : Option Addr) (d1 : Nat), e = .returned (.tuple #[.slice B0 r0.length d0, .slice B1 r1.length d1]) ∧ Rd w' (.slice B0 r0.length d0) (numv .i64 r0) ∧ Rd w' (.slice B1 r1.length d1) (numv .i64 r1) ∧ Below W.heap.size W w' := by
  refine (treenailref01_Div.calls k A0 c0 l0 A1 c1 l1 r0 r1 W (C_of_rd h0).1 (C_of_rd h0).2.1 (C_of_rd h1).1 (C_of_rd h1).2.1 h).mono ?_
  rintro e w' ⟨v0, v1, rfl, g0, g1, hb⟩
  obtain ⟨B0, d0, rfl⟩ := Kd.V_slice g0
  obtain ⟨B1, d1, rfl⟩ := Kd.V_slice g1
  exact ⟨B0, d0, B1, d1, rfl, rd_of_V g0, rd_of_V g1, hb⟩

attribute [local go_sem] eql_code neq_code eql_nil_code neq_nil_code

set_option maxHeartbeats 2000000 in
set_option maxRecDepth 100000 in
theorem long_a (A0 A1 : Option Addr) (c0 c1 : Nat) (la lb : List Int) (w : World) (ha : Rd w (.slice A0 la.length c0) (numv .u64 la)) (hb : Rd w (.slice A1 lb.length c1) (numv .u64 lb)) (K : Nat) (g0 : treenaillaw01_long.f K la = some true) (f1 : nat_Mul.f K la lb = some ([], some 2)) (f2 : nat_Div.f la lb = some ([], [], some 2)) :
    Calls Try.prog 7 #[.slice A0 la.length c0, .slice A1 lb.length c1] w fun e w' => e = .returned (.bool true) ∧ Below w.heap.size w w' := by
  have Ha := Lib.hid ha
  have Hb := Lib.hid hb
  have G0 := Lib.hid g0
  have F1 := Lib.hid f1
  have F2 := Lib.hid f2
  clear ha hb g0 f1 f2
  go_enter Try.func7, Try.ntmps7
  go_wp2_with fail
  refine (treenaillaw01_up.calls true w rfl).mono ?_
  rintro e w0 ⟨rfl, hb⟩
  have HB := Lib.hid hb
  replace Ha := Lib.hid (Ha.out.below hb)
  replace Hb := Lib.hid (Hb.out.below hb)
  clear hb
  go_upto_region 4 with (first
    | (go_at_call 15; (with_reducible refine (W_long K _ Ha.out G0.out).mono ?_); rintro e w2 ⟨rfl, hb⟩; replace Ha := Lib.hid (Ha.out.below hb); replace Hb := Lib.hid (Hb.out.below hb); replace HB := Lib.hid (HB.out.trans (hb.mono HB.out.size)); clear hb)
    | (go_at_call 32; (with_reducible refine (W_Mul K _ Ha.out Hb.out F1.out).mono ?_); rintro e w5 ⟨B5, d5, rfl, g5, hb⟩; replace Ha := Lib.hid (Ha.out.below hb); replace Hb := Lib.hid (Hb.out.below hb); replace HB := Lib.hid (HB.out.trans (hb.mono HB.out.size)); clear hb g5; simp only [errW_some]))
  go_wp2_with fail
  refine (W_Div _ Ha.out Hb.out F2.out).mono ?_
  rintro e w6 ⟨B6, d6, B7, d7, rfl, g6, g7, hb⟩
  replace HB := Lib.hid (HB.out.trans (hb.mono HB.out.size))
  clear hb g6 g7
  simp only [errW_some]
  go_wp2
  go_ret
  exact ⟨rfl, HB.out⟩

set_option maxHeartbeats 2000000 in
set_option maxRecDepth 100000 in
theorem long_b (A0 A1 : Option Addr) (c0 c1 : Nat) (la lb : List Int) (w : World) (ha : Rd w (.slice A0 la.length c0) (numv .u64 la)) (hb : Rd w (.slice A1 lb.length c1) (numv .u64 lb)) (K : Nat) (g0 : treenaillaw01_long.f K la = some false) (g1 : treenaillaw01_long.f K lb = some true) (f1 : nat_Mul.f K la lb = some ([], some 2)) (f2 : nat_Div.f la lb = some ([], [], some 2)) :
    Calls Try.prog 7 #[.slice A0 la.length c0, .slice A1 lb.length c1] w fun e w' => e = .returned (.bool true) ∧ Below w.heap.size w w' := by
  have Ha := Lib.hid ha
  have Hb := Lib.hid hb
  have G0 := Lib.hid g0
  have G1 := Lib.hid g1
  have F1 := Lib.hid f1
  have F2 := Lib.hid f2
  clear ha hb g0 g1 f1 f2
  go_enter Try.func7, Try.ntmps7
  go_wp2_with fail
  refine (treenaillaw01_up.calls true w rfl).mono ?_
  rintro e w0 ⟨rfl, hb⟩
  have HB := Lib.hid hb
  replace Ha := Lib.hid (Ha.out.below hb)
  replace Hb := Lib.hid (Hb.out.below hb)
  clear hb
  go_upto_region 4 with (first
    | (go_at_call 15; (with_reducible refine (W_long K _ Ha.out G0.out).mono ?_); rintro e w2 ⟨rfl, hb⟩; replace Ha := Lib.hid (Ha.out.below hb); replace Hb := Lib.hid (Hb.out.below hb); replace HB := Lib.hid (HB.out.trans (hb.mono HB.out.size)); clear hb)
    | (go_at_call 15; (with_reducible refine (W_long K _ Hb.out G1.out).mono ?_); rintro e w2 ⟨rfl, hb⟩; replace Ha := Lib.hid (Ha.out.below hb); replace Hb := Lib.hid (Hb.out.below hb); replace HB := Lib.hid (HB.out.trans (hb.mono HB.out.size)); clear hb)
    | (go_at_call 32; (with_reducible refine (W_Mul K _ Ha.out Hb.out F1.out).mono ?_); rintro e w5 ⟨B5, d5, rfl, g5, hb⟩; replace Ha := Lib.hid (Ha.out.below hb); replace Hb := Lib.hid (Hb.out.below hb); replace HB := Lib.hid (HB.out.trans (hb.mono HB.out.size)); clear hb g5; simp only [errW_some]))
  go_wp2_with fail
  refine (W_Div _ Ha.out Hb.out F2.out).mono ?_
  rintro e w6 ⟨B6, d6, B7, d7, rfl, g6, g7, hb⟩
  replace HB := Lib.hid (HB.out.trans (hb.mono HB.out.size))
  clear hb g6 g7
  simp only [errW_some]
  go_wp2
  go_ret
  exact ⟨rfl, HB.out⟩

set_option maxHeartbeats 2000000 in
set_option maxRecDepth 100000 in
theorem zero (A0 A1 : Option Addr) (c0 c1 : Nat) (la lb lA lB lM lQ lR lU lV lW : List Int) (w : World) (ha : Rd w (.slice A0 la.length c0) (numv .u64 la)) (hb : Rd w (.slice A1 lb.length c1) (numv .u64 lb)) (K : Nat)
    (g0 : treenaillaw01_long.f K la = some false) (g1 : treenaillaw01_long.f K lb = some false) (f1 : treenaillaw01_cut.f la 70 = some lA) (f2 : treenaillaw01_cut.f lb 70 = some lB) (f3 : treenaillaw01_copied.f lA = some lA) (f4 : treenaillaw01_copied.f lB = some lB) (f5 : nat_Mul.f K lA lB = some (lM, none)) (f6 : nat_Div.f lA lB = some (lQ, lR, some 4)) (f7 : treenailref01_Same.f K lA lA = some true) (f8 : treenailref01_Same.f K lB lB = some true) (f9 : treenailref01_Of.f K lA = some lU) (f10 : treenailref01_Of.f K lB = some lV) (f11 : treenailref01_Mul.f K lU lV = some lW) (f12 : treenailref01_To.f K lW = some lM) (f13 : treenailref01_Same.f K lM lM = some true) (t1 : ((lV.length : Int) == 0) = true) (t2 : ((lQ.length : Int) == 0) = true) (t3 : ((lR.length : Int) == 0) = true) :
    Calls Try.prog 7 #[.slice A0 la.length c0, .slice A1 lb.length c1] w fun e w' => e = .returned (.bool true) ∧ Below w.heap.size w w' := by
  have Ha := Lib.hid ha
  have Hb := Lib.hid hb
  have G0 := Lib.hid g0
  have G1 := Lib.hid g1
  have F1 := Lib.hid f1
  have F2 := Lib.hid f2
  have F3 := Lib.hid f3
  have F4 := Lib.hid f4
  have F5 := Lib.hid f5
  have F6 := Lib.hid f6
  have F7 := Lib.hid f7
  have F8 := Lib.hid f8
  have F9 := Lib.hid f9
  have F10 := Lib.hid f10
  have F11 := Lib.hid f11
  have F12 := Lib.hid f12
  have F13 := Lib.hid f13
  clear ha hb g0 g1 f1 f2 f3 f4 f5 f6 f7 f8 f9 f10 f11 f12 f13
  go_enter Try.func7, Try.ntmps7
  go_wp2_with fail
  refine (treenaillaw01_up.calls true w rfl).mono ?_
  rintro e w0 ⟨rfl, hb⟩
  have HB := Lib.hid hb
  replace Ha := Lib.hid (Ha.out.below hb)
  replace Hb := Lib.hid (Hb.out.below hb)
  clear hb
  go_upto_region 6 with (first
    | (go_at_call 15; (with_reducible refine (W_long K _ Ha.out G0.out).mono ?_); rintro e w2 ⟨rfl, hb⟩; replace Ha := Lib.hid (Ha.out.below hb); replace Hb := Lib.hid (Hb.out.below hb); replace HB := Lib.hid (HB.out.trans (hb.mono HB.out.size)); clear hb)
    | (go_at_call 15; (with_reducible refine (W_long K _ Hb.out G1.out).mono ?_); rintro e w2 ⟨rfl, hb⟩; replace Ha := Lib.hid (Ha.out.below hb); replace Hb := Lib.hid (Hb.out.below hb); replace HB := Lib.hid (HB.out.trans (hb.mono HB.out.size)); clear hb))
  go_wp2_with fail
  refine (W_cut 70 _ Ha.out F1.out).mono ?_
  rintro e w1 ⟨B1_0, d1_0, rfl, g0, hb⟩
  replace Ha := Lib.hid (Ha.out.below hb)
  replace Hb := Lib.hid (Hb.out.below hb)
  replace HB := Lib.hid (HB.out.trans (hb.mono HB.out.size))
  have HA := Lib.hid g0
  clear hb g0
  clear Ha
  go_wp2_with fail
  refine (W_cut 70 _ Hb.out F2.out).mono ?_
  rintro e w2 ⟨B2_0, d2_0, rfl, g0, hb⟩
  replace Hb := Lib.hid (Hb.out.below hb)
  replace HA := Lib.hid (HA.out.below hb)
  replace HB := Lib.hid (HB.out.trans (hb.mono HB.out.size))
  have HC := Lib.hid g0
  clear hb g0
  clear Hb
  go_wp2_with fail
  refine (W_copied _ HA.out F3.out).mono ?_
  rintro e w3 ⟨B3_0, d3_0, rfl, g0, hb⟩
  replace HA := Lib.hid (HA.out.below hb)
  replace HC := Lib.hid (HC.out.below hb)
  replace HB := Lib.hid (HB.out.trans (hb.mono HB.out.size))
  have HX := Lib.hid g0
  clear hb g0
  go_wp2_with fail
  refine (W_copied _ HC.out F4.out).mono ?_
  rintro e w4 ⟨B4_0, d4_0, rfl, g0, hb⟩
  replace HA := Lib.hid (HA.out.below hb)
  replace HC := Lib.hid (HC.out.below hb)
  replace HX := Lib.hid (HX.out.below hb)
  replace HB := Lib.hid (HB.out.trans (hb.mono HB.out.size))
  have HY := Lib.hid g0
  clear hb g0
  go_wp2_with fail
  refine (W_Mul K _ HX.out HY.out F5.out).mono ?_
  rintro e w5 ⟨B5_0, d5_0, rfl, g0, hb⟩
  replace HA := Lib.hid (HA.out.below hb)
  replace HC := Lib.hid (HC.out.below hb)
  replace HX := Lib.hid (HX.out.below hb)
  replace HY := Lib.hid (HY.out.below hb)
  replace HB := Lib.hid (HB.out.trans (hb.mono HB.out.size))
  have HM := Lib.hid g0
  clear hb g0
  simp only [errW_none]
  go_wp2_with fail
  refine (W_Div _ HX.out HY.out F6.out).mono ?_
  rintro e w6 ⟨B6_0, d6_0, B6_1, d6_1, rfl, g0, g1, hb⟩
  replace HA := Lib.hid (HA.out.below hb)
  replace HC := Lib.hid (HC.out.below hb)
  replace HX := Lib.hid (HX.out.below hb)
  replace HY := Lib.hid (HY.out.below hb)
  replace HM := Lib.hid (HM.out.below hb)
  replace HB := Lib.hid (HB.out.trans (hb.mono HB.out.size))
  have HQ := Lib.hid g0
  have HR := Lib.hid g1
  clear hb g0 g1
  simp only [errW_some]
  go_wp2_with fail
  refine (W_Same K _ HX.out HA.out F7.out).mono ?_
  rintro e w7 ⟨rfl, hb⟩
  replace HA := Lib.hid (HA.out.below hb)
  replace HC := Lib.hid (HC.out.below hb)
  replace HX := Lib.hid (HX.out.below hb)
  replace HY := Lib.hid (HY.out.below hb)
  replace HM := Lib.hid (HM.out.below hb)
  replace HQ := Lib.hid (HQ.out.below hb)
  replace HR := Lib.hid (HR.out.below hb)
  replace HB := Lib.hid (HB.out.trans (hb.mono HB.out.size))
  clear hb
  clear HX
  go_wp2_with fail
  refine (W_Same K _ HY.out HC.out F8.out).mono ?_
  rintro e w8 ⟨rfl, hb⟩
  replace HA := Lib.hid (HA.out.below hb)
  replace HC := Lib.hid (HC.out.below hb)
  replace HY := Lib.hid (HY.out.below hb)
  replace HM := Lib.hid (HM.out.below hb)
  replace HQ := Lib.hid (HQ.out.below hb)
  replace HR := Lib.hid (HR.out.below hb)
  replace HB := Lib.hid (HB.out.trans (hb.mono HB.out.size))
  clear hb
  clear HY
  go_wp2_with fail
  refine (W_Of K _ HA.out F9.out).mono ?_
  rintro e w9 ⟨B9_0, d9_0, rfl, g0, hb⟩
  replace HA := Lib.hid (HA.out.below hb)
  replace HC := Lib.hid (HC.out.below hb)
  replace HM := Lib.hid (HM.out.below hb)
  replace HQ := Lib.hid (HQ.out.below hb)
  replace HR := Lib.hid (HR.out.below hb)
  replace HB := Lib.hid (HB.out.trans (hb.mono HB.out.size))
  have HU := Lib.hid g0
  clear hb g0
  clear HA
  go_wp2_with fail
  refine (W_Of K _ HC.out F10.out).mono ?_
  rintro e w10 ⟨B10_0, d10_0, rfl, g0, hb⟩
  replace HC := Lib.hid (HC.out.below hb)
  replace HM := Lib.hid (HM.out.below hb)
  replace HQ := Lib.hid (HQ.out.below hb)
  replace HR := Lib.hid (HR.out.below hb)
  replace HU := Lib.hid (HU.out.below hb)
  replace HB := Lib.hid (HB.out.trans (hb.mono HB.out.size))
  have HV := Lib.hid g0
  clear hb g0
  clear HC
  go_wp2_with fail
  refine (W_rMul K _ HU.out HV.out F11.out).mono ?_
  rintro e w11 ⟨B11_0, d11_0, rfl, g0, hb⟩
  replace HM := Lib.hid (HM.out.below hb)
  replace HQ := Lib.hid (HQ.out.below hb)
  replace HR := Lib.hid (HR.out.below hb)
  replace HU := Lib.hid (HU.out.below hb)
  replace HV := Lib.hid (HV.out.below hb)
  replace HB := Lib.hid (HB.out.trans (hb.mono HB.out.size))
  have HW := Lib.hid g0
  clear hb g0
  go_wp2_with fail
  refine (W_To K _ HW.out F12.out).mono ?_
  rintro e w12 ⟨B12_0, d12_0, rfl, g0, hb⟩
  replace HM := Lib.hid (HM.out.below hb)
  replace HQ := Lib.hid (HQ.out.below hb)
  replace HR := Lib.hid (HR.out.below hb)
  replace HU := Lib.hid (HU.out.below hb)
  replace HV := Lib.hid (HV.out.below hb)
  replace HW := Lib.hid (HW.out.below hb)
  replace HB := Lib.hid (HB.out.trans (hb.mono HB.out.size))
  have HN := Lib.hid g0
  clear hb g0
  clear HW
  go_wp2_with fail
  refine (W_Same K _ HM.out HN.out F13.out).mono ?_
  rintro e w13 ⟨rfl, hb⟩
  replace HM := Lib.hid (HM.out.below hb)
  replace HQ := Lib.hid (HQ.out.below hb)
  replace HR := Lib.hid (HR.out.below hb)
  replace HU := Lib.hid (HU.out.below hb)
  replace HV := Lib.hid (HV.out.below hb)
  replace HN := Lib.hid (HN.out.below hb)
  replace HB := Lib.hid (HB.out.trans (hb.mono HB.out.size))
  clear hb
  clear HM
  clear HN
  go_wp2
  go_ret
  exact ⟨rfl, HB.out⟩

set_option maxHeartbeats 2000000 in
set_option maxRecDepth 100000 in
theorem big (A0 A1 : Option Addr) (c0 c1 : Nat) (la lb lA lB lM lQ lR lU lV lW : List Int) (w : World) (ha : Rd w (.slice A0 la.length c0) (numv .u64 la)) (hb : Rd w (.slice A1 lb.length c1) (numv .u64 lb)) (K : Nat)
    (g0 : treenaillaw01_long.f K la = some false) (g1 : treenaillaw01_long.f K lb = some false) (f1 : treenaillaw01_cut.f la 70 = some lA) (f2 : treenaillaw01_cut.f lb 70 = some lB) (f3 : treenaillaw01_copied.f lA = some lA) (f4 : treenaillaw01_copied.f lB = some lB) (f5 : nat_Mul.f K lA lB = some (lM, none)) (f6 : nat_Div.f lA lB = some (lQ, lR, none)) (f7 : treenailref01_Same.f K lA lA = some true) (f8 : treenailref01_Same.f K lB lB = some true) (f9 : treenailref01_Of.f K lA = some lU) (f10 : treenailref01_Of.f K lB = some lV) (f11 : treenailref01_Mul.f K lU lV = some lW) (f12 : treenailref01_To.f K lW = some lM) (f13 : treenailref01_Same.f K lM lM = some true) (t1 : ((lV.length : Int) == 0) = false) (t2 : decide ((80 : Int) < (lU.length : Int)) = true) :
    Calls Try.prog 7 #[.slice A0 la.length c0, .slice A1 lb.length c1] w fun e w' => e = .returned (.bool true) ∧ Below w.heap.size w w' := by
  have Ha := Lib.hid ha
  have Hb := Lib.hid hb
  have G0 := Lib.hid g0
  have G1 := Lib.hid g1
  have F1 := Lib.hid f1
  have F2 := Lib.hid f2
  have F3 := Lib.hid f3
  have F4 := Lib.hid f4
  have F5 := Lib.hid f5
  have F6 := Lib.hid f6
  have F7 := Lib.hid f7
  have F8 := Lib.hid f8
  have F9 := Lib.hid f9
  have F10 := Lib.hid f10
  have F11 := Lib.hid f11
  have F12 := Lib.hid f12
  have F13 := Lib.hid f13
  clear ha hb g0 g1 f1 f2 f3 f4 f5 f6 f7 f8 f9 f10 f11 f12 f13
  go_enter Try.func7, Try.ntmps7
  go_wp2_with fail
  refine (treenaillaw01_up.calls true w rfl).mono ?_
  rintro e w0 ⟨rfl, hb⟩
  have HB := Lib.hid hb
  replace Ha := Lib.hid (Ha.out.below hb)
  replace Hb := Lib.hid (Hb.out.below hb)
  clear hb
  go_upto_region 6 with (first
    | (go_at_call 15; (with_reducible refine (W_long K _ Ha.out G0.out).mono ?_); rintro e w2 ⟨rfl, hb⟩; replace Ha := Lib.hid (Ha.out.below hb); replace Hb := Lib.hid (Hb.out.below hb); replace HB := Lib.hid (HB.out.trans (hb.mono HB.out.size)); clear hb)
    | (go_at_call 15; (with_reducible refine (W_long K _ Hb.out G1.out).mono ?_); rintro e w2 ⟨rfl, hb⟩; replace Ha := Lib.hid (Ha.out.below hb); replace Hb := Lib.hid (Hb.out.below hb); replace HB := Lib.hid (HB.out.trans (hb.mono HB.out.size)); clear hb))
  go_wp2_with fail
  refine (W_cut 70 _ Ha.out F1.out).mono ?_
  rintro e w1 ⟨B1_0, d1_0, rfl, g0, hb⟩
  replace Ha := Lib.hid (Ha.out.below hb)
  replace Hb := Lib.hid (Hb.out.below hb)
  replace HB := Lib.hid (HB.out.trans (hb.mono HB.out.size))
  have HA := Lib.hid g0
  clear hb g0
  clear Ha
  go_wp2_with fail
  refine (W_cut 70 _ Hb.out F2.out).mono ?_
  rintro e w2 ⟨B2_0, d2_0, rfl, g0, hb⟩
  replace Hb := Lib.hid (Hb.out.below hb)
  replace HA := Lib.hid (HA.out.below hb)
  replace HB := Lib.hid (HB.out.trans (hb.mono HB.out.size))
  have HC := Lib.hid g0
  clear hb g0
  clear Hb
  go_wp2_with fail
  refine (W_copied _ HA.out F3.out).mono ?_
  rintro e w3 ⟨B3_0, d3_0, rfl, g0, hb⟩
  replace HA := Lib.hid (HA.out.below hb)
  replace HC := Lib.hid (HC.out.below hb)
  replace HB := Lib.hid (HB.out.trans (hb.mono HB.out.size))
  have HX := Lib.hid g0
  clear hb g0
  go_wp2_with fail
  refine (W_copied _ HC.out F4.out).mono ?_
  rintro e w4 ⟨B4_0, d4_0, rfl, g0, hb⟩
  replace HA := Lib.hid (HA.out.below hb)
  replace HC := Lib.hid (HC.out.below hb)
  replace HX := Lib.hid (HX.out.below hb)
  replace HB := Lib.hid (HB.out.trans (hb.mono HB.out.size))
  have HY := Lib.hid g0
  clear hb g0
  go_wp2_with fail
  refine (W_Mul K _ HX.out HY.out F5.out).mono ?_
  rintro e w5 ⟨B5_0, d5_0, rfl, g0, hb⟩
  replace HA := Lib.hid (HA.out.below hb)
  replace HC := Lib.hid (HC.out.below hb)
  replace HX := Lib.hid (HX.out.below hb)
  replace HY := Lib.hid (HY.out.below hb)
  replace HB := Lib.hid (HB.out.trans (hb.mono HB.out.size))
  have HM := Lib.hid g0
  clear hb g0
  simp only [errW_none]
  go_wp2_with fail
  refine (W_Div _ HX.out HY.out F6.out).mono ?_
  rintro e w6 ⟨B6_0, d6_0, B6_1, d6_1, rfl, g0, g1, hb⟩
  replace HA := Lib.hid (HA.out.below hb)
  replace HC := Lib.hid (HC.out.below hb)
  replace HX := Lib.hid (HX.out.below hb)
  replace HY := Lib.hid (HY.out.below hb)
  replace HM := Lib.hid (HM.out.below hb)
  replace HB := Lib.hid (HB.out.trans (hb.mono HB.out.size))
  have HQ := Lib.hid g0
  have HR := Lib.hid g1
  clear hb g0 g1
  simp only [errW_none]
  go_wp2_with fail
  refine (W_Same K _ HX.out HA.out F7.out).mono ?_
  rintro e w7 ⟨rfl, hb⟩
  replace HA := Lib.hid (HA.out.below hb)
  replace HC := Lib.hid (HC.out.below hb)
  replace HX := Lib.hid (HX.out.below hb)
  replace HY := Lib.hid (HY.out.below hb)
  replace HM := Lib.hid (HM.out.below hb)
  replace HQ := Lib.hid (HQ.out.below hb)
  replace HR := Lib.hid (HR.out.below hb)
  replace HB := Lib.hid (HB.out.trans (hb.mono HB.out.size))
  clear hb
  clear HX
  go_wp2_with fail
  refine (W_Same K _ HY.out HC.out F8.out).mono ?_
  rintro e w8 ⟨rfl, hb⟩
  replace HA := Lib.hid (HA.out.below hb)
  replace HC := Lib.hid (HC.out.below hb)
  replace HY := Lib.hid (HY.out.below hb)
  replace HM := Lib.hid (HM.out.below hb)
  replace HQ := Lib.hid (HQ.out.below hb)
  replace HR := Lib.hid (HR.out.below hb)
  replace HB := Lib.hid (HB.out.trans (hb.mono HB.out.size))
  clear hb
  clear HY
  go_wp2_with fail
  refine (W_Of K _ HA.out F9.out).mono ?_
  rintro e w9 ⟨B9_0, d9_0, rfl, g0, hb⟩
  replace HA := Lib.hid (HA.out.below hb)
  replace HC := Lib.hid (HC.out.below hb)
  replace HM := Lib.hid (HM.out.below hb)
  replace HQ := Lib.hid (HQ.out.below hb)
  replace HR := Lib.hid (HR.out.below hb)
  replace HB := Lib.hid (HB.out.trans (hb.mono HB.out.size))
  have HU := Lib.hid g0
  clear hb g0
  clear HA
  go_wp2_with fail
  refine (W_Of K _ HC.out F10.out).mono ?_
  rintro e w10 ⟨B10_0, d10_0, rfl, g0, hb⟩
  replace HC := Lib.hid (HC.out.below hb)
  replace HM := Lib.hid (HM.out.below hb)
  replace HQ := Lib.hid (HQ.out.below hb)
  replace HR := Lib.hid (HR.out.below hb)
  replace HU := Lib.hid (HU.out.below hb)
  replace HB := Lib.hid (HB.out.trans (hb.mono HB.out.size))
  have HV := Lib.hid g0
  clear hb g0
  clear HC
  go_wp2_with fail
  refine (W_rMul K _ HU.out HV.out F11.out).mono ?_
  rintro e w11 ⟨B11_0, d11_0, rfl, g0, hb⟩
  replace HM := Lib.hid (HM.out.below hb)
  replace HQ := Lib.hid (HQ.out.below hb)
  replace HR := Lib.hid (HR.out.below hb)
  replace HU := Lib.hid (HU.out.below hb)
  replace HV := Lib.hid (HV.out.below hb)
  replace HB := Lib.hid (HB.out.trans (hb.mono HB.out.size))
  have HW := Lib.hid g0
  clear hb g0
  go_wp2_with fail
  refine (W_To K _ HW.out F12.out).mono ?_
  rintro e w12 ⟨B12_0, d12_0, rfl, g0, hb⟩
  replace HM := Lib.hid (HM.out.below hb)
  replace HQ := Lib.hid (HQ.out.below hb)
  replace HR := Lib.hid (HR.out.below hb)
  replace HU := Lib.hid (HU.out.below hb)
  replace HV := Lib.hid (HV.out.below hb)
  replace HW := Lib.hid (HW.out.below hb)
  replace HB := Lib.hid (HB.out.trans (hb.mono HB.out.size))
  have HN := Lib.hid g0
  clear hb g0
  clear HW
  go_wp2_with fail
  refine (W_Same K _ HM.out HN.out F13.out).mono ?_
  rintro e w13 ⟨rfl, hb⟩
  replace HM := Lib.hid (HM.out.below hb)
  replace HQ := Lib.hid (HQ.out.below hb)
  replace HR := Lib.hid (HR.out.below hb)
  replace HU := Lib.hid (HU.out.below hb)
  replace HV := Lib.hid (HV.out.below hb)
  replace HN := Lib.hid (HN.out.below hb)
  replace HB := Lib.hid (HB.out.trans (hb.mono HB.out.size))
  clear hb
  clear HM
  clear HN
  go_wp2
  go_ret
  exact ⟨rfl, HB.out⟩

set_option maxHeartbeats 2000000 in
set_option maxRecDepth 100000 in
theorem plain (A0 A1 : Option Addr) (c0 c1 : Nat) (la lb lA lB lM lQ lR lU lV lW lk ll : List Int) (w : World) (ha : Rd w (.slice A0 la.length c0) (numv .u64 la)) (hb : Rd w (.slice A1 lb.length c1) (numv .u64 lb)) (K : Nat)
    (g0 : treenaillaw01_long.f K la = some false) (g1 : treenaillaw01_long.f K lb = some false) (f1 : treenaillaw01_cut.f la 70 = some lA) (f2 : treenaillaw01_cut.f lb 70 = some lB) (f3 : treenaillaw01_copied.f lA = some lA) (f4 : treenaillaw01_copied.f lB = some lB) (f5 : nat_Mul.f K lA lB = some (lM, none)) (f6 : nat_Div.f lA lB = some (lQ, lR, none)) (f7 : treenailref01_Same.f K lA lA = some true) (f8 : treenailref01_Same.f K lB lB = some true) (f9 : treenailref01_Of.f K lA = some lU) (f10 : treenailref01_Of.f K lB = some lV) (f11 : treenailref01_Mul.f K lU lV = some lW) (f12 : treenailref01_To.f K lW = some lM) (f13 : treenailref01_Same.f K lM lM = some true) (t1 : ((lV.length : Int) == 0) = false) (t2 : decide ((80 : Int) < (lU.length : Int)) = false) (f14 : treenailref01_Div.f K lU lV = some (lk, ll)) (f15 : treenailref01_To.f K lk = some lQ) (f16 : treenailref01_Same.f K lQ lQ = some true) (f17 : treenailref01_To.f K ll = some lR) (f18 : treenailref01_Same.f K lR lR = some true) :
    Calls Try.prog 7 #[.slice A0 la.length c0, .slice A1 lb.length c1] w fun e w' => e = .returned (.bool true) ∧ Below w.heap.size w w' := by
  have Ha := Lib.hid ha
  have Hb := Lib.hid hb
  have G0 := Lib.hid g0
  have G1 := Lib.hid g1
  have F1 := Lib.hid f1
  have F2 := Lib.hid f2
  have F3 := Lib.hid f3
  have F4 := Lib.hid f4
  have F5 := Lib.hid f5
  have F6 := Lib.hid f6
  have F7 := Lib.hid f7
  have F8 := Lib.hid f8
  have F9 := Lib.hid f9
  have F10 := Lib.hid f10
  have F11 := Lib.hid f11
  have F12 := Lib.hid f12
  have F13 := Lib.hid f13
  have F14 := Lib.hid f14
  have F15 := Lib.hid f15
  have F16 := Lib.hid f16
  have F17 := Lib.hid f17
  have F18 := Lib.hid f18
  clear ha hb g0 g1 f1 f2 f3 f4 f5 f6 f7 f8 f9 f10 f11 f12 f13 f14 f15 f16 f17 f18
  go_enter Try.func7, Try.ntmps7
  go_wp2_with fail
  refine (treenaillaw01_up.calls true w rfl).mono ?_
  rintro e w0 ⟨rfl, hb⟩
  have HB := Lib.hid hb
  replace Ha := Lib.hid (Ha.out.below hb)
  replace Hb := Lib.hid (Hb.out.below hb)
  clear hb
  go_upto_region 6 with (first
    | (go_at_call 15; (with_reducible refine (W_long K _ Ha.out G0.out).mono ?_); rintro e w2 ⟨rfl, hb⟩; replace Ha := Lib.hid (Ha.out.below hb); replace Hb := Lib.hid (Hb.out.below hb); replace HB := Lib.hid (HB.out.trans (hb.mono HB.out.size)); clear hb)
    | (go_at_call 15; (with_reducible refine (W_long K _ Hb.out G1.out).mono ?_); rintro e w2 ⟨rfl, hb⟩; replace Ha := Lib.hid (Ha.out.below hb); replace Hb := Lib.hid (Hb.out.below hb); replace HB := Lib.hid (HB.out.trans (hb.mono HB.out.size)); clear hb))
  go_wp2_with fail
  refine (W_cut 70 _ Ha.out F1.out).mono ?_
  rintro e w1 ⟨B1_0, d1_0, rfl, g0, hb⟩
  replace Ha := Lib.hid (Ha.out.below hb)
  replace Hb := Lib.hid (Hb.out.below hb)
  replace HB := Lib.hid (HB.out.trans (hb.mono HB.out.size))
  have HA := Lib.hid g0
  clear hb g0
  clear Ha
  go_wp2_with fail
  refine (W_cut 70 _ Hb.out F2.out).mono ?_
  rintro e w2 ⟨B2_0, d2_0, rfl, g0, hb⟩
  replace Hb := Lib.hid (Hb.out.below hb)
  replace HA := Lib.hid (HA.out.below hb)
  replace HB := Lib.hid (HB.out.trans (hb.mono HB.out.size))
  have HC := Lib.hid g0
  clear hb g0
  clear Hb
  go_wp2_with fail
  refine (W_copied _ HA.out F3.out).mono ?_
  rintro e w3 ⟨B3_0, d3_0, rfl, g0, hb⟩
  replace HA := Lib.hid (HA.out.below hb)
  replace HC := Lib.hid (HC.out.below hb)
  replace HB := Lib.hid (HB.out.trans (hb.mono HB.out.size))
  have HX := Lib.hid g0
  clear hb g0
  go_wp2_with fail
  refine (W_copied _ HC.out F4.out).mono ?_
  rintro e w4 ⟨B4_0, d4_0, rfl, g0, hb⟩
  replace HA := Lib.hid (HA.out.below hb)
  replace HC := Lib.hid (HC.out.below hb)
  replace HX := Lib.hid (HX.out.below hb)
  replace HB := Lib.hid (HB.out.trans (hb.mono HB.out.size))
  have HY := Lib.hid g0
  clear hb g0
  go_wp2_with fail
  refine (W_Mul K _ HX.out HY.out F5.out).mono ?_
  rintro e w5 ⟨B5_0, d5_0, rfl, g0, hb⟩
  replace HA := Lib.hid (HA.out.below hb)
  replace HC := Lib.hid (HC.out.below hb)
  replace HX := Lib.hid (HX.out.below hb)
  replace HY := Lib.hid (HY.out.below hb)
  replace HB := Lib.hid (HB.out.trans (hb.mono HB.out.size))
  have HM := Lib.hid g0
  clear hb g0
  simp only [errW_none]
  go_wp2_with fail
  refine (W_Div _ HX.out HY.out F6.out).mono ?_
  rintro e w6 ⟨B6_0, d6_0, B6_1, d6_1, rfl, g0, g1, hb⟩
  replace HA := Lib.hid (HA.out.below hb)
  replace HC := Lib.hid (HC.out.below hb)
  replace HX := Lib.hid (HX.out.below hb)
  replace HY := Lib.hid (HY.out.below hb)
  replace HM := Lib.hid (HM.out.below hb)
  replace HB := Lib.hid (HB.out.trans (hb.mono HB.out.size))
  have HQ := Lib.hid g0
  have HR := Lib.hid g1
  clear hb g0 g1
  simp only [errW_none]
  go_wp2_with fail
  refine (W_Same K _ HX.out HA.out F7.out).mono ?_
  rintro e w7 ⟨rfl, hb⟩
  replace HA := Lib.hid (HA.out.below hb)
  replace HC := Lib.hid (HC.out.below hb)
  replace HX := Lib.hid (HX.out.below hb)
  replace HY := Lib.hid (HY.out.below hb)
  replace HM := Lib.hid (HM.out.below hb)
  replace HQ := Lib.hid (HQ.out.below hb)
  replace HR := Lib.hid (HR.out.below hb)
  replace HB := Lib.hid (HB.out.trans (hb.mono HB.out.size))
  clear hb
  clear HX
  go_wp2_with fail
  refine (W_Same K _ HY.out HC.out F8.out).mono ?_
  rintro e w8 ⟨rfl, hb⟩
  replace HA := Lib.hid (HA.out.below hb)
  replace HC := Lib.hid (HC.out.below hb)
  replace HY := Lib.hid (HY.out.below hb)
  replace HM := Lib.hid (HM.out.below hb)
  replace HQ := Lib.hid (HQ.out.below hb)
  replace HR := Lib.hid (HR.out.below hb)
  replace HB := Lib.hid (HB.out.trans (hb.mono HB.out.size))
  clear hb
  clear HY
  go_wp2_with fail
  refine (W_Of K _ HA.out F9.out).mono ?_
  rintro e w9 ⟨B9_0, d9_0, rfl, g0, hb⟩
  replace HA := Lib.hid (HA.out.below hb)
  replace HC := Lib.hid (HC.out.below hb)
  replace HM := Lib.hid (HM.out.below hb)
  replace HQ := Lib.hid (HQ.out.below hb)
  replace HR := Lib.hid (HR.out.below hb)
  replace HB := Lib.hid (HB.out.trans (hb.mono HB.out.size))
  have HU := Lib.hid g0
  clear hb g0
  clear HA
  go_wp2_with fail
  refine (W_Of K _ HC.out F10.out).mono ?_
  rintro e w10 ⟨B10_0, d10_0, rfl, g0, hb⟩
  replace HC := Lib.hid (HC.out.below hb)
  replace HM := Lib.hid (HM.out.below hb)
  replace HQ := Lib.hid (HQ.out.below hb)
  replace HR := Lib.hid (HR.out.below hb)
  replace HU := Lib.hid (HU.out.below hb)
  replace HB := Lib.hid (HB.out.trans (hb.mono HB.out.size))
  have HV := Lib.hid g0
  clear hb g0
  clear HC
  go_wp2_with fail
  refine (W_rMul K _ HU.out HV.out F11.out).mono ?_
  rintro e w11 ⟨B11_0, d11_0, rfl, g0, hb⟩
  replace HM := Lib.hid (HM.out.below hb)
  replace HQ := Lib.hid (HQ.out.below hb)
  replace HR := Lib.hid (HR.out.below hb)
  replace HU := Lib.hid (HU.out.below hb)
  replace HV := Lib.hid (HV.out.below hb)
  replace HB := Lib.hid (HB.out.trans (hb.mono HB.out.size))
  have HW := Lib.hid g0
  clear hb g0
  go_wp2_with fail
  refine (W_To K _ HW.out F12.out).mono ?_
  rintro e w12 ⟨B12_0, d12_0, rfl, g0, hb⟩
  replace HM := Lib.hid (HM.out.below hb)
  replace HQ := Lib.hid (HQ.out.below hb)
  replace HR := Lib.hid (HR.out.below hb)
  replace HU := Lib.hid (HU.out.below hb)
  replace HV := Lib.hid (HV.out.below hb)
  replace HW := Lib.hid (HW.out.below hb)
  replace HB := Lib.hid (HB.out.trans (hb.mono HB.out.size))
  have HN := Lib.hid g0
  clear hb g0
  clear HW
  go_wp2_with fail
  refine (W_Same K _ HM.out HN.out F13.out).mono ?_
  rintro e w13 ⟨rfl, hb⟩
  replace HM := Lib.hid (HM.out.below hb)
  replace HQ := Lib.hid (HQ.out.below hb)
  replace HR := Lib.hid (HR.out.below hb)
  replace HU := Lib.hid (HU.out.below hb)
  replace HV := Lib.hid (HV.out.below hb)
  replace HN := Lib.hid (HN.out.below hb)
  replace HB := Lib.hid (HB.out.trans (hb.mono HB.out.size))
  clear hb
  clear HM
  clear HN
  go_wp2_with fail
  refine (W_rDiv K _ HU.out HV.out F14.out).mono ?_
  rintro e w14 ⟨B14_0, d14_0, B14_1, d14_1, rfl, g0, g1, hb⟩
  replace HQ := Lib.hid (HQ.out.below hb)
  replace HR := Lib.hid (HR.out.below hb)
  replace HU := Lib.hid (HU.out.below hb)
  replace HV := Lib.hid (HV.out.below hb)
  replace HB := Lib.hid (HB.out.trans (hb.mono HB.out.size))
  have Hk := Lib.hid g0
  have Hl := Lib.hid g1
  clear hb g0 g1
  go_wp2_with fail
  refine (W_To K _ Hk.out F15.out).mono ?_
  rintro e w15 ⟨B15_0, d15_0, rfl, g0, hb⟩
  replace HQ := Lib.hid (HQ.out.below hb)
  replace HR := Lib.hid (HR.out.below hb)
  replace HU := Lib.hid (HU.out.below hb)
  replace HV := Lib.hid (HV.out.below hb)
  replace Hk := Lib.hid (Hk.out.below hb)
  replace Hl := Lib.hid (Hl.out.below hb)
  replace HB := Lib.hid (HB.out.trans (hb.mono HB.out.size))
  have HP := Lib.hid g0
  clear hb g0
  go_wp2_with fail
  refine (W_Same K _ HQ.out HP.out F16.out).mono ?_
  rintro e w16 ⟨rfl, hb⟩
  replace HQ := Lib.hid (HQ.out.below hb)
  replace HR := Lib.hid (HR.out.below hb)
  replace HU := Lib.hid (HU.out.below hb)
  replace HV := Lib.hid (HV.out.below hb)
  replace Hk := Lib.hid (Hk.out.below hb)
  replace Hl := Lib.hid (Hl.out.below hb)
  replace HP := Lib.hid (HP.out.below hb)
  replace HB := Lib.hid (HB.out.trans (hb.mono HB.out.size))
  clear hb
  clear HP
  clear Hk
  clear HQ
  go_wp2_with fail
  refine (W_To K _ Hl.out F17.out).mono ?_
  rintro e w17 ⟨B17_0, d17_0, rfl, g0, hb⟩
  replace HR := Lib.hid (HR.out.below hb)
  replace HU := Lib.hid (HU.out.below hb)
  replace HV := Lib.hid (HV.out.below hb)
  replace Hl := Lib.hid (Hl.out.below hb)
  replace HB := Lib.hid (HB.out.trans (hb.mono HB.out.size))
  have HP := Lib.hid g0
  clear hb g0
  go_wp2_with fail
  refine (W_Same K _ HR.out HP.out F18.out).mono ?_
  rintro e w18 ⟨rfl, hb⟩
  replace HR := Lib.hid (HR.out.below hb)
  replace HU := Lib.hid (HU.out.below hb)
  replace HV := Lib.hid (HV.out.below hb)
  replace Hl := Lib.hid (Hl.out.below hb)
  replace HP := Lib.hid (HP.out.below hb)
  replace HB := Lib.hid (HB.out.trans (hb.mono HB.out.size))
  clear hb
  go_wp2
  go_ret
  exact ⟨rfl, HB.out⟩

end Go.Proofs.Ytolflieiipnndaa.PureP
