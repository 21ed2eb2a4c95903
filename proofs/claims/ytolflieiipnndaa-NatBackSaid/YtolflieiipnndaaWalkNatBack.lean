/- NatBack: the law's walk, over what the printed functions compute. -/
import Derived.Test.YtolflieiipnndaaPureB
import Derived.Test.YtolflieiipnndaaMg34
import Derived.Test.YtolflieiipnndaaNumG
import Derived.Test.YtolflieiipnndaaUp01
import Derived.Test.YtolflieiipnndaaDiv
import Derived.Handy
namespace Go.Proofs.Ytolflieiipnndaa.PureK
open Go.RowKit Go.Proofs.Ytolflieiipnndaa Go.Proofs.Ytolflieiipnndaa.X Go.Proofs.YtolflieiipnndaaW.PrintWords Go.Proofs.YtolflieiipnndaaW.PrintLast Go.Proofs.YtolflieiipnndaaW.PrintMore Go.Proofs.Ytolflieiipnndaa.Num
set_option linter.unusedVariables false

theorem W_Limbs (k : Nat) {A0 : Option Addr} {c0 : Nat} {l0 : List Int} (W : World) {r0 : Int} (h0 : Rd W (.slice A0 l0.length c0) (numv .u64 l0)) (h : treenailref01_Limbs.f k l0 = some r0) :
    Calls Try.prog 37 #[.slice A0 l0.length c0] W fun e w' => e = .returned (.int .i64 r0) ∧ Below W.heap.size W w' := by
  refine (treenailref01_Limbs.calls k A0 c0 l0 r0 W (C_of_rd h0).1 (C_of_rd h0).2.1 h).mono ?_
  rintro e w' ⟨rfl, hb⟩
  exact ⟨rfl, by obtain ⟨n, rfl⟩ := hb; exact (Below.refl _ _).drewN n⟩

theorem W_Add (k : Nat) {A0 : Option Addr} {c0 : Nat} {l0 : List Int} {A1 : Option Addr} {c1 : Nat} {l1 : List Int} (W : World) {r0 : List Int} {r1 : Option Int} (h0 : Rd W (.slice A0 l0.length c0) (numv .u64 l0)) (h1 : Rd W (.slice A1 l1.length c1) (numv .u64 l1)) (h : nat_Add.f k l0 l1 = some (r0, r1)) :
    Calls Try.prog 12 #[.slice A0 l0.length c0, .slice A1 l1.length c1] W fun e w' => ∃ (B0 : Option Addr) (d0 : Nat), e = .returned (.tuple #[.slice B0 r0.length d0, errW r1]) ∧ Rd w' (.slice B0 r0.length d0) (numv .u64 r0) ∧ Below W.heap.size W w' := by
  refine (nat_Add.calls k (fun _ => True) A0 c0 l0 (fun _ => True) A1 c1 l1 r0 r1 W (V_of_rd h0 (fun _ _ => trivial)) (V_of_rd h1 (fun _ _ => trivial)) h).mono ?_
  rintro e w' ⟨v0, rfl, g0, hb⟩
  obtain ⟨B0, d0, rfl⟩ := Kd.V_slice g0
  exact ⟨B0, d0, rfl, rd_of_V g0, hb⟩

theorem W_Sub (k : Nat) {A0 : Option Addr} {c0 : Nat} {l0 : List Int} {A1 : Option Addr} {c1 : Nat} {l1 : List Int} (W : World) {r0 : List Int} {r1 : Option Int} (h0 : Rd W (.slice A0 l0.length c0) (numv .u64 l0)) (h1 : Rd W (.slice A1 l1.length c1) (numv .u64 l1)) (h : nat_Sub.f k l0 l1 = some (r0, r1)) :
    Calls Try.prog 13 #[.slice A0 l0.length c0, .slice A1 l1.length c1] W fun e w' => ∃ (B0 : Option Addr) (d0 : Nat), e = .returned (.tuple #[.slice B0 r0.length d0, errW r1]) ∧ Rd w' (.slice B0 r0.length d0) (numv .u64 r0) ∧ Below W.heap.size W w' := by
  refine (nat_Sub.calls k (fun _ => True) A0 c0 l0 (fun _ => True) A1 c1 l1 r0 r1 W (V_of_rd h0 (fun _ _ => trivial)) (V_of_rd h1 (fun _ _ => trivial)) h).mono ?_
  rintro e w' ⟨v0, rfl, g0, hb⟩
  obtain ⟨B0, d0, rfl⟩ := Kd.V_slice g0
  exact ⟨B0, d0, rfl, rd_of_V g0, hb⟩

theorem W_Mul (k : Nat) {A0 : Option Addr} {c0 : Nat} {l0 : List Int} {A1 : Option Addr} {c1 : Nat} {l1 : List Int} (W : World) {r0 : List Int} {r1 : Option Int} (h0 : Rd W (.slice A0 l0.length c0) (numv .u64 l0)) (h1 : Rd W (.slice A1 l1.length c1) (numv .u64 l1)) (h : nat_Mul.f k l0 l1 = some (r0, r1)) :
    Calls Try.prog 32 #[.slice A0 l0.length c0, .slice A1 l1.length c1] W fun e w' => ∃ (B0 : Option Addr) (d0 : Nat), e = .returned (.tuple #[.slice B0 r0.length d0, errW r1]) ∧ Rd w' (.slice B0 r0.length d0) (numv .u64 r0) ∧ Below W.heap.size W w' := by
  refine (nat_Mul.calls k (fun _ => True) A0 c0 l0 (fun _ => True) A1 c1 l1 r0 r1 W (V_of_rd h0 (fun _ _ => trivial)) (V_of_rd h1 (fun _ _ => trivial)) h).mono ?_
  rintro e w' ⟨v0, rfl, g0, hb⟩
  obtain ⟨B0, d0, rfl⟩ := Kd.V_slice g0
  exact ⟨B0, d0, rfl, rd_of_V g0, hb⟩

theorem W_Norm (k : Nat) {A0 : Option Addr} {c0 : Nat} {l0 : List Int} (W : World) {r0 : List Int} (h0 : Rd W (.slice A0 l0.length c0) (numv .u64 l0)) (h : nat_Norm.f k l0 = some r0) :
    Calls Try.prog 21 #[.slice A0 l0.length c0] W fun e w' => ∃ (B0 : Option Addr) (d0 : Nat), e = .returned (.slice B0 r0.length d0) ∧ Rd w' (.slice B0 r0.length d0) (numv .u64 r0) ∧ Below W.heap.size W w' := by
  refine (nat_Norm.calls k A0 c0 l0 r0 W (C_of_rd h0).1 (C_of_rd h0).2.1 h).mono ?_
  rintro e w' ⟨v0, rfl, g0, hb⟩
  obtain ⟨B0, d0, rfl⟩ := ownSlice (own_of_RN g0)
  exact ⟨B0, d0, rfl, rd_of_RN g0, hb⟩

theorem W_Same (k : Nat) {A0 : Option Addr} {c0 : Nat} {l0 : List Int} {A1 : Option Addr} {c1 : Nat} {l1 : List Int} (W : World) {r0 : Bool} (h0 : Rd W (.slice A0 l0.length c0) (numv .u64 l0)) (h1 : Rd W (.slice A1 l1.length c1) (numv .u64 l1)) (h : treenailref01_Same.f k l0 l1 = some r0) :
    Calls Try.prog 14 #[.slice A0 l0.length c0, .slice A1 l1.length c1] W fun e w' => e = .returned (.bool r0) ∧ Below W.heap.size W w' := by
  refine (treenailref01_Same.calls k A0 c0 l0 A1 c1 l1 r0 W (C_of_rd h0).1 (C_of_rd h0).2.1 (C_of_rd h1).1 (C_of_rd h1).2.1 h).mono ?_
  rintro e w' ⟨rfl, hb⟩
  exact ⟨rfl, by obtain ⟨n, rfl⟩ := hb; exact (Below.refl _ _).drewN n⟩

theorem W_Cmp (k : Nat) {A0 : Option Addr} {c0 : Nat} {l0 : List Int} {A1 : Option Addr} {c1 : Nat} {l1 : List Int} (W : World) {r0 : Int} (h0 : Rd W (.slice A0 l0.length c0) (numv .u64 l0)) (h1 : Rd W (.slice A1 l1.length c1) (numv .u64 l1)) (h : nat_Cmp.f k l0 l1 = some r0) :
    Calls Try.prog 22 #[.slice A0 l0.length c0, .slice A1 l1.length c1] W fun e w' => e = .returned (.int .i64 r0) ∧ Below W.heap.size W w' := by
  refine (nat_Cmp.calls k A0 c0 l0 A1 c1 l1 r0 W (C_of_rd h0).1 (C_of_rd h0).2.1 (C_of_rd h1).1 (C_of_rd h1).2.1 h).mono ?_
  rintro e w' ⟨rfl, hb⟩
  exact ⟨rfl, hb⟩

theorem W_Div {A0 : Option Addr} {c0 : Nat} {l0 : List Int} {A1 : Option Addr} {c1 : Nat} {l1 : List Int} (W : World) {r0 : List Int} {r1 : List Int} {r2 : Option Int} (h0 : Rd W (.slice A0 l0.length c0) (numv .u64 l0)) (h1 : Rd W (.slice A1 l1.length c1) (numv .u64 l1)) (h : nat_Div.f l0 l1 = some (r0, r1, r2)) :
    Calls Try.prog 33 #[.slice A0 l0.length c0, .slice A1 l1.length c1] W fun e w' => ∃ (B0 : Option Addr) (d0 : Nat) (B1 : Option Addr) (d1 : Nat), e = .returned (.tuple #[.slice B0 r0.length d0, .slice B1 r1.length d1, errW r2]) ∧ Rd w' (.slice B0 r0.length d0) (numv .u64 r0) ∧ Rd w' (.slice B1 r1.length d1) (numv .u64 r1) ∧ Below W.heap.size W w' := by
  refine (nat_Div.calls A0 c0 l0 A1 c1 l1 r0 r1 r2 W (C_of_rd h0).1 (C_of_rd h0).2.1 (C_of_rd h1).1 (C_of_rd h1).2.1 h).mono ?_
  rintro e w' ⟨v0, v1, rfl, g0, g1, hb⟩
  obtain ⟨B0, d0, rfl⟩ := Kd.V_slice g0
  obtain ⟨B1, d1, rfl⟩ := Kd.V_slice g1
  exact ⟨B0, d0, B1, d1, rfl, rd_of_V g0, rd_of_V g1, hb⟩

attribute [local go_sem] eql_code neq_code eql_nil_code neq_nil_code

set_option maxHeartbeats 2000000 in
set_option maxRecDepth 100000 in
theorem long_a (A0 A1 : Option Addr) (c0 c1 : Nat) (la lb : List Int) (w : World) (ha : Rd w (.slice A0 la.length c0) (numv .u64 la)) (hb : Rd w (.slice A1 lb.length c1) (numv .u64 lb)) (K : Nat) (n0 n1 : Int) (g0 : treenailref01_Limbs.f K la = some n0) (h0 : 31 < n0) :
    Calls Try.prog 9 #[.slice A0 la.length c0, .slice A1 lb.length c1] w fun e w' => e = .returned (.bool true) ∧ Below w.heap.size w w' := by
  have Ha := Lib.hid ha
  have Hb := Lib.hid hb
  have G0 := Lib.hid g0
  clear ha hb g0
  go_enter Try.func9, Try.ntmps9
  go_wp2_with fail
  refine (treenaillaw01_up.calls true w rfl).mono ?_
  rintro e w0 ⟨rfl, hb⟩
  have HB := Lib.hid hb
  replace Ha := Lib.hid (Ha.out.below hb)
  replace Hb := Lib.hid (Hb.out.below hb)
  clear hb
  go_wp2_with (first
    | (go_at_call 37; (with_reducible refine (W_Limbs K _ Ha.out G0.out).mono ?_); rintro e w2 ⟨rfl, hb⟩; replace Ha := Lib.hid (Ha.out.below hb); replace Hb := Lib.hid (Hb.out.below hb); replace HB := Lib.hid (HB.out.trans (hb.mono HB.out.size)); clear hb))
  go_ret
  exact ⟨rfl, HB.out⟩

set_option maxHeartbeats 2000000 in
set_option maxRecDepth 100000 in
theorem long_b (A0 A1 : Option Addr) (c0 c1 : Nat) (la lb : List Int) (w : World) (ha : Rd w (.slice A0 la.length c0) (numv .u64 la)) (hb : Rd w (.slice A1 lb.length c1) (numv .u64 lb)) (K : Nat) (n0 n1 : Int) (g0 : treenailref01_Limbs.f K la = some n0) (h0 : n0 ≤ 31) (g1 : treenailref01_Limbs.f K lb = some n1) (h1 : 31 < n1) :
    Calls Try.prog 9 #[.slice A0 la.length c0, .slice A1 lb.length c1] w fun e w' => e = .returned (.bool true) ∧ Below w.heap.size w w' := by
  have Ha := Lib.hid ha
  have Hb := Lib.hid hb
  have G0 := Lib.hid g0
  have G1 := Lib.hid g1
  clear ha hb g0 g1
  go_enter Try.func9, Try.ntmps9
  go_wp2_with fail
  refine (treenaillaw01_up.calls true w rfl).mono ?_
  rintro e w0 ⟨rfl, hb⟩
  have HB := Lib.hid hb
  replace Ha := Lib.hid (Ha.out.below hb)
  replace Hb := Lib.hid (Hb.out.below hb)
  clear hb
  go_wp2_with (first
    | (go_at_call 37; (with_reducible refine (W_Limbs K _ Ha.out G0.out).mono ?_); rintro e w2 ⟨rfl, hb⟩; replace Ha := Lib.hid (Ha.out.below hb); replace Hb := Lib.hid (Hb.out.below hb); replace HB := Lib.hid (HB.out.trans (hb.mono HB.out.size)); clear hb)
    | (go_at_call 37; (with_reducible refine (W_Limbs K _ Hb.out G1.out).mono ?_); rintro e w2 ⟨rfl, hb⟩; replace Ha := Lib.hid (Ha.out.below hb); replace Hb := Lib.hid (Hb.out.below hb); replace HB := Lib.hid (HB.out.trans (hb.mono HB.out.size)); clear hb))
  go_ret
  exact ⟨rfl, HB.out⟩

set_option maxHeartbeats 2000000 in
set_option maxRecDepth 100000 in
theorem zero (A0 A1 : Option Addr) (c0 c1 : Nat) (la lb lS lP lX : List Int) (w : World) (ha : Rd w (.slice A0 la.length c0) (numv .u64 la)) (hb : Rd w (.slice A1 lb.length c1) (numv .u64 lb)) (K : Nat) (n0 n1 m0 m1 : Int)
    (g0 : treenailref01_Limbs.f K la = some n0) (h0 : n0 ≤ 31) (g1 : treenailref01_Limbs.f K lb = some n1) (h1 : n1 ≤ 31) (f1 : nat_Add.f K la lb = some (lS, none)) (f2 : nat_Sub.f K lS lb = some (lX, none)) (f3 : nat_Mul.f K la lb = some (lP, none)) (f4 : nat_Norm.f K la = some lX) (f5 : treenailref01_Same.f K lX lX = some true) (f6 : nat_Cmp.f K lb [] = some m0) (t1 : (m0 == 0) = true) (t2 : ((lP.length : Int) == 0) = true) :
    Calls Try.prog 9 #[.slice A0 la.length c0, .slice A1 lb.length c1] w fun e w' => e = .returned (.bool true) ∧ Below w.heap.size w w' := by
  have Ha := Lib.hid ha
  have Hb := Lib.hid hb
  have G0 := Lib.hid g0
  have G1 := Lib.hid g1
  have F1 := Lib.hid f1
  have F2 := Lib.hid f2
  have F3 := Lib.hid f3
  have F4 := Lib.hid f4
  have F5 := Lib.hid f5
  have F6 := Lib.hid f6
  clear ha hb g0 g1 f1 f2 f3 f4 f5 f6
  go_enter Try.func9, Try.ntmps9
  go_wp2_with fail
  refine (treenaillaw01_up.calls true w rfl).mono ?_
  rintro e w0 ⟨rfl, hb⟩
  have HB := Lib.hid hb
  replace Ha := Lib.hid (Ha.out.below hb)
  replace Hb := Lib.hid (Hb.out.below hb)
  clear hb
  go_upto_region 4 with (first
    | (go_at_call 37; (with_reducible refine (W_Limbs K _ Ha.out G0.out).mono ?_); rintro e w2 ⟨rfl, hb⟩; replace Ha := Lib.hid (Ha.out.below hb); replace Hb := Lib.hid (Hb.out.below hb); replace HB := Lib.hid (HB.out.trans (hb.mono HB.out.size)); clear hb)
    | (go_at_call 37; (with_reducible refine (W_Limbs K _ Hb.out G1.out).mono ?_); rintro e w2 ⟨rfl, hb⟩; replace Ha := Lib.hid (Ha.out.below hb); replace Hb := Lib.hid (Hb.out.below hb); replace HB := Lib.hid (HB.out.trans (hb.mono HB.out.size)); clear hb))
  go_wp2_with fail
  refine (W_Add K _ Ha.out Hb.out F1.out).mono ?_
  rintro e w1 ⟨B1_0, d1_0, rfl, g0, hb⟩
  replace Ha := Lib.hid (Ha.out.below hb)
  replace Hb := Lib.hid (Hb.out.below hb)
  replace HB := Lib.hid (HB.out.trans (hb.mono HB.out.size))
  have HS := Lib.hid g0
  clear hb g0
  simp only [errW_none]
  go_wp2_with fail
  refine (W_Sub K _ HS.out Hb.out F2.out).mono ?_
  rintro e w2 ⟨B2_0, d2_0, rfl, g0, hb⟩
  replace Ha := Lib.hid (Ha.out.below hb)
  replace Hb := Lib.hid (Hb.out.below hb)
  replace HS := Lib.hid (HS.out.below hb)
  replace HB := Lib.hid (HB.out.trans (hb.mono HB.out.size))
  have HD := Lib.hid g0
  clear hb g0
  simp only [errW_none]
  clear HS
  go_wp2_with fail
  refine (W_Mul K _ Ha.out Hb.out F3.out).mono ?_
  rintro e w3 ⟨B3_0, d3_0, rfl, g0, hb⟩
  replace Ha := Lib.hid (Ha.out.below hb)
  replace Hb := Lib.hid (Hb.out.below hb)
  replace HD := Lib.hid (HD.out.below hb)
  replace HB := Lib.hid (HB.out.trans (hb.mono HB.out.size))
  have HP := Lib.hid g0
  clear hb g0
  simp only [errW_none]
  go_wp2_with fail
  refine (W_Norm K _ Ha.out F4.out).mono ?_
  rintro e w4 ⟨B4_0, d4_0, rfl, g0, hb⟩
  replace Ha := Lib.hid (Ha.out.below hb)
  replace Hb := Lib.hid (Hb.out.below hb)
  replace HD := Lib.hid (HD.out.below hb)
  replace HP := Lib.hid (HP.out.below hb)
  replace HB := Lib.hid (HB.out.trans (hb.mono HB.out.size))
  have HX := Lib.hid g0
  clear hb g0
  go_wp2_with fail
  refine (W_Same K _ HD.out HX.out F5.out).mono ?_
  rintro e w5 ⟨rfl, hb⟩
  replace Ha := Lib.hid (Ha.out.below hb)
  replace Hb := Lib.hid (Hb.out.below hb)
  replace HD := Lib.hid (HD.out.below hb)
  replace HP := Lib.hid (HP.out.below hb)
  replace HX := Lib.hid (HX.out.below hb)
  replace HB := Lib.hid (HB.out.trans (hb.mono HB.out.size))
  clear hb
  clear HD
  go_wp2_with fail
  have Hn := Lib.hid (show Rd _ (.slice none ([] : List Int).length 0) (numv .u64 []) from Rd.nil w5)
  refine (W_Cmp K _ Hb.out Hn.out F6.out).mono ?_
  rintro e w6 ⟨rfl, hb⟩
  replace Ha := Lib.hid (Ha.out.below hb)
  replace Hb := Lib.hid (Hb.out.below hb)
  replace HP := Lib.hid (HP.out.below hb)
  replace HX := Lib.hid (HX.out.below hb)
  replace HB := Lib.hid (HB.out.trans (hb.mono HB.out.size))
  clear hb
  go_wp2
  go_ret
  exact ⟨rfl, HB.out⟩

set_option maxHeartbeats 2000000 in
set_option maxRecDepth 100000 in
theorem plain (A0 A1 : Option Addr) (c0 c1 : Nat) (la lb lS lP lX lR lk ll lt : List Int) (w : World) (ha : Rd w (.slice A0 la.length c0) (numv .u64 la)) (hb : Rd w (.slice A1 lb.length c1) (numv .u64 lb)) (K : Nat) (n0 n1 m0 m1 : Int)
    (g0 : treenailref01_Limbs.f K la = some n0) (h0 : n0 ≤ 31) (g1 : treenailref01_Limbs.f K lb = some n1) (h1 : n1 ≤ 31) (f1 : nat_Add.f K la lb = some (lS, none)) (f2 : nat_Sub.f K lS lb = some (lX, none)) (f3 : nat_Mul.f K la lb = some (lP, none)) (f4 : nat_Norm.f K la = some lX) (f5 : treenailref01_Same.f K lX lX = some true) (f6 : nat_Cmp.f K lb [] = some m0) (t1 : (m0 == 0) = false) (t2 : ((lR.length : Int) == 0) = true) (f7 : nat_Div.f lP lb = some (lX, lR, none)) (f9 : nat_Div.f la lb = some (lk, ll, none)) (f10 : nat_Mul.f K lk lb = some (lt, none)) (f11 : nat_Add.f K lt ll = some (lX, none)) (f13 : nat_Cmp.f K ll lb = some m1) (t3 : decide (m1 < 0) = true) :
    Calls Try.prog 9 #[.slice A0 la.length c0, .slice A1 lb.length c1] w fun e w' => e = .returned (.bool true) ∧ Below w.heap.size w w' := by
  have Ha := Lib.hid ha
  have Hb := Lib.hid hb
  have G0 := Lib.hid g0
  have G1 := Lib.hid g1
  have F1 := Lib.hid f1
  have F2 := Lib.hid f2
  have F3 := Lib.hid f3
  have F4 := Lib.hid f4
  have F5 := Lib.hid f5
  have F6 := Lib.hid f6
  have F7 := Lib.hid f7
  have F9 := Lib.hid f9
  have F10 := Lib.hid f10
  have F11 := Lib.hid f11
  have F13 := Lib.hid f13
  clear ha hb g0 g1 f1 f2 f3 f4 f5 f6 f7 f9 f10 f11 f13
  go_enter Try.func9, Try.ntmps9
  go_wp2_with fail
  refine (treenaillaw01_up.calls true w rfl).mono ?_
  rintro e w0 ⟨rfl, hb⟩
  have HB := Lib.hid hb
  replace Ha := Lib.hid (Ha.out.below hb)
  replace Hb := Lib.hid (Hb.out.below hb)
  clear hb
  go_upto_region 4 with (first
    | (go_at_call 37; (with_reducible refine (W_Limbs K _ Ha.out G0.out).mono ?_); rintro e w2 ⟨rfl, hb⟩; replace Ha := Lib.hid (Ha.out.below hb); replace Hb := Lib.hid (Hb.out.below hb); replace HB := Lib.hid (HB.out.trans (hb.mono HB.out.size)); clear hb)
    | (go_at_call 37; (with_reducible refine (W_Limbs K _ Hb.out G1.out).mono ?_); rintro e w2 ⟨rfl, hb⟩; replace Ha := Lib.hid (Ha.out.below hb); replace Hb := Lib.hid (Hb.out.below hb); replace HB := Lib.hid (HB.out.trans (hb.mono HB.out.size)); clear hb))
  go_wp2_with fail
  refine (W_Add K _ Ha.out Hb.out F1.out).mono ?_
  rintro e w1 ⟨B1_0, d1_0, rfl, g0, hb⟩
  replace Ha := Lib.hid (Ha.out.below hb)
  replace Hb := Lib.hid (Hb.out.below hb)
  replace HB := Lib.hid (HB.out.trans (hb.mono HB.out.size))
  have HS := Lib.hid g0
  clear hb g0
  simp only [errW_none]
  go_wp2_with fail
  refine (W_Sub K _ HS.out Hb.out F2.out).mono ?_
  rintro e w2 ⟨B2_0, d2_0, rfl, g0, hb⟩
  replace Ha := Lib.hid (Ha.out.below hb)
  replace Hb := Lib.hid (Hb.out.below hb)
  replace HS := Lib.hid (HS.out.below hb)
  replace HB := Lib.hid (HB.out.trans (hb.mono HB.out.size))
  have HD := Lib.hid g0
  clear hb g0
  simp only [errW_none]
  clear HS
  go_wp2_with fail
  refine (W_Mul K _ Ha.out Hb.out F3.out).mono ?_
  rintro e w3 ⟨B3_0, d3_0, rfl, g0, hb⟩
  replace Ha := Lib.hid (Ha.out.below hb)
  replace Hb := Lib.hid (Hb.out.below hb)
  replace HD := Lib.hid (HD.out.below hb)
  replace HB := Lib.hid (HB.out.trans (hb.mono HB.out.size))
  have HP := Lib.hid g0
  clear hb g0
  simp only [errW_none]
  go_wp2_with fail
  refine (W_Norm K _ Ha.out F4.out).mono ?_
  rintro e w4 ⟨B4_0, d4_0, rfl, g0, hb⟩
  replace Ha := Lib.hid (Ha.out.below hb)
  replace Hb := Lib.hid (Hb.out.below hb)
  replace HD := Lib.hid (HD.out.below hb)
  replace HP := Lib.hid (HP.out.below hb)
  replace HB := Lib.hid (HB.out.trans (hb.mono HB.out.size))
  have HX := Lib.hid g0
  clear hb g0
  go_wp2_with fail
  refine (W_Same K _ HD.out HX.out F5.out).mono ?_
  rintro e w5 ⟨rfl, hb⟩
  replace Ha := Lib.hid (Ha.out.below hb)
  replace Hb := Lib.hid (Hb.out.below hb)
  replace HD := Lib.hid (HD.out.below hb)
  replace HP := Lib.hid (HP.out.below hb)
  replace HX := Lib.hid (HX.out.below hb)
  replace HB := Lib.hid (HB.out.trans (hb.mono HB.out.size))
  clear hb
  clear HD
  go_wp2_with fail
  have Hn := Lib.hid (show Rd _ (.slice none ([] : List Int).length 0) (numv .u64 []) from Rd.nil w5)
  refine (W_Cmp K _ Hb.out Hn.out F6.out).mono ?_
  rintro e w6 ⟨rfl, hb⟩
  replace Ha := Lib.hid (Ha.out.below hb)
  replace Hb := Lib.hid (Hb.out.below hb)
  replace HP := Lib.hid (HP.out.below hb)
  replace HX := Lib.hid (HX.out.below hb)
  replace HB := Lib.hid (HB.out.trans (hb.mono HB.out.size))
  clear hb
  go_wp2_with fail
  refine (W_Div _ HP.out Hb.out F7.out).mono ?_
  rintro e w7 ⟨B7_0, d7_0, B7_1, d7_1, rfl, g0, g1, hb⟩
  replace Ha := Lib.hid (Ha.out.below hb)
  replace Hb := Lib.hid (Hb.out.below hb)
  replace HP := Lib.hid (HP.out.below hb)
  replace HX := Lib.hid (HX.out.below hb)
  replace HB := Lib.hid (HB.out.trans (hb.mono HB.out.size))
  have HQ := Lib.hid g0
  have HR := Lib.hid g1
  clear hb g0 g1
  simp only [errW_none]
  clear HP
  go_wp2_with fail
  refine (W_Same K _ HQ.out HX.out F5.out).mono ?_
  rintro e w8 ⟨rfl, hb⟩
  replace Ha := Lib.hid (Ha.out.below hb)
  replace Hb := Lib.hid (Hb.out.below hb)
  replace HX := Lib.hid (HX.out.below hb)
  replace HQ := Lib.hid (HQ.out.below hb)
  replace HR := Lib.hid (HR.out.below hb)
  replace HB := Lib.hid (HB.out.trans (hb.mono HB.out.size))
  clear hb
  clear HQ
  go_wp2_with fail
  refine (W_Div _ Ha.out Hb.out F9.out).mono ?_
  rintro e w9 ⟨B9_0, d9_0, B9_1, d9_1, rfl, g0, g1, hb⟩
  replace Ha := Lib.hid (Ha.out.below hb)
  replace Hb := Lib.hid (Hb.out.below hb)
  replace HX := Lib.hid (HX.out.below hb)
  replace HR := Lib.hid (HR.out.below hb)
  replace HB := Lib.hid (HB.out.trans (hb.mono HB.out.size))
  have Hk := Lib.hid g0
  have Hl := Lib.hid g1
  clear hb g0 g1
  simp only [errW_none]
  clear Ha
  go_wp2_with fail
  refine (W_Mul K _ Hk.out Hb.out F10.out).mono ?_
  rintro e w10 ⟨B10_0, d10_0, rfl, g0, hb⟩
  replace Hb := Lib.hid (Hb.out.below hb)
  replace HX := Lib.hid (HX.out.below hb)
  replace HR := Lib.hid (HR.out.below hb)
  replace Hk := Lib.hid (Hk.out.below hb)
  replace Hl := Lib.hid (Hl.out.below hb)
  replace HB := Lib.hid (HB.out.trans (hb.mono HB.out.size))
  have Ht := Lib.hid g0
  clear hb g0
  simp only [errW_none]
  clear Hk
  go_wp2_with fail
  refine (W_Add K _ Ht.out Hl.out F11.out).mono ?_
  rintro e w11 ⟨B11_0, d11_0, rfl, g0, hb⟩
  replace Hb := Lib.hid (Hb.out.below hb)
  replace HX := Lib.hid (HX.out.below hb)
  replace HR := Lib.hid (HR.out.below hb)
  replace Hl := Lib.hid (Hl.out.below hb)
  replace Ht := Lib.hid (Ht.out.below hb)
  replace HB := Lib.hid (HB.out.trans (hb.mono HB.out.size))
  have Hu := Lib.hid g0
  clear hb g0
  simp only [errW_none]
  clear Ht
  go_wp2_with fail
  refine (W_Same K _ Hu.out HX.out F5.out).mono ?_
  rintro e w12 ⟨rfl, hb⟩
  replace Hb := Lib.hid (Hb.out.below hb)
  replace HX := Lib.hid (HX.out.below hb)
  replace HR := Lib.hid (HR.out.below hb)
  replace Hl := Lib.hid (Hl.out.below hb)
  replace Hu := Lib.hid (Hu.out.below hb)
  replace HB := Lib.hid (HB.out.trans (hb.mono HB.out.size))
  clear hb
  go_wp2_with fail
  refine (W_Cmp K _ Hl.out Hb.out F13.out).mono ?_
  rintro e w13 ⟨rfl, hb⟩
  replace Hb := Lib.hid (Hb.out.below hb)
  replace HX := Lib.hid (HX.out.below hb)
  replace HR := Lib.hid (HR.out.below hb)
  replace Hl := Lib.hid (Hl.out.below hb)
  replace Hu := Lib.hid (Hu.out.below hb)
  replace HB := Lib.hid (HB.out.trans (hb.mono HB.out.size))
  clear hb
  go_wp2
  go_ret
  exact ⟨rfl, HB.out⟩

end Go.Proofs.Ytolflieiipnndaa.PureK
