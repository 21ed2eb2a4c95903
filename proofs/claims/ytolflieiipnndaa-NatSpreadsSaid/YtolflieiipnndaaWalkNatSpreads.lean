/- NatSpreads: the law's walk, over what the printed functions compute. -/
import Derived.Test.YtolflieiipnndaaPureB
import Derived.Test.YtolflieiipnndaaNumG
import Derived.Test.YtolflieiipnndaaUp01
import Derived.Handy
namespace Go.Proofs.Ytolflieiipnndaa.Pure
open Go.RowKit Go.Proofs.Ytolflieiipnndaa Go.Proofs.Ytolflieiipnndaa.X Go.Proofs.YtolflieiipnndaaW.PrintWords Go.Proofs.YtolflieiipnndaaW.PrintLast Go.Proofs.YtolflieiipnndaaW.PrintMore Go.Proofs.Ytolflieiipnndaa.Num
set_option linter.unusedVariables false

theorem W_Limbs (k : Nat) {A0 : Option Addr} {c0 : Nat} {l0 : List Int} (W : World) {r0 : Int} (h0 : Rd W (.slice A0 l0.length c0) (numv .u64 l0)) (h : treenailref01_Limbs.f k l0 = some r0) :
    Calls Try.prog 37 #[.slice A0 l0.length c0] W fun e w' => e = .returned (.int .i64 r0) ∧ Below W.heap.size W w' := by
  refine (treenailref01_Limbs.calls k A0 c0 l0 r0 W (C_of_rd h0).1 (C_of_rd h0).2.1 h).mono ?_
  rintro e w' ⟨rfl, hb⟩
  exact ⟨rfl, by obtain ⟨n, rfl⟩ := hb; exact (Below.refl _ _).drewN n⟩

theorem W_Add (k : Nat) {A0 : Option Addr} {c0 : Nat} {l0 : List Int} {A1 : Option Addr} {c1 : Nat} {l1 : List Int} (W : World) {r0 : List Int} {r1 : Option Int} (h0 : Rd W (.slice A0 l0.length c0) (numv .u64 l0)) (h1 : Rd W (.slice A1 l1.length c1) (numv .u64 l1)) (h : nat_Add.f k l0 l1 = some (r0, r1)) :
    Calls Try.prog 12 #[.slice A0 l0.length c0, .slice A1 l1.length c1] W fun e w' => ∃ (B0 : Option Addr) (d0 : Nat), e = .returned (.tuple #[.slice B0 r0.length d0, errW r1]) ∧ Rd w' (.slice B0 r0.length d0) (numv .u64 r0) ∧ Below W.heap.size W w' := by
  refine (nat_Add.calls k (fun _ => True) A0 c0 l0 (fun _ => True) A1 c1 l1 r0 r1 W (V_of_rd h0 (fun _ _ => trivial)) (V_of_rd h1 (fun _ _ => trivial)) h).mono ?_
  rintro e w' ⟨v0, rfl, g0, hb⟩
  obtain ⟨B0, d0, rfl⟩ := Kd.V_slice g0
  exact ⟨B0, d0, rfl, rd_of_V g0, hb⟩

theorem W_Mul (k : Nat) {A0 : Option Addr} {c0 : Nat} {l0 : List Int} {A1 : Option Addr} {c1 : Nat} {l1 : List Int} (W : World) {r0 : List Int} {r1 : Option Int} (h0 : Rd W (.slice A0 l0.length c0) (numv .u64 l0)) (h1 : Rd W (.slice A1 l1.length c1) (numv .u64 l1)) (h : nat_Mul.f k l0 l1 = some (r0, r1)) :
    Calls Try.prog 32 #[.slice A0 l0.length c0, .slice A1 l1.length c1] W fun e w' => ∃ (B0 : Option Addr) (d0 : Nat), e = .returned (.tuple #[.slice B0 r0.length d0, errW r1]) ∧ Rd w' (.slice B0 r0.length d0) (numv .u64 r0) ∧ Below W.heap.size W w' := by
  refine (nat_Mul.calls k (fun _ => True) A0 c0 l0 (fun _ => True) A1 c1 l1 r0 r1 W (V_of_rd h0 (fun _ _ => trivial)) (V_of_rd h1 (fun _ _ => trivial)) h).mono ?_
  rintro e w' ⟨v0, rfl, g0, hb⟩
  obtain ⟨B0, d0, rfl⟩ := Kd.V_slice g0
  exact ⟨B0, d0, rfl, rd_of_V g0, hb⟩

theorem W_Same (k : Nat) {A0 : Option Addr} {c0 : Nat} {l0 : List Int} {A1 : Option Addr} {c1 : Nat} {l1 : List Int} (W : World) {r0 : Bool} (h0 : Rd W (.slice A0 l0.length c0) (numv .u64 l0)) (h1 : Rd W (.slice A1 l1.length c1) (numv .u64 l1)) (h : treenailref01_Same.f k l0 l1 = some r0) :
    Calls Try.prog 14 #[.slice A0 l0.length c0, .slice A1 l1.length c1] W fun e w' => e = .returned (.bool r0) ∧ Below W.heap.size W w' := by
  refine (treenailref01_Same.calls k A0 c0 l0 A1 c1 l1 r0 W (C_of_rd h0).1 (C_of_rd h0).2.1 (C_of_rd h1).1 (C_of_rd h1).2.1 h).mono ?_
  rintro e w' ⟨rfl, hb⟩
  exact ⟨rfl, by obtain ⟨n, rfl⟩ := hb; exact (Below.refl _ _).drewN n⟩

/-- A list of digits, its number, no longer than the machine reckons with. -/
structure Nm (l : List Int) (n : Int) : Prop where
  dig : Dig 18446744073709551616 l
  val_ : val 18446744073709551616 l = n
  short : dlen l ≤ 64
  len : l.length ≤ 17592186044416
theorem Nm.of {n : Int} (h0 : 0 ≤ n) (h : n < ((18446744073709551616 : Nat) : Int) ^ 64) : Nm (digs 18446744073709551616 n) n := by
  have v := val_digs (B := 18446744073709551616) (by decide) n h0
  have l := (digs_len (show 2 ≤ 18446744073709551616 by decide) 64 n h0).2 h
  exact ⟨digs_dig (by decide) n, v, by unfold dlen; rw [v]; exact l, by omega⟩
theorem add_nm {a b : List Int} {x y : Int} (ha : Nm a x) (hb : Nm b y) (K : Nat) (hK : 2 * (a.length + b.length) + 200 < K) : nat_Add.f K a b = some (digs 18446744073709551616 (x + y), none) := by
  rw [add_spec a b ha.dig hb.dig ha.len hb.len K (by omega) (by omega), if_pos ⟨ha.short, hb.short⟩, ha.val_, hb.val_]
theorem mul_nm {a b : List Int} {x y : Int} (ha : Nm a x) (hb : Nm b y) (K : Nat) (hK : 2 * (a.length + b.length) + 10000 < K) : nat_Mul.f K a b = some (digs 18446744073709551616 (x * y), none) := by
  have := ha.len
  have := hb.len
  rw [mul_spec a b ha.dig hb.dig (by omega) (by omega) 5000 rfl K (by omega) (by omega), if_pos ⟨ha.short, hb.short⟩, ha.val_, hb.val_]
theorem same_nm {a b : List Int} (h : a = b) (ha : a.length ≤ 17592186044416) (K : Nat) (hK : a.length < K) : treenailref01_Same.f K a b = some true := by
  subst h
  rw [same_spec a a (by omega) K hK, decide_eq_true rfl]

attribute [local go_sem] eql_code neq_code eql_nil_code neq_nil_code
set_option maxHeartbeats 1500000 in
set_option maxRecDepth 100000 in
theorem spreads_long (A0 A1 A2 : Option Addr) (c0 c1 c2 : Nat) (a b c : List Int) (w : World) (ha : Rd w (.slice A0 a.length c0) (numv .u64 a)) (hb : Rd w (.slice A1 b.length c1) (numv .u64 b)) (hc : Rd w (.slice A2 c.length c2) (numv .u64 c))
    (K : Nat) (n0 n1 n2 : Int) (f0 : treenailref01_Limbs.f K a = some n0) (f1 : treenailref01_Limbs.f K b = some n1) (f2 : treenailref01_Limbs.f K c = some n2) (h : 15 < n0 ∨ 15 < n1 ∨ 15 < n2) :
    Calls Try.prog 8 #[.slice A0 a.length c0, .slice A1 b.length c1, .slice A2 c.length c2] w fun e w' => e = .returned (.bool true) ∧ Below w.heap.size w w' := by
  have HA := Lib.hid ha
  have HB1 := Lib.hid hb
  have HC := Lib.hid hc
  have F0 := Lib.hid f0
  have F1 := Lib.hid f1
  have F2 := Lib.hid f2
  have HH := Lib.hid h
  clear ha hb hc f0 f1 f2 h
  go_enter Try.func8, Try.ntmps8
  go_wp2_with fail
  refine (treenaillaw01_up.calls true w rfl).mono ?_
  rintro e w1 ⟨rfl, hb⟩
  have HB := Lib.hid hb
  replace HA := Lib.hid (HA.out.below hb)
  replace HB1 := Lib.hid (HB1.out.below hb)
  replace HC := Lib.hid (HC.out.below hb)
  clear hb
  by_cases h0 : 15 < n0
  · go_wp2_with (first
      | (go_at_call 37; (with_reducible refine (W_Limbs K _ HA.out F0.out).mono ?_); rintro e w2 ⟨rfl, hb⟩; replace HB1 := Lib.hid (HB1.out.below hb); replace HC := Lib.hid (HC.out.below hb); replace HB := Lib.hid (HB.out.trans (hb.mono HB.out.size)); clear hb))
    go_ret
    exact ⟨rfl, HB.out⟩
  · by_cases h1 : 15 < n1
    · go_wp2_with (first
        | (go_at_call 37; (with_reducible refine (W_Limbs K _ HA.out F0.out).mono ?_); rintro e w2 ⟨rfl, hb⟩; replace HB1 := Lib.hid (HB1.out.below hb); replace HC := Lib.hid (HC.out.below hb); replace HB := Lib.hid (HB.out.trans (hb.mono HB.out.size)); clear hb)
        | (go_at_call 37; (with_reducible refine (W_Limbs K _ HB1.out F1.out).mono ?_); rintro e w3 ⟨rfl, hb⟩; replace HC := Lib.hid (HC.out.below hb); replace HB := Lib.hid (HB.out.trans (hb.mono HB.out.size)); clear hb))
      go_ret
      exact ⟨rfl, HB.out⟩
    · have h2 : 15 < n2 := by have := HH.out; omega
      go_wp2_with (first
        | (go_at_call 37; (with_reducible refine (W_Limbs K _ HA.out F0.out).mono ?_); rintro e w2 ⟨rfl, hb⟩; replace HB1 := Lib.hid (HB1.out.below hb); replace HC := Lib.hid (HC.out.below hb); replace HB := Lib.hid (HB.out.trans (hb.mono HB.out.size)); clear hb)
        | (go_at_call 37; (with_reducible refine (W_Limbs K _ HB1.out F1.out).mono ?_); rintro e w3 ⟨rfl, hb⟩; replace HC := Lib.hid (HC.out.below hb); replace HB := Lib.hid (HB.out.trans (hb.mono HB.out.size)); clear hb)
        | (go_at_call 37; (with_reducible refine (W_Limbs K _ HC.out F2.out).mono ?_); rintro e w4 ⟨rfl, hb⟩; replace HB := Lib.hid (HB.out.trans (hb.mono HB.out.size)); clear hb))
      go_ret
      exact ⟨rfl, HB.out⟩

set_option maxHeartbeats 1500000 in
set_option maxRecDepth 100000 in
theorem spreads_short (A0 A1 A2 : Option Addr) (c0 c1 c2 : Nat) (la lb lc lS lP lX lY lQ lT lU lD lE lV lW lZ : List Int) (w : World) (ha : Rd w (.slice A0 la.length c0) (numv .u64 la)) (hb : Rd w (.slice A1 lb.length c1) (numv .u64 lb)) (hc : Rd w (.slice A2 lc.length c2) (numv .u64 lc))
    (K : Nat) (n0 n1 n2 : Int) (g0 : treenailref01_Limbs.f K la = some n0) (g1 : treenailref01_Limbs.f K lb = some n1) (g2 : treenailref01_Limbs.f K lc = some n2) (h0 : n0 ≤ 15) (h1 : n1 ≤ 15) (h2 : n2 ≤ 15)
    (f1 : nat_Add.f K lb lc = some (lS, none)) (f2 : nat_Mul.f K la lS = some (lP, none)) (f3 : nat_Mul.f K la lb = some (lX, none)) (f4 : nat_Mul.f K la lc = some (lY, none)) (f5 : nat_Add.f K lX lY = some (lQ, none)) (f6 : treenailref01_Same.f K lP lQ = some true) (f7 : nat_Add.f K la lb = some (lT, none)) (f8 : nat_Mul.f K lT lT = some (lU, none)) (f9 : nat_Mul.f K la la = some (lD, none)) (f10 : nat_Mul.f K lb lb = some (lE, none)) (f11 : nat_Add.f K lD lE = some (lV, none)) (f12 : nat_Add.f K lX lX = some (lW, none)) (f13 : nat_Add.f K lV lW = some (lZ, none)) (f14 : treenailref01_Same.f K lU lZ = some true) :
    Calls Try.prog 8 #[.slice A0 la.length c0, .slice A1 lb.length c1, .slice A2 lc.length c2] w fun e w' => e = .returned (.bool true) ∧ Below w.heap.size w w' := by
  have Ha := Lib.hid ha
  have Hb := Lib.hid hb
  have Hc := Lib.hid hc
  have G0 := Lib.hid g0
  have G1 := Lib.hid g1
  have G2 := Lib.hid g2
  have F1 := Lib.hid f1
  have F2 := Lib.hid f2
  have F3 := Lib.hid f3
  have F4 := Lib.hid f4
  have F5 := Lib.hid f5
  have F6 := Lib.hid f6
  have F7 := Lib.hid f7
  have F8 := Lib.hid f8
  have F9 := Lib.hid f9
  have F10 := Lib.hid f10
  have F11 := Lib.hid f11
  have F12 := Lib.hid f12
  have F13 := Lib.hid f13
  have F14 := Lib.hid f14
  clear ha hb hc g0 g1 g2 f1 f2 f3 f4 f5 f6 f7 f8 f9 f10 f11 f12 f13 f14
  go_enter Try.func8, Try.ntmps8
  go_wp2_with fail
  refine (treenaillaw01_up.calls true w rfl).mono ?_
  rintro e w0 ⟨rfl, hb⟩
  have HB := Lib.hid hb
  replace Ha := Lib.hid (Ha.out.below hb)
  replace Hb := Lib.hid (Hb.out.below hb)
  replace Hc := Lib.hid (Hc.out.below hb)
  clear hb
  go_upto_region 5 with (first
    | (go_at_call 37; (with_reducible refine (W_Limbs K _ Ha.out G0.out).mono ?_); rintro e w2 ⟨rfl, hb⟩; replace Ha := Lib.hid (Ha.out.below hb); replace Hb := Lib.hid (Hb.out.below hb); replace Hc := Lib.hid (Hc.out.below hb); replace HB := Lib.hid (HB.out.trans (hb.mono HB.out.size)); clear hb G0)
    | (go_at_call 37; (with_reducible refine (W_Limbs K _ Hb.out G1.out).mono ?_); rintro e w3 ⟨rfl, hb⟩; replace Ha := Lib.hid (Ha.out.below hb); replace Hb := Lib.hid (Hb.out.below hb); replace Hc := Lib.hid (Hc.out.below hb); replace HB := Lib.hid (HB.out.trans (hb.mono HB.out.size)); clear hb G1)
    | (go_at_call 37; (with_reducible refine (W_Limbs K _ Hc.out G2.out).mono ?_); rintro e w4 ⟨rfl, hb⟩; replace Ha := Lib.hid (Ha.out.below hb); replace Hb := Lib.hid (Hb.out.below hb); replace Hc := Lib.hid (Hc.out.below hb); replace HB := Lib.hid (HB.out.trans (hb.mono HB.out.size)); clear hb G2))

  go_wp2_with fail
  refine (W_Add K _ Hb.out Hc.out F1.out).mono ?_
  rintro e w1 ⟨B1_0, d1_0, rfl, g0, hb⟩
  replace Ha := Lib.hid (Ha.out.below hb)
  replace Hb := Lib.hid (Hb.out.below hb)
  replace Hc := Lib.hid (Hc.out.below hb)
  replace HB := Lib.hid (HB.out.trans (hb.mono HB.out.size))
  have HS := Lib.hid g0
  clear hb g0
  simp only [errW_none]
  go_wp2_with fail
  refine (W_Mul K _ Ha.out HS.out F2.out).mono ?_
  rintro e w2 ⟨B2_0, d2_0, rfl, g0, hb⟩
  replace Ha := Lib.hid (Ha.out.below hb)
  replace Hb := Lib.hid (Hb.out.below hb)
  replace Hc := Lib.hid (Hc.out.below hb)
  replace HS := Lib.hid (HS.out.below hb)
  replace HB := Lib.hid (HB.out.trans (hb.mono HB.out.size))
  have HP := Lib.hid g0
  clear hb g0
  simp only [errW_none]
  clear HS
  go_wp2_with fail
  refine (W_Mul K _ Ha.out Hb.out F3.out).mono ?_
  rintro e w3 ⟨B3_0, d3_0, rfl, g0, hb⟩
  replace Ha := Lib.hid (Ha.out.below hb)
  replace Hb := Lib.hid (Hb.out.below hb)
  replace Hc := Lib.hid (Hc.out.below hb)
  replace HP := Lib.hid (HP.out.below hb)
  replace HB := Lib.hid (HB.out.trans (hb.mono HB.out.size))
  have HX := Lib.hid g0
  clear hb g0
  simp only [errW_none]
  go_wp2_with fail
  refine (W_Mul K _ Ha.out Hc.out F4.out).mono ?_
  rintro e w4 ⟨B4_0, d4_0, rfl, g0, hb⟩
  replace Ha := Lib.hid (Ha.out.below hb)
  replace Hb := Lib.hid (Hb.out.below hb)
  replace Hc := Lib.hid (Hc.out.below hb)
  replace HP := Lib.hid (HP.out.below hb)
  replace HX := Lib.hid (HX.out.below hb)
  replace HB := Lib.hid (HB.out.trans (hb.mono HB.out.size))
  have HY := Lib.hid g0
  clear hb g0
  simp only [errW_none]
  clear Hc
  go_wp2_with fail
  refine (W_Add K _ HX.out HY.out F5.out).mono ?_
  rintro e w5 ⟨B5_0, d5_0, rfl, g0, hb⟩
  replace Ha := Lib.hid (Ha.out.below hb)
  replace Hb := Lib.hid (Hb.out.below hb)
  replace HP := Lib.hid (HP.out.below hb)
  replace HX := Lib.hid (HX.out.below hb)
  replace HY := Lib.hid (HY.out.below hb)
  replace HB := Lib.hid (HB.out.trans (hb.mono HB.out.size))
  have HQ := Lib.hid g0
  clear hb g0
  simp only [errW_none]
  clear HY
  go_wp2_with fail
  refine (W_Same K _ HP.out HQ.out F6.out).mono ?_
  rintro e w6 ⟨rfl, hb⟩
  replace Ha := Lib.hid (Ha.out.below hb)
  replace Hb := Lib.hid (Hb.out.below hb)
  replace HP := Lib.hid (HP.out.below hb)
  replace HX := Lib.hid (HX.out.below hb)
  replace HQ := Lib.hid (HQ.out.below hb)
  replace HB := Lib.hid (HB.out.trans (hb.mono HB.out.size))
  clear hb
  clear HP
  clear HQ
  go_wp2_with fail
  refine (W_Add K _ Ha.out Hb.out F7.out).mono ?_
  rintro e w7 ⟨B7_0, d7_0, rfl, g0, hb⟩
  replace Ha := Lib.hid (Ha.out.below hb)
  replace Hb := Lib.hid (Hb.out.below hb)
  replace HX := Lib.hid (HX.out.below hb)
  replace HB := Lib.hid (HB.out.trans (hb.mono HB.out.size))
  have HT := Lib.hid g0
  clear hb g0
  simp only [errW_none]
  go_wp2_with fail
  refine (W_Mul K _ HT.out HT.out F8.out).mono ?_
  rintro e w8 ⟨B8_0, d8_0, rfl, g0, hb⟩
  replace Ha := Lib.hid (Ha.out.below hb)
  replace Hb := Lib.hid (Hb.out.below hb)
  replace HX := Lib.hid (HX.out.below hb)
  replace HT := Lib.hid (HT.out.below hb)
  replace HB := Lib.hid (HB.out.trans (hb.mono HB.out.size))
  have HU := Lib.hid g0
  clear hb g0
  simp only [errW_none]
  clear HT
  go_wp2_with fail
  refine (W_Mul K _ Ha.out Ha.out F9.out).mono ?_
  rintro e w9 ⟨B9_0, d9_0, rfl, g0, hb⟩
  replace Ha := Lib.hid (Ha.out.below hb)
  replace Hb := Lib.hid (Hb.out.below hb)
  replace HX := Lib.hid (HX.out.below hb)
  replace HU := Lib.hid (HU.out.below hb)
  replace HB := Lib.hid (HB.out.trans (hb.mono HB.out.size))
  have HD := Lib.hid g0
  clear hb g0
  simp only [errW_none]
  clear Ha
  go_wp2_with fail
  refine (W_Mul K _ Hb.out Hb.out F10.out).mono ?_
  rintro e w10 ⟨B10_0, d10_0, rfl, g0, hb⟩
  replace Hb := Lib.hid (Hb.out.below hb)
  replace HX := Lib.hid (HX.out.below hb)
  replace HU := Lib.hid (HU.out.below hb)
  replace HD := Lib.hid (HD.out.below hb)
  replace HB := Lib.hid (HB.out.trans (hb.mono HB.out.size))
  have HE := Lib.hid g0
  clear hb g0
  simp only [errW_none]
  clear Hb
  go_wp2_with fail
  refine (W_Add K _ HD.out HE.out F11.out).mono ?_
  rintro e w11 ⟨B11_0, d11_0, rfl, g0, hb⟩
  replace HX := Lib.hid (HX.out.below hb)
  replace HU := Lib.hid (HU.out.below hb)
  replace HD := Lib.hid (HD.out.below hb)
  replace HE := Lib.hid (HE.out.below hb)
  replace HB := Lib.hid (HB.out.trans (hb.mono HB.out.size))
  have HV := Lib.hid g0
  clear hb g0
  simp only [errW_none]
  clear HD
  clear HE
  go_wp2_with fail
  refine (W_Add K _ HX.out HX.out F12.out).mono ?_
  rintro e w12 ⟨B12_0, d12_0, rfl, g0, hb⟩
  replace HX := Lib.hid (HX.out.below hb)
  replace HU := Lib.hid (HU.out.below hb)
  replace HV := Lib.hid (HV.out.below hb)
  replace HB := Lib.hid (HB.out.trans (hb.mono HB.out.size))
  have HW := Lib.hid g0
  clear hb g0
  simp only [errW_none]
  clear HX
  go_wp2_with fail
  refine (W_Add K _ HV.out HW.out F13.out).mono ?_
  rintro e w13 ⟨B13_0, d13_0, rfl, g0, hb⟩
  replace HU := Lib.hid (HU.out.below hb)
  replace HV := Lib.hid (HV.out.below hb)
  replace HW := Lib.hid (HW.out.below hb)
  replace HB := Lib.hid (HB.out.trans (hb.mono HB.out.size))
  have HZ := Lib.hid g0
  clear hb g0
  simp only [errW_none]
  clear HV
  clear HW
  go_wp2_with fail
  refine (W_Same K _ HU.out HZ.out F14.out).mono ?_
  rintro e w14 ⟨rfl, hb⟩
  replace HU := Lib.hid (HU.out.below hb)
  replace HZ := Lib.hid (HZ.out.below hb)
  replace HB := Lib.hid (HB.out.trans (hb.mono HB.out.size))
  clear hb
  clear HU
  clear HZ
  go_wp2
  go_ret
  exact ⟨rfl, HB.out⟩

end Go.Proofs.Ytolflieiipnndaa.Pure
