/- nat.Div where the divisor has at most one digit. -/
import Derived.Test.YtolflieiipnndaaXP17
import Derived.Handy
import Derived.Deep.DeepFit
namespace Go.Proofs.Ytolflieiipnndaa.X
open Go.RowKit Go.Proofs.Ytolflieiipnndaa Go.Proofs.YtolflieiipnndaaW.PrintWords Go.Proofs.YtolflieiipnndaaW.PrintLast Go.Proofs.YtolflieiipnndaaW.PrintMore
set_option linter.unusedVariables false
theorem V_below' {α : Type} {d : Kd α} {e base : Nat} {W w1 : World} {ok : Nat → Prop} {v : Value} {xs : List α} (h : Kd.V d e W base ok v xs) (hb : Below W.heap.size W w1) : Kd.V d e w1 base ok v xs := Kd.V_below h hb
theorem V_C {α : Type} {d : Kd α} {e base : Nat} {W : World} {ok : Nat → Prop} {A : Option Addr} {n c : Nat} {xs : List α} (h : Kd.V d e W base ok (.slice A n c) xs) : n = xs.length ∧ n ≤ c ∧ Kd.C d W A xs.length xs := ⟨(Kd.V_at h).1, (Kd.V_at h).2.1, Kd.F_now (Kd.V_at h).2.2⟩
set_option maxHeartbeats 2000000 in
/-- By nothing. -/
theorem div_zero (k : Nat) (P0 P1 : Nat → Prop) (A0 A1 : Option Addr) (c0 c1 : Nat) (l0 l1 t0 : List Int) (w : World)
    (hs0 : Kd.V (Kd.int .u64) 46 w w.heap.size P0 (.slice A0 l0.length c0) l0) (hs1 : Kd.V (Kd.int .u64) 46 w w.heap.size P1 (.slice A1 l1.length c1) l1) (h : nat_both.f k l0 l1 = some (t0, [], none)) :
    Calls Try.prog 33 #[.slice A0 l0.length c0, .slice A1 l1.length c1] w fun e w' => e = .returned (.tuple #[.slice none 0 0, .slice none 0 0, errW (some 4)]) ∧ Below w.heap.size w w' := by
  have HC := Lib.hid (nat_both.calls k P0 A0 c0 l0 P1 A1 c1 l1 t0 [] none w hs0 hs1 h)
  clear hs0 hs1 h
  have hu := Try.underlying27
  have hc := Try.underlying32
  go_enter Try.func33, Try.ntmps33
  go_wp2_with fail
  refine HC.out.mono ?_
  rintro e w2 ⟨v0, v1, rfl, h0, h1, hb⟩
  obtain ⟨A2, c2, rfl⟩ := Kd.V_slice h0
  obtain ⟨A3, c3, rfl⟩ := Kd.V_slice h1
  have HB := Lib.hid hb
  clear HC hb h0 h1
  simp only [errW_none, List.length_nil]
  go_wp2
  go_ret3
  exact ⟨rfl, HB.out⟩
set_option maxHeartbeats 2000000 in
/-- By one digit, of a number that isn't less. -/
theorem div_one (k : Nat) (P0 P1 : Nat → Prop) (A0 A1 : Option Addr) (c0 c1 : Nat) (l0 l1 t0 r1 r2 : List Int) (d c : Int) (w : World)
    (hs0 : Kd.V (Kd.int .u64) 46 w w.heap.size P0 (.slice A0 l0.length c0) l0) (hs1 : Kd.V (Kd.int .u64) 46 w w.heap.size P1 (.slice A1 l1.length c1) l1) (h : nat_both.f k l0 l1 = some (t0, [d], none))
    (hc : nat_Cmp.f k t0 [d] = some c) (hc0 : 0 ≤ c) (hsh : nat_short.f k t0 d = some (r1, r2)) :
    Calls Try.prog 33 #[.slice A0 l0.length c0, .slice A1 l1.length c1] w fun e w' => ∃ v0 v1 : Value, e = .returned (.tuple #[v0, v1, errW none]) ∧ Kd.V (Kd.int .u64) 46 w' w.heap.size (fun k_ => w.heap.size ≤ k_) v0 r1 ∧ Kd.V (Kd.int .u64) 46 w' w.heap.size (fun k_ => w.heap.size ≤ k_) v1 r2 ∧ Below w.heap.size w w' := by
  have HC := Lib.hid (nat_both.calls k P0 A0 c0 l0 P1 A1 c1 l1 t0 [d] none w hs0 hs1 h)
  have HCM := Lib.hid hc
  have HSH := Lib.hid hsh
  have hd : decide (c < 0) = false := by simpa using hc0
  clear hs0 hs1 h hc hsh
  have hu := Try.underlying27
  have hc := Try.underlying32
  go_enter Try.func33, Try.ntmps33
  go_wp2_with fail
  refine HC.out.mono ?_
  rintro e w2 ⟨v0, v1, rfl, h0, h1, hb⟩
  obtain ⟨A2, c2, rfl⟩ := Kd.V_slice h0
  obtain ⟨A3, c3, rfl⟩ := Kd.V_slice h1
  have HB := Lib.hid hb
  have H0 := Lib.hid h0
  have H1 := Lib.hid h1
  clear HC hb h0 h1
  simp only [errW_none, List.length_cons, List.length_nil]
  go_wp2_with fail
  refine (nat_Cmp.calls k A2 c2 t0 A3 c3 [d] c w2 (V_C H0.out).2.2 (V_C H0.out).2.1 (V_C H1.out).2.2 (V_C H1.out).2.1 HCM.out).mono ?_
  rintro e w3 ⟨rfl, hb3⟩
  have HB3 := Lib.hid (HB.out.trans (hb3.mono HB.out.size))
  have H03 := Lib.hid (V_below' H0.out hb3)
  have hx := rd_of_V (V_below' H1.out hb3)
  obtain ⟨ad, rfl, hcell⟩ := hx.at_ 0 (by simp)
  have hz : (ad.add 0) = ad := by simp [Addr.add]
  rw [hz] at hcell
  simp only [List.getD_cons_zero] at hcell
  clear hb3 hx hz H0 H1 HB
  go_wp2_with fail
  refine (nat_short.calls k A2 c2 t0 d r1 r2 w3 (V_C H03.out).2.2 (V_C H03.out).2.1 HSH.out).mono ?_
  rintro e w4 ⟨v4, v5, rfl, g4, g5, hb4⟩
  have HB4 := Lib.hid (HB3.out.trans (hb4.mono HB3.out.size))
  have H4 := Lib.hid g4
  have H5 := Lib.hid g5
  have HL := Lib.hid HB3.out.size
  clear g4 g5 hb4 hcell
  go_wp2
  go_ret3
  exact ⟨v4, v5, rfl, Kd.V_lower (Kd.V_mono H4.out (fun k hk => Nat.le_trans HL.out hk)) HL.out, Kd.V_lower (Kd.V_mono H5.out (fun k hk => Nat.le_trans HL.out hk)) HL.out, HB4.out⟩
end Go.Proofs.Ytolflieiipnndaa.X
