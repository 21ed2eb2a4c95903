/- nat.digit: the walk. -/
import Derived.Test.YtolflieiipnndaaDoorLess
import Derived.Test.YtolflieiipnndaaDoorDivQ
namespace Go.Proofs.YtolflieiipnndaaDoor.X
open Go.RowKit Go.Proofs.YtolflieiipnndaaDoor Go.Proofs.YtolflieiipnndaaDoorW.PrintWords Go.Proofs.YtolflieiipnndaaDoorW.PrintLast Go.Proofs.YtolflieiipnndaaDoorW.PrintMore Go.Proofs.YtolflieiipnndaaDoor.Num
set_option linter.unusedVariables false
/-- What digit leaves. -/
def DigPost (w : World) (g n : Nat) (P U V : List Int) (S : List Value) (e : Ending) (w' : World) : Prop :=
  e = .returned (.int .u64 (val 18446744073709551616 U / val 18446744073709551616 V)) ∧ Win w' g P (pad 18446744073709551616 (n + 1) (val 18446744073709551616 U % val 18446744073709551616 V)) S ∧ Keeps (fun k => k = g) w w'
/-- The guess is not too small. -/
def Enough (U V : List Int) (q : Int) : Prop := val 18446744073709551616 U < (q + 1) * val 18446744073709551616 V
def RelD (w : World) (g : Nat) (P U V : List Int) (S : List Value) (x : Value) (wr : World) : Prop :=
  ∃ q : Int, x = .int .u64 q ∧ (0 ≤ q ∧ q < 18446744073709551616) ∧ Enough U V q ∧ Win wr g P U S ∧ Keeps (fun k => k = g) w wr
theorem digPost_of {w wr w' : World} {g n : Nat} {P U V : List Int} {S : List Value} {q : Int} (hn : V.length = n) (hl : U.length = n + 1) (dU : D64 U) (dV : D64 V) (hv : 0 < val 18446744073709551616 V) (hq : 0 ≤ q ∧ q < 18446744073709551616) (he : Enough U V q) (hk : Keeps (fun k => k = g) w wr)
    (ho : lessOk q U V = true) {e : Ending} (hp : LessPost wr g q P U V S e w') : DigPost w g n P U V S (.returned (.int .u64 q)) w' := by
  subst hn
  obtain ⟨e1, e2⟩ := lessB_ok q U V dU dV hq hl
  obtain ⟨_, h2, h3⟩ := hp
  rw [if_pos ho, e2 ho] at h2
  rw [e1] at ho
  obtain ⟨d1, d2⟩ := quot_of hv he (of_decide_eq_true ho)
  refine ⟨by rw [d1], ?_, keeps_gg hk h3⟩
  rw [d2]
  exact h2
theorem digNext {w wr w' : World} {g n : Nat} {P U V : List Int} {S : List Value} {q : Int} (hn : V.length = n) (hl : U.length = n + 1) (dU : D64 U) (dV : D64 V) (hq : 0 ≤ q ∧ q < 18446744073709551616) (hk : Keeps (fun k => k = g) w wr)
    (ho : lessOk q U V = false) {e : Ending} (hp : LessPost wr g q P U V S e w') : 0 < q ∧ RelD w g P U V S (.int .u64 (q - 1)) w' := by
  subst hn
  obtain ⟨e1, e2⟩ := lessB_ok q U V dU dV hq hl
  obtain ⟨_, h2, h3⟩ := hp
  rw [if_neg (by rw [ho]; decide)] at h2
  rw [e1] at ho
  have hlt : val 18446744073709551616 U < q * val 18446744073709551616 V := by have := of_decide_eq_false ho; omega
  have h0 : 0 < q := by
    rcases Int.lt_or_le 0 q with hh | hh
    · exact hh
    · have : q = 0 := by omega
      subst this
      have := val_nonneg dU
      rw [Int.zero_mul] at hlt
      omega
  refine ⟨h0, q - 1, rfl, by omega, ?_, h2, keeps_gg hk h3⟩
  unfold Enough
  rw [show q - 1 + 1 = q from by omega]
  exact hlt
set_option maxHeartbeats 4000000 in
set_option maxRecDepth 100000 in
theorem digit_calls (g cu cv o n : Nat) (P U V : List Int) (S : List Value) (A : Option Addr) (w : World) (hW : Win w g P U S) (ho : P.length = o) (hn : V.length = n) (hl : U.length = n + 1) (hB : n ≤ 4096) (hcu : n + 1 ≤ cu)
    (hV : Rd w (.slice A n cv) (numv .u64 V)) (hn1 : 2 ≤ n) (dU : D64 U) (dV : D64 V) (hlt : val 18446744073709551616 U < 18446744073709551616 * val 18446744073709551616 V) (hne : ∀ a, A = some a → a.block ≠ g) :
    Calls Tryd.prog 24 #[.slice (some ⟨g, o, none⟩) (n + 1) cu, .slice A n cv] w (DigPost w g n P U V S) := by
  have HL1 := fun (q : Int) (hq : 0 ≤ q ∧ q < 18446744073709551616) (wr : World) (h1 : Win wr g P U S) (h2 : Keeps (fun k => k = g) w wr) => less_calls g cu cv o n P U V S A q wr h1 ho hn hl hB hcu (hV.keeps h2 (fun k hk e => by
      cases A with
      | none => simp [Value.ownBlock] at hk
      | some a => exact hne a rfl (by simp [Value.ownBlock] at hk; omega))) (by omega) dU dV hq hne
  have HLESS := Lib.hid HL1
  have hv0 : 0 < val 18446744073709551616 V := by
    have := val_nonneg dU
    omega
  have cu0 := hW.cell n (by omega)
  have cu1 := hW.cell (n - 1) (by omega)
  have cu2 := hW.cell (n - 2) (by omega)
  rw [ho] at cu0 cu1 cu2
  obtain ⟨ad, e1, cv1⟩ := hV.at_ (n - 1) (by omega)
  obtain ⟨ad', e2, cv2⟩ := hV.at_ (n - 2) (by omega)
  rw [e1] at e2
  injection e2 with e2
  subst e2
  subst e1
  have b1 : (0 : Int) ≤ (n : Int) - 1 := by omega
  have b2 : (n : Int) - 1 < (n : Int) := by omega
  have b3 : ((n : Int) - 1).toNat = n - 1 := by omega
  have b4 : (n : Int) < ((n + 1 : Nat) : Int) := by omega
  have b5 : (n : Int) - 1 < ((n + 1 : Nat) : Int) := by omega
  have HW := Lib.hid hW
  have HV := Lib.hid hV
  have HO := Lib.hid ho
  have HN := Lib.hid hn
  have HL := Lib.hid hl
  have HNE := Lib.hid hne
  have HDU := Lib.hid dU
  have HDV := Lib.hid dV
  have HLT := Lib.hid hlt
  have HV0 := Lib.hid hv0
  clear HL1 hW hV ho hn hl hne dU dV hlt hv0
  have HU0 := Lib.hid (d64 HDU.out n)
  have HU1 := Lib.hid (d64 HDU.out (n - 1))
  have HU2 := Lib.hid (d64 HDU.out (n - 2))
  have HV1 := Lib.hid (d64 HDV.out (n - 1))
  have HV2 := Lib.hid (d64 HDV.out (n - 2))
  have hless := fun (q r : Int) => Est.less (q := q) (r := r) HDU.out HDV.out (by rw [HL.out, HN.out]) (by rw [HN.out]; exact hn1)
  rw [HN.out] at hless
  have hest0 := fun (hc : U.getD n 0 < V.getD (n - 1) 0) => Est.begin HDU.out HDV.out (by rw [HL.out, HN.out]) (by rw [HN.out]; exact hn1) (by rw [HN.out]; exact hc)
  rw [HN.out] at hest0
  have hdiv0 := fun (hc : U.getD n 0 < V.getD (n - 1) 0) => div64_f (U.getD n 0).toNat (U.getD (n - 1) 0).toNat (V.getD (n - 1) 0).toNat (by have := HU0.out; omega) (by have := HU1.out; omega) (by have := HV1.out; omega) 20000000000 rfl 20000000001 (by omega)
  rw [Int.toNat_of_nonneg HU0.out.1, Int.toNat_of_nonneg HU1.out.1, Int.toNat_of_nonneg HV1.out.1] at hdiv0
  generalize U.getD n 0 = u0 at *
  generalize U.getD (n - 1) 0 = u1 at *
  generalize U.getD (n - 2) 0 = u2 at *
  generalize V.getD (n - 1) 0 = v1 at *
  generalize V.getD (n - 2) 0 = v2 at *
  have HLS := Lib.hid hless
  have HEST0 := Lib.hid hest0
  have HDIV0 := Lib.hid hdiv0
  clear hless hest0 hdiv0
  go_enter Tryd.func24, Tryd.ntmps24
  go_wp2
  go_quiet (fail)
  go_upto_if 22 with (fail)
  go_cut [6] (fun v6 wc => ∃ (q : Int) (m : Nat), v6 = .int .u64 q ∧ (0 ≤ q ∧ q < 18446744073709551616) ∧ Hid (Enough U V q) ∧ wc = w.drewN m)
  case first =>
    by_cases hc : u0 < v1
    · have hc' : decide (u0 < v1) = true := decide_eq_true hc
      rw [hc']
      have hest := HEST0.out hc
      have hdiv := HDIV0.out hc
      generalize (u0 * 18446744073709551616 + u1) / v1 = q0 at *
      generalize (u0 * 18446744073709551616 + u1) % v1 = r0 at *
      have HDIV := Lib.hid hdiv
      have HEST := Lib.hid hest
      clear hdiv hest
      go_wp2
      go_quiet (first | (go_at_call 30; (with_reducible refine (bits_Div64.calls _ u0 u1 v1 q0 r0 _ HDIV.out).mono ?_); rintro e w' ⟨rfl, ⟨nd, rfl⟩⟩; (try first | exact ⟨rfl, _, World.drewN_drewN _ _ _⟩ | exact ⟨rfl, _, Eq.trans (World.drewN_drewN _ _ _) (congrArg (World.drewN _) (Nat.add_assoc _ _ _))⟩)))
      go_wp2
      go_loopw [6, 7] (fun x y wr => ∃ (q r : Int) (m : Nat), x = .int .u64 q ∧ y = .int .u64 r ∧ Est U V q r ∧ wr = w.drewN m) (fun x _ _ => (intOf x).toNat)
      case atStart => exact ⟨q0, r0, _, rfl, rfl, HEST.out, World.drewN_drewN _ _ _⟩
      case round =>
        obtain ⟨q, r, m, rfl, rfl, he, rfl⟩ := hrel
        have hq := he.1
        have hr := he.2.1
        have HE := Lib.hid he
        have m1 : bits_Mul64.f q v2 = some (q * v2 / 18446744073709551616, q * v2 % 18446744073709551616) := by unfold bits_Mul64.f; rw [if_pos ⟨hq, HV2.out⟩]
        have y0 := prod_nn hq HV2.out
        have gh : 0 ≤ q * v2 / 18446744073709551616 := Int.ediv_nonneg y0 (by decide)
        have g0 : 0 ≤ q * v2 % 18446744073709551616 ∧ q * v2 % 18446744073709551616 < 18446744073709551616 := ⟨Int.emod_nonneg _ (by decide), Int.emod_lt_of_pos _ (by decide)⟩
        have es := Int.emod_add_mul_ediv (q * v2) 18446744073709551616
        have c1 : (0 : Int) ≤ (n : Int) - 2 := by omega
        have c2 : (n : Int) - 2 < (n : Int) := by omega
        have c3 : ((n : Int) - 2).toNat = n - 2 := by omega
        have c5 : (n : Int) - 2 < ((n + 1 : Nat) : Int) := by omega
        have HLS2 := Lib.hid (HLS.out q r he)
        have hv1 := HV1.out
        have hu2 := HU2.out
        generalize hs : q * v2 = s at *
        generalize s / 18446744073709551616 = h at *
        generalize s % 18446744073709551616 = l at *
        have ES := Lib.hid es
        have M1 := Lib.hid m1
        clear he es m1 hs y0
        by_cases ht : r * 18446744073709551616 + u2 < s
        · obtain ⟨k0, k1, k2⟩ := HLS2.out ht
          have a1 : bits_Add64.f r v1 0 = some ((r + v1) % 18446744073709551616, (r + v1) / 18446744073709551616) := by
            unfold bits_Add64.f; rw [if_pos ⟨⟨hr.1, hv1.1⟩, by decide, by decide⟩, Int.add_zero]
          have HK1 := Lib.hid (show Enough U V (q - 1) from by unfold Enough; rw [show q - 1 + 1 = q from by omega]; exact k1)
          have HK2 := Lib.hid k2
          have HT := Lib.hid (show h > r ∨ h = r ∧ u2 < l from by have := ES.out; omega)
          clear k1 k2 ht HLS2
          by_cases hb : r + v1 < 18446744073709551616
          · have e1 : (r + v1) % 18446744073709551616 = r + v1 := Int.emod_eq_of_lt (by omega) hb
            have e2 : (r + v1) / 18446744073709551616 = 0 := Int.ediv_eq_zero_of_lt (by omega) hb
            rw [e1, e2] at a1
            have HK3 := Lib.hid (HK2.out hb)
            have A1 := Lib.hid a1
            clear e1 e2 a1 hb
            generalize r + v1 = x at *
            go_wp2_with (first
              | (go_at_call 19; refine (bits_Mul64.calls q v2 _ _ _ M1.out).mono ?_; rintro e w3 ⟨rfl, ⟨nd, rfl⟩⟩)
              | ((with_reducible refine gate_callee (f := 17) rfl ?_); refine goesE_ (some 77) rfl rfl Tryd.func17 (by kernel_rfl) rfl #[.int .u64 r, .int .u64 v1, .int .u64 0] rfl (by (try simp only [mapA, mapB, mapC]); first | done | rfl) ?_; (refine (bits_Add64.calls _ _ _ _ _ _ A1.out).mono ?_; rintro e w4 ⟨rfl, ⟨nd4, rfl⟩⟩; refine ⟨_, rfl, ?_⟩)))
            all_goals (first
              | (exfalso; have := HT.out; omega)
              | (go_round; (case rel => exact ⟨_, _, _, rfl, rfl, HK3.out, rfl⟩); (case measure => simp [intOf]; omega)))
          · have e1 : (r + v1) / 18446744073709551616 = 1 := by omega
            rw [e1] at a1
            have A1 := Lib.hid a1
            clear e1 a1 hb
            generalize (r + v1) % 18446744073709551616 = x at *
            go_wp2_with (first
              | (go_at_call 19; refine (bits_Mul64.calls q v2 _ _ _ M1.out).mono ?_; rintro e w3 ⟨rfl, ⟨nd, rfl⟩⟩)
              | ((with_reducible refine gate_callee (f := 17) rfl ?_); refine goesE_ (some 77) rfl rfl Tryd.func17 (by kernel_rfl) rfl #[.int .u64 r, .int .u64 v1, .int .u64 0] rfl (by (try simp only [mapA, mapB, mapC]); first | done | rfl) ?_; (refine (bits_Add64.calls _ _ _ _ _ _ A1.out).mono ?_; rintro e w4 ⟨rfl, ⟨nd4, rfl⟩⟩; refine ⟨_, rfl, ?_⟩)))
            all_goals (first
              | (exfalso; have := HT.out; omega)
              | (go_meet; case rel => exact ⟨_, _, rfl, by omega, HK1, rfl⟩))
        · have HK1 := Lib.hid (show Enough U V q from HE.out.2.2.1)
          have HT := Lib.hid (show h < r ∨ h = r ∧ l ≤ u2 from by have := ES.out; omega)
          clear ht HLS2
          go_wp2_with (go_at_call 19; refine (bits_Mul64.calls q v2 _ _ _ M1.out).mono ?_; rintro e w3 ⟨rfl, ⟨nd, rfl⟩⟩)
          all_goals (first
              | (exfalso; have := HT.out; omega)
              | (go_meet; case rel => exact ⟨_, _, rfl, by omega, HK1, rfl⟩))
    · have HE := Lib.hid (show Enough U V 18446744073709551615 from by have := HLT.out; unfold Enough; omega)
      have hc' : decide (u0 < v1) = false := decide_eq_false hc
      go_wp2
      go_meet
      case rel => exact ⟨_, _, rfl, by omega, HE, rfl⟩
  case rest =>
    obtain ⟨q, m, rfl, hq, HE, rfl⟩ := hcut
    go_wp2
    go_loopw [6] (fun x wr => RelD w g P U V S x wr) (fun x _ => (intOf x).toNat)
    case atStart => exact ⟨_, rfl, by omega, HE.out, HW.out, (Keeps.refl _ _).drewN _⟩
    case round =>
      obtain ⟨q, rfl, hq, he, hw1, hk1⟩ := hrel
      have HC := Lib.hid (HLESS.out q hq _ hw1 hk1)
      have HE2 := Lib.hid he
      have HK1 := Lib.hid hk1
      clear he hw1 hk1
      by_cases hok : lessOk q U V = true
      · go_wp2_with (go_at_call 31; refine HC.out.mono ?_; rintro e w5 hp; have hpe := hp.1; rw [hok] at hpe; subst hpe; have HP := Lib.hid hp; clear hp)
        go_ret
        exact digPost_of HN.out HL.out HDU.out HDV.out HV0.out hq HE2.out HK1.out hok HP.out
      · have hok' : lessOk q U V = false := by simpa using hok
        have HOK := Lib.hid hok'
        clear hok
        go_wp2_with (go_at_call 31; refine HC.out.mono ?_; rintro e w5 hp; have hpe := hp.1; rw [HOK.out] at hpe; subst hpe; obtain ⟨q0, hnx⟩ := digNext HN.out HL.out HDU.out HDV.out hq HK1.out HOK.out hp; have HX := Lib.hid hnx; clear hp hnx)
        go_round
        case rel => exact HX.out
        case measure => simp [intOf]; omega
end Go.Proofs.YtolflieiipnndaaDoor.X
