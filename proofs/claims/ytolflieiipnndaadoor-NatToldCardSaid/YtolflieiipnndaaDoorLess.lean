/- nat.less: the walk. -/
import Derived.Test.YtolflieiipnndaaDoorMg46
import Derived.Test.YtolflieiipnndaaDoorDivP
import Derived.Test.YtolflieiipnndaaDoorMg27
namespace Go.Proofs.YtolflieiipnndaaDoor.X
open Go.RowKit Go.Proofs.YtolflieiipnndaaDoor Go.Proofs.YtolflieiipnndaaDoorW.PrintWords Go.Proofs.YtolflieiipnndaaDoorW.PrintLast Go.Proofs.YtolflieiipnndaaDoorW.PrintMore Go.Proofs.YtolflieiipnndaaDoor.Num
set_option linter.unusedVariables false
abbrev D64 (l : List Int) : Prop := Dig 18446744073709551616 l
theorem d64 {l : List Int} (h : D64 l) (i : Nat) : 0 ≤ l.getD i 0 ∧ l.getD i 0 < 18446744073709551616 := Dig.at_ (by decide) h i
theorem prod_nn {x y : Int} (hx : 0 ≤ x ∧ x < 18446744073709551616) (hy : 0 ≤ y ∧ y < 18446744073709551616) : 0 ≤ x * y := Int.mul_nonneg hx.1 hy.1
/-- The loop. -/
def RelL (w2 : World) (g n : Nat) (q : Int) (P U V : List Int) (S : List Value) (c r i : Value) (wr : World) : Prop :=
  ∃ k : Nat, i = .int .i64 k ∧ k ≤ n ∧ c = .int .u64 (lst q U V k).2.1 ∧ r = .int .u64 (lst q U V k).2.2 ∧ Win wr g P (lst q U V k).1 S ∧ Keeps (fun k => k = g) w2 wr
/-- One digit of the product, taken off: what the next round finds. -/
theorem keeps_gg {w w1 w2 : World} {g : Nat} (h : Keeps (fun k => k = g) w w1) (k : Keeps (fun k => k = g) w1 w2) : Keeps (fun k => k = g) w w2 := h.trans k (fun _ h => h) (fun _ _ h => h)
theorem relL_next {w2 wr : World} {g n o : Nat} {q : Int} {P U V : List Int} {S : List Value} {k : Nat} (ho : P.length = o) (hkn : k < n) (hn : V.length = n) (hl : U.length = n + 1) (dU : D64 U) (dV : D64 V) (hq : 0 ≤ q ∧ q < 18446744073709551616)
    (hw : Win wr g P (lst q U V k).1 S) (hk : Keeps (fun k => k = g) w2 wr) {s c r u u' c' r' : Int} (es : q * V.getD k 0 = s) (ec : (lst q U V k).2.1 = c) (er : (lst q U V k).2.2 = r) (eu : (lst q U V k).1.getD k 0 = u)
    (eu' : u' = (u - (s % 18446744073709551616 + c) % 18446744073709551616 - r) % 18446744073709551616) (ec' : c' = IntKind.u64.wrap (s / 18446744073709551616 + (s % 18446744073709551616 + c) / 18446744073709551616)) (er' : r' = if u < (s % 18446744073709551616 + c) % 18446744073709551616 + r then 1 else 0) (m : Nat) :
    RelL w2 g n q P U V S (.int .u64 c') (.int .u64 r') (.int .i64 ((k + 1 : Nat) : Int)) ((wr.drewN m).setCell ⟨g, o + k, none⟩ (.int .u64 u')) := by
  subst es ec er eu eu' ec' er' ho
  obtain ⟨h1, h2, h3, h4, h5, h6⟩ := lst_ok q U V dU dV hq k (by omega) (by omega)
  exact ⟨k + 1, rfl, hkn, rfl, rfl, (hw.drewN m).set k (by omega) _, (hk.drewN m).setCell _ _ (fun _ => rfl)⟩
/-- What less leaves. -/
def LessPost (w : World) (g : Nat) (q : Int) (P U V : List Int) (S : List Value) (e : Ending) (w' : World) : Prop := e = .returned (.bool (lessOk q U V)) ∧ Win w' g P (if lessOk q U V then lessB q U V else U) S ∧ Keeps (fun k => k = g) w w'
theorem LessPost.yes {w w' : World} {g : Nat} {q : Int} {P U V : List Int} {S : List Value} {e : Ending} (ho : lessOk q U V = true) (he : e = .returned (.bool true)) (h : Win w' g P (lessB q U V) S) (hk : Keeps (fun k => k = g) w w') : LessPost w g q P U V S e w' := by
  refine ⟨by rw [ho]; exact he, ?_, hk⟩
  rw [if_pos ho]; exact h
theorem LessPost.no {w w' : World} {g : Nat} {q : Int} {P U V : List Int} {S : List Value} {e : Ending} (ho : lessOk q U V = false) (he : e = .returned (.bool false)) (h : Win w' g P U S) (hk : Keeps (fun k => k = g) w w') : LessPost w g q P U V S e w' := by
  refine ⟨by rw [ho]; exact he, ?_, hk⟩
  rw [if_neg (by rw [ho]; decide)]; exact h
set_option maxHeartbeats 2000000 in
theorem less_calls (g cu cv o n : Nat) (P U V : List Int) (S : List Value) (A : Option Addr) (q : Int) (w : World) (hW : Win w g P U S) (ho : P.length = o) (hn : V.length = n) (hl : U.length = n + 1) (hB : n ≤ 4096) (hcu : n + 1 ≤ cu)
    (hV : Rd w (.slice A n cv) (numv .u64 V)) (hn1 : 0 < n) (dU : D64 U) (dV : D64 V) (hq : 0 ≤ q ∧ q < 18446744073709551616) (hne : ∀ a, A = some a → a.block ≠ g) :
    Calls Tryd.prog 31 #[.slice (some ⟨g, o, none⟩) (n + 1) cu, .slice A n cv, .int .u64 q] w (LessPost w g q P U V S) := by
  have hU := hW.rd cu (by omega) (by omega)
  rw [ho, hl] at hU
  have HU := Lib.hid hU
  have HW := Lib.hid hW
  have HV := Lib.hid hV
  have HO := Lib.hid ho
  have HN := Lib.hid hn
  have HL := Lib.hid hl
  have HNE := Lib.hid hne
  have HDU := Lib.hid dU
  have HDV := Lib.hid dV
  clear hW hV hU ho hn hl hne dU dV
  go_enter Tryd.func31, Tryd.ntmps31
  go_wp2_with fail
  obtain ⟨hC, _, hCl⟩ := C_of_rd HU.out
  have hclone := api_Nat_uint64.calls (some ⟨g, o, none⟩) cu U U w (by rw [HL.out]; exact hC) (by rw [HL.out]; exact hcu) (by unfold api_Nat_uint64.f; rw [if_pos (by have := HL.out; omega)])
  rw [HL.out] at hclone
  refine hclone.mono ?_
  clear hC hCl hclone
  rintro e w2 ⟨v0, rfl, hr0, hb2⟩
  have HOLD := Lib.hid (rd_of_RN hr0)
  have HK2 := Lib.hid ((Keeps.of_below hb2 (fun k => k = g)))
  have HW2 := Lib.hid (HW.out.below hb2)
  have HV2 := Lib.hid (HV.out.below hb2)
  have HV0 := Lib.hid (show ∀ k, v0.ownBlock = some k → k ≠ g from fun k hk e => by have := own_lo (own_of_RN hr0) k hk; have := HW.out.lt; omega)
  clear hr0 hb2
  go_wp2
  go_loopw [8, 9, 19] (fun c r i wr => RelL w2 g n q P U V S c r i wr) (fun _ _ i _ => n - (intOf i).toNat)
  case atStart => exact ⟨0, rfl, Nat.zero_le _, rfl, rfl, HW2.out, Keeps.refl _ _⟩
  case round =>
    obtain ⟨k, rfl, hk, rfl, rfl, hb, hkp⟩ := hrel
    obtain ⟨b1, b2, b3, b4, b5, b6⟩ := lst_ok q U V HDU.out HDV.out hq k (by have := HN.out; omega) (by have := HN.out; have := HL.out; omega)
    have HBK := Lib.hid hb
    have HKP := Lib.hid hkp
    have hVr := HV2.out.keeps hkp (fun k hk e => by
      cases A with
      | none => simp [Value.ownBlock] at hk
      | some a => exact HNE.out a rfl (by simp [Value.ownBlock] at hk; omega))
    clear b5 b6 hb hkp
    by_cases hlt : k < n
    · have hlt' : (k : Int) < (n : Int) := by omega
      obtain ⟨ad, e1, cv1⟩ := hVr.at_ k (by have := HN.out; omega)
      subst e1
      have hy := d64 HDV.out k
      have hu := d64 b2 k
      have cb := HBK.out.cell k (by rw [b1, HL.out]; omega)
      rw [HO.out] at cb
      have fb := HBK.out.free (o + k)
      have k0 : (0 : Int) ≤ (k : Int) := by omega
      have ku : (k : Int) < ((n + 1 : Nat) : Int) := by omega
      have kt : ((k : Int)).toNat = k := by omega
      have HR := fun (s c r u u' c' r' : Int) => relL_next (w2 := w2) (o := o) (s := s) (c := c) (r := r) (u := u) (u' := u') (c' := c') (r' := r') HO.out hlt HN.out HL.out HDU.out HDV.out hq HBK.out HKP.out
      clear hVr b1 b2
      generalize V.getD k 0 = y at *
      generalize (lst q U V k).1.getD k 0 = u at *
      generalize (lst q U V k).2.1 = c at *
      generalize (lst q U V k).2.2 = r at *
      have HF := HR _ _ _ _ _ _ _ rfl rfl rfl rfl rfl rfl rfl
      clear HR
      have m1 : bits_Mul64.f q y = some (q * y / 18446744073709551616, q * y % 18446744073709551616) := by unfold bits_Mul64.f; rw [if_pos ⟨hq, hy⟩]
      have y0 := prod_nn hq hy
      have gh : 0 ≤ q * y / 18446744073709551616 := Int.ediv_nonneg y0 (by decide)
      have g0 : 0 ≤ q * y % 18446744073709551616 ∧ q * y % 18446744073709551616 < 18446744073709551616 := ⟨Int.emod_nonneg _ (by decide), Int.emod_lt_of_pos _ (by decide)⟩
      clear y0
      generalize q * y / 18446744073709551616 = h at *
      generalize q * y % 18446744073709551616 = l at *
      have a1 : bits_Add64.f l c 0 = some ((l + c) % 18446744073709551616, (l + c) / 18446744073709551616) := by
        unfold bits_Add64.f; rw [if_pos ⟨⟨g0.1, b3.1⟩, by decide, by decide⟩, Int.add_zero]
      have g1 : 0 ≤ (l + c) % 18446744073709551616 ∧ (l + c) % 18446744073709551616 < 18446744073709551616 := ⟨Int.emod_nonneg _ (by decide), Int.emod_lt_of_pos _ (by decide)⟩
      have g2 : 0 ≤ (l + c) / 18446744073709551616 := Int.ediv_nonneg (by omega) (by decide)
      generalize (l + c) % 18446744073709551616 = x at *
      generalize (l + c) / 18446744073709551616 = k1 at *
      have a2 : bits_Sub64.f u x r = some ((u - x - r) % 18446744073709551616, if u < x + r then 1 else 0) := by
        unfold bits_Sub64.f; rw [if_pos ⟨⟨hu, g1⟩, b4⟩]
      generalize (u - x - r) % 18446744073709551616 = u' at *
      generalize (if u < x + r then (1 : Int) else 0) = r' at *
      have HF := Lib.hid HF
      have M1 := Lib.hid m1
      have A1 := Lib.hid a1
      have A2 := Lib.hid a2
      clear m1 a1 a2
      go_wp2_with fail
      refine (bits_Mul64.calls q y _ _ wr M1.out).mono ?_
      rintro e w3 ⟨rfl, ⟨nd, rfl⟩⟩
      go_wp2_with (first
        | ((with_reducible refine gate_callee (f := 17) rfl ?_); refine goesE_ (some 34) rfl rfl Tryd.func17 (by kernel_rfl) rfl #[.int .u64 l, .int .u64 c, .int .u64 0] rfl (by (try simp only [mapA, mapB, mapC]); first | done | rfl) ?_; (refine (bits_Add64.calls _ _ _ _ _ _ A1.out).mono ?_; rintro e w4 ⟨rfl, ⟨nd4, rfl⟩⟩; refine ⟨_, rfl, ?_⟩))
        | ((with_reducible refine gate_callee (f := 29) rfl ?_); refine goesE_ (some 49) rfl rfl Tryd.func29 (by kernel_rfl) rfl #[.int .u64 u, .int .u64 x, .int .u64 r] rfl (by (try simp only [mapA, mapB, mapC]); first | done | rfl) ?_; (refine (bits_Sub64.calls _ _ _ _ _ _ A2.out).mono ?_; rintro e w5 ⟨rfl, ⟨nd5, rfl⟩⟩; refine ⟨_, rfl, ?_⟩)))
      go_round
      case rel => exact HF.out _
      case measure => simp [intOf]; omega
    · have hkn : k = n := by omega
      subst hkn
      obtain ⟨e1, e2⟩ := lessB_ok q U V HDU.out HDV.out hq (by rw [HN.out]; exact HL.out)
      have cb := HBK.out.cell k (by rw [b1, HL.out]; omega)
      rw [HO.out] at cb
      have fb := HBK.out.free (o + k)
      have hu := d64 b2 k
      have eB : lessB q U V = (lst q U V k).1.set k (((lst q U V k).1.getD k 0 - (lst q U V k).2.1 - (lst q U V k).2.2) % 18446744073709551616) := by unfold lessB; rw [HN.out]
      have eO : lessOk q U V = decide ((lst q U V k).2.1 + (lst q U V k).2.2 ≤ (lst q U V k).1.getD k 0) := by unfold lessOk; rw [HN.out]
      have HS := fun m => (HBK.out.drewN m).set k (by rw [b1, HL.out]; omega) (((lst q U V k).1.getD k 0 - (lst q U V k).2.1 - (lst q U V k).2.2) % 18446744073709551616)
      rw [← eB, HO.out] at HS
      have hk0 : (0 : Int) ≤ (k : Int) := by omega
      have ku : (k : Int) < ((k + 1 : Nat) : Int) := by omega
      have kt : ((k : Int)).toNat = k := by omega
      generalize (lst q U V k).1.getD k 0 = u at *
      generalize (lst q U V k).2.1 = c at *
      generalize (lst q U V k).2.2 = r at *
      have a2 : bits_Sub64.f u c r = some ((u - c - r) % 18446744073709551616, if u < c + r then 1 else 0) := by
        unfold bits_Sub64.f; rw [if_pos ⟨⟨hu, b3⟩, b4⟩]
      have A2 := Lib.hid a2
      have HS := Lib.hid HS
      have E1 := Lib.hid e1
      have E2 := Lib.hid e2
      have EO := Lib.hid eO
      have HLB := Lib.hid (show (lessB q U V).length = k + 1 by rw [eB, List.length_set, b1, HL.out])
      clear a2 e1 e2 eB eO b1 b2 hVr
      by_cases ht : u < c + r
      · have hi : (if u < c + r then (1 : Int) else 0) = 1 := if_pos ht
        have HT := Lib.hid ht
        rw [hi] at A2
        clear ht hi
        go_wp2_with (first
          | ((with_reducible refine gate_callee (f := 29) rfl ?_); refine goesE_ (some 65) rfl rfl Tryd.func29 (by kernel_rfl) rfl #[.int .u64 u, .int .u64 c, .int .u64 r] rfl (by (try simp only [mapA, mapB, mapC]); first | done | rfl) ?_; (refine (bits_Sub64.calls _ _ _ _ _ _ A2.out).mono ?_; rintro e w5 ⟨rfl, ⟨nd5, rfl⟩⟩; refine ⟨_, rfl, ?_⟩); have HKS := Lib.hid ((HKP.out.drewN nd5).setCell ⟨g, o + k, none⟩ (.int .u64 ((u - c - r) % 18446744073709551616)) (fun _ => rfl)); have HC := Lib.hid (HOLD.out.keeps HKS.out HV0.out))
          | ((with_reducible show wpList _ _ _ _ _ _); refine wpList_copyWin rfl _ _ _ _ rfl Tryd.underlying23 g o (k + 1) cu P (lessB q U V) S (by rfl) (HS.out _) HO.out HLB.out (by omega) v0 U (by rfl) HC.out HL.out ?_))
        intro w6 hb6 hk6
        go_wp2
        go_ret
        refine LessPost.no (by rw [EO.out]; exact decide_eq_false (by have := HT.out; omega)) rfl hb6.out (keeps_gg HK2.out (keeps_gg HKS.out hk6.out))
      · have hi : (if u < c + r then (1 : Int) else 0) = 0 := if_neg ht
        have HT := Lib.hid ht
        rw [hi] at A2
        clear ht hi
        go_wp2_with ((with_reducible refine gate_callee (f := 29) rfl ?_); refine goesE_ (some 65) rfl rfl Tryd.func29 (by kernel_rfl) rfl #[.int .u64 u, .int .u64 c, .int .u64 r] rfl (by (try simp only [mapA, mapB, mapC]); first | done | rfl) ?_; (refine (bits_Sub64.calls _ _ _ _ _ _ A2.out).mono ?_; rintro e w5 ⟨rfl, ⟨nd5, rfl⟩⟩; refine ⟨_, rfl, ?_⟩))
        go_ret
        exact LessPost.yes (by rw [EO.out]; exact decide_eq_true (by have := HT.out; omega)) rfl (HS.out _) (keeps_gg HK2.out ((HKP.out.drewN _).setCell _ _ (fun _ => rfl)))
end Go.Proofs.YtolflieiipnndaaDoor.X
