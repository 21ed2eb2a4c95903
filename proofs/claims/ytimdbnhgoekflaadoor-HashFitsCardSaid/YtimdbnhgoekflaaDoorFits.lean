/- HashFits: the law's walk. -/
import Derived.Test.YtimdbnhgoekflaaDoorShaI
import Derived.Deep.RegionWith
import Derived.Deep.RegionHeld3
import Derived.Deep.DeepCutAuto
import Derived.Deep.DeepFit
namespace Go.Proofs.YtimdbnhgoekflaaDoor
open Go.RowKit
set_option linter.unusedVariables false

theorem Rd.str {w : World} {v : Value} {xs : List Int} (h : Rd w v (nums .u8 xs)) : (convert 22 9 v).run Tryd.prog w = .ok (.string (strOfNums xs)) w :=
  h.string (P := Tryd.prog) Tryd.underlying22 Tryd.underlying5 _ Tryd.underlying9
theorem Made1.sl {w w' : World} {xs : List Int} {e : Ending} (h : Made1 w xs e w') : ∃ A c, e = .returned (.slice A xs.length c) ∧ Own w' w.heap.size (.slice A xs.length c) xs ∧ Below w.heap.size w w' := by
  obtain ⟨v, rfl, ho, hb⟩ := h
  obtain ⟨A, c, rfl⟩ := ho.slice
  exact ⟨A, c, rfl, ho, hb⟩
/-- Made, seen from an earlier world. -/
theorem Made1.from {w0 w w' : World} {xs : List Int} {e : Ending} (h : Made1 w xs e w') (hb : Below w0.heap.size w0 w) : ∃ A c, e = .returned (.slice A xs.length c) ∧ Own w' w0.heap.size (.slice A xs.length c) xs ∧ Below w.heap.size w w' ∧ Below w0.heap.size w0 w' := by
  obtain ⟨A, c, rfl, ho, hb2⟩ := h.sl
  exact ⟨A, c, rfl, ho.mono hb.size, hb2, hb.trans (hb2.mono hb.size)⟩
/-- A callee that makes bytes, as a region of several calls wants it: what it made reads in all later worlds. -/
def MadeS (W0 W : World) (xs : List Int) (n : Nat) (e : Ending) (w' : World) : Prop :=
  ∃ A c, e = .returned (.slice A n c) ∧ (∀ w'', Below w'.heap.size w' w'' → (convert 22 9 (.slice A n c)).run Tryd.prog w'' = .ok (.string (strOfNums xs)) w'') ∧ Below w'.heap.size w' w' ∧ (∀ u, Below u.heap.size u W → Below u.heap.size u w') ∧ Below W0.heap.size W0 w' ∧ ∀ w'', Below w'.heap.size w' w'' → Rd w'' (.slice A n c) (nums .u8 xs)
theorem Made1.toS {W0 w w' : World} {xs : List Int} {n : Nat} {e : Ending} (h : Made1 w xs e w') (hb : Below W0.heap.size W0 w) (hn : xs.length = n) : MadeS W0 w xs n e w' := by
  subst hn
  obtain ⟨A, c, rfl, ho, hb2⟩ := h.sl
  exact ⟨A, c, rfl, fun w'' h => (ho.rd.below h).str, Below.refl _ _, fun u hu => hu.trans (hb2.mono hu.size), hb.trans (hb2.mono hb.size), fun w'' h => ho.rd.below h⟩
theorem Rd.strs {w : World} {v : Value} {xs : List Int} (h : Rd w v (nums .u8 xs)) : ∀ w', Below w.heap.size w w' → (convert 22 9 v).run Tryd.prog w' = .ok (.string (strOfNums xs)) w' := fun w' hb => (h.below hb).str
theorem take_B {b : List Int} (h : Bytes b) (n : Nat) : Bytes (b.take n) := h.take n
def RelG (w13 : World) (A : Option Addr) (c : Nat) (i : Value) (wr : World) : Prop := ∃ (j : Nat) (xs : List Int), i = .int .i64 (j : Nat) ∧ j ≤ 32 ∧ xs.length = 32 ∧ Own wr w13.heap.size (.slice A 32 c) xs ∧ Below w13.heap.size w13 wr
def RelF (w12 : World) (q : Nat) (i : Value) (wr : World) : Prop := ∃ j : Nat, i = .int .i64 j ∧ j ≤ q ∧ Below w12.heap.size w12 wr
set_option maxHeartbeats 4000000 in
set_option maxRecDepth 100000 in
theorem fits_calls (w : World) (A : Option Addr) (n c : Nat) (A2 : Option Addr) (n2 c2 : Nat) (la lb : List Int) (k : Int) (ha : Rd w (.slice A n c) (nums .u8 la)) (hb : Rd w (.slice A2 n2 c2) (nums .u8 lb)) (hBa : Bytes la) (hBb : Bytes lb) (hk : -9223372036854775808 ≤ k ∧ k ≤ 9223372036854775807) (hT : Tabs ks256 st256.ws w) :
    Calls Tryd.prog 6 #[.slice A n c, .slice A2 n2 c2, .int .i64 k] w fun e w' => e = .returned (.bool true) ∧ Below w.heap.size w w' := by
  have HA := Lib.hid ha
  have HB := Lib.hid hb
  have HBa := Lib.hid (hBa.take 3000)
  have HBb := Lib.hid (hBb.take 3000)
  have HT := Lib.hid hT
  clear ha hb hBa hBb hT
  go_enter Tryd.func6, Tryd.ntmps6
  go_wp2_with fail
  refine (up_calls _ HT.out).mono ?_
  rintro e w1 ⟨rfl, hb1⟩
  have HB1 := Lib.hid hb1
  clear hb1
  go_wp2_with fail
  refine (cut_calls _ _ _ _ 3000 la (HA.out.below HB1.out) (by omega)).mono ?_
  rintro e w2 ⟨⟨m, hm, rfl, hra⟩, rfl⟩
  have HRA := Lib.hid hra
  have HMA := Lib.hid hm
  clear hra hm
  go_wp2_with fail
  refine (cut_calls _ _ _ _ 3000 lb (HB.out.below HB1.out) (by omega)).mono ?_
  rintro e w2 ⟨⟨m2, hm2, rfl, hrb⟩, rfl⟩
  have HRB := Lib.hid hrb
  have HMB := Lib.hid hm2
  have hla : (la.take 3000).length ≤ 3000 := by rw [List.length_take]; omega
  have hlb : (lb.take 3000).length ≤ 3000 := by rw [List.length_take]; omega
  clear hrb hm2 HA HB
  generalize la.take 3000 = a at *
  generalize lb.take 3000 = b at *
  have HLA := Lib.hid hla
  have HLB := Lib.hid hlb
  have hm1 : m ≤ 3000 := by rw [HMA.out]; exact hla
  have hm2 : m2 ≤ 3000 := by rw [HMB.out]; exact hlb
  clear hla hlb
  -- all := append(number(len(a)), a...)
  go_wp2_with fail
  refine (lawnumber_calls (m : Int) (by omega) _).mono ?_
  rintro e w3 h
  obtain ⟨A3, c3, rfl, ho3, _, hb3⟩ := h.from (Below.refl _ w1)
  have HO3 := Lib.hid ho3
  have HB3 := Lib.hid hb3
  have HRA3 := Lib.hid (HRA.out.below hb3)
  have HS3 := Lib.hid (show (be8 (m : Int)).length + a.length ≤ 140737488355328 by have := HLA.out; simp [be8]; omega)
  clear ho3 hb3 h
  go_wp2_with (at_builtin; refine wpList_app8 rfl _ _ rfl w1.heap.size _ _ (by rfl) HO3.out _ _ (by rfl) HRA3.out HS3.out HB3.out.size ?_)
  intro A4 m4 c4 w4 hm4 hown hk4 _ _
  have HB4 := Lib.hid (hk4 w1.heap.size w1 (Nat.le_refl _) HB3.out)
  generalize hE : be8 (m : Int) ++ a = E at *
  have HE := Lib.hid hE
  have HO4 := Lib.hid hown
  clear hm4 hown hk4 hE
  go_wp2_with fail
  refine (lawnumber_calls (m2 : Int) (by omega) _).mono ?_
  rintro e w5 h
  obtain ⟨A5, c5, rfl, ho5, hb5, hbb5⟩ := h.from HB4.out
  have HR5 := Lib.hid ho5.rd
  have HO5 := Lib.hid (HO4.out.below hb5)
  have HB5 := Lib.hid hbb5
  have HS5 := Lib.hid (show E.length + (be8 (m2 : Int)).length ≤ 140737488355328 by rw [← HE.out]; have := HLA.out; simp [be8]; omega)
  clear ho5 hb5 hbb5 h
  go_wp2_with (at_builtin; refine wpList_app8 rfl _ _ rfl w1.heap.size _ _ (by rfl) HO5.out _ _ (by rfl) HR5.out HS5.out HB5.out.size ?_)
  intro A6 m6 c6 w6 hm6 hown hk6 _ _
  have HB6 := Lib.hid (hk6 w1.heap.size w1 (Nat.le_refl _) HB5.out)
  generalize hF : E ++ be8 (m2 : Int) = F at *
  have HF := Lib.hid hF
  have HO6 := Lib.hid hown
  have HRB6 := Lib.hid (HRB.out.below HB6.out)
  have HS6 := Lib.hid (show F.length + b.length ≤ 140737488355328 by rw [← HF.out, ← HE.out]; have := HLA.out; have := HLB.out; simp [be8]; omega)
  clear hm6 hown hk6 hF
  go_wp2_with (at_builtin; refine wpList_app8 rfl _ _ rfl w1.heap.size _ _ (by rfl) HO6.out _ _ (by rfl) HRB6.out HS6.out HB6.out.size ?_)
  intro A7 m7 c7 w7 hm7 hown hk7 _ _
  have HB7 := Lib.hid (hk7 w1.heap.size w1 (Nat.le_refl _) HB6.out)
  have HALL := Lib.hid (show F ++ b = partsB [a, b] by rw [← HF.out, ← HE.out]; simp [partsB, HMA.out, HMB.out])
  have HO7 := Lib.hid (show Own w7 w1.heap.size (.slice A7 m7 c7) (partsB [a, b]) by rw [← HALL.out]; exact hown)
  have HPB := Lib.hid (partsB_B (ps := [a, b]) (by intro p hp; simp only [List.mem_cons, List.not_mem_nil, or_false] at hp; rcases hp with rfl | rfl; exact HBa.out; exact HBb.out))
  have HPL := Lib.hid (show (partsB [a, b]).length ≤ 7000 by have := HLA.out; have := HLB.out; simp [partsB, be8]; omega)
  clear hm7 hown hk7
  go_wp2_with fail
  have HRL := Lib.hid (Rd.two w7 (.slice A m c) (.slice A2 m2 c2) a b (HRA.out.below HB7.out) (HRB.out.below HB7.out) 22)
  have HB8 := Lib.hid (HB7.out.alloc HB7.out.size (.cells #[.slice A m c, .slice A2 m2 c2] 22))
  have HO8 := Lib.hid (HO7.out.alloc (.cells #[.slice A m c, .slice A2 m2 c2] 22))
  refine (parts_calls _ _ _ _ [a, b] ks256 st256 st256_W HRL.out (by have := HPL.out; omega) (by intro p hp; simp only [List.mem_cons, List.not_mem_nil, or_false] at hp; rcases hp with rfl | rfl; exact HBa.out; exact HBb.out) (HT.out.below (HB1.out.trans (HB8.out.mono HB1.out.size)))).mono ?_
  rintro e w9 h
  obtain ⟨A9, c9, rfl, ho9, hb9, hbb9⟩ := h.from HB8.out
  have HO9 := Lib.hid ho9
  have HO9b := Lib.hid (HO8.out.below hb9)
  have HB9 := Lib.hid hbb9
  clear ho9 hb9 hbb9 h HRL HO8
  rw [sha_length] at *
  have HTa := Lib.hid (fun (W : World) (h : Below w9.heap.size w9 W) => HT.out.below (HB1.out.trans ((HB9.out.trans (h.mono HB9.out.size)).mono HB1.out.size)))
  have HX := Lib.hid (sha_length ks256 st256 (partsB [a, b]))
  have HE0 := Lib.hid (sha_length ks256 st256 [])
  have hc1 : ∀ W, Below w9.heap.size w9 W → Calls Tryd.prog 9 #[.slice A7 m7 c7] W (MadeS w9 W (sha ks256 st256 (partsB [a, b])) 32) := fun W h =>
    (sha_calls W _ _ _ _ ks256 st256 st256_W (HO9b.out.rd.below h) (by have := HPL.out; omega) HPB.out (HTa.out W h)).mono (fun _ _ hh => hh.toS h (sha_length _ _ _))
  have hc2 : ∀ W, Below w9.heap.size w9 W → Calls Tryd.prog 12 #[.slice none 0 0] W (MadeS w9 W (sha ks256 st256 []) 32) := fun W h =>
    (parts_calls W _ _ _ [] ks256 st256 st256_W ⟨[], rfl, Rd.nil _, fun j p hp => by simp at hp⟩ (by simp [partsB]) (by simp) (HTa.out W h)).mono (fun _ _ hh => hh.toS h (sha_length _ _ _))
  have hc3 : ∀ W, Below w9.heap.size w9 W → Calls Tryd.prog 9 #[.slice none 0 0] W (MadeS w9 W (sha ks256 st256 []) 32) := fun W h =>
    (sha_calls W _ _ _ [] ks256 st256 st256_W (Rd.nil _) (by simp) (by intro x hx; simp at hx) (HTa.out W h)).mono (fun _ _ hh => hh.toS h (sha_length _ _ _))
  have HC1 := Lib.hid hc1
  have HC2 := Lib.hid hc2
  have HC3 := Lib.hid hc3
  have HS9 := Lib.hid HO9.out.rd.strs
  clear hc1 hc2 hc3
  go_upto_region 8 with fail
  go_cut [56] (fun v wx => v = .bool false ∧ Below w9.heap.size w9 wx)
  case first =>
    have hs9 := HS9.out
    clear HX HE0 HT HB1 HBa HBb HMA HMB HLA HLB HB3 HB4 HB5 HB6 HB7 HB8 HO3 HO4 HO5 HO6 HO7 HO9 HO9b HB9 HE HF HALL HPB HPL HRA3 HRB6 HR5 HS3 HS5 HS6 HS9 HTa HRA HRB hm1 hm2 hk
    generalize sha ks256 st256 (partsB [a, b]) = X at *
    generalize sha ks256 st256 [] = X0 at *
    have hbd : Below w9.heap.size w9 w9.drew := (Below.refl _ _).drew
    go_region_held (fun W => Below w9.heap.size w9 W ∧ (convert 22 9 (.slice A9 32 c9)).run Tryd.prog W = .ok (.string (strOfNums X)) W)
      (first | exact ⟨by assumption, hs9 _ (by assumption)⟩)
      (first
      | (go_at_call 9; go_fit (HC1.out _ (by assumption)); rintro e w' ⟨A', c', rfl, hs', hr', hw', hb', _⟩)
      | (go_at_call 9; go_fit (HC3.out _ (by assumption)); rintro e w' ⟨A', c', rfl, hs', hr', hw', hb', _⟩)
      | (go_at_call 12; go_fit (HC2.out _ (by assumption)); rintro e w' ⟨A', c', rfl, hs', hr', hw', hb', _⟩))
    all_goals (go_wp2_with fail; go_meet; exact ⟨rfl, by assumption⟩)
  case rest =>
    obtain ⟨rfl, hb⟩ := hcut
    rename World => w10
    have HB10 := Lib.hid hb
    have HTb := Lib.hid (fun (W : World) (h : Below w10.heap.size w10 W) => HTa.out W (hb.trans (h.mono hb.size)))
    have HRA10 := Lib.hid ((HRA.out.below HB9.out).below hb)
    have HRB10 := Lib.hid ((HRB.out.below HB9.out).below hb)
    have HBX := Lib.hid (HB9.out.trans (hb.mono HB9.out.size))
    clear hb HO3 HO4 HO5 HO6 HO7 HO9 HO9b HB3 HB4 HB5 HB6 HB7 HB8 HE HF HALL HPB HPL HRA3 HRB6 HR5 HS3 HS5 HS6 HS9 HC1 HC2 HC3 HX HE0
    go_upto_region 10 with fail
    go_cut [71] (fun v wx => v = .bool false ∧ Below w10.heap.size w10 wx)
    case first =>
      have hd : mac ks256 st256 a b = mac ks256 st256 (sha ks256 st256 a) b ∨ m ≤ 64 := by
        by_cases h : 64 < m
        · left
          have h1 : keyOf ks256 st256 a = sha ks256 st256 a := by unfold keyOf; rw [if_pos (by rw [← HMA.out]; exact h)]
          have h2 : keyOf ks256 st256 (sha ks256 st256 a) = sha ks256 st256 a := by unfold keyOf; rw [if_neg (by rw [sha_length]; omega)]
          unfold mac
          rw [h1, h2]
        · right; omega
      by_cases hm64 : 64 < m
      · have hmi : (64 : Int) < (m : Int) := by omega
        have hmd : decide ((64 : Int) < (m : Int)) = true := by simp; omega
        have HEQ := Lib.hid (hd.resolve_right (by omega))
        have HLS := Lib.hid (sha_length ks256 st256 a)
        have HLM := fun k b => Lib.hid (show (mac ks256 st256 k b).length = 32 from sha_length _ _ _)
        have HC1 := Lib.hid (fun (W : World) (h : Below w10.heap.size w10 W) => (mac_calls W _ _ _ _ _ _ a b ks256 st256 st256_W (HRA10.out.below h) (HRB10.out.below h) (by have := HLA.out; omega) (by have := HLB.out; omega) HBa.out HBb.out (HTb.out W h)).mono (fun _ _ hh => hh.toS (W0 := w10) h (HLM a b).out))
        have HC2 := Lib.hid (fun (W : World) (h : Below w10.heap.size w10 W) => (sha_calls W _ _ _ a ks256 st256 st256_W (HRA10.out.below h) (by have := HLA.out; omega) HBa.out (HTb.out W h)).mono (fun _ _ hh => hh.toS (W0 := w10) h (sha_length _ _ _)))
        have HC3 := Lib.hid (fun (A : Option Addr) (c : Nat) (W : World) (h : Below w10.heap.size w10 W) (hr : Rd W (.slice A 32 c) (nums .u8 (sha ks256 st256 a))) => (mac_calls W _ _ _ _ _ _ (sha ks256 st256 a) b ks256 st256 st256_W hr (HRB10.out.below h) (by rw [HLS.out]; omega) (by have := HLB.out; omega) (sha_B _ _ _) HBb.out (HTb.out W h)).mono (fun _ _ hh => hh.toS (W0 := w10) h (HLM _ b).out))
        rw [← HEQ.out] at HC3
        clear HEQ hd HLM HLS HTa HTb HRA10 HRB10 HBX HB9 HB10 HT HB1 HBa HBb HMA HMB HLA HLB HRA HRB hm1 hm2 hk
        generalize mac ks256 st256 a b = X at *
        generalize sha ks256 st256 a = X0 at *
        have hbd : Below w10.heap.size w10 w10.drew := (Below.refl _ _).drew
        go_region_held (fun W => Below w10.heap.size w10 W)
          (first | assumption)
          (first
          | (go_at_call 14; go_fit (HC1.out _ (by assumption)); rintro e wa ⟨Aa, ca, rfl, hsa, hra, hwa, hba, _⟩; (try have t1 := hwa wb (by assumption)); (try have t2 := hwa wc (by assumption)))
          | (go_at_call 9; go_fit (HC2.out _ (by assumption)); rintro e wb ⟨Ab, cb, rfl, hsb, hrb, hwb, hbb, hRb⟩; (try have t3 := hwb wa (by assumption)))
          | (go_at_call 14; go_fit (HC3.out _ _ _ (by assumption) (hRb _ (by assumption))); rintro e wc ⟨Ac, cc, rfl, hsc, hrc, hwc, hbc, _⟩; (try have t4 := hwc wa (by assumption)); (try have t5 := hwc wb (by assumption))))
        all_goals (go_wp2_with fail; go_meet; exact ⟨rfl, by assumption⟩)
      · have hmi : (m : Int) ≤ 64 := by omega
        have hmd : decide ((64 : Int) < (m : Int)) = false := by simp; omega
        have hbd : Below w10.heap.size w10 w10.drew := (Below.refl _ _).drew
        clear hd
        go_quiet (fail)
        go_wp2_with fail
        go_meet
        exact ⟨rfl, (Below.refl _ _).drewN _⟩
    case rest =>
      obtain ⟨rfl, hb⟩ := hcut
      rename World => w11
      have HB11 := Lib.hid (HBX.out.trans (hb.mono HBX.out.size))
      have HB11' := Lib.hid hb
      clear hb HBX
      go_upto_if 73 with fail
      go_cut [2] (fun v wx => (∃ k' : Int, v = .int .i64 k' ∧ 0 ≤ k' ∧ k' ≤ 9223372036854775807) ∧ wx = w11)
      case first =>
        obtain ⟨hk0, hk1⟩ := hk
        by_cases hneg : k < 0
        · have hd : decide (k < 0) = true := by simpa using hneg
          have hw1 : IntKind.i64.wrap (k + 1) = k + 1 := IntWalk.i64_in _ (by omega)
          have hw2 : IntKind.i64.wrap (-(k + 1)) = -(k + 1) := IntWalk.i64_in _ (by omega)
          have hw3 : IntKind.i64.wrap (0 - (k + 1)) = -(k + 1) := by rw [IntWalk.i64_in _ (by omega)]; omega
          go_wp2_with fail
          go_meet
          exact ⟨⟨-(k + 1), rfl, by omega, by omega⟩, rfl⟩
        · have hd : decide (k < 0) = false := by simp; omega
          go_wp2_with fail
          go_meet
          exact ⟨⟨k, rfl, by omega, by omega⟩, rfl⟩
      case rest =>
        obtain ⟨⟨k', rfl, hk0, hk1⟩, rfl⟩ := hcut
        obtain ⟨q, hq⟩ : ∃ q : Nat, k' % 5 = q := ⟨(k' % 5).toNat, by omega⟩
        have hq5 : q < 5 := by omega
        have HQ := Lib.hid hq
        have hw32 : IntKind.i64.wrap (32 * (q : Int)) = 32 * (q : Int) := IntWalk.i64_in _ (by omega)
        clear hk hk1
        go_wp2_with fail
        rw [show (32 * (q : Int)) = ((32 * q : Nat) : Int) by omega]
        refine (stream_calls _ _ _ _ a (32 * q) ks256 st256 st256_W (HRA.out.below HB11.out) (by have := HLA.out; omega) (by omega) HBa.out (HT.out.below (HB1.out.trans (HB11.out.mono HB1.out.size)))).mono ?_
        rintro e w12 ⟨v, rfl, ⟨hrv, hlo⟩, hbv⟩
        have hln : (stream ks256 st256 a (32 * q)).length = 32 * q := by
          unfold stream
          rw [List.length_take, rawS_length]; omega
        obtain ⟨A12, c12, rfl⟩ := hrv.len
        rw [nums_length, hln] at *
        have HST := Lib.hid hrv
        have HB12 := Lib.hid (HB11.out.trans (hbv.mono HB11.out.size))
        clear hrv hlo hbv
        go_wp2_with fail
        rw [stream_full] at HST
        have HTc := Lib.hid (fun (W : World) (h : Below w12.heap.size w12 W) => HT.out.below (HB1.out.trans ((HB12.out.trans (h.mono HB12.out.size)).mono HB1.out.size)))
        have HRA12 := Lib.hid (HRA.out.below HB12.out)
        clear HRA HRB HTa HTb HRA10 HRB10 HB10 HB11 HB11'
        go_loopw [12] (fun i wr => RelF w12 q i wr) (fun i _ => q - (intOf i).toNat)
        case atStart => exact ⟨0, rfl, by omega, Below.refl _ _⟩
        case round =>
          rename World => w13
          obtain ⟨j, rfl, hj, hb13⟩ := hrel
          by_cases hlt : j < q
          · have hlt' : (j : Int) < (q : Int) := by omega
            have hw1 : IntKind.i64.wrap (32 * (j : Int)) = 32 * (j : Int) := IntWalk.i64_in _ (by omega)
            have hw2 : IntKind.i64.wrap (32 * (j : Int) + 32) = 32 * (j : Int) + 32 := IntWalk.i64_in _ (by omega)
            obtain ⟨A', c', hsl, hrs⟩ := run_slice8 w12 A12 (32 * q) c12 _ HST.out (32 * (j : Int)) (32 * (j : Int) + 32) (32 * j) (32 * j + 32) (by omega) (by omega) (by omega) (by omega)
            rw [show 32 * j + 32 - 32 * j = 32 by omega] at hsl hrs
            rw [rawS_piece ks256 st256 a q j hlt] at hrs
            have hcs := hrs.strs
            have HLB8 := Lib.hid (be8_B (j : Int))
            have HC1 := Lib.hid (fun (W : World) (h : Below w12.heap.size w12 W) => (lawnumber_calls (j : Int) (by omega) W).mono (fun _ _ hh => hh.toS (W0 := w12) h (n := 8) rfl))
            have HC2 := Lib.hid (fun (A8 : Option Addr) (c8 : Nat) (W : World) (h : Below w12.heap.size w12 W) (hr : Rd W (.slice A8 8 c8) (nums .u8 (be8 (j : Int)))) =>
              (parts_calls (W.alloc (.cells #[.slice A m c, .slice A8 8 c8] 22)) _ _ _ [a, be8 (j : Int)] ks256 st256 st256_W (Rd.two W (.slice A m c) (.slice A8 8 c8) a (be8 (j : Int)) (HRA12.out.below h) hr 22)
                (by have := HLA.out; simp [partsB, be8]; omega) (by intro p hp; simp only [List.mem_cons, List.not_mem_nil, or_false] at hp; rcases hp with rfl | rfl; exact HBa.out; exact HLB8.out) (HTc.out _ (h.alloc h.size _))).mono
                (fun _ _ hh => hh.toS (W0 := w12) (h.alloc h.size _) (n := 32) (sha_length _ _ _)))
            have hal : ∀ (W : World) (o : Obj), Below w12.heap.size w12 W → Below w12.heap.size w12 (W.alloc o) := fun W o h => h.alloc h.size o
            have hbd : Below w12.heap.size w12 w13.drew := hb13.drew
            generalize sha ks256 st256 (partsB [a, be8 (j : Int)]) = X at *
            generalize be8 (j : Int) = E8 at *
            clear hrs
            go_wp2_with fail
            go_region_held (fun W => Below w12.heap.size w12 W ∧ (convert 22 9 (.slice A' 32 c')).run Tryd.prog W = .ok (.string (strOfNums X)) W)
              (first | exact ⟨by assumption, hcs _ (by assumption)⟩ | exact ⟨hal _ _ (by assumption), hcs _ (hal _ _ (by assumption))⟩)
              (first
              | (go_at_call 18; go_fit (HC1.out _ (by assumption)); rintro e wa ⟨Aa, ca, rfl, hsa, hra, hwa, hba, hRa⟩)
              | (go_at_call 12; go_fit (HC2.out _ _ _ (by assumption) (hRa _ (by assumption))); rintro e wb ⟨Ab, cb, rfl, hsb, hrb, hwb, hbb, _⟩))
            all_goals (go_wp2_with fail)
            go_roundw
            case rel => exact ⟨j + 1, by go_num, by omega, by assumption⟩
            case measure => simp [intOf]; omega
          · have hge : (q : Int) ≤ (j : Int) := by omega
            have HB13 := Lib.hid hb13
            have HLS := Lib.hid (sha_length ks256 st256 a)
            have HSA := fun (W : World) (h : Below w12.heap.size w12 W) => Lib.hid (sha_calls W _ _ _ a ks256 st256 st256_W (HRA12.out.below h) (by have := HLA.out; omega) HBa.out (HTc.out W h))
            clear hb13
            go_wp2_with fail
            refine (HSA _ HB13.out).out.mono ?_
            rintro e w14 h
            obtain ⟨A14, c14, rfl, ho14, hb14⟩ := h.sl
            rw [HLS.out] at ho14 ⊢
            have HO14 := Lib.hid ho14
            have HB14 := Lib.hid hb14
            clear h ho14 hb14
            go_wp2_with fail
            go_loopw [14] (fun i wr => RelG w13 A14 c14 i wr) (fun i _ => 32 - (intOf i).toNat)
            case atStart => exact ⟨0, _, rfl, by omega, HLS.out, HO14.out, HB14.out⟩
            case round =>
              clear HO14 HB14
              rename World => w15
              obtain ⟨i, xs, rfl, hi, hxl, hox, hbx⟩ := hrel
              by_cases hlt : i < 32
              · have hlt' : (i : Int) < 32 := by omega
                obtain ⟨g, rfl, hg, hc, hf, hset⟩ := hox.set i hlt
                have HSET := Lib.hid (hset 0)
                have HBX := Lib.hid hbx
                have HXL := Lib.hid hxl
                generalize xs.getD i 0 = y at *
                clear hset hox hbx
                go_wp2_with fail
                go_roundw
                case rel => exact ⟨i + 1, _, by go_num, by omega, by rw [List.length_set]; exact HXL.out, HSET.out, HBX.out.setCell hg _⟩
                case measure => simp [intOf]; omega
              · have hge2 : (32 : Int) ≤ (i : Int) := by omega
                have HBX := Lib.hid (HB13.out.trans (hbx.mono HB13.out.size))
                clear hox hbx
                go_wp2_with fail
                refine (HSA _ HBX.out).out.mono ?_
                rintro e w16 h
                obtain ⟨A16, c16, rfl, ho16, hb16⟩ := h.sl
                have HO16 := Lib.hid ho16.rd
                have HB16 := Lib.hid (HBX.out.trans (hb16.mono HBX.out.size))
                clear h ho16 hb16
                go_wp2_with fail
                refine (HSA _ HB16.out).out.mono ?_
                rintro e w17 h
                obtain ⟨A17, c17, rfl, ho17, hb17⟩ := h.sl
                have HB17 := Lib.hid (HB1.out.trans ((HB12.out.trans ((HB16.out.trans (hb17.mono HB16.out.size)).mono HB12.out.size)).mono HB1.out.size))
                have hs16 := ((HO16.out).below hb17).str
                have hs17 := ho17.rd.str
                clear h ho17 hb17
                go_wp2_with fail
                go_ret
                exact ⟨rfl, HB17.out⟩
end Go.Proofs.YtimdbnhgoekflaaDoor
