/- The digest: its walk. -/
import Derived.Test.YtimdbnhgoekflaaDoorShaB
import Derived.Test.YtimdbnhgoekflaaDoorShaQ
import Derived.Test.YtimdbnhgoekflaaDoorApp
namespace Go.Proofs.YtimdbnhgoekflaaDoor
open Go.RowKit
set_option linter.unusedVariables false

def RelA (w : World) (ks : List Int) (s : St) (b : List Int) (v : Value) (wr : World) : Prop :=
  ∃ k, 64 * k ≤ b.length ∧ Rd w v (nums .u8 (b.drop (64 * k))) ∧ wr.heap[w.heap.size]? = some (.cells (eat ks s b k).cells 46 (0, 0)) ∧ Below w.heap.size w wr
def RelB (w1 : World) (b : List Int) (v : Value) (wr : World) : Prop :=
  ∃ z A m c, v = .slice A m c ∧ z ≤ zeros b.length ∧ Own wr w1.heap.size (.slice A m c) (rest b ++ [128] ++ List.replicate z 0) ∧ Below w1.heap.size w1 wr
def RelC (w w1 : World) (b ks : List Int) (s : St) (v : Value) (wr : World) : Prop :=
  ∃ k, 64 * k ≤ (endOf b).length ∧ Rd wr v (nums .u8 ((endOf b).drop (64 * k))) ∧ (∀ i, v.ownBlock = some i → w1.heap.size ≤ i) ∧ w.heap.size < w1.heap.size ∧
    wr.heap[w.heap.size]? = some (.cells (eat ks (eat ks s b (b.length / 64)) (endOf b) k).cells 46 (0, 0)) ∧ Below w.heap.size w wr
def RelD (w w3 : World) (X : St) (v i : Value) (wr : World) : Prop :=
  ∃ j A m c, i = .int .i64 (j : Nat) ∧ j ≤ 8 ∧ v = .slice A m c ∧ Own wr w3.heap.size (.slice A m c) ((X.ws.take j).flatMap bytes4) ∧ Below w3.heap.size w3 wr
def toFifty (v : Value) : Nat := match v with | .slice _ n _ => (120 - n % 64) % 64 | _ => 0
def lenOf (v : Value) : Nat := match v with | .slice _ n _ => n | _ => 0
theorem St.index (X : St) (j : Nat) (hj : j < 8) (w : World) : (Go.Instr.index 46 (.agg #[.int .u32 X.a, .int .u32 X.b, .int .u32 X.c, .int .u32 X.d, .int .u32 X.e, .int .u32 X.f, .int .u32 X.g, .int .u32 X.h]) (.int .i64 (j : Nat))).run Tryd.prog w = .ok (.int .u32 (X.ws.getD j 0)) w := by
  match j, hj with
  | 0, _ => rfl
  | 1, _ => rfl
  | 2, _ => rfl
  | 3, _ => rfl
  | 4, _ => rfl
  | 5, _ => rfl
  | 6, _ => rfl
  | 7, _ => rfl
theorem St.ws_W {X : St} (h : X.W) (j : Nat) (hj : j < 8) : W32 (X.ws.getD j 0) := by
  obtain ⟨⟨h1, h2, h3, h4⟩, h5, h6, h7, h8⟩ := h
  match j, hj with
  | 0, _ => exact h1
  | 1, _ => exact h2
  | 2, _ => exact h3
  | 3, _ => exact h4
  | 4, _ => exact h5
  | 5, _ => exact h6
  | 6, _ => exact h7
  | 7, _ => exact h8
theorem flat_next (X : St) (j : Nat) (hj : j < 8) : (X.ws.take j).flatMap bytes4 ++ bytes4 (X.ws.getD j 0) = (X.ws.take (j + 1)).flatMap bytes4 := by
  rw [List.take_succ_eq_append_getElem (show j < X.ws.length from hj), List.flatMap_append]
  simp [List.getD_eq_getElem?_getD, show j < X.ws.length from hj]
theorem flat_len (X : St) (j : Nat) (hj : j ≤ 8) : ((X.ws.take j).flatMap bytes4).length = 4 * j := by
  match j, hj with
  | 0, _ => rfl
  | 1, _ => rfl
  | 2, _ => rfl
  | 3, _ => rfl
  | 4, _ => rfl
  | 5, _ => rfl
  | 6, _ => rfl
  | 7, _ => rfl
  | 8, _ => rfl
set_option maxRecDepth 100000 in
set_option maxHeartbeats 2000000 in
theorem sha_calls (w : World) (A : Option Addr) (n c : Nat) (b ks : List Int) (s : St) (hW : s.W) (hb : Rd w (.slice A n c) (nums .u8 b)) (hn : b.length ≤ 1099511627776) (hB : Bytes b) (hT : Tabs ks s.ws w) :
    Calls Tryd.prog 9 #[.slice A n c] w (Made1 w (sha ks s b)) := by
  have hnl : n = b.length := by
    obtain ⟨A', c', he, _⟩ := hb
    injection he with _ he _
    rw [he, nums_length]
  have q0 := hT.h0 0 (by omega)
  have q1 := hT.h0 1 (by omega)
  have q2 := hT.h0 2 (by omega)
  have q3 := hT.h0 3 (by omega)
  have q4 := hT.h0 4 (by omega)
  have q5 := hT.h0 5 (by omega)
  have q6 := hT.h0 6 (by omega)
  have q7 := hT.h0 7 (by omega)
  simp only [St.ws, List.getD_cons_zero, List.getD_cons_succ] at q0 q1 q2 q3 q4 q5 q6 q7
  have HB := Lib.hid hb
  have HN := Lib.hid hnl
  have HT := Lib.hid hT
  clear hb hnl hT
  go_enter Tryd.func9, Tryd.ntmps9
  go_wp2
  go_loopw [4] (fun v wr => RelA w ks s b v wr) (fun v _ => lenOf v)
  case atStart =>
    refine ⟨0, by omega, HB.out, heap_alloc_new w _, (Below.refl _ _).alloc (Nat.le_refl _) _⟩
  case round =>
    clear q0 q1 q2 q3 q4 q5 q6 q7
    rename World => w1
    obtain ⟨k, hk, hrd, hblk, hbel⟩ := hrel
    obtain ⟨A1, c1, rfl⟩ := hrd.len
    have hL : ∃ L, L = (nums .u8 (b.drop (64 * k))).length ∧ L + 64 * k = b.length := ⟨_, rfl, by rw [nums_length, List.length_drop]; omega⟩
    obtain ⟨L, hL, hL2⟩ := hL
    rw [← hL] at hrd ⊢
    have HRD := Lib.hid hrd
    have HBLK := Lib.hid hblk
    have HBEL := Lib.hid hbel
    have hc1 : L ≤ c1 := by
      obtain ⟨A', c', he, h1, _⟩ := hrd
      injection he with _ _ he
      rw [he, hL]; exact h1
    clear hrd hblk hbel hL
    by_cases hlt : 64 ≤ L
    · have hlt' : (64 : Int) ≤ (L : Int) := by omega
      have hle : (64 : Nat) ≤ c1 := by omega
      have HT2 := Lib.hid (HT.out.below HBEL.out)
      have hT2 := HT2.out
      have HRD2 := Lib.hid (HRD.out.below HBEL.out)
      go_wp2_with fail
      refine (block_calls _ _ (eat ks s b k) _ _ _ _ ks s.ws HBLK.out (eat_W hW b k) HRD2.out (by rw [List.length_drop]; omega) (hB.drop _) HT2.out).mono ?_
      rintro e w2 ⟨rfl, hb2, hk2⟩
      have HB2 := Lib.hid hb2
      have HK2 := Lib.hid hk2
      clear hb2 hk2
      go_wp2
      go_roundw
      case rel =>
        refine ⟨k + 1, by omega, ?_, HB2.out, HBEL.out.trans (HK2.out.below HBEL.out.size (by rintro i rfl; exact Nat.le_refl _))⟩
        have h1 := Rd.sliced HRD.out (l := 64) (h := L) (m := c1) (by omega) (Nat.le_refl _) hc1
        rw [List.take_of_length_le (by simp [nums]; omega), ← nums_drop, List.drop_drop, show 64 * k + 64 = 64 * (k + 1) by omega] at h1
        exact h1
      case measure => simp [lenOf]; omega
    · have hlt' : (L : Int) < 64 := by omega
      obtain rfl : k = b.length / 64 := by omega
      have HL := Lib.hid hL2
      have HRD2 := Lib.hid ((HRD.out.below HBEL.out).below ((Below.refl _ _).alloc (Nat.le_refl _) (.cells #[] 5)))
      have HOW := Lib.hid (Own.made w1 w1.heap.size (Nat.le_refl _))
      have HSZ := Lib.hid (show ([] : List Int).length + (rest b).length ≤ 140737488355328 by rw [rest_length]; simp; omega)
      clear hL2 hk
      go_wp2_with (at_builtin; refine wpList_app8 rfl _ _ rfl w1.heap.size _ _ (by rfl) HOW.out _ _ (by rfl) HRD2.out HSZ.out (by simp) ?_)
      intro A2 m2 c2 w2 hm2 hown hk2 _ _
      have HOW2 := Lib.hid (show Own w2 w1.heap.size _ (rest b) from hown)
      have HBE2 := Lib.hid (hk2 w1.heap.size w1 (Nat.le_refl _) ((Below.refl w1.heap.size w1).alloc (Nat.le_refl _) _))
      clear hown hk2 hm2 HOW HSZ HRD2
      have HR1 := Lib.hid (Rd.lit w2 .u8 5 [128] (by simp))
      have HOW3 := Lib.hid ((HOW2.out).keeps (S := fun _ => False) ((Keeps.refl _ w2).alloc (.cells (nums .u8 [128]).toArray 5)) (fun _ _ h => h))
      have HBE3 := Lib.hid (HBE2.out.alloc HBE2.out.size (.cells (nums .u8 [128]).toArray 5))
      have HSZ := Lib.hid (show (rest b).length + ([128] : List Int).length ≤ 140737488355328 by rw [rest_length]; simp; omega)
      go_wp2_with (at_builtin; refine wpList_app8 rfl _ _ rfl w1.heap.size _ _ (by rfl) HOW3.out _ _ (by rfl) HR1.out HSZ.out HBE3.out.size ?_)
      intro A4 m4 c4 w4 hm4 hown hk4 _ _
      have HOW4 := Lib.hid hown
      have HBE4 := Lib.hid (hk4 w1.heap.size w1 (Nat.le_refl _) HBE3.out)
      clear hown hk4 hm4 HOW2 HOW3 HSZ HR1 HBE2 HBE3
      go_wp2
      go_loopw [5] (fun v wx => RelB w1 b v wx) (fun v _ => toFifty v)
      case atStart => exact ⟨0, _, _, _, rfl, by omega, by simpa using HOW4.out, HBE4.out⟩
      case round =>
        clear HOW4 HBE4
        rename World => w5
        obtain ⟨z, Az, mz, cz, rfl, hz, hoz, hbz⟩ := hrel
        have hmz := hoz.len
        have hmz' : mz = b.length % 64 + 1 + z := by rw [hmz]; simp [rest_length]; omega
        generalize hE : rest b ++ [128] ++ List.replicate z 0 = E at hoz hmz
        have HE := Lib.hid hE
        have HOZ := Lib.hid hoz
        have HBZ := Lib.hid hbz
        clear hoz hbz hE
        have HMZ := Lib.hid hmz
        clear hmz
        by_cases hlt : z < zeros b.length
        · have hne : ((mz : Int) % 64 != 56) = true := by
            have : (mz : Int) % 64 ≠ 56 := by unfold zeros at hlt; omega
            simpa using this
          have HR0 := Lib.hid (Rd.lit w5 .u8 5 [0] (by simp))
          have HOA := Lib.hid (HOZ.out.alloc (.cells (nums .u8 [0]).toArray 5))
          have HBA := Lib.hid (HBZ.out.alloc HBZ.out.size (.cells (nums .u8 [0]).toArray 5))
          have HSZ := Lib.hid (show E.length + ([0] : List Int).length ≤ 140737488355328 by rw [← HMZ.out, hmz']; unfold zeros at hlt; simp; omega)
          have HMZ' := Lib.hid hmz'
          clear hmz'
          go_wp2_with (at_builtin; refine wpList_app8 rfl _ _ rfl w1.heap.size _ _ (by rfl) HOA.out _ _ (by rfl) HR0.out HSZ.out HBA.out.size ?_)
          intro A6 m6 c6 w6 hm6 hown hk6 _ _
          have HOW6 := Lib.hid hown
          have HBE6 := Lib.hid (hk6 w1.heap.size w1 (Nat.le_refl _) HBA.out)
          have HM6 := Lib.hid (show m6 = mz + 1 by rw [hm6, HMZ.out])
          clear hown hk6 hm6
          go_wp2
          go_roundw
          case rel =>
            refine ⟨z + 1, _, _, _, rfl, by omega, ?_, HBE6.out⟩
            have := HOW6.out
            rw [← HE.out, List.append_assoc, ← List.replicate_succ'] at this
            exact this
          case measure =>
            have := HMZ'.out
            rw [HM6.out]
            simp only [toFifty]
            unfold zeros at hlt
            omega
        · have hzz : z = zeros b.length := by omega
          have heq : ((mz : Int) % 64 != 56) = false := by
            have : (mz : Int) % 64 = 56 := by unfold zeros at hzz; omega
            simpa using this
          have hnl := HN.out
          have u1 : IntKind.u64.wrap (n : Int) = n := IntWalk.u64_in _ (by omega)
          have u2 : IntKind.u64.wrap (8 * (n : Int)) = 8 * n := IntWalk.u64_in _ (by omega)
          have hb8 : (0 : Int) ≤ 8 * n ∧ (8 : Int) * n ≤ 18446744073709551615 := by omega
          have HMZ' := Lib.hid hmz'
          have HZZ := Lib.hid hzz
          clear hmz' hnl hzz
          go_wp2_with fail
          refine (number_calls (8 * (n : Int)) hb8 _).mono ?_
          rintro e w7 ⟨rfl, hr7, hb7⟩
          have HR7 := Lib.hid hr7
          have HO7 := Lib.hid (HOZ.out.below hb7)
          have HB7 := Lib.hid (HBZ.out.trans (hb7.mono HBZ.out.size))
          have HSZ := Lib.hid (show E.length + (be8 (8 * (n : Int))).length ≤ 140737488355328 by rw [← HMZ.out, HMZ'.out, HZZ.out]; unfold zeros; simp [be8]; omega)
          clear hr7 hb7
          go_wp2_with (at_builtin; refine wpList_app8 rfl _ _ rfl w1.heap.size _ _ (by rfl) HO7.out _ _ (by rfl) HR7.out HSZ.out HB7.out.size ?_)
          intro A8 m8 c8 w8 hm8 hown hk8 _ _
          have HEND := Lib.hid (show endOf b = E ++ be8 (8 * (n : Int)) by
            rw [← HE.out, HZZ.out, HN.out]; unfold endOf tail8; rw [Int.emod_eq_of_lt (by omega) (by omega)]; rfl)
          have HOW8 := Lib.hid (show Own w8 w1.heap.size _ (endOf b) by rw [HEND.out]; exact hown)
          have HBE8 := Lib.hid (hk8 w1.heap.size w1 (Nat.le_refl _) HB7.out)
          clear hown hk8 hm8
          go_wp2_with fail
          have HG := Lib.hid (blk_lt HBLK.out)
          go_loopw [5] (fun v wx => RelC w w1 b ks s v wx) (fun v _ => lenOf v)
          case atStart => exact ⟨0, by omega, HOW8.out.rd, fun i hi => (HOW8.out.lo i hi).1, HG.out, (HBE8.out.block _ HG.out).trans HBLK.out, HBEL.out.trans (HBE8.out.mono HBEL.out.size)⟩
          case round =>
            clear HOW8 HBE8
            rename World => w9
            obtain ⟨k, hk, hrd, hlo, hww, hblk, hbel⟩ := hrel
            obtain ⟨A9, c9, rfl⟩ := hrd.len
            have hL : ∃ L, L = (nums .u8 ((endOf b).drop (64 * k))).length ∧ L + 64 * k = (endOf b).length := ⟨_, rfl, by rw [nums_length, List.length_drop]; omega⟩
            obtain ⟨L9, hL, hL9⟩ := hL
            rw [← hL] at hrd hlo ⊢
            have hem := endOf_mod b
            have hc9 : L9 ≤ c9 := by
              obtain ⟨A', c', he, h1, _⟩ := hrd
              injection he with _ _ he
              rw [he, hL]; exact h1
            have HRD9 := Lib.hid hrd
            have HLO := Lib.hid hlo
            have HBLK9 := Lib.hid hblk
            have HBEL9 := Lib.hid hbel
            clear hrd hlo hblk hbel hL
            by_cases hlt : 0 < L9
            · have hlt' : (0 : Int) < (L9 : Int) := by omega
              have hge : 64 ≤ L9 := by omega
              have hge' : (64 : Int) ≤ (L9 : Int) := by omega
              have hle : (64 : Nat) ≤ c9 := by omega
              have HEW := Lib.hid (eat_W (ks := ks) (eat_W (ks := ks) hW b (b.length / 64)) (endOf b) k)
              have HT9 := Lib.hid (HT.out.below HBEL9.out)
              have HEB := Lib.hid (endOf_B hB)
              go_wp2_with fail
              refine (block_calls _ _ _ _ _ _ _ ks s.ws HBLK9.out HEW.out HRD9.out (by rw [List.length_drop]; omega) (HEB.out.drop _) HT9.out).mono ?_
              rintro e w10 ⟨rfl, hb2, hk2⟩
              have HB2 := Lib.hid hb2
              have HK2 := Lib.hid hk2
              clear hb2 hk2
              go_wp2
              go_roundw
              case rel =>
                refine ⟨k + 1, by omega, ?_, fun i hi => HLO.out i (sliced_own i hi), hww, HB2.out, HBEL9.out.trans (HK2.out.below HBEL9.out.size (by rintro i rfl; exact Nat.le_refl _))⟩
                have h0 := HRD9.out.keeps HK2.out (fun i hi => by have := HLO.out i hi; omega)
                have h1 := Rd.sliced h0 (l := 64) (h := L9) (m := c9) hge (Nat.le_refl _) hc9
                rw [List.take_of_length_le (by simp [nums]; omega), ← nums_drop, List.drop_drop, show 64 * k + 64 = 64 * (k + 1) by omega] at h1
                exact h1
              case measure => simp [lenOf]; omega
            · have hlt' : (L9 : Int) ≤ 0 := by omega
              have hdz : decide ((0 : Int) < (L9 : Int)) = false := by simp; omega
              have hkk : k = (endOf b).length / 64 := by omega
              have hfin : eat ks (eat ks s b (b.length / 64)) (endOf b) k = eat ks s (padded b) ((padded b).length / 64) := by rw [hkk]; exact sha_ends ks s b
              have hblk := HBLK9.out
              rw [hfin] at hblk
              have HSH := Lib.hid (show sha ks s b = (eat ks s (padded b) ((padded b).length / 64)).bytes from rfl)
              have HXW := Lib.hid (eat_W (ks := ks) hW (padded b) ((padded b).length / 64))
              generalize eat ks s (padded b) ((padded b).length / 64) = X at *
              have q0 := cell_of_row _ _ 0 _ _ _ hblk
              have q1 := cell_of_row _ _ 1 _ _ _ hblk
              have q2 := cell_of_row _ _ 2 _ _ _ hblk
              have q3 := cell_of_row _ _ 3 _ _ _ hblk
              have q4 := cell_of_row _ _ 4 _ _ _ hblk
              have q5 := cell_of_row _ _ 5 _ _ _ hblk
              have q6 := cell_of_row _ _ 6 _ _ _ hblk
              have q7 := cell_of_row _ _ 7 _ _ _ hblk
              simp only [St.cells] at q0 q1 q2 q3 q4 q5 q6 q7
              clear hblk hfin hkk HBLK9 HLO HRD9
              go_wp2
              go_loopw [6, 45] (fun v i wx => RelD w w9 X v i wx) (fun _ i _ => 8 - (intOf i).toNat)
              case atStart => exact ⟨0, _, _, _, rfl, by omega, rfl, Own.nil _ _, Below.refl _ _⟩
              case round =>
                clear q0 q1 q2 q3 q4 q5 q6 q7
                rename World => w11
                obtain ⟨j, Aj, mj, cj, rfl, hj, rfl, hoj, hbj⟩ := hrel
                by_cases hlt : j < 8
                · have hlt' : (j : Int) < 8 := by omega
                  have hix := fun w => St.index X j hlt w
                  have hxw := St.ws_W HXW.out j hlt
                  have hfl := flat_len X j (by omega)
                  have HFN := Lib.hid (flat_next X j hlt)
                  generalize X.ws.getD j 0 = x at *
                  generalize hE : (X.ws.take j).flatMap bytes4 = E at *
                  have HR4 := Lib.hid (Rd.lit w11 .u8 5 (bytes4 x) (by simp [bytes4]))
                  have HOA := Lib.hid (hoj.alloc (.cells (nums .u8 (bytes4 x)).toArray 5))
                  have HBA := Lib.hid (hbj.alloc hbj.size (.cells (nums .u8 (bytes4 x)).toArray 5))
                  have HSZ := Lib.hid (show E.length + (bytes4 x).length ≤ 140737488355328 by rw [hfl]; simp [bytes4]; omega)
                  have HFL := Lib.hid hfl
                  clear hoj hbj hE hfl
                  go_wp2_with (at_builtin; refine wpList_app8 rfl _ _ rfl w9.heap.size _ _ (by rfl) HOA.out _ _ (by rfl) HR4.out HSZ.out HBA.out.size ?_)
                  intro A12 m12 c12 w12 hm12 hown hk12 _ _
                  have HOW12 := Lib.hid (show Own w12 w9.heap.size _ ((X.ws.take (j + 1)).flatMap bytes4) by rw [← HFN.out]; exact hown)
                  have HBE12 := Lib.hid (hk12 w9.heap.size w9 (Nat.le_refl _) HBA.out)
                  clear hown hk12 hm12
                  go_wp2
                  go_roundw
                  case rel => exact ⟨j + 1, _, _, _, by go_num, by omega, rfl, HOW12.out, HBE12.out⟩
                  case measure => simp [intOf]; omega
                · have hdz : decide ((j : Int) < 8) = false := by simp; omega
                  have hge' : (8 : Int) ≤ (j : Int) := by omega
                  have hj8 : j = 8 := by omega
                  have HSHB := Lib.hid (show sha ks s b = (X.ws.take j).flatMap bytes4 by rw [HSH.out, hj8]; rfl)
                  have HOJ := Lib.hid hoj
                  have HBJ := Lib.hid hbj
                  clear hoj hbj hj8
                  go_wp2_with fail
                  go_ret
                  refine ⟨_, rfl, ?_, HBEL9.out.trans (HBJ.out.mono HBEL9.out.size)⟩
                  rw [HSHB.out]
                  exact HOJ.out.mono HBEL9.out.size
end Go.Proofs.YtimdbnhgoekflaaDoor
