/- Mac: its walk. -/
import Derived.Test.YtimdbnhgoekflaaDoorShaD
import Derived.Deep.DeepCutAuto
import Derived.Deep.CutRange
namespace Go.Proofs.YtimdbnhgoekflaaDoor
open Go.RowKit
set_option linter.unusedVariables false

def keyOf (ks : List Int) (s : St) (key : List Int) : List Int := if 64 < key.length then sha ks s key else key
def pad64 (k : List Int) : List Int := k ++ List.replicate (64 - k.length) 0
def xorAll (c : Int) (k : List Int) : List Int := k.map fun x => bits .xor .u8 x c
def mac (ks : List Int) (s : St) (key b : List Int) : List Int :=
  sha ks s (xorAll 92 (pad64 (keyOf ks s key)) ++ sha ks s (xorAll 54 (pad64 (keyOf ks s key)) ++ b))
theorem keyOf_le (ks : List Int) (s : St) (key : List Int) : (keyOf ks s key).length ≤ 64 := by
  unfold keyOf
  split
  · rw [sha_length]; omega
  · omega
theorem keyOf_B {ks : List Int} {s : St} {key : List Int} (h : Bytes key) : Bytes (keyOf ks s key) := by
  unfold keyOf
  split
  · exact sha_B _ _ _
  · exact h
theorem xorAll_length (c : Int) (k : List Int) : (xorAll c k).length = k.length := by simp [xorAll]
theorem pad64_length {k : List Int} (h : k.length ≤ 64) : (pad64 k).length = 64 := by simp [pad64]; omega
theorem xorAll_B (c : Int) (k : List Int) : Bytes (xorAll c k) := by
  intro x hx
  simp only [xorAll, List.mem_map] at hx
  obtain ⟨y, _, rfl⟩ := hx
  have h : ∀ n, 0 ≤ IntKind.u8.wrap n ∧ IntKind.u8.wrap n ≤ 255 := by intro n; rw [IntKind.wrap_u8]; omega
  exact h _
def Z64 : List Int := List.replicate 64 0
def zeros64 : Obj := .cells (nums .u8 Z64).toArray 5
theorem zeros64_two (w : World) : NumBlk ((w.alloc zeros64).alloc zeros64).drew w.heap.size 5 .u8 Z64 ∧ NumBlk ((w.alloc zeros64).alloc zeros64).drew (w.heap.size + 1) 5 .u8 Z64 ∧ Below w.heap.size w ((w.alloc zeros64).alloc zeros64).drew := by
  have h1 : (w.alloc zeros64).heap[w.heap.size]? = some zeros64 := heap_alloc_new w _
  have h2 : ((w.alloc zeros64).alloc zeros64).heap[(w.alloc zeros64).heap.size]? = some zeros64 := heap_alloc_new _ _
  have hs : (w.alloc zeros64).heap.size = w.heap.size + 1 := by simp
  have b1 : Below w.heap.size w (w.alloc zeros64) := (Below.refl _ _).alloc (Nat.le_refl _) _
  have b2 : Below (w.alloc zeros64).heap.size (w.alloc zeros64) ((w.alloc zeros64).alloc zeros64) := (Below.refl _ _).alloc (Nat.le_refl _) _
  rw [hs] at h2
  refine ⟨?_, h2, (b1.trans (b2.mono b1.size)).drew⟩
  exact (b2.block _ (by omega)).trans h1
theorem pad64_eq (k : List Int) (h : k.length ≤ 64) (n : Nat) (hn : n = Nat.min k.length 64) : k.take n ++ Z64.drop n = pad64 k := by
  have : n = k.length := by rw [hn]; exact Nat.min_eq_left h
  rw [this, List.take_length, Z64, List.drop_replicate]
  rfl
def RelM (w : World) (g5 g6 : Nat) (k : List Int) (i : Value) (wr : World) : Prop :=
  ∃ j : Nat, i = .int .i64 j ∧ j ≤ 64 ∧ NumBlk wr g5 5 .u8 ((xorAll 54 k).take j ++ k.drop j) ∧ NumBlk wr g6 5 .u8 ((xorAll 92 k).take j ++ k.drop j) ∧ Below w.heap.size w wr
set_option maxHeartbeats 2000000 in
theorem mac_calls (w : World) (A : Option Addr) (n c : Nat) (A2 : Option Addr) (n2 c2 : Nat) (key b : List Int) (ks : List Int) (s : St) (hW : s.W) (hk : Rd w (.slice A n c) (nums .u8 key)) (hb : Rd w (.slice A2 n2 c2) (nums .u8 b)) (hn : key.length ≤ 1099511627776) (hn2 : b.length ≤ 549755813888) (hB : Bytes key) (hB2 : Bytes b) (hT : Tabs ks s.ws w) :
    Calls Tryd.prog 14 #[.slice A n c, .slice A2 n2 c2] w (Made1 w (mac ks s key b)) := by
  have hnl : n = key.length := by
    obtain ⟨A', c', he, _⟩ := hk
    injection he with _ he _
    rw [he, nums_length]
  have HK := Lib.hid hk
  have HB := Lib.hid hb
  have HN := Lib.hid hnl
  have HT := Lib.hid hT
  have HKB := Lib.hid hB
  have HBB := Lib.hid hB2
  clear hk hb hnl hT hB hB2
  go_enter Tryd.func14, Tryd.ntmps14
  go_upto_if 10 with fail
  go_cut [0] (fun v wx => ∃ A n c, v = .slice A n c ∧ Rd wx (.slice A n c) (nums .u8 (keyOf ks s key)) ∧ Below w.heap.size w wx)
  case first =>
    by_cases hlt : 64 < n
    · have hlt' : (64 : Int) < (n : Int) := by omega
      have hdl : decide ((64 : Int) < (n : Int)) = true := by simp; omega
      have HE := Lib.hid (show keyOf ks s key = sha ks s key by unfold keyOf; rw [if_pos (by rw [← HN.out]; exact hlt)])
      go_wp2_with fail
      refine (sha_calls _ _ _ _ _ ks s hW HK.out hn HKB.out HT.out).mono ?_
      rintro e w2 ⟨v, rfl, hov, hbv⟩
      obtain ⟨A', c', rfl⟩ := hov.slice
      have HOV := Lib.hid hov
      have HBV := Lib.hid hbv
      clear hov hbv
      go_wp2_with fail
      go_meet
      exact ⟨_, _, _, rfl, by rw [HE.out]; exact HOV.out.rd, HBV.out⟩
    · have hge : (n : Int) ≤ 64 := by omega
      have hdl : decide ((64 : Int) < (n : Int)) = false := by simp; omega
      have HE := Lib.hid (show keyOf ks s key = key by unfold keyOf; rw [if_neg (by rw [← HN.out]; exact hlt)])
      go_wp2_with fail
      go_meet
      exact ⟨_, _, _, rfl, by rw [HE.out]; exact HK.out, Below.refl _ _⟩
  case rest =>
    obtain ⟨A3, n3, c3, rfl, hk3, hb3⟩ := hcut
    have hkl := keyOf_le ks s key
    have hkb := keyOf_B (ks := ks) (s := s) HKB.out
    have HM := Lib.hid (show mac ks s key b = sha ks s (xorAll 92 (pad64 (keyOf ks s key)) ++ sha ks s (xorAll 54 (pad64 (keyOf ks s key)) ++ b)) from rfl)
    generalize keyOf ks s key = k at *
    have HKL := Lib.hid hkl
    have HKBB := Lib.hid hkb
    have HK3 := Lib.hid hk3
    have HB3 := Lib.hid hb3
    clear hkl hkb hk3 hb3
    rename World => w3
    go_upto_region 3 with fail
    go_cut [5, 6] (fun v5 v6 wx => ∃ g5 g6, v5 = .slice (some ⟨g5, 0, none⟩) 64 64 ∧ v6 = .slice (some ⟨g6, 0, none⟩) 64 64 ∧ g5 ≠ g6 ∧ w3.heap.size ≤ g5 ∧ w3.heap.size ≤ g6 ∧ NumBlk wx g5 5 .u8 Z64 ∧ NumBlk wx g6 5 .u8 Z64 ∧ Below w3.heap.size w3 wx)
    case first =>
      have hmk : ∀ w, (Instr.makeSlice 22 (.int .i64 64) (.int .i64 64)).run Tryd.prog w = .ok (.slice (some ⟨w.heap.size, 0, none⟩) 64 64) (w.alloc zeros64) := fun _ => by kernel_rfl
      go_region
      all_goals (go_wp2_with fail; go_meet)
      · exact ⟨_, _, rfl, rfl, by omega, Nat.le_refl _, Nat.le_succ _, (zeros64_two w3).1, (zeros64_two w3).2.1, (zeros64_two w3).2.2⟩
      · exact ⟨_, _, rfl, rfl, by omega, Nat.le_succ _, Nat.le_refl _, (zeros64_two w3).2.1, (zeros64_two w3).1, (zeros64_two w3).2.2⟩
    case rest =>
      obtain ⟨g5, g6, rfl, rfl, hne, h5, h6, hn5, hn6, hb4⟩ := hcut
      rename World => w4
      have HN5 := Lib.hid hn5
      have HN6 := Lib.hid hn6
      have HB4 := Lib.hid hb4
      have HNE := Lib.hid hne
      have H5 := Lib.hid h5
      have H6 := Lib.hid h6
      have HK4 := Lib.hid (HK3.out.below hb4)
      clear hn5 hn6 hb4 hne h5 h6
      go_wp2_with ((with_reducible show wpList _ _ _ _ _ _); refine wpList_copy8 rfl _ _ rfl g5 64 Z64 (by rfl) HN5.out _ k (by rfl) HK4.out ?_)
      intro w5 k5 hk5 hn5 hkp5
      have HN5b := Lib.hid (show NumBlk w5 g5 _ _ (pad64 k) by have h := hn5.out; rw [pad64_eq k HKL.out k5 hk5.out] at h; exact h)
      have HN6b := Lib.hid (HN6.out.keeps hkp5.out (fun h => HNE.out h.symm))
      have HB5 := Lib.hid (HB4.out.trans (hkp5.out.below HB4.out.size (by rintro i rfl; exact H5.out)))
      have HK5 := Lib.hid (HK3.out.below HB5.out)
      clear hk5 hn5 hkp5 HN5 HN6
      go_wp2_with ((with_reducible show wpList _ _ _ _ _ _); refine wpList_copy8 rfl _ _ rfl g6 64 Z64 (by rfl) HN6b.out _ k (by rfl) HK5.out ?_)
      intro w6 k6 hk6 hn6 hkp6
      have HN6c := Lib.hid (show NumBlk w6 g6 _ _ (pad64 k) by have h := hn6.out; rw [pad64_eq k HKL.out k6 hk6.out] at h; exact h)
      have HN5c := Lib.hid (HN5b.out.keeps hkp6.out HNE.out)
      have HB6 := Lib.hid (HB5.out.trans (hkp6.out.below HB5.out.size (by rintro i rfl; exact H6.out)))
      clear hk6 hn6 hkp6 HN6b HN5b
      go_wp2_with fail
      go_loopw [23] (fun i wr => RelM w3 g5 g6 (pad64 k) i wr) (fun i _ => 64 - (intOf i).toNat)
      case atStart => exact ⟨0, rfl, by omega, HN5c.out, HN6c.out, HB6.out⟩
      case round =>
        clear HN5c HN6c
        rename World => w7
        obtain ⟨j, rfl, hj, hn5, hn6, hb7⟩ := hrel
        by_cases hlt : j < 64
        · have hlt' : (j : Int) < 64 := by omega
          have hp := pad64_length HKL.out
          have c5 := hn5.cell j (by simp [xorAll_length, hp]; omega)
          have c6 := hn6.cell j (by simp [xorAll_length, hp]; omega)
          have f5 := hn5.free j
          have f6 := hn6.free j
          rw [mix_getD _ _ _ (by rw [xorAll_length, hp]; omega) (by rw [hp]; omega)] at c5 c6
          have HN5 := Lib.hid (hn5.set_ j (bits .xor .u8 ((pad64 k).getD j 0) 54))
          have HN6 := Lib.hid (hn6.set_ j (bits .xor .u8 ((pad64 k).getD j 0) 92))
          have hx : ∀ c, bits .xor .u8 ((pad64 k).getD j 0) c = (xorAll c (pad64 k)).getD j 0 := by
            intro c
            simp [xorAll, List.getD_eq_getElem?_getD, hp, hlt]
          have HE5 := Lib.hid (show ((xorAll 54 (pad64 k)).take j ++ (pad64 k).drop j).set j (bits .xor .u8 ((pad64 k).getD j 0) 54) = (xorAll 54 (pad64 k)).take (j + 1) ++ (pad64 k).drop (j + 1) by
            rw [hx, mix_set _ _ j (by rw [xorAll_length, hp]; omega) (by rw [hp]; omega)])
          have HE6 := Lib.hid (show ((xorAll 92 (pad64 k)).take j ++ (pad64 k).drop j).set j (bits .xor .u8 ((pad64 k).getD j 0) 92) = (xorAll 92 (pad64 k)).take (j + 1) ++ (pad64 k).drop (j + 1) by
            rw [hx, mix_set _ _ j (by rw [xorAll_length, hp]; omega) (by rw [hp]; omega)])
          have HM5 := Lib.hid hn5
          have HM6 := Lib.hid hn6
          have HB7 := Lib.hid hb7
          have hne := HNE.out
          have hne2 := HNE.out.symm
          clear hn5 hn6 hb7 hx hp
          generalize (pad64 k).getD j 0 = y at *
          go_wp2_with fail
          go_roundw
          case rel =>
            refine ⟨j + 1, by go_num, by omega, ?_, ?_, (HB7.out.setCell H5.out _).setCell H6.out _⟩
            · rw [← HE5.out]
              exact HN5.out.keeps (S := fun i => i = g6) ((Keeps.refl _ _).setCell _ _ (fun _ => rfl)) hne
            · rw [← HE6.out]
              exact (HM6.out.keeps (S := fun i => i = g5) ((Keeps.refl _ _).setCell _ _ (fun _ => rfl)) hne2).set_ j _
          case measure => simp [intOf]; omega
        · have hge : (64 : Int) ≤ (j : Int) := by omega
          have hdj : decide ((j : Int) < 64) = false := by simp; omega
          obtain rfl : j = 64 := by omega
          have hp := pad64_length HKL.out
          have hd : (pad64 k).drop 64 = [] := List.drop_eq_nil_of_le (by omega)
          have ht : ∀ c, (xorAll c (pad64 k)).take 64 ++ (pad64 k).drop 64 = xorAll c (pad64 k) := by
            intro c
            rw [hd, List.append_nil, List.take_of_length_le (by rw [xorAll_length]; omega)]
          rw [ht] at hn5 hn6
          generalize hI : xorAll 54 (pad64 k) = I at *
          generalize hO : xorAll 92 (pad64 k) = O at *
          have HIB := Lib.hid (show Bytes I by rw [← hI]; exact xorAll_B _ _)
          have HOB := Lib.hid (show Bytes O by rw [← hO]; exact xorAll_B _ _)
          have hIl : I.length = 64 := by rw [← hI, xorAll_length, hp]
          have hOl : O.length = 64 := by rw [← hO, xorAll_length, hp]
          have HOI := Lib.hid (show Own w7 g5 (.slice (some ⟨g5, 0, none⟩) 64 64) I by have := hn5.own (Nat.le_refl _) (by omega); rwa [hIl] at this)
          have HOO := Lib.hid (show Own w7 w3.heap.size (.slice (some ⟨g6, 0, none⟩) 64 64) O by have := hn6.own H6.out (by omega); rwa [hOl] at this)
          have HIL := Lib.hid hIl
          have HOL := Lib.hid hOl
          have HB7 := Lib.hid hb7
          have HRB := Lib.hid ((HB.out.below HB3.out).below ((hb7.mono (Nat.le_refl _))))
          have HG5 := Lib.hid (hn5.lt)
          clear hn5 hn6 hb7 hI hO ht hd hp hIl hOl hdj
          have HSZ := Lib.hid (show I.length + b.length ≤ 140737488355328 by rw [HIL.out]; omega)
          have HTI := HNE.out
          go_wp2_with (at_builtin; refine wpList_app8 rfl _ _ rfl g5 _ _ (by rfl) HOI.out _ _ (by rfl) HRB.out HSZ.out (Nat.le_of_lt HG5.out) ?_)
          intro A8 m8 c8 w8 hm8 hown hk8 hg8 _
          have HOW8 := Lib.hid hown
          have HBE8 := Lib.hid (hk8 w3.heap.size w3 H5.out HB7.out)
          have HOO8 := Lib.hid (HOO.out.keeps (Keeps.of_grown hg8) (fun i hi h => by
            simp [Value.ownBlock] at hi h
            exact HNE.out (by omega)))
          have HBW8 := Lib.hid (HB3.out.trans (HBE8.out.mono HB3.out.size))
          have HM8 := Lib.hid hm8
          clear hown hk8 hg8 hm8 HOI HOO
          go_wp2_with fail
          refine (sha_calls _ _ _ _ (I ++ b) ks s hW HOW8.out.rd (by rw [List.length_append, HIL.out]; omega) (HIB.out.app HBB.out) (HT.out.below HBW8.out)).mono ?_
          rintro e w9 ⟨v, rfl, hov, hbv⟩
          obtain ⟨A9, c9, rfl⟩ := hov.slice
          have HO9 := Lib.hid hov
          have HOO9 := Lib.hid (HOO8.out.below hbv)
          have HB9 := Lib.hid (HBE8.out.trans (hbv.mono HBE8.out.size))
          have HS9 := Lib.hid (show O.length + (sha ks s (I ++ b)).length ≤ 140737488355328 by rw [HOL.out, sha_length]; omega)
          have HSB := Lib.hid (sha_B ks s (I ++ b))
          have HSL := Lib.hid (sha_length ks s (I ++ b))
          clear hov hbv
          generalize sha ks s (I ++ b) = X at *
          go_wp2_with (at_builtin; refine wpList_app8 rfl _ _ rfl w3.heap.size _ _ (by rfl) HOO9.out _ _ (by rfl) HO9.out.rd HS9.out HB9.out.size ?_)
          intro A10 m10 c10 w10 hm10 hown hk10 _ _
          have HOW10 := Lib.hid hown
          have HBW10 := Lib.hid (HB3.out.trans ((hk10 w3.heap.size w3 (Nat.le_refl _) HB9.out).mono HB3.out.size))
          clear hown hk10 hm10
          go_wp2_with fail
          refine (sha_calls _ _ _ _ (O ++ X) ks s hW HOW10.out.rd (by rw [List.length_append, HOL.out, HSL.out]; omega) (HOB.out.app HSB.out) (HT.out.below HBW10.out)).mono ?_
          rintro e w11 ⟨v, rfl, hov, hbv⟩
          have HF := Lib.hid (Made1.of ⟨v, rfl, hov, hbv⟩ HBW10.out)
          clear hov hbv
          go_wp2_with fail
          go_ret
          rw [HM.out]
          exact HF.out
end Go.Proofs.YtimdbnhgoekflaaDoor
