/- Joined: Up13, Long. -/
import Derived.Test.YtlgkcpmedjpoaaaJO
import Derived.Lib.SlBytesConst
import Derived.Laws.MakeOwn
/- The examples at the head of the statements of layer 13. -/
namespace Go.Proofs.Ytlgkcpmedjpoaaa.X
open Go.RowKit Go.Proofs.Ytlgkcpmedjpoaaa Go.Proofs.YtlgkcpmedjpoaaaW.PrintWords Go.Proofs.YtlgkcpmedjpoaaaW.PrintLast Go.Proofs.YtlgkcpmedjpoaaaW.PrintMore
set_option linter.unusedVariables false
set_option linter.unusedSimpArgs false
def F0 : List Int := [0, 0, 0, 0, 28, 223, 68, 33]
def D9 : List Int := [49, 50, 51, 52, 53, 54, 55, 56, 57]
set_option maxRecDepth 1000000 in
theorem fr_nil : fr [] = F0 := by kernel_rfl
set_option maxRecDepth 1000000 in
theorem crc_nine : crc D9 = 3421780262 := by kernel_rfl
set_option maxRecDepth 1000000 in
theorem scn_F0 : scn (F0 ++ [1]) ((F0 ++ [1]).length + 1) [] 0 = ([[]], 8) := by kernel_rfl
theorem B8_of (l : List Int) (h : l.all (fun x => decide (0 ≤ x) && decide (x < 256)) = true) : B8 l := by
  intro x hx
  have := List.all_eq_true.1 h x hx
  simpa using this
theorem D9_arr : (#[.int .u8 49, .int .u8 50, .int .u8 51, .int .u8 52, .int .u8 53, .int .u8 54, .int .u8 55, .int .u8 56, .int .u8 57] : Array Value) = (numv .u8 D9).toArray := rfl
theorem F0_str : strOfNums F0 = ⟨#[0, 0, 0, 0, 28, 223, 68, 33]⟩ := rfl
set_option maxHeartbeats 4000000 in
set_option maxRecDepth 100000 in
theorem up13_calls (w : World) : Calls Try.prog 9 #[] w fun e w' => e = .returned (.bool true) ∧ Below w.heap.size w w' := by
  have hcv : ∀ (w : World) (n c : Nat) (C : Array Value), (convert 22 22 (.slice (some ⟨w.heap.size, 0, none⟩) n c)).run Try.prog (w.alloc (.cells C 5)) = .ok (.slice (some ⟨w.heap.size, 0, none⟩) n c) (w.alloc (.cells C 5 (C.size, C.size + 1))) := fun w n c C => Lib.run_convert_bytes_const w _ _ C n c Try.underlying22 Try.underlying5
  have HCV := Lib.hid hcv
  have HF := Lib.hid (frame_ok none 0 [] w (Rd.nil w) (by intro x hx; simp at hx) (by simp))
  rw [fr_nil] at HF
  clear hcv
  go_enter Try.func9, Try.ntmps9
  go_wp2_with fail
  refine HF.out.mono ?_
  rintro e w1 ⟨A1, c1, rfl, ho1, hb1⟩
  rw [show F0.length = 8 from rfl] at *
  have HO1 := Lib.hid ho1
  have HB1 := Lib.hid hb1
  have HM := Lib.hid (Own.made w1 w1.heap.size (Nat.le_refl _))
  have HBA := Lib.hid (hb1.alloc hb1.size (.cells #[] 5))
  have HR := Lib.hid (ho1.rd.below ((Below.refl w1.heap.size w1).alloc (Nat.le_refl _) (.cells #[] 5)))
  have HS := Lib.hid (show ([] : List Int).length + F0.length ≤ 140737488355328 by decide)
  clear ho1 hb1 HF
  go_wp2_with (at_builtin; refine wpList_app8 rfl _ _ rfl w1.heap.size _ [] (by rfl) HM.out _ F0 (by rfl) HR.out HS.out (by simp) ?_)
  intro A2 m2 c2 w2 hm2 ho2 hk2 _ _
  have hm2' : m2 = 8 := by simpa [F0] using hm2
  subst hm2'
  have ho2' : Own w2 w1.heap.size (.slice A2 8 c2) F0 := ho2
  have HB2 := Lib.hid (hk2 w.heap.size w HB1.out.size HBA.out)
  have HB12 := Lib.hid (hk2 w1.heap.size w1 (Nat.le_refl _) ((Below.refl _ _).alloc (Nat.le_refl _) _))
  have HO2 := Lib.hid (ho2'.alloc (.cells #[.int .u8 1] 5))
  have HR2 := Lib.hid (Rd.lit w2 .u8 5 [1] (by simp))
  have HS2 := Lib.hid (show F0.length + ([1] : List Int).length ≤ 140737488355328 by decide)
  have HBA2 := Lib.hid (HB2.out.alloc HB2.out.size (.cells #[.int .u8 1] 5))
  have HBA12 := Lib.hid (HB12.out.alloc HB12.out.size (.cells #[.int .u8 1] 5))
  clear hm2 ho2 ho2' hk2
  go_wp2_with (at_builtin; refine wpList_app8 rfl _ _ rfl w1.heap.size _ F0 (by rfl) HO2.out _ [1] (by rfl) HR2.out HS2.out (by have := HBA12.out.size; simpa using this) ?_)
  intro A3 m3 c3 w3 hm3 ho3 hk3 _ _
  have hm3' : m3 = 9 := by simpa [F0] using hm3
  subst hm3'
  have HB3 := Lib.hid (hk3 w.heap.size w HB1.out.size HBA2.out)
  have HB13 := Lib.hid (hk3 w1.heap.size w1 (Nat.le_refl _) HBA12.out)
  have HSC := Lib.hid (jscan_calls A3 c3 (F0 ++ [1]) w3 (by rw [show (F0 ++ [1] : List Int).length = 9 from rfl]; exact ho3.rd) (B8_of _ (by decide)) (by decide))
  rw [scn_F0, show (F0 ++ [1] : List Int).length = 9 from rfl] at HSC
  clear hm3 ho3 hk3
  go_wp2_with fail
  refine HSC.out.mono ?_
  rintro e w4 ⟨v4, rfl, ho4, hb4⟩
  have hr4 := ho4.rows
  obtain ⟨A4, c4, rfl⟩ := RdRows.len_ hr4
  obtain ⟨ad, Bd, d, rfl, hcell, hrd⟩ := RdRows.at_ hr4 0 (by simp)
  rw [show ([[]] : List (List Int)).getD 0 [] = [] from rfl] at hcell hrd
  have HB4 := Lib.hid (HB3.out.trans (hb4.mono HB3.out.size))
  have HR4 := Lib.hid ((HO1.out.rd.below HB13.out).below (hb4.mono (Nat.le_refl _)))
  have HC4 := Lib.hid hcell
  clear ho4 hb4 hr4 hcell hrd HSC
  go_wp2_with fail
  refine (open_nil w4).mono ?_
  rintro e w5 ⟨rfl, rfl⟩
  have hbl := HB4.out.alloc HB4.out.size (.cells (numv .u8 D9).toArray 5 (9, 10))
  have hb4l := (Below.refl w4.heap.size w4).alloc (Nat.le_refl _) (.cells (numv .u8 D9).toArray 5 (9, 10))
  have HRN := Lib.hid (Rd.litc w4 .u8 5 (9, 10) D9 (by decide))
  have HR5 := Lib.hid (HR4.out.below hb4l)
  have HC5 := Lib.hid (hb4l.cell (World.block_lt_of_cell? w4 _ HC4.out) ▸ HC4.out)
  have HB5 := Lib.hid hbl
  have HCV4 := Lib.hid (HCV.out w4 9 9 (numv .u8 D9).toArray)
  have hcv4 := HCV4.out
  clear hbl hb4l
  rw [show (numv .u8 D9).toArray.size = 9 from rfl] at hcv4
  rw [← D9_arr] at hcv4 HRN HR5 HB5 HC5
  generalize hw5 : (w4.alloc (.cells #[.int .u8 49, .int .u8 50, .int .u8 51, .int .u8 52, .int .u8 53, .int .u8 54, .int .u8 55, .int .u8 56, .int .u8 57] 5 (9, 10))) = w5 at *
  have hc0 : w5.cell? ad = some (.slice Bd ([] : List Int).length d) := by
    have := HC5.out
    rw [show ad.add 0 = ad from rfl] at this
    exact this
  have HSUM := Lib.hid (jsum_rd w5 HRN.out (B8_of D9 (by decide)) (by decide))
  rw [crc_nine, show D9.length = 9 from rfl] at HSUM
  clear hw5 HCV HCV4
  go_wp2_with fail
  refine HSUM.out.mono ?_
  rintro e w6 ⟨rfl, hd6⟩
  obtain ⟨q, rfl⟩ := hd6.out
  have hstr := Rd.str_ (HR5.out.drewN q)
  rw [F0_str] at hstr
  have HB6 := Lib.hid (HB5.out.drewN q)
  have ec := eql_code
  clear hd6
  go_wp2
  go_ret
  exact ⟨rfl, HB6.out⟩
end Go.Proofs.Ytlgkcpmedjpoaaa.X

/- JournalLong: the law's walk. -/
namespace Go.Proofs.Ytlgkcpmedjpoaaa.X
open Go.RowKit Go.Proofs.Ytlgkcpmedjpoaaa Go.Proofs.YtlgkcpmedjpoaaaW.PrintWords Go.Proofs.YtlgkcpmedjpoaaaW.PrintLast Go.Proofs.YtlgkcpmedjpoaaaW.PrintMore
set_option linter.unusedVariables false
set_option linter.unusedSimpArgs false
theorem steps_inv {w : World} {B g : Nat} {S : DS} {T : Nat → Prop} {wr : World} (h : DInv w B g S T wr) :
    Calls Try.prog 21 #[.pointer (some ⟨g, 0, none⟩)] wr fun e w' => e = .returned (.int .i64 S.steps) ∧ wr = w' := by
  obtain ⟨v, hd, hb, ht⟩ := h
  obtain ⟨c0, c1, c2, c3, c4⟩ := hd.cell
  clear hd hb ht
  go_enter Try.func21, Try.ntmps21
  go_wp2
  go_ret
  exact ⟨rfl, rfl⟩
theorem made_zeros (n : Nat) : madeCells (Value.int .u8 0).cells n = (numv .u8 (List.replicate n 0)).toArray := by
  apply Array.ext
  · simp [madeCells, numv]
  · intro i h1 h2
    simp [madeCells, numv]
    rw [show (Value.int .u8 0).cells = #[.int .u8 0] from rfl, show (#[Value.int .u8 0] : Array Value).size = 1 from rfl, Nat.mod_one]
    rfl
theorem run_make8 (n : Int) (m : Nat) (hn : n = m) (hm : m ≤ 100000000000) (W : World) : (Instr.makeSlice 22 (.int .i64 n) (.int .i64 n)).run Try.prog W = .ok (.slice (some ⟨W.heap.size, 0, none⟩) m m) (W.alloc (.cells (numv .u8 (List.replicate m 0)).toArray 5)) := by
  subst hn
  obtain ⟨i, hi, hz, hs, hb⟩ := info_parts u8_info
  have := run_make (P := Try.prog) W 22 5 i (.int .u8 0) Try.underlying22 hi hz .i64 .i64 (m : Int) (m : Int) (by omega) (by omega) (by rw [hb]; omega) (by omega)
  rw [hs, Int.toNat_natCast, Nat.mul_one, made_zeros] at this
  exact this
theorem replicate_b8 (n : Nat) : B8 (List.replicate n 0) := by
  intro x hx
  have := List.eq_of_mem_replicate hx
  omega
theorem new_opE : opE DS.new = 0 := by decide
theorem new_opS : opS DS.new = DS.new := rfl
theorem new_wr_long (ys : List Int) (h : 2097152 < ys.length) : wrE DS.new ys = 2 ∧ wrS DS.new ys = DS.new := by
  unfold wrE wrS
  rw [if_pos h, if_pos h]
  exact ⟨rfl, rfl⟩
theorem new_wr (ys : List Int) (h : ys.length ≤ 2097152) : wrE DS.new ys = 0 ∧ wrS DS.new ys = ⟨fr ys, (fr ys).length, false, 2, 0⟩ := by
  have hl : ¬ 2097152 < ys.length := by omega
  have hf : ¬ (0 + (fr ys).length > 67108864) := by rw [frame_len]; omega
  have e1 : DS.app DS.new (fr ys) = ⟨fr ys, 0, false, 1, 0⟩ := by
    unfold DS.app
    rw [if_neg (show ¬ (DS.new.off = true) by decide), if_neg (show ¬ (DS.new.b.length + (fr ys).length > 67108864) from hf)]
    rfl
  have e2 : DS.appE DS.new (fr ys) = 0 := by
    unfold DS.appE
    rw [if_neg (show ¬ (DS.new.off = true) by decide), if_neg (show ¬ (DS.new.b.length + (fr ys).length > 67108864) from hf)]
    rfl
  unfold wrE wrS
  rw [if_neg hl, if_neg hl, e2, if_pos rfl, if_pos rfl, e1]
  exact ⟨rfl, rfl⟩
set_option maxHeartbeats 4000000 in
set_option maxRecDepth 100000 in
theorem long_calls (w : World) (n : Int) (hn : -9223372036854775808 ≤ n ∧ n ≤ 9223372036854775807) :
    Calls Try.prog 6 #[.int .i64 n] w fun e w' => e = .returned (.bool true) ∧ Below w.heap.size w w' := by
  have HU := Lib.hid (up13_calls w)
  by_cases h0 : n < 0
  · clear hn
    go_enter Try.func6, Try.ntmps6
    go_wp2_with fail
    refine HU.out.mono ?_
    rintro e w1 ⟨rfl, hb1⟩
    have HB := Lib.hid hb1
    clear hb1
    go_wp2
    go_ret
    exact ⟨rfl, HB.out⟩
  by_cases h1 : 3145728 < n
  · have h0' : 0 ≤ n := by omega
    clear hn h0
    go_enter Try.func6, Try.ntmps6
    go_wp2_with fail
    refine HU.out.mono ?_
    rintro e w1 ⟨rfl, hb1⟩
    have HB := Lib.hid hb1
    clear hb1
    go_wp2
    go_ret
    exact ⟨rfl, HB.out⟩
  obtain ⟨m, rfl⟩ := Int.eq_ofNat_of_zero_le (show 0 ≤ n by omega)
  have h0' : (0 : Int) ≤ (m : Int) := by omega
  have h1' : (m : Int) ≤ 3145728 := by omega
  have hmk := run_make8 (m : Int) m rfl (by omega)
  have HZL := Lib.hid (show (List.replicate m (0 : Int)).length = m by simp)
  have HZ8 := Lib.hid (replicate_b8 m)
  have ec := eql_code
  clear hn h0 h1
  generalize hz : List.replicate m (0 : Int) = z at *
  clear hz
  go_enter Try.func6, Try.ntmps6
  go_wp2_with fail
  refine HU.out.mono ?_
  rintro e w1 ⟨rfl, hb1⟩
  have HB1 := Lib.hid (hb1.alloc hb1.size (.cells (numv .u8 z).toArray 5))
  have HR1 := Lib.hid (show Rd (w1.alloc (.cells (numv .u8 z).toArray 5)) (.slice (some ⟨w1.heap.size, 0, none⟩) m m) (numv .u8 z) by
    have := Rd.lit w1 .u8 5 z (by rw [HZL.out]; omega)
    rwa [HZL.out] at this)
  have HLT := Lib.hid (show w1.heap.size < (w1.alloc (.cells (numv .u8 z).toArray 5)).heap.size by simp)
  clear hb1 HU
  go_wp2_with fail
  generalize hw2 : w1.alloc (.cells (numv .u8 z).toArray 5) = w2 at *
  generalize w1.heap.size = b1 at *
  clear hw2 hmk
  refine (new_inv w w2 w.heap.size HB1.out HB1.out.size (fun k => k < w2.heap.size) (fun k h => h)).mono ?_
  rintro e w3 ⟨rfl, hd3, hs3⟩
  have HD3 := Lib.hid hd3
  have HR3 := Lib.hid (HR1.out.stay hs3 (fun k hk => by simp [Value.ownBlock] at hk; subst hk; exact HLT.out))
  clear hd3 hs3
  go_wp2_with fail
  refine (open_calls HD3.out (by simp [DS.ok, DS.new]) (by decide) (by intro x hx; simp [DS.new] at hx) (by decide)).mono ?_
  rintro e w4 ⟨jp, rows, he4, hs4, h4⟩
  rw [new_opE, show errV 0 = .nilIface from rfl] at he4
  subst he4
  rcases h4 with ⟨h4, _⟩ | ⟨_, jb, rfl, hjb, hjx, horows, hd4⟩
  · exact absurd new_opE h4
  rw [new_opS] at hd4
  obtain ⟨A4, c4, hrows⟩ := RdRows.len_ horows.rows
  have HD4 := Lib.hid hd4
  have HR4 := Lib.hid (HR3.out.stay hs4 (fun k hk => by simp [Value.ownBlock] at hk; subst hk; exact HLT.out))
  have HJ4 := Lib.hid (show JBox w4 jb w2.heap.size from hjx)
  subst hrows
  clear hs4 horows hjx hd4 hjb
  by_cases hlong : 2097152 < m
  · have hl' : (2097152 : Int) < (m : Int) := by omega
    have HW := Lib.hid (new_wr_long z (by rw [HZL.out]; exact hlong))
    clear hlong
    go_wp2_with fail
    refine (frame_long (some ⟨b1, 0, none⟩) m m w4 hl').mono ?_
    rintro e w5 ⟨rfl, rfl⟩
    go_wp2_with fail
    refine (write_calls HD4.out (by simp [DS.ok, DS.new]) (by decide) HJ4.out (.inr rfl) _ _ _ z HR4.out HZ8.out).mono ?_
    rintro e w6 ⟨rfl, hd6, hs6⟩
    rw [HW.out.1, show errV 2 = .iface 45 (.int .i64 2) from rfl]
    rw [HW.out.2] at hd6
    have HD6 := Lib.hid hd6
    clear hd6 hs6
    go_wp2_with fail
    refine (steps_inv HD6.out).mono ?_
    rintro e w7 ⟨rfl, rfl⟩
    rw [show DS.new.steps = 0 from rfl]
    go_wp2
    go_ret
    exact ⟨rfl, HD6.out.below⟩
  · have hl' : (m : Int) ≤ 2097152 := by omega
    have HW := Lib.hid (new_wr z (by rw [HZL.out]; omega))
    have HF := Lib.hid (frame_ok (some ⟨b1, 0, none⟩) m z w4 (by rw [HZL.out]; exact HR4.out) HZ8.out (by rw [HZL.out]; exact hl'))
    rw [HZL.out] at HF
    clear hlong
    go_wp2_with fail
    refine HF.out.mono ?_
    rintro e w5 ⟨A5, c5, rfl, ho5, hb5⟩
    have HD5 := Lib.hid ((HD4.out.made hb5).mono (T' := fun k => k < w2.heap.size ∨ k = jb) (fun _ h => .inl h))
    have HJ5 := Lib.hid (HJ4.out.below hb5)
    have HR5 := Lib.hid (HR4.out.below hb5)
    clear ho5 hb5
    go_wp2_with fail
    refine (write_calls HD5.out (by simp [DS.ok, DS.new]) (by decide) HJ5.out (.inr rfl) _ _ _ z HR5.out HZ8.out).mono ?_
    rintro e w6 ⟨rfl, hd6, hs6⟩
    rw [HW.out.1, show errV 0 = .nilIface from rfl]
    rw [HW.out.2] at hd6
    have HD6 := Lib.hid hd6
    clear hd6 hs6
    go_wp2_with fail
    refine (steps_inv HD6.out).mono ?_
    rintro e w7 ⟨rfl, rfl⟩
    rw [show DS.steps ⟨fr z, (fr z).length, false, 2, 0⟩ = 2 from rfl]
    go_wp2
    go_ret
    exact ⟨rfl, HD6.out.below⟩
end Go.Proofs.Ytlgkcpmedjpoaaa.X
