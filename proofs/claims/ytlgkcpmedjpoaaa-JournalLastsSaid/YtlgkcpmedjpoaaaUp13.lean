/- The examples at the head of the statements of layer 13. -/
import Derived.Test.YtlgkcpmedjpoaaaJO
import Derived.Lib.SlBytesConst
namespace Go.Proofs.Ytlgkcpmedjpoaaa.X
open Go.RowKit Go.Proofs.Ytlgkcpmedjpoaaa Go.Proofs.YtlgkcpmedjpoaaaW.PrintWords Go.Proofs.YtlgkcpmedjpoaaaW.PrintLast Go.Proofs.YtlgkcpmedjpoaaaW.PrintMore
set_option linter.unusedVariables false
set_option linter.unusedSimpArgs false
def F0 : List Int := [0, 0, 0, 0, 28, 223, 68, 33]
def D9 : List Int := [49, 50, 51, 52, 53, 54, 55, 56, 57]
set_option maxRecDepth 1000000 in
theorem fr_nil : fr [] = F0 := by kernel_rfl
set_option maxRecDepth 1000000 in
theorem crc_nine : crc D9 = 3421780262 := by kernel_rfl
set_option maxRecDepth 1000000 in
theorem scn_F0 : scn (F0 ++ [1]) ((F0 ++ [1]).length + 1) [] 0 = ([[]], 8) := by kernel_rfl
theorem B8_of (l : List Int) (h : l.all (fun x => decide (0 ≤ x) && decide (x < 256)) = true) : B8 l := by
  intro x hx
  have := List.all_eq_true.1 h x hx
  simpa using this
theorem D9_arr : (#[.int .u8 49, .int .u8 50, .int .u8 51, .int .u8 52, .int .u8 53, .int .u8 54, .int .u8 55, .int .u8 56, .int .u8 57] : Array Value) = (numv .u8 D9).toArray := rfl
theorem F0_str : strOfNums F0 = ⟨#[0, 0, 0, 0, 28, 223, 68, 33]⟩ := rfl
set_option maxHeartbeats 4000000 in
set_option maxRecDepth 100000 in
theorem up13_calls (w : World) : Calls Try.prog 9 #[] w fun e w' => e = .returned (.bool true) ∧ Below w.heap.size w w' := by
  have hcv : ∀ (w : World) (n c : Nat) (C : Array Value), (convert 22 22 (.slice (some ⟨w.heap.size, 0, none⟩) n c)).run Try.prog (w.alloc (.cells C 5)) = .ok (.slice (some ⟨w.heap.size, 0, none⟩) n c) (w.alloc (.cells C 5 (C.size, C.size + 1))) := fun w n c C => Lib.run_convert_bytes_const w _ _ C n c Try.underlying22 Try.underlying5
  have HCV := Lib.hid hcv
  have HF := Lib.hid (frame_ok none 0 [] w (Rd.nil w) (by intro x hx; simp at hx) (by simp))
  rw [fr_nil] at HF
  clear hcv
  go_enter Try.func9, Try.ntmps9
  go_wp2_with fail
  refine HF.out.mono ?_
  rintro e w1 ⟨A1, c1, rfl, ho1, hb1⟩
  rw [show F0.length = 8 from rfl] at *
  have HO1 := Lib.hid ho1
  have HB1 := Lib.hid hb1
  have HM := Lib.hid (Own.made w1 w1.heap.size (Nat.le_refl _))
  have HBA := Lib.hid (hb1.alloc hb1.size (.cells #[] 5))
  have HR := Lib.hid (ho1.rd.below ((Below.refl w1.heap.size w1).alloc (Nat.le_refl _) (.cells #[] 5)))
  have HS := Lib.hid (show ([] : List Int).length + F0.length ≤ 140737488355328 by decide)
  clear ho1 hb1 HF
  go_wp2_with (at_builtin; refine wpList_app8 rfl _ _ rfl w1.heap.size _ [] (by rfl) HM.out _ F0 (by rfl) HR.out HS.out (by simp) ?_)
  intro A2 m2 c2 w2 hm2 ho2 hk2 _ _
  have hm2' : m2 = 8 := by simpa [F0] using hm2
  subst hm2'
  have ho2' : Own w2 w1.heap.size (.slice A2 8 c2) F0 := ho2
  have HB2 := Lib.hid (hk2 w.heap.size w HB1.out.size HBA.out)
  have HB12 := Lib.hid (hk2 w1.heap.size w1 (Nat.le_refl _) ((Below.refl _ _).alloc (Nat.le_refl _) _))
  have HO2 := Lib.hid (ho2'.alloc (.cells #[.int .u8 1] 5))
  have HR2 := Lib.hid (Rd.lit w2 .u8 5 [1] (by simp))
  have HS2 := Lib.hid (show F0.length + ([1] : List Int).length ≤ 140737488355328 by decide)
  have HBA2 := Lib.hid (HB2.out.alloc HB2.out.size (.cells #[.int .u8 1] 5))
  have HBA12 := Lib.hid (HB12.out.alloc HB12.out.size (.cells #[.int .u8 1] 5))
  clear hm2 ho2 ho2' hk2
  go_wp2_with (at_builtin; refine wpList_app8 rfl _ _ rfl w1.heap.size _ F0 (by rfl) HO2.out _ [1] (by rfl) HR2.out HS2.out (by have := HBA12.out.size; simpa using this) ?_)
  intro A3 m3 c3 w3 hm3 ho3 hk3 _ _
  have hm3' : m3 = 9 := by simpa [F0] using hm3
  subst hm3'
  have HB3 := Lib.hid (hk3 w.heap.size w HB1.out.size HBA2.out)
  have HB13 := Lib.hid (hk3 w1.heap.size w1 (Nat.le_refl _) HBA12.out)
  have HSC := Lib.hid (jscan_calls A3 c3 (F0 ++ [1]) w3 (by rw [show (F0 ++ [1] : List Int).length = 9 from rfl]; exact ho3.rd) (B8_of _ (by decide)) (by decide))
  rw [scn_F0, show (F0 ++ [1] : List Int).length = 9 from rfl] at HSC
  clear hm3 ho3 hk3
  go_wp2_with fail
  refine HSC.out.mono ?_
  rintro e w4 ⟨v4, rfl, ho4, hb4⟩
  have hr4 := ho4.rows
  obtain ⟨A4, c4, rfl⟩ := RdRows.len_ hr4
  obtain ⟨ad, Bd, d, rfl, hcell, hrd⟩ := RdRows.at_ hr4 0 (by simp)
  rw [show ([[]] : List (List Int)).getD 0 [] = [] from rfl] at hcell hrd
  have HB4 := Lib.hid (HB3.out.trans (hb4.mono HB3.out.size))
  have HR4 := Lib.hid ((HO1.out.rd.below HB13.out).below (hb4.mono (Nat.le_refl _)))
  have HC4 := Lib.hid hcell
  clear ho4 hb4 hr4 hcell hrd HSC
  go_wp2_with fail
  refine (open_nil w4).mono ?_
  rintro e w5 ⟨rfl, rfl⟩
  have hbl := HB4.out.alloc HB4.out.size (.cells (numv .u8 D9).toArray 5 (9, 10))
  have hb4l := (Below.refl w4.heap.size w4).alloc (Nat.le_refl _) (.cells (numv .u8 D9).toArray 5 (9, 10))
  have HRN := Lib.hid (Rd.litc w4 .u8 5 (9, 10) D9 (by decide))
  have HR5 := Lib.hid (HR4.out.below hb4l)
  have HC5 := Lib.hid (hb4l.cell (World.block_lt_of_cell? w4 _ HC4.out) ▸ HC4.out)
  have HB5 := Lib.hid hbl
  have HCV4 := Lib.hid (HCV.out w4 9 9 (numv .u8 D9).toArray)
  have hcv4 := HCV4.out
  clear hbl hb4l
  rw [show (numv .u8 D9).toArray.size = 9 from rfl] at hcv4
  rw [← D9_arr] at hcv4 HRN HR5 HB5 HC5
  generalize hw5 : (w4.alloc (.cells #[.int .u8 49, .int .u8 50, .int .u8 51, .int .u8 52, .int .u8 53, .int .u8 54, .int .u8 55, .int .u8 56, .int .u8 57] 5 (9, 10))) = w5 at *
  have hc0 : w5.cell? ad = some (.slice Bd ([] : List Int).length d) := by
    have := HC5.out
    rw [show ad.add 0 = ad from rfl] at this
    exact this
  have HSUM := Lib.hid (jsum_rd w5 HRN.out (B8_of D9 (by decide)) (by decide))
  rw [crc_nine, show D9.length = 9 from rfl] at HSUM
  clear hw5 HCV HCV4
  go_wp2_with fail
  refine HSUM.out.mono ?_
  rintro e w6 ⟨rfl, hd6⟩
  obtain ⟨q, rfl⟩ := hd6.out
  have hstr := Rd.str_ (HR5.out.drewN q)
  rw [F0_str] at hstr
  have HB6 := Lib.hid (HB5.out.drewN q)
  have ec := eql_code
  clear hd6
  go_wp2
  go_ret
  exact ⟨rfl, HB6.out⟩
end Go.Proofs.Ytlgkcpmedjpoaaa.X
