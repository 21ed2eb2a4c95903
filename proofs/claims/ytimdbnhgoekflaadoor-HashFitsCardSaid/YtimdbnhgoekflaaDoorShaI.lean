/- The law's head: the document's examples. -/
import Derived.Test.YtimdbnhgoekflaaDoorShaH
import Derived.Test.YtimdbnhgoekflaaDoorMade
import Derived.Test.YtimdbnhgoekflaaDoorErr
namespace Go.Proofs.YtimdbnhgoekflaaDoor
open Go.RowKit
set_option linter.unusedVariables false
def abcD : List Int := [186, 120, 22, 191, 143, 1, 207, 234, 65, 65, 64, 222, 93, 174, 34, 35, 176, 3, 97, 163, 150, 23, 122, 156, 180, 16, 255, 97, 242, 0, 21, 173]
def jefeD : List Int := [91, 220, 193, 70, 191, 96, 117, 78, 106, 4, 36, 38, 8, 149, 117, 199, 90, 0, 63, 8, 157, 39, 57, 131, 157, 236, 88, 185, 100, 236, 56, 67]
def abcH : ByteArray := ⟨#[98, 97, 55, 56, 49, 54, 98, 102, 56, 102, 48, 49, 99, 102, 101, 97, 52, 49, 52, 49, 52, 48, 100, 101, 53, 100, 97, 101, 50, 50, 50, 51, 98, 48, 48, 51, 54, 49, 97, 51, 57, 54, 49, 55, 55, 97, 57, 99, 98, 52, 49, 48, 102, 102, 54, 49, 102, 50, 48, 48, 49, 53, 97, 100]⟩
def jefeH : ByteArray := ⟨#[53, 98, 100, 99, 99, 49, 52, 54, 98, 102, 54, 48, 55, 53, 52, 101, 54, 97, 48, 52, 50, 52, 50, 54, 48, 56, 57, 53, 55, 53, 99, 55, 53, 97, 48, 48, 51, 102, 48, 56, 57, 100, 50, 55, 51, 57, 56, 51, 57, 100, 101, 99, 53, 56, 98, 57, 54, 52, 101, 99, 51, 56, 52, 51]⟩
def jefeK : List Int := [74, 101, 102, 101]
def jefeM : List Int := [119, 104, 97, 116, 32, 100, 111, 32, 121, 97, 32, 119, 97, 110, 116, 32, 102, 111, 114, 32, 110, 111, 116, 104, 105, 110, 103, 63]
set_option maxRecDepth 1000000 in
theorem abc_eq : sha ks256 st256 [97, 98, 99] = abcD := by kernel_rfl
set_option maxRecDepth 1000000 in
theorem jefe_eq : mac ks256 st256 jefeK jefeM = jefeD := by kernel_rfl
set_option maxRecDepth 1000000 in
theorem abcH_eq : hexB abcD ⟨#[]⟩ = abcH := by kernel_rfl
set_option maxRecDepth 1000000 in
theorem jefeH_eq : hexB jefeD ⟨#[]⟩ = jefeH := by kernel_rfl
theorem _root_.Go.RowKit.Below.drewN' {B : Nat} {w W W' : World} (h : Below B w W) (hm : ∃ m, W' = W.drewN m) : Below B w W' := by
  obtain ⟨m, rfl⟩ := hm
  exact h.drewN m
theorem jefeK_arr : (#[.int .u8 74, .int .u8 101, .int .u8 102, .int .u8 101] : Array Value) = (nums .u8 jefeK).toArray := rfl
theorem jefeM_arr : (#[.int .u8 119, .int .u8 104, .int .u8 97, .int .u8 116, .int .u8 32, .int .u8 100, .int .u8 111, .int .u8 32, .int .u8 121, .int .u8 97, .int .u8 32, .int .u8 119, .int .u8 97, .int .u8 110, .int .u8 116, .int .u8 32, .int .u8 102, .int .u8 111, .int .u8 114, .int .u8 32, .int .u8 110, .int .u8 111, .int .u8 116, .int .u8 104, .int .u8 105, .int .u8 110, .int .u8 103, .int .u8 63] : Array Value) = (nums .u8 jefeM).toArray := by kernel_rfl
theorem jefeK_len : jefeK.length = 4 := rfl
theorem jefeM_len : jefeM.length = 28 := rfl
theorem abcH_list : abcH.toList = [98, 97, 55, 56, 49, 54, 98, 102, 56, 102, 48, 49, 99, 102, 101, 97, 52, 49, 52, 49, 52, 48, 100, 101, 53, 100, 97, 101, 50, 50, 50, 51, 98, 48, 48, 51, 54, 49, 97, 51, 57, 54, 49, 55, 55, 97, 57, 99, 98, 52, 49, 48, 102, 102, 54, 49, 102, 50, 48, 48, 49, 53, 97, 100] := by kernel_rfl
theorem jefeH_list : jefeH.toList = [53, 98, 100, 99, 99, 49, 52, 54, 98, 102, 54, 48, 55, 53, 52, 101, 54, 97, 48, 52, 50, 52, 50, 54, 48, 56, 57, 53, 55, 53, 99, 55, 53, 97, 48, 48, 51, 102, 48, 56, 57, 100, 50, 55, 51, 57, 56, 51, 57, 100, 101, 99, 53, 56, 98, 57, 54, 52, 101, 99, 51, 56, 52, 51] := by kernel_rfl
theorem abcD_len : abcD.length = 32 := rfl
theorem jefeD_len : jefeD.length = 32 := rfl
theorem Bytes_of (l : List Int) (h : l.all (fun x => decide (0 ≤ x) && decide (x ≤ 255)) = true) : Bytes l := by
  intro x hx
  have := List.all_eq_true.1 h x hx
  simpa using this
set_option maxHeartbeats 2000000 in
set_option maxRecDepth 100000 in
theorem up_calls (w : World) (hT : Tabs ks256 st256.ws w) : Calls Tryd.prog 7 #[] w fun e w' => e = .returned (.bool true) ∧ Below w.heap.size w w' := by
  have HT := Lib.hid hT
  clear hT
  have hcv : ∀ (w : World) (n c : Nat) (C : Array Value), (convert 22 22 (.slice (some ⟨w.heap.size, 0, none⟩) n c)).run Tryd.prog (w.alloc (.cells C 5)) = .ok (.slice (some ⟨w.heap.size, 0, none⟩) n c) (w.alloc (.cells C 5 (C.size, C.size + 1))) := fun w n c C => Lib.run_convert_bytes_const w _ _ C n c Tryd.underlying22 Tryd.underlying5
  have hcv2 : ∀ (w : World) (o : Obj) (n c : Nat) (C : Array Value), (convert 22 22 (.slice (some ⟨w.heap.size + 1, 0, none⟩) n c)).run Tryd.prog ((w.alloc o).alloc (.cells C 5)) = .ok (.slice (some ⟨w.heap.size + 1, 0, none⟩) n c) ((w.alloc o).alloc (.cells C 5 (C.size, C.size + 1))) := fun w o n c C => by
    have h := Lib.run_convert_bytes_const (P := Tryd.prog) (w.alloc o) 22 5 C n c Tryd.underlying22 Tryd.underlying5
    rwa [show (w.alloc o).heap.size = w.heap.size + 1 by simp] at h
  go_enter Tryd.func7, Tryd.ntmps7
  have HB1 := Lib.hid ((Below.refl w.heap.size w).alloc (Nat.le_refl _) (.cells (nums .u8 [97, 98, 99]).toArray 5 (3, 4)))
  have HR1 := Lib.hid (Rd.litc w .u8 5 (3, 4) [97, 98, 99] (by simp))
  go_wp2_with fail
  refine (sha_calls _ _ _ _ [97, 98, 99] ks256 st256 st256_W HR1.out (by simp) (Bytes_of _ (by decide)) (HT.out.below HB1.out)).mono ?_
  rintro e w2 ⟨v, rfl, hov, hbv⟩
  rw [abc_eq] at hov
  obtain ⟨A1, c1, rfl⟩ := hov.slice
  have HR2 := Lib.hid hov.rd
  have HB2 := Lib.hid (HB1.out.trans (hbv.mono HB1.out.size))
  clear hov hbv
  go_wp2_with fail
  refine (hex_calls _ _ _ _ abcD HR2.out (by rw [abcD_len]; omega) (Bytes_of _ (by decide))).mono ?_
  rintro e w3 ⟨rfl, hw3⟩
  rw [abcH_eq]
  have HB3 := Lib.hid (HB2.out.drewN' hw3)
  clear hw3
  go_wp2_with fail
  have HBK := Lib.hid (HB3.out.alloc HB3.out.size (.cells (nums .u8 jefeK).toArray 5 (4, 5)))
  have HRK := Lib.hid (Rd.litc w3 .u8 5 (4, 5) jefeK (by decide))
  have HBM := Lib.hid (HBK.out.alloc HBK.out.size (.cells (nums .u8 jefeM).toArray 5 (28, 29)))
  have HRM := Lib.hid (Rd.litc (w3.alloc (.cells (nums .u8 jefeK).toArray 5 (4, 5))) .u8 5 (28, 29) jefeM (by decide))
  have HRK2 := Lib.hid (HRK.out.below ((Below.refl _ _).alloc (Nat.le_refl _) (.cells (nums .u8 jefeM).toArray 5 (28, 29))))
  have e2 : (w3.alloc (.cells (nums .u8 jefeK).toArray 5 (4, 5))).heap.size = w3.heap.size + 1 := by simp
  rw [e2, jefeM_len] at HRM
  rw [jefeK_len] at HRK2
  rw [jefeK_arr, jefeM_arr]
  clear e2 hcv hcv2 HRK HBK
  refine (mac_calls _ _ _ _ _ _ _ jefeK jefeM ks256 st256 st256_W HRK2.out HRM.out (by decide) (by decide) (Bytes_of _ (by decide)) (Bytes_of _ (by decide)) (HT.out.below HBM.out)).mono ?_
  rintro e w4 ⟨v, rfl, hov, hbv⟩
  rw [jefe_eq] at hov
  obtain ⟨A2, c2, rfl⟩ := hov.slice
  have HR4 := Lib.hid hov.rd
  have HB4 := Lib.hid (HBM.out.trans (hbv.mono HBM.out.size))
  clear hov hbv
  go_wp2_with fail
  refine (hex_calls _ _ _ _ jefeD HR4.out (by rw [jefeD_len]; omega) (Bytes_of _ (by decide))).mono ?_
  rintro e w5 ⟨rfl, hw5⟩
  rw [jefeH_eq]
  have HB5 := Lib.hid (HB4.out.drewN' hw5)
  clear hw5
  have ec := eql_code
  have hA := abcH_list
  have hJ := jefeH_list
  go_wp2_with fail
  refine (stream_err _ _ (-1) (by omega)).mono ?_
  rintro e w6 ⟨rfl, rfl⟩
  go_wp2
  go_ret
  exact ⟨rfl, HB5.out⟩
end Go.Proofs.YtimdbnhgoekflaaDoor
