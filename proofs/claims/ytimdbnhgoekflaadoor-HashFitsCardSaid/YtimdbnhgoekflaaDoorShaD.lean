/- Parts, Mac, Stream: their walks. -/
import Derived.Test.YtimdbnhgoekflaaDoorShaC
namespace Go.Proofs.YtimdbnhgoekflaaDoor
open Go.RowKit
set_option linter.unusedVariables false

/-- Parts: lengths and bytes. -/
def partsB (ps : List (List Int)) : List Int := ps.flatMap fun p => be8 p.length ++ p
theorem partsB_take (ps : List (List Int)) (j : Nat) (hj : j < ps.length) : partsB (ps.take (j + 1)) = partsB (ps.take j) ++ be8 (ps.getD j []).length ++ ps.getD j [] := by
  unfold partsB
  rw [List.take_succ_eq_append_getElem hj, List.flatMap_append]
  simp [List.getD_eq_getElem?_getD, hj]
theorem partsB_le (ps : List (List Int)) (j : Nat) : (partsB (ps.take j)).length ≤ (partsB ps).length := by
  have h : partsB ps = partsB (ps.take j) ++ partsB (ps.drop j) := by
    unfold partsB
    rw [← List.flatMap_append, List.take_append_drop]
  rw [h, List.length_append]
  omega
theorem be8_B (n : Int) : Bytes (be8 n) := by
  intro y hy
  simp only [be8, List.mem_cons, List.not_mem_nil, or_false] at hy
  omega
theorem partsB_B {ps : List (List Int)} (h : ∀ p ∈ ps, Bytes p) : Bytes (partsB ps) := by
  intro x hx
  simp only [partsB, List.mem_flatMap] at hx
  obtain ⟨p, hp, hx⟩ := hx
  exact (be8_B _).app (h p hp) x hx
def RelP (w : World) (ps : List (List Int)) (v i : Value) (wr : World) : Prop :=
  ∃ j A m c, i = .int .i64 (j : Nat) ∧ j ≤ ps.length ∧ v = .slice A m c ∧ Own wr w.heap.size (.slice A m c) (partsB (ps.take j)) ∧ Below w.heap.size w wr
set_option maxHeartbeats 2000000 in
theorem parts_calls (w : World) (A : Option Addr) (n c : Nat) (ps : List (List Int)) (ks : List Int) (s : St) (hW : s.W) (hp : RdL w (.slice A n c) ps) (hn : (partsB ps).length ≤ 1099511627776) (hB : ∀ p ∈ ps, Bytes p) (hT : Tabs ks s.ws w) :
    Calls Tryd.prog 12 #[.slice A n c] w (Made1 w (sha ks s (partsB ps))) := by
  have hnl : n = ps.length := by
    obtain ⟨A', c', he⟩ := hp.len
    injection he
  have HP := Lib.hid hp
  have HN := Lib.hid hnl
  have HT := Lib.hid hT
  have HBB := Lib.hid (partsB_B hB)
  have hnm : n ≤ 1099511627776 := by
    have h : ∀ ps : List (List Int), ps.length ≤ (partsB ps).length := by
      intro ps
      induction ps with
      | nil => simp
      | cons p ps ih => simp [partsB, be8] at ih ⊢; omega
    have := h ps
    omega
  clear hp hnl hT hB
  go_enter Tryd.func12, Tryd.ntmps12
  go_wp2
  go_loopw [3, 8] (fun v i wr => RelP w ps v i wr) (fun _ i _ => n - (intOf i).toNat)
  case atStart => exact ⟨0, _, _, _, rfl, by omega, rfl, Own.nil _ _, Below.refl _ _⟩
  case round =>
    rename World => w1
    obtain ⟨j, Aj, mj, cj, rfl, hj, rfl, hoj, hbj⟩ := hrel
    rw [← HN.out] at hj
    by_cases hlt : j < n
    · have hlt' : (j : Int) < (n : Int) := by omega
      obtain ⟨ad, A2, n2, c2, rfl, hc0, hn2, hr2⟩ := HP.out.at_ j (by rw [← HN.out]; exact hlt)
      have hc := (hbj.cell (World.block_lt_of_cell? w _ hc0)).trans hc0
      clear hc0
      have hpt := partsB_take ps j (by rw [← HN.out]; exact hlt)
      have hpl := partsB_le ps (j + 1)
      rw [hpt] at hpl
      generalize ps.getD j [] = p at *
      generalize hE : partsB (ps.take j) = E at *
      have HPT := Lib.hid hpt
      simp only [List.length_append] at hpl
      have hbl : (be8 (p.length : Int)).length = 8 := rfl
      have hu : IntKind.u64.wrap (n2 : Int) = n2 := IntWalk.u64_in _ (by omega)
      have hu8 : (0 : Int) ≤ n2 ∧ (n2 : Int) ≤ 18446744073709551615 := by omega
      have HN2 := Lib.hid hn2
      have HR2 := Lib.hid hr2
      have HOJ := Lib.hid hoj
      have HBJ := Lib.hid hbj
      have HPL := Lib.hid hpl
      clear hpt hE hr2 hoj hbj hpl hbl hn2
      go_wp2_with fail
      refine (number_calls (n2 : Int) hu8 _).mono ?_
      rintro e w2 ⟨rfl, hr3, hb3⟩
      have HR3 := Lib.hid hr3
      have HO3 := Lib.hid (HOJ.out.below hb3)
      have HB3 := Lib.hid (HBJ.out.trans (hb3.mono HBJ.out.size))
      have HSZ := Lib.hid (show E.length + (be8 (n2 : Int)).length ≤ 140737488355328 by have := HPL.out; simp [be8] at this ⊢; omega)
      clear hr3 hb3
      go_wp2_with (at_builtin; refine wpList_app8 rfl _ _ rfl w.heap.size _ _ (by rfl) HO3.out _ _ (by rfl) HR3.out HSZ.out HB3.out.size ?_)
      intro A4 m4 c4 w4 hm4 hown hk4 _ _
      have HBE4 := Lib.hid (hk4 w.heap.size w (Nat.le_refl _) HB3.out)
      have HR4 := Lib.hid (HR2.out.below HBE4.out)
      generalize hF : E ++ be8 (n2 : Int) = F at hown
      have HF := Lib.hid hF
      have HOW4 := Lib.hid hown
      have HSZ4 := Lib.hid (show F.length + p.length ≤ 140737488355328 by have := HPL.out; rw [← HF.out]; simp [be8] at this ⊢; omega)
      clear hown hk4 hm4 hF HO3 HOJ
      go_wp2_with (at_builtin; refine wpList_app8 rfl _ _ rfl w.heap.size _ _ (by rfl) HOW4.out _ _ (by rfl) HR4.out HSZ4.out HBE4.out.size ?_)
      intro A5 m5 c5 w5 hm5 hown hk5 _ _
      have HOW5 := Lib.hid (show Own w5 w.heap.size _ (partsB (ps.take (j + 1))) by rw [HPT.out, ← HN2.out, HF.out]; exact hown)
      have HBE5 := Lib.hid (hk5 w.heap.size w (Nat.le_refl _) HBE4.out)
      clear hown hk5 hm5
      go_wp2
      go_roundw
      case rel => exact ⟨j + 1, _, _, _, by go_num, by rw [← HN.out]; omega, rfl, HOW5.out, HBE5.out⟩
      case measure => simp [intOf]; omega
    · have hge : (n : Int) ≤ (j : Int) := by omega
      have HPS := Lib.hid (show partsB (ps.take j) = partsB ps by rw [List.take_of_length_le (by rw [← HN.out]; omega)])
      have HOJ := Lib.hid hoj
      have HBJ := Lib.hid hbj
      clear hoj hbj
      go_wp2_with fail
      refine (sha_calls _ _ _ _ (partsB ps) ks s hW (by rw [← HPS.out]; exact HOJ.out.rd) hn HBB.out (HT.out.below HBJ.out)).mono ?_
      rintro e w2 ⟨v, rfl, hov, hbv⟩
      have HM := Lib.hid (Made1.of ⟨v, rfl, hov, hbv⟩ HBJ.out)
      clear hov hbv
      go_wp2_with fail
      go_ret
      exact HM.out
end Go.Proofs.YtimdbnhgoekflaaDoor
