/- The document's disk: Power. -/
import Derived.Test.YtlgkcpmedjpoaaaRD
namespace Go.Proofs.Ytlgkcpmedjpoaaa.X
open Go.RowKit Go.Proofs.Ytlgkcpmedjpoaaa Go.Proofs.YtlgkcpmedjpoaaaW.PrintWords Go.Proofs.YtlgkcpmedjpoaaaW.PrintLast Go.Proofs.YtlgkcpmedjpoaaaW.PrintMore
set_option linter.unusedVariables false
set_option linter.unusedSimpArgs false
set_option maxHeartbeats 4000000 in
set_option maxRecDepth 100000 in
theorem rpower_at (base g : Nat) (Av : Option Addr) (cv : Nat) (S : DS) (w : World) (h : RefAt w base g (.slice Av S.b.length cv) S) (ho : S.ok) (hb0 : base ≤ w.heap.size) (hf : S.off = true) (k : Int) (x : Nat) (hx : S.synced + (x : Int) ≤ S.b.length)
    (hcase : (k < 0 ∧ x = 0) ∨ (0 ≤ k ∧ k = (x : Int) ∧ k < (S.b.length : Int) - S.synced) ∨ (0 ≤ k ∧ (S.b.length : Int) - S.synced ≤ k ∧ (x : Int) = (S.b.length : Int) - S.synced)) :
    Calls Try.prog 31 #[.pointer (some ⟨g, 0, none⟩), .int .i64 k] w fun e w' => e = .returned (.tuple #[]) ∧ RefLeft base g (.slice Av S.b.length cv) w { S with b := S.b.take (S.synced + x).toNat, synced := S.synced + x, off := false, left := 0 } w' := by
  obtain ⟨bud, hb, hbud⟩ := h.blk
  have H := Lib.hid h
  have HB := Lib.hid hb
  obtain ⟨c0, c1, c2, c3, c4, c5⟩ := hb.cell
  obtain ⟨ho1, ho2, ho3, ho4, ho5⟩ := ho
  rw [hf] at c2
  have HF := Lib.hid hf
  have hlen : (S.b.length : Int) ≤ 67108864 := by omega
  have hd0 : (0 : Int) ≤ (S.b.length : Int) - S.synced := by omega
  have hw1 : IntKind.i64.wrap ((S.b.length : Int) - S.synced) = (S.b.length : Int) - S.synced := IntWalk.i64_in _ (by omega)
  obtain ⟨y, hy⟩ := Int.eq_ofNat_of_zero_le (show 0 ≤ S.synced + (x : Int) by omega)
  have hyl : y ≤ S.b.length := by omega
  have HO := Lib.hid h.own
  have HY := Lib.hid hy
  have HL := Lib.hid h.lo
  have hgs := h.lt
  -- the tail's facts
  obtain ⟨At, ct, hst, hrt⟩ := run_to8 w Av S.b.length cv S.b (Rd.of_own h.own) (S.synced + (x : Int)) y hy hyl
  have HRT := Lib.hid hrt
  have hws : IntKind.i64.wrap (S.synced + (x : Int)) = S.synced + (x : Int) := IntWalk.i64_in _ (by omega)
  have hnew := World.new_ne w _ c0
  have hnew2 : g ≠ w.heap.size := fun h => hnew h.symm
  have HTK := Lib.hid (show (S.b.take y).length = y by rw [List.length_take]; omega)
  have f0 := hb.free 0
  have f1 := hb.free 1
  have f2 := hb.free 2
  have f4 := hb.free 4
  clear h hb hbud hf hrt hy
  rcases hcase with ⟨h1, rfl⟩ | ⟨h1, rfl, h2⟩ | ⟨h1, h2, h3⟩
  case' inr.inl =>
    go_enter Try.func31, Try.ntmps31
    go_wp2_with fail
    go_quiet (fail)
    go_wp2_with fail
  case' inl =>
    have hst0 : ∀ W, (Instr.slice 22 (.slice Av S.b.length cv) none (some (.int .i64 S.synced)) none).run Try.prog W = .ok (.slice At y ct) W := fun W => by
      have := hst W
      rwa [show S.synced + ((0 : Nat) : Int) = S.synced from by omega] at this
    have hws0 : IntKind.i64.wrap S.synced = S.synced := by rwa [show S.synced + ((0 : Nat) : Int) = S.synced from by omega] at hws
    clear hst hws
    have hdd : ((S.b.length : Int) - S.synced = 0) ∨ (0 < (S.b.length : Int) - S.synced) := by omega
    rcases hdd with hdd | hdd
    case' inl =>
      have hw10 : IntKind.i64.wrap (0 : Int) = 0 := IntWalk.i64_in _ (by omega)
      go_enter Try.func31, Try.ntmps31
      go_wp2_with fail
      go_quiet (fail)
      go_wp2_with fail
    case' inr =>
      go_enter Try.func31, Try.ntmps31
      go_wp2_with fail
      go_quiet (fail)
      go_wp2_with fail
    all_goals
      have hst := hst0
      have h2 := hdd
      clear hst0 hdd
  case' inr.inr =>
    have h3' : (S.b.length : Int) - S.synced = (x : Int) := by omega
    have hwx : IntKind.i64.wrap (x : Int) = (x : Int) := IntWalk.i64_in _ (by omega)
    clear h3
    go_enter Try.func31, Try.ntmps31
    go_wp2_with fail
    go_quiet (fail)
    go_wp2_with fail
    clear h3'
  all_goals
    have hrb : RBlk (w.drewN nq) g (.slice Av S.b.length cv) S.synced S.off S.steps (hasB S) bud := HB.out
    have hko := (Keeps.refl (fun k => k = g) w).drewN nq
    have hrt1 := HRT.out.drewN nq
    have hgs1 : g < (w.drewN nq).heap.size := hgs
    have hbb : base ≤ (w.drewN nq).heap.size := hb0
    have hsz : w.heap.size ≤ (w.drewN nq).heap.size := Nat.le_refl _
    clear c0 c1 c2 c3 c4 c5 f0 f1 f2 f4 hnew hnew2 hgs hb0 hd0 h1 h2
    generalize w.drewN nq = w1 at *
    obtain ⟨c0, c1, c2, c3, c4, c5⟩ := hrb.cell
    have f0 := hrb.free 0
    have hnew := World.new_ne w1 _ c0
    have hnew2 : g ≠ w1.heap.size := fun h => hnew h.symm
    have hbe : Below w1.heap.size w1 ((w1.alloc (.cells #[] 5)).drew) := ((Below.refl w1.heap.size w1).alloc (Nat.le_refl _) _).drew
    have HM := Lib.hid (show Own ((w1.alloc (.cells #[] 5)).drew) w1.heap.size (.slice (some ⟨w1.heap.size, 0, none⟩) 0 0) [] from (Own.made w1 w1.heap.size (Nat.le_refl _)).below (Below.refl _ _).drew)
    have HRR := Lib.hid (hrt1.below hbe)
    have HSZ := Lib.hid (show ([] : List Int).length + (S.b.take y).length ≤ 140737488355328 by rw [HTK.out]; simp; omega)
    have HBE := Lib.hid hbe
    have HKO := Lib.hid hko
    have HRB := Lib.hid hrb
    have HCELL : ∀ W, Below w1.heap.size w1 W → W.cell? ⟨g, 0, none⟩ = some (.slice Av S.b.length cv) ∧ W.cell? ⟨g, 1, none⟩ = some (.int .i64 S.synced) ∧ W.frozen? ⟨g, 0, none⟩ = false := fun W hW => by
      have hh : RBlk W g (.slice Av S.b.length cv) S.synced S.off S.steps (hasB S) bud := (hW.block g hgs1).trans HRB.out
      exact ⟨hh.cell.1, hh.cell.2.1, hh.free 0⟩
    have HC := Lib.hid HCELL
    clear HCELL hbe hko hrb hrt1 c2 c3 c4 c5 HRT HB H
    obtain ⟨e0, e1, e2⟩ := HC.out _ HBE.out
    go_region_law ((refine step_app8 (by rfl) _ _ (by rfl) w1.heap.size _ [] (by rfl) HM.out _ (S.b.take y) (by rfl) HRR.out HSZ.out (by simp) ?_; intro A2 m2 c2' w2 HM2 HO2 HK2 HAT; have HNO := Lib.hid (show (Value.slice A2 m2 c2').ownBlock ≠ none from by rcases HAT.out with h | h <;> (rw [h]; simp [Value.ownBlock])); clear HAT; obtain ⟨x0, x1, x2⟩ := HC.out _ (HK2.out _ w1 (Nat.le_refl _) HBE.out)))
    all_goals
      have hm2 : m2 = y := by have h1 := HM2.out; have h2 := HTK.out; (try simp at h1); omega
      subst hm2
      have hrb2 : RBlk w2 g (.slice Av S.b.length cv) S.synced S.off S.steps (hasB S) bud := ((HK2.out w1.heap.size w1 (Nat.le_refl _) HBE.out).block g hgs1).trans HRB.out
      have ho2 : Own w2 w1.heap.size (.slice A2 m2 c2') (S.b.take m2) := HO2.out
      have HKA := Lib.hid (show Keeps (fun k => k = g) w w2 from HKO.out.trans (Keeps.of_below (HK2.out w1.heap.size w1 (Nat.le_refl _) HBE.out) (fun _ => False)) (fun _ h => h) (fun _ _ h => h.elim))
      have HO3 := Lib.hid (show w2.ownsRow base 5 1 (.slice A2 m2 c2') (S.b.take m2).length (numv .u8 (S.b.take m2)) from ho2.mono hbb)
      have HLO := Lib.hid (show ∀ k, (Value.slice A2 m2 c2').ownBlock = some k → w1.heap.size ≤ k from fun k hk => (ho2.lo k hk).1)
      have HR2 := Lib.hid hrb2
      have hr3 := hrb2.set0 (.slice A2 m2 c2')
      generalize hw3 : w2.setCell ⟨g, 0, none⟩ (.slice A2 m2 c2') = w3 at *
      obtain ⟨y0, y1, y2, y3, y4, y5⟩ := hr3.cell
      have z1 := hr3.free 1
      have z2 := hr3.free 2
      have z4 := hr3.free 4
      have HR3 := Lib.hid hr3
      have HW3 := Lib.hid hw3
      clear hrb2 ho2 hr3 hw3 HO2 HK2 HM2 HC HM HRR HBE x0 x1 x2 e0 e1 e2 c0 c1 f0 hnew hnew2 hst
      go_wp2
      refine bodyPost_end (results_none rfl _ _ _) rfl ⟨rfl, ?_⟩
      rw [HY.out, Int.toNat_natCast]
      refine ⟨.slice A2 m2 c2', ⟨⟨bud, ((HR3.out.set1 _).set2 _).set4 _, fun h => absurd rfl h⟩, ?_, HL.out⟩, ?_, ?_⟩
      · refine own_set ((HR3.out.set1 _).set2 _) (own_set (HR3.out.set1 _) (own_set HR3.out ?_))
        rw [← HW3.out]
        exact own_set HR2.out HO3.out
      · refine keeps_left (keeps_gg (keeps_gg (keeps_gg ?_ (keeps_g _ _ _ _)) (keeps_g _ _ _ _)) (keeps_g _ _ _ _))
        rw [← HW3.out]
        exact keeps_gg HKA.out (keeps_g _ _ _ _)
      · cases hA : (Value.slice A2 m2 c2').ownBlock with
        | some k => exact .inr ⟨k, rfl, by have := HLO.out k hA; omega⟩
        | none => exact absurd hA HNO.out
set_option maxHeartbeats 400000 in
theorem rpower_calls (base g : Nat) (v : Value) (S : DS) (w : World) (h : RefAt w base g v S) (ho : S.ok) (hb0 : base ≤ w.heap.size) (k : Int) :
    Calls Try.prog 31 #[.pointer (some ⟨g, 0, none⟩), .int .i64 k] w fun e w' => e = .returned (.tuple #[]) ∧ RefLeft base g v w (S.power k) w' := by
  cases hf : S.off
  · obtain ⟨bud, hb, hbud⟩ := h.blk
    have H := Lib.hid h
    obtain ⟨c0, c1, c2, c3, c4, c5⟩ := hb.cell
    rw [hf] at c2
    have E := Lib.hid (show S.power k = S by rw [DS.power, if_neg (by simp [hf])])
    clear h hb hbud hf
    go_enter Try.func31, Try.ntmps31
    go_wp2
    refine bodyPost_ret (results_none rfl _ _ _) rfl ⟨rfl, ?_⟩
    rw [E.out]
    exact .same H.out (Keeps.refl _ _)
  · obtain ⟨Av, cv, rfl⟩ := ownSlice h.own
    have h5 := ho.2.2.2
    obtain ⟨x, hx⟩ : ∃ x : Nat, mnI (max k 0) (S.b.length - S.synced) = (x : Int) := ⟨(mnI (max k 0) (S.b.length - S.synced)).toNat, by unfold mnI; split <;> omega⟩
    have hxs : S.synced + (x : Int) ≤ S.b.length := by unfold mnI at hx; split at hx <;> omega
    have hc : (k < 0 ∧ x = 0) ∨ (0 ≤ k ∧ k = (x : Int) ∧ k < (S.b.length : Int) - S.synced) ∨ (0 ≤ k ∧ (S.b.length : Int) - S.synced ≤ k ∧ (x : Int) = (S.b.length : Int) - S.synced) := by
      unfold mnI at hx
      split at hx <;> omega
    have := rpower_at base g Av cv S w h ho hb0 hf k x hxs hc
    rw [DS.power, if_pos hf, hx]
    exact this
end Go.Proofs.Ytlgkcpmedjpoaaa.X
