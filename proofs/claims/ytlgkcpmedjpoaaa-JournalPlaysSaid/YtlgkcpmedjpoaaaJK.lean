/- journal.Scan, walked: the plain scan; its rows are the call's own. -/
import Derived.Test.YtlgkcpmedjpoaaaJR
namespace Go.Proofs.Ytlgkcpmedjpoaaa.X
open Go.RowKit Go.Proofs.Ytlgkcpmedjpoaaa Go.Proofs.YtlgkcpmedjpoaaaW.PrintWords Go.Proofs.YtlgkcpmedjpoaaaW.PrintLast Go.Proofs.YtlgkcpmedjpoaaaW.PrintMore
set_option linter.unusedVariables false
set_option linter.unusedSimpArgs false
/-- x[l:] of bytes that read. -/
theorem run_from8 (w : World) (A : Option Addr) (n c : Nat) (xs : List Int) (hr : Rd w (.slice A n c) (numv .u8 xs)) (li : Int) (l : Nat) (e1 : li = l) (hl : l ≤ n) :
    ∃ A' c', (∀ W, (Instr.slice 22 (.slice A n c) (some (.int .i64 li)) none none).run Try.prog W = .ok (.slice A' (n - l) c') W) ∧ Rd w (.slice A' (n - l) c') (numv .u8 (xs.drop l)) := by
  subst e1
  have hlen : n = xs.length ∧ n ≤ c := by
    obtain ⟨A', c', he, h1, _⟩ := hr
    injection he with _ e2 e3
    rw [numv_length] at *
    omega
  refine ⟨if c = l then A else A.map (·.add (l * 1)), c - l, fun W => ?_, ?_⟩
  · have hs : (sizeOf 5).run Try.prog W = .ok 1 W := by kernel_rfl
    have he : Try.prog.elem 22 = 5 := by kernel_rfl
    rw [run_slice_l (P := Try.prog) (w := W) 22 A n c (by rw [he]; exact app_u8_und) .i64 _ (by omega) (by omega), he, hs]
    simp [Result.andThen, Go.sliced]
  · have := Rd.sliced hr (l := l) (h := n) (m := c) hl (Nat.le_refl _) hlen.2
    rw [List.take_of_length_le (by rw [List.length_drop, numv_length]; omega)] at this
    rw [numv_drop]
    exact this
theorem jof_rd {A : Option Addr} {n c : Nat} {l : List Int} (w : World) (ha : Rd w (.slice A n c) (numv .u8 l)) (h : B8 l) (hl : 4 ≤ l.length) :
    Calls Try.prog 36 #[.slice A n c] w fun e w' => e = .returned (.int .u32 (num4 l)) ∧ Drawn0 w w' := by
  obtain ⟨h1, h2, h3⟩ := C_of_rd ha
  subst h3
  exact journal_of.calls A c l (num4 l) w h1 h2 (jof_spec l h hl)
theorem jsum_rd {A : Option Addr} {n c : Nat} {l : List Int} (w : World) (ha : Rd w (.slice A n c) (numv .u8 l)) (h : B8 l) (hl : l.length ≤ 1000000000000) :
    Calls Try.prog 14 #[.slice A n c] w fun e w' => e = .returned (.int .u32 (crc l)) ∧ Drawn0 w w' := by
  obtain ⟨h1, h2, h3⟩ := C_of_rd ha
  subst h3
  exact journal_Sum.calls (10 * l.length + 1) A c l (crc l) w h1 h2 (sum_spec l h (by omega) _ (by omega))
theorem C_twog (w : World) {A1 A2 : Option Addr} {c1 c2 : Nat} {l1 l2 : List Int} (g : Nat) (hg : w.heap[g]? = some (.cells #[.slice A1 l1.length c1, .slice A2 l2.length c2] 22 (0, 0))) (h1 : Rd w (.slice A1 l1.length c1) (numv .u8 l1)) (h2 : Rd w (.slice A2 l2.length c2) (numv .u8 l2)) :
    Kd.C (Kd.slice 5 (Kd.int .u8)) w (some ⟨g, 0, none⟩) 2 [l1, l2] := by
  have k1 := C_of_rd h1
  have k2 := C_of_rd h2
  refine C_rows _ g [l1, l2] [.slice A1 l1.length c1, .slice A2 l2.length c2] hg rfl (by simp) fun j hj => ?_
  match j, hj with
  | 0, _ => exact ⟨A1, c1, rfl, k1.2.1, k1.1⟩
  | 1, _ => exact ⟨A2, c2, rfl, k2.2.1, k2.1⟩
def MadeC (W0 : World) (z : List Int) (e : Ending) (w' : World) : Prop :=
  ∃ A n c, e = .returned (.slice A n c) ∧ (∀ w'', Below w'.heap.size w' w'' → Rd w'' (.slice A n c) (numv .u8 z)) ∧ Below w'.heap.size w' w' ∧ Below W0.heap.size W0 w'
theorem cat2_rd (W0 w : World) (hW : Below W0.heap.size W0 w) {A1 A2 : Option Addr} {c1 c2 : Nat} {l1 l2 : List Int} (g : Nat) (hg : w.heap[g]? = some (.cells #[.slice A1 l1.length c1, .slice A2 l2.length c2] 22 (0, 0))) (h1 : Rd w (.slice A1 l1.length c1) (numv .u8 l1)) (h2 : Rd w (.slice A2 l2.length c2) (numv .u8 l2)) (hl : (l1 ++ l2).length ≤ 100000000000000) :
    Calls Try.prog 35 #[.slice (some ⟨g, 0, none⟩) 2 2] w (MadeC W0 (l1 ++ l2)) := by
  refine (slices_Concat_byte_byte.calls _ _ [l1, l2] _ _ (C_twog w g hg h1 h2) (Nat.le_refl _) (cat_f [l1, l2] (l1 ++ l2) (by simp) hl)).mono ?_
  rintro e w' ⟨v, rfl, hr, hb⟩
  obtain ⟨A, c, rfl⟩ := ownSlice (own_of_RN hr)
  exact ⟨A, _, c, rfl, fun w'' h => (rd_of_RN hr).below h, Below.refl _ _, hW.trans (hb.mono hW.size)⟩
set_option maxHeartbeats 4000000 in
set_option maxRecDepth 100000 in
theorem jscan_calls (A0 : Option Addr) (c0 : Nat) (l : List Int) (w : World) (ha : Rd w (.slice A0 l.length c0) (numv .u8 l)) (h : B8 l) (hl : l.length ≤ 1000000) :
    Calls Try.prog 11 #[.slice A0 l.length c0] w fun e w' => ∃ v, e = .returned (.tuple #[v, .int .i64 ((scn l (l.length + 1) [] 0).2 : Int)]) ∧ OutL w.heap.size w' v (scn l (l.length + 1) [] 0).1 ∧ Below w.heap.size w w' := by
  obtain ⟨N, hN⟩ : ∃ N, N = l.length := ⟨_, rfl⟩
  have HA := Lib.hid ha
  have HB8 := Lib.hid h
  have HN := Lib.hid hN
  rw [← hN] at hl ⊢
  clear ha h hN
  go_enter Try.func11, Try.ntmps11
  go_wp2
  go_loopw [4, 5] (fun v i wr => RelC w l v i wr) (fun _ i _ => N - (intOf i).toNat)
  case atStart => exact ⟨[], 0, N + 1, rfl, by omega, by have := HN.out; omega, OutL.nil _ _, by simp, Below.refl _ _, by rw [HN.out]⟩
  case round =>
    obtain ⟨out, a, f, rfl, h1, h2, ho, h3, hb, he⟩ := hrel
    obtain ⟨f, rfl⟩ : ∃ m, f = m + 1 := ⟨f - 1, by omega⟩
    rw [← HN.out] at h1 h2
    rename World => wr
    have HO := Lib.hid ho
    have HB := Lib.hid hb
    have HE := Lib.hid he
    clear ho hb he
    have HW := Lib.hid (HA.out.below HB.out)
    rw [← HN.out] at HW
    by_cases g : a + 8 ≤ N
    · have g' : (8 : Int) ≤ (N : Int) - (a : Int) := by omega
      obtain ⟨A1, c1, hs1, hr1⟩ := run_from8 wr A0 N c0 l HW.out (a : Int) a rfl (by omega)
      obtain ⟨n, hn⟩ := Int.eq_ofNat_of_zero_le (num4_bd (HB8.out.drop a)).1
      have HJ := Lib.hid (show Calls Try.prog 36 #[.slice A1 (N - a) c1] wr fun e w' => e = .returned (.int .u32 (n : Int)) ∧ Drawn0 wr w' by
        have := jof_rd (A := A1) (n := N - a) (c := c1) (l := l.drop a) wr hr1 (HB8.out.drop a) (by rw [List.length_drop, ← HN.out]; omega)
        rwa [hn] at this)
      have n2 := (num4_bd (HB8.out.drop a)).2
      rw [hn] at n2
      have HNM := Lib.hid hn
      clear hr1 hn
      by_cases q1 : 2097152 < n
      · have q1' : (2097152 : Int) < (n : Int) := by omega
        have HX := Lib.hid (show (out, a) = scn l (N + 1) [] 0 by rw [HN.out, ← HE.out, scn, if_pos (by rw [← HN.out]; exact g), HNM.out, if_pos (Or.inl (by simpa using q1))])
        clear q1
        go_wp2_with (go_at_call 36; (with_reducible refine HJ.out.mono ?_); rintro e w2 ⟨rfl, k, rfl⟩)
        go_ret2
        rw [← HX.out]
        have hb := (Below.refl wr.heap.size wr).drewN k
        exact ⟨_, rfl, HO.out.below hb, HB.out.trans (hb.mono HB.out.size)⟩
      by_cases q2 : N < a + 8 + n
      · have q1' : (n : Int) ≤ 2097152 := by omega
        have q2' : (N : Int) - (a : Int) - 8 < (n : Int) := by omega
        have HX := Lib.hid (show (out, a) = scn l (N + 1) [] 0 by rw [HN.out, ← HE.out, scn, if_pos (by rw [← HN.out]; exact g), HNM.out, if_pos (Or.inr (by rw [← HN.out]; simpa using q2))])
        clear q1 q2
        go_wp2_with (go_at_call 36; (with_reducible refine HJ.out.mono ?_); rintro e w2 ⟨rfl, k, rfl⟩)
        go_ret2
        rw [← HX.out]
        have hb := (Below.refl wr.heap.size wr).drewN k
        exact ⟨_, rfl, HO.out.below hb, HB.out.trans (hb.mono HB.out.size)⟩
      have q1' : (n : Int) ≤ 2097152 := by omega
      have q2' : (n : Int) ≤ (N : Int) - (a : Int) - 8 := by omega
      have q3' : (a : Int) + 8 + (n : Int) ≤ (N : Int) := by omega
      obtain ⟨A2, c2, hs2, hr2⟩ := run_slice8 wr A0 N c0 l HW.out ((a : Int) + 8) ((a : Int) + 8 + (n : Int)) (a + 8) (a + 8 + n) (by omega) (by omega) (by omega) (by omega)
      obtain ⟨A3, c3, hs3, hr3⟩ := run_slice8 wr A0 N c0 l HW.out (a : Int) ((a : Int) + 4) a (a + 4) rfl (by omega) (by omega) (by omega)
      obtain ⟨A5, c5, hs5, hr5⟩ := run_from8 wr A0 N c0 l HW.out ((a : Int) + 4) (a + 4) (by omega) (by omega)
      rw [show a + 8 + n - (a + 8) = n from by omega] at hs2 hr2
      rw [show a + 4 - a = 4 from by omega] at hs3 hr3
      have hxl : ((l.drop (a + 8)).take n).length = n := by rw [List.length_take, List.length_drop, ← HN.out]; omega
      have hyl : ((l.drop a).take 4).length = 4 := by rw [List.length_take, List.length_drop, ← HN.out]; omega
      have hz8 : B8 ((l.drop a).take 4 ++ (l.drop (a + 8)).take n) := ((HB8.out.drop _).take _).app ((HB8.out.drop _).take _)
      have HG := Lib.hid (show scn l (f + 1) out a = if crc ((l.drop a).take 4 ++ (l.drop (a + 8)).take n) = num4 (l.drop (a + 4)) then scn l f (out ++ [(l.drop (a + 8)).take n]) (a + 8 + n) else (out, a) by
        rw [scn, if_pos (by rw [← HN.out]; exact g), HNM.out, if_neg (by rw [← HN.out, Int.toNat_natCast]; omega), Int.toNat_natCast])
      have HOF := Lib.hid (show ∀ W, Below wr.heap.size wr W → Calls Try.prog 36 #[.slice A5 (N - (a + 4)) c5] W fun e w' => e = .returned (.int .u32 (num4 (l.drop (a + 4)))) ∧ Drawn0 W w' from fun W hW =>
        jof_rd W (hr5.below hW) (HB8.out.drop _) (by rw [List.length_drop, ← HN.out]; omega))
      generalize hx : (l.drop (a + 8)).take n = x at *
      generalize hy : (l.drop a).take 4 = y at *
      have hzl : (y ++ x).length = 4 + n := by rw [List.length_append, hxl, hyl]
      have HCAT := Lib.hid (show ∀ W g, Below wr.heap.size wr W → W.heap[g]? = some (.cells #[.slice A3 4 c3, .slice A2 n c2] 22 (0, 0)) → Calls Try.prog 35 #[.slice (some ⟨g, 0, none⟩) 2 2] W (MadeC wr (y ++ x)) from fun W g hW hg => by
        have e1 := hr3.below hW
        have e2 := hr2.below hW
        refine cat2_rd wr W hW (A1 := A3) (A2 := A2) (c1 := c3) (c2 := c2) g (by rw [hyl, hxl]; exact hg) (by rw [hyl]; exact e1) (by rw [hxl]; exact e2) (by omega))
      have HSUM := Lib.hid (show ∀ W A n c, Rd W (.slice A n c) (numv .u8 (y ++ x)) → Calls Try.prog 14 #[.slice A n c] W fun e w' => e = .returned (.int .u32 (crc (y ++ x))) ∧ Drawn0 W w' from fun W A n c hr => jsum_rd W hr hz8 (by omega))
      have HCL := Lib.hid (show ∀ W, Below wr.heap.size wr W → Calls Try.prog 37 #[.slice A2 n c2] W fun e w' => ∃ v, e = .returned v ∧ Own w' W.heap.size v x ∧ Below W.heap.size W w' from fun W hW => by
        have hr := hr2.below hW
        subst hxl
        refine (slices_Clone_byte_byte.calls _ _ x x W (C_of_rd hr).1 (C_of_rd hr).2.1 (by unfold slices_Clone_byte_byte.f; rw [if_pos (by omega)])).mono ?_
        rintro e w' ⟨v, rfl, hR, hb⟩
        exact ⟨v, rfl, own_of_RN hR, hb⟩)
      generalize crc (y ++ x) = cc at *
      generalize num4 (l.drop (a + 4)) = nn at *
      generalize y ++ x = z at *
      generalize hm : N - (a + 4) = m at *
      have HXL := Lib.hid hxl
      have HM := Lib.hid hm
      clear hr2 hr3 hr5 hxl hyl hzl hz8 hx hy q1 q2 hm
      go_wp2_with fail
      refine HJ.out.mono ?_
      rintro e w2 ⟨rfl, k, rfl⟩
      have hb2 := (Below.refl wr.heap.size wr).drewN k
      generalize wr.drewN k = w2 at *
      have HB2 := Lib.hid hb2
      clear HJ n2
      have hw1 : IntKind.i64.wrap ((a : Int) + 4) = (a : Int) + 4 := IntWalk.i64_in _ (by omega)
      have hbd : Below wr.heap.size wr w2.drew := hb2.drew
      have hal := Lib.hid (show ∀ (W : World) (o : Obj), Below wr.heap.size wr W → Below wr.heap.size wr (W.alloc o) from fun W o h => h.alloc h.size o)
      by_cases g3 : cc = nn
      · subst g3
        go_wp2_with fail
        go_region_held (fun W => Below wr.heap.size wr W)
          (first | assumption | exact hal.out _ _ (by assumption) | exact Below.drewN (by assumption) _ | exact Below.drewN (hal.out _ _ (by assumption)) _)
          (first
          | (go_at_call 36; go_fit (HOF.out _ (by first | assumption | exact hal.out _ _ (by assumption) | exact Below.drewN (hal.out _ _ (by assumption)) _)); rintro e wa ⟨rfl, ka, rfl⟩)
          | (go_at_call 35; go_fit (HCAT.out _ _ (by first | assumption | exact hal.out _ _ (by assumption) | exact Below.drewN (hal.out _ _ (by assumption)) _) (by first | exact heap_alloc_new _ _ | simpa using heap_alloc_new _ _)); rintro e wb ⟨Ab, nb, cb, rfl, hrb, hbb, hwb⟩)
          | (go_at_call 14; go_fit (HSUM.out _ _ _ _ (hrb _ (by first | assumption | exact Below.drewN (by assumption) _))); rintro e wc ⟨rfl, kc, rfl⟩))
        have hb5 := hwb.drewN (kc + ka)
        generalize wb.drewN (kc + ka) = w5 at *
        have HB5 := Lib.hid hb5
        have HCL5 := Lib.hid (HCL.out w5 hb5)
        have HO5 := Lib.hid (HO.out.below hb5)
        clear hb5 hwb hbb hrb HCL HSUM HCAT HOF
        go_wp2_with fail
        refine HCL5.out.mono ?_
        rintro e w6 ⟨v6, rfl, ho6, hb6⟩
        obtain ⟨A6, c6, rfl⟩ := ho6.slice
        rw [HXL.out] at *
        have HB6 := Lib.hid (HB5.out.trans (hb6.mono HB5.out.size))
        have HX6 := Lib.hid ((ho6.mono (Nat.le_trans HB.out.size HB5.out.size)).alloc (.cells #[.slice A6 n c6] 22))
        have hb7 := HB6.out.alloc HB6.out.size (.cells #[.slice A6 n c6] 22)
        have HW7 := Lib.hid (HB.out.trans (hb7.mono HB.out.size))
        have HL7 := Lib.hid (HO.out.below hb7)
        obtain ⟨vs, hv, he⟩ := HL7.out
        have HV := Lib.hid hv
        have HVE := Lib.hid he
        have HR7 := Lib.hid (Rd.one w6 (.slice A6 n c6) 22)
        have HS7 := Lib.hid (show (out.length + [Value.slice A6 n c6].length) * 24 ≤ 140737488355328 by simp; omega)
        obtain ⟨A7, c7, rfl⟩ := ownSlice hv
        clear hb6 hb7 hv he ho6 HCL5
        go_wp2_with (at_builtin; refine wpList_app _ rfl _ _ _ rfl w.heap.size 22 (.slice none 0 0) 24 Try.underlying28 row_info rfl _ out.length _ (by rfl) HV.out _ [.slice A6 n c6] (by rfl) HR7.out (one_row _ _ _) HS7.out (by omega) (Nat.le_trans HW7.out.size (by simp)) ?_)
        intro A8 c8 w7 ho7 hg7 hat7
        have HO7 := Lib.hid (OutL.next HV.out HVE.out HX6.out ho7 hg7)
        have HB7 := Lib.hid (HW7.out.grown hg7 HW7.out.size (fun k hk => (own_lo HV.out k hk).1))
        clear ho7 hg7 hat7
        go_wp2
        go_roundw
        case rel =>
          refine ⟨out ++ [x], a + 8 + n, f, by go_num, by rw [← HN.out]; omega, by rw [← HN.out]; omega, HO7.out, by rw [List.length_append, List.length_singleton]; omega, HB7.out, ?_⟩
          rw [← HE.out, HG.out, if_pos trivial]
        case measure => simp [intOf]; omega
      · have HX := Lib.hid (show (out, a) = scn l (N + 1) [] 0 by rw [HN.out, ← HE.out, HG.out, if_neg g3])
        have hne : (cc == nn) = false := by simpa using g3
        have hne2 : (cc != nn) = true := by simpa using g3
        clear g3
        go_wp2_with fail
        go_region_held (fun W => Below wr.heap.size wr W)
          (first | assumption | exact hal.out _ _ (by assumption) | exact Below.drewN (by assumption) _ | exact Below.drewN (hal.out _ _ (by assumption)) _)
          (first
          | (go_at_call 36; go_fit (HOF.out _ (by first | assumption | exact hal.out _ _ (by assumption) | exact Below.drewN (hal.out _ _ (by assumption)) _)); rintro e wa ⟨rfl, ka, rfl⟩)
          | (go_at_call 35; go_fit (HCAT.out _ _ (by first | assumption | exact hal.out _ _ (by assumption) | exact Below.drewN (hal.out _ _ (by assumption)) _) (by first | exact heap_alloc_new _ _ | simpa using heap_alloc_new _ _)); rintro e wb ⟨Ab, nb, cb, rfl, hrb, hbb, hwb⟩)
          | (go_at_call 14; go_fit (HSUM.out _ _ _ _ (hrb _ (by first | assumption | exact Below.drewN (by assumption) _))); rintro e wc ⟨rfl, kc, rfl⟩))
        have HB5 := Lib.hid (hwb.drewN (kc + ka))
        clear hwb hbb hrb
        go_wp2
        go_ret2
        rw [← HX.out]
        exact ⟨_, rfl, HO.out.below HB5.out, HB.out.trans (HB5.out.mono HB.out.size)⟩
    · have g' : (N : Int) - (a : Int) < 8 := by omega
      have HX := Lib.hid (show (out, a) = scn l (N + 1) [] 0 by rw [HN.out, ← HE.out, scn, if_neg (by rw [← HN.out]; exact g)])
      clear g
      go_wp2
      go_ret2
      rw [← HX.out]
      exact ⟨_, rfl, HO.out, HB.out⟩
end Go.Proofs.Ytlgkcpmedjpoaaa.X
