/- journal.four, journal.Frame: walked. -/
import Derived.Test.YtlgkcpmedjpoaaaJS
import Derived.Test.YtlgkcpmedjpoaaaApp
namespace Go.Proofs.Ytlgkcpmedjpoaaa.X
open Go.RowKit Go.Proofs.Ytlgkcpmedjpoaaa Go.Proofs.YtlgkcpmedjpoaaaW.PrintWords Go.Proofs.YtlgkcpmedjpoaaaW.PrintLast Go.Proofs.YtlgkcpmedjpoaaaW.PrintMore
set_option linter.unusedVariables false
set_option linter.unusedSimpArgs false
theorem jfour_calls (v : Int) (h : 0 ≤ v ∧ v < 4294967296) (w : World) :
    Calls Try.prog 34 #[.int .u32 v] w fun e w' => e = .returned (.slice (some ⟨w.heap.size, 0, none⟩) 4 4) ∧ w' = w.alloc (.cells (numv .u8 (four v)).toArray 5) := by
  obtain ⟨h1, h2⟩ := h
  go_enter Try.func34, Try.ntmps34
  go_wp2
  go_ret
  refine ⟨rfl, ?_⟩
  have e : v / 16777216 % 256 = v / 16777216 := by omega
  simp [numv, four, e]
/-- A row of rows that the call has just built, as the callee takes it. -/
theorem C_rows (w : World) (g : Nat) (ls : List (List Int)) (vs : List Value) (hb : w.heap[g]? = some (.cells vs.toArray 22 (0, 0))) (hl : vs.length = ls.length) (hs : ls.length ≤ 1000)
    (h : ∀ j, j < ls.length → ∃ A c, vs[j]? = some (.slice A (ls.getD j []).length c) ∧ (ls.getD j []).length ≤ c ∧ Kd.C (Kd.int .u8) w A (ls.getD j []).length (ls.getD j [])) :
    Kd.C (Kd.slice 5 (Kd.int .u8)) w (some ⟨g, 0, none⟩) ls.length ls := by
  refine ⟨rfl, by omega, fun hp => ⟨_, rfl, fun j x hx => ?_⟩⟩
  have hj : j < ls.length := (List.getElem?_eq_some_iff.1 hx).1
  obtain ⟨A, c, h1, h2, h3⟩ := h j hj
  have e : ls.getD j [] = x := by rw [List.getD_eq_getElem?_getD, hx]; rfl
  rw [e] at h1 h2 h3
  refine ⟨[.slice A x.length c], rfl, ⟨A, c, rfl, h2, h3⟩, fun i u hu => ?_⟩
  have hi : i = 0 := by have := (List.getElem?_eq_some_iff.1 hu).1; simp at this; exact this
  subst hi
  injection hu with hu
  subst hu
  show w.cell? _ = _
  rw [show j * (Kd.slice 5 (Kd.int .u8)).sz + 0 = j from Nat.mul_one j]
  by_cases hz : j = 0
  · subst hz
    simp [World.cell?, Addr.add, hb, h1]
  · simp [World.cell?, Addr.add, hb, h1, hz]
def journal_Frame.f (l : List Int) : Option (List Int × Option Int) :=
  if (∀ x ∈ l, 0 ≤ x ∧ x < 256) ∧ l.length ≤ 1000000000 then (if 2097152 < l.length then some ([], some 2) else some (fr l, none)) else none
theorem jlen4 (v : Int) : (four v).length = 4 := rfl
theorem jfour_rd (v : Int) (h : 0 ≤ v ∧ v < 4294967296) (w : World) :
    Calls Try.prog 34 #[.int .u32 v] w fun e w' => ∃ A c, e = .returned (.slice A (four v).length c) ∧ Rd w' (.slice A (four v).length c) (numv .u8 (four v)) ∧ Below w.heap.size w w' :=
  (jfour_calls v h w).mono fun e w' ⟨h1, h2⟩ => by
    subst h2
    exact ⟨_, _, h1, Rd.lit w .u8 5 (four v) (by simp [four]), (Below.refl _ _).alloc (Nat.le_refl _) _⟩
theorem C_two (w : World) {A1 A2 : Option Addr} {c1 c2 : Nat} {l1 l2 : List Int} (h1 : Rd w (.slice A1 l1.length c1) (numv .u8 l1)) (h2 : Rd w (.slice A2 l2.length c2) (numv .u8 l2)) :
    Kd.C (Kd.slice 5 (Kd.int .u8)) (w.alloc (.cells #[.slice A1 l1.length c1, .slice A2 l2.length c2] 22)) (some ⟨w.heap.size, 0, none⟩) 2 [l1, l2] := by
  have hb := (Below.refl w.heap.size w).alloc (Nat.le_refl _) (.cells #[.slice A1 l1.length c1, .slice A2 l2.length c2] 22)
  have k1 := C_of_rd (h1.below hb)
  have k2 := C_of_rd (h2.below hb)
  refine C_rows _ w.heap.size [l1, l2] [.slice A1 l1.length c1, .slice A2 l2.length c2] (heap_alloc_new w _) rfl (by simp) fun j hj => ?_
  match j, hj with
  | 0, _ => exact ⟨A1, c1, rfl, k1.2.1, k1.1⟩
  | 1, _ => exact ⟨A2, c2, rfl, k2.2.1, k2.1⟩
theorem C_three (w : World) {A1 A2 A3 : Option Addr} {c1 c2 c3 : Nat} {l1 l2 l3 : List Int} (h1 : Rd w (.slice A1 l1.length c1) (numv .u8 l1)) (h2 : Rd w (.slice A2 l2.length c2) (numv .u8 l2)) (h3 : Rd w (.slice A3 l3.length c3) (numv .u8 l3)) :
    Kd.C (Kd.slice 5 (Kd.int .u8)) (w.alloc (.cells #[.slice A1 l1.length c1, .slice A2 l2.length c2, .slice A3 l3.length c3] 22)) (some ⟨w.heap.size, 0, none⟩) 3 [l1, l2, l3] := by
  have hb := (Below.refl w.heap.size w).alloc (Nat.le_refl _) (.cells #[.slice A1 l1.length c1, .slice A2 l2.length c2, .slice A3 l3.length c3] 22)
  have k1 := C_of_rd (h1.below hb)
  have k2 := C_of_rd (h2.below hb)
  have k3 := C_of_rd (h3.below hb)
  refine C_rows _ w.heap.size [l1, l2, l3] [.slice A1 l1.length c1, .slice A2 l2.length c2, .slice A3 l3.length c3] (heap_alloc_new w _) rfl (by simp) fun j hj => ?_
  match j, hj with
  | 0, _ => exact ⟨A1, c1, rfl, k1.2.1, k1.1⟩
  | 1, _ => exact ⟨A2, c2, rfl, k2.2.1, k2.1⟩
  | 2, _ => exact ⟨A3, c3, rfl, k3.2.1, k3.1⟩
theorem cat_f (ls : List (List Int)) (r : List Int) (h : ls.flatten = r) (hl : r.length ≤ 100000000000000) : slices_Concat_byte_byte.f ls = some r := by
  unfold slices_Concat_byte_byte.f
  rw [h, if_pos hl]
set_option maxHeartbeats 2000000 in
theorem frame_ok (A0 : Option Addr) (c0 : Nat) (l : List Int) (w : World) (ha : Rd w (.slice A0 l.length c0) (numv .u8 l)) (h : B8 l) (hl : (l.length : Int) ≤ 2097152) :
    Calls Try.prog 10 #[.slice A0 l.length c0] w fun e w' => ∃ A c, e = .returned (.tuple #[.slice A (fr l).length c, .nilIface]) ∧ Own w' w.heap.size (.slice A (fr l).length c) (fr l) ∧ Below w.heap.size w w' := by
  have HA := Lib.hid ha
  have HL := Lib.hid (show 0 ≤ (l.length : Int) ∧ (l.length : Int) < 4294967296 by omega)
  have em : (l.length : Int) % 4294967296 = (l.length : Int) := by omega
  have HV := Lib.hid ((four_b8 (l.length : Int)).app h)
  have l4 : ∀ v, (four v).length = 4 := fun _ => rfl
  obtain ⟨z, hz⟩ : ∃ z, z = four (l.length : Int) ++ l := ⟨_, rfl⟩
  obtain ⟨y, hy⟩ : ∃ y, y = fr l := ⟨_, rfl⟩
  obtain ⟨p, hp⟩ : ∃ p, p = four (l.length : Int) := ⟨_, rfl⟩
  have LF : z.length ≤ 3000000 := by rw [hz, List.length_append, l4]; omega
  have LR : y.length ≤ 3000000 := by rw [hy]; simp only [fr, List.length_append, l4]; omega
  have f1 := Lib.hid (cat_f [p, l] z (by rw [hz, hp]; simp) (by omega))
  obtain ⟨q, hq⟩ : ∃ q, q = four (crc z) := ⟨_, rfl⟩
  have f2 := Lib.hid (cat_f [p, q, l] y (by rw [hy, hq, hp, hz]; simp [fr]) (by omega))
  obtain ⟨K, hK⟩ : ∃ K : Nat, K = 100000000 := ⟨_, rfl⟩
  have HV' : B8 z := by rw [hz]; exact HV.out
  have f3 := Lib.hid (sum_spec z HV' (by omega) K (by omega))
  have HK := Lib.hid (crc_bd HV')
  have j1 := Lib.hid (show ∀ W, Calls Try.prog 34 #[.int .u32 (l.length : Int)] W fun e w' => ∃ A c, e = .returned (.slice A p.length c) ∧ Rd w' (.slice A p.length c) (numv .u8 p) ∧ Below W.heap.size W w' from fun W => by rw [hp]; exact jfour_rd _ HL.out W)
  have j2 := Lib.hid (show ∀ W, Calls Try.prog 34 #[.int .u32 (crc z)] W fun e w' => ∃ A c, e = .returned (.slice A q.length c) ∧ Rd w' (.slice A q.length c) (numv .u8 q) ∧ Below W.heap.size W w' from fun W => by rw [hq]; exact jfour_rd _ HK.out W)
  rw [← hy]
  clear hK hz hy hp hq HV HV' LF LR HK
  clear ha h l4
  go_enter Try.func10, Try.ntmps10
  go_wp2_with fail
  refine (j1.out w).mono ?_
  rintro e w1 ⟨A1, c1, rfl, g1, hb⟩
  have H1 := Lib.hid g1
  replace HA := Lib.hid (HA.out.below hb)
  have HB := Lib.hid hb
  clear g1 hb
  have HC := Lib.hid (C_two w1 H1.out HA.out)
  have hb := (Below.refl w1.heap.size w1).alloc (Nat.le_refl _) (.cells #[.slice A1 p.length c1, .slice A0 l.length c0] 22)
  replace H1 := Lib.hid (H1.out.below hb)
  replace HA := Lib.hid (HA.out.below hb)
  replace HB := Lib.hid (HB.out.trans (hb.mono HB.out.size))
  clear hb
  go_wp2_with fail
  refine (slices_Concat_byte_byte.calls _ _ [p, l] _ _ HC.out (Nat.le_refl _) f1.out).mono ?_
  rintro e w2 ⟨v2, rfl, g2, hb⟩
  have H2 := Lib.hid (rd_of_RN g2)
  obtain ⟨A2, c2, rfl⟩ := ownSlice (own_of_RN g2)
  replace H1 := Lib.hid (H1.out.below hb)
  replace HA := Lib.hid (HA.out.below hb)
  replace HB := Lib.hid (HB.out.trans (hb.mono HB.out.size))
  clear g2 hb HC
  go_wp2_with fail
  refine (journal_Sum.calls K _ _ _ _ _ (C_of_rd H2.out).1 (C_of_rd H2.out).2.1 f3.out).mono ?_
  rintro e w3 ⟨rfl, n, rfl⟩
  have hb := (Below.refl w2.heap.size w2).drewN n
  replace H1 := Lib.hid (H1.out.below hb)
  replace HA := Lib.hid (HA.out.below hb)
  replace HB := Lib.hid (HB.out.trans (hb.mono HB.out.size))
  clear hb H2
  go_wp2_with fail
  refine (j2.out _).mono ?_
  rintro e w4 ⟨A4, c4, rfl, g4, hb⟩
  have H4 := Lib.hid g4
  replace H1 := Lib.hid (H1.out.below hb)
  replace HA := Lib.hid (HA.out.below hb)
  replace HB := Lib.hid (HB.out.trans (hb.mono HB.out.size))
  clear g4 hb
  have HC := Lib.hid (C_three w4 H1.out H4.out HA.out)
  have hb := (Below.refl w4.heap.size w4).alloc (Nat.le_refl _) (.cells #[.slice A1 p.length c1, .slice A4 q.length c4, .slice A0 l.length c0] 22)
  replace HB := Lib.hid (HB.out.trans (hb.mono HB.out.size))
  clear hb H1 H4 HA
  go_wp2_with fail
  refine (slices_Concat_byte_byte.calls _ _ [p, q, l] _ _ HC.out (Nat.le_refl _) f2.out).mono ?_
  rintro e w5 ⟨v5, rfl, g5, hb⟩
  have H5 := Lib.hid (Own.mono (base' := w.heap.size) (own_of_RN g5) (by have := HB.out.size; simpa using this))
  obtain ⟨A5, c5, rfl⟩ := ownSlice (own_of_RN g5)
  replace HB := Lib.hid (HB.out.trans (hb.mono HB.out.size))
  clear g5 hb HC
  go_wp2
  go_ret2
  exact ⟨_, _, rfl, H5.out, HB.out⟩
set_option maxHeartbeats 2000000 in
theorem frame_long (A0 : Option Addr) (c0 n : Nat) (w : World) (hl : 2097152 < (n : Int)) :
    Calls Try.prog 10 #[.slice A0 n c0] w fun e w' => e = .returned (.tuple #[.slice none 0 0, .iface 45 (.int .i64 2)]) ∧ w = w' := by
  go_enter Try.func10, Try.ntmps10
  go_wp2
  go_ret2
  exact ⟨rfl, rfl⟩
end Go.Proofs.Ytlgkcpmedjpoaaa.X
