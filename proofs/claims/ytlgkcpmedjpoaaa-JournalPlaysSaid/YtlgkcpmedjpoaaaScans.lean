/- JournalScans: the law's walk. -/
import Derived.Test.YtlgkcpmedjpoaaaMg42
namespace Go.Proofs.Ytlgkcpmedjpoaaa.X
open Go.RowKit Go.Proofs.Ytlgkcpmedjpoaaa Go.Proofs.YtlgkcpmedjpoaaaW.PrintWords Go.Proofs.YtlgkcpmedjpoaaaW.PrintLast Go.Proofs.YtlgkcpmedjpoaaaW.PrintMore
set_option linter.unusedVariables false
set_option linter.unusedSimpArgs false
theorem rsum_rd {A : Option Addr} {c : Nat} {l : List Int} (w : World) (ha : Rd w (.slice A l.length c) (numv .u8 l)) (h : B8 l) (hl : l.length ≤ 1000000000000) :
    Calls Try.prog 15 #[.slice A l.length c] w fun e w' => e = .returned (.int .u32 (crc l)) ∧ Drawn0 w w' :=
  treenailref13_Sum.calls (10 * l.length + 1) A c l (crc l) w (C_of_rd ha).1 (C_of_rd ha).2.1 (rsum_spec l h (by omega) _ (by omega))
theorem scn_b8 (l : List Int) (h : B8 l) : ∀ (f : Nat) (out : List (List Int)) (a : Nat), BB8 out → BB8 (scn l f out a).1 := by
  intro f
  induction f with
  | zero => intro out a ho; exact ho
  | succ f ih =>
    intro out a ho
    rw [scn]
    split
    · split
      · exact ho
      · split
        · refine ih _ _ ?_
          intro x hx
          rcases List.mem_append.1 hx with hx | hx
          · exact ho x hx
          · rw [List.mem_singleton] at hx
            subst hx
            exact (h.drop _).take _
        · exact ho
    · exact ho
theorem jl_b8 {l : List Int} (h : B8 l) : BB8 (jl l) := scn_b8 l h _ _ _ (by intro x hx; simp at hx)
set_option maxHeartbeats 4000000 in
set_option maxRecDepth 100000 in
theorem scans_calls (w : World) (A : Option Addr) (c : Nat) (l : List Int) (ha : Rd w (.slice A l.length c) (numv .u8 l)) (h8 : B8 l) :
    Calls Try.prog 3 #[.slice A l.length c] w fun e w' => e = .returned (.bool true) ∧ Below w.heap.size w w' := by
  have HA := Lib.hid ha
  have HU := Lib.hid (up13_calls w)
  clear ha
  by_cases hl : 20000 < l.length
  · have hl' : (20000 : Int) < (l.length : Int) := by omega
    clear hl
    go_enter Try.func3, Try.ntmps3
    go_wp2_with fail
    refine HU.out.mono ?_
    rintro e w1 ⟨rfl, hb1⟩
    have HB := Lib.hid hb1
    clear hb1
    go_wp2
    go_ret
    exact ⟨rfl, HB.out⟩
  have hl' : (l.length : Int) ≤ 20000 := by omega
  have H8 := Lib.hid h8
  have HFL := Lib.hid (show (fr l).length ≤ 30000 by rw [frame_len]; omega)
  clear hl h8
  go_enter Try.func3, Try.ntmps3
  go_wp2_with fail
  refine HU.out.mono ?_
  rintro e w1 ⟨rfl, hb1⟩
  have HA1 := Lib.hid (HA.out.below hb1)
  have HB1 := Lib.hid hb1
  clear hb1 HU
  go_wp2_with fail
  refine (frame_ok A c l w1 HA1.out H8.out (by omega)).mono ?_
  rintro e w2 ⟨A2, c2, rfl, ho2, hb2⟩
  have HF2 := Lib.hid ho2.rd
  have HA2 := Lib.hid (HA1.out.below hb2)
  have HB2 := Lib.hid (HB1.out.trans (hb2.mono HB1.out.size))
  clear ho2 hb2
  go_wp2_with fail
  refine (jscan_calls A c l w2 HA2.out H8.out (by omega)).mono ?_
  rintro e w3 ⟨v3, rfl, ho3, hb3⟩
  rw [show (scn l (l.length + 1) [] 0).2 = jn l from rfl]
  have HO3 := Lib.hid ho3.rows
  have HA3 := Lib.hid (HA2.out.below hb3)
  have HF3 := Lib.hid (HF2.out.below hb3)
  have HB3 := Lib.hid (HB2.out.trans (hb3.mono HB2.out.size))
  clear ho3 hb3
  go_wp2_with fail
  refine (rscan_calls A c l w3 HA3.out H8.out (by omega)).mono ?_
  rintro e w4 ⟨v4, rfl, ho4, hb4⟩
  rw [show (scn l (l.length + 1) [] 0).2 = jn l from rfl]
  have HO4 := Lib.hid ho4.rows
  have HO3b := Lib.hid (HO3.out.below hb4)
  have HA4 := Lib.hid (HA3.out.below hb4)
  have HF4 := Lib.hid (HF3.out.below hb4)
  have HB4 := Lib.hid (HB3.out.trans (hb4.mono HB3.out.size))
  clear ho4 hb4
  go_wp2_with fail
  refine (same_calls v3 v4 (jl l) (jl l) w4 HO3b.out HO4.out (jl_b8 H8.out) (jl_b8 H8.out)).mono ?_
  rintro e w5 ⟨rfl, hd5⟩
  obtain ⟨q, hq⟩ := hd5.out
  have HA5 := Lib.hid (show Rd w5 (.slice A l.length c) (numv .u8 l) by rw [hq]; exact HA4.out.drewN q)
  have HF5 := Lib.hid (show Rd w5 (.slice A2 (fr l).length c2) (numv .u8 (fr l)) by rw [hq]; exact HF4.out.drewN q)
  have HB5 := Lib.hid (show Below w.heap.size w w5 by rw [hq]; exact HB4.out.drewN q)
  have hdt : decide (jl l = jl l) = true := decide_eq_true rfl
  rw [hdt]
  clear hd5 hq hdt HO3 HO4 HO3b HA1 HA2 HA3 HA4 HF2 HF3 HF4 HB1 HB2 HB3 HB4
  have HS1 := Lib.hid (show ∀ W, Below w5.heap.size w5 W → Calls Try.prog 14 #[.slice A l.length c] W fun e w' => e = .returned (.int .u32 (crc l)) ∧ Drawn0 W w' from fun W hW => jsum_rd W (HA5.out.below hW) H8.out (by omega))
  have HS2 := Lib.hid (show ∀ W, Below w5.heap.size w5 W → Calls Try.prog 15 #[.slice A l.length c] W fun e w' => e = .returned (.int .u32 (crc l)) ∧ Drawn0 W w' from fun W hW => rsum_rd W (HA5.out.below hW) H8.out (by omega))
  have HS3 := Lib.hid (show ∀ W, Below w5.heap.size w5 W → Calls Try.prog 16 #[.slice A l.length c] W (MadeF w5 W (fr l)) from fun W hW => by
    refine (rframe_rd 40000000 W (HA5.out.below hW) H8.out (by omega) (by omega)).mono ?_
    rintro e w' ⟨A', c', rfl, hrd, hb⟩
    exact ⟨A', _, c', rfl, fun w'' h => Rd.str_ (hrd.below h), Below.refl _ _, hW.trans (hb.mono hW.size)⟩)
  have hcy : ∀ W, Below w5.heap.size w5 W → (convert 22 9 (.slice A2 (fr l).length c2)).run Try.prog W = .ok (.string (strOfNums (fr l))) W := fun W hW => Rd.str_ (HF5.out.below hW)
  have hbd : Below w5.heap.size w5 w5.drew := (Below.refl _ _).drew
  have hb0 : Below w5.heap.size w5 w5 := Below.refl _ _
  generalize crc l = cc at *
  generalize jn l = m at *
  generalize hy : fr l = y at *
  clear hy
  go_wp2_with fail
  go_region_held (fun W => Below w5.heap.size w5 W)
    (first | assumption | (apply Below.drewN; assumption) | (apply Below.drewN; apply Below.drewN; assumption))
    (first
    | (go_at_call 14; go_fit (HS1.out _ (by first | assumption | (apply Below.drewN; assumption) | (apply Below.drewN; apply Below.drewN; assumption))); rintro e wa ⟨rfl, ka, rfl⟩)
    | (go_at_call 15; go_fit (HS2.out _ (by first | assumption | (apply Below.drewN; assumption) | (apply Below.drewN; apply Below.drewN; assumption))); rintro e wa ⟨rfl, kb, rfl⟩)
    | (go_at_call 16; go_fit (HS3.out _ (by first | assumption | (apply Below.drewN; assumption) | (apply Below.drewN; apply Below.drewN; assumption))); rintro e wc ⟨Ac, nc, cc, rfl, hsc, hrc, hbc⟩))
  all_goals
    go_wp2
    go_ret
    exact ⟨rfl, HB5.out.trans (Below.mono (by assumption) HB5.out.size)⟩
end Go.Proofs.Ytlgkcpmedjpoaaa.X
