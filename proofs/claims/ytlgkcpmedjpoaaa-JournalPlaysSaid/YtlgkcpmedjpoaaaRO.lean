/- The document's way to open a journal; an error's number. -/
import Derived.Test.YtlgkcpmedjpoaaaRP
namespace Go.Proofs.Ytlgkcpmedjpoaaa.X
open Go.RowKit Go.Proofs.Ytlgkcpmedjpoaaa Go.Proofs.YtlgkcpmedjpoaaaW.PrintWords Go.Proofs.YtlgkcpmedjpoaaaW.PrintLast Go.Proofs.YtlgkcpmedjpoaaaW.PrintMore
set_option linter.unusedVariables false
set_option linter.unusedSimpArgs false
theorem OutL.keeps {B : Nat} {w w' : World} {v : Value} {out : List (List Int)} {S : Nat → Prop} (h : OutL B w v out) (hk : Keeps S w w') (hS : ∀ k, B ≤ k → k < w.heap.size → ¬ S k) : OutL B w' v out := by
  obtain ⟨vs, h1, h2⟩ := h
  exact ⟨vs, own_keeps h1 hk (fun k hk => hS k (own_lo h1 k hk).1 (own_lo h1 k hk).2), fun j hj => by
    obtain ⟨u, e, hu⟩ := h2 j hj
    exact ⟨u, e, own_keeps hu hk (fun k hk => hS k (own_lo hu k hk).1 (own_lo hu k hk).2)⟩⟩
theorem RefAt.below {base g : Nat} {v : Value} {S : DS} {w w' : World} (h : RefAt w base g v S) (hb : Below w.heap.size w w') : RefAt w' base g v S := by
  obtain ⟨⟨bud, h1, h2⟩, ho, hl⟩ := h
  exact ⟨⟨bud, (hb.block g (blkLt h1)).trans h1, h2⟩, own_keeps (S := fun _ => False) ho (Keeps.of_below hb _) (fun _ _ h => h), hl⟩
theorem RefLeft.trans {base g : Nat} {v v' : Value} {S' : DS} {w w1 w2 : World} (h1 : Keeps (fun k => k = g ∨ some k = v.ownBlock) w w1) (hv : v'.ownBlock = v.ownBlock ∨ ∃ k, v'.ownBlock = some k ∧ w.heap.size ≤ k) (h2 : RefLeft base g v' w1 S' w2) : RefLeft base g v w S' w2 := by
  obtain ⟨v2, a2, k2, e2⟩ := h2
  refine ⟨v2, a2, h1.trans k2 (fun _ h => h) (fun i hi h => ?_), ?_⟩
  · rcases h with h | h
    · exact .inl h
    · rcases hv with e | ⟨k, e, hk⟩
      · exact .inr (h.trans e)
      · rw [e] at h
        injection h with h
        omega
  · rcases e2 with e | ⟨k, e, hk⟩
    · rcases hv with e' | ⟨k, e', hk⟩
      · exact .inl (e.trans e')
      · exact .inr ⟨k, e.trans e', hk⟩
    · exact .inr ⟨k, e, Nat.le_trans h1.size hk⟩
def ROpened (base g : Nat) (v : Value) (S : DS) (w : World) (e : Ending) (w' : World) : Prop :=
  ∃ rows, e = .returned (.tuple #[rows, .int .i64 (opE S)]) ∧ RefLeft base g v w (opS S) w' ∧ ((opE S ≠ 0 ∧ rows = .slice none 0 0) ∨ (opE S = 0 ∧ OutL w.heap.size w' rows (jl S.b)))
set_option maxHeartbeats 2000000 in
theorem ropen_calls (base g : Nat) (v : Value) (S : DS) (w : World) (h : RefAt w base g v S) (ho : S.ok) (hst : S.steps < 999999990) (hb0 : base ≤ w.heap.size) (h8 : B8 S.b) (hl : S.b.length ≤ 1000000) :
    Calls Try.prog 26 #[.pointer (some ⟨g, 0, none⟩)] w (ROpened base g v S w) := by
  obtain ⟨Av, cv, rfl⟩ := ownSlice h.own
  obtain ⟨bud, hb, hbud⟩ := h.blk
  have H := Lib.hid h
  have HO := Lib.hid ho
  have HLT := Lib.hid h.lt
  obtain ⟨c0, c1, c2, c3, c4, c5⟩ := hb.cell
  have hnl := jn_le S.b
  have HOL := Lib.hid (fun k hk => (own_lo h.own k hk).2)
  by_cases hf : S.off = true
  · rw [hf] at c2
    have HE := Lib.hid (show opE S = 12 by simp [opE, hf])
    have HS := Lib.hid (show opS S = S by simp [opS, hf])
    clear h hb hbud hf
    go_enter Try.func26, Try.ntmps26
    go_wp2
    go_ret2
    refine ⟨_, by rw [HE.out] <;> rfl, ?_, .inl ⟨by rw [HE.out]; decide, rfl⟩⟩
    rw [HS.out]
    exact .same H.out (Keeps.refl _ _)
  have hf' : S.off = false := by simpa using hf
  rw [hf'] at c2
  have HF := Lib.hid hf'
  have HSC := Lib.hid (rscan_calls Av cv S.b w (Rd.of_own h.own) h8 hl)
  clear h hb hbud hf hf' h8
  go_enter Try.func26, Try.ntmps26
  go_wp2_with fail
  refine HSC.out.mono ?_
  rintro e w1 ⟨v2, rfl, ho2, hb2⟩
  rw [show (scn S.b (S.b.length + 1) [] 0).2 = jn S.b from rfl, show (scn S.b (S.b.length + 1) [] 0).1 = jl S.b from rfl] at *
  obtain ⟨A2, c2', rfl⟩ : ∃ A c, v2 = .slice A (jl S.b).length c := by
    obtain ⟨vs, hv, _⟩ := ho2
    exact ownSlice hv
  have hr1 := H.out.below hb2
  obtain ⟨bud1, hbk1, hbud1⟩ := hr1.blk
  obtain ⟨d0, d1, d2, d3, d4, d5⟩ := hbk1.cell
  have HR1 := Lib.hid hr1
  have HO2 := Lib.hid ho2
  have HB2 := Lib.hid hb2
  have HK1 := Lib.hid (Keeps.of_below hb2 (fun k => k = g ∨ some k = (Value.slice Av S.b.length cv).ownBlock))
  clear hr1 hbk1 hbud1 ho2 hb2 HSC d1 d2 d3 d4 d5
  by_cases hn : jn S.b < S.b.length
  · have hn' : (jn S.b : Int) < (S.b.length : Int) := by omega
    have HT := Lib.hid (rtrim_calls base g _ S w1 HR1.out HO.out (Nat.le_trans hb0 HB2.out.size) (jn S.b))
    by_cases he : S.on = true
    · have HTE := Lib.hid (show S.trimE (jn S.b) = 0 by rw [DS.trimE, if_neg (by simp [HF.out]), if_neg (by omega), if_pos he])
      have HE := Lib.hid (show opE S = (S.trim (jn S.b)).syncE by rw [opE, if_neg (by simp [HF.out]), if_pos hn, if_pos HTE.out])
      have HSS := Lib.hid (show opS S = (S.trim (jn S.b)).sync by rw [opS, if_neg (by simp [HF.out]), if_pos hn, if_pos HTE.out])
      have HOK := Lib.hid (trim_ok HO.out (by omega) (jn S.b) hnl)
      clear hn he
      go_wp2_with fail
      refine HT.out.mono ?_
      rintro e w3 ⟨rfl, v3, hd3, hk3, hv3⟩
      rw [HTE.out]
      have HY := Lib.hid (rsync_calls base g v3 (S.trim (jn S.b)) w3 hd3 HOK.out)
      have HK3 := Lib.hid hk3
      have HV3 := Lib.hid hv3
      clear hd3 hk3 hv3
      go_wp2_with fail
      refine HY.out.mono ?_
      rintro e w4 ⟨he4, hl4⟩
      rw [← HE.out] at he4
      rw [← HSS.out] at hl4
      subst he4
      have HL4 := Lib.hid (RefLeft.trans HK1.out (.inl rfl) (RefLeft.trans HK3.out HV3.out hl4))
      have HO4 := Lib.hid (show OutL w.heap.size w4 (.slice A2 (jl S.b).length c2') (jl S.b) from by
        obtain ⟨v4, _, hk4, _⟩ := RefLeft.trans HK3.out HV3.out hl4
        exact HO2.out.keeps hk4 (fun k h1 h2 h => by
          rcases h with h | h
          · have := HLT.out; omega
          · have := HOL.out k h.symm; omega))
      clear hl4
      by_cases h0 : opE S = 0
      · have hb0 : (opE S != 0) = false := by simp [h0]
        have HE0 := Lib.hid h0
        rw [h0]
        clear h0 hb0
        go_wp2
        go_ret2
        exact ⟨_, by rw [HE0.out] <;> rfl, HL4.out, .inr ⟨HE0.out, HO4.out⟩⟩
      · have hb0 : (opE S != 0) = true := by simpa using h0
        have HE0 := Lib.hid h0
        clear h0
        generalize hx : opE S = x at *
        have HX := Lib.hid hx
        clear hx
        go_wp2
        go_ret2
        exact ⟨_, by rw [HX.out] <;> rfl, HL4.out, .inl ⟨by rw [HX.out]; exact HE0.out, rfl⟩⟩
    · have HTE := Lib.hid (show S.trimE (jn S.b) = 12 by rw [DS.trimE, if_neg (by simp [HF.out]), if_neg (by omega), if_neg he])
      have HE := Lib.hid (show opE S = 12 by rw [opE, if_neg (by simp [HF.out]), if_pos hn, if_neg (by rw [HTE.out]; decide), HTE.out])
      have HSS := Lib.hid (show opS S = S.trim (jn S.b) by rw [opS, if_neg (by simp [HF.out]), if_pos hn, if_neg (by rw [HTE.out]; decide)])
      clear hn he
      go_wp2_with fail
      refine HT.out.mono ?_
      rintro e w3 ⟨rfl, hl3⟩
      rw [HTE.out]
      rw [← HSS.out] at hl3
      have HL3 := Lib.hid (RefLeft.trans HK1.out (.inl rfl) hl3)
      clear hl3
      go_wp2
      go_ret2
      exact ⟨_, by rw [HE.out] <;> rfl, HL3.out, .inl ⟨by rw [HE.out]; decide, rfl⟩⟩
  · have hn' : (S.b.length : Int) ≤ (jn S.b : Int) := by omega
    have HE := Lib.hid (show opE S = 0 by rw [opE, if_neg (by simp [HF.out]), if_neg hn])
    have HSS := Lib.hid (show opS S = S by rw [opS, if_neg (by simp [HF.out]), if_neg hn])
    clear hn
    go_wp2
    go_ret2
    refine ⟨_, by rw [HE.out] <;> rfl, ?_, .inr ⟨HE.out, HO2.out⟩⟩
    rw [HSS.out]
    exact ⟨_, HR1.out, HK1.out, .inl rfl⟩
/-- An error's number. -/
theorem code_calls (n : Int) (h0 : 0 ≤ n) (h1 : n ≤ 15) (w : World) : Calls Try.prog 27 #[errV n] w fun e w' => e = .returned (.int .i64 n) ∧ w = w' := by
  by_cases hz : n = 0
  · subst hz
    rw [show errV 0 = .nilIface from rfl]
    go_enter Try.func27, Try.ntmps27
    go_wp2
    go_ret
    exact ⟨rfl, rfl⟩
  · rw [errV, if_neg hz]
    have ec := eql_code
    have h2 : 1 ≤ n := by omega
    clear hz
    go_enter Try.func27, Try.ntmps27
    go_wp2
    go_loop [3] (fun i => ∃ k : Nat, 1 ≤ k ∧ (k : Int) ≤ n ∧ i = .int .i64 (k : Int)) (fun i => (16 - intOf i).toNat)
    case atStart => exact ⟨1, Nat.le_refl _, by omega, rfl⟩
    case round =>
      obtain ⟨k, hk1, hk2, rfl⟩ := hrel
      by_cases hkn : n = (k : Int)
      · subst hkn
        go_wp2
        go_ret
        exact ⟨rfl, rfl⟩
      · have hb : (n == (k : Int)) = false := by simpa using hkn
        have hlt : (k : Int) < n := by omega
        have hk15 : (k : Int) ≤ 15 := by omega
        clear hkn hk2
        go_wp2
        go_round
        case rel => exact ⟨k + 1, by omega, by omega, by go_num⟩
        case measure => simp [intOf]; omega
end Go.Proofs.Ytlgkcpmedjpoaaa.X
