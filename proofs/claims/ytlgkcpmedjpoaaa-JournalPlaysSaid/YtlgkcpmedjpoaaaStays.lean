/- JournalStays: the law's walk. -/
import Derived.Test.YtlgkcpmedjpoaaaJL
import Derived.Test.YtlgkcpmedjpoaaaMg42
import Derived.Test.YtlgkcpmedjpoaaaScans
namespace Go.Proofs.Ytlgkcpmedjpoaaa.X
open Go.RowKit Go.Proofs.Ytlgkcpmedjpoaaa Go.Proofs.YtlgkcpmedjpoaaaW.PrintWords Go.Proofs.YtlgkcpmedjpoaaaW.PrintLast Go.Proofs.YtlgkcpmedjpoaaaW.PrintMore
set_option linter.unusedVariables false
set_option linter.unusedSimpArgs false
/-- A row of the call's own that a loop writes. -/
def RelI (w0 : World) (v : Value) (base n : Nat) (iv : Value) (wr : World) : Prop := ∃ (i : Nat) (xs : List Int), iv = .int .i64 (i : Int) ∧ i ≤ n ∧ xs.length = n ∧ Own wr base v xs ∧ Keeps (fun k => v.ownBlock = some k) w0 wr
theorem rd_lt {w : World} {v : Value} {xs : List Value} (h : Rd w v xs) (h0 : 0 < xs.length) (k : Nat) (hk : v.ownBlock = some k) : k < w.heap.size := by
  obtain ⟨A, c, rfl, _, _, h3⟩ := h
  obtain ⟨ad, rfl, hb, _⟩ := h3 h0
  simp [Value.ownBlock] at hk
  omega
theorem decide_refl (x : List (List Int)) : decide (x = x) = true := decide_eq_true rfl
theorem same_refl (v1 v2 : Value) (l : List (List Int)) (w : World) (h1 : RdRows .u8 w v1 l) (h2 : RdRows .u8 w v2 l) (b : BB8 l) :
    Calls Try.prog 13 #[v1, v2] w fun e w' => e = .returned (.bool true) ∧ Drawn0 w w' :=
  (same_calls v1 v2 l l w h1 h2 b b).mono fun e w' ⟨h1, h2⟩ => ⟨by rw [h1, decide_refl], h2⟩
set_option maxHeartbeats 8000000 in
set_option maxRecDepth 100000 in
theorem stays_calls (w : World) (A : Option Addr) (c : Nat) (l : List Int) (A2 : Option Addr) (c2 : Nat) (l2 : List Int) (ha : Rd w (.slice A l.length c) (numv .u8 l)) (h8 : B8 l) (ha2 : Rd w (.slice A2 l2.length c2) (numv .u8 l2)) (h28 : B8 l2) :
    Calls Try.prog 5 #[.slice A l.length c, .slice A2 l2.length c2] w fun e w' => e = .returned (.bool true) ∧ Below w.heap.size w w' := by
  have HA := Lib.hid ha
  have HC := Lib.hid ha2
  have H8 := Lib.hid h8
  have H28 := Lib.hid h28
  have HU := Lib.hid (up13_calls w)
  clear ha ha2 h8 h28
  by_cases hl : 5000 < l.length ∨ 5000 < l2.length
  · by_cases h1 : 5000 < l.length
    · have h1' : (5000 : Int) < (l.length : Int) := by omega
      clear hl h1
      go_enter Try.func5, Try.ntmps5
      go_wp2_with fail
      refine HU.out.mono ?_
      rintro e w1 ⟨rfl, hb1⟩
      have HB := Lib.hid hb1
      clear hb1
      go_wp2
      go_ret
      exact ⟨rfl, HB.out⟩
    · have h1' : (l.length : Int) ≤ 5000 := by omega
      have h2' : (5000 : Int) < (l2.length : Int) := by omega
      clear hl h1
      go_enter Try.func5, Try.ntmps5
      go_wp2_with fail
      refine HU.out.mono ?_
      rintro e w1 ⟨rfl, hb1⟩
      have HB := Lib.hid hb1
      clear hb1
      go_wp2
      go_ret
      exact ⟨rfl, HB.out⟩
  have h1' : (l.length : Int) ≤ 5000 := by omega
  have h2' : (l2.length : Int) ≤ 5000 := by omega
  clear hl
  have HJ := Lib.hid (jl_fr l H8.out (by omega))
  have HFL := Lib.hid (frame_len l)
  have HNW := Lib.hid (new_wr l (by omega))
  go_enter Try.func5, Try.ntmps5
  go_wp2_with fail
  refine HU.out.mono ?_
  rintro e w1 ⟨rfl, hb1⟩
  have HB1 := Lib.hid hb1
  clear hb1 HU
  go_wp2_with fail
  refine (new_inv w w1 w.heap.size HB1.out HB1.out.size (fun k => k < w1.heap.size) (fun k h => h)).mono ?_
  rintro e w3 ⟨rfl, hd3, hs3⟩
  have HD3 := Lib.hid hd3
  clear hd3 hs3
  go_wp2_with fail
  refine (open_calls HD3.out (by simp [DS.ok, DS.new]) (by decide) (by intro x hx; simp [DS.new] at hx) (by decide)).mono ?_
  rintro e w4 ⟨jp, rows, he4, hs4, h4⟩
  rw [new_opE, show errV 0 = .nilIface from rfl] at he4
  subst he4
  rcases h4 with ⟨h4, _⟩ | ⟨_, jb, rfl, hjb, hjx, horows, hd4⟩
  · exact absurd new_opE h4
  rw [new_opS] at hd4
  obtain ⟨A4, c4, hrows⟩ := RdRows.len_ horows.rows
  rw [show (jl DS.new.b).length = 0 from rfl] at hrows
  subst hrows
  have HD4 := Lib.hid hd4
  have HJ4 := Lib.hid (show JBox w4 jb w1.heap.size from hjx)
  have HA4 := Lib.hid (HA.out.below hd4.below)
  have HJB := Lib.hid hjb
  generalize hg : w1.heap.size = g at *
  clear hs4 horows hjx hd4 hjb hg
  -- own := append([]byte{}, record...)
  have HM := Lib.hid (Own.made w4 w4.heap.size (Nat.le_refl _))
  have HBA := Lib.hid ((Below.refl w4.heap.size w4).alloc (Nat.le_refl _) (.cells #[] 5))
  have HRA := Lib.hid (HA4.out.below HBA.out)
  have HS := Lib.hid (show ([] : List Int).length + l.length ≤ 140737488355328 by simp; omega)
  go_wp2_with (at_builtin; refine wpList_app8 rfl _ _ rfl w4.heap.size _ [] (by rfl) HM.out _ l (by rfl) HRA.out HS.out (by simp) ?_)
  intro A5 m5 c5 w5 hm5 ho5 hk5 _ _
  have hm5' : m5 = l.length := by have := hm5; (try simp at this); exact this
  subst hm5'
  have ho5' : Own w5 w4.heap.size (.slice A5 l.length c5) l := ho5
  have hb5 := hk5 w4.heap.size w4 (Nat.le_refl _) HBA.out
  have HO5 := Lib.hid ho5'
  have HD5 := Lib.hid (HD4.out.made hb5)
  have HJ5 := Lib.hid (HJ4.out.below hb5)
  have HL4 := Lib.hid (show ∀ k, (Value.slice A5 l.length c5).ownBlock = some k → w4.heap.size ≤ k ∧ k < w5.heap.size from fun k hk => ho5'.lo k hk)
  clear hm5 ho5 ho5' hk5 hb5 HM HBA HRA HS
  go_wp2_with fail
  refine (write_calls HD5.out (by simp [DS.ok, DS.new]) (by decide) HJ5.out (.inl (.inr rfl)) _ _ _ l HO5.out.rd H8.out).mono ?_
  rintro e w6 ⟨rfl, hd6, hs6⟩
  rw [HNW.out.1, show errV 0 = .nilIface from rfl]
  rw [HNW.out.2] at hd6
  have HD6 := Lib.hid hd6
  have HO6 := Lib.hid (show Own w6 w4.heap.size (.slice A5 l.length c5) l from own_keeps (S := fun k => ¬ (w4.heap.size ≤ k ∧ k < w5.heap.size)) HO5.out ⟨hd6.below.os.trans HD5.out.below.os.symm, hd6.below.tape.trans HD5.out.below.tape.symm, hd6.below.output.trans HD5.out.below.output.symm, hs6.1, fun i hi hn => hs6.2 i (.inr (Classical.not_not.1 hn))⟩ (fun k hk h => h (HL4.out k hk)))
  have HS6 := Lib.hid hs6.1
  clear hd6 hs6 HO5 HD5 HJ5
  -- Frame(own)
  go_wp2_with fail
  refine (frame_ok A5 c5 l w6 HO6.out.rd H8.out (by omega)).mono ?_
  rintro e w7 ⟨A7, c7, rfl, ho7, hb7⟩
  have HD7 := Lib.hid (HD6.out.made hb7)
  have HO7 := Lib.hid (HO6.out.below hb7)
  have HF7 := Lib.hid ho7
  have HA7 := Lib.hid (HA.out.below HD7.out.below)
  have hst1 := Rd.str_ HO7.out.rd
  have hst2 := Rd.str_ HA7.out
  clear ho7 hb7 HO6
  go_wp2_with fail
  clear hst1 hst2
  go_loopw [15] (fun i wr => RelI w7 (.slice A5 l.length c5) w4.heap.size l.length i wr) (fun i _ => l.length - (intOf i).toNat)
  case atStart => exact ⟨0, l, rfl, Nat.zero_le _, rfl, HO7.out, Keeps.refl _ _⟩
  case round =>
    obtain ⟨i, xs, rfl, hi, hxl, hox, hkx⟩ := hrel
    rename World => w8
    by_cases hlt : i < l.length
    · obtain ⟨g5, rfl, hg5, hcell, hfr, hset⟩ := hox.set i hlt
      have HSET := Lib.hid hset
      have HKX := Lib.hid hkx
      have HXL := Lib.hid hxl
      have hlt' : (i : Int) < (l.length : Int) := by omega
      generalize xs.getD i 0 = y at *
      clear hset hox hkx hxl hlt
      go_wp2
      go_roundw
      case rel => exact ⟨i + 1, _, by go_num, by omega, by rw [List.length_set]; exact HXL.out, HSET.out _, HKX.out.setCell _ _ (fun _ => rfl)⟩
      case measure => simp [intOf]; omega
    have hge : (l.length : Int) ≤ (i : Int) := by omega
    have HB48 := Lib.hid (show w.heap.size ≤ w4.heap.size from HD4.out.below.size)
    have HD8 := Lib.hid (HD7.out.move (T' := fun k => (k < g ∨ k = jb) ∨ (w6.heap.size ≤ k ∧ k < w7.heap.size)) hkx (fun k hk => .inl (.inr (HL4.out k hk))) (fun k hk => by
      have h1 : ((k < g ∨ k = jb) ∨ (w4.heap.size ≤ k ∧ k < w5.heap.size)) ∨ (w6.heap.size ≤ k ∧ k < w7.heap.size) := by
        rcases hk with hk | hk
        · exact .inl (.inl hk)
        · exact .inr hk
      exact ⟨.inl h1, Nat.lt_of_lt_of_le (HD7.out.lts k h1) hkx.size⟩) (fun k hk => Nat.le_trans HB48.out (HL4.out k hk).1))
    have HF8 := Lib.hid (show Own w8 w6.heap.size (.slice A7 (fr l).length c7) (fr l) from own_keeps HF7.out hkx (fun k hk h => by
      have h1 := (HF7.out.lo k hk).1
      have h2 := (HL4.out k h).2
      have h3 := HS6.out
      omega))
    have HA8 := Lib.hid (HA.out.below HD8.out.below)
    have HL7 := Lib.hid (show ∀ k, (Value.slice A7 (fr l).length c7).ownBlock = some k → w6.heap.size ≤ k ∧ k < w7.heap.size from fun k hk => HF7.out.lo k hk)
    clear hox hkx hxl hlt hi HD7 HO7 HF7 HA7 HS6 HL4 HD6 HD4 HJ4 HA4
    -- Frame(record)
    go_wp2_with fail
    refine (frame_ok A c l w8 HA8.out H8.out (by omega)).mono ?_
    rintro e w9 ⟨A9, c9, rfl, ho9, hb9⟩
    have HD9 := Lib.hid (HD8.out.made hb9)
    have HL9 := Lib.hid (show ∀ k, (Value.slice A9 (fr l).length c9).ownBlock = some k → w8.heap.size ≤ k ∧ k < w9.heap.size from fun k hk => ho9.lo k hk)
    have HF9 := Lib.hid (HF8.out.rd.below hb9)
    have HG9 := Lib.hid ho9.rd
    clear ho9 hb9 HD8 HF8 HA8
    -- Open(d)
    have HOE := Lib.hid (show opE ⟨fr l, (fr l).length, false, 2, 0⟩ = 0 by simp [opE, HJ.out.2])
    have HOS := Lib.hid (show opS ⟨fr l, (fr l).length, false, 2, 0⟩ = ⟨fr l, (fr l).length, false, 2, 0⟩ by simp [opS, HJ.out.2])
    go_wp2_with fail
    refine (open_calls HD9.out (by have := HFL.out; exact ⟨⟨by simp, by simp⟩, ⟨by simp, by simp⟩, by simp only; omega, by simp only; omega, by simp⟩) (by simp) (fr_b8 H8.out) (by have := HFL.out; simp only; omega)).mono ?_
    rintro e w10 ⟨jp, rows, he10, hs10, h10⟩
    rw [HOE.out, show errV 0 = .nilIface from rfl] at he10
    subst he10
    rcases h10 with ⟨h10, _⟩ | ⟨_, jb2, rfl, hjb2, hjx2, horows2, hd10⟩
    · exact absurd HOE.out h10
    rw [HJ.out.1] at horows2
    obtain ⟨A10, c10, hrows⟩ := RdRows.len_ horows2.rows
    subst hrows
    have hb10 : Below w.heap.size w w10 := hd10.below
    have HB10 := Lib.hid hb10
    have HR10 := Lib.hid horows2.rows
    obtain ⟨ad, Bd, d, rfl, hcell, hrd⟩ := RdRows.at_ horows2.rows 0 (by simp)
    rw [show ([l] : List (List Int)).getD 0 [] = l from rfl] at hcell hrd
    have hst1 : ∀ q, (convert 22 9 (.slice Bd l.length d)).run Try.prog (w10.drewN q) = .ok (.string (strOfNums l)) (w10.drewN q) := fun q => Rd.str_ (hrd.drewN q)
    have HA10 := Lib.hid (HA.out.below hb10)
    have hst2 : ∀ q, (convert 22 9 (.slice A l.length c)).run Try.prog (w10.drewN q) = .ok (.string (strOfNums l)) (w10.drewN q) := fun q => Rd.str_ (HA10.out.drewN q)
    have hc0 : w10.cell? ad = some (.slice Bd l.length d) := by
      have := hcell
      rw [show ad.add 0 = ad from rfl] at this
      exact this
    have HF10 := Lib.hid (HF9.out.stay hs10 (fun k hk => .inl (.inr (HL7.out k hk))))
    have HG10 := Lib.hid (HG9.out.stay hs10 (fun k hk => .inr (HL9.out k hk)))
    clear hcell hrd hs10 hjb2 hjx2 horows2 hd10 HD9 HF9 HG9 HL7 HL9
    clear hb10
    rw [show ([l] : List (List Int)).length = 1 from rfl]
    go_wp2_with fail
    go_quiet (fail)
    have HF11 := Lib.hid (HF10.out.drewN nq)
    have HG11 := Lib.hid (HG10.out.drewN nq)
    have HB11 := Lib.hid (HB10.out.drewN nq)
    clear hst1 hst2 hc0 HA10 HF10 HG10 HB10 HR10
    generalize w10.drewN nq = w11 at *
    have HC11 := Lib.hid (HC.out.below HB11.out)
    -- raw
    have HM := Lib.hid (Own.made w11 w11.heap.size (Nat.le_refl _))
    have HBA := Lib.hid ((Below.refl w11.heap.size w11).alloc (Nat.le_refl _) (.cells #[] 5))
    have HRA := Lib.hid (HC11.out.below HBA.out)
    have HS := Lib.hid (show ([] : List Int).length + l2.length ≤ 140737488355328 by simp; omega)
    go_wp2_with (at_builtin; refine wpList_app8 rfl _ _ rfl w11.heap.size _ [] (by rfl) HM.out _ l2 (by rfl) HRA.out HS.out (by simp) ?_)
    intro A12 m12 c12 w12 hm12 ho12 hk12 _ _
    have hm12' : m12 = l2.length := by have := hm12; (try simp at this); exact this
    subst hm12'
    have ho12' : Own w12 w11.heap.size (.slice A12 l2.length c12) l2 := ho12
    have HB12 := Lib.hid (hk12 w11.heap.size w11 (Nat.le_refl _) HBA.out)
    have HO12 := Lib.hid ho12'
    have HL12 := Lib.hid (show ∀ k, (Value.slice A12 l2.length c12).ownBlock = some k → w11.heap.size ≤ k ∧ k < w12.heap.size from fun k hk => ho12'.lo k hk)
    clear hm12 ho12 ho12' hk12 HM HBA HRA HS
    go_wp2_with fail
    refine (jscan_calls A12 c12 l2 w12 HO12.out.rd H28.out (by omega)).mono ?_
    rintro e w13 ⟨v13, rfl, ho13, hb13⟩
    rw [show (scn l2 (l2.length + 1) [] 0).2 = jn l2 from rfl]
    rw [show (scn l2 (l2.length + 1) [] 0).1 = jl l2 from rfl] at ho13
    have HX13 := Lib.hid ho13
    have HO13 := Lib.hid (HO12.out.below hb13)
    have HB13 := Lib.hid (HB12.out.trans (hb13.mono HB12.out.size))
    have HL13 := Lib.hid (show ∀ k, (Value.slice A12 l2.length c12).ownBlock = some k → w11.heap.size ≤ k ∧ k < w12.heap.size from HL12.out)
    have HC13 := Lib.hid (HC11.out.below HB13.out)
    have hst1 := Rd.str_ HO13.out.rd
    have hst2 := Rd.str_ HC13.out
    clear ho13 hb13 HO12
    go_wp2_with fail
    clear hst1 hst2
    go_loopw [25] (fun i wr => RelI w13 (.slice A12 l2.length c12) w11.heap.size l2.length i wr) (fun i _ => l2.length - (intOf i).toNat)
    case atStart => exact ⟨0, l2, rfl, Nat.zero_le _, rfl, HO13.out, Keeps.refl _ _⟩
    case round =>
      obtain ⟨i2, xs2, rfl, hi2, hxl2, hox2, hkx2⟩ := hrel
      rename World => w14
      by_cases hlt2 : i2 < l2.length
      · obtain ⟨g12, rfl, hg12, hcell2, hfr2, hset2⟩ := hox2.set i2 hlt2
        have HSET := Lib.hid hset2
        have HKX := Lib.hid hkx2
        have HXL := Lib.hid hxl2
        have hlt' : (i2 : Int) < (l2.length : Int) := by omega
        generalize xs2.getD i2 0 = y at *
        clear hset2 hox2 hkx2 hxl2 hlt2
        go_wp2
        go_roundw
        case rel => exact ⟨i2 + 1, _, by go_num, by omega, by rw [List.length_set]; exact HXL.out, HSET.out _, HKX.out.setCell _ _ (fun _ => rfl)⟩
        case measure => simp [intOf]; omega
      have hge2 : (l2.length : Int) ≤ (i2 : Int) := by omega
      have HB14 := Lib.hid (HB13.out.trans (Below.mono (hkx2.below (B := w11.heap.size) HB13.out.size (fun k hk => (HL13.out k hk).1)) (Nat.le_refl _)))
      have HX14 := Lib.hid (show RdRows .u8 w14 v13 (jl l2) from OutL.rows (B := w12.heap.size) (by
        obtain ⟨vs, e1, e2⟩ := HX13.out
        exact ⟨vs, own_keeps e1 hkx2 (fun k hk h => by
          have h1 := (own_lo e1 k hk).1
          have h2 := (HL13.out k h).2
          omega), fun j hj => by
          obtain ⟨u, e3, hu⟩ := e2 j hj
          exact ⟨u, e3, own_keeps hu hkx2 (fun k hk h => by
            have h1 := (own_lo hu k hk).1
            have h2 := (HL13.out k h).2
            omega)⟩⟩))
      have HF14 := Lib.hid (HF11.out.below HB14.out)
      have HG14 := Lib.hid (HG11.out.below HB14.out)
      have HC14 := Lib.hid (HC11.out.below HB14.out)
      clear hkx2 hox2 hxl2 hlt2 hi2 HX13 HO13 HL13 HB12 HB13 HC11 HC13 HF11 HG11 HL12
      go_wp2_with fail
      refine (jscan_calls A2 c2 l2 w14 HC14.out H28.out (by omega)).mono ?_
      rintro e w15 ⟨v15, rfl, ho15, hb15⟩
      rw [show (scn l2 (l2.length + 1) [] 0).2 = jn l2 from rfl]
      rw [show (scn l2 (l2.length + 1) [] 0).1 = jl l2 from rfl] at ho15
      have HB15 := Lib.hid (HB11.out.trans ((HB14.out.trans (hb15.mono HB14.out.size)).mono HB11.out.size))
      have HS15 := Lib.hid (same_refl v13 v15 (jl l2) w15 (HX14.out.below hb15) ho15.rows (jl_b8 H28.out))
      have hst1 := Rd.str_ (HF14.out.below hb15)
      have hst2 := Rd.str_ (HG14.out.below hb15)
      clear ho15 hb15
      generalize fr l = y at *
      go_wp2_with fail
      refine HS15.out.mono ?_
      rintro e w16 ⟨rfl, hd16⟩
      obtain ⟨q, hq⟩ := hd16.out
      have HB16 := Lib.hid (show Below w.heap.size w w16 by rw [hq]; exact HB15.out.drewN q)
      clear hd16 hq
      go_wp2
      go_ret
      exact ⟨rfl, HB16.out⟩
end Go.Proofs.Ytlgkcpmedjpoaaa.X
