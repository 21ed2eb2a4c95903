/- journal.Open, (*Journal).Write, walked: a disk's records; what they leave. -/
import Derived.Test.YtlgkcpmedjpoaaaJQ
import Derived.Test.YtlgkcpmedjpoaaaDiskI
namespace Go.Proofs.Ytlgkcpmedjpoaaa.X
open Go.RowKit Go.Proofs.Ytlgkcpmedjpoaaa Go.Proofs.YtlgkcpmedjpoaaaW.PrintWords Go.Proofs.YtlgkcpmedjpoaaaW.PrintLast Go.Proofs.YtlgkcpmedjpoaaaW.PrintMore
set_option linter.unusedVariables false
set_option linter.unusedSimpArgs false
/-- The records of bytes; where they end. -/
def jl (b : List Int) : List (List Int) := (scn b (b.length + 1) [] 0).1
def jn (b : List Int) : Nat := (scn b (b.length + 1) [] 0).2
theorem jn_le (b : List Int) : jn b ≤ b.length := scn_at b _ _ _ (Nat.zero_le _)
def opE (S : DS) : Int := if S.off then 12 else if jn S.b < S.b.length then (if S.trimE (jn S.b) = 0 then (S.trim (jn S.b)).syncE else S.trimE (jn S.b)) else 0
def opS (S : DS) : DS := if S.off then S else if jn S.b < S.b.length then (if S.trimE (jn S.b) = 0 then (S.trim (jn S.b)).sync else S.trim (jn S.b)) else S
def wrE (S : DS) (ys : List Int) : Int := if 2097152 < ys.length then 2 else if S.appE (fr ys) = 0 then (S.app (fr ys)).syncE else S.appE (fr ys)
def wrS (S : DS) (ys : List Int) : DS := if 2097152 < ys.length then S else if S.appE (fr ys) = 0 then (S.app (fr ys)).sync else S.app (fr ys)
theorem _root_.Go.Proofs.Ytlgkcpmedjpoaaa.DInv.lts {w : World} {B g : Nat} {S : DS} {T : Nat → Prop} {wr : World} (h : DInv w B g S T wr) : ∀ k, T k → k < wr.heap.size := by
  obtain ⟨v, _, _, ht⟩ := h
  exact fun k hk => (ht k hk).1
/-- A call that only makes memory: its blocks are none of the disk's. -/
theorem _root_.Go.Proofs.Ytlgkcpmedjpoaaa.DInv.made {w : World} {B g : Nat} {S : DS} {T : Nat → Prop} {wr w' : World} (h : DInv w B g S T wr) (hb : Below wr.heap.size wr w') : DInv w B g S (fun k => T k ∨ (wr.heap.size ≤ k ∧ k < w'.heap.size)) w' :=
  h.move (Keeps.of_below hb (fun _ => False)) (fun _ h => h.elim) (fun k hk => by
    rcases hk with hk | hk
    · exact ⟨.inl hk, Nat.lt_of_lt_of_le (h.lts k hk) hb.size⟩
    · exact ⟨.inr hk.1, hk.2⟩) (fun _ h => h.elim)
theorem _root_.Go.Proofs.Ytlgkcpmedjpoaaa.DInv.mono {w : World} {B g : Nat} {S : DS} {T T' : Nat → Prop} {wr : World} (h : DInv w B g S T wr) (hT : ∀ k, T' k → T k) : DInv w B g S T' wr := by
  obtain ⟨v, hd, hb, ht⟩ := h
  exact ⟨v, hd, hb, fun k hk => ht k (hT k hk)⟩
theorem _root_.Go.Proofs.Ytlgkcpmedjpoaaa.Stay.of_below {T : Nat → Prop} {wr w' : World} (hb : Below wr.heap.size wr w') (hT : ∀ k, T k → k < wr.heap.size) : Stay T wr w' := ⟨hb.size, fun k hk => hb.block k (hT k hk)⟩
theorem _root_.Go.Proofs.Ytlgkcpmedjpoaaa.Stay.trans {T U : Nat → Prop} {a b c : World} (h : Stay T a b) (k : Stay U b c) (hT : ∀ i, T i → U i) : Stay T a c := ⟨Nat.le_trans h.1 k.1, fun i hi => (k.2 i (hT i hi)).trans (h.2 i hi)⟩
theorem _root_.Go.Proofs.Ytlgkcpmedjpoaaa.Stay.refl (T : Nat → Prop) (w : World) : Stay T w w := ⟨Nat.le_refl _, fun _ _ => rfl⟩
theorem OutL.stay {B : Nat} {w w' : World} {v : Value} {out : List (List Int)} {T : Nat → Prop} (h : OutL B w v out) (hs : Stay T w w') (hT : ∀ k, B ≤ k → k < w.heap.size → T k) : OutL B w' v out := by
  have hm : ∀ {e : TypeId} {u : Value} {n : Nat} {xs : List Value}, w.ownsRow B e 1 u n xs → w'.ownsRow B e 1 u n xs := by
    intro e u n xs hu
    refine ⟨hu.1, ?_⟩
    rcases hu.2 with hn | ⟨g, cap, cur, rfl, hb, hg, r⟩
    · exact .inl hn
    · exact .inr ⟨g, cap, cur, rfl, hb, (hs.2 g (hT g hb (blkLt hg))).trans hg, r⟩
  obtain ⟨vs, h1, h2⟩ := h
  exact ⟨vs, hm h1, fun j hj => by
    obtain ⟨u, e, hu⟩ := h2 j hj
    exact ⟨u, e, hm hu⟩⟩
theorem OutL.mono {B B' : Nat} {w : World} {v : Value} {out : List (List Int)} (h : OutL B w v out) (hB : B' ≤ B) : OutL B' w v out := by
  have hm : ∀ {e : TypeId} {u : Value} {n : Nat} {xs : List Value}, w.ownsRow B e 1 u n xs → w.ownsRow B' e 1 u n xs := by
    intro e u n xs hu
    refine ⟨hu.1, ?_⟩
    rcases hu.2 with hn | ⟨g, cap, cur, rfl, hb, r⟩
    · exact .inl hn
    · exact .inr ⟨g, cap, cur, rfl, Nat.le_trans hB hb, r⟩
  obtain ⟨vs, h1, h2⟩ := h
  exact ⟨vs, hm h1, fun j hj => by
    obtain ⟨u, e, hu⟩ := h2 j hj
    exact ⟨u, e, hm hu⟩⟩
theorem trim_ok {S : DS} (ho : S.ok) (hs : S.steps < 999999999) (n : Nat) (hn : n ≤ S.b.length) : (S.trim n).ok := by
  obtain ⟨h1, h2, h3, h4, h5⟩ := ho
  have hl := step_left S h2.1
  have e1 := step_steps S
  have e2 := step_b S
  have e3 := step_synced S
  unfold DS.trim
  split
  · exact ⟨h1, h2, h3, h4, h5⟩
  · split
    · exact ⟨h1, h2, h3, h4, h5⟩
    · split
      · refine ⟨by simp only [e1]; omega, by simp only; omega, by simp only [List.length_take]; omega, by simp only; omega, ?_⟩
        simp only [List.length_take, Int.toNat_natCast]
        omega
      · exact ⟨by rw [e1]; omega, by omega, by rw [e2]; exact h3, by rw [e3]; exact h4, by rw [e3, e2]; exact h5⟩
theorem app_ok {S : DS} (ho : S.ok) (hs : S.steps < 999999999) (ys : List Int) : (S.app ys).ok := by
  obtain ⟨h1, h2, h3, h4, h5⟩ := ho
  have hl := step_left S h2.1
  have e1 := step_steps S
  have e3 := step_synced S
  unfold DS.app
  split
  · exact ⟨h1, h2, h3, h4, h5⟩
  · split
    · exact ⟨h1, h2, h3, h4, h5⟩
    · exact ⟨by simp only [e1]; omega, by simp only; omega, by simp only [List.length_append]; omega, by simp only [e3]; omega, by simp only [e3, List.length_append]; omega⟩
theorem _root_.Go.Proofs.Ytlgkcpmedjpoaaa.DInv.boxed {w : World} {B g : Nat} {S : DS} {T U : Nat → Prop} {wr : World} (h : DInv w B g S (fun k => T k ∨ U k) wr) (o : Obj) : DInv w B g S (fun k => T k ∨ k = wr.heap.size) (wr.alloc o) := by
  refine h.move (S' := fun _ => False) ((Keeps.refl _ _).alloc o) (fun _ h => h.elim) (fun k hk => ?_) (fun _ h => h.elim)
  rcases hk with hk | hk
  · exact ⟨.inl (.inl hk), by have := h.lts k (.inl hk); simp; omega⟩
  · exact ⟨.inr (by omega), by simp; omega⟩
theorem open_nil (w : World) : Calls Try.prog 19 #[.pointer none] w fun e w' => e = .returned (.tuple #[.pointer none, .slice none 0 0, .iface 45 (.int .i64 1)]) ∧ w = w' := by
  go_enter Try.func19, Try.ntmps19
  go_wp2
  refine bodyPost_ret (v := .tuple #[.pointer none, .slice none 0 0, .iface 45 (.int .i64 1)]) (by simp [results, Try.results19, go_sem]) rfl ⟨rfl, rfl⟩
def Opened (w : World) (B g : Nat) (S : DS) (T : Nat → Prop) (wr : World) (e : Ending) (w' : World) : Prop :=
  ∃ jp rows, e = .returned (.tuple #[jp, rows, errV (opE S)]) ∧ Stay T wr w' ∧
    ((opE S ≠ 0 ∧ jp = .pointer none ∧ rows = .slice none 0 0 ∧ DInv w B g (opS S) T w') ∨
     (opE S = 0 ∧ ∃ jb, jp = .pointer (some ⟨jb, 0, none⟩) ∧ wr.heap.size ≤ jb ∧ w'.heap[jb]? = some (.cells #[.pointer (some ⟨g, 0, none⟩)] 70 (0, 0)) ∧ OutL wr.heap.size w' rows (jl S.b) ∧ DInv w B g (opS S) (fun k => T k ∨ k = jb) w'))
set_option maxHeartbeats 2000000 in
theorem open_calls {w : World} {B g : Nat} {S : DS} {T : Nat → Prop} {wr : World} (h : DInv w B g S T wr) (ho : S.ok) (hst : S.steps < 999999990) (h8 : B8 S.b) (hl : S.b.length ≤ 1000000) :
    Calls Try.prog 19 #[.pointer (some ⟨g, 0, none⟩)] wr (Opened w B g S T wr) := by
  have H := Lib.hid h
  have HO := Lib.hid ho
  have HLT := Lib.hid h.lts
  clear h ho
  by_cases hf : S.off = true
  · have hf' : S.off = true := hf
    obtain ⟨v, hd, hb, ht⟩ := H.out
    have HR := Lib.hid (read_off B g v S wr hd hf)
    have HE := Lib.hid (show opE S = 12 by simp [opE, hf])
    have HS := Lib.hid (show opS S = S by simp [opS, hf])
    clear hf hf' hd hb ht
    go_enter Try.func19, Try.ntmps19
    go_wp2_with fail
    refine HR.out.mono ?_
    rintro e w1 ⟨rfl, rfl⟩
    unfold cut12
    go_wp2
    refine bodyPost_ret (v := .tuple #[.pointer none, .slice none 0 0, .iface 45 (.int .i64 12)]) (by simp [results, Try.results19, go_sem]) rfl ?_
    refine ⟨_, _, by rw [HE.out]; rfl, Stay.refl _ _, .inl ⟨by rw [HE.out]; decide, rfl, rfl, by rw [HS.out]; exact H.out⟩⟩
  have hf' : S.off = false := by simpa using hf
  have HR := Lib.hid (read_inv H.out hf' HO.out)
  have HF := Lib.hid hf'
  have HB8 := Lib.hid h8
  have HL := Lib.hid hl
  have hnl := jn_le S.b
  clear hf hf' h8 hl
  go_enter Try.func19, Try.ntmps19
  go_wp2_with fail
  refine HR.out.mono ?_
  rintro e w1 ⟨u, rfl, hu, hub, hd1, hs1⟩
  obtain ⟨Au, cu, rfl⟩ := hu.len
  rw [numv_length] at hu hub hd1
  rw [numv_length]
  have HD1 := Lib.hid (hd1.mono (T' := T) (fun _ h => .inl h))
  have HS1 := Lib.hid hs1
  have HSC := Lib.hid (jscan_calls Au cu S.b w1 hu HB8.out HL.out)
  clear hu hub hd1 hs1
  go_wp2_with fail
  refine HSC.out.mono ?_
  rintro e w2 ⟨v2, rfl, ho2, hb2⟩
  rw [show (scn S.b (S.b.length + 1) [] 0).2 = jn S.b from rfl, show (scn S.b (S.b.length + 1) [] 0).1 = jl S.b from rfl] at *
  obtain ⟨A2, c2, rfl⟩ : ∃ A c, v2 = .slice A (jl S.b).length c := by
    obtain ⟨vs, hv, _⟩ := ho2
    exact ownSlice hv
  have HD2 := Lib.hid (HD1.out.made hb2)
  have HO2 := Lib.hid ho2
  have HB2 := Lib.hid hb2
  have HS2 := Lib.hid (HS1.out.trans (Stay.of_below hb2 HD1.out.lts) (fun _ h => h))
  clear HSC HR ho2 hb2
  have HLE := Lib.hid HS1.out.1
  by_cases hn : jn S.b < S.b.length
  · have hn' : (jn S.b : Int) < (S.b.length : Int) := by omega
    have HT := Lib.hid (trim_inv HD2.out HO.out (jn S.b))
    by_cases he : S.on = true
    · have HTE := Lib.hid (show S.trimE (jn S.b) = 0 by rw [DS.trimE, if_neg (by simp [HF.out]), if_neg (by omega), if_pos he])
      have HE := Lib.hid (show opE S = (S.trim (jn S.b)).syncE by rw [opE, if_neg (by simp [HF.out]), if_pos hn, if_pos HTE.out])
      have HSS := Lib.hid (show opS S = (S.trim (jn S.b)).sync by rw [opS, if_neg (by simp [HF.out]), if_pos hn, if_pos HTE.out])
      have HOK := Lib.hid (trim_ok HO.out (by omega) (jn S.b) hnl)
      clear hn he
      go_wp2_with fail
      refine HT.out.mono ?_
      rintro e w3 ⟨he3, hd3, hs3⟩
      rw [HTE.out, show errV 0 = .nilIface from rfl] at he3
      subst he3
      have HD3 := Lib.hid hd3
      have HS3 := Lib.hid hs3
      have HY := Lib.hid (sync_inv HD3.out HOK.out)
      clear hd3 hs3
      go_wp2_with fail
      refine HY.out.mono ?_
      rintro e w4 ⟨he4, hd4, hs4⟩
      rw [← HE.out] at he4
      rw [← HSS.out] at hd4
      have HD4 := Lib.hid hd4
      have HS4 := Lib.hid (HS3.out.trans hs4 (fun _ h => h))
      clear hd4 hs4
      by_cases h0 : opE S = 0
      · have HE0 := Lib.hid h0
        rw [h0, show errV 0 = .nilIface from rfl] at he4
        subst he4
        clear h0
        go_wp2
        refine bodyPost_ret (v := .tuple #[.pointer (some ⟨w4.heap.size, 0, none⟩), .slice A2 (jl S.b).length c2, .nilIface]) (by simp [results, Try.results19, go_sem]) rfl ?_
        refine ⟨_, _, by rw [HE0.out]; rfl, ?_, .inr ⟨HE0.out, _, rfl, ?_, heap_alloc_new _ _, ?_, ?_⟩⟩
        · exact (HS2.out.trans HS4.out (fun _ h => .inl h)).trans (Stay.of_below ((Below.refl _ _).alloc (Nat.le_refl _) _) HD4.out.lts) (fun _ h => .inl h)
        · have := HS2.out.1; have := HS4.out.1; omega
        · exact ((OutL.stay HO2.out HS4.out (fun k h1 h2 => .inr ⟨h1, h2⟩)).mono HLE.out).below ((Below.refl _ _).alloc (Nat.le_refl _) _)
        · exact HD4.out.boxed _
      · have HE0 := Lib.hid h0
        have hev : errV (opE S) = .iface 45 (.int .i64 (opE S)) := by rw [errV, if_neg h0]
        rw [hev] at he4
        subst he4
        have HEV := Lib.hid hev
        clear h0 hev
        go_wp2
        refine bodyPost_ret (v := .tuple #[.pointer none, .slice none 0 0, .iface 45 (.int .i64 (opE S))]) (by simp [results, Try.results19, go_sem]) rfl ?_
        exact ⟨_, _, by rw [HEV.out], HS2.out.trans HS4.out (fun _ h => .inl h), .inl ⟨HE0.out, rfl, rfl, HD4.out.mono (fun _ h => .inl h)⟩⟩
    · have HTE := Lib.hid (show S.trimE (jn S.b) = 12 by rw [DS.trimE, if_neg (by simp [HF.out]), if_neg (by omega), if_neg he])
      have HE := Lib.hid (show opE S = 12 by rw [opE, if_neg (by simp [HF.out]), if_pos hn, if_neg (by rw [HTE.out]; decide), HTE.out])
      have HSS := Lib.hid (show opS S = S.trim (jn S.b) by rw [opS, if_neg (by simp [HF.out]), if_pos hn, if_neg (by rw [HTE.out]; decide)])
      clear hn he
      go_wp2_with fail
      refine HT.out.mono ?_
      rintro e w3 ⟨he3, hd3, hs3⟩
      rw [HTE.out, show errV 12 = .iface 45 (.int .i64 12) from rfl] at he3
      rw [← HSS.out] at hd3
      subst he3
      have HD3 := Lib.hid hd3
      have HS3 := Lib.hid hs3
      clear hd3 hs3
      go_wp2
      refine bodyPost_ret (v := .tuple #[.pointer none, .slice none 0 0, .iface 45 (.int .i64 12)]) (by simp [results, Try.results19, go_sem]) rfl ?_
      exact ⟨_, _, by rw [HE.out]; rfl, HS2.out.trans HS3.out (fun _ h => .inl h), .inl ⟨by rw [HE.out]; decide, rfl, rfl, HD3.out.mono (fun _ h => .inl h)⟩⟩
  · have hn' : (S.b.length : Int) ≤ (jn S.b : Int) := by omega
    have HE := Lib.hid (show opE S = 0 by rw [opE, if_neg (by simp [HF.out]), if_neg hn])
    have HSS := Lib.hid (show opS S = S by rw [opS, if_neg (by simp [HF.out]), if_neg hn])
    clear hn
    go_wp2
    refine bodyPost_ret (v := .tuple #[.pointer (some ⟨w2.heap.size, 0, none⟩), .slice A2 (jl S.b).length c2, .nilIface]) (by simp [results, Try.results19, go_sem]) rfl ?_
    refine ⟨_, _, by rw [HE.out]; rfl, ?_, .inr ⟨HE.out, _, rfl, ?_, heap_alloc_new _ _, ?_, ?_⟩⟩
    · exact HS2.out.trans (Stay.of_below ((Below.refl _ _).alloc (Nat.le_refl _) _) HD2.out.lts) (fun _ h => .inl h)
    · exact HS2.out.1
    · exact (HO2.out.mono HLE.out).below ((Below.refl _ _).alloc (Nat.le_refl _) _)
    · rw [HSS.out]
      exact HD2.out.boxed _
/-- A journal lies at jb. -/
def JBox (w : World) (jb g : Nat) : Prop := w.heap[jb]? = some (.cells #[.pointer (some ⟨g, 0, none⟩)] 70 (0, 0))
theorem JBox.cell {w : World} {jb g : Nat} (h : JBox w jb g) : w.cell? ⟨jb, 0, none⟩ = some (.pointer (some ⟨g, 0, none⟩)) := by
  rw [cell_of_row _ _ _ _ _ _ h]; rfl
theorem JBox.below {w w' : World} {jb g : Nat} (h : JBox w jb g) (hb : Below w.heap.size w w') : JBox w' jb g := (hb.block jb (blkLt h)).trans h
theorem JBox.stay {w w' : World} {jb g : Nat} {T : Nat → Prop} (h : JBox w jb g) (hs : Stay T w w') (hT : T jb) : JBox w' jb g := (hs.2 jb hT).trans h
theorem frame_len (ys : List Int) : (fr ys).length = ys.length + 8 := by simp [fr, show ∀ v, (four v).length = 4 from fun _ => rfl]; omega
set_option maxHeartbeats 2000000 in
theorem write_calls {w : World} {B g jb : Nat} {S : DS} {T : Nat → Prop} {wr : World} (h : DInv w B g S T wr) (ho : S.ok) (hst : S.steps < 999999990) (hj : JBox wr jb g) (hjT : T jb)
    (A : Option Addr) (n c : Nat) (ys : List Int) (hr : Rd wr (.slice A n c) (numv .u8 ys)) (h8 : B8 ys) :
    Calls Try.prog 20 #[.pointer (some ⟨jb, 0, none⟩), .slice A n c] wr fun e w' => e = .returned (errV (wrE S ys)) ∧ DInv w B g (wrS S ys) T w' ∧ Stay T wr w' := by
  have hn : n = ys.length := by
    obtain ⟨A', c', he, _⟩ := hr
    injection he with _ he _
    rw [he, numv_length]
  subst hn
  have H := Lib.hid h
  have HO := Lib.hid ho
  have HJ := Lib.hid hj
  clear h ho hj
  by_cases hlong : 2097152 < ys.length
  · have HF := Lib.hid (frame_long A c ys.length wr (by omega))
    have HE := Lib.hid (show wrE S ys = 2 by rw [wrE, if_pos hlong])
    have HS := Lib.hid (show wrS S ys = S by rw [wrS, if_pos hlong])
    clear hr h8 hlong
    go_enter Try.func20, Try.ntmps20
    go_wp2_with fail
    refine HF.out.mono ?_
    rintro e w1 ⟨rfl, rfl⟩
    go_wp2
    go_ret
    rw [HE.out, HS.out]
    exact ⟨rfl, H.out, Stay.refl _ _⟩
  have HF := Lib.hid (frame_ok A c ys wr hr h8 (by omega))
  have HFL := Lib.hid (frame_len ys)
  have HN := Lib.hid hlong
  clear hr h8
  go_enter Try.func20, Try.ntmps20
  go_wp2_with fail
  refine HF.out.mono ?_
  rintro e w1 ⟨A1, c1, rfl, ho1, hb1⟩
  have HD1 := Lib.hid ((H.out.made hb1).mono (T' := T) (fun _ h => .inl h))
  have HS1 := Lib.hid (Stay.of_below hb1 H.out.lts)
  have hj1 := (HJ.out.below hb1).cell
  have HJ1 := Lib.hid (HJ.out.below hb1)
  have HA := Lib.hid (append_inv HD1.out HO.out A1 (fr ys).length c1 (fr ys) ho1.rd rfl (fun _ e => by
    have h1 := (ho1.lo g e).1
    have h2 := H.out.lt
    omega) (by rw [HFL.out]; omega))
  clear ho1 hb1 HF hlong
  by_cases ha : S.appE (fr ys) = 0
  · have HE := Lib.hid (show wrE S ys = (S.app (fr ys)).syncE by rw [wrE, if_neg HN.out, if_pos ha])
    have HS := Lib.hid (show wrS S ys = (S.app (fr ys)).sync by rw [wrS, if_neg HN.out, if_pos ha])
    have HA0 := Lib.hid ha
    have HOK := Lib.hid (app_ok HO.out (by omega) (fr ys))
    clear ha
    go_wp2_with fail
    refine HA.out.mono ?_
    rintro e w2 ⟨he2, hd2, hs2⟩
    rw [HA0.out, show errV 0 = .nilIface from rfl] at he2
    subst he2
    have HD2 := Lib.hid hd2
    have HS2 := Lib.hid hs2
    have hj2 := (HJ1.out.stay hs2 hjT).cell
    have HY := Lib.hid (sync_inv HD2.out HOK.out)
    clear hd2 hs2 hj1
    go_wp2_with fail
    refine HY.out.mono ?_
    rintro e w3 ⟨he3, hd3, hs3⟩
    have HD3 := Lib.hid hd3
    have HS3 := Lib.hid hs3
    subst he3
    clear hd3 hs3
    generalize hz : errV (DS.syncE (S.app (fr ys))) = z at *
    have HZ := Lib.hid hz
    clear hz
    go_wp2
    go_ret
    rw [HE.out, HS.out, HZ.out]
    exact ⟨rfl, HD3.out, (HS1.out.trans HS2.out (fun _ h => h)).trans HS3.out (fun _ h => h)⟩
  · have HE := Lib.hid (show wrE S ys = S.appE (fr ys) by rw [wrE, if_neg HN.out, if_neg ha])
    have HS := Lib.hid (show wrS S ys = S.app (fr ys) by rw [wrS, if_neg HN.out, if_neg ha])
    have hev : errV (S.appE (fr ys)) = .iface 45 (.int .i64 (S.appE (fr ys))) := by rw [errV, if_neg ha]
    have HEV := Lib.hid hev
    clear ha hev
    go_wp2_with fail
    refine HA.out.mono ?_
    rintro e w2 ⟨he2, hd2, hs2⟩
    rw [HEV.out] at he2
    subst he2
    have HD2 := Lib.hid hd2
    have HS2 := Lib.hid hs2
    clear hd2 hs2
    go_wp2
    go_ret
    rw [HE.out, HS.out, HEV.out]
    exact ⟨rfl, HD2.out, HS1.out.trans HS2.out (fun _ h => h)⟩
end Go.Proofs.Ytlgkcpmedjpoaaa.X
