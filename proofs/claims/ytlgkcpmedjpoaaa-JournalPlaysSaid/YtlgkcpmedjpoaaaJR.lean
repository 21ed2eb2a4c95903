/- treenailref13.Scan, walked: the plain scan. -/
import Derived.Test.YtlgkcpmedjpoaaaJF
import Derived.Test.YtlgkcpmedjpoaaaOpen
import Derived.Test.YtlgkcpmedjpoaaaApp
import Derived.Deep.RegionWith
import Derived.Deep.RegionHeld3
import Derived.Deep.DeepCutAuto
import Derived.Deep.DeepFit
namespace Go.Proofs.Ytlgkcpmedjpoaaa.X
open Go.RowKit Go.Proofs.Ytlgkcpmedjpoaaa Go.Proofs.YtlgkcpmedjpoaaaW.PrintWords Go.Proofs.YtlgkcpmedjpoaaaW.PrintLast Go.Proofs.YtlgkcpmedjpoaaaW.PrintMore
set_option linter.unusedVariables false
set_option linter.unusedSimpArgs false
/-- A list of rows of bytes that the call has made. -/
def OutL (B : Nat) (w : World) (v : Value) (out : List (List Int)) : Prop :=
  ∃ vs, w.ownsRow B 22 1 v out.length vs ∧ ∀ j, j < out.length → ∃ u, vs[j]? = some u ∧ w.ownsRow B 5 1 u (out.getD j []).length (numv .u8 (out.getD j []))
theorem OutL.nil (B : Nat) (w : World) : OutL B w (.slice none 0 0) [] := ⟨[], World.ownsRow_nil _ _ _ _, fun j h => by simp at h⟩
theorem OutL.below {B : Nat} {w w' : World} {v : Value} {out : List (List Int)} (h : OutL B w v out) (hb : Below w.heap.size w w') : OutL B w' v out := by
  obtain ⟨vs, h1, h2⟩ := h
  have hk : Keeps (fun _ => False) w w' := ⟨hb.os, hb.tape, hb.output, hb.size, fun i hi _ => hb.block i hi⟩
  exact ⟨vs, own_keeps h1 hk (fun _ _ h => h), fun j hj => by
    obtain ⟨u, e, hu⟩ := h2 j hj
    exact ⟨u, e, own_keeps hu hk (fun _ _ h => h)⟩⟩
/-- One row more. -/
theorem OutL.next {B : Nat} {w w' : World} {v v' u : Value} {out : List (List Int)} {x : List Int} {vs : List Value} (hv : w.ownsRow B 22 1 v out.length vs) (he : ∀ j, j < out.length → ∃ u, vs[j]? = some u ∧ w.ownsRow B 5 1 u (out.getD j []).length (numv .u8 (out.getD j [])))
    (hu : w.ownsRow B 5 1 u x.length (numv .u8 x)) (h1 : w'.ownsRow B 22 1 v' (out.length + 1) (vs ++ [u])) (hg : w.grownBy w' v.ownBlock) : OutL B w' v' (out ++ [x]) := by
  have hk := Keeps.of_grown hg
  have ne : ∀ {y : Value} {n : Nat} {ys : List Value}, w.ownsRow B 5 1 y n ys → ∀ k, y.ownBlock = some k → ¬ (some k = v.ownBlock) := by
    intro y n ys hy k hk' hkv
    rcases hv.2 with ⟨rfl, _⟩ | ⟨g, cap, cur, rfl, _, hh, _⟩
    · simp [Value.ownBlock] at hkv
    · have := own_blk_ne hy hh (by decide)
      rw [hk', hkv] at this
      exact this rfl
  have hlen : vs.length = out.length := by have := hv.1; omega
  refine ⟨vs ++ [u], by rw [List.length_append, List.length_singleton]; exact h1, fun j hj => ?_⟩
  rw [List.length_append, List.length_singleton] at hj
  by_cases hj2 : j < out.length
  · obtain ⟨y, e, hy⟩ := he j hj2
    have e2 : (out ++ [x]).getD j [] = out.getD j [] := by simp [List.getD_eq_getElem?_getD, List.getElem?_append_left hj2]
    rw [e2]
    exact ⟨y, by rw [List.getElem?_append_left (by omega)]; exact e, own_keeps hy hk (ne hy)⟩
  · obtain rfl : j = out.length := by omega
    have e2 : (out ++ [x]).getD out.length [] = x := by simp [List.getD_eq_getElem?_getD]
    rw [e2]
    exact ⟨u, by rw [← hlen]; simp, own_keeps hu hk (ne hu)⟩
theorem OutL.rows {B : Nat} {w : World} {v : Value} {out : List (List Int)} (h : OutL B w v out) : RdRows .u8 w v out := by
  obtain ⟨vs, h1, h2⟩ := h
  exact ⟨vs, by have := h1.1; omega, Rd.of_own h1, fun j hj => by
    obtain ⟨u, e, hu⟩ := h2 j hj
    exact ⟨u, e, Rd.of_own hu⟩⟩
theorem num4_take (l : List Int) : num4 (l.take 4) = num4 l := by
  simp [num4, List.getD_eq_getElem?_getD, List.getElem?_take]
/-- A part of bytes is its own body's frame if the check fits. -/
theorem frame_iff (l : List Int) (h : B8 l) (a n : Nat) (hn : num4 (l.drop a) = (n : Int)) (hl : a + 8 + n ≤ l.length) :
    (fr ((l.drop (a + 8)).take n) = (l.drop a).take (8 + n)) ↔ crc ((l.drop a).take 4 ++ (l.drop (a + 8)).take n) = num4 (l.drop (a + 4)) := by
  have lb : ((l.drop (a + 8)).take n).length = n := by rw [List.length_take, List.length_drop]; omega
  have e4 : four (n : Int) = (l.drop a).take 4 := by
    rw [← hn, ← num4_take]
    exact four_num4 ((h.drop a).take 4) (by rw [List.length_take, List.length_drop]; omega)
  have e5 : (l.drop a).take (8 + n) = (l.drop a).take 4 ++ ((l.drop (a + 4)).take 4 ++ (l.drop (a + 8)).take n) := by
    rw [show 8 + n = 4 + (4 + n) from by omega, List.take_add, List.take_add, List.drop_drop, List.drop_drop]
  have hb : B8 ((l.drop a).take 4 ++ (l.drop (a + 8)).take n) := ((h.drop a).take 4).app ((h.drop (a + 8)).take n)
  have h4 : ((l.drop (a + 4)).take 4).length = 4 := by rw [List.length_take, List.length_drop]; omega
  unfold fr
  rw [lb, e4, e5]
  constructor
  · intro hh
    have h2 := (List.append_inj (List.append_cancel_left hh) (by rw [h4]; rfl)).1
    rw [← num4_take (l.drop (a + 4)), ← h2, num4_four (crc_bd hb)]
  · intro hh
    rw [hh, ← num4_take (l.drop (a + 4)), four_num4 ((h.drop (a + 4)).take 4) h4]
theorem map_u8 (l : List Int) (h : B8 l) : (l.map fun n => UInt8.ofNat n.toNat).map (fun b => (b.toNat : Int)) = l := by
  induction l with
  | nil => rfl
  | cons x l ih =>
    have hx := h x List.mem_cons_self
    rw [List.map_cons, List.map_cons, ih (fun y hy => h y (List.mem_cons_of_mem _ hy))]
    congr 1
    simp
    omega
theorem str_inj {X Y : List Int} (hx : B8 X) (hy : B8 Y) (h : strOfNums X = strOfNums Y) : X = Y := by
  have := congrArg (fun t : ByteArray => t.data.toList.map (fun b => (b.toNat : Int))) h
  simp only [strOfNums_data] at this
  rwa [map_u8 X hx, map_u8 Y hy] at this
theorem str_ne {X Y : List Int} (hx : B8 X) (hy : B8 Y) (h : X ≠ Y) : ((strOfNums X).toList == (strOfNums Y).toList) = false := by
  rw [beq_eq_false_iff_ne]
  intro e
  rw [Lib.strOfNums_toList, Lib.strOfNums_toList] at e
  exact h (str_inj hx hy (by
    have : (strOfNums X).data.toList = (strOfNums Y).data.toList := e
    cases hX : strOfNums X
    cases hY : strOfNums Y
    rw [hX, hY] at this
    simp only at this
    congr 1
    exact Array.toList_inj.1 this))
theorem rframe_rd (k : Nat) {A : Option Addr} {c : Nat} {l : List Int} (w : World) (ha : Rd w (.slice A l.length c) (numv .u8 l)) (h : B8 l) (hl : l.length ≤ 4000000000) (hk : 10 * (l.length + 4) < k) :
    Calls Try.prog 16 #[.slice A l.length c] w fun e w' => ∃ A' c', e = .returned (.slice A' (fr l).length c') ∧ Rd w' (.slice A' (fr l).length c') (numv .u8 (fr l)) ∧ Below w.heap.size w w' := by
  refine (treenailref13_Frame.calls k A c l (fr l) w (C_of_rd ha).1 (C_of_rd ha).2.1 (rframe_spec l h hl k hk)).mono ?_
  rintro e w' ⟨v, rfl, g, hb⟩
  obtain ⟨A', c', rfl⟩ := ownSlice (own_of_RN g)
  exact ⟨A', c', rfl, rd_of_RN g, hb⟩
theorem rnum_rd {A : Option Addr} {c : Nat} {l : List Int} (w : World) (ha : Rd w (.slice A l.length c) (numv .u8 l)) (h : B8 l) (hl : 4 ≤ l.length) :
    Calls Try.prog 38 #[.slice A l.length c] w fun e w' => e = .returned (.int .i64 (num4 l)) ∧ Drawn0 w w' :=
  treenailref13_number.calls A c l (num4 l) w (C_of_rd ha).1 (C_of_rd ha).2.1 (rnum_spec l h hl)
theorem Rd.one (w : World) (u : Value) (t : TypeId) : Rd (w.alloc (.cells #[u] t)) (.slice (some ⟨w.heap.size, 0, none⟩) 1 1) [u] := by
  refine ⟨some ⟨w.heap.size, 0, none⟩, 1, rfl, Nat.le_refl _, by simp, fun _ => ⟨_, rfl, by simp, fun j v hv => ?_⟩⟩
  rw [addp, cell_of_row _ _ _ _ _ _ (heap_alloc_new w _)]
  simpa using hv
theorem Rd.str_ {w : World} {v : Value} {xs : List Int} (h : Rd w v (numv .u8 xs)) : (convert 22 9 v).run Try.prog w = .ok (.string (strOfNums xs)) w :=
  h.string (P := Try.prog) Try.underlying22 Try.underlying5 _ Try.underlying9
/-- A callee that makes bytes, as a region of several calls wants it. -/
def MadeF (W0 W : World) (xs : List Int) (e : Ending) (w' : World) : Prop :=
  ∃ A n c, e = .returned (.slice A n c) ∧ (∀ w'', Below w'.heap.size w' w'' → (convert 22 9 (.slice A n c)).run Try.prog w'' = .ok (.string (strOfNums xs)) w'') ∧ Below w'.heap.size w' w' ∧ Below W0.heap.size W0 w'
theorem row_info : (Try.prog.info? 22).map (fun i => (i.zero, i.size, i.bytes)) = some (some (.slice none 0 0), 1, 24) := by kernel_rfl
theorem one_row (A : Option Addr) (n c : Nat) : ∀ u ∈ [Value.slice A n c], u.oneCell' = true := by
  intro u hu
  simp only [List.mem_cons, List.not_mem_nil, or_false] at hu
  subst hu
  rfl
def RelC (w : World) (l : List Int) (v i : Value) (wr : World) : Prop :=
  ∃ (out : List (List Int)) (a f : Nat), i = .int .i64 (a : Int) ∧ a ≤ l.length ∧ l.length - a < f ∧ OutL w.heap.size wr v out ∧ out.length ≤ a ∧ Below w.heap.size w wr ∧ scn l f out a = scn l (l.length + 1) [] 0
set_option maxHeartbeats 4000000 in
set_option maxRecDepth 100000 in
theorem rscan_calls (A0 : Option Addr) (c0 : Nat) (l : List Int) (w : World) (ha : Rd w (.slice A0 l.length c0) (numv .u8 l)) (h : B8 l) (hl : l.length ≤ 1000000) :
    Calls Try.prog 12 #[.slice A0 l.length c0] w fun e w' => ∃ v, e = .returned (.tuple #[v, .int .i64 ((scn l (l.length + 1) [] 0).2 : Int)]) ∧ OutL w.heap.size w' v (scn l (l.length + 1) [] 0).1 ∧ Below w.heap.size w w' := by
  obtain ⟨N, hN⟩ : ∃ N, N = l.length := ⟨_, rfl⟩
  have HA := Lib.hid ha
  have HB8 := Lib.hid h
  have HN := Lib.hid hN
  rw [← hN] at hl ⊢
  clear ha h hN
  go_enter Try.func12, Try.ntmps12
  go_wp2
  go_loopw [4, 5] (fun v i wr => RelC w l v i wr) (fun _ i _ => N - (intOf i).toNat)
  case atStart => exact ⟨[], 0, N + 1, rfl, by omega, by have := HN.out; omega, OutL.nil _ _, by simp, Below.refl _ _, by rw [HN.out]⟩
  case round =>
    obtain ⟨out, a, f, rfl, h1, h2, ho, h3, hb, he⟩ := hrel
    obtain ⟨f, rfl⟩ : ∃ m, f = m + 1 := ⟨f - 1, by omega⟩
    rw [← HN.out] at h1 h2
    rename World => wr
    have HO := Lib.hid ho
    have HB := Lib.hid hb
    have HE := Lib.hid he
    clear ho hb he
    have HW := Lib.hid (HA.out.below HB.out)
    rw [← HN.out] at HW
    by_cases g : a + 8 ≤ N
    · have g' : (a : Int) + 8 ≤ (N : Int) := by omega
      obtain ⟨A1, c1, hs1, hr1⟩ := run_slice8 wr A0 N c0 l HW.out (a : Int) ((a : Int) + 4) a (a + 4) rfl rfl (by omega) (by omega)
      rw [show a + 4 - a = 4 from by omega] at hs1 hr1
      obtain ⟨n, hn⟩ := Int.eq_ofNat_of_zero_le (num4_bd (HB8.out.drop a)).1
      have l4 : ((l.drop a).take 4).length = 4 := by rw [List.length_take, List.length_drop, ← HN.out]; omega
      have HJ := Lib.hid (show Calls Try.prog 38 #[.slice A1 4 c1] wr fun e w' => e = .returned (.int .i64 (n : Int)) ∧ Drawn0 wr w' by
        have := rnum_rd (A := A1) (c := c1) (l := (l.drop a).take 4) wr (by rw [l4]; exact hr1) ((HB8.out.drop a).take 4) (by rw [l4]; omega)
        rwa [num4_take, hn, l4] at this)
      have n2 := (num4_bd (HB8.out.drop a)).2
      rw [hn] at n2
      have HNM := Lib.hid hn
      clear hr1 l4 hn
      by_cases q1 : 2097152 < n
      · have q1' : (2097152 : Int) < (n : Int) := by omega
        have HX := Lib.hid (show (out, a) = scn l (N + 1) [] 0 by rw [HN.out, ← HE.out, scn, if_pos (by rw [← HN.out]; exact g), HNM.out, if_pos (Or.inl (by simpa using q1))])
        go_wp2_with (go_at_call 38; (with_reducible refine HJ.out.mono ?_); rintro e w2 ⟨rfl, k, rfl⟩)
        go_ret2
        rw [← HX.out]
        have hb := (Below.refl wr.heap.size wr).drewN k
        exact ⟨_, rfl, HO.out.below hb, HB.out.trans (hb.mono HB.out.size)⟩
      by_cases q2 : N < a + 8 + n
      · have q1' : (n : Int) ≤ 2097152 := by omega
        have q2' : (N : Int) < (a : Int) + 8 + (n : Int) := by omega
        have HX := Lib.hid (show (out, a) = scn l (N + 1) [] 0 by rw [HN.out, ← HE.out, scn, if_pos (by rw [← HN.out]; exact g), HNM.out, if_pos (Or.inr (by rw [← HN.out]; simpa using q2))])
        go_wp2_with (go_at_call 38; (with_reducible refine HJ.out.mono ?_); rintro e w2 ⟨rfl, k, rfl⟩)
        go_ret2
        rw [← HX.out]
        have hb := (Below.refl wr.heap.size wr).drewN k
        exact ⟨_, rfl, HO.out.below hb, HB.out.trans (hb.mono HB.out.size)⟩
      have q1' : (n : Int) ≤ 2097152 := by omega
      have q2' : (a : Int) + 8 + (n : Int) ≤ (N : Int) := by omega
      obtain ⟨A2, c2, hs2, hr2⟩ := run_slice8 wr A0 N c0 l HW.out ((a : Int) + 8) ((a : Int) + 8 + (n : Int)) (a + 8) (a + 8 + n) (by omega) (by omega) (by omega) (by omega)
      obtain ⟨A3, c3, hs3, hr3⟩ := run_slice8 wr A0 N c0 l HW.out (a : Int) ((a : Int) + 8 + (n : Int)) a (a + 8 + n) rfl (by omega) (by omega) (by omega)
      rw [show a + 8 + n - (a + 8) = n from by omega] at hs2 hr2
      rw [show a + 8 + n - a = 8 + n from by omega] at hs3 hr3
      have HI := Lib.hid (frame_iff l HB8.out a n HNM.out (by rw [← HN.out]; omega))
      have hxl : ((l.drop (a + 8)).take n).length = n := by rw [List.length_take, List.length_drop, ← HN.out]; omega
      have hx8 : B8 ((l.drop (a + 8)).take n) := (HB8.out.drop _).take _
      have hy8 : B8 ((l.drop a).take (8 + n)) := (HB8.out.drop _).take _
      have HG := Lib.hid (show scn l (f + 1) out a = if crc ((l.drop a).take 4 ++ (l.drop (a + 8)).take n) = num4 (l.drop (a + 4)) then scn l f (out ++ [(l.drop (a + 8)).take n]) (a + 8 + n) else (out, a) by
        rw [scn, if_pos (by rw [← HN.out]; exact g), HNM.out, if_neg (by rw [← HN.out, Int.toNat_natCast]; omega), Int.toNat_natCast])
      generalize hx : (l.drop (a + 8)).take n = x at *
      generalize hy : (l.drop a).take (8 + n) = y at *
      generalize crc ((l.drop a).take 4 ++ x) = cc at *
      generalize num4 (l.drop (a + 4)) = nn at *
      have HX2 := Lib.hid hr2
      have HY3 := Lib.hid hr3
      have HXL := Lib.hid hxl
      have HX8 := Lib.hid hx8
      have HY8 := Lib.hid hy8
      have hfl : (fr x).length ≤ 3000000 := by simp only [fr, List.length_append, show ∀ v, (four v).length = 4 from fun _ => rfl]; omega
      have HF8 := Lib.hid (show B8 (fr x) from (four_b8 _).app ((four_b8 _).app hx8))
      clear hr2 hr3 hxl hx8 hy8 hx hy hfl n2 q1 q2
      go_wp2_with fail
      refine HJ.out.mono ?_
      rintro e w2 ⟨rfl, k, rfl⟩
      have hb2 := (Below.refl wr.heap.size wr).drewN k
      generalize wr.drewN k = w2 at *
      have HB2 := Lib.hid hb2
      have HO1 := Lib.hid (Own.made w2 w2.heap.size (Nat.le_refl _))
      have HBA := Lib.hid (hb2.alloc hb2.size (.cells #[] 5))
      have HX3 := Lib.hid (HX2.out.below HBA.out)
      have HSZ := Lib.hid (show ([] : List Int).length + x.length ≤ 140737488355328 by rw [HXL.out]; simp; omega)
      clear hb2
      go_wp2_with (at_builtin; refine wpList_app8 rfl _ _ rfl w2.heap.size _ [] (by rfl) HO1.out _ x (by rfl) HX3.out HSZ.out (by simp) ?_)
      intro A4 m4 c4 w4 hm4 hown hk4 _ _
      try rw [List.nil_append] at hown
      have hm4' : m4 = n := by have := HXL.out; (try simp at hm4); omega
      subst hm4'
      have HB4 := Lib.hid (hk4 wr.heap.size wr HB2.out.size HBA.out)
      have HO4 := Lib.hid (hown.mono (Nat.le_trans HB.out.size HB2.out.size))
      have HY4 := Lib.hid (HY3.out.below HB4.out)
      clear hm4 hown hk4
      have hx4 := HX8.out
      have HC := Lib.hid (show ∀ W, Below w4.heap.size w4 W → Calls Try.prog 16 #[.slice A4 m4 c4] W (MadeF w4 W (fr x)) from fun W hW => by
        have hr := HO4.out.rd.below hW
        have := HXL.out
        subst this
        refine (rframe_rd 40000000 W hr HX8.out (by omega) (by omega)).mono ?_
        rintro e w' ⟨A', c', rfl, hrd, hb⟩
        exact ⟨A', _, c', rfl, fun w'' h => Rd.str_ (hrd.below h), Below.refl _ _, hW.trans (hb.mono hW.size)⟩)
      have hcy : ∀ W, Below w4.heap.size w4 W → (convert 22 9 (.slice A3 (8 + m4) c3)).run Try.prog W = .ok (.string (strOfNums y)) W := fun W hW => Rd.str_ (HY4.out.below hW)
      have hbd : Below w4.heap.size w4 w4.drew := (Below.refl _ _).drew
      have hw1 : IntKind.i64.wrap ((a : Int) + 8) = (a : Int) + 8 := IntWalk.i64_in _ (by omega)
      have hw2 : IntKind.i64.wrap ((a : Int) + 8 + (m4 : Int)) = (a : Int) + 8 + (m4 : Int) := IntWalk.i64_in _ (by omega)
      by_cases g3 : cc = nn
      · have hfy : fr x = y := HI.out.2 g3
        subst hfy
        go_wp2_with fail
        go_region_held (fun W => Below w4.heap.size w4 W ∧ (convert 22 9 (.slice A3 (8 + m4) c3)).run Try.prog W = .ok (.string (strOfNums (fr x))) W)
          (first | exact ⟨by assumption, hcy _ (by assumption)⟩)
          (first | (go_at_call 16; go_fit (HC.out _ (by assumption)); rintro e w' ⟨A', n', c', rfl, hs', hr', hb'⟩))
        rename Below w4.heap.size w4 w' => hb5
        have HB5 := Lib.hid (HB4.out.trans (hb5.mono HB4.out.size))
        have HO5 := Lib.hid (HO4.out.below hb5)
        have hb6 := HB5.out.alloc HB5.out.size (.cells #[.slice A4 m4 c4] 22)
        have HB6 := Lib.hid hb6
        have HW6 := Lib.hid (HB.out.trans (hb6.mono HB.out.size))
        have HL6 := Lib.hid (HO.out.below hb6)
        obtain ⟨vs, hv, he⟩ := HL6.out
        have HV := Lib.hid hv
        have HVE := Lib.hid he
        have HX6 := Lib.hid (HO5.out.alloc (.cells #[.slice A4 m4 c4] 22))
        have HR6 := Lib.hid (Rd.one w' (.slice A4 m4 c4) 22)
        have HS6 := Lib.hid (show (out.length + [Value.slice A4 m4 c4].length) * 24 ≤ 140737488355328 by simp; omega)
        obtain ⟨A7, c7, rfl⟩ := ownSlice hv
        clear hb5 hb6 hv he HO4 HO5 HC hcy
        go_wp2_with (at_builtin; refine wpList_app _ rfl _ _ _ rfl w.heap.size 22 (.slice none 0 0) 24 Try.underlying28 row_info rfl _ out.length _ (by rfl) HV.out _ [.slice A4 m4 c4] (by rfl) HR6.out (one_row _ _ _) HS6.out (by omega) (Nat.le_trans HW6.out.size (by simp)) ?_)
        intro A8 c8 w7 ho7 hg7 hat7
        have HO7 := Lib.hid (OutL.next HV.out HVE.out HX6.out ho7 hg7)
        have HB7 := Lib.hid (HW6.out.grown hg7 HW6.out.size (fun k hk => (own_lo HV.out k hk).1))
        clear ho7 hg7 hat7
        go_wp2
        go_roundw
        case rel =>
          refine ⟨out ++ [x], a + 8 + m4, f, by go_num, by rw [← HN.out]; omega, by rw [← HN.out]; omega, HO7.out, by rw [List.length_append, List.length_singleton]; omega, HB7.out, ?_⟩
          rw [← HE.out, HG.out, if_pos g3]
        case measure => simp [intOf]; omega
      · have HX := Lib.hid (show (out, a) = scn l (N + 1) [] 0 by rw [HN.out, ← HE.out, HG.out, if_neg g3])
        have hne := str_ne HF8.out HY8.out (fun h => g3 (HI.out.1 h))
        clear g3
        go_wp2_with fail
        go_region_held (fun W => Below w4.heap.size w4 W ∧ (convert 22 9 (.slice A3 (8 + m4) c3)).run Try.prog W = .ok (.string (strOfNums y)) W)
          (first | exact ⟨by assumption, hcy _ (by assumption)⟩)
          (first | (go_at_call 16; go_fit (HC.out _ (by assumption)); rintro e w' ⟨A', n', c', rfl, hs', hr', hb'⟩))
        rename Below w4.heap.size w4 w' => hb5
        have HB5 := Lib.hid (HB4.out.trans (hb5.mono HB4.out.size))
        clear hb5
        go_wp2
        go_ret2
        rw [← HX.out]
        exact ⟨_, rfl, HO.out.below HB5.out, HB.out.trans (HB5.out.mono HB.out.size)⟩
    · have g' : (N : Int) < (a : Int) + 8 := by omega
      have HX := Lib.hid (show (out, a) = scn l (N + 1) [] 0 by rw [HN.out, ← HE.out, scn, if_neg (by rw [← HN.out]; exact g)])
      go_wp2
      go_ret2
      rw [← HX.out]
      exact ⟨_, rfl, HO.out, HB.out⟩
end Go.Proofs.Ytlgkcpmedjpoaaa.X
