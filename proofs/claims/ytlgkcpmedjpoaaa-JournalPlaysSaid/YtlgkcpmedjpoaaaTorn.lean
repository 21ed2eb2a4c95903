/- JournalTorn: the law's walk. -/
import Derived.Test.YtlgkcpmedjpoaaaStays
namespace Go.Proofs.Ytlgkcpmedjpoaaa.X
open Go.RowKit Go.Proofs.Ytlgkcpmedjpoaaa Go.Proofs.YtlgkcpmedjpoaaaW.PrintWords Go.Proofs.YtlgkcpmedjpoaaaW.PrintLast Go.Proofs.YtlgkcpmedjpoaaaW.PrintMore
set_option linter.unusedVariables false
set_option linter.unusedSimpArgs false
def pickF (c n : Int) : Int := if c < 0 then -(c + 1).tmod n else c % n
theorem pickF_range (c n : Int) (hn : 1 ≤ n) : 0 ≤ pickF c n ∧ pickF c n < n := by
  unfold pickF
  split
  · rw [← Int.neg_tmod, Int.tmod_eq_emod_of_nonneg (by omega)]
    exact ⟨Int.emod_nonneg _ (by omega), Int.emod_lt_of_pos _ (by omega)⟩
  · exact ⟨Int.emod_nonneg _ (by omega), Int.emod_lt_of_pos _ (by omega)⟩
theorem ret_int_ {k : IntKind} {a b : Int} (h : a = b) : Ending.returned (.int k a) = .returned (.int k b) := by rw [h]
theorem pick_calls (c n : Int) (hc : -9223372036854775808 ≤ c ∧ c ≤ 9223372036854775807) (hn : 1 ≤ n ∧ n ≤ 1000000) (w : World) :
    Calls Try.prog 17 #[.int .i64 c, .int .i64 n] w fun e w' => e = .returned (.int .i64 (pickF c n)) ∧ w = w' := by
  by_cases h : c < 0
  · have hz : (n == 0) = false := by simp; omega
    have he := Lib.hid (show pickF c n = -(c + 1).tmod n from if_pos h)
    go_enter Try.func17, Try.ntmps17
    go_wp2
    go_ret
    exact ⟨ret_int_ he.out.symm, rfl⟩
  · have h0 : 0 ≤ c := by omega
    have hz : (n == 0) = false := by simp; omega
    have he := Lib.hid (show pickF c n = c % n from if_neg h)
    go_enter Try.func17, Try.ntmps17
    go_wp2
    go_ret
    exact ⟨ret_int_ he.out.symm, rfl⟩
/-- x[:h]. -/
theorem run_to {t e : TypeId} (he : Try.prog.elem t = e) (hu : Try.prog.underlying t = some (.slice e)) (hs : ∀ W, (sizeOf e).run Try.prog W = .ok 1 W) (w : World) (A : Option Addr) (n c : Nat) (xs : List Value) (hr : Rd w (.slice A n c) xs) (hi : Int) (h : Nat) (e2 : hi = h) (hh : h ≤ n) :
    ∃ A' c', (∀ W, (Instr.slice t (.slice A n c) none (some (.int .i64 hi)) none).run Try.prog W = .ok (.slice A' h c') W) ∧ Rd w (.slice A' h c') (xs.take h) := by
  subst e2
  have hnc : n ≤ c := by
    obtain ⟨A', c', he, h1, _⟩ := hr
    injection he with _ e2 e3
    omega
  refine ⟨if c = 0 then A else A.map (·.add (0 * 1)), c - 0, fun W => ?_, ?_⟩
  · rw [run_slice_h (P := Try.prog) (w := W) t A n c (by rw [he]; exact hu) .i64 _ (by omega) (by omega), he, hs]
    simp [Result.andThen, Go.sliced]
  · exact Rd.sliced hr (l := 0) (h := h) (m := c) (Nat.zero_le _) hh (by omega)
theorem run_to8 (w : World) (A : Option Addr) (n c : Nat) (xs : List Int) (hr : Rd w (.slice A n c) (numv .u8 xs)) (hi : Int) (h : Nat) (e2 : hi = h) (hh : h ≤ n) :
    ∃ A' c', (∀ W, (Instr.slice 22 (.slice A n c) none (some (.int .i64 hi)) none).run Try.prog W = .ok (.slice A' h c') W) ∧ Rd w (.slice A' h c') (numv .u8 (xs.take h)) := by
  rw [numv_take]
  exact run_to (by kernel_rfl) Try.underlying22 (fun W => by kernel_rfl) w A n c _ hr hi h e2 hh
theorem run_toR (w : World) (A : Option Addr) (n c : Nat) (ls : List (List Int)) (hr : RdRows .u8 w (.slice A n c) ls) (hi : Int) (h : Nat) (e2 : hi = h) (hh : h ≤ n) :
    ∃ A' c', (∀ W, (Instr.slice 28 (.slice A n c) none (some (.int .i64 hi)) none).run Try.prog W = .ok (.slice A' h c') W) ∧ RdRows .u8 w (.slice A' h c') (ls.take h) := by
  obtain ⟨vs, h1, h2, h3⟩ := hr
  obtain ⟨A', c', r1, r2⟩ := run_to (by kernel_rfl) Try.underlying28 (fun W => by kernel_rfl) w A n c _ h2 hi h e2 hh
  refine ⟨A', c', r1, vs.take h, by rw [List.length_take, List.length_take, h1], r2, fun j hj => ?_⟩
  rw [List.length_take] at hj
  obtain ⟨u, e, hu⟩ := h3 j (by omega)
  refine ⟨u, by rw [List.getElem?_take, if_pos (by omega)]; exact e, ?_⟩
  rw [show (ls.take h).getD j [] = ls.getD j [] from by rw [List.getD_eq_getElem?_getD, List.getD_eq_getElem?_getD, List.getElem?_take, if_pos (by omega)]]
  exact hu
/-- A list of the call's own whose rows lie in older memory. -/
def OutO (w : World) (wr : World) (v : Value) (out : List (List Int)) : Prop :=
  ∃ vs, wr.ownsRow w.heap.size 22 1 v out.length vs ∧ ∀ j, j < out.length → ∃ u, vs[j]? = some u ∧ Rd w u (numv .u8 (out.getD j []))
theorem OutO.rows {w wr : World} {v : Value} {out : List (List Int)} (h : OutO w wr v out) (hb : Below w.heap.size w wr) : RdRows .u8 wr v out := by
  obtain ⟨vs, h1, h2⟩ := h
  exact ⟨vs, by have := h1.1; omega, Rd.of_own h1, fun j hj => by
    obtain ⟨u, e, hu⟩ := h2 j hj
    exact ⟨u, e, hu.below hb⟩⟩
theorem OutO.below {w wr w' : World} {v : Value} {out : List (List Int)} (h : OutO w wr v out) (hb : Below wr.heap.size wr w') : OutO w w' v out := by
  obtain ⟨vs, h1, h2⟩ := h
  exact ⟨vs, own_keeps (S := fun _ => False) h1 (Keeps.of_below hb _) (fun _ _ h => h), h2⟩
theorem OutO.next {w wr w' : World} {v v' u : Value} {out : List (List Int)} {x : List Int} {vs : List Value} (hv : wr.ownsRow w.heap.size 22 1 v out.length vs) (he : ∀ j, j < out.length → ∃ u, vs[j]? = some u ∧ Rd w u (numv .u8 (out.getD j [])))
    (hu : Rd w u (numv .u8 x)) (h1 : w'.ownsRow w.heap.size 22 1 v' (out.length + 1) (vs ++ [u])) : OutO w w' v' (out ++ [x]) := by
  have hlen : vs.length = out.length := by have := hv.1; omega
  refine ⟨vs ++ [u], by rw [List.length_append, List.length_singleton]; exact h1, fun j hj => ?_⟩
  rw [List.length_append, List.length_singleton] at hj
  by_cases hj2 : j < out.length
  · obtain ⟨y, e, hy⟩ := he j hj2
    have e2 : (out ++ [x]).getD j [] = out.getD j [] := by simp [List.getD_eq_getElem?_getD, List.getElem?_append_left hj2]
    rw [e2]
    exact ⟨y, by rw [List.getElem?_append_left (by omega)]; exact e, hy⟩
  · obtain rfl : j = out.length := by omega
    have e2 : (out ++ [x]).getD out.length [] = x := by simp [List.getD_eq_getElem?_getD]
    rw [e2]
    exact ⟨u, by rw [← hlen]; simp, hu⟩
theorem take_snoc (ls : List (List Int)) (k : Nat) (h : k < ls.length) : ls.take (k + 1) = ls.take k ++ [ls.getD k []] := by
  rw [List.take_succ_eq_append_getElem h, List.getD_eq_getElem?_getD, List.getElem?_eq_getElem h]
  rfl
theorem BB8.take {ls : List (List Int)} (h : BB8 ls) (n : Nat) : BB8 (ls.take n) := fun l hl => h l (List.mem_of_mem_take hl)
/-- At the head of the first loop. -/
def RelT (w : World) (ls : List (List Int)) (v6 v7 i : Value) (wr : World) : Prop :=
  ∃ k : Nat, i = .int .i64 (k : Int) ∧ k ≤ ls.length ∧ k ≤ 30 ∧ (∀ y ∈ ls.take k, y.length ≤ 500) ∧ Own wr w.heap.size v6 (frs (ls.take k)) ∧ OutO w wr v7 (ls.take k) ∧ Below w.heap.size w wr
theorem frs_bound (ls : List (List Int)) (h : ∀ y ∈ ls, y.length ≤ 500) : (frs ls).length ≤ 508 * ls.length := by
  induction ls with
  | nil => simp [frs]
  | cons y ls ih =>
    have h1 := h y List.mem_cons_self
    have h2 := ih (fun x hx => h x (List.mem_cons_of_mem _ hx))
    rw [frs_cons, List.length_append, frame_len, List.length_cons]
    omega
/-- The records of any beginning of frames. -/
theorem torn_at (L : List (List Int)) (hb : BB8 L) (hn : ∀ y ∈ L, y.length ≤ 2097152) (q : Nat) (hq : q ≤ (frs L).length) :
    ∃ m, m ≤ L.length ∧ jl ((frs L).take q) = L.take m ∧ jn ((frs L).take q) = (frs (L.take m)).length ∧ (frs (L.take m)).length ≤ q ∧ (m = L.length ∨ m < L.length ∧ q < (frs (L.take m)).length + (L.getD m []).length + 8) := by
  obtain ⟨m, h1, h2, h3⟩ := frs_take L q hq
  have hbm : BB8 (L.take m) := hb.take m
  have hnm : ∀ y ∈ L.take m, y.length ≤ 2097152 := fun y hy => hn y (List.mem_of_mem_take hy)
  rcases h3 with ⟨a, b, e⟩ | ⟨a, b, e⟩
  · subst a
    rw [List.take_length] at *
    have := jl_all L hb hn
    exact ⟨L.length, Nat.le_refl _, by rw [e, this.1, List.take_length], by rw [e, this.2, List.take_length], by rw [List.take_length]; exact h2, .inl rfl⟩
  · rw [frame_len] at b
    have hm : L.getD m [] ∈ L := by
      rw [List.getD_eq_getElem?_getD, List.getElem?_eq_getElem a]
      exact List.getElem_mem a
    have := jl_torn (L.take m) (L.getD m []) (q - (frs (L.take m)).length) hbm hnm (hb.at_ m) (hn _ hm) (by rw [frame_len]; omega)
    exact ⟨m, h1, by rw [e, this.1], by rw [e, this.2], h2, .inr ⟨a, by omega⟩⟩
theorem frs_take_le (L : List (List Int)) (j : Nat) : (frs (L.take j)).length ≤ (frs L).length := by
  conv => rhs; rw [← List.take_append_drop j L]
  rw [frs_app, List.length_append]
  omega
theorem frs_next (L : List (List Int)) (j : Nat) (h : j < L.length) : (frs (L.take (j + 1))).length = (frs (L.take j)).length + (L.getD j []).length + 8 := by
  rw [take_snoc L j h, frs_app, frs_cons, frs_nil, List.append_nil, List.length_append, frame_len]
  omega
def RelV (L : List (List Int)) (wh j : Value) : Prop :=
  ∃ k : Nat, j = .int .i64 (k : Int) ∧ k ≤ L.length ∧ wh = .int .i64 ((frs (L.take k)).length : Int)
set_option maxHeartbeats 1600000 in
set_option maxRecDepth 100000 in
theorem torn_calls (w : World) (A : Option Addr) (c : Nat) (ls : List (List Int)) (x : Int) (ha : RdRows .u8 w (.slice A ls.length c) ls) (h8 : BB8 ls) (hx : -9223372036854775808 ≤ x ∧ x ≤ 9223372036854775807) :
    Calls Try.prog 4 #[.slice A ls.length c, .int .i64 x] w fun e w' => e = .returned (.bool true) ∧ Below w.heap.size w w' := by
  have HA := Lib.hid ha
  have H8 := Lib.hid h8
  have HX := Lib.hid hx
  have HU := Lib.hid (up13_calls w)
  have hN : ls.length ≤ 9223372036854775807 := by
    obtain ⟨vs, e, ⟨A, c, e2, _, h3, _⟩, _⟩ := ha
    omega
  obtain ⟨N, hNe⟩ : ∃ N, N = ls.length := ⟨_, rfl⟩
  have HN := Lib.hid hNe
  rw [← hNe] at hN ⊢
  rw [← hNe] at HA
  clear ha h8 hx hNe
  go_enter Try.func4, Try.ntmps4
  go_wp2_with fail
  refine HU.out.mono ?_
  rintro e w1 ⟨rfl, hb1⟩
  have HB1 := Lib.hid hb1
  clear hb1 HU
  go_wp2_with fail
  go_loopw [6, 7, 8] (fun v6 v7 i wr => RelT w ls v6 v7 i wr) (fun _ _ i _ => 30 - (intOf i).toNat)
  case atStart => exact ⟨0, rfl, Nat.zero_le _, Nat.zero_le _, by simp, Own.nil _ _, ⟨[], World.ownsRow_nil _ _ _ _, fun j hj => by simp at hj⟩, HB1.out⟩
  case round =>
    obtain ⟨k, rfl, hk, hk30, h500, ho6, ho7, hb⟩ := hrel
    rename World => wr
    rw [← HN.out] at hk
    have HB := Lib.hid hb
    have HO6 := Lib.hid ho6
    have HO7 := Lib.hid ho7
    have H5 := Lib.hid h500
    have HLk := Lib.hid (show (ls.take k).length = k by rw [List.length_take, ← HN.out]; omega)
    obtain ⟨A6, c6, rfl⟩ := ho6.slice
    obtain ⟨A7, c7, rfl⟩ := RdRows.len_ (ho7.rows hb)
    rw [HLk.out] at HO7
    rw [HLk.out]
    have HAr := Lib.hid (HA.out.below hb)
    clear hb ho6 ho7 h500
    by_cases hin : k < N ∧ k < 30
    · obtain ⟨hk1, hk2⟩ := hin
      obtain ⟨ad, B, d, rfl, hcell, hrd⟩ := RdRows.at_ HAr.out k (by rw [← HN.out]; exact hk1)
      obtain ⟨ad', B', d', e1, hcell', hrd'⟩ := RdRows.at_ HA.out k (by rw [← HN.out]; exact hk1)
      injection e1 with e1
      subst e1
      have hsame : (Value.slice B' (ls.getD k []).length d') = .slice B (ls.getD k []).length d := by
        have hbl : ad.block < w.heap.size := by
          have := World.block_lt_of_cell? w _ hcell'
          rwa [add_blk] at this
        rw [HB.out.cell (by rw [add_blk]; exact hbl), hcell'] at hcell
        injection hcell
      rw [hsame] at hrd'
      have HRW := Lib.hid hrd'
      have HCW := Lib.hid (show w.cell? (ad.add k) = some (.slice B (ls.getD k []).length d) by rw [hcell', hsame])
      have HAB := Lib.hid (World.block_lt_of_cell? w _ hcell')
      have HRD := Lib.hid hrd
      have HY8 := Lib.hid (H8.out.at_ k)
      have HTS := Lib.hid (take_snoc ls k (by rw [← HN.out]; exact hk1))
      have k1 : (k : Int) < (N : Int) := by omega
      have k2 : (k : Int) < 30 := by omega
      clear hrd hrd' hcell' hsame hk1
      generalize ls.getD k [] = y at *
      by_cases hlong : 500 < y.length
      · have hl' : (500 : Int) < (y.length : Int) := by omega
        clear hlong
        go_wp2
        go_ret
        exact ⟨rfl, HB.out⟩
      have hl' : (y.length : Int) ≤ 500 := by omega
      have HYL := Lib.hid hlong
      have HFL := Lib.hid (frame_len y)
      have hq1 : ((((fr y).length : Nat) : Int) == (y.length : Int) + 8) = true := by rw [frame_len, beq_iff_eq]; omega
      have hq2 : ((((fr y).length : Nat) : Int) != (y.length : Int) + 8) = false := by rw [frame_len, bne_eq_false_iff_eq]; omega
      clear hlong
      go_wp2_with fail
      refine (frame_ok B d y wr HRD.out HY8.out (by omega)).mono ?_
      rintro e w2 ⟨A2, c2, rfl, ho2, hb2⟩
      have HB2 := Lib.hid (HB.out.trans (hb2.mono HB.out.size))
      have hc2 : w2.cell? (ad.add k) = some (.slice B y.length d) := by
        rw [hb2.cell (World.block_lt_of_cell? wr _ hcell)]
        exact hcell
      have HO62 := Lib.hid (HO6.out.below hb2)
      have HO72 := Lib.hid (HO7.out.below hb2)
      have HF2 := Lib.hid ho2.rd
      have HFB := Lib.hid (frs_bound _ H5.out)
      rw [HLk.out] at HFB
      have HS := Lib.hid (show (frs (ls.take k)).length + (fr y).length ≤ 140737488355328 by have := HFB.out; have := HFL.out; omega)
      have HLO := Lib.hid (fun b hb => (ho2.lo b hb).1)
      have hml : ((fr y).length : Int) ≤ 508 := by rw [frame_len]; omega
      clear ho2 hb2 HO6 HO7 hcell HAr
      generalize hfl : (fr y).length = m at *
      generalize hft : (frs (ls.take k)).length = p at *
      have HFLE := Lib.hid hfl
      have HFT := Lib.hid hft
      clear hfl hft
      go_wp2_with (at_builtin; refine wpList_app8 rfl _ _ rfl w.heap.size _ (frs (ls.take k)) (by rfl) HO62.out _ (fr y) (by rfl) HF2.out (by rw [HFT.out, HFLE.out]; exact HS.out) HB2.out.size ?_)
      intro A8 m8 c8 w8 hm8 ho8 hk8 hg8 _
      have HB8 := Lib.hid (hk8 w.heap.size w (Nat.le_refl _) HB2.out)
      have hc8 : w8.cell? (ad.add k) = some (.slice B y.length d) := by
        rw [HB8.out.cell HAB.out]
        exact HCW.out
      obtain ⟨vs, hv, he⟩ := HO72.out
      have hv8 := own_keeps hv (Keeps.of_grown hg8) (fun b hb h => by
        rcases HO62.out.2 with ⟨e1, _⟩ | ⟨g1, cap1, cur1, e1, _, hh, _⟩
        · rw [e1] at h; simp [Value.ownBlock] at h
        · have := own_blk_ne hv hh (by decide)
          rw [e1] at h
          exact this (by rw [hb, h]; rfl))
      rw [HLk.out] at hv8
      have HO8 := Lib.hid ho8
      have HV8 := Lib.hid (own_keeps (S := fun _ => False) hv8 (Keeps.of_below ((Below.refl w8.heap.size w8).alloc (Nat.le_refl _) (.cells #[.slice B y.length d] 22)) _) (fun _ _ h => h))
      have HVE := Lib.hid he
      have HR8 := Lib.hid (Rd.one w8 (.slice B y.length d) 22)
      have HS8 := Lib.hid (show (k + [Value.slice B y.length d].length) * 24 ≤ 140737488355328 by simp; omega)
      have HW8 := Lib.hid (HB8.out.alloc HB8.out.size (.cells #[.slice B y.length d] 22))
      have HO8a := Lib.hid (ho8.alloc (.cells #[.slice B y.length d] 22))
      have HVK := Lib.hid hv
      clear hm8 ho8 hk8 hg8 hv he hv8 hc2 HO62 HO72 HF2 HS HVK
      go_wp2_with (at_builtin; refine wpList_app _ rfl _ _ _ rfl w.heap.size 22 (.slice none 0 0) 24 Try.underlying28 row_info rfl _ k _ (by rfl) HV8.out _ [.slice B y.length d] (by rfl) HR8.out (one_row _ _ _) HS8.out (by omega) HW8.out.size ?_)
      intro A9 c9 w9 ho9 hg9 hat9
      have HB9 := Lib.hid (HW8.out.grown hg9 HW8.out.size (fun b hb => (own_lo HV8.out b hb).1))
      have HO9 := Lib.hid (own_keeps HO8a.out (Keeps.of_grown hg9) (fun b hb h => by
        rcases HV8.out.2 with ⟨e1, _⟩ | ⟨g1, cap1, cur1, e1, _, hh, _⟩
        · rw [e1] at h; simp [Value.ownBlock] at h
        · have := own_blk_ne HO8a.out hh (by decide)
          rw [e1] at h
          exact this (by rw [hb, h]; rfl)))
      have HN9 := Lib.hid (OutO.next (x := y) (by rw [HLk.out]; exact HV8.out) HVE.out HRW.out (by rw [HLk.out]; exact ho9))
      clear ho9 hg9 hat9
      go_wp2
      go_roundw
      case rel =>
        refine ⟨k + 1, by go_num, by rw [← HN.out]; omega, by omega, ?_, ?_, ?_, HB9.out⟩
        · rw [HTS.out]
          intro z hz
          rcases List.mem_append.1 hz with hz | hz
          · exact H5.out z hz
          · rw [List.mem_singleton] at hz
            subst hz
            omega
        · rw [HTS.out, frs_app, frs_cons, frs_nil, List.append_nil]
          exact HO9.out
        · rw [HTS.out]
          have := HN9.out
          exact this
      case measure => simp [intOf]; omega
    · have HIN := Lib.hid hin
      have HL8 := Lib.hid (H8.out.take k)
      generalize hL : ls.take k = L at *
      have HJ := Lib.hid (jl_all L HL8.out (fun y hy => by have := H5.out y hy; omega))
      have HFB := Lib.hid (frs_bound L H5.out)
      have HF8 := Lib.hid (frs_b8 HL8.out)
      have HL500 := Lib.hid (show ∀ y ∈ L, y.length ≤ 2097152 from fun y hy => by have := H5.out y hy; omega)
      have hM1 : (((frs L).length : Nat) : Int) ≤ 15240 := by have := HFB.out; rw [HLk.out] at this; omega
      have HSC := Lib.hid (show Calls Try.prog 11 #[.slice A6 (frs L).length c6] wr fun e w' => ∃ v, e = .returned (.tuple #[v, .int .i64 (((frs L).length : Nat) : Int)]) ∧ OutL wr.heap.size w' v L ∧ Below wr.heap.size wr w' by
        have := jscan_calls A6 c6 (frs L) wr HO6.out.rd HF8.out (by omega)
        rw [show (scn (frs L) ((frs L).length + 1) [] 0).1 = jl (frs L) from rfl, show (scn (frs L) ((frs L).length + 1) [] 0).2 = jn (frs L) from rfl, HJ.out.1, HJ.out.2] at this
        exact this)
      have hor : ((N : Int) ≤ (k : Int)) ∨ ((k : Int) < (N : Int) ∧ (30 : Int) ≤ (k : Int)) := by omega
      have HPR := Lib.hid (pickF_range x ((frs L).length + 1) (by omega))
      have HPK := Lib.hid (fun W => pick_calls x ((frs L).length + 1) HX.out (by omega) W)
      obtain ⟨q, hq⟩ := Int.eq_ofNat_of_zero_le HPR.out.1
      have hqM : (q : Int) ≤ (((frs L).length : Nat) : Int) := by have := HPR.out.2; omega
      rw [hq] at HPK
      obtain ⟨m, hm1, hm2, hm3, hm4, hm5⟩ := torn_at L HL8.out HL500.out q (by omega)
      have HTK := Lib.hid hm2
      have HTN := Lib.hid hm3
      have HMX := Lib.hid hm5
      have HLm := Lib.hid (show (L.take m).length = m by rw [List.length_take]; omega)
      have hmk : (m : Int) ≤ (k : Int) := by have := HLk.out; omega
      have hPq : (((frs (L.take m)).length : Nat) : Int) ≤ (q : Int) := by omega
      have HB8m := Lib.hid (HL8.out.take m)
      rcases hor with hor1 | ⟨hor1, hor2⟩
      all_goals
        clear hin hL hm1 hm2 hm3 hm4 hm5 hq
        go_wp2_with fail
        refine HSC.out.mono ?_
        rintro e w2 ⟨v2, rfl, ho2, hb2⟩
        obtain ⟨A2, c2, rfl⟩ := RdRows.len_ ho2.rows
        have HR72 := Lib.hid ((HO7.out.below hb2).rows (HB.out.trans (hb2.mono HB.out.size)))
        have HO62 := Lib.hid (HO6.out.below hb2)
        have HB2 := Lib.hid (HB.out.trans (hb2.mono HB.out.size))
        have HSM := Lib.hid (same_refl _ _ L w2 ho2.rows HR72.out HL8.out)
        rw [HLk.out] at HSM ⊢
        clear ho2 hb2 HSC
        go_wp2_with fail
        refine HSM.out.mono ?_
        rintro e w3 ⟨rfl, hd3⟩
        obtain ⟨q3, hq3⟩ := hd3.out
        have HR73 := Lib.hid (show RdRows .u8 w3 (.slice A7 k c7) L by rw [hq3]; exact HR72.out.drewN q3)
        have HO63 := Lib.hid (show Own w3 w.heap.size (.slice A6 (frs L).length c6) (frs L) by rw [hq3]; exact HO62.out.below ((Below.refl _ _).drewN q3))
        have HB3 := Lib.hid (show Below w.heap.size w w3 by rw [hq3]; exact HB2.out.drewN q3)
        clear hd3 hq3 HSM HR72 HO62 HB2
        go_wp2_with fail
        refine (HPK.out w3).mono ?_
        rintro e w4 ⟨rfl, rfl⟩
        obtain ⟨A4, c4, hs4, hr4⟩ := run_to8 w3 A6 (frs L).length c6 (frs L) HO63.out.rd (q : Int) q rfl (by omega)
        have HSC2 := Lib.hid (show Calls Try.prog 11 #[.slice A4 q c4] w3 fun e w' => ∃ v, e = .returned (.tuple #[v, .int .i64 (((frs (L.take m)).length : Nat) : Int)]) ∧ OutL w3.heap.size w' v (L.take m) ∧ Below w3.heap.size w3 w' by
          have hl : ((frs L).take q).length = q := by rw [List.length_take]; omega
          have := jscan_calls A4 c4 ((frs L).take q) w3 (by rw [hl]; exact hr4) (HF8.out.take q) (by omega)
          rw [show (scn ((frs L).take q) (((frs L).take q).length + 1) [] 0).1 = jl ((frs L).take q) from rfl, show (scn ((frs L).take q) (((frs L).take q).length + 1) [] 0).2 = jn ((frs L).take q) from rfl, HTK.out, HTN.out, hl] at this
          exact this)
        clear hr4
        go_wp2_with fail
        refine HSC2.out.mono ?_
        rintro e w5 ⟨v5, rfl, ho5, hb5⟩
        obtain ⟨A5, c5, rfl⟩ := RdRows.len_ ho5.rows
        have HR75 := Lib.hid (HR73.out.below hb5)
        have HR5 := Lib.hid ho5.rows
        have HB5 := Lib.hid (HB3.out.trans (hb5.mono HB3.out.size))
        rw [HLm.out] at HR5 ⊢
        obtain ⟨A6', c6', hs6, hr6⟩ := run_toR w5 A7 k c7 L HR75.out (m : Int) m rfl (by omega)
        have HSM := Lib.hid (same_refl _ _ (L.take m) w5 HR5.out hr6 HB8m.out)
        clear ho5 hb5 hr6 HSC2 HR73 HO63 HB3
        go_wp2_with fail
        refine HSM.out.mono ?_
        rintro e w6 ⟨rfl, hd6⟩
        obtain ⟨q6, hq6⟩ := hd6.out
        have HR76 := Lib.hid (show RdRows .u8 w6 (.slice A7 k c7) L by rw [hq6]; exact HR75.out.drewN q6)
        have HR6 := Lib.hid (show RdRows .u8 w6 (.slice A5 m c5) (L.take m) by rw [hq6]; exact HR5.out.drewN q6)
        have HB6 := Lib.hid (show Below w.heap.size w w6 by rw [hq6]; exact HB5.out.drewN q6)
        clear hd6 hq6 HSM HR75 HR5 HB5 hs4 hs6
        go_wp2_with fail
        go_loop [18, 19] (fun wh j => RelV (L.take m) wh j) (fun _ j => m - (intOf j).toNat)
        case atStart => exact ⟨0, rfl, Nat.zero_le _, rfl⟩
        case round =>
          obtain ⟨j, rfl, hj, rfl⟩ := hrel
          rw [HLm.out] at hj
          have HPL := Lib.hid (frs_take_le (L.take m) j)
          by_cases hjm : j < m
          · have hj1 : (j : Int) < (m : Int) := by omega
            obtain ⟨ad, B, d, rfl, hcell, hrd⟩ := RdRows.at_ HR6.out j (by rw [HLm.out]; exact hjm)
            have HNX := Lib.hid (frs_next (L.take m) j (by rw [HLm.out]; exact hjm))
            have HPL2 := Lib.hid (frs_take_le (L.take m) (j + 1))
            have hyb : (((L.take m).getD j []).length : Int) ≤ 15240 := by
              have := HPL2.out
              rw [HNX.out] at this
              omega
            have hpb : (((frs ((L.take m).take j)).length : Nat) : Int) ≤ 15240 := by have := HPL.out; omega
            generalize hy : ((L.take m).getD j []).length = yl at *
            generalize hp : (frs ((L.take m).take j)).length = pl at *
            clear hrd hjm hy hp
            go_wp2
            go_round
            case rel => exact ⟨j + 1, by go_num, by rw [HLm.out]; omega, by rw [HNX.out]; go_num⟩
            case measure => simp [intOf]; omega
          · obtain rfl : j = m := by omega
            rw [show (L.take j).take j = L.take j from by rw [List.take_take, Nat.min_self]] at *
            rcases HMX.out with hmx | ⟨hmx, hmq⟩
            · have hjk : (j : Int) = (k : Int) := by have := HLk.out; omega
              have hj2 : ((j : Int) == (k : Int)) = true := by rw [beq_iff_eq]; exact hjk
              clear hmx hjk hjm HMX
              generalize (frs (L.take j)).length = P at *
              go_wp2
              go_ret
              exact ⟨rfl, HB6.out⟩
            · have hjk : ((j : Int) == (k : Int)) = false := by rw [beq_eq_false_iff_ne]; have := HLk.out; omega
              have hjk2 : (j : Int) < (k : Int) := by have := HLk.out; omega
              obtain ⟨ad, B, d, rfl, hcell, hrd⟩ := RdRows.at_ HR76.out j (by have := HLk.out; omega)
              have hmq' : (q : Int) < (((frs (L.take j)).length : Nat) : Int) + ((L.getD j []).length : Int) + 8 := by omega
              have hyb : (((L.getD j []).length : Nat) : Int) ≤ 500 := by
                have := H5.out (L.getD j []) (by rw [List.getD_eq_getElem?_getD, List.getElem?_eq_getElem hmx]; exact List.getElem_mem hmx)
                omega
              have hpb : (((frs (L.take j)).length : Nat) : Int) ≤ 15240 := by omega
              generalize (L.getD j []).length = yl at *
              generalize (frs (L.take j)).length = P at *
              clear hrd hjm hmx hmq HMX
              go_wp2
              go_ret
              exact ⟨rfl, HB6.out⟩
end Go.Proofs.Ytlgkcpmedjpoaaa.X
