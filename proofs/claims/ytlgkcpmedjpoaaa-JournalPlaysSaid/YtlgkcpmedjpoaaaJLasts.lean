/- JournalLasts: the law's walk. -/
import Derived.Test.YtlgkcpmedjpoaaaTorn
namespace Go.Proofs.Ytlgkcpmedjpoaaa.X
open Go.RowKit Go.Proofs.Ytlgkcpmedjpoaaa Go.Proofs.YtlgkcpmedjpoaaaW.PrintWords Go.Proofs.YtlgkcpmedjpoaaaW.PrintLast Go.Proofs.YtlgkcpmedjpoaaaW.PrintMore
set_option linter.unusedVariables false
set_option linter.unusedSimpArgs false
theorem wr_go (b ys : List Int) (sy st lf : Int) (h3 : 3 ≤ lf) (hy : ys.length ≤ 500) (hb : b.length ≤ 40000) :
    wrE ⟨b, sy, false, st, lf⟩ ys = 0 ∧ wrS ⟨b, sy, false, st, lf⟩ ys = ⟨b ++ fr ys, ((b ++ fr ys).length : Nat), false, st + 1 + 1, lf - 1 - 1⟩ := by
  have hf := frame_len ys
  have hl : ¬ (b.length + (fr ys).length > 67108864) := by omega
  have e1 : DS.app ⟨b, sy, false, st, lf⟩ (fr ys) = ⟨b ++ fr ys, sy, false, st + 1, lf - 1⟩ := by
    unfold DS.app DS.step
    rw [if_neg (by simp), if_neg hl, if_neg (show ¬ lf = 0 by omega), if_neg (show ¬ lf = 1 by omega)]
  have e2 : DS.appE ⟨b, sy, false, st, lf⟩ (fr ys) = 0 := by
    unfold DS.appE DS.on
    rw [if_neg (by simp), if_neg hl, if_pos (by simp; omega)]
  have e3 : DS.sync ⟨b ++ fr ys, sy, false, st + 1, lf - 1⟩ = ⟨b ++ fr ys, ((b ++ fr ys).length : Nat), false, st + 1 + 1, lf - 1 - 1⟩ := by
    unfold DS.sync DS.step DS.on
    rw [if_neg (by simp), if_pos (by simp; omega), if_neg (show ¬ lf - 1 = 0 by omega), if_neg (show ¬ lf - 1 = 1 by omega)]
  have e4 : DS.syncE ⟨b ++ fr ys, sy, false, st + 1, lf - 1⟩ = 0 := by
    unfold DS.syncE DS.on
    rw [if_neg (by simp), if_pos (by simp; omega)]
  have hs : ¬ 2097152 < ys.length := by omega
  constructor
  · rw [wrE, if_neg hs, e2, if_pos rfl, e1, e4]
  · rw [wrS, if_neg hs, e2, if_pos rfl, e1, e3]
theorem wr_stop (b ys : List Int) (sy st lf : Int) (h1 : 1 ≤ lf) (h2 : lf ≤ 2) (hy : ys.length ≤ 500) (hb : b.length ≤ 40000) :
    wrE ⟨b, sy, false, st, lf⟩ ys = 12 ∧ ∃ s, st ≤ s ∧ s ≤ st + 2 ∧ wrS ⟨b, sy, false, st, lf⟩ ys = ⟨b ++ fr ys, sy, true, s, 1⟩ := by
  have hf := frame_len ys
  have hl : ¬ (b.length + (fr ys).length > 67108864) := by omega
  rcases (show lf = 1 ∨ lf = 2 by omega) with rfl | rfl
  · have e1 : DS.app ⟨b, sy, false, st, 1⟩ (fr ys) = ⟨b ++ fr ys, sy, true, st + 1, 1⟩ := by
      unfold DS.app DS.step
      rw [if_neg (by simp), if_neg hl, if_neg (show ¬ (1 : Int) = 0 by decide), if_pos rfl]
    have e2 : DS.appE ⟨b, sy, false, st, 1⟩ (fr ys) = 12 := by
      unfold DS.appE DS.on
      rw [if_neg (by simp), if_neg hl, if_neg (by simp)]
    have hs : ¬ 2097152 < ys.length := by omega
    refine ⟨?_, st + 1, by omega, by omega, ?_⟩
    · rw [wrE, if_neg hs, e2, if_neg (by decide)]
    · rw [wrS, if_neg hs, e2, if_neg (by decide), e1]
  · have e1 : DS.app ⟨b, sy, false, st, 2⟩ (fr ys) = ⟨b ++ fr ys, sy, false, st + 1, 1⟩ := by
      unfold DS.app DS.step
      rw [if_neg (by simp), if_neg hl, if_neg (show ¬ (2 : Int) = 0 by decide), if_neg (show ¬ (2 : Int) = 1 by decide)]
      rfl
    have e2 : DS.appE ⟨b, sy, false, st, 2⟩ (fr ys) = 0 := by
      unfold DS.appE DS.on
      rw [if_neg (by simp), if_neg hl, if_pos (by simp)]
    have e3 : DS.sync ⟨b ++ fr ys, sy, false, st + 1, 1⟩ = ⟨b ++ fr ys, sy, true, st + 1 + 1, 1⟩ := by
      unfold DS.sync DS.step DS.on
      rw [if_neg (by simp), if_neg (by simp), if_neg (show ¬ (1 : Int) = 0 by decide), if_pos rfl]
    have e4 : DS.syncE ⟨b ++ fr ys, sy, false, st + 1, 1⟩ = 12 := by
      unfold DS.syncE DS.on
      rw [if_neg (by simp), if_neg (by simp)]
    have hs : ¬ 2097152 < ys.length := by omega
    refine ⟨?_, st + 1 + 1, by omega, by omega, ?_⟩
    · rw [wrE, if_neg hs, e2, if_pos rfl, e1, e4]
    · rw [wrS, if_neg hs, e2, if_pos rfl, e1, e3]
theorem sync_go (b : List Int) (sy st lf : Int) (h : 2 ≤ lf) : DS.sync ⟨b, sy, false, st, lf⟩ = ⟨b, (b.length : Nat), false, st + 1, lf - 1⟩ := by
  unfold DS.sync DS.step DS.on
  rw [if_neg (by simp), if_pos (by simp; omega), if_neg (show ¬ lf = 0 by omega), if_neg (show ¬ lf = 1 by omega)]
theorem sync_stop (b : List Int) (sy st : Int) : DS.sync ⟨b, sy, false, st, 1⟩ = ⟨b, sy, true, st + 1, 1⟩ := by
  unfold DS.sync DS.step DS.on
  rw [if_neg (by simp), if_neg (by simp), if_neg (show ¬ (1 : Int) = 0 by decide), if_pos rfl]
/-- How many bytes beyond the synced ones are kept. -/
theorem power_tail (l tl : List Int) (st lf keep : Int) : ∃ n, n ≤ tl.length ∧ DS.power ⟨l ++ tl, (l.length : Nat), true, st, lf⟩ keep = ⟨l ++ tl.take n, ((l ++ tl.take n).length : Nat), false, st, 0⟩ := by
  have hd : (((l ++ tl).length : Nat) : Int) - ((l.length : Nat) : Int) = (tl.length : Int) := by rw [List.length_append]; omega
  obtain ⟨n, hn⟩ : ∃ n : Nat, mnI (max keep 0) (tl.length : Int) = (n : Int) := ⟨(mnI (max keep 0) (tl.length : Int)).toNat, by unfold mnI; split <;> omega⟩
  have hle : n ≤ tl.length := by unfold mnI at hn; split at hn <;> omega
  refine ⟨n, hle, ?_⟩
  unfold DS.power
  rw [if_pos rfl]
  simp only [hd, hn]
  have e : ((((l.length : Nat) : Int) + (n : Int)).toNat) = l.length + n := by omega
  rw [e, List.take_append, List.take_of_length_le (show l.length ≤ l.length + n by omega), show l.length + n - l.length = n by omega]
  congr 1
  rw [List.length_append, List.length_take]
  omega
theorem op_zero (b : List Int) (sy st : Int) : opE ⟨b, sy, false, st, 0⟩ = 0 := by
  unfold opE
  rw [if_neg (by simp)]
  have hn := jn_le b
  have ht : DS.trimE ⟨b, sy, false, st, 0⟩ (jn b) = 0 := by
    unfold DS.trimE DS.on
    rw [if_neg (by simp), if_neg (show ¬ ((jn b : Int) < 0 ∨ (b.length : Int) < (jn b : Int)) by omega), if_pos (by simp)]
  have hs : DS.syncE (DS.trim ⟨b, sy, false, st, 0⟩ (jn b)) = 0 := by
    have e : DS.trim ⟨b, sy, false, st, 0⟩ (jn b) = ⟨b.take (jn b : Int).toNat, min sy (jn b), false, st + 1, 0⟩ := by
      unfold DS.trim DS.step DS.on
      rw [if_neg (by simp), if_neg (show ¬ ((jn b : Int) < 0 ∨ (b.length : Int) < (jn b : Int)) by omega), if_pos (by simp), if_pos rfl]
    rw [e]
    unfold DS.syncE DS.on
    rw [if_neg (by simp), if_pos (by simp)]
  show (if jn b < b.length then _ else _) = _
  split
  · first | exact hs | (rw [if_pos ht]; exact hs)
  · rfl
theorem OutO.stay {w wr w' : World} {v : Value} {out : List (List Int)} {T : Nat → Prop} (h : OutO w wr v out) (hs : Stay T wr w') (hT : ∀ k, v.ownBlock = some k → T k) : OutO w w' v out := by
  obtain ⟨vs, h1, h2⟩ := h
  refine ⟨vs, ⟨h1.1, ?_⟩, h2⟩
  rcases h1.2 with hn | ⟨g, cap, cur, rfl, hb, hg, r⟩
  · exact .inl hn
  · exact .inr ⟨g, cap, cur, rfl, hb, (hs.2 g (hT g rfl)).trans hg, r⟩
/-- The records of what a crash leaves. -/
theorem jl_left (said : List (List Int)) (y tl : List Int) (n : Nat) (hb : BB8 said) (hn : ∀ x ∈ said, x.length ≤ 2097152) (hy : B8 y) (hyn : y.length ≤ 2097152) (ht : tl = [] ∨ tl = fr y) (hnt : n ≤ tl.length) :
    jl (frs said ++ tl.take n) = said ∨ (tl = fr y ∧ jl (frs said ++ tl.take n) = said ++ [y]) := by
  rcases ht with rfl | rfl
  · left
    rw [List.take_nil, List.append_nil]
    exact (jl_all said hb hn).1
  · by_cases h : n < (fr y).length
    · left
      exact (jl_torn said y n hb hn hy hyn h).1
    · right
      refine ⟨rfl, ?_⟩
      rw [List.take_of_length_le (by omega)]
      have e : frs said ++ fr y = frs (said ++ [y]) := by rw [frs_app, frs_cons, frs_nil, List.append_nil]
      rw [e]
      refine (jl_all _ ?_ ?_).1
      · intro x hx
        rcases List.mem_append.1 hx with hx | hx
        · exact hb x hx
        · rw [List.mem_singleton] at hx; subst hx; exact hy
      · intro x hx
        rcases List.mem_append.1 hx with hx | hx
        · exact hn x hx
        · rw [List.mem_singleton] at hx; subst hx; exact hyn
/-- At the head of the first loop. -/
def RelL (w : World) (g jb : Nat) (ls : List (List Int)) (v12 v13 i : Value) (wr : World) : Prop :=
  ∃ (k : Nat) (S : DS), i = .int .i64 (k : Int) ∧ k ≤ ls.length ∧ k ≤ 40 ∧ (∀ y ∈ ls.take k, y.length ≤ 500) ∧ S.b = frs (ls.take k) ∧ S.synced = ((frs (ls.take k)).length : Nat) ∧ S.off = false ∧ 1 ≤ S.left ∧ S.left ≤ 60 ∧ 0 ≤ S.steps ∧ S.steps ≤ 2 * k ∧
    OutO w wr v12 (ls.take k) ∧ DInv w w.heap.size g S (fun j => v12.ownBlock = some j ∨ j = jb) wr ∧ JBox wr jb g
/-- At the head of the second. -/
def RelM (w : World) (g jb : Nat) (v12 : Value) (said : List (List Int)) (tl : List Int) (i : Value) (wr : World) : Prop :=
  ∃ (j : Nat) (S : DS), i = .int .i64 (j : Int) ∧ j ≤ 70 ∧ S.b = frs said ++ tl ∧ S.synced = ((frs said).length : Nat) ∧ 0 ≤ S.left ∧ S.left ≤ 60 ∧ 0 ≤ S.steps ∧ S.steps ≤ 100 + j ∧ (S.off = true ∨ S.off = false ∧ tl = [] ∧ 1 ≤ S.left ∧ S.left + j ≤ 60) ∧
    OutO w wr v12 said ∧ DInv w w.heap.size g S (fun j => v12.ownBlock = some j ∨ j = jb) wr
theorem ok_mk {b : List Int} {sy st le : Int} {f : Bool} (h1 : 0 ≤ st) (h2 : st < 1000000000) (h3 : 0 ≤ le) (h4 : le < 1000000000) (h5 : b.length ≤ 67108864) (h6 : 0 ≤ sy) (h7 : sy ≤ b.length) : DS.ok ⟨b, sy, f, st, le⟩ := by
  simp only [DS.ok]
  exact ⟨⟨h1, h2⟩, ⟨h3, h4⟩, h5, h6, h7⟩
theorem said_grown {w : World} {B g jb : Nat} {S : DS} {wr w' : World} {v v' : Value} {n m : Nat} {xs ys : List Value} {e : TypeId} (h : DInv w B g S (fun j => v.ownBlock = some j ∨ j = jb) wr) (ho : wr.ownsRow B e 1 v n xs) (hg : wr.grownBy w' v.ownBlock) (hat : v'.ownBlock = v.ownBlock ∨ v'.ownBlock = some wr.heap.size)
    (ho' : w'.ownsRow B e 1 v' m ys) : DInv w B g S (fun j => v'.ownBlock = some j ∨ j = jb) w' := by
  refine h.move (Keeps.of_grown hg) (fun k hk => .inl hk.symm) (fun k hk => ?_) (fun k hk => (own_lo ho k hk.symm).1)
  rcases hk with hk | rfl
  · refine ⟨?_, (own_lo ho' k hk).2⟩
    rcases hat with e | e
    · exact .inl (.inl (e.symm.trans hk))
    · rw [e] at hk
      injection hk with hk
      exact .inr (by omega)
  · exact ⟨.inl (.inr rfl), Nat.lt_of_lt_of_le (h.lts k (.inr rfl)) (Keeps.of_grown hg).size⟩
set_option maxHeartbeats 8000000 in
set_option maxRecDepth 100000 in
theorem lasts_calls (w : World) (A : Option Addr) (c : Nat) (ls : List (List Int)) (budget keep : Int) (ha : RdRows .u8 w (.slice A ls.length c) ls) (h8 : BB8 ls) (hbu : -9223372036854775808 ≤ budget ∧ budget ≤ 9223372036854775807) (hke : -9223372036854775808 ≤ keep ∧ keep ≤ 9223372036854775807) :
    Calls Try.prog 8 #[.slice A ls.length c, .int .i64 budget, .int .i64 keep] w fun e w' => e = .returned (.bool true) ∧ Below w.heap.size w w' := by
  have HA := Lib.hid ha
  have H8 := Lib.hid h8
  have HK := Lib.hid hke
  have HU := Lib.hid (up13_calls w)
  have hN : ls.length ≤ 9223372036854775807 := by
    obtain ⟨vs, e, ⟨A, c, e2, _, h3, _⟩, _⟩ := ha
    omega
  obtain ⟨N, hNe⟩ : ∃ N, N = ls.length := ⟨_, rfl⟩
  have HN := Lib.hid hNe
  rw [← hNe] at hN ⊢
  rw [← hNe] at HA
  have HPR := Lib.hid (pickF_range budget 60 (by omega))
  have HPK := Lib.hid (fun W => pick_calls budget 60 hbu (by omega) W)
  clear ha h8 hNe hbu hke
  go_enter Try.func8, Try.ntmps8
  go_wp2_with fail
  refine HU.out.mono ?_
  rintro e w1 ⟨rfl, hb1⟩
  have HB1 := Lib.hid hb1
  clear hb1 HU
  go_wp2_with fail
  refine (new_inv w w1 w.heap.size HB1.out HB1.out.size (fun k => False) (fun k h => h.elim)).mono ?_
  rintro e w3 ⟨rfl, hd3, hs3⟩
  have HD3 := Lib.hid hd3
  clear hd3 hs3
  go_wp2_with fail
  refine (open_calls HD3.out (by simp [DS.ok, DS.new]) (by decide) (by intro x hx; simp [DS.new] at hx) (by decide)).mono ?_
  rintro e w4 ⟨jp, rows, he4, hs4, h4⟩
  rw [new_opE, show errV 0 = .nilIface from rfl] at he4
  subst he4
  rcases h4 with ⟨h4, _⟩ | ⟨_, jb, rfl, hjb, hjx, horows, hd4⟩
  · exact absurd new_opE h4
  rw [new_opS] at hd4
  obtain ⟨A4, c4, hrows⟩ := RdRows.len_ horows.rows
  subst hrows
  have HD4 := Lib.hid hd4
  have HJ4 := Lib.hid (show JBox w4 jb w1.heap.size from hjx)
  generalize hg : w1.heap.size = g at *
  clear hs4 horows hjx hd4 hjb hg
  go_wp2_with fail
  refine (HPK.out w4).mono ?_
  rintro e w5 ⟨rfl, rfl⟩
  obtain ⟨p, hp⟩ := Int.eq_ofNat_of_zero_le HPR.out.1
  have hp2 : (p : Int) < 60 := by have := HPR.out.2; omega
  rw [hp]
  clear hp HPR HPK
  go_wp2_with fail
  refine (cut_inv HD4.out (p : Int) (by omega)).mono ?_
  rintro e w5 ⟨he5, hd5, hs5⟩
  rw [show DS.cut DS.new p = ⟨[], 0, false, 0, p + 1⟩ from by rw [DS.cut, if_neg (by omega)]; rfl] at hd5
  rw [show errV (DS.cutE DS.new p) = .nilIface from by rw [DS.cutE, if_neg (by omega)]; rfl] at he5
  subst he5
  have HD5 := Lib.hid (hd5.mono (T' := fun j => (Value.slice none 0 0).ownBlock = some j ∨ j = jb) (fun k hk => by
    rcases hk with hk | hk
    · simp [Value.ownBlock] at hk
    · exact .inr hk))
  have HJ5 := Lib.hid (HJ4.out.stay hs5 (.inr rfl))
  clear hd5 hs5 HD4 HJ4
  go_wp2_with fail
  go_loopw [12, 13, 14] (fun v12 v13 i wr => RelL w g jb ls v12 v13 i wr) (fun _ _ i _ => 40 - (intOf i).toNat)
  case atStart => exact ⟨0, _, rfl, Nat.zero_le _, Nat.zero_le _, by simp, rfl, rfl, rfl, by simp only; omega, by simp only; omega, by simp, by simp, ⟨[], World.ownsRow_nil _ _ _ _, fun j hj => by simp at hj⟩, HD5.out, HJ5.out⟩
  case round =>
    obtain ⟨k, ⟨sb, sy, so, st, sl⟩, rfl, hk, hk40, h500, hb, hsy, hof, hl1, hl2, hst0, hst, hoo, hd, hj⟩ := hrel
    simp only at hb hsy hof hl1 hl2 hst0 hst
    subst hb hsy hof
    rename World => wr
    rw [← HN.out] at hk
    have HO := Lib.hid hoo
    have HD := Lib.hid hd
    have HJ := Lib.hid hj
    have H5 := Lib.hid h500
    have HLk := Lib.hid (show (ls.take k).length = k by rw [List.length_take, ← HN.out]; omega)
    have HB := Lib.hid hd.below
    obtain ⟨A12, c12, rfl⟩ := RdRows.len_ (hoo.rows hd.below)
    rw [HLk.out] at HO HD ⊢
    have HFB := Lib.hid (frs_bound _ h500)
    rw [HLk.out] at HFB
    have HAr := Lib.hid (HA.out.below hd.below)
    clear hoo hd hj h500
    by_cases hin : k < N ∧ k < 40
    case' pos =>
      obtain ⟨hk1, hk2⟩ := hin
      obtain ⟨ad, B, d, rfl, hcell, hrd⟩ := RdRows.at_ HAr.out k (by rw [← HN.out]; exact hk1)
      obtain ⟨ad', B', d', e1, hcell', hrd'⟩ := RdRows.at_ HA.out k (by rw [← HN.out]; exact hk1)
      injection e1 with e1
      subst e1
      have hsame : (Value.slice B' (ls.getD k []).length d') = .slice B (ls.getD k []).length d := by
        have hbl : ad.block < w.heap.size := by
          have := World.block_lt_of_cell? w _ hcell'
          rwa [add_blk] at this
        rw [HB.out.cell (by rw [add_blk]; exact hbl), hcell'] at hcell
        injection hcell
      rw [hsame] at hrd'
      have HRW := Lib.hid hrd'
      have HRD := Lib.hid hrd
      have HY8 := Lib.hid (H8.out.at_ k)
      have HTS := Lib.hid (take_snoc ls k (by rw [← HN.out]; exact hk1))
      have k1 : (k : Int) < (N : Int) := by omega
      have k2 : (k : Int) < 40 := by omega
      clear hrd hrd' hcell' hsame hk1
      generalize ls.getD k [] = y at *
      by_cases hlong : 500 < y.length
      · have hl' : (500 : Int) < (y.length : Int) := by omega
        clear hlong
        go_wp2
        go_ret
        exact ⟨rfl, HB.out⟩
      have hl' : (y.length : Int) ≤ 500 := by omega
      have HW := Lib.hid (write_calls HD.out (ok_mk (by omega) (by omega) (by omega) (by omega) (by have := HFB.out; omega) (by omega) (by omega)) (by simp only; omega) HJ.out (.inr rfl) _ _ _ y HRD.out HY8.out)
      by_cases h3 : 3 ≤ sl
      · have HG := Lib.hid (wr_go (frs (ls.take k)) y ((frs (ls.take k)).length : Nat) st sl h3 (by omega) (by have := HFB.out; omega))
        clear hlong
        go_wp2_with fail
        refine HW.out.mono ?_
        rintro e w6 ⟨rfl, hd6, hs6⟩
        rw [HG.out.1, show errV 0 = .nilIface from rfl]
        rw [HG.out.2] at hd6
        have HD6 := Lib.hid hd6
        have HO6 := Lib.hid (HO.out.stay hs6 (fun k hk => .inl hk))
        have HJ6 := Lib.hid (HJ.out.stay hs6 (.inr rfl))
        have HX6 := Lib.hid (HD6.out.alloc (.cells #[.slice B y.length d] 22))
        have HJ6a := Lib.hid (HJ6.out.below ((Below.refl w6.heap.size w6).alloc (Nat.le_refl _) (.cells #[.slice B y.length d] 22)))
        obtain ⟨vs, hv, he⟩ := HO6.out
        rw [HLk.out] at hv
        have HV6 := Lib.hid (own_keeps (S := fun _ => False) hv (Keeps.of_below ((Below.refl w6.heap.size w6).alloc (Nat.le_refl _) (.cells #[.slice B y.length d] 22)) _) (fun _ _ h => h))
        have HVE := Lib.hid he
        have HR6 := Lib.hid (Rd.one w6 (.slice B y.length d) 22)
        have HS6 := Lib.hid (show (k + [Value.slice B y.length d].length) * 24 ≤ 140737488355328 by simp; omega)
        have HW6 := Lib.hid (HX6.out.below.size)
        clear hd6 hs6 hv he HW HAr
        go_wp2_with (at_builtin; refine wpList_app _ rfl _ _ _ rfl w.heap.size 22 (.slice none 0 0) 24 Try.underlying28 row_info rfl _ k _ (by rfl) HV6.out _ [.slice B y.length d] (by rfl) HR6.out (one_row _ _ _) HS6.out (by omega) HW6.out ?_)
        intro A9 c9 w9 ho9 hg9 hat9
        have HD9 := Lib.hid (said_grown HX6.out HV6.out hg9 (by simpa using hat9) ho9)
        have HJ9 := Lib.hid (show JBox w9 jb g from (Keeps.of_grown hg9).blk HJ6a.out (fun h => by
          rcases HV6.out.2 with ⟨e1, _⟩ | ⟨g1, cap1, cur1, e1, _, hh, _⟩
          · rw [e1] at h; simp [Value.ownBlock] at h
          · rw [e1] at h
            simp [Value.ownBlock] at h
            subst h
            rw [HJ6a.out] at hh
            injection hh with hh
            injection hh with _ ht
            exact absurd ht (by decide)))
        have HN9 := Lib.hid (OutO.next (x := y) (by rw [HLk.out]; exact HV6.out) HVE.out HRW.out (by rw [HLk.out]; exact ho9))
        clear ho9 hg9 hat9
        go_wp2
        go_roundw
        case rel =>
          have e2 : frs (ls.take (k + 1)) = frs (ls.take k) ++ fr y := by rw [HTS.out, frs_app, frs_cons, frs_nil, List.append_nil]
          refine ⟨k + 1, _, by go_num, by rw [← HN.out]; omega, by omega, ?_, e2.symm, by rw [e2], rfl, ?_, ?_, ?_, ?_, ?_, HD9.out, HJ9.out⟩
          · rw [HTS.out]
            intro z hz
            rcases List.mem_append.1 hz with hz | hz
            · exact H5.out z hz
            · rw [List.mem_singleton] at hz
              subst hz
              omega
          · simp only; omega
          · simp only; omega
          · simp only; omega
          · simp only; omega
          · rw [HTS.out]
            exact HN9.out
        case measure => simp [intOf]; omega
      have HG := Lib.hid (wr_stop (frs (ls.take k)) y ((frs (ls.take k)).length : Nat) st sl hl1 (by omega) (by omega) (by have := HFB.out; omega))
      clear hlong h3
      go_wp2_with fail
      refine HW.out.mono ?_
      rintro e w6 ⟨rfl, hd6, hs6⟩
      obtain ⟨hge, s6, hs61, hs62, hgs⟩ := HG.out
      rw [hge, show errV 12 = .iface 45 (.int .i64 12) from rfl]
      rw [hgs] at hd6
      obtain ⟨tl, htl⟩ : ∃ tl, tl = fr y := ⟨_, rfl⟩
      rw [← htl] at hd6
      have HM := Lib.hid (show RelM w g jb (.slice A12 k c12) (ls.take k) tl (.int .i64 ((0 : Nat) : Int)) w6 from ⟨0, _, rfl, Nat.zero_le _, rfl, rfl, by simp, by simp, by simp only; omega, by simp only; omega, .inl rfl, HO.out.stay hs6 (fun k hk => .inl hk), hd6⟩)
      generalize hv13 : (Value.slice B y.length d) = v13' at *
      have HTL := Lib.hid (show ∃ y, B8 y ∧ y.length ≤ 500 ∧ (tl = [] ∨ (tl = fr y ∧ ∃ B d, v13' = .slice B y.length d ∧ Rd w (.slice B y.length d) (numv .u8 y))) from ⟨y, HY8.out, by omega, .inr ⟨htl, B, d, hv13.symm, by rw [hv13]; exact HRW.out⟩⟩)
      clear hd6 hs6 hge hgs hv13 htl
      go_wp2
      clear hs61 hs62 hl' k1 k2
    case' neg =>
      obtain ⟨tl, htl⟩ : ∃ tl : List Int, tl = [] := ⟨_, rfl⟩
      have HM := Lib.hid (show RelM w g jb (.slice A12 k c12) (ls.take k) tl (.int .i64 ((0 : Nat) : Int)) wr from ⟨0, _, rfl, Nat.zero_le _, by rw [htl, List.append_nil], rfl, by simp only; omega, by simp only; omega, by simp only; omega, by simp only; omega, .inr ⟨rfl, htl, hl1, by simp only; omega⟩, HO.out, HD.out⟩)
      have HTL := Lib.hid (show ∃ y, B8 y ∧ y.length ≤ 500 ∧ (tl = [] ∨ (tl = fr y ∧ ∃ B d, u13 = .slice B y.length d ∧ Rd w (.slice B y.length d) (numv .u8 y))) from ⟨[], by intro x hx; simp at hx, by simp, .inl htl⟩)
      have hor : ((N : Int) ≤ (k : Int)) ∨ ((k : Int) < (N : Int) ∧ (40 : Int) ≤ (k : Int)) := by omega
      clear htl hin
      rcases hor with hor1 | ⟨hor1, hor2⟩
      case' inl =>
        go_wp2
        clear hor1
      case' inr =>
        go_wp2
        clear hor1 hor2
    all_goals
      go_loopw [16] (fun i wr2 => RelM w g jb (.slice A12 k c12) (ls.take k) tl i wr2) (fun i _ => 70 - (intOf i).toNat)
      case atStart => exact HM.out
      case round =>
        clear HM HD HO HJ HB
        obtain ⟨j, ⟨b2, sy2, so2, st2, sl2⟩, rfl, hj, hb2, hsy2, hl0, hl1', hs0, hs1, hof2, hoo2, hd2⟩ := hrel
        simp only at hb2 hsy2 hl0 hl1' hs0 hs1 hof2
        subst hb2 hsy2
        rename World => wx
        have HO2 := Lib.hid hoo2
        have HD2 := Lib.hid hd2
        clear hoo2 hd2
        obtain ⟨y, hy8, hyl, htl⟩ := HTL.out
        have HY8 := Lib.hid hy8
        have HTY := Lib.hid htl
        have HTL8 := Lib.hid (show B8 tl ∧ tl.length ≤ 508 from by
          rcases htl with h | ⟨h, _⟩
          · rw [h]; exact ⟨by intro x hx; simp at hx, by simp⟩
          · rw [h]; exact ⟨fr_b8 hy8, by rw [frame_len]; omega⟩)
        have HBL := Lib.hid (show ((frs (ls.take k) ++ tl).length : Nat) ≤ 30000 from by have := HFB.out; have := HTL8.out.2; rw [List.length_append]; omega)
        have HOK := Lib.hid (show DS.ok ⟨frs (ls.take k) ++ tl, ((frs (ls.take k)).length : Nat), so2, st2, sl2⟩ from ok_mk hs0 (by omega) hl0 (by omega) (by have := HBL.out; omega) (by omega) (by rw [List.length_append]; omega))
        clear hy8 htl
        cases so2 with
        | false =>
          obtain ⟨_, ht0, hl3, hl4⟩ := hof2.resolve_left (by simp)
          subst ht0
          have hj1 : (j : Int) < 70 := by omega
          have HY := Lib.hid (sync_inv HD2.out HOK.out)
          have HN := Lib.hid (on_inv HD2.out)
          clear hof2
          go_wp2_with fail
          refine HN.out.mono ?_
          rintro e wx' ⟨rfl, rfl⟩
          go_wp2_with fail
          refine HY.out.mono ?_
          rintro e wy ⟨he, hdy, hsy⟩
          subst he
          have HDY := Lib.hid hdy
          have HOY := Lib.hid (HO2.out.stay hsy (fun k hk => .inl hk))
          clear hdy hsy
          generalize errV _ = ev at *
          go_wp2
          go_roundw
          case rel =>
            rcases (show sl2 = 1 ∨ 2 ≤ sl2 by omega) with rfl | h2
            · have := HDY.out
              rw [sync_stop] at this
              exact ⟨j + 1, _, by go_num, by omega, rfl, rfl, by simp, by simp, by simp only; omega, by simp only; omega, .inl rfl, HOY.out, this⟩
            · have := HDY.out
              rw [sync_go _ _ _ _ h2] at this
              refine ⟨j + 1, _, by go_num, by omega, rfl, by simp, by simp only; omega, by simp only; omega, by simp only; omega, by simp only; omega, .inr ⟨rfl, rfl, by simp only; omega, by simp only; omega⟩, HOY.out, this⟩
          case measure => simp [intOf]; omega
        | true =>
          clear hof2
          have HN := Lib.hid (on_inv HD2.out)
          have hjor : (70 : Int) ≤ (j : Int) ∨ (j : Int) < 70 := by omega
          rcases hjor with hjo | hjo
          case' inl =>
            go_wp2_with fail
            clear hjo
          case' inr =>
            go_wp2_with fail
            refine HN.out.mono ?_
            rintro e wx' ⟨rfl, rfl⟩
            go_wp2_with fail
            clear hjo
          all_goals
            refine (power_inv HD2.out HOK.out keep HK.out).mono ?_
            rintro e wp ⟨rfl, hdp, hsp⟩
            obtain ⟨n, hn, hpe⟩ := power_tail (frs (ls.take k)) tl st2 sl2 keep
            rw [hpe] at hdp
            have HDP := Lib.hid hdp
            have HOP := Lib.hid (HO2.out.stay hsp (fun k hk => .inl hk))
            have HBP := Lib.hid (show (frs (ls.take k) ++ tl.take n).length ≤ 30000 from by have := HBL.out; rw [List.length_append] at this ⊢; rw [List.length_take]; omega)
            have HB8 := Lib.hid (show B8 (frs (ls.take k) ++ tl.take n) from (frs_b8 (H8.out.take k)).app (HTL8.out.1.take n))
            have HSD8 := Lib.hid (H8.out.take k)
            have HJL := Lib.hid (jl_left (ls.take k) y tl n HSD8.out (fun x hx => by have := H5.out x hx; omega) HY8.out (by omega) (by rcases HTY.out with h | h; exact .inl h; exact .inr h.1) hn)
            have HOZ := Lib.hid (op_zero (frs (ls.take k) ++ tl.take n) ((frs (ls.take k) ++ tl.take n).length : Nat) st2)
            have HOP1 := Lib.hid (open_calls HDP.out (ok_mk hs0 (by omega) (by omega) (by omega) (by have := HBP.out; omega) (by omega) (by omega)) (by simp only; omega) HB8.out (by have := HBP.out; simp only; omega))
            clear hdp hsp hpe HD2 HO2
            go_wp2_with fail
            refine HOP1.out.mono ?_
            rintro e wo ⟨jp, rows, heo, hso, ho⟩
            rw [HOZ.out, show errV 0 = .nilIface from rfl] at heo
            subst heo
            rcases ho with ⟨ho, _⟩ | ⟨_, jb2, rfl, hjb2, hjx2, horows2, hdo⟩
            · exact absurd HOZ.out ho
            have HBO := Lib.hid hdo.below
            have HOO := Lib.hid ((HOP.out.stay hso (fun k hk => .inl hk)).rows HBO.out)
            have HRO := Lib.hid horows2.rows
            clear horows2 hdo hso hjx2 hjb2 HOP1
            rcases HJL.out with hjl | ⟨htf, hjl⟩
            · rw [hjl] at HRO
              obtain ⟨AR, cR, rfl⟩ := RdRows.len_ HRO.out
              rw [HLk.out] at HRO ⊢
              obtain ⟨AS, cS, hss, hrs⟩ := run_toR wo AR k cR _ HRO.out (k : Int) k rfl (Nat.le_refl _)
              rw [List.take_of_length_le (show (ls.take k).length ≤ k from by rw [HLk.out]; exact Nat.le_refl _)] at hrs
              have HSM := Lib.hid (same_refl _ _ (ls.take k) wo hrs HOO.out HSD8.out)
              clear hrs hjl
              go_wp2_with fail
              refine HSM.out.mono ?_
              rintro e wq ⟨rfl, hdq⟩
              obtain ⟨q, hq⟩ := hdq.out
              have HBQ := Lib.hid (show Below w.heap.size w wq by rw [hq]; exact HBO.out.drewN q)
              clear hdq hq
              go_wp2_with fail
              go_quiet (fail)
              go_wp2
              go_ret
              exact ⟨rfl, HBQ.out.drewN _⟩
            · rw [hjl] at HRO
              obtain ⟨AR, cR, rfl⟩ := RdRows.len_ HRO.out
              have hlk1 : (ls.take k ++ [y]).length = k + 1 := by rw [List.length_append, HLk.out]; rfl
              rw [hlk1] at HRO ⊢
              obtain ⟨AS, cS, hss, hrs⟩ := run_toR wo AR (k + 1) cR _ HRO.out (k : Int) k rfl (by omega)
              rw [List.take_left' HLk.out] at hrs
              have HSM := Lib.hid (same_refl _ _ (ls.take k) wo hrs HOO.out HSD8.out)
              obtain ⟨adr, BR, dR, rfl, hcr, hrr⟩ := RdRows.at_ HRO.out k (by omega)
              have hgk : (ls.take k ++ [y]).getD k [] = y := by
                rw [List.getD_eq_getElem?_getD, List.getElem?_append_right (by rw [HLk.out]; exact Nat.le_refl _), HLk.out, Nat.sub_self]
                rfl
              rw [hgk] at hcr hrr
              have htz : tl ≠ [] := by
                rw [htf]
                intro h
                have := congrArg List.length h
                rw [frame_len] at this
                simp at this
              obtain ⟨B13, d13, rfl, hr13⟩ := (HTY.out.resolve_left htz).2
              have HCR := Lib.hid hcr
              have HRR := Lib.hid hrr
              have HR13 := Lib.hid (hr13.below HBO.out)
              clear hrs hjl htz hcr hrr hr13 hgk hlk1
              go_wp2_with fail
              refine HSM.out.mono ?_
              rintro e wq ⟨rfl, hdq⟩
              obtain ⟨q, hq⟩ := hdq.out
              have HBQ := Lib.hid (show Below w.heap.size w wq by rw [hq]; exact HBO.out.drewN q)
              have hcell : wq.cell? (adr.add k) = some (.slice BR y.length dR) := by rw [hq]; exact HCR.out
              have hs1 : ∀ q, (convert 22 9 (.slice BR y.length dR)).run Try.prog (wq.drewN q) = .ok (.string (strOfNums y)) (wq.drewN q) := fun q' => Rd.str_ (by rw [hq]; exact (HRR.out.drewN q).drewN q')
              have hs2 : ∀ q, (convert 22 9 (.slice B13 y.length d13)).run Try.prog (wq.drewN q) = .ok (.string (strOfNums y)) (wq.drewN q) := fun q' => Rd.str_ (by rw [hq]; exact (HR13.out.drewN q).drewN q')
              clear hdq hq hss
              have hkk : (((k + 1 : Nat) : Int) == (k : Int)) = false := by rw [beq_eq_false_iff_ne]; omega
              have hkk2 : ((k : Int) + 1 == (k : Int)) = false := by rw [beq_eq_false_iff_ne]; omega
              have hk0 : (0 : Int) ≤ (k : Int) := by omega
              have hk1 : (k : Int) < (k : Int) + 1 := by omega
              go_wp2_with fail
              go_quiet (fail)
              go_wp2
              go_ret
              exact ⟨rfl, HBQ.out.drewN _⟩
end Go.Proofs.Ytlgkcpmedjpoaaa.X
