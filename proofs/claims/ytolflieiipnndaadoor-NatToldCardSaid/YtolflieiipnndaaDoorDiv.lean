/- nat.Div: what it computes, and that the call does. -/
import Derived.Test.YtolflieiipnndaaDoorDivM
namespace Go.Proofs.YtolflieiipnndaaDoor.X
open Go.RowKit Go.Proofs.YtolflieiipnndaaDoor Go.Proofs.YtolflieiipnndaaDoorW.PrintWords Go.Proofs.YtolflieiipnndaaDoorW.PrintLast Go.Proofs.YtolflieiipnndaaDoorW.PrintMore Go.Proofs.YtolflieiipnndaaDoor.Num
set_option linter.unusedVariables false
theorem short_loop (l : List Int) (hd : D64 l) (hl : l.length ≤ 4096) (d : Int) (h0 : 0 < d) (h1 : d < 18446744073709551616) (K : Nat) (hK : K = 20000005000) : ∀ (j : Nat) (Q : List Int) (r : Int), j ≤ l.length → Q.length = l.length → D64 Q → 0 ≤ r → r < d → v64 (Q.drop j) * d + r = v64 (l.drop j) →
    ∀ k : Nat, j + K < k → nat_short.l0 k l d Q r ((j : Int) - 1) = some (digs 18446744073709551616 (v64 l / d), digs 18446744073709551616 (v64 l % d)) := by
  intro j
  induction j with
  | zero =>
    intro Q r hj hQ dQ hr0 hr1 he k hk
    obtain ⟨k, rfl⟩ : ∃ m, k = m + 1 := ⟨k - 1, by omega⟩
    simp only [List.drop_zero] at he
    obtain ⟨e1, e2⟩ := quot_of (u := v64 l) (v := d) (q := v64 Q) h0 (by rw [Int.add_mul]; omega) (by omega)
    have e3 : r = v64 l % d := by omega
    have e4 : val 18446744073709551616 [r] = r := by simp [val]
    have t1 := trim_spec Q dQ (by omega) k (by omega)
    have t2 := trim_spec [r] (Dig.one ⟨hr0, by show r < (18446744073709551616 : Int); omega⟩) (by simp) k (by simp; omega)
    rw [e4, e3] at t2
    rw [nat_short.l0, if_neg (by omega), t1, Option.bind_some, e3, t2, Option.bind_some, e1]
  | succ j ih =>
    intro Q r hj hQ dQ hr0 hr1 he k hk
    obtain ⟨k, rfl⟩ : ∃ m, k = m + 1 := ⟨k - 1, by omega⟩
    have hx := d64 hd j
    have c1 : ((j + 1 : Nat) : Int) - 1 = (j : Int) := by omega
    have c2 : (j : Int) ≥ 0 := by omega
    have c3 : (j : Int) < (l.length : Int) := by omega
    have c4 : (j : Int) < (Q.length : Int) := by omega
    have c5 : wrap64 ((j : Int) - 1) = (j : Int) - 1 := w64 (by omega) (by omega)
    have c6 : j < Q.length := by omega
    have c7 : j < l.length := by omega
    have c8 : j + K < k := by omega
    have hdv := div64_f r.toNat (l.getD j 0).toNat d.toNat (by omega) (by omega) (by omega) 20000000000 rfl k (by omega)
    rw [Int.toNat_of_nonneg hr0, Int.toNat_of_nonneg hx.1, Int.toNat_of_nonneg (Int.le_of_lt h0)] at hdv
    have e1 := Int.emod_add_mul_ediv (r * 18446744073709551616 + l.getD j 0) d
    have m0 := Int.emod_nonneg (r * 18446744073709551616 + l.getD j 0) (show d ≠ 0 by omega)
    have m1 := Int.emod_lt_of_pos (r * 18446744073709551616 + l.getD j 0) h0
    have q0 : 0 ≤ (r * 18446744073709551616 + l.getD j 0) / d := Int.ediv_nonneg (by omega) (by omega)
    have q1 : (r * 18446744073709551616 + l.getD j 0) / d < 18446744073709551616 := Int.ediv_lt_of_lt_mul h0 (by omega)
    rw [c1, nat_short.l0, if_pos c2, if_pos c2, if_pos c3, rd_nat, hdv, Option.bind_some, if_pos c4, c5, Int.toNat_natCast]
    have eq2 : ∀ v, (Q.set j v).drop j = v :: Q.drop (j + 1) := fun v => by
      rw [drop_cons _ j (by rw [List.length_set]; exact c6), List.drop_set_of_lt (by omega), getD_set _ _ _ c6]
    have eq3 := drop_cons l j c7
    refine ih _ _ (by omega) (by rw [List.length_set]; exact hQ) (dQ.set j ⟨q0, q1⟩) m0 m1 ?_ k c8
    rw [eq2, eq3]
    show ((r * 18446744073709551616 + l.getD j 0) / d + 18446744073709551616 * v64 (Q.drop (j + 1))) * d + _ = l.getD j 0 + 18446744073709551616 * v64 (l.drop (j + 1))
    rw [← he]
    generalize (r * 18446744073709551616 + l.getD j 0) / d = a at *
    generalize (r * 18446744073709551616 + l.getD j 0) % d = b at *
    generalize v64 (Q.drop (j + 1)) = z at *
    clear ih eq2 hdv
    grind
theorem short_spec (l : List Int) (hd : D64 l) (hl : l.length ≤ 4096) (d : Int) (h0 : 0 < d) (h1 : d < 18446744073709551616) (k : Nat) (hk : 20000010000 < k) : nat_short.f k l d = some (digs 18446744073709551616 (v64 l / d), digs 18446744073709551616 (v64 l % d)) := by
  unfold nat_short.f
  rw [if_pos (by omega), if_pos (by omega), w64 (by omega) (by omega), Int.toNat_natCast]
  refine short_loop l hd hl d h0 h1 _ rfl l.length _ 0 (Nat.le_refl _) (by simp) (Dig.reps (by decide) _) (Int.le_refl _) h0 ?_ k (by omega)
  rw [List.drop_of_length_le (by simp), List.drop_of_length_le (Nat.le_refl _)]
  simp [val]
set_option maxHeartbeats 2000000 in
/-- Of numbers that are too long. -/
theorem div_err (k : Nat) (P0 P1 : Nat → Prop) (A0 A1 : Option Addr) (c0 c1 : Nat) (l0 l1 : List Int) (w : World)
    (hs0 : Kd.V (Kd.int .u64) 40 w w.heap.size P0 (.slice A0 l0.length c0) l0) (hs1 : Kd.V (Kd.int .u64) 40 w w.heap.size P1 (.slice A1 l1.length c1) l1) (h : nat_both.f k l0 l1 = some ([], [], some 2)) :
    Calls Tryd.prog 8 #[.slice A0 l0.length c0, .slice A1 l1.length c1] w fun e w' => e = .returned (.tuple #[.slice none 0 0, .slice none 0 0, errW (some 2)]) ∧ Below w.heap.size w w' := by
  have HC := Lib.hid (nat_both.calls k P0 A0 c0 l0 P1 A1 c1 l1 [] [] (some 2) w hs0 hs1 h)
  clear hs0 hs1 h
  have hu := Tryd.underlying27
  have hc := Tryd.underlying41
  have en := neq_nil_code
  go_enter Tryd.func8, Tryd.ntmps8
  go_wp2_with fail
  refine HC.out.mono ?_
  rintro e w2 ⟨v0, v1, rfl, h0, h1, hb⟩
  obtain ⟨A2, c2, rfl⟩ := Kd.V_slice h0
  obtain ⟨A3, c3, rfl⟩ := Kd.V_slice h1
  have HB := Lib.hid hb
  clear HC hb h0 h1
  simp only [errW_some, List.length_nil]
  go_wp2
  go_ret3
  exact ⟨rfl, HB.out⟩
set_option maxHeartbeats 2000000 in
/-- Of a number that is less. -/
theorem div_less (k : Nat) (P0 P1 : Nat → Prop) (A0 A1 : Option Addr) (c0 c1 : Nat) (l0 l1 t0 t1 : List Int) (c : Int) (w : World)
    (hs0 : Kd.V (Kd.int .u64) 40 w w.heap.size P0 (.slice A0 l0.length c0) l0) (hs1 : Kd.V (Kd.int .u64) 40 w w.heap.size P1 (.slice A1 l1.length c1) l1) (h : nat_both.f k l0 l1 = some (t0, t1, none))
    (hc : nat_Cmp.f k t0 t1 = some c) (hc0 : c < 0) (hn : 0 < t1.length) (ht : t0.length ≤ 4096) :
    Calls Tryd.prog 8 #[.slice A0 l0.length c0, .slice A1 l1.length c1] w fun e w' => ∃ v1 : Value, e = .returned (.tuple #[.slice none 0 0, v1, errW none]) ∧ Kd.V (Kd.int .u64) 40 w' w.heap.size (fun k_ => w.heap.size ≤ k_) v1 t0 ∧ Below w.heap.size w w' := by
  have HC := Lib.hid (nat_both.calls k P0 A0 c0 l0 P1 A1 c1 l1 t0 t1 none w hs0 hs1 h)
  have HCM := Lib.hid hc
  have hd : decide (c < 0) = true := by simpa using hc0
  obtain ⟨n, hn2⟩ : ∃ n, t1.length = n := ⟨_, rfl⟩
  have en0 : ((n : Int) == 0) = false := by simp; omega
  have HN := Lib.hid hn2
  have HT := Lib.hid ht
  clear hs0 hs1 h hc hn hn2 ht
  have hu := Tryd.underlying27
  have hc := Tryd.underlying41
  go_enter Tryd.func8, Tryd.ntmps8
  go_wp2_with fail
  refine HC.out.mono ?_
  rintro e w2 ⟨v0, v1, rfl, h0, h1, hb⟩
  obtain ⟨A2, c2, rfl⟩ := Kd.V_slice h0
  obtain ⟨A3, c3, rfl⟩ := Kd.V_slice h1
  have HB := Lib.hid hb
  have H0 := Lib.hid h0
  have H1 := Lib.hid h1
  clear HC hb h0 h1
  rw [HN.out]
  simp only [errW_none]
  go_wp2_with fail
  have hcm := nat_Cmp.calls k A2 c2 t0 A3 c3 t1 c w2 (V_C H0.out).2.2 (V_C H0.out).2.1 (V_C H1.out).2.2 (V_C H1.out).2.1 HCM.out
  rw [HN.out] at hcm
  refine hcm.mono ?_
  rintro e w3 ⟨rfl, hb3⟩
  have HB3 := Lib.hid (HB.out.trans (hb3.mono HB.out.size))
  have H03 := Lib.hid (V_below' H0.out hb3)
  clear hb3 H0 H1 HB hcm
  go_wp2_with fail
  refine (api_Nat_uint64.calls A2 c2 t0 t0 w3 (V_C H03.out).2.2 (V_C H03.out).2.1 (by unfold api_Nat_uint64.f; rw [if_pos (by have := HT.out; omega)])).mono ?_
  rintro e w4 ⟨v4, rfl, h4, hb4⟩
  have HB4 := Lib.hid (HB3.out.trans (hb4.mono HB3.out.size))
  have H4 := Lib.hid (V_of_rd (ok := fun k_ => w.heap.size ≤ k_) (e := 40) (base := w.heap.size) (rd_of_RN h4) (fun b hb => Nat.le_trans HB3.out.size (own_lo (own_of_RN h4) b hb).1))
  clear h4 hb4
  go_wp2
  go_ret3
  exact ⟨v4, rfl, H4.out, HB4.out⟩
/-- Quotient and rest, or what is amiss. -/
def nat_Div.f (l0 l1 : List Int) : Option (List Int × List Int × Option Int) :=
  if ((∀ x ∈ l0, 0 ≤ x ∧ x < 18446744073709551616) ∧ (∀ x ∈ l1, 0 ≤ x ∧ x < 18446744073709551616)) ∧ l0.length ≤ 4611686018427387904 ∧ l1.length ≤ 4611686018427387904 then
    if dlen l0 ≤ 64 ∧ dlen l1 ≤ 64 then
      if v64 l1 = 0 then some ([], [], some 4) else some (digs 18446744073709551616 (v64 l0 / v64 l1), digs 18446744073709551616 (v64 l0 % v64 l1), none)
    else some ([], [], some 2)
  else none
theorem nat_Div.calls (A0 : Option Addr) (c0 : Nat) (l0 : List Int) (A1 : Option Addr) (c1 : Nat) (l1 : List Int) (r1 r2 : List Int) (r3 : Option Int) (w : World) (hr0 : Kd.C (Kd.int .u64) w A0 l0.length l0) (hc0 : l0.length ≤ c0) (hr1 : Kd.C (Kd.int .u64) w A1 l1.length l1) (hc1 : l1.length ≤ c1) (h : nat_Div.f l0 l1 = some (r1, r2, r3)) :
    Calls Tryd.prog 8 #[.slice A0 l0.length c0, .slice A1 l1.length c1] w fun e w' => ∃ v0 v1 : Value, e = .returned (.tuple #[v0, v1, errW r3]) ∧ Kd.V (Kd.int .u64) 40 w' w.heap.size (fun k_ => w.heap.size ≤ k_) v0 r1 ∧ Kd.V (Kd.int .u64) 40 w' w.heap.size (fun k_ => w.heap.size ≤ k_) v1 r2 ∧ Below w.heap.size w w' := by
  unfold nat_Div.f at h
  split at h
  case isFalse => cases h
  case isTrue hg =>
  obtain ⟨⟨d0, d1⟩, la, lb⟩ := hg
  have hd0 : D64 l0 := d0
  have hd1 : D64 l1 := d1
  have hs0 := V_of_rd (e := 40) (base := w.heap.size) (ok := fun _ => True) (rd_of_C hr0 hc0) (fun _ _ => trivial)
  have hs1 := V_of_rd (e := 40) (base := w.heap.size) (ok := fun _ => True) (rd_of_C hr1 hc1) (fun _ _ => trivial)
  obtain ⟨K, hK⟩ : ∃ K, K = 20000020000 + l0.length + l1.length := ⟨_, rfl⟩
  have hb := both_spec l0 l1 hd0 hd1 la lb K (by omega) (by omega)
  split at h
  case isFalse hle =>
    rw [if_neg hle] at hb
    injection h with h
    injection h with e1 e2
    injection e2 with e2 e3
    subst e1 e2 e3
    refine (div_err K _ _ A0 A1 c0 c1 l0 l1 w hs0 hs1 hb).mono ?_
    rintro e w' ⟨rfl, hb'⟩
    exact ⟨_, _, rfl, V_of_rd (Rd.nil _) (fun b hb => by simp [Value.ownBlock] at hb), V_of_rd (Rd.nil _) (fun b hb => by simp [Value.ownBlock] at hb), hb'⟩
  case isTrue hle =>
  rw [if_pos hle] at hb
  have n0 := val_nonneg hd0
  have n1 := val_nonneg hd1
  split at h
  case isTrue hz =>
    rw [show val 18446744073709551616 l1 = 0 from hz, digs_zero] at hb
    injection h with h
    injection h with e1 e2
    injection e2 with e2 e3
    subst e1 e2 e3
    refine (div_zero K _ _ A0 A1 c0 c1 l0 l1 _ w hs0 hs1 hb).mono ?_
    rintro e w' ⟨rfl, hb'⟩
    exact ⟨_, _, rfl, V_of_rd (Rd.nil _) (fun b hb => by simp [Value.ownBlock] at hb), V_of_rd (Rd.nil _) (fun b hb => by simp [Value.ownBlock] at hb), hb'⟩
  case isFalse hz =>
  have hpos : 0 < val 18446744073709551616 l1 := by have : val 18446744073709551616 l1 ≠ 0 := hz; omega
  injection h with h
  injection h with e1 e2
  injection e2 with e2 e3
  subst e1 e2 e3
  have dd0 := digs_dig (B := 18446744073709551616) (by decide) (val 18446744073709551616 l0)
  have dd1 := digs_dig (B := 18446744073709551616) (by decide) (val 18446744073709551616 l1)
  have v0 := val_digs (B := 18446744073709551616) (by decide) (val 18446744073709551616 l0) n0
  have v1 := val_digs (B := 18446744073709551616) (by decide) (val 18446744073709551616 l1) n1
  have ll0 : (digs 18446744073709551616 (val 18446744073709551616 l0)).length ≤ 64 := hle.1
  have ll1 : (digs 18446744073709551616 (val 18446744073709551616 l1)).length ≤ 64 := hle.2
  have hcm := cmp_spec _ _ dd0 dd1 (by omega) (by omega) K (by omega) (by omega)
  rw [v0, v1] at hcm
  have hne : (digs 18446744073709551616 (val 18446744073709551616 l1)) ≠ [] := fun e => by
    rw [e] at v1
    simp [val] at v1
    omega
  have hlen : 0 < (digs 18446744073709551616 (val 18446744073709551616 l1)).length := List.length_pos_iff.2 hne
  by_cases hlt : val 18446744073709551616 l0 < val 18446744073709551616 l1
  · have hc : cmpI (val 18446744073709551616 l0) (val 18446744073709551616 l1) < 0 := by unfold cmpI; rw [if_pos hlt]; decide
    refine (div_less K _ _ A0 A1 c0 c1 l0 l1 _ _ _ w hs0 hs1 hb hcm hc hlen (by omega)).mono ?_
    rintro e w' ⟨v, rfl, hv, hb'⟩
    have q0 : v64 l0 / v64 l1 = 0 := Int.ediv_eq_zero_of_lt n0 hlt
    have q1 : v64 l0 % v64 l1 = v64 l0 := Int.emod_eq_of_lt n0 hlt
    rw [q0, q1, digs_zero]
    exact ⟨_, v, rfl, V_of_rd (Rd.nil _) (fun b hb => by simp [Value.ownBlock] at hb), hv, hb'⟩
  · have hc : 0 ≤ cmpI (val 18446744073709551616 l0) (val 18446744073709551616 l1) := by
      unfold cmpI; rw [if_neg hlt]; split <;> decide
    have hmono : (digs 18446744073709551616 (val 18446744073709551616 l1)).length ≤ (digs 18446744073709551616 (val 18446744073709551616 l0)).length := by
      rcases Nat.lt_or_ge (digs 18446744073709551616 (val 18446744073709551616 l0)).length (digs 18446744073709551616 (val 18446744073709551616 l1)).length with hh | hh
      · have := cmp_len (B := 18446744073709551616) (by decide) n0 n1 hh
        omega
      · exact hh
    show Calls _ _ _ _ fun e w' => ∃ v0 v1 : Value, _ ∧ Kd.V _ _ _ _ _ _ (digs 18446744073709551616 (val 18446744073709551616 l0 / val 18446744073709551616 l1)) ∧ Kd.V _ _ _ _ _ _ (digs 18446744073709551616 (val 18446744073709551616 l0 % val 18446744073709551616 l1)) ∧ _
    rw [← v0, ← v1]
    rw [v0, v1]
    generalize hT0 : digs 18446744073709551616 (val 18446744073709551616 l0) = T0 at *
    generalize hT1 : digs 18446744073709551616 (val 18446744073709551616 l1) = T1 at *
    by_cases h1 : T1.length = 1
    · obtain ⟨d, rfl⟩ := List.length_eq_one_iff.1 h1
      have hv1 : val 18446744073709551616 l1 = d := by rw [← v1]; simp [val]
      have hdb := dd1 d (by simp)
      have hsh := short_spec T0 dd0 (by omega) d (by omega) hdb.2 K (by omega)
      rw [show v64 T0 = val 18446744073709551616 l0 from v0, ← hv1] at hsh
      rw [hv1] at hsh ⊢
      exact div_one K _ _ A0 A1 c0 c1 l0 l1 _ _ _ d _ w hs0 hs1 hb hcm hc hsh
    · have htop : T1.getD (T1.length - 1) 0 ≠ 0 := by
        have := digs_top (B := 18446744073709551616) (by decide) hpos
        rw [hT1] at this
        exact this
      have := div_many K _ _ A0 A1 c0 c1 T0.length T1.length l0 l1 T0 T1 _ w hs0 hs1 hb hcm hc dd0 dd1 rfl rfl (by omega) hmono ll0 htop
      rw [show v64 T0 = val 18446744073709551616 l0 from v0, show v64 T1 = val 18446744073709551616 l1 from v1] at this
      exact this
end Go.Proofs.YtolflieiipnndaaDoor.X
