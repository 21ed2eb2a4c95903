/- NatProducts: the law's plain statement. -/
import Derived.Test.YtolflieiipnndaaWalkNatProducts
namespace Go.Proofs.Ytolflieiipnndaa.PureP
open Go.RowKit Go.Proofs.Ytolflieiipnndaa Go.Proofs.Ytolflieiipnndaa.X Go.Proofs.Ytolflieiipnndaa.Pure Go.Proofs.YtolflieiipnndaaW.PrintWords Go.Proofs.YtolflieiipnndaaW.PrintLast Go.Proofs.YtolflieiipnndaaW.PrintMore Go.Proofs.Ytolflieiipnndaa.Num
set_option linter.unusedVariables false
set_option linter.unusedSimpArgs false
/-- What Div answers, of numbers. -/
theorem div_f (a b : List Int) (ha : Dig 18446744073709551616 a) (hb : Dig 18446744073709551616 b) (la : a.length ≤ 4611686018427387904) (lb : b.length ≤ 4611686018427387904) :
    nat_Div.f a b = if dlen a ≤ 64 ∧ dlen b ≤ 64 then (if v64 b = 0 then some ([], [], some 4) else some (digs 18446744073709551616 (v64 a / v64 b), digs 18446744073709551616 (v64 a % v64 b), none)) else some ([], [], some 2) := by
  unfold nat_Div.f
  rw [if_pos ⟨⟨fun x hx => ha x hx, fun x hx => hb x hx⟩, la, lb⟩]
/-- The first n digits, of a number that has not more. -/
theorem cut_spec (l : List Int) (h : Dig 18446744073709551616 l) (n : Nat) (hn : dlen l ≤ n) (hn2 : n ≤ 1000) : ∃ l', treenaillaw01_cut.f l (n : Int) = some l' ∧ Dig 18446744073709551616 l' ∧ v64 l' = v64 l ∧ l'.length ≤ n := by
  unfold treenaillaw01_cut.f
  by_cases hl : (l.length : Int) > (n : Int)
  · refine ⟨l.take n, by rw [if_pos hl, if_pos (by omega), if_pos (by omega), Int.toNat_natCast], h.take n, ?_, by rw [List.length_take]; omega⟩
    show val _ _ = _
    rw [lower (by decide) h n]
    have := (digs_len (show 2 ≤ 18446744073709551616 by decide) n _ (val_nonneg h)).1 hn
    exact Int.emod_eq_of_lt (val_nonneg h) this
  · exact ⟨l, by rw [if_neg hl], h, rfl, by omega⟩
theorem rdg_int {n : Int} (h : 0 ≤ n) : digs 65536 n = rdg n.toNat := by unfold rdg; rw [Int.toNat_of_nonneg h]
theorem same_self (l : List Int) (hl : l.length ≤ 4611686018427387904) (k : Nat) (hk : l.length < k) : treenailref01_Same.f k l l = some true := by
  rw [same_spec l l hl k hk, decide_eq_true rfl]
theorem natProducts_walk (a0 : Option Addr) (len0 cap0 : Nat) (z0 : List Int) (a1 : Option Addr) (len1 cap1 : Nat) (z1 : List Int) (w : World)
    (w0 : (a0 = none ∧ len0 = 0 ∧ cap0 = 0 ∧ z0 = []) ∨ ∃ x, a0 = some x ∧ len0 ≤ cap0 ∧ cap0 ≤ maxLen ∧ z0.length = cap0 ∧ (∀ i, i < z0.length → w.cell? (x.add i) = some (.int .u64 (z0.getD i 0))) ∧ ∀ n ∈ z0, (Lit.int .u64 n).wf = true) (y0 : len0 * 8 ≤ 140737488351232)
    (w1 : (a1 = none ∧ len1 = 0 ∧ cap1 = 0 ∧ z1 = []) ∨ ∃ x, a1 = some x ∧ len1 ≤ cap1 ∧ cap1 ≤ maxLen ∧ z1.length = cap1 ∧ (∀ i, i < z1.length → w.cell? (x.add i) = some (.int .u64 (z1.getD i 0))) ∧ ∀ n ∈ z1, (Lit.int .u64 n).wf = true) (y1 : len1 * 8 ≤ 140737488351232) :
    Calls Try.prog 7 #[.slice a0 len0 cap0, .slice a1 len1 cap1] w fun e w' => e = .returned (.bool true) ∧ Below w.heap.size w w' := by
  obtain ⟨a, rfl, hr0, ma, wa, hc0⟩ := ReadsInt.ofRowC w0
  obtain ⟨b, rfl, hr1, mb, wb, hc1⟩ := ReadsInt.ofRowC w1
  have ra := rd_of_C (Kd.C_of_reads (d := (0 : Int)) (h1 := fun _ => rfl) hr0) hc0
  have rb := rd_of_C (Kd.C_of_reads (d := (0 : Int)) (h1 := fun _ => rfl) hr1) hc1
  have ha := dig_of wa
  have hb := dig_of wb
  obtain ⟨K, hK⟩ : ∃ K, K = a.length + b.length + 1000000 := ⟨_, rfl⟩
  have ga := long_spec a ha (by omega) K (by omega)
  have gb := long_spec b hb (by omega) K (by omega)
  by_cases hl : dlen a ≤ 64 ∧ dlen b ≤ 64
  · have e1 : decide (64 < dlen a) = false := by simp; omega
    have e2 : decide (64 < dlen b) = false := by simp; omega
    rw [e1] at ga
    rw [e2] at gb
    obtain ⟨a', ca, da, va, lla⟩ := cut_spec a ha 70 (by omega) (by omega)
    obtain ⟨b', cb, db, vb, llb⟩ := cut_spec b hb 70 (by omega) (by omega)
    have dla : dlen a' = dlen a := by unfold dlen; rw [show val 18446744073709551616 a' = val 18446744073709551616 a from va]
    have dlb : dlen b' = dlen b := by unfold dlen; rw [show val 18446744073709551616 b' = val 18446744073709551616 b from vb]
    have nA := val_nonneg ha
    have nB := val_nonneg hb
    have va' : val 18446744073709551616 a' = val 18446744073709551616 a := va
    have vb' : val 18446744073709551616 b' = val 18446744073709551616 b := vb
    have l16a := len16 nA 64 hl.1
    have l16b := len16 nB 64 hl.2
    have ga' := digs_dig (show 2 ≤ 65536 by decide) (val 18446744073709551616 a)
    have gb' := digs_dig (show 2 ≤ 65536 by decide) (val 18446744073709551616 b)
    have wa' := val_digs (show 2 ≤ 65536 by decide) _ nA
    have wb' := val_digs (show 2 ≤ 65536 by decide) _ nB
    have hprod : (digs 65536 (val 18446744073709551616 a * val 18446744073709551616 b)).length ≤ 512 := by
      refine (digs_len (by decide) _ _ (Int.mul_nonneg nA nB)).2 ?_
      have p3 : ((65536 : Nat) : Int) ^ 512 = ((65536 : Nat) : Int) ^ 256 * ((65536 : Nat) : Int) ^ 256 := by rw [← Int.pow_add]
      rw [p3]
      have q1 := (digs_len (show 2 ≤ 65536 by decide) 256 _ nA).1 l16a
      have q2 := (digs_len (show 2 ≤ 65536 by decide) 256 _ nB).1 l16b
      exact mul_lt nA nB q1 (Int.le_of_lt q2) (Int.lt_of_le_of_lt nB q2)
    have e3 := mul_spec a' b' da db (by omega) (by omega) 5000 rfl K (by omega) (by omega)
    rw [if_pos (by rw [dla, dlb]; exact hl), va', vb'] at e3
    have e4 := div_f a' b' da db (by omega) (by omega)
    rw [if_pos (by rw [dla, dlb]; exact hl), va, vb] at e4
    have e5 := same_self a' (by omega) K (by omega)
    have e6 := same_self b' (by omega) K (by omega)
    have e7 := of_spec a' da (by omega) K (by omega)
    have e8 := of_spec b' db (by omega) K (by omega)
    rw [va'] at e7
    rw [vb'] at e8
    have hm : (digs 65536 (val 18446744073709551616 a)).length * ((digs 65536 (val 18446744073709551616 b)).length + 6) ≤ 256 * 262 := Nat.mul_le_mul l16a (by omega)
    have e9 := rmul_spec _ _ ga' gb' (by omega) (by omega) K (by omega)
    rw [wa', wb'] at e9
    have e10 := to_spec _ (Int.mul_nonneg nA nB) (by omega) K (by omega)
    have hpl : (digs 18446744073709551616 (val 18446744073709551616 a * val 18446744073709551616 b)).length ≤ 4611686018427387904 := by
      refine Nat.le_trans ((digs_len (by decide) 512 _ (Int.mul_nonneg nA nB)).2 ?_) (by decide)
      refine Int.lt_of_lt_of_le ((digs_len (B := 65536) (by decide) 512 _ (Int.mul_nonneg nA nB)).1 hprod) ?_
      exact_mod_cast Nat.pow_le_pow_left (by decide : 65536 ≤ 18446744073709551616) 512
    have hpl2 : (digs 18446744073709551616 (val 18446744073709551616 a * val 18446744073709551616 b)).length ≤ 512 := by
      refine (digs_len (by decide) 512 _ (Int.mul_nonneg nA nB)).2 ?_
      refine Int.lt_of_lt_of_le ((digs_len (B := 65536) (by decide) 512 _ (Int.mul_nonneg nA nB)).1 hprod) ?_
      exact_mod_cast Nat.pow_le_pow_left (by decide : 65536 ≤ 18446744073709551616) 512
    have e11 := same_self (digs 18446744073709551616 (val 18446744073709551616 a * val 18446744073709551616 b)) hpl K (by omega)
    have k3 := copied_spec a' (by omega)
    have k4 := copied_spec b' (by omega)
    by_cases hz : v64 b = 0
    · have hz' : val 18446744073709551616 b = 0 := hz
      rw [if_pos hz] at e4
      exact zero a0 a1 cap0 cap1 _ _ _ _ _ _ _ _ _ _ w ra rb K ga gb ca cb k3 k4 e3 e4 e5 e6 e7 e8 e9 e10 e11 (by rw [hz', digs_zero]; rfl) rfl rfl
    · have hz' : val 18446744073709551616 b ≠ 0 := hz
      have hpos : 0 < val 18446744073709551616 b := by omega
      have hlen : (digs 65536 (val 18446744073709551616 b)).length ≠ 0 := by
        rw [digs_pos (by decide) hpos]; simp
      have t1 : (((digs 65536 (val 18446744073709551616 b)).length : Int) == 0) = false := by
        rw [beq_eq_false_iff_ne]; omega
      rw [if_neg hz] at e4
      by_cases h80 : ((80 : Int) < (digs 65536 (val 18446744073709551616 a)).length)
      · exact big a0 a1 cap0 cap1 _ _ _ _ _ _ _ _ _ _ w ra rb K ga gb ca cb k3 k4 e3 e4 e5 e6 e7 e8 e9 e10 e11 t1 (decide_eq_true h80)
      · have q0 : 0 ≤ v64 a / v64 b := Int.ediv_nonneg nA nB
        have q1 : 0 ≤ v64 a % v64 b := Int.emod_nonneg _ hz
        have q2 : v64 a / v64 b ≤ v64 a := Int.ediv_le_self _ nA
        have q3 : v64 a % v64 b ≤ v64 b := Int.le_of_lt (Int.emod_lt_of_pos _ hpos)
        have f1 := rdiv_spec (val 18446744073709551616 a).toNat (val 18446744073709551616 b).toNat (by omega) (by rw [← rdg_int nA]; omega) (by rw [← rdg_int nB]; omega) 90000 rfl K (by omega)
        have d1 : rdg ((val 18446744073709551616 a).toNat / (val 18446744073709551616 b).toNat) = digs 65536 (v64 a / v64 b) := by
          unfold rdg; rw [Int.natCast_ediv, Int.toNat_of_nonneg nA, Int.toNat_of_nonneg nB]
        have d2 : rdg ((val 18446744073709551616 a).toNat % (val 18446744073709551616 b).toNat) = digs 65536 (v64 a % v64 b) := by
          unfold rdg; rw [Int.natCast_emod, Int.toNat_of_nonneg nA, Int.toNat_of_nonneg nB]
        rw [d1, d2, ← rdg_int nA, ← rdg_int nB] at f1
        have r1 := rlen_mono q0 q2
        have r2 := rlen_mono q1 q3
        have r1' : (digs 65536 (v64 a / v64 b)).length ≤ 256 := Nat.le_trans r1 l16a
        have r2' : (digs 65536 (v64 a % v64 b)).length ≤ 256 := Nat.le_trans r2 l16b
        have f2 := to_spec _ q0 (by omega) K (by omega)
        have f3 := to_spec _ q1 (by omega) K (by omega)
        have s1 := len_mono q0 q2
        have s2 := len_mono q1 q3
        have s1' : (digs 18446744073709551616 (v64 a / v64 b)).length ≤ 64 := Nat.le_trans s1 hl.1
        have s2' : (digs 18446744073709551616 (v64 a % v64 b)).length ≤ 64 := Nat.le_trans s2 hl.2
        have f4 := same_self (digs 18446744073709551616 (v64 a / v64 b)) (by omega) K (by omega)
        have f5 := same_self (digs 18446744073709551616 (v64 a % v64 b)) (by omega) K (by omega)
        exact plain a0 a1 cap0 cap1 _ _ _ _ _ _ _ _ _ _ _ _ w ra rb K ga gb ca cb k3 k4 e3 e4 e5 e6 e7 e8 e9 e10 e11 t1 (decide_eq_false h80) f1 f2 f4 f3 f5
  · have e3 := mul_spec a b ha hb (by omega) (by omega) 5000 rfl K (by omega) (by omega)
    have e4 := div_f a b ha hb (by omega) (by omega)
    rw [if_neg hl] at e3 e4
    by_cases h3 : 64 < dlen a
    · rw [decide_eq_true h3] at ga
      exact long_a a0 a1 cap0 cap1 _ _ w ra rb K ga e3 e4
    · rw [decide_eq_false h3] at ga
      rw [decide_eq_true (show 64 < dlen b by omega)] at gb
      exact long_b a0 a1 cap0 cap1 _ _ w ra rb K ga gb e3 e4
end Go.Proofs.Ytolflieiipnndaa.PureP
