/- NatBack: the law's call answers true. -/
import Derived.Test.YtolflieiipnndaaWalkNatBack
namespace Go.Proofs.Ytolflieiipnndaa.PureK
open Go.RowKit Go.Proofs.Ytolflieiipnndaa Go.Proofs.Ytolflieiipnndaa.X Go.Proofs.Ytolflieiipnndaa.Pure Go.Proofs.YtolflieiipnndaaW.PrintWords Go.Proofs.YtolflieiipnndaaW.PrintLast Go.Proofs.YtolflieiipnndaaW.PrintMore Go.Proofs.Ytolflieiipnndaa.Num
set_option linter.unusedVariables false
/-- A list of digits, its number, no longer than the machine reckons with. -/
structure Nm (l : List Int) (n : Int) : Prop where
  dig : Dig 18446744073709551616 l
  val_ : val 18446744073709551616 l = n
  short : dlen l ≤ 64
  len : l.length ≤ 17592186044416
theorem Nm.of {n : Int} (h0 : 0 ≤ n) (h : n < ((18446744073709551616 : Nat) : Int) ^ 64) : Nm (digs 18446744073709551616 n) n := by
  have v := val_digs (B := 18446744073709551616) (by decide) n h0
  have l := (digs_len (show 2 ≤ 18446744073709551616 by decide) 64 n h0).2 h
  exact ⟨digs_dig (by decide) n, v, by unfold dlen; rw [v]; exact l, by omega⟩
theorem add_nm {a b : List Int} {x y : Int} (ha : Nm a x) (hb : Nm b y) (K : Nat) (hK : 2 * (a.length + b.length) + 200 < K) : nat_Add.f K a b = some (digs 18446744073709551616 (x + y), none) := by
  rw [add_spec a b ha.dig hb.dig ha.len hb.len K (by omega) (by omega), if_pos ⟨ha.short, hb.short⟩, ha.val_, hb.val_]
theorem mul_nm {a b : List Int} {x y : Int} (ha : Nm a x) (hb : Nm b y) (K : Nat) (hK : 2 * (a.length + b.length) + 10000 < K) : nat_Mul.f K a b = some (digs 18446744073709551616 (x * y), none) := by
  have := ha.len
  have := hb.len
  rw [mul_spec a b ha.dig hb.dig (by omega) (by omega) 5000 rfl K (by omega) (by omega), if_pos ⟨ha.short, hb.short⟩, ha.val_, hb.val_]
theorem sub_nm {a b : List Int} {x y : Int} (ha : Nm a x) (hb : Nm b y) (h : y ≤ x) (K : Nat) (hK : 2 * (a.length + b.length) + 200 < K) : nat_Sub.f K a b = some (digs 18446744073709551616 (x - y), none) := by
  rw [sub_spec a b ha.dig hb.dig ha.len hb.len K (by omega) (by omega), if_pos ⟨ha.short, hb.short⟩, ha.val_, hb.val_, if_neg (by omega)]
theorem div_nm {a b : List Int} {x y : Int} (ha : Nm a x) (hb : Nm b y) (h : y ≠ 0) : nat_Div.f a b = some (digs 18446744073709551616 (x / y), digs 18446744073709551616 (x % y), none) := by
  have := ha.len
  have := hb.len
  unfold nat_Div.f
  rw [if_pos ⟨⟨fun z hz => ha.dig z hz, fun z hz => hb.dig z hz⟩, by omega, by omega⟩, if_pos ⟨ha.short, hb.short⟩, show v64 a = x from ha.val_, show v64 b = y from hb.val_, if_neg h]
theorem cmp_nm {a b : List Int} {x y : Int} (ha : Nm a x) (hb : Nm b y) (K : Nat) (hK : a.length + b.length < K) : nat_Cmp.f K a b = some (cmpI x y) := by
  have := ha.len
  have := hb.len
  rw [cmp_spec a b ha.dig hb.dig (by omega) (by omega) K (by omega) (by omega), ha.val_, hb.val_]
theorem norm_nm {a : List Int} {x : Int} (ha : Nm a x) (h : a.length ≤ 17592186044415) (K : Nat) (hK : a.length < K) : nat_Norm.f K a = some (digs 18446744073709551616 x) := by
  rw [norm_spec a ha.dig h K hK, ha.val_]
theorem same_nm (a : List Int) (ha : a.length ≤ 17592186044416) (K : Nat) (hK : a.length < K) : treenailref01_Same.f K a a = some true := by
  rw [same_spec a a (by omega) K hK, decide_eq_true rfl]
theorem Nm.len64 {n : Int} (h : Nm (digs 18446744073709551616 n) n) : (digs 18446744073709551616 n).length ≤ 64 := by
  have := h.short
  unfold dlen at this
  rwa [h.val_] at this
theorem natBack_walk (a0 : Option Addr) (len0 cap0 : Nat) (z0 : List Int) (a1 : Option Addr) (len1 cap1 : Nat) (z1 : List Int) (w : World)
    (w0 : (a0 = none ∧ len0 = 0 ∧ cap0 = 0 ∧ z0 = []) ∨ ∃ x, a0 = some x ∧ len0 ≤ cap0 ∧ cap0 ≤ maxLen ∧ z0.length = cap0 ∧ (∀ i, i < z0.length → w.cell? (x.add i) = some (.int .u64 (z0.getD i 0))) ∧ ∀ n ∈ z0, (Lit.int .u64 n).wf = true) (y0 : len0 * 8 ≤ 140737488351232)
    (w1 : (a1 = none ∧ len1 = 0 ∧ cap1 = 0 ∧ z1 = []) ∨ ∃ x, a1 = some x ∧ len1 ≤ cap1 ∧ cap1 ≤ maxLen ∧ z1.length = cap1 ∧ (∀ i, i < z1.length → w.cell? (x.add i) = some (.int .u64 (z1.getD i 0))) ∧ ∀ n ∈ z1, (Lit.int .u64 n).wf = true) (y1 : len1 * 8 ≤ 140737488351232) :
    Calls Try.prog 9 #[.slice a0 len0 cap0, .slice a1 len1 cap1] w fun e w' => e = .returned (.bool true) ∧ Below w.heap.size w w' := by
  obtain ⟨a, rfl, hr0, ma, wa, hc0⟩ := ReadsInt.ofRowC w0
  obtain ⟨b, rfl, hr1, mb, wb, hc1⟩ := ReadsInt.ofRowC w1
  have ra := rd_of_C (Kd.C_of_reads (d := (0 : Int)) (h1 := fun _ => rfl) hr0) hc0
  have rb := rd_of_C (Kd.C_of_reads (d := (0 : Int)) (h1 := fun _ => rfl) hr1) hc1
  have da := dig_of wa
  have db := dig_of wb
  obtain ⟨K, hK⟩ : ∃ K, K = 4 * (a.length + b.length) + 1000000 := ⟨_, rfl⟩
  have la := limbs_spec a da (by omega) K (by omega)
  have lb := limbs_spec b db (by omega) K (by omega)
  by_cases hla : 31 < dlen a
  · exact long_a a0 a1 cap0 cap1 a b w ra rb K _ 0 la (by omega)
  by_cases hlb : 31 < dlen b
  · exact long_b a0 a1 cap0 cap1 a b w ra rb K _ _ la (by omega) lb (by omega)
  have na : Nm a (val 18446744073709551616 a) := ⟨da, rfl, by omega, by omega⟩
  have nb : Nm b (val 18446744073709551616 b) := ⟨db, rfl, by omega, by omega⟩
  have A0 := val_nonneg da
  have B0 := val_nonneg db
  have A1 := (digs_len (show 2 ≤ 18446744073709551616 by decide) 31 _ A0).1 (show dlen a ≤ 31 by omega)
  have B1 := (digs_len (show 2 ≤ 18446744073709551616 by decide) 31 _ B0).1 (show dlen b ≤ 31 by omega)
  have la0 : (dlen a : Int) ≤ 31 := by omega
  have lb0 : (dlen b : Int) ≤ 31 := by omega
  generalize val 18446744073709551616 a = x at *
  generalize val 18446744073709551616 b = y at *
  obtain ⟨M, hM⟩ : ∃ M : Int, M = ((18446744073709551616 : Nat) : Int) ^ 31 := ⟨_, rfl⟩
  have hM0 : 0 < M := by rw [hM]; exact pow_pos_ (by decide) 31
  have hBig : 4 * (M * M) < ((18446744073709551616 : Nat) : Int) ^ 64 := by rw [hM]; decide
  have hBig2 : M ≤ M * M := by
    have := Int.mul_le_mul_of_nonneg_left (show 1 ≤ M by omega) (Int.le_of_lt hM0)
    rwa [Int.mul_one] at this
  rw [← hM] at A1 B1
  clear hM
  have xy0 : 0 ≤ x * y := Int.mul_nonneg A0 B0
  have xy1 : x * y ≤ M * M := Int.mul_le_mul (Int.le_of_lt A1) (Int.le_of_lt B1) B0 (Int.le_of_lt hM0)
  have nS := Nm.of (n := x + y) (by omega) (by omega)
  have nX := Nm.of (n := x) A0 (by omega)
  have nP := Nm.of xy0 (by omega)
  have n0 : Nm [] 0 := ⟨Dig.nil _, rfl, by simp [dlen, val, digs_zero], by simp⟩
  have lS := nS.len64
  have lX := nX.len64
  have lP := nP.len64
  have f2 := sub_nm nS nb (by omega) K (by omega)
  rw [show x + y - y = x from by omega] at f2
  have f6 := cmp_nm nb n0 K (by simp; omega)
  by_cases hy : y = 0
  · subst hy
    exact zero a0 a1 cap0 cap1 a b _ _ _ w ra rb K _ _ _ 0 la la0 lb lb0 (add_nm na nb K (by omega)) f2 (mul_nm na nb K (by omega)) (norm_nm na (by omega) K (by omega)) (same_nm _ (by omega) K (by omega)) f6 (by simp [cmpI]) (by rw [Int.mul_zero, digs_zero]; rfl)
  · have hpos : 0 < y := by omega
    have k0 := Int.ediv_nonneg A0 B0
    have k1 : x / y ≤ x := Int.ediv_le_self _ A0
    have r0 := Int.emod_nonneg x hy
    have r1 := Int.emod_lt_of_pos x hpos
    have e := Int.emod_add_mul_ediv x y
    have nk := Nm.of k0 (by omega)
    have nl := Nm.of r0 (by omega)
    have hky : x / y * y = x - x % y := by rw [Int.mul_comm]; omega
    have kp := Int.mul_nonneg k0 B0
    have nt := Nm.of (n := x / y * y) kp (by omega)
    have lk := nk.len64
    have ll := nl.len64
    have lt := nt.len64
    have f7 := div_nm nP nb hy
    rw [Int.mul_ediv_cancel _ hy, Int.mul_emod_left, digs_zero] at f7
    have f9 := div_nm na nb hy
    have f10 := mul_nm nk nb K (by omega)
    have f11 := add_nm nt nl K (by omega)
    rw [show x / y * y + x % y = x from by omega] at f11
    have f13 := cmp_nm nl nb K (by omega)
    exact plain a0 a1 cap0 cap1 a b _ _ _ _ _ _ _ w ra rb K _ _ _ _ la la0 lb lb0 (add_nm na nb K (by omega)) f2 (mul_nm na nb K (by omega)) (norm_nm na (by omega) K (by omega)) (same_nm _ (by omega) K (by omega)) f6
      (by unfold cmpI; rw [if_neg (by omega), if_pos hpos]; decide) rfl f7 f9 f10 f11 f13 (by unfold cmpI; rw [if_pos r1]; decide)
end Go.Proofs.Ytolflieiipnndaa.PureK
