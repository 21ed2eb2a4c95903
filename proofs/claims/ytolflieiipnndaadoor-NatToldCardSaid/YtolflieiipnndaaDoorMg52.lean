/- Joined: PureNatTold, Open. -/
import Derived.Test.YtolflieiipnndaaDoorWalkNatTold
import Derived.Test.YtolflieiipnndaaDoorBase
import Derived.Deep.Matrix
import Derived.ShutString
import Derived.ChangeOld
import Derived.SizedLaws
/- NatTold: the law's call answers true. -/
namespace Go.Proofs.YtolflieiipnndaaDoor.PureK
open Go.RowKit Go.Proofs.YtolflieiipnndaaDoor Go.Proofs.YtolflieiipnndaaDoor.X Go.Proofs.YtolflieiipnndaaDoor.Pure Go.Proofs.YtolflieiipnndaaDoorW.PrintWords Go.Proofs.YtolflieiipnndaaDoorW.PrintLast Go.Proofs.YtolflieiipnndaaDoorW.PrintMore Go.Proofs.YtolflieiipnndaaDoor.Num
set_option linter.unusedVariables false
theorem val_zeros (B m : Nat) : val B (List.replicate m 0) = 0 := by
  induction m with
  | zero => rfl
  | succ m ih => rw [List.replicate_succ]; show (0 : Int) + (B : Int) * val B (List.replicate m 0) = 0; rw [ih]; simp
theorem big_gen (k m : Nat) (hk : 64 * k ≤ m) : ((18446744073709551616 : Nat) : Int) ^ k ≤ (2 : Int) ^ m := by
  have h : (18446744073709551616 : Nat) ^ k ≤ 2 ^ m := by
    rw [show (18446744073709551616 : Nat) = 2 ^ 64 from by decide, ← Nat.pow_mul]
    exact Nat.pow_le_pow_right (by decide) hk
  rw [← Int.natCast_pow, show (2 : Int) = ((2 : Nat) : Int) from rfl, ← Int.natCast_pow]
  exact Int.ofNat_le.2 h
theorem same_self (a : List Int) (ha : a.length ≤ 100000) : treenailref01_Same.f 1000000 a a = some true := by
  rw [same_spec a a (by omega) 1000000 (by omega), decide_eq_true rfl]
theorem told_calls (A0 A1 : Option Addr) (c0 c1 : Nat) (la lb : List Int) (n : Int) (w : World) (ha : Rd w (.slice A0 la.length c0) (numv .u64 la)) (hb : Rd w (.slice A1 lb.length c1) (numv .u64 lb)) (hg : Handle w)
    (da : Dig 18446744073709551616 la) (db : Dig 18446744073709551616 lb) (hn : -9223372036854775808 ≤ n ∧ n ≤ 9223372036854775807) :
    Calls Tryd.prog 3 #[.slice A0 la.length c0, .slice A1 lb.length c1, .int .i64 n] w fun e w' => e = .returned (.bool true) ∧ Below w.heap.size w w' := by
  by_cases h0 : 60 < la.length
  · exact long_a A0 A1 c0 c1 la lb n w ha hb hg (by omega)
  by_cases h1 : 60 < lb.length
  · exact long_b A0 A1 c0 c1 la lb n w ha hb hg (by omega) (by omega)
  obtain ⟨p, hp⟩ : ∃ p : Int, p = if n < 0 then -(n + 1) else n := ⟨_, rfl⟩
  have hp0 : 0 ≤ p := by split at hp <;> omega
  obtain ⟨m, hm⟩ := Int.eq_ofNat_of_zero_le (Int.emod_nonneg p (show (9 : Int) ≠ 0 by decide))
  have hm9 : m < 9 := by have := Int.emod_lt_of_pos p (show (0 : Int) < 9 by decide); omega
  have hmt : Int.tmod p 9 = (m : Int) := by rw [tmod_ hp0]; exact hm
  obtain ⟨lX, hX⟩ : ∃ l, l = la ++ List.replicate m 0 := ⟨_, rfl⟩
  have dX : Dig 18446744073709551616 lX := by rw [hX]; exact da.app (Dig.reps (by decide) m)
  have lenX : lX.length ≤ 70 := by rw [hX, List.length_append, List.length_replicate]; omega
  have vX : val 18446744073709551616 lX = val 18446744073709551616 la := by rw [hX, val_append, val_zeros]; simp
  have a0 := val_nonneg da
  have b0 := val_nonneg db
  have a1 : val 18446744073709551616 la < ((18446744073709551616 : Nat) : Int) ^ 60 := (digs_len (show 2 ≤ 18446744073709551616 by decide) 60 _ a0).1 (Nat.le_trans (dlen_le la da) (by omega))
  have b1 : val 18446744073709551616 lb < ((18446744073709551616 : Nat) : Int) ^ 60 := (digs_len (show 2 ≤ 18446744073709551616 by decide) 60 _ b0).1 (Nat.le_trans (dlen_le lb db) (by omega))
  have s1 : dlen la ≤ 64 := Nat.le_trans (dlen_le la da) (by omega)
  have s2 : dlen lb ≤ 64 := Nat.le_trans (dlen_le lb db) (by omega)
  have s3 : dlen lX ≤ 64 := by unfold dlen; rw [vX]; exact s1
  have f1 := add_spec la lb da db (by omega) (by omega) 1000000 (by omega) (by omega)
  have f2 := add_spec lX lb dX db (by omega) (by omega) 1000000 (by omega) (by omega)
  have f3 := mul_spec la lb da db (by omega) (by omega) 5000 rfl 1000000 (by omega) (by omega)
  have f4 := mul_spec lX lb dX db (by omega) (by omega) 5000 rfl 1000000 (by omega) (by omega)
  rw [if_pos ⟨s1, s2⟩] at f1 f3
  rw [if_pos ⟨s3, s2⟩, vX] at f2 f4
  have f11 := norm_spec la da (by omega) 1000000 (by omega)
  have f12 := norm_spec lX dX (by omega) 1000000 (by omega)
  rw [vX] at f12
  have nb : nbits (val 18446744073709551616 la) ≤ 8 * 600 := (nbits_le _ a0 _).2 (Int.lt_of_lt_of_le a1 (big_gen 60 (8 * 600) (by decide)))
  have f14 := bytes_spec la da (by omega) 600 (by omega) 6000 rfl 1000000 (by omega)
  have f15 := bytes_spec lX dX (by omega) 600 (by omega) 6000 rfl 1000000 (by omega)
  rw [vX] at f15
  rw [if_pos nb] at f14 f15
  have f16 := cmp_spec la lX da dX (by omega) (by omega) 1000000 (by omega) (by omega)
  rw [vX, show cmpI (val 18446744073709551616 la) (val 18446744073709551616 la) = 0 by unfold cmpI; rw [if_neg (by omega), if_neg (by omega)]] at f16
  have f17 := bits_spec la da (by omega) 1000000 (by omega)
  have f18 := bits_spec lX dX (by omega) 1000000 (by omega)
  rw [vX] at f18
  have f19 := cmp_spec la lb da db (by omega) (by omega) 1000000 (by omega) (by omega)
  have f20 := cmp_spec lX lb dX db (by omega) (by omega) 1000000 (by omega) (by omega)
  rw [vX] at f20
  obtain ⟨lQ, lR, ee, f5, f6, hE, hQ, hR⟩ : ∃ lQ lR ee, nat_Div.f lb la = some (lQ, lR, ee) ∧ nat_Div.f lb lX = some (lQ, lR, ee) ∧ (∀ x, ee = some x → 1 ≤ x ∧ x ≤ 15) ∧ lQ.length ≤ 100000 ∧ lR.length ≤ 100000 := by
    have e1 : nat_Div.f lb la = if val 18446744073709551616 la = 0 then some ([], [], some 4) else some (digs 18446744073709551616 (val 18446744073709551616 lb / val 18446744073709551616 la), digs 18446744073709551616 (val 18446744073709551616 lb % val 18446744073709551616 la), none) := by
      unfold nat_Div.f
      rw [if_pos ⟨⟨fun z hz => db z hz, fun z hz => da z hz⟩, by omega, by omega⟩, if_pos ⟨s2, s1⟩, show v64 la = val 18446744073709551616 la from rfl, show v64 lb = val 18446744073709551616 lb from rfl]
    have e2 : nat_Div.f lb lX = if val 18446744073709551616 la = 0 then some ([], [], some 4) else some (digs 18446744073709551616 (val 18446744073709551616 lb / val 18446744073709551616 la), digs 18446744073709551616 (val 18446744073709551616 lb % val 18446744073709551616 la), none) := by
      unfold nat_Div.f
      rw [if_pos ⟨⟨fun z hz => db z hz, fun z hz => dX z hz⟩, by omega, by omega⟩, if_pos ⟨s2, s3⟩, show v64 lX = val 18446744073709551616 lX from rfl, vX, show v64 lb = val 18446744073709551616 lb from rfl]
    by_cases hz : val 18446744073709551616 la = 0
    · rw [if_pos hz] at e1 e2
      exact ⟨_, _, _, e1, e2, fun x hx => (by injection hx with hx; omega), by simp, by simp⟩
    · rw [if_neg hz] at e1 e2
      have q0 := Int.ediv_nonneg b0 a0
      have q1 : val 18446744073709551616 lb / val 18446744073709551616 la ≤ val 18446744073709551616 lb := Int.ediv_le_self _ b0
      have r0 := Int.emod_nonneg (val 18446744073709551616 lb) hz
      have r1 := Int.emod_lt_of_pos (val 18446744073709551616 lb) (show 0 < val 18446744073709551616 la by omega)
      exact ⟨_, _, _, e1, e2, fun x hx => (by cases hx), Nat.le_trans ((digs_len (show 2 ≤ 18446744073709551616 by decide) 60 _ q0).2 (by omega)) (by decide), Nat.le_trans ((digs_len (show 2 ≤ 18446744073709551616 by decide) 60 _ r0).2 (by omega)) (by decide)⟩
  have lS : (digs 18446744073709551616 (val 18446744073709551616 la + val 18446744073709551616 lb)).length ≤ 100000 :=
    Nat.le_trans ((digs_len (show 2 ≤ 18446744073709551616 by decide) 61 _ (by omega)).2 (Int.lt_of_lt_of_le (b := ((18446744073709551616 : Nat) : Int) ^ 60 + ((18446744073709551616 : Nat) : Int) ^ 60) (by omega) (by decide))) (by decide)
  have lP : (digs 18446744073709551616 (val 18446744073709551616 la * val 18446744073709551616 lb)).length ≤ 100000 :=
    Nat.le_trans ((digs_len (show 2 ≤ 18446744073709551616 by decide) 121 _ (Int.mul_nonneg a0 b0)).2 (Int.lt_of_le_of_lt (b := ((18446744073709551616 : Nat) : Int) ^ 60 * ((18446744073709551616 : Nat) : Int) ^ 60) (Int.mul_le_mul (Int.le_of_lt a1) (Int.le_of_lt b1) b0 (by decide)) (by decide))) (by decide)
  have lN : (digs 18446744073709551616 (val 18446744073709551616 la)).length ≤ 100000 := Nat.le_trans (dlen_le la da) (by omega)
  have f0 := copied_spec la (by omega)
  have hl : la.length + m ≤ 1000000 := by omega
  have h0' : (la.length : Int) ≤ 60 := by omega
  have h1' : (lb.length : Int) ≤ 60 := by omega
  split at hp
  · rename_i hneg
    exact neg A0 A1 c0 c1 la lb n w ha hb hg lX _ _ lQ lR _ _ 1000000 m ee _ _ h0' h1' hneg hn.1 (by rw [← hp]; exact hmt) f0 f1 f2 f3 f4 f5 f6 (same_self _ lS) (same_self _ lP) (same_self _ hQ) (same_self _ hR) f11 f12 (same_self _ lN) f14 f15 f16 f17 f18 f19 f20 hE hX hl
  · rename_i hneg
    exact plain A0 A1 c0 c1 la lb n w ha hb hg lX _ _ lQ lR _ _ 1000000 m ee _ _ h0' h1' (by omega) (by rw [← hp]; exact hmt) f0 f1 f2 f3 f4 f5 f6 (same_self _ lS) (same_self _ lP) (same_self _ hQ) (same_self _ hR) f11 f12 (same_self _ lN) f14 f15 f16 f17 f18 f19 f20 hE hX hl
end Go.Proofs.YtolflieiipnndaaDoor.PureK

/- Arguments as the walks take them: bytes, slices of bytes. -/
namespace Go.Proofs.YtolflieiipnndaaDoor
open Go.RowKit Go.ChangeShapes Go.WideShapes
set_option linter.unusedVariables false

/-- A slice of slices of whole numbers that is read. -/
def RdRows (k : IntKind) (w : World) (v : Value) (ls : List (List Int)) : Prop :=
  ∃ vs : List Value, vs.length = ls.length ∧ Rd w v vs ∧ ∀ j (h : j < ls.length), ∃ u, vs[j]? = some u ∧ Rd w u (numv k (ls.getD j []))

section
variable {H : Type} {enc : TypeId × Value → H} {P : Program} {W : World} {base : Nat} {held : Bool}

theorem open_nums {t e : TypeId} {k : IntKind} {A : Option Addr} {n c : Nat} {d : DataW H} {ps : List MemPlace} (ht : P.underlying t = some (.slice e)) (he : P.underlying e = some (.int k)) (hc : P.cellsOf e = 1)
    (h : DataW.Trod enc P W base (fun _ => true) held t (.slice A n c) d ps) : ∃ xs : List Int, n = xs.length ∧ Rd W (.slice A n c) (numv k xs) ∧ (∀ x ∈ xs, (Lit.int k x).wf = true) ∧ n ≤ 9223372036854775807 := by
  obtain ⟨fuel, hf⟩ := h
  rcases open_ints ht he hc hf with ⟨hcs, _⟩ | ⟨x, l, c', zs, hcs, _, hl, hm, hz, _, hcell, hwz⟩
  · simp [Value.cells] at hcs
    obtain ⟨rfl, rfl, rfl⟩ := hcs
    exact ⟨[], rfl, Rd.nil W, by simp, by simp⟩
  · simp [Value.cells] at hcs
    obtain ⟨rfl, rfl, rfl⟩ := hcs
    simp only [if_true] at hz
    have hlen : (zs.take n).length = n := by rw [List.length_take]; omega
    have hm' : n ≤ 9223372036854775807 := by simp only [maxLen] at hm; omega
    refine ⟨zs.take n, hlen.symm, ⟨some x, c, by rw [numv_length, hlen], by rw [numv_length, hlen]; exact hl, by rw [numv_length, hlen]; exact hm', fun hp => ⟨x, rfl, ?_, fun j u hu => ?_⟩⟩, fun y hy => hwz y (List.mem_of_mem_take hy), hm'⟩
    · rw [numv_length, hlen] at hp
      have := World.block_lt_of_cell? W _ (hcell 0 (by omega))
      rwa [add_blk] at this
    · have hj : j < n := by
        have := (List.getElem?_eq_some_iff.1 hu).1
        rwa [numv_length, hlen] at this
      rw [numv_get k _ j (by omega)] at hu
      rw [← hu, hcell j (by omega)]
      congr 2
      rw [List.getD_eq_getElem?_getD, List.getD_eq_getElem?_getD, List.getElem?_take, if_pos hj]

theorem open_rows {t e q : TypeId} {k : IntKind} {A : Option Addr} {n c : Nat} {d : DataW H} {ps : List MemPlace} (ht : P.underlying t = some (.slice e)) (he : P.underlying e = some (.slice q)) (hq : P.underlying q = some (.int k)) (ce : P.cellsOf e = 1) (cq : P.cellsOf q = 1)
    (h : DataW.Trod enc P W base (fun _ => true) held t (.slice A n c) d ps) : ∃ ls : List (List Int), n = ls.length ∧ RdRows k W (.slice A n c) ls ∧ (∀ l ∈ ls, ∀ x ∈ l, (Lit.int k x).wf = true) ∧ n ≤ 9223372036854775807 := by
  obtain ⟨fuel, hf⟩ := h
  rcases Go.Deep.open_int_rows ht he hq ce cq hf with ⟨hcs, _⟩ | ⟨a, len, cap, A', L, C, Z, hcs, _, hl, hm, _, hrow⟩
  · simp [Value.cells] at hcs
    obtain ⟨rfl, rfl, rfl⟩ := hcs
    exact ⟨[], rfl, ⟨[], rfl, Rd.nil W, fun j hj => absurd hj (by simp)⟩, by simp, by simp⟩
  · simp [Value.cells] at hcs
    obtain ⟨rfl, rfl, rfl⟩ := hcs
    have hm' : n ≤ 9223372036854775807 := by simp only [maxLen] at hm; omega
    refine ⟨(List.range n).map fun r => (Z r).take (L r), by simp, ⟨(List.range n).map fun r => .slice (A' r) (L r) (C r), by simp, ⟨some a, c, by simp, by simpa using hl, by simpa using hm', fun hp => ⟨a, rfl, ?_, fun j u hu => ?_⟩⟩, fun j hj => ?_⟩, ?_, hm'⟩
    · simp at hp
      have := World.block_lt_of_cell? W _ (hrow 0 (by omega)).1
      rwa [add_blk] at this
    · have hj : j < n := by
        have := (List.getElem?_eq_some_iff.1 hu).1
        simpa using this
      simp [hj] at hu
      rw [← hu]
      exact (hrow j (by omega)).1
    · simp at hj
      refine ⟨.slice (A' j) (L j) (C j), by simp [hj], ?_⟩
      obtain ⟨r0, r1, r2, r3, r4, r5, r6⟩ := hrow j (by omega)
      have hlen : ((Z j).take (L j)).length = L j := by rw [List.length_take]; omega
      have e : ((List.range n).map fun r => (Z r).take (L r)).getD j [] = (Z j).take (L j) := by
        rw [List.getD_eq_getElem?_getD]
        simp [hj]
      rw [e]
      have hLm : L j ≤ 9223372036854775807 := by simp only [maxLen] at r2; omega
      refine ⟨A' j, C j, by rw [numv_length, hlen], by rw [numv_length, hlen]; exact r1, by rw [numv_length, hlen]; exact hLm, fun hp => ?_⟩
      rw [numv_length, hlen] at hp
      cases hA : A' j with
      | none => have := r5 hA; omega
      | some x =>
        have hx := (r6 x hA).2
        refine ⟨x, rfl, ?_, fun i u hu => ?_⟩
        · have := World.block_lt_of_cell? W _ (hx 0 (by omega))
          rwa [add_blk] at this
        · have hi : i < L j := by
            have := (List.getElem?_eq_some_iff.1 hu).1
            rwa [numv_length, hlen] at this
          rw [numv_get k _ i (by omega)] at hu
          rw [← hu, hx i (by omega)]
          congr 2
          rw [List.getD_eq_getElem?_getD, List.getD_eq_getElem?_getD, List.getElem?_take, if_pos hi]
    · intro l hl x hx
      simp only [List.mem_map, List.mem_range] at hl
      obtain ⟨r, hr, rfl⟩ := hl
      exact (hrow r (by omega)).2.2.2.2.1 x (List.mem_of_mem_take hx)
end
theorem wf_i64 {x : Int} (h : (Lit.int .i64 x).wf = true) : -9223372036854775808 ≤ x ∧ x ≤ 9223372036854775807 := by simpa [Lit.wf, IntKind.min, IntKind.max, IntKind.signed, IntKind.bits] using h
theorem wf_u8 {x : Int} (h : (Lit.int .u8 x).wf = true) : 0 ≤ x ∧ x ≤ 255 := by simpa [Lit.wf, IntKind.min, IntKind.max, IntKind.signed, IntKind.bits] using h
theorem wf_u64 {x : Int} (h : (Lit.int .u64 x).wf = true) : 0 ≤ x ∧ x ≤ 18446744073709551615 := by simpa [Lit.wf, IntKind.min, IntKind.max, IntKind.signed, IntKind.bits] using h
theorem own : ownKnob Tryd.prog.godebug = none := by kernel_rfl
theorem laidOut : laidOutB Tryd.prog = true := by kernel_rfl
end Go.Proofs.YtolflieiipnndaaDoor
