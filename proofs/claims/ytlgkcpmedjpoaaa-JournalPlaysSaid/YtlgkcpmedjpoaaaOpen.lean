/- Arguments as the walks take them: bytes, slices of bytes. -/
import Derived.Test.YtlgkcpmedjpoaaaBase
import Derived.Deep.Matrix
import Derived.ShutString
import Derived.ChangeOld
import Derived.SizedLaws
namespace Go.Proofs.Ytlgkcpmedjpoaaa
open Go.RowKit Go.ChangeShapes Go.WideShapes
set_option linter.unusedVariables false

/-- A slice of slices of whole numbers that is read. -/
def RdRows (k : IntKind) (w : World) (v : Value) (ls : List (List Int)) : Prop :=
  ∃ vs : List Value, vs.length = ls.length ∧ Rd w v vs ∧ ∀ j (h : j < ls.length), ∃ u, vs[j]? = some u ∧ Rd w u (numv k (ls.getD j []))

section
variable {H : Type} {enc : TypeId × Value → H} {P : Program} {W : World} {base : Nat} {held : Bool}

theorem open_nums {t e : TypeId} {k : IntKind} {A : Option Addr} {n c : Nat} {d : DataW H} {ps : List MemPlace} (ht : P.underlying t = some (.slice e)) (he : P.underlying e = some (.int k)) (hc : P.cellsOf e = 1)
    (h : DataW.Trod enc P W base (fun _ => true) held t (.slice A n c) d ps) : ∃ xs : List Int, n = xs.length ∧ Rd W (.slice A n c) (numv k xs) ∧ (∀ x ∈ xs, (Lit.int k x).wf = true) ∧ n ≤ 9223372036854775807 := by
  obtain ⟨fuel, hf⟩ := h
  rcases open_ints ht he hc hf with ⟨hcs, _⟩ | ⟨x, l, c', zs, hcs, _, hl, hm, hz, _, hcell, hwz⟩
  · simp [Value.cells] at hcs
    obtain ⟨rfl, rfl, rfl⟩ := hcs
    exact ⟨[], rfl, Rd.nil W, by simp, by simp⟩
  · simp [Value.cells] at hcs
    obtain ⟨rfl, rfl, rfl⟩ := hcs
    simp only [if_true] at hz
    have hlen : (zs.take n).length = n := by rw [List.length_take]; omega
    have hm' : n ≤ 9223372036854775807 := by simp only [maxLen] at hm; omega
    refine ⟨zs.take n, hlen.symm, ⟨some x, c, by rw [numv_length, hlen], by rw [numv_length, hlen]; exact hl, by rw [numv_length, hlen]; exact hm', fun hp => ⟨x, rfl, ?_, fun j u hu => ?_⟩⟩, fun y hy => hwz y (List.mem_of_mem_take hy), hm'⟩
    · rw [numv_length, hlen] at hp
      have := World.block_lt_of_cell? W _ (hcell 0 (by omega))
      rwa [add_blk] at this
    · have hj : j < n := by
        have := (List.getElem?_eq_some_iff.1 hu).1
        rwa [numv_length, hlen] at this
      rw [numv_get k _ j (by omega)] at hu
      rw [← hu, hcell j (by omega)]
      congr 2
      rw [List.getD_eq_getElem?_getD, List.getD_eq_getElem?_getD, List.getElem?_take, if_pos hj]

theorem open_rows {t e q : TypeId} {k : IntKind} {A : Option Addr} {n c : Nat} {d : DataW H} {ps : List MemPlace} (ht : P.underlying t = some (.slice e)) (he : P.underlying e = some (.slice q)) (hq : P.underlying q = some (.int k)) (ce : P.cellsOf e = 1) (cq : P.cellsOf q = 1)
    (h : DataW.Trod enc P W base (fun _ => true) held t (.slice A n c) d ps) : ∃ ls : List (List Int), n = ls.length ∧ RdRows k W (.slice A n c) ls ∧ (∀ l ∈ ls, ∀ x ∈ l, (Lit.int k x).wf = true) ∧ n ≤ 9223372036854775807 := by
  obtain ⟨fuel, hf⟩ := h
  rcases Go.Deep.open_int_rows ht he hq ce cq hf with ⟨hcs, _⟩ | ⟨a, len, cap, A', L, C, Z, hcs, _, hl, hm, _, hrow⟩
  · simp [Value.cells] at hcs
    obtain ⟨rfl, rfl, rfl⟩ := hcs
    exact ⟨[], rfl, ⟨[], rfl, Rd.nil W, fun j hj => absurd hj (by simp)⟩, by simp, by simp⟩
  · simp [Value.cells] at hcs
    obtain ⟨rfl, rfl, rfl⟩ := hcs
    have hm' : n ≤ 9223372036854775807 := by simp only [maxLen] at hm; omega
    refine ⟨(List.range n).map fun r => (Z r).take (L r), by simp, ⟨(List.range n).map fun r => .slice (A' r) (L r) (C r), by simp, ⟨some a, c, by simp, by simpa using hl, by simpa using hm', fun hp => ⟨a, rfl, ?_, fun j u hu => ?_⟩⟩, fun j hj => ?_⟩, ?_, hm'⟩
    · simp at hp
      have := World.block_lt_of_cell? W _ (hrow 0 (by omega)).1
      rwa [add_blk] at this
    · have hj : j < n := by
        have := (List.getElem?_eq_some_iff.1 hu).1
        simpa using this
      simp [hj] at hu
      rw [← hu]
      exact (hrow j (by omega)).1
    · simp at hj
      refine ⟨.slice (A' j) (L j) (C j), by simp [hj], ?_⟩
      obtain ⟨r0, r1, r2, r3, r4, r5, r6⟩ := hrow j (by omega)
      have hlen : ((Z j).take (L j)).length = L j := by rw [List.length_take]; omega
      have e : ((List.range n).map fun r => (Z r).take (L r)).getD j [] = (Z j).take (L j) := by
        rw [List.getD_eq_getElem?_getD]
        simp [hj]
      rw [e]
      have hLm : L j ≤ 9223372036854775807 := by simp only [maxLen] at r2; omega
      refine ⟨A' j, C j, by rw [numv_length, hlen], by rw [numv_length, hlen]; exact r1, by rw [numv_length, hlen]; exact hLm, fun hp => ?_⟩
      rw [numv_length, hlen] at hp
      cases hA : A' j with
      | none => have := r5 hA; omega
      | some x =>
        have hx := (r6 x hA).2
        refine ⟨x, rfl, ?_, fun i u hu => ?_⟩
        · have := World.block_lt_of_cell? W _ (hx 0 (by omega))
          rwa [add_blk] at this
        · have hi : i < L j := by
            have := (List.getElem?_eq_some_iff.1 hu).1
            rwa [numv_length, hlen] at this
          rw [numv_get k _ i (by omega)] at hu
          rw [← hu, hx i (by omega)]
          congr 2
          rw [List.getD_eq_getElem?_getD, List.getD_eq_getElem?_getD, List.getElem?_take, if_pos hi]
    · intro l hl x hx
      simp only [List.mem_map, List.mem_range] at hl
      obtain ⟨r, hr, rfl⟩ := hl
      exact (hrow r (by omega)).2.2.2.2.1 x (List.mem_of_mem_take hx)
end
theorem wf_i64 {x : Int} (h : (Lit.int .i64 x).wf = true) : -9223372036854775808 ≤ x ∧ x ≤ 9223372036854775807 := by simpa [Lit.wf, IntKind.min, IntKind.max, IntKind.signed, IntKind.bits] using h
theorem wf_u8 {x : Int} (h : (Lit.int .u8 x).wf = true) : 0 ≤ x ∧ x ≤ 255 := by simpa [Lit.wf, IntKind.min, IntKind.max, IntKind.signed, IntKind.bits] using h
theorem wf_u64 {x : Int} (h : (Lit.int .u64 x).wf = true) : 0 ≤ x ∧ x ≤ 18446744073709551615 := by simpa [Lit.wf, IntKind.min, IntKind.max, IntKind.signed, IntKind.bits] using h
theorem own : ownKnob Try.prog.godebug = none := by kernel_rfl
theorem laidOut : laidOutB Try.prog = true := by kernel_rfl
end Go.Proofs.Ytlgkcpmedjpoaaa
