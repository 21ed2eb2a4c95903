/- An argument that is a slice of deeds (two numbers and bytes), opened. -/
import Derived.Test.YtlgkcpmedjpoaaaPlays
import Derived.Deep.Strs
import Derived.Deep.Slices
namespace Go.Proofs.Ytlgkcpmedjpoaaa.X
open Go.RowKit Go.Proofs.Ytlgkcpmedjpoaaa Go.ChangeShapes Go.WideShapes Go.Deep
set_option linter.unusedVariables false
theorem open_deeds {H : Type} {enc : TypeId × Value → H} {W : World} {base : Nat} {held : Bool} {A : Option Addr} {n c : Nat} {d : DataW H} {ps : List MemPlace}
    (h : DataW.Trod enc Try.prog W base (fun _ => true) held 48 (.slice A n c) d ps) : RdDeeds W A n := by
  obtain ⟨fuel, hf⟩ := h
  have hC : Try.prog.cellsOf 57 = 3 := by kernel_rfl
  rcases open_slice Try.underlying48 hf with ⟨hcs, _⟩ | ⟨a, len, cap, m, q, D, Pl, hcs, _, hl, hm, hmm, _, hi⟩
  · simp [Value.cells] at hcs
    obtain ⟨rfl, rfl, rfl⟩ := hcs
    exact ⟨by omega, fun i hi => by omega⟩
  · simp [Value.cells] at hcs
    obtain ⟨rfl, rfl, rfl⟩ := hcs
    simp only [if_true] at hmm
    subst hmm
    refine ⟨by simp only [maxLen] at hm; omega, fun i hin => ?_⟩
    obtain ⟨cs', h1, h2⟩ := hi i (by omega)
    rw [hC] at h1
    obtain ⟨_, hcl, hat⟩ := World.cells?_some h1
    obtain ⟨y0, y1, y2, q', _, _, t0, t1, t2⟩ := trod_struct3 Try.underlying57 h2
    match cs', hcl with
    | [c0, c1, c2], _ =>
      have e3 : Try.prog.cellsOf 3 = 1 := by kernel_rfl
      have e22 : Try.prog.cellsOf 22 = 1 := by kernel_rfl
      simp only [e3, e22, List.drop_zero, List.drop_succ_cons, List.take_succ_cons, List.take_zero] at t0 t1 t2
      obtain ⟨x, hx, _, wx⟩ := DataW.trod_int Try.underlying3 t0
      obtain ⟨y, hy, _, wy⟩ := DataW.trod_int Try.underlying3 t1
      injection hx with hx _
      injection hy with hy _
      have k0 : W.cell? (a.add (i * 3)) = some c0 := by
        have := hat 0 (by omega)
        simpa [Addr.add] using this
      have k1 : W.cell? ⟨(a.add (i * 3)).block, (a.add (i * 3)).off + 1, none⟩ = some c1 := by
        have := hat 1 (by omega)
        rw [add_pos _ 1 (by omega)] at this
        simpa using this
      have k2 : W.cell? ⟨(a.add (i * 3)).block, (a.add (i * 3)).off + 2, none⟩ = some c2 := by
        have := hat 2 (by omega)
        rw [add_pos _ 2 (by omega)] at this
        simpa using this
      subst hx hy
      have hsl : ∃ B len d, c2 = .slice B len d := by
        rcases open_ints Try.underlying22 Try.underlying5 (by kernel_rfl) t2 with ⟨h, _⟩ | ⟨x', l', c', zs, h, _⟩
        · injection h with h; exact ⟨_, _, _, h⟩
        · injection h with h; exact ⟨_, _, _, h⟩
      obtain ⟨B, len, dd, rfl⟩ := hsl
      obtain ⟨xs, hn, hr, hw, _⟩ := open_nums (t := 22) (e := 5) (k := .u8) (A := B) (n := len) (c := dd) (P := Try.prog) (W := W) (base := base) (held := held) (enc := enc) (d := y2.1) (ps := y2.2) Try.underlying22 Try.underlying5 (by kernel_rfl) ⟨q', by simpa [Value.cells] using t2⟩
      exact ⟨a, ⟨x, y, B, len, dd, xs⟩, rfl, k0, k1, k2, hr, fun z hz => by have := wf_u8 (hw z hz); omega, wf_i64 wx, wf_i64 wy⟩
end Go.Proofs.Ytlgkcpmedjpoaaa.X
