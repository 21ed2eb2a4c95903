/- The document's disk (treenailref12.Disk): what its methods leave, told by the program's disk's numbers. -/
import Derived.Test.YtlgkcpmedjpoaaaJLasts
import Derived.StillTailTactics
import Derived.Deep.RegionHeldLaw
import Derived.Deep.RegionLaw
import Derived.Deep.CutBlock
namespace Go.Proofs.Ytlgkcpmedjpoaaa.X
open Go.RowKit Go.Proofs.Ytlgkcpmedjpoaaa Go.Proofs.YtlgkcpmedjpoaaaW.PrintWords Go.Proofs.YtlgkcpmedjpoaaaW.PrintLast Go.Proofs.YtlgkcpmedjpoaaaW.PrintMore
set_option linter.unusedVariables false
set_option linter.unusedSimpArgs false
/-- The struct's cells. -/
def rcs (v : Value) (sy : Int) (off : Bool) (st : Int) (has : Bool) (bud : Int) : Array Value := #[v, .int .i64 sy, .bool off, .int .i64 st, .bool has, .int .i64 bud]
def RBlk (w : World) (g : Nat) (v : Value) (sy : Int) (off : Bool) (st : Int) (has : Bool) (bud : Int) : Prop := w.heap[g]? = some (.cells (rcs v sy off st has bud) 51 (0, 0))
theorem RBlk.cell {w : World} {g : Nat} {v : Value} {sy : Int} {off : Bool} {st : Int} {has : Bool} {bud : Int} (h : RBlk w g v sy off st has bud) :
    w.cell? ⟨g, 0, none⟩ = some v ∧ w.cell? ⟨g, 1, none⟩ = some (.int .i64 sy) ∧ w.cell? ⟨g, 2, none⟩ = some (.bool off) ∧ w.cell? ⟨g, 3, none⟩ = some (.int .i64 st) ∧ w.cell? ⟨g, 4, none⟩ = some (.bool has) ∧ w.cell? ⟨g, 5, none⟩ = some (.int .i64 bud) := by
  refine ⟨?_, ?_, ?_, ?_, ?_, ?_⟩ <;> (rw [cell_of_row _ _ _ _ _ _ h]; rfl)
theorem RBlk.free {w : World} {g : Nat} {v : Value} {sy : Int} {off : Bool} {st : Int} {has : Bool} {bud : Int} (h : RBlk w g v sy off st has bud) (j : Nat) : w.frozen? ⟨g, j, none⟩ = false := frozen_of_row _ _ _ _ _ h
section
variable {w : World} {g : Nat} {v : Value} {sy : Int} {off : Bool} {st : Int} {has : Bool} {bud : Int}
theorem RBlk.set0 (h : RBlk w g v sy off st has bud) (u : Value) : RBlk (w.setCell ⟨g, 0, none⟩ u) g u sy off st has bud := heap_setCell_same w g 0 _ _ _ h
theorem RBlk.set1 (h : RBlk w g v sy off st has bud) (x : Int) : RBlk (w.setCell ⟨g, 1, none⟩ (.int .i64 x)) g v x off st has bud := heap_setCell_same w g 1 _ _ _ h
theorem RBlk.set2 (h : RBlk w g v sy off st has bud) (x : Bool) : RBlk (w.setCell ⟨g, 2, none⟩ (.bool x)) g v sy x st has bud := heap_setCell_same w g 2 _ _ _ h
theorem RBlk.set3 (h : RBlk w g v sy off st has bud) (x : Int) : RBlk (w.setCell ⟨g, 3, none⟩ (.int .i64 x)) g v sy off x has bud := heap_setCell_same w g 3 _ _ _ h
theorem RBlk.set4 (h : RBlk w g v sy off st has bud) (x : Bool) : RBlk (w.setCell ⟨g, 4, none⟩ (.bool x)) g v sy off st x bud := heap_setCell_same w g 4 _ _ _ h
theorem RBlk.set5 (h : RBlk w g v sy off st has bud) (x : Int) : RBlk (w.setCell ⟨g, 5, none⟩ (.int .i64 x)) g v sy off st has x := heap_setCell_same w g 5 _ _ _ h
end
def hasB (S : DS) : Bool := !decide (S.left = 0)
/-- Block g is the document's disk, as the program's disk S stands. -/
structure RefAt (w : World) (base g : Nat) (v : Value) (S : DS) : Prop where
  blk : ∃ bud, RBlk w g v S.synced S.off S.steps (hasB S) bud ∧ (S.left ≠ 0 → bud = S.left - 1)
  own : w.ownsRow base 5 1 v S.b.length (numv .u8 S.b)
  lo : base ≤ g
theorem RefAt.lt {w : World} {base g : Nat} {v : Value} {S : DS} (h : RefAt w base g v S) : g < w.heap.size := by
  obtain ⟨bud, hb, _⟩ := h.blk
  exact blkLt hb
theorem own_ne {w : World} {base g : Nat} {v : Value} {sy : Int} {off : Bool} {st : Int} {has : Bool} {bud : Int} {u : Value} {n : Nat} {xs : List Value} (hb : RBlk w g v sy off st has bud) (ho : w.ownsRow base 5 1 u n xs) : u.ownBlock ≠ some g := own_blk_ne ho hb (by decide)
theorem own_set {w : World} {base g j : Nat} {x : Value} {v : Value} {sy : Int} {off : Bool} {st : Int} {has : Bool} {bud : Int} {u : Value} {n : Nat} {xs : List Value} (hb : RBlk w g v sy off st has bud) (ho : w.ownsRow base 5 1 u n xs) : (w.setCell ⟨g, j, none⟩ x).ownsRow base 5 1 u n xs :=
  own_keeps ho (keeps_g w g j x) (fun k hk e => own_ne hb ho (by rw [hk, e]))
set_option maxHeartbeats 1000000 in
theorem rstep_calls (base g : Nat) (v : Value) (S : DS) (w : World) (h : RefAt w base g v S) (hs : 0 ≤ S.steps ∧ S.steps < 1000000000) (hl : 0 ≤ S.left ∧ S.left < 1000000000) :
    Calls Try.prog 42 #[.pointer (some ⟨g, 0, none⟩)] w fun e w' => e = .returned (.bool S.on) ∧ RefAt w' base g v S.step ∧ Keeps (fun k => k = g) w w' := by
  obtain ⟨bud, hb, hbud⟩ := h.blk
  have H := Lib.hid hb
  have HO := Lib.hid h.own
  have HL := Lib.hid h.lo
  obtain ⟨c0, c1, c2, c3, c4, c5⟩ := hb.cell
  have f1 := hb.free 1
  have f2 := hb.free 2
  have f3 := hb.free 3
  have f4 := hb.free 4
  have f5 := hb.free 5
  clear h hb
  obtain ⟨sb, sy, so, st, sl⟩ := S
  simp only at *
  by_cases h0 : sl = 0
  · subst h0
    rw [show hasB ⟨sb, sy, so, st, 0⟩ = false from rfl] at c4 H
    clear hbud
    go_enter Try.func42, Try.ntmps42
    go_wp2
    go_ret
    exact ⟨rfl, ⟨⟨bud, H.out.set3 _, fun h => absurd rfl h⟩, own_set H.out HO.out, HL.out⟩, keeps_g _ _ _ _⟩
  have hh : hasB ⟨sb, sy, so, st, sl⟩ = true := by simp [hasB, h0]
  rw [hh] at c4 H
  by_cases h1 : sl = 1
  · subst h1
    obtain rfl := hbud (by decide)
    clear hh h0
    go_enter Try.func42, Try.ntmps42
    go_wp2
    go_ret
    exact ⟨rfl, ⟨⟨_, (H.out.set3 _).set2 _, fun h => rfl⟩, own_set (H.out.set3 _) (own_set H.out HO.out), HL.out⟩, keeps_gg (keeps_g _ _ _ _) (keeps_g _ _ _ _)⟩
  · obtain rfl := hbud h0
    have hz : ((sl - 1 : Int) == 0) = false := by rw [beq_eq_false_iff_ne]; omega
    have E1 := Lib.hid (show DS.on ⟨sb, sy, so, st, sl⟩ = true by simp [DS.on, h1])
    have E2 := Lib.hid (show DS.step ⟨sb, sy, so, st, sl⟩ = ⟨sb, sy, so, st + 1, sl - 1⟩ by simp [DS.step, h0, h1])
    have hl2 : (2 : Int) ≤ sl := by omega
    have HH := Lib.hid (show hasB ⟨sb, sy, so, st + 1, sl - 1⟩ = true by simp [hasB]; omega)
    clear h0 h1 hh hbud
    go_enter Try.func42, Try.ntmps42
    go_wp2
    go_ret
    rw [E1.out, E2.out]
    refine ⟨rfl, ⟨⟨sl - 1 - 1, ?_, fun h => rfl⟩, own_set (H.out.set3 _) (own_set H.out HO.out), HL.out⟩, keeps_gg (keeps_g _ _ _ _) (keeps_g _ _ _ _)⟩
    rw [HH.out]
    exact (H.out.set3 _).set5 _
/-- What a method that may write the bytes leaves. -/
def RefLeft (base g : Nat) (v : Value) (w : World) (S : DS) (w' : World) : Prop :=
  ∃ v', RefAt w' base g v' S ∧ Keeps (fun k => k = g ∨ some k = v.ownBlock) w w' ∧ (v'.ownBlock = v.ownBlock ∨ ∃ k, v'.ownBlock = some k ∧ w.heap.size ≤ k)
theorem RefLeft.same {base g : Nat} {v : Value} {w w' : World} {S : DS} (h : RefAt w' base g v S) (hk : Keeps (fun k => k = g) w w') : RefLeft base g v w S w' := ⟨v, h, keeps_left hk, .inl rfl⟩
set_option maxHeartbeats 1000000 in
theorem rsync_calls (base g : Nat) (v : Value) (S : DS) (w : World) (h : RefAt w base g v S) (ho : S.ok) :
    Calls Try.prog 25 #[.pointer (some ⟨g, 0, none⟩)] w fun e w' => e = .returned (.int .i64 S.syncE) ∧ RefLeft base g v w S.sync w' := by
  obtain ⟨bud, hb, hbud⟩ := h.blk
  have H := Lib.hid h
  obtain ⟨c0, c1, c2, c3, c4, c5⟩ := hb.cell
  clear h hb hbud
  by_cases hf : S.off = true
  · have E1 := Lib.hid (show S.sync = S by simp [DS.sync, hf])
    have E2 := Lib.hid (show S.syncE = 12 by simp [DS.syncE, hf])
    rw [hf] at c2
    clear hf
    go_enter Try.func25, Try.ntmps25
    go_wp2
    go_ret
    rw [E1.out, E2.out]
    exact ⟨rfl, .same H.out (Keeps.refl _ _)⟩
  have hf' : S.off = false := by simpa using hf
  rw [hf'] at c2
  have HS := Lib.hid (rstep_calls base g v S w H.out ho.1 ho.2.1)
  have hmax : (S.b.length : Int) ≤ 67108864 := by have := ho.2.2.1; omega
  by_cases hon : S.on = true
  · have E1 := Lib.hid (show S.sync = { S.step with synced := S.b.length } by simp [DS.sync, hf', hon])
    have E2 := Lib.hid (show S.syncE = 0 by simp [DS.syncE, hf', hon])
    have E3 := Lib.hid (step_b S)
    rw [hon] at HS
    clear hf hf' hon ho
    go_enter Try.func25, Try.ntmps25
    go_wp2_with fail
    refine HS.out.mono ?_
    rintro e w1 ⟨rfl, hd, hk⟩
    obtain ⟨bud1, hb1, hbud1⟩ := hd.blk
    obtain ⟨A, cc, rfl⟩ := ownSlice hd.own
    obtain ⟨d0, d1, d2, d3, d4, d5⟩ := hb1.cell
    rw [E3.out] at d0
    have f1 := hb1.free 1
    have HB1 := Lib.hid hb1
    have HBU := Lib.hid hbud1
    have HD := Lib.hid hd
    have HK := Lib.hid hk
    clear hd hk hb1 hbud1
    go_wp2
    go_ret
    rw [E1.out, E2.out]
    exact ⟨rfl, .same ⟨⟨bud1, HB1.out.set1 _, HBU.out⟩, own_set HB1.out HD.out.own, HD.out.lo⟩ (keeps_gg HK.out (keeps_g _ _ _ _))⟩
  · have hon' : S.on = false := by simpa using hon
    have E1 := Lib.hid (show S.sync = S.step by simp [DS.sync, hf', hon'])
    have E2 := Lib.hid (show S.syncE = 12 by simp [DS.syncE, hf', hon'])
    rw [hon'] at HS
    clear hf hf' hon hon' ho
    go_enter Try.func25, Try.ntmps25
    go_wp2_with fail
    refine HS.out.mono ?_
    rintro e w1 ⟨rfl, hd, hk⟩
    have HD := Lib.hid hd
    have HK := Lib.hid hk
    clear hd hk
    go_wp2
    go_ret
    rw [E1.out, E2.out]
    exact ⟨rfl, .same HD.out HK.out⟩
set_option maxHeartbeats 1000000 in
theorem rcut_calls (base g : Nat) (v : Value) (S : DS) (w : World) (h : RefAt w base g v S) (n : Int) (hn : n < 1000000) :
    Calls Try.prog 29 #[.pointer (some ⟨g, 0, none⟩), .int .i64 n] w fun e w' => e = .returned (.int .i64 (S.cutE n)) ∧ RefLeft base g v w (S.cut n) w' := by
  obtain ⟨bud, hb, hbud⟩ := h.blk
  have H := Lib.hid h
  have HB := Lib.hid hb
  obtain ⟨c0, c1, c2, c3, c4, c5⟩ := hb.cell
  have f4 := hb.free 4
  have f5 := hb.free 5
  clear h hb hbud
  by_cases hneg : n < 0
  · have E1 := Lib.hid (show S.cut n = S by simp [DS.cut, hneg])
    have E2 := Lib.hid (show S.cutE n = 1 by simp [DS.cutE, hneg])
    go_enter Try.func29, Try.ntmps29
    go_wp2
    go_ret
    rw [E1.out, E2.out]
    exact ⟨rfl, .same H.out (Keeps.refl _ _)⟩
  have hnn : 0 ≤ n := by omega
  cases hf : S.off
  · have E1 := Lib.hid (show S.cut n = { S with left := n + 1 } by simp [DS.cut, hneg, hf])
    have E2 := Lib.hid (show S.cutE n = 0 by simp [DS.cutE, hneg, hf])
    have HH := Lib.hid (show hasB { S with left := n + 1 } = true by simp [hasB]; omega)
    rw [hf] at c2
    clear hneg hf
    go_enter Try.func29, Try.ntmps29
    go_wp2
    go_ret
    rw [E1.out, E2.out]
    refine ⟨rfl, .same ⟨⟨n, ?_, fun _ => by simp only; omega⟩, own_set (HB.out.set4 true) (own_set HB.out H.out.own), H.out.lo⟩ (keeps_gg (keeps_g _ _ _ _) (keeps_g _ _ _ _))⟩
    rw [HH.out]
    exact (HB.out.set4 _).set5 _
  · have E1 := Lib.hid (show S.cut n = S by simp [DS.cut, hneg, hf])
    have E2 := Lib.hid (show S.cutE n = 12 by simp [DS.cutE, hneg, hf])
    rw [hf] at c2
    clear hneg hf
    go_enter Try.func29, Try.ntmps29
    go_wp2
    go_ret
    rw [E1.out, E2.out]
    exact ⟨rfl, .same H.out (Keeps.refl _ _)⟩
set_option maxHeartbeats 2000000 in
theorem rappend_calls (base g : Nat) (v : Value) (S : DS) (w : World) (h : RefAt w base g v S) (ho : S.ok) (hb0 : base ≤ w.heap.size) (A : Option Addr) (n c : Nat) (ys : List Int) (hr : Rd w (.slice A n c) (numv .u8 ys)) (hn : n = ys.length) (hne : 0 < ys.length → (Value.slice A n c).ownBlock ≠ some g) (hm : n ≤ 140737488351232) :
    Calls Try.prog 24 #[.pointer (some ⟨g, 0, none⟩), .slice A n c] w fun e w' => e = .returned (.int .i64 (S.appE ys)) ∧ RefLeft base g v w (S.app ys) w' := by
  obtain ⟨Av, cv, rfl⟩ := ownSlice h.own
  obtain ⟨bud, hb, hbud⟩ := h.blk
  have H := Lib.hid h
  obtain ⟨c0, c1, c2, c3, c4, c5⟩ := hb.cell
  have HN := Lib.hid hn
  have HR := Lib.hid hr
  have HNE := Lib.hid hne
  clear h hb hbud hn hr hne
  by_cases hf : S.off = true
  · have E1 := Lib.hid (show S.app ys = S by simp [DS.app, hf])
    have E2 := Lib.hid (show S.appE ys = 12 by simp [DS.appE, hf])
    rw [hf] at c2
    clear hf
    go_enter Try.func24, Try.ntmps24
    go_wp2
    go_ret
    rw [E1.out, E2.out]
    exact ⟨rfl, .same H.out (Keeps.refl _ _)⟩
  have hf' : S.off = false := by simpa using hf
  rw [hf'] at c2
  have HS := Lib.hid (rstep_calls base g _ S w H.out ho.1 ho.2.1)
  have hbl := ho.2.2.1
  by_cases hlen : S.b.length + n > 67108864
  · have E1 := Lib.hid (show S.app ys = S by simp [DS.app, hf', ← HN.out, hlen])
    have E2 := Lib.hid (show S.appE ys = 11 by simp [DS.appE, hf', ← HN.out, hlen])
    have hlt : (67108864 : Int) < (S.b.length : Int) + (n : Int) := by omega
    clear hf hf' hlen ho
    go_enter Try.func24, Try.ntmps24
    go_wp2
    go_ret
    rw [E1.out, E2.out]
    exact ⟨rfl, .same H.out (Keeps.refl _ _)⟩
  · have E1 := Lib.hid (show S.app ys = { S.step with b := S.b ++ ys } by simp [DS.app, hf', ← HN.out, hlen])
    have hlt : (S.b.length : Int) + (n : Int) ≤ 67108864 := by omega
    have E2 := Lib.hid (show S.appE ys = if S.on then 0 else 12 by simp [DS.appE, hf', ← HN.out, hlen])
    have E3 := Lib.hid (step_b S)
    clear hf hf' hlen ho hbl
    go_enter Try.func24, Try.ntmps24
    go_wp2_with fail
    refine HS.out.mono ?_
    rintro e w1 ⟨rfl, hd, hk⟩
    obtain ⟨bud1, hb1, hbud1⟩ := hd.blk
    obtain ⟨d0, d1, d2, d3, d4, d5⟩ := hb1.cell
    have f0 := hb1.free 0
    have hw1 : base ≤ w1.heap.size := Nat.le_trans hb0 hk.size
    have HR1 := Lib.hid (HR.out.keeps0 hk (fun h0 k he e => HNE.out (by rwa [numv_length] at h0) (by rw [he, e])))
    have HB1 := Lib.hid hb1
    have HBU := Lib.hid hbud1
    have HD := Lib.hid hd
    have HK := Lib.hid hk
    have HB := Lib.hid (show (S.step.b.length + (numv .u8 ys).length) * 1 ≤ 140737488355328 by rw [numv_length, E3.out, ← HN.out]; omega)
    clear hd hk hb1 hbud1
    go_wp2_with (at_builtin; refine wpList_app _ rfl _ _ _ rfl base 5 (.int .u8 0) 1 Try.underlying22 u8_info rfl _ _ _ (by rfl) HD.out.own _ _ (by rfl) HR1.out (numv_one _ _) HB.out (by omega) hw1 ?_)
    intro A' c' w2 hown hg hat
    have hL : S.step.b.length + (numv .u8 ys).length = (S.b ++ ys).length := by rw [E3.out, numv_length, List.length_append]
    have hX : numv .u8 S.step.b ++ numv .u8 ys = numv .u8 (S.b ++ ys) := by rw [E3.out, numv_append]
    rw [hX] at hown
    generalize S.step.b.length + (numv .u8 ys).length = m at *
    have HL := Lib.hid hL.symm
    have hgr := Keeps.of_grown hg
    have hne2 : some g ≠ (Value.slice Av S.b.length cv).ownBlock := fun e => own_ne HB1.out HD.out.own e.symm
    have hb2 : RBlk w2 g (.slice Av S.b.length cv) S.step.synced S.step.off S.step.steps (hasB S.step) bud1 := hgr.blk HB1.out hne2
    obtain ⟨g0, _⟩ := hb2.cell
    have f2 := hb2.free 0
    have HB2 := Lib.hid hb2
    have HO2 := Lib.hid hown
    have HG := Lib.hid hgr
    have HA := Lib.hid hat
    have hS := HK.out.size
    clear hown hg hat hgr hne2 hb2 hX hL
    go_wp2
    all_goals
      go_ret
      rw [E1.out, E2.out]
      refine ⟨?_, .slice A' m c', ⟨⟨bud1, HB2.out.set0 _, HBU.out⟩, ?_, HD.out.lo⟩, ?_, ?_⟩
      · first
          | (have hq : S.on = false := by simpa using ‹(!S.on) = true›
             rw [hq]; rfl)
          | (have hq : S.on = true := by simpa using ‹(!S.on) = false›
             rw [hq]; rfl)
      · have := HO2.out
        rw [← HL.out] at this ⊢
        exact own_set HB2.out this
      · exact ((HK.out.mono (fun _ h => .inl h)).trans HG.out (fun _ h => h) (fun _ _ h => .inr h)).setCell _ _ (fun _ => .inl rfl)
      · rcases HA.out with h | h
        · exact .inl h
        · exact .inr ⟨_, h, hS⟩
/-- An append of bytes at a step of a region that draws its order. -/
theorem step_app8 {w : World} {ops : Array Oper} {o : Oper} {a : Act} {K : Act → World → Prop} {Q : Exit → Act → World → Prop} {E : Prop} (hgd : o.guard = none) (s x : Operand)
    (ho : o.op = .call { callee := .builtin .append, args := #[s, x], argTypes := #[22, 22] })
    (base : Nat) (v : Value) (xs : List Int) (hs : a.eval s = v) (hown : Own w base v xs) (sv : Value) (ys : List Int) (hx : a.eval x = sv) (hr : Rd w sv (numv .u8 ys))
    (hsz : xs.length + ys.length ≤ 140737488355328) (hbase : base ≤ w.heap.size)
    (h : ∀ A m c w', Hid (m = xs.length + ys.length) → Hid (Own w' base (.slice A m c) (xs ++ ys)) → Hid (∀ B u, B ≤ base → Below B u w → Below B u w') → Hid ((Value.slice A m c).ownBlock = v.ownBlock ∨ (Value.slice A m c).ownBlock = some w.heap.size) → K (a.put o.dst (.slice A m c)) w') :
    if Region.wanted o (yielded ops a.tmps) = true then Oper.wp Try.prog o a w K Q else E := by
  have hw : Region.wanted o (yielded ops a.tmps) = true := by simp [Region.wanted, hgd]
  rw [if_pos hw]
  refine wp_app (P := Try.prog) w s x 22 ho base 5 (.int .u8 0) 1 app_u8_und app_u8_info rfl v xs.length _ hs hown sv _ hx hr (numv_one _ _) (by rw [numv_length]; omega) (by omega) hbase fun A c w' h2 h3 h4 => ?_
  exact h A _ c w' (Lib.hid (by rw [numv_length])) (Lib.hid (Own.app h2)) (Lib.hid (fun B u hB hb => hb.grown h3 (Nat.le_trans hB hbase) (fun k hk => Nat.le_trans hB (hown.lo k hk).1))) (Lib.hid h4)
set_option maxHeartbeats 2000000 in
theorem rtrim_calls (base g : Nat) (v : Value) (S : DS) (w : World) (h : RefAt w base g v S) (ho : S.ok) (hb0 : base ≤ w.heap.size) (n : Int) :
    Calls Try.prog 43 #[.pointer (some ⟨g, 0, none⟩), .int .i64 n] w fun e w' => e = .returned (.int .i64 (S.trimE n)) ∧ RefLeft base g v w (S.trim n) w' := by
  obtain ⟨Av, cv, rfl⟩ := ownSlice h.own
  obtain ⟨bud, hb, hbud⟩ := h.blk
  have H := Lib.hid h
  obtain ⟨c0, c1, c2, c3, c4, c5⟩ := hb.cell
  obtain ⟨ho1, ho2, ho3, ho4, ho5⟩ := ho
  clear h hb hbud
  by_cases hf : S.off = true
  · have E1 := Lib.hid (show S.trim n = S by simp [DS.trim, hf])
    have E2 := Lib.hid (show S.trimE n = 12 by simp [DS.trimE, hf])
    rw [hf] at c2
    clear hf
    go_enter Try.func43, Try.ntmps43
    go_wp2
    go_ret
    rw [E1.out, E2.out]
    exact ⟨rfl, .same H.out (Keeps.refl _ _)⟩
  have hf' : S.off = false := by simpa using hf
  rw [hf'] at c2
  by_cases hneg : n < 0
  · have E1 := Lib.hid (show S.trim n = S by simp [DS.trim, hf', hneg])
    have E2 := Lib.hid (show S.trimE n = 1 by simp [DS.trimE, hf', hneg])
    clear hf hf'
    go_enter Try.func43, Try.ntmps43
    go_wp2
    go_ret
    rw [E1.out, E2.out]
    exact ⟨rfl, .same H.out (Keeps.refl _ _)⟩
  obtain ⟨m, rfl⟩ := Int.eq_ofNat_of_zero_le (show 0 ≤ n by omega)
  clear hneg
  by_cases hbig : S.b.length < m
  · have E1 := Lib.hid (show S.trim m = S by simp [DS.trim, hf', hbig])
    have E2 := Lib.hid (show S.trimE m = 1 by simp [DS.trimE, hf', hbig])
    have hlt : (S.b.length : Int) < (m : Int) := by omega
    clear hf hf' hbig
    go_enter Try.func43, Try.ntmps43
    go_wp2
    go_ret
    rw [E1.out, E2.out]
    exact ⟨rfl, .same H.out (Keeps.refl _ _)⟩
  have hle : m ≤ S.b.length := by omega
  have hlt : (m : Int) ≤ (S.b.length : Int) := by omega
  have hlen : (S.b.length : Int) ≤ 67108864 := by omega
  have HS := Lib.hid (rstep_calls base g _ S w H.out ho1 ho2)
  by_cases hon : S.on = true
  · have E1 := Lib.hid (show S.trim m = { S.step with b := S.b.take m, synced := min S.synced m } by rw [DS.trim, if_neg (by simp [hf']), if_neg (by omega), if_pos hon]; rfl)
    have E2 := Lib.hid (show S.trimE m = 0 by rw [DS.trimE, if_neg (by simp [hf']), if_neg (by omega), if_pos hon])
    have E3 := Lib.hid (step_b S)
    have E4 := Lib.hid (step_synced S)
    rw [hon] at HS
    clear hf hf' hbig
    go_enter Try.func43, Try.ntmps43
    go_wp2_with fail
    refine HS.out.mono ?_
    rintro e w1 ⟨rfl, hd, hk⟩
    obtain ⟨bud1, hb1, hbud1⟩ := hd.blk
    rw [E4.out] at hb1
    obtain ⟨d0, d1, d2, d3, d4, d5⟩ := hb1.cell
    have ho1 := hd.own
    rw [E3.out] at ho1
    have hnew := World.new_ne w1 _ d0
    have hnew2 : g ≠ w1.heap.size := fun h => hnew h.symm
    have hnew3 : g < w1.heap.size := World.block_lt_of_cell? w1 _ d0
    have d0a : (w1.alloc (.cells #[] 5)).cell? ⟨g, 0, none⟩ = some (.slice Av S.b.length cv) := (World.cell?_of_block (w := w1) (((Below.refl w1.heap.size w1).alloc (Nat.le_refl _) (.cells #[] 5)).block g hnew3)).trans d0
    have hbe := (Below.refl w1.heap.size w1).alloc (Nat.le_refl _) (.cells #[] 5)
    obtain ⟨At, ct, hst, hrt⟩ := run_to8 w1 Av S.b.length cv S.b (Rd.of_own ho1) (m : Int) m rfl hle
    have HRT := Lib.hid (hrt.below hbe)
    have HM := Lib.hid (Own.made w1 w1.heap.size (Nat.le_refl _))
    have HSZ := Lib.hid (show ([] : List Int).length + (S.b.take m).length ≤ 140737488355328 by rw [List.length_take]; simp; omega)
    have HLM := Lib.hid (show (S.b.take m).length = m by rw [List.length_take]; omega)
    have HBE := Lib.hid hbe
    have HB1 := Lib.hid hb1
    have HBU := Lib.hid hbud1
    have HK := Lib.hid hk
    have HL1 := Lib.hid hd.lo
    have hsz1 := hk.size
    clear hd hk hb1 hbud1 ho1 hrt hbe
    go_wp2_with (at_builtin; refine wpList_app8 rfl _ _ rfl w1.heap.size _ [] (by rfl) HM.out _ (S.b.take m) (by rfl) HRT.out HSZ.out (by simp) ?_)
    intro A2 m2 c2' w2 hm2 ho2 hk2 _ hat2
    have HNO := Lib.hid (show (Value.slice A2 m2 c2').ownBlock ≠ none from by
      rcases hat2 with h | h <;> (rw [h]; simp [Value.ownBlock]))
    clear hat2
    have hm2' : m2 = m := by have := HLM.out; (try simp at hm2); omega
    subst hm2'
    have ho2' : Own w2 w1.heap.size (.slice A2 m2 c2') (S.b.take m2) := ho2
    have hb2 := hk2 w1.heap.size w1 (Nat.le_refl _) HBE.out
    have hrb : RBlk w2 g (.slice Av S.step.b.length cv) S.synced S.step.off S.step.steps (hasB S.step) bud1 := (hb2.block g (blkLt HB1.out)).trans (by rw [E3.out]; exact HB1.out)
    rw [E3.out] at hrb
    obtain ⟨g0, g1, g2, g3, g4, g5⟩ := hrb.cell
    have f0 := hrb.free 0
    have f1 := hrb.free 1
    have HRB := Lib.hid hrb
    have HO2 := Lib.hid (show w2.ownsRow base 5 1 (.slice A2 m2 c2') (S.b.take m2).length (numv .u8 (S.b.take m2)) from ho2'.mono (by omega))
    have HLO := Lib.hid (show ∀ k, (Value.slice A2 m2 c2').ownBlock = some k → w1.heap.size ≤ k from fun k hk => (ho2'.lo k hk).1)
    have HKA := Lib.hid (show Keeps (fun k => k = g) w w2 from HK.out.trans (Keeps.of_below hb2 (fun _ => False)) (fun _ h => h) (fun _ _ h => h.elim))
    clear hm2 ho2 ho2' hk2 hb2 hrb d0 d1 d2 d3 d4 d5
    clear hnew hnew2 hnew3 d0a
    have hfin : ∀ (x : Int), min S.synced (m2 : Int) = x → RefLeft base g (.slice Av S.b.length cv) w { S.step with b := S.b.take m2, synced := x } ((w2.setCell ⟨g, 0, none⟩ (.slice A2 m2 c2')).setCell ⟨g, 1, none⟩ (.int .i64 x)) ∧ (x = S.synced → RefLeft base g (.slice Av S.b.length cv) w { S.step with b := S.b.take m2, synced := x } (w2.setCell ⟨g, 0, none⟩ (.slice A2 m2 c2'))) := by
      intro x hx
      have hown : (Value.slice A2 m2 c2').ownBlock = (Value.slice Av S.b.length cv).ownBlock ∨ ∃ k, (Value.slice A2 m2 c2').ownBlock = some k ∧ w.heap.size ≤ k := by
        cases hA : (Value.slice A2 m2 c2').ownBlock with
        | some k => exact .inr ⟨k, rfl, by have := HLO.out k hA; omega⟩
        | none => exact absurd hA HNO.out
      exact ⟨⟨.slice A2 m2 c2', ⟨⟨bud1, (HRB.out.set0 _).set1 _, HBU.out⟩, own_set (HRB.out.set0 _) (own_set HRB.out HO2.out), HL1.out⟩, keeps_left (keeps_gg HKA.out (keeps_gg (keeps_g _ _ _ _) (keeps_g _ _ _ _))), hown⟩,
        fun hs => ⟨.slice A2 m2 c2', ⟨⟨bud1, by rw [hs]; exact HRB.out.set0 _, HBU.out⟩, own_set HRB.out HO2.out, HL1.out⟩, keeps_left (keeps_gg HKA.out (keeps_g _ _ _ _)), hown⟩⟩
    have HFIN := Lib.hid hfin
    clear hfin
    by_cases hsn : (m2 : Int) < S.synced
    · have HMI := Lib.hid (Int.min_eq_right (show (m2 : Int) ≤ S.synced by omega))
      go_wp2
      go_ret
      rw [E1.out, E2.out, HMI.out]
      exact ⟨rfl, (HFIN.out _ HMI.out).1⟩
    · have HMI := Lib.hid (Int.min_eq_left (show S.synced ≤ (m2 : Int) by omega))
      have hsn' : S.synced ≤ (m2 : Int) := by omega
      clear hsn
      go_wp2
      go_ret
      rw [E1.out, E2.out, HMI.out]
      exact ⟨rfl, (HFIN.out _ HMI.out).2 rfl⟩
  · have hon' : S.on = false := by simpa using hon
    have E1 := Lib.hid (show S.trim m = S.step by rw [DS.trim, if_neg (by simp [hf']), if_neg (by omega), if_neg hon])
    have E2 := Lib.hid (show S.trimE m = 12 by rw [DS.trimE, if_neg (by simp [hf']), if_neg (by omega), if_neg hon])
    rw [hon'] at HS
    clear hf hf' hbig hon
    go_enter Try.func43, Try.ntmps43
    go_wp2_with fail
    refine HS.out.mono ?_
    rintro e w1 ⟨rfl, hd, hk⟩
    have HD := Lib.hid hd
    have HK := Lib.hid hk
    clear hd hk
    go_wp2
    go_ret
    rw [E1.out, E2.out]
    exact ⟨rfl, .same HD.out HK.out⟩
end Go.Proofs.Ytlgkcpmedjpoaaa.X
