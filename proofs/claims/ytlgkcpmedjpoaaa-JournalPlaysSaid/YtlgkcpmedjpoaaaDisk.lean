/- The disk's methods: what each leaves. -/
import Derived.Test.YtlgkcpmedjpoaaaBase
namespace Go.Proofs.Ytlgkcpmedjpoaaa
open Go.RowKit
set_option linter.unusedVariables false

/-- A disk as numbers and bytes. -/
structure DS where
  b : List Int
  synced : Int
  off : Bool
  steps : Int
  left : Int
def DS.step (S : DS) : DS := if S.left = 0 then { S with steps := S.steps + 1 } else if S.left = 1 then { S with steps := S.steps + 1, off := true } else { S with steps := S.steps + 1, left := S.left - 1 }
def DS.on (S : DS) : Bool := !decide (S.left = 1)

def DS.cells (S : DS) (v : Value) : Array Value := #[v, .int .i64 S.synced, .bool S.off, .int .i64 S.steps, .int .i64 S.left]
/-- Block g is the disk S, its bytes are the row v. -/
structure DiskAt (w : World) (base g : Nat) (v : Value) (S : DS) : Prop where
  blk : w.heap[g]? = some (.cells (S.cells v) 68 (0, 0))
  own : w.ownsRow base 5 1 v S.b.length (numv .u8 S.b)
  lo : base ≤ g
theorem DiskAt.cell {w : World} {base g : Nat} {v : Value} {S : DS} (h : DiskAt w base g v S) :
    w.cell? ⟨g, 0, none⟩ = some v ∧ w.cell? ⟨g, 1, none⟩ = some (.int .i64 S.synced) ∧ w.cell? ⟨g, 2, none⟩ = some (.bool S.off) ∧ w.cell? ⟨g, 3, none⟩ = some (.int .i64 S.steps) ∧ w.cell? ⟨g, 4, none⟩ = some (.int .i64 S.left) := by
  refine ⟨?_, ?_, ?_, ?_, ?_⟩ <;> (rw [cell_of_row _ _ _ _ _ _ h.blk]; rfl)
theorem DiskAt.free {w : World} {base g : Nat} {v : Value} {S : DS} (h : DiskAt w base g v S) (j : Nat) : w.frozen? ⟨g, j, none⟩ = false := frozen_of_row _ _ _ _ _ h.blk
theorem DiskAt.ne {w : World} {base g : Nat} {v : Value} {S : DS} (h : DiskAt w base g v S) : v.ownBlock ≠ some g := own_blk_ne h.own h.blk (by decide)

theorem keeps_g (w : World) (g j : Nat) (u : Value) : Keeps (fun k => k = g) w (w.setCell ⟨g, j, none⟩ u) := (Keeps.refl _ w).setCell _ _ (fun _ => rfl)
theorem keeps_gg {w w1 w2 : World} {g : Nat} (h : Keeps (fun k => k = g) w w1) (k : Keeps (fun k => k = g) w1 w2) : Keeps (fun k => k = g) w w2 := h.trans k (fun _ h => h) (fun _ _ h => h)
theorem DiskAt.set0 {w : World} {base g : Nat} {v : Value} {S : DS} (h : DiskAt w base g v S) (u : Value) (b : List Int) (ho : w.ownsRow base 5 1 u b.length (numv .u8 b)) : DiskAt (w.setCell ⟨g, 0, none⟩ u) base g u { S with b := b } :=
  ⟨heap_setCell_same w g 0 _ _ _ h.blk, own_keeps ho (keeps_g w g 0 u) (fun k hk e => own_blk_ne ho h.blk (by decide) (by rw [hk, e])), h.lo⟩
theorem DiskAt.set1 {w : World} {base g : Nat} {v : Value} {S : DS} (h : DiskAt w base g v S) (x : Int) : DiskAt (w.setCell ⟨g, 1, none⟩ (.int .i64 x)) base g v { S with synced := x } :=
  ⟨heap_setCell_same w g 1 _ _ _ h.blk, own_keeps h.own (keeps_g w g 1 _) (fun k hk e => h.ne (by rw [hk, e])), h.lo⟩
theorem DiskAt.set2 {w : World} {base g : Nat} {v : Value} {S : DS} (h : DiskAt w base g v S) (x : Bool) : DiskAt (w.setCell ⟨g, 2, none⟩ (.bool x)) base g v { S with off := x } :=
  ⟨heap_setCell_same w g 2 _ _ _ h.blk, own_keeps h.own (keeps_g w g 2 _) (fun k hk e => h.ne (by rw [hk, e])), h.lo⟩
theorem DiskAt.set3 {w : World} {base g : Nat} {v : Value} {S : DS} (h : DiskAt w base g v S) (x : Int) : DiskAt (w.setCell ⟨g, 3, none⟩ (.int .i64 x)) base g v { S with steps := x } :=
  ⟨heap_setCell_same w g 3 _ _ _ h.blk, own_keeps h.own (keeps_g w g 3 _) (fun k hk e => h.ne (by rw [hk, e])), h.lo⟩
theorem DiskAt.set4 {w : World} {base g : Nat} {v : Value} {S : DS} (h : DiskAt w base g v S) (x : Int) : DiskAt (w.setCell ⟨g, 4, none⟩ (.int .i64 x)) base g v { S with left := x } :=
  ⟨heap_setCell_same w g 4 _ _ _ h.blk, own_keeps h.own (keeps_g w g 4 _) (fun k hk e => h.ne (by rw [hk, e])), h.lo⟩
theorem DiskAt.keeps {S' : Nat → Prop} {w w' : World} {base g : Nat} {v : Value} {S : DS} (h : DiskAt w base g v S) (hk : Keeps S' w w') (hg : ¬ S' g) (hv : ∀ k, v.ownBlock = some k → ¬ S' k) : DiskAt w' base g v S :=
  ⟨hk.blk h.blk hg, own_keeps h.own hk hv, h.lo⟩

set_option maxHeartbeats 400000 in
theorem step_calls (base g : Nat) (v : Value) (S : DS) (w : World) (h : DiskAt w base g v S) (hs : 0 ≤ S.steps ∧ S.steps < 1000000000) (hl : 0 ≤ S.left ∧ S.left < 1000000000) :
    Calls Try.prog 41 #[.pointer (some ⟨g, 0, none⟩)] w fun e w' => e = .returned (.bool S.on) ∧ DiskAt w' base g v S.step ∧ Keeps (fun k => k = g) w w' := by
  obtain ⟨c0, c1, c2, c3, c4⟩ := h.cell
  have f0 := h.free 0
  have f1 := h.free 1
  have f2 := h.free 2
  have f3 := h.free 3
  have f4 := h.free 4
  have H := Lib.hid h
  clear h
  obtain ⟨sb, sy, so, st, sl⟩ := S
  simp only at *
  by_cases h0 : sl = 0
  · subst h0
    go_enter Try.func41, Try.ntmps41
    go_wp2
    go_ret
    exact ⟨rfl, H.out.set3 _, keeps_g _ _ _ _⟩
  by_cases h1 : sl = 1
  · subst h1
    go_enter Try.func41, Try.ntmps41
    go_wp2
    go_ret
    exact ⟨rfl, (H.out.set3 _).set2 _, keeps_gg (keeps_g _ _ _ _) (keeps_g _ _ _ _)⟩
  · have hb0 : (sl == 0) = false := by simpa using h0
    have hb1 : (sl == 1) = false := by simpa using h1
    have e1 : DS.on ⟨sb, sy, so, st, sl⟩ = true := by simp [DS.on, h1]
    have e2 : DS.step ⟨sb, sy, so, st, sl⟩ = ⟨sb, sy, so, st + 1, sl - 1⟩ := by simp [DS.step, h0, h1]
    have E1 := Lib.hid e1
    have E2 := Lib.hid e2
    clear e1 e2 h0 h1
    go_enter Try.func41, Try.ntmps41
    go_wp2
    go_ret
    rw [E1.out, E2.out]
    exact ⟨rfl, (H.out.set3 _).set4 _, keeps_gg (keeps_g _ _ _ _) (keeps_g _ _ _ _)⟩

theorem step_left (S : DS) (hl : 0 ≤ S.left) : 0 ≤ S.step.left ∧ S.step.left ≤ S.left := by
  unfold DS.step
  split
  · exact ⟨hl, by simp⟩
  · split
    · exact ⟨hl, by simp⟩
    · simp only; omega
theorem step_steps (S : DS) : S.step.steps = S.steps + 1 := by
  unfold DS.step
  split
  · rfl
  · split <;> rfl
theorem step_b (S : DS) : S.step.b = S.b := by
  unfold DS.step
  split
  · rfl
  · split <;> rfl
theorem step_synced (S : DS) : S.step.synced = S.synced := by
  unfold DS.step
  split
  · rfl
  · split <;> rfl

/-- The numbers of a disk that the walks ask for. -/
def DS.ok (S : DS) : Prop := (0 ≤ S.steps ∧ S.steps < 1000000000) ∧ (0 ≤ S.left ∧ S.left < 1000000000) ∧ S.b.length ≤ 67108864 ∧ 0 ≤ S.synced ∧ S.synced ≤ S.b.length
def cut12 : Value := .iface 45 (.int .i64 12)
def errV (n : Int) : Value := if n = 0 then .nilIface else .iface 45 (.int .i64 n)

def DS.sync (S : DS) : DS := if S.off then S else if S.on then { S.step with synced := S.b.length } else S.step
def DS.syncE (S : DS) : Int := if S.off then 12 else if S.on then 0 else 12

set_option maxHeartbeats 400000 in
theorem sync_calls (base g : Nat) (v : Value) (S : DS) (w : World) (h : DiskAt w base g v S) (ho : S.ok) :
    Calls Try.prog 23 #[.pointer (some ⟨g, 0, none⟩)] w fun e w' => e = .returned (errV S.syncE) ∧ DiskAt w' base g v S.sync ∧ Keeps (fun k => k = g) w w' := by
  obtain ⟨c0, c1, c2, c3, c4⟩ := h.cell
  have H := Lib.hid h
  clear h
  by_cases hf : S.off = true
  · have e1 : S.sync = S := by simp [DS.sync, hf]
    have e2 : errV S.syncE = cut12 := by simp [DS.syncE, errV, cut12, hf]
    rw [hf] at c2
    have E1 := Lib.hid e1
    have E2 := Lib.hid e2
    clear hf e1 e2
    go_enter Try.func23, Try.ntmps23
    go_wp2
    go_ret
    rw [E1.out, E2.out]
    exact ⟨rfl, H.out, Keeps.refl _ _⟩
  · have hf' : S.off = false := by simpa using hf
    rw [hf'] at c2
    obtain ⟨ho1, ho2, ho3, ho4, ho5⟩ := ho
    have hmax : (S.b.length : Int) ≤ 67108864 := by omega
    by_cases hon : S.on = true
    · have e1 : S.sync = { S.step with synced := S.b.length } := by simp [DS.sync, hf', hon]
      have e2 : errV S.syncE = .nilIface := by simp [DS.syncE, errV, hf', hon]
      have E1 := Lib.hid e1
      have E2 := Lib.hid e2
      have E3 := Lib.hid (step_b S)
      clear hf hf' e1 e2
      go_enter Try.func23, Try.ntmps23
      go_wp2_with fail
      refine (step_calls base g v S _ H.out ho1 ho2).mono ?_
      rintro e w1 ⟨rfl, hd, hk⟩
      obtain ⟨d0, d1, d2, d3, d4⟩ := hd.cell
      obtain ⟨A, c, hv⟩ := (Rd.of_own hd.own).len
      have f1 := hd.free 1
      have HD := Lib.hid hd
      have HK := Lib.hid hk
      have HV := Lib.hid hv
      have hl : (numv .u8 S.step.b).length = S.b.length := by rw [numv_length, E3.out]
      rw [hv, hl] at d0
      clear hd hk hv hl
      go_wp2
      go_ret
      rw [E1.out, E2.out]
      exact ⟨rfl, HD.out.set1 _, keeps_gg HK.out (keeps_g _ _ _ _)⟩
    · have hon' : S.on = false := by simpa using hon
      have e1 : S.sync = S.step := by simp [DS.sync, hf', hon']
      have e2 : errV S.syncE = cut12 := by simp [DS.syncE, errV, cut12, hf', hon']
      have E1 := Lib.hid e1
      have E2 := Lib.hid e2
      clear hf hf' e1 e2 hon
      go_enter Try.func23, Try.ntmps23
      go_wp2_with fail
      refine (step_calls base g v S _ H.out ho1 ho2).mono ?_
      rintro e w1 ⟨rfl, hd, hk⟩
      have HD := Lib.hid hd
      have HK := Lib.hid hk
      clear hd hk
      go_wp2
      go_ret
      rw [E1.out, E2.out]
      exact ⟨rfl, HD.out, HK.out⟩

theorem u8_info : (Try.prog.info? 5).map (fun i => (i.zero, i.size, i.bytes)) = some (some (.int .u8 0), 1, 1) := by kernel_rfl

def DS.app (S : DS) (ys : List Int) : DS := if S.off then S else if S.b.length + ys.length > 67108864 then S else { S.step with b := S.b ++ ys }
def DS.appE (S : DS) (ys : List Int) : Int := if S.off then 12 else if S.b.length + ys.length > 67108864 then 11 else if S.on then 0 else 12

/-- What a method that may write the bytes leaves: the disk S, its row the elder one or a new one. -/
def DiskLeft (base g : Nat) (v : Value) (w : World) (S : DS) (w' : World) : Prop :=
  ∃ v', DiskAt w' base g v' S ∧ Keeps (fun k => k = g ∨ some k = v.ownBlock) w w' ∧ (v'.ownBlock = v.ownBlock ∨ ∃ k, v'.ownBlock = some k ∧ w.heap.size ≤ k)

theorem keeps_left {g : Nat} {v : Value} {w w' : World} (h : Keeps (fun k => k = g) w w') : Keeps (fun k => k = g ∨ some k = v.ownBlock) w w' := h.mono (fun _ h => .inl h)

/-- The struct's block behind an append to its bytes: the row is told anew. -/
theorem DiskAt.keeps_blk {S' : Nat → Prop} {w w' : World} {base g : Nat} {v : Value} {S : DS} (h : DiskAt w base g v S) (hk : Keeps S' w w') (hg : ¬ S' g) : w'.heap[g]? = some (.cells (S.cells v) 68 (0, 0)) := hk.blk h.blk hg
theorem DiskAt.put0 {w : World} {base g : Nat} {v u : Value} {S : DS} (h : w.heap[g]? = some (.cells (S.cells v) 68 (0, 0))) (hlo : base ≤ g) (b : List Int) {m : Nat} (hm : m = b.length) (ho : w.ownsRow base 5 1 u m (numv .u8 b)) : DiskAt (w.setCell ⟨g, 0, none⟩ u) base g u { S with b := b } := by
  subst hm
  exact ⟨heap_setCell_same w g 0 _ _ _ h, own_keeps ho (keeps_g w g 0 u) (fun k hk e => own_blk_ne ho h (by decide) (by rw [hk, e])), hlo⟩

set_option maxHeartbeats 400000 in
theorem append_calls (base g : Nat) (v : Value) (S : DS) (w : World) (h : DiskAt w base g v S) (ho : S.ok) (hb : base ≤ w.heap.size) (A : Option Addr) (n c : Nat) (ys : List Int) (hr : Rd w (.slice A n c) (numv .u8 ys)) (hn : n = ys.length) (hne : 0 < ys.length → (Value.slice A n c).ownBlock ≠ some g) (hm : n ≤ 140737488351232) :
    Calls Try.prog 22 #[.pointer (some ⟨g, 0, none⟩), .slice A n c] w fun e w' => e = .returned (errV (S.appE ys)) ∧ DiskLeft base g v w (S.app ys) w' := by
  obtain ⟨Av, cv, rfl⟩ := ownSlice h.own
  obtain ⟨c0, c1, c2, c3, c4⟩ := h.cell
  have H := Lib.hid h
  have HN := Lib.hid hn
  have HR := Lib.hid hr
  have HNE := Lib.hid hne
  clear h hn hr hne
  by_cases hf : S.off = true
  · have e1 : S.app ys = S := by simp [DS.app, hf]
    have e2 : errV (S.appE ys) = cut12 := by simp [DS.appE, errV, cut12, hf]
    rw [hf] at c2
    have E1 := Lib.hid e1
    have E2 := Lib.hid e2
    clear hf e1 e2
    go_enter Try.func22, Try.ntmps22
    go_wp2
    go_ret
    rw [E1.out, E2.out]
    exact ⟨rfl, _, H.out, Keeps.refl _ _, .inl rfl⟩
  have hf' : S.off = false := by simpa using hf
  rw [hf'] at c2
  obtain ⟨ho1, ho2, ho3, ho4, ho5⟩ := ho
  by_cases hlen : S.b.length + n > 67108864
  · have e1 : S.app ys = S := by simp [DS.app, hf', ← HN.out, hlen]
    have e2 : errV (S.appE ys) = .iface 45 (.int .i64 11) := by simp [DS.appE, errV, hf', ← HN.out, hlen]
    have hlt : (67108864 : Int) < (S.b.length : Int) + (n : Int) := by omega
    have E1 := Lib.hid e1
    have E2 := Lib.hid e2
    clear hf hf' e1 e2 hlen
    go_enter Try.func22, Try.ntmps22
    go_wp2
    go_ret
    rw [E1.out, E2.out]
    exact ⟨rfl, _, H.out, Keeps.refl _ _, .inl rfl⟩
  · have e1 : S.app ys = { S.step with b := S.b ++ ys } := by simp [DS.app, hf', ← HN.out, hlen]
    have hlt : (S.b.length : Int) + (n : Int) ≤ 67108864 := by omega
    have e2 : errV (S.appE ys) = if S.on then .nilIface else cut12 := by
      cases hon : S.on <;> simp [DS.appE, errV, cut12, hf', ← HN.out, hlen, hon]
    have E1 := Lib.hid e1
    have E2 := Lib.hid e2
    have E3 := Lib.hid (step_b S)
    clear hf hf' e1 e2 hlen
    go_enter Try.func22, Try.ntmps22
    go_wp2_with fail
    refine (step_calls base g _ S _ H.out ho1 ho2).mono ?_
    rintro e w1 ⟨rfl, hd, hk⟩
    obtain ⟨d0, d1, d2, d3, d4⟩ := hd.cell
    have f0 := hd.free 0
    have hr1 := HR.out.keeps0 hk (fun h0 k he e => HNE.out (by rwa [numv_length] at h0) (by rw [he, e]))
    have hw1 : base ≤ w1.heap.size := Nat.le_trans hb hk.size
    have HD := Lib.hid hd
    have HK := Lib.hid hk
    have HR1 := Lib.hid hr1
    clear hd hk hr1
    have hbytes : (S.step.b.length + (numv .u8 ys).length) * 1 ≤ 140737488355328 := by rw [numv_length, E3.out, ← HN.out]; omega
    have HB := Lib.hid hbytes
    clear hbytes
    go_wp2_with (at_builtin; refine wpList_app _ rfl _ _ _ rfl base 5 (.int .u8 0) 1 Try.underlying22 u8_info rfl _ _ _ (by rfl) HD.out.own _ _ (by rfl) HR1.out (numv_one _ _) HB.out (by omega) hw1 ?_)
    intro A' c' w2 hown hg hat
    have hL : S.step.b.length + (numv .u8 ys).length = (S.b ++ ys).length := by rw [E3.out, numv_length, List.length_append]
    have hX : numv .u8 S.step.b ++ numv .u8 ys = numv .u8 (S.b ++ ys) := by rw [E3.out, numv_append]
    rw [hX] at hown
    generalize S.step.b.length + (numv .u8 ys).length = m at *
    have HL := Lib.hid hL.symm
    clear hL
    have hgr := Keeps.of_grown hg
    have hne2 : some g ≠ (Value.slice Av S.b.length cv).ownBlock := fun e => HD.out.ne e.symm
    have hd2 := hgr.blk HD.out.blk hne2
    have g0 := cell_of_row _ _ 0 _ _ _ hd2
    have f2 := frozen_of_row _ _ 0 _ _ hd2
    have HD2 := Lib.hid hd2
    have HO2 := Lib.hid hown
    have HG := Lib.hid hgr
    have HA := Lib.hid hat
    have hS := HK.out.size
    simp only [DS.cells] at g0
    clear hown hg hat hgr hne2 hd2 hX
    go_wp2
    all_goals
      go_ret
      rw [E1.out, E2.out]
      refine ⟨?_, _, DiskAt.put0 HD2.out HD.out.lo _ HL.out.symm HO2.out, ?_, ?_⟩
      · first
          | (have hq : S.on = false := by simpa using ‹(!S.on) = true›
             rw [hq]; rfl)
          | (have hq : S.on = true := by simpa using ‹(!S.on) = false›
             rw [hq]; rfl)
      · exact ((HK.out.mono (fun _ h => .inl h)).trans HG.out (fun _ h => h) (fun _ _ h => .inr h)).setCell _ _ (fun _ => .inl rfl)
      · rcases HA.out with h | h
        · exact .inl h
        · exact .inr ⟨_, h, hS⟩
end Go.Proofs.Ytlgkcpmedjpoaaa
