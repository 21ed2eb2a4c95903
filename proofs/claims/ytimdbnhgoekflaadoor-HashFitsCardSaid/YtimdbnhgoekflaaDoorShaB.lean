/- The digest's block: its walk. -/
import Derived.Test.YtimdbnhgoekflaaDoorShaA
import Derived.Test.YtimdbnhgoekflaaDoorApp
import Derived.BigQuiet
import Derived.Deep.QuietTactic
import Derived.StillTailTactics
import Derived.BigRegion
import Derived.Deep.RegionWith
namespace Go.Proofs.YtimdbnhgoekflaaDoor
open Go.RowKit
set_option linter.unusedVariables false

/-- The tables as the program has them. -/
structure Tabs (ks : List Int) (h0 : List Int) (w : World) : Prop where
  ks : ∀ j, j < 64 → w.cell? ⟨1, j, none⟩ = some (.int .u32 (ks.getD j 0))
  h0 : ∀ j, j < 8 → w.cell? ⟨0, j, none⟩ = some (.int .u32 (h0.getD j 0))
theorem Tabs.below {ks h0 : List Int} {w w' : World} (h : Tabs ks h0 w) (hb : Below w.heap.size w w') : Tabs ks h0 w' :=
  ⟨fun j hj => (hb.cell (World.block_lt_of_cell? w _ (h.ks j hj))).trans (h.ks j hj), fun j hj => (hb.cell (World.block_lt_of_cell? w _ (h.h0 j hj))).trans (h.h0 j hj)⟩

/-- The first loop's words, so far. -/
def Rel1 (w : World) (g gw : Nat) (b : List Int) (i : Value) (wr : World) : Prop :=
  ∃ k : Nat, i = .int .i64 k ∧ k ≤ 16 ∧ NumBlk wr gw 56 .u32 ((w16 b).take k ++ List.replicate (64 - k) 0) ∧ Below w.heap.size w wr

/-- The second loop's words, so far. -/
def Rel2 (w : World) (gw : Nat) (b : List Int) (v : Value) (wr : World) : Prop :=
  ∃ i : Nat, v = .int .i64 i ∧ 16 ≤ i ∧ i ≤ 64 ∧ NumBlk wr gw 56 .u32 (wGo (i - 16) (w16 b) ++ List.replicate (64 - i) 0) ∧ Below w.heap.size w wr

/-- Eight words stored one by one. -/
def put8 (w : World) (g : Nat) (s : St) : World :=
  (((((((w.setCell ⟨g, 0, none⟩ (.int .u32 s.a)).setCell ⟨g, 1, none⟩ (.int .u32 s.b)).setCell ⟨g, 2, none⟩ (.int .u32 s.c)).setCell ⟨g, 3, none⟩ (.int .u32 s.d)).setCell ⟨g, 4, none⟩ (.int .u32 s.e)).setCell ⟨g, 5, none⟩ (.int .u32 s.f)).setCell ⟨g, 6, none⟩ (.int .u32 s.g)).setCell ⟨g, 7, none⟩ (.int .u32 s.h)
theorem put8_blk (w : World) (g : Nat) (t : TypeId) (s0 s : St) (h : w.heap[g]? = some (.cells s0.cells t (0, 0))) : (put8 w g s).heap[g]? = some (.cells s.cells t (0, 0)) := by
  unfold put8
  have h0 : (w.setCell ⟨g, 0, none⟩ (.int .u32 s.a)).heap[g]? = some (.cells #[.int .u32 s.a, .int .u32 s0.b, .int .u32 s0.c, .int .u32 s0.d, .int .u32 s0.e, .int .u32 s0.f, .int .u32 s0.g, .int .u32 s0.h] t (0, 0)) := heap_setCell_same _ g 0 _ t _ h
  have h1 : ((w.setCell ⟨g, 0, none⟩ (.int .u32 s.a)).setCell ⟨g, 1, none⟩ (.int .u32 s.b)).heap[g]? = some (.cells #[.int .u32 s.a, .int .u32 s.b, .int .u32 s0.c, .int .u32 s0.d, .int .u32 s0.e, .int .u32 s0.f, .int .u32 s0.g, .int .u32 s0.h] t (0, 0)) := heap_setCell_same _ g 1 _ t _ h0
  have h2 : (((w.setCell ⟨g, 0, none⟩ (.int .u32 s.a)).setCell ⟨g, 1, none⟩ (.int .u32 s.b)).setCell ⟨g, 2, none⟩ (.int .u32 s.c)).heap[g]? = some (.cells #[.int .u32 s.a, .int .u32 s.b, .int .u32 s.c, .int .u32 s0.d, .int .u32 s0.e, .int .u32 s0.f, .int .u32 s0.g, .int .u32 s0.h] t (0, 0)) := heap_setCell_same _ g 2 _ t _ h1
  have h3 : ((((w.setCell ⟨g, 0, none⟩ (.int .u32 s.a)).setCell ⟨g, 1, none⟩ (.int .u32 s.b)).setCell ⟨g, 2, none⟩ (.int .u32 s.c)).setCell ⟨g, 3, none⟩ (.int .u32 s.d)).heap[g]? = some (.cells #[.int .u32 s.a, .int .u32 s.b, .int .u32 s.c, .int .u32 s.d, .int .u32 s0.e, .int .u32 s0.f, .int .u32 s0.g, .int .u32 s0.h] t (0, 0)) := heap_setCell_same _ g 3 _ t _ h2
  have h4 : (((((w.setCell ⟨g, 0, none⟩ (.int .u32 s.a)).setCell ⟨g, 1, none⟩ (.int .u32 s.b)).setCell ⟨g, 2, none⟩ (.int .u32 s.c)).setCell ⟨g, 3, none⟩ (.int .u32 s.d)).setCell ⟨g, 4, none⟩ (.int .u32 s.e)).heap[g]? = some (.cells #[.int .u32 s.a, .int .u32 s.b, .int .u32 s.c, .int .u32 s.d, .int .u32 s.e, .int .u32 s0.f, .int .u32 s0.g, .int .u32 s0.h] t (0, 0)) := heap_setCell_same _ g 4 _ t _ h3
  have h5 : ((((((w.setCell ⟨g, 0, none⟩ (.int .u32 s.a)).setCell ⟨g, 1, none⟩ (.int .u32 s.b)).setCell ⟨g, 2, none⟩ (.int .u32 s.c)).setCell ⟨g, 3, none⟩ (.int .u32 s.d)).setCell ⟨g, 4, none⟩ (.int .u32 s.e)).setCell ⟨g, 5, none⟩ (.int .u32 s.f)).heap[g]? = some (.cells #[.int .u32 s.a, .int .u32 s.b, .int .u32 s.c, .int .u32 s.d, .int .u32 s.e, .int .u32 s.f, .int .u32 s0.g, .int .u32 s0.h] t (0, 0)) := heap_setCell_same _ g 5 _ t _ h4
  have h6 : (((((((w.setCell ⟨g, 0, none⟩ (.int .u32 s.a)).setCell ⟨g, 1, none⟩ (.int .u32 s.b)).setCell ⟨g, 2, none⟩ (.int .u32 s.c)).setCell ⟨g, 3, none⟩ (.int .u32 s.d)).setCell ⟨g, 4, none⟩ (.int .u32 s.e)).setCell ⟨g, 5, none⟩ (.int .u32 s.f)).setCell ⟨g, 6, none⟩ (.int .u32 s.g)).heap[g]? = some (.cells #[.int .u32 s.a, .int .u32 s.b, .int .u32 s.c, .int .u32 s.d, .int .u32 s.e, .int .u32 s.f, .int .u32 s.g, .int .u32 s0.h] t (0, 0)) := heap_setCell_same _ g 6 _ t _ h5
  have h7 : ((((((((w.setCell ⟨g, 0, none⟩ (.int .u32 s.a)).setCell ⟨g, 1, none⟩ (.int .u32 s.b)).setCell ⟨g, 2, none⟩ (.int .u32 s.c)).setCell ⟨g, 3, none⟩ (.int .u32 s.d)).setCell ⟨g, 4, none⟩ (.int .u32 s.e)).setCell ⟨g, 5, none⟩ (.int .u32 s.f)).setCell ⟨g, 6, none⟩ (.int .u32 s.g)).setCell ⟨g, 7, none⟩ (.int .u32 s.h)).heap[g]? = some (.cells #[.int .u32 s.a, .int .u32 s.b, .int .u32 s.c, .int .u32 s.d, .int .u32 s.e, .int .u32 s.f, .int .u32 s.g, .int .u32 s.h] t (0, 0)) := heap_setCell_same _ g 7 _ t _ h6
  exact h7
theorem put8_keeps (w : World) (g : Nat) (s : St) : Keeps (fun k => k = g) w (put8 w g s) :=
  ((((((((Keeps.refl (fun k => k = g) w).setCell _ _ (fun _ => rfl)).setCell _ _ (fun _ => rfl)).setCell _ _ (fun _ => rfl)).setCell _ _ (fun _ => rfl)).setCell _ _ (fun _ => rfl)).setCell _ _ (fun _ => rfl)).setCell _ _ (fun _ => rfl)).setCell _ _ (fun _ => rfl)
/-- The rounds, so far. -/
def Rel3 (w : World) (gw gv : Nat) (ks b : List Int) (s : St) (v : Value) (wr : World) : Prop :=
  ∃ j : Nat, v = .int .i64 j ∧ j ≤ 64 ∧ wr.heap[gv]? = some (.cells (rnds ks (sched b) s j).cells 46 (0, 0)) ∧ NumBlk wr gw 56 .u32 (sched b) ∧ Below w.heap.size w wr

theorem St.get (s : St) (t : TypeId) (w : World) (g : Nat) (h : w.heap[g]? = some (.cells s.cells t (0, 0))) (i : Nat) (hi : i < 8) : w.cell? ⟨g, i, none⟩ = some (.int .u32 (s.ws.getD i 0)) := by
  rw [cell_of_row _ _ _ _ _ _ h]
  match i, hi with
  | 0, _ => rfl
  | 1, _ => rfl
  | 2, _ => rfl
  | 3, _ => rfl
  | 4, _ => rfl
  | 5, _ => rfl
  | 6, _ => rfl
  | 7, _ => rfl
theorem St.add_ws (s v : St) (i : Nat) (hi : i < 8) : add32 (s.ws.getD i 0) (v.ws.getD i 0) = (addSt s v).ws.getD i 0 := by
  match i, hi with
  | 0, _ => rfl
  | 1, _ => rfl
  | 2, _ => rfl
  | 3, _ => rfl
  | 4, _ => rfl
  | 5, _ => rfl
  | 6, _ => rfl
  | 7, _ => rfl
theorem St.cells_ws (s : St) : s.cells = (nums .u32 s.ws).toArray := rfl
theorem mix_getD (a b : List Int) (i : Nat) (ha : i ≤ a.length) (hb : i < b.length) : (a.take i ++ b.drop i).getD i 0 = b.getD i 0 := by
  rw [List.getD_eq_getElem?_getD, List.getElem?_append_right (by simp; omega), List.getElem?_drop]
  simp [List.getD_eq_getElem?_getD, Nat.min_eq_left ha]
theorem mix_set (a b : List Int) (i : Nat) (ha : i < a.length) (hb : i < b.length) : (a.take i ++ b.drop i).set i (a.getD i 0) = a.take (i + 1) ++ b.drop (i + 1) := by
  rw [List.set_append_right _ _ (by simp; omega), List.length_take, Nat.min_eq_left (by omega), Nat.sub_self, List.drop_eq_getElem_cons hb, List.set_cons_zero, List.take_succ_eq_append_getElem ha, List.append_assoc]
  simp [List.getD_eq_getElem?_getD, ha]
/-- The last loop: the words added so far. -/
def Rel4 (w : World) (g gv : Nat) (s v : St) (i : Value) (wr : World) : Prop :=
  ∃ k : Nat, i = .int .i64 k ∧ k ≤ 8 ∧ NumBlk wr g 46 .u32 ((addSt s v).ws.take k ++ s.ws.drop k) ∧ wr.heap[gv]? = some (.cells v.cells 46 (0, 0)) ∧ Keeps (fun k => k = g) w wr

set_option maxRecDepth 100000 in
set_option maxHeartbeats 2000000 in
theorem block_calls (w : World) (g : Nat) (s : St) (A : Option Addr) (n c : Nat) (b ks h0 : List Int) (hs : w.heap[g]? = some (.cells s.cells 46 (0, 0))) (hW : s.W) (hb : Rd w (.slice A n c) (nums .u8 b)) (hn : 64 ≤ b.length) (hB : Bytes b) (hT : Tabs ks h0 w) :
    Calls Tryd.prog 20 #[.pointer (some ⟨g, 0, none⟩), .slice A n c] w fun e w' => e = .returned (.tuple #[]) ∧ w'.heap[g]? = some (.cells (compress ks s b).cells 46 (0, 0)) ∧ Keeps (fun k => k = g) w w' := by
  have hnl : n = b.length := by
    obtain ⟨A', c', he, _⟩ := hb
    injection he with _ he _
    rw [he, nums_length]
  have hn2 : 64 ≤ n := by omega
  obtain ⟨ad, rfl, _⟩ := hb.at_ 0 (by omega)
  have HS := Lib.hid hs
  have HB := Lib.hid hb
  have HN := Lib.hid hnl
  have HT := Lib.hid hT
  clear hs hb hnl hT
  go_enter Tryd.func20, Tryd.ntmps20
  go_wp2
  go_loopw [18] (fun i wr => Rel1 w g w.heap.size b i wr) (fun i _ => 16 - (intOf i).toNat)
  case atStart => exact ⟨0, rfl, by omega, heap_alloc_new w _, (Below.refl _ _).alloc (Nat.le_refl _) _⟩
  case round =>
    obtain ⟨k, rfl, hk, hnb, hbel⟩ := hrel
    by_cases hlt : k < 16
    · have hlt' : (k : Int) < 16 := by omega
      have HNB := Lib.hid hnb
      have HBL := Lib.hid hbel
      have hb2 := HB.out.below hbel
      have c0 := hb2.at_ (4 * k) (by omega)
      have c1 := hb2.at_ (4 * k + 1) (by omega)
      have c2 := hb2.at_ (4 * k + 2) (by omega)
      have c3 := hb2.at_ (4 * k + 3) (by omega)
      obtain ⟨_, e0, c0⟩ := c0
      obtain ⟨_, e1, c1⟩ := c1
      obtain ⟨_, e2, c2⟩ := c2
      obtain ⟨_, e3, c3⟩ := c3
      cases e0
      cases e1
      cases e2
      cases e3
      have f0 := hnb.free k
      have cw : ∃ z, wr.cell? ⟨w.heap.size, k, none⟩ = some (.int .u32 z) := ⟨_, hnb.cell k (by simp; omega)⟩
      obtain ⟨z, cw⟩ := cw
      clear hb2 hnb hbel
      rw [add_pos _ _ (by omega)] at c1 c2 c3
      have x0 := hB.at_ (4 * k)
      have x1 := hB.at_ (4 * k + 1)
      have x2 := hB.at_ (4 * k + 2)
      have x3 := hB.at_ (4 * k + 3)
      have HW := Lib.hid (show word b k = b.getD (4 * k) 0 * 16777216 + b.getD (4 * k + 1) 0 * 65536 + b.getD (4 * k + 2) 0 * 256 + b.getD (4 * k + 3) 0 from rfl)
      generalize b.getD (4 * k) 0 = y0 at *
      generalize b.getD (4 * k + 1) 0 = y1 at *
      generalize b.getD (4 * k + 2) 0 = y2 at *
      generalize b.getD (4 * k + 3) 0 = y3 at *
      have HO := or_word y0 y1 y2 y3 x0 x1 x2 x3
      have b0 : (0 : Int) ≤ 4 * (k : Int) := by omega
      have b1 : (0 : Int) ≤ 4 * (k : Int) + 1 := by omega
      have b2 : (0 : Int) ≤ 4 * (k : Int) + 2 := by omega
      have b3 : (0 : Int) ≤ 4 * (k : Int) + 3 := by omega
      have t0 : 4 * (k : Int) < (n : Int) := by omega
      have t1 : 4 * (k : Int) + 1 < (n : Int) := by omega
      have t2 : 4 * (k : Int) + 2 < (n : Int) := by omega
      have t3 : 4 * (k : Int) + 3 < (n : Int) := by omega
      have kw : (k : Int) < 64 := by omega
      have k0 : (0 : Int) ≤ (k : Int) := by omega
      have w0 : IntKind.i64.wrap (4 * (k : Int)) = 4 * (k : Int) := IntWalk.i64_in _ (by omega)
      have w1 : IntKind.i64.wrap (4 * (k : Int) + 1) = 4 * (k : Int) + 1 := IntWalk.i64_in _ (by omega)
      have w2 : IntKind.i64.wrap (4 * (k : Int) + 2) = 4 * (k : Int) + 2 := IntWalk.i64_in _ (by omega)
      have w3 : IntKind.i64.wrap (4 * (k : Int) + 3) = 4 * (k : Int) + 3 := IntWalk.i64_in _ (by omega)
      have v0 : IntKind.u32.wrap y0 = y0 := IntWalk.u32_in _ (by omega)
      have v1 : IntKind.u32.wrap y1 = y1 := IntWalk.u32_in _ (by omega)
      have v2 : IntKind.u32.wrap y2 = y2 := IntWalk.u32_in _ (by omega)
      have v3 : IntKind.u32.wrap y3 = y3 := IntWalk.u32_in _ (by omega)
      have v4 : IntKind.u32.wrap (y0 * 16777216) = y0 * 16777216 := IntWalk.u32_in _ (by omega)
      have v5 : IntKind.u32.wrap (y1 * 65536) = y1 * 65536 := IntWalk.u32_in _ (by omega)
      have v6 : IntKind.u32.wrap (y2 * 256) = y2 * 256 := IntWalk.u32_in _ (by omega)
      have n0 : (4 * (k : Int)).toNat = 4 * k := by omega
      have n1 : (4 * (k : Int) + 1).toNat = 4 * k + 1 := by omega
      have n2 : (4 * (k : Int) + 2).toNat = 4 * k + 2 := by omega
      have n3 : (4 * (k : Int) + 3).toNat = 4 * k + 3 := by omega
      go_wp2
      go_still_tail 35, (by kernel_rfl)
      change wpList _ _ _ _ _ wr.drew
      go_wp2
      go_roundw
      case rel =>
        refine ⟨k + 1, by go_num, by omega, ?_, (HBL.out.drew).setCell (Nat.le_refl _) _⟩
        have := (show NumBlk wr.drew w.heap.size _ _ _ from HNB.out).set_ k (y0 * 16777216 + y1 * 65536 + y2 * 256 + y3)
        rw [← HW.out, w16_take b k (by omega)] at this
        rw [← HW.out]
        exact this
      case measure => simp [intOf]; omega
    · have hk16 : k = 16 := by omega
      rw [hk16, show (w16 b).take 16 = w16 b from List.take_of_length_le (by simp [w16])] at hnb
      have hge : (16 : Int) ≤ (k : Int) := by omega
      have hdk : decide ((k : Int) < 16) = false := by simp; omega
      have HNB := Lib.hid hnb
      have HBL := Lib.hid hbel
      clear hnb hbel hlt hk16
      go_wp2
      go_loopw [6] (fun i wr => Rel2 w w.heap.size b i wr) (fun i _ => 64 - (intOf i).toNat)
      case atStart => exact ⟨16, rfl, by omega, by omega, HNB.out, HBL.out⟩
      case round =>
        clear HNB HBL
        obtain ⟨i, rfl, hi1, hi2, hnb, hbel⟩ := hrel
        by_cases hlt : i < 64
        · have hlt' : (i : Int) < 64 := by omega
          have hlen : (wGo (i - 16) (w16 b)).length = i := by rw [wGo_length]; simp [w16]; omega
          have hg : ∀ j, j < i → ((wGo (i - 16) (w16 b)) ++ List.replicate (64 - i) 0).getD j 0 = (wGo (i - 16) (w16 b)).getD j 0 := by
            intro j hj
            rw [List.getD_eq_getElem?_getD, List.getElem?_append_left (by omega), ← List.getD_eq_getElem?_getD]
          have htot : ((wGo (i - 16) (w16 b)) ++ List.replicate (64 - i) 0).length = 64 := by simp [hlen]; omega
          have c15 := hnb.cell (i - 15) (by omega)
          have c2 := hnb.cell (i - 2) (by omega)
          have c16 := hnb.cell (i - 16) (by omega)
          have c7 := hnb.cell (i - 7) (by omega)
          have ci := hnb.cell i (by omega)
          have fi := hnb.free i
          rw [hg _ (by omega)] at c15 c2 c16 c7
          have HN := Lib.hid (show wNext (wGo (i - 16) (w16 b)) = add32 (add32 (add32 ((wGo (i - 16) (w16 b)).getD (i - 16) 0) (small0 ((wGo (i - 16) (w16 b)).getD (i - 15) 0))) ((wGo (i - 16) (w16 b)).getD (i - 7) 0)) (small1 ((wGo (i - 16) (w16 b)).getD (i - 2) 0)) by
            unfold wNext; rw [hlen])
          have x15 := wGo_W hB (i - 16) (i - 15)
          have x2 := wGo_W hB (i - 16) (i - 2)
          have HNB := Lib.hid hnb
          have HBL := Lib.hid hbel
          generalize (wGo (i - 16) (w16 b)).getD (i - 15) 0 = y15 at *
          generalize (wGo (i - 16) (w16 b)).getD (i - 2) 0 = y2 at *
          generalize (wGo (i - 16) (w16 b)).getD (i - 16) 0 = y16 at *
          generalize (wGo (i - 16) (w16 b)).getD (i - 7) 0 = y7 at *
          generalize ((wGo (i - 16) (w16 b)) ++ List.replicate (64 - i) 0).getD i 0 = yi at *
          clear hnb hbel hg hlen htot
          have i0 : (0 : Int) ≤ (i : Int) := by omega
          have a15 : (0 : Int) ≤ (i : Int) - 15 := by omega
          have a2 : (0 : Int) ≤ (i : Int) - 2 := by omega
          have a16 : (0 : Int) ≤ (i : Int) - 16 := by omega
          have a7 : (0 : Int) ≤ (i : Int) - 7 := by omega
          have l15 : (i : Int) - 15 < 64 := by omega
          have l2 : (i : Int) - 2 < 64 := by omega
          have l16 : (i : Int) - 16 < 64 := by omega
          have l7 : (i : Int) - 7 < 64 := by omega
          have g15 : (15 : Int) ≤ (i : Int) := by omega
          have g16 : (16 : Int) ≤ (i : Int) := by omega
          have g7 : (7 : Int) ≤ (i : Int) := by omega
          have g2 : (2 : Int) ≤ (i : Int) := by omega
          have s16 : (i : Int) < 80 := by omega
          have s7 : (i : Int) < 71 := by omega
          have w15 : IntKind.i64.wrap ((i : Int) - 15) = (i : Int) - 15 := IntWalk.i64_in _ (by omega)
          have w2 : IntKind.i64.wrap ((i : Int) - 2) = (i : Int) - 2 := IntWalk.i64_in _ (by omega)
          have w16' : IntKind.i64.wrap ((i : Int) - 16) = (i : Int) - 16 := IntWalk.i64_in _ (by omega)
          have w7 : IntKind.i64.wrap ((i : Int) - 7) = (i : Int) - 7 := IntWalk.i64_in _ (by omega)
          have n15 : ((i : Int) - 15).toNat = i - 15 := by omega
          have n2 : ((i : Int) - 2).toNat = i - 2 := by omega
          have n16 : ((i : Int) - 16).toNat = i - 16 := by omega
          have n7 : ((i : Int) - 7).toNat = i - 7 := by omega
          go_wp2
          go_quiet (fail)
          go_wp2_with fail
          refine (rot_calls y15 x15 (-7) 7 (by decide) (by omega) (by omega) _).mono ?_
          rintro e wa ⟨rfl, rfl⟩
          go_wp2_with fail
          refine (rot_calls y15 x15 (-18) 18 (by decide) (by omega) (by omega) _).mono ?_
          rintro e wa ⟨rfl, rfl⟩
          go_wp2_with fail
          refine (rot_calls y2 x2 (-17) 17 (by decide) (by omega) (by omega) _).mono ?_
          rintro e wa ⟨rfl, rfl⟩
          go_wp2_with fail
          refine (rot_calls y2 x2 (-19) 19 (by decide) (by omega) (by omega) _).mono ?_
          rintro e wa ⟨rfl, rfl⟩
          go_wp2_with fail
          generalize hs0 : bits .xor .u32 (bits .xor .u32 (rotr y15 7) (rotr y15 18)) (y15 / 8) = t0
          generalize hs1 : bits .xor .u32 (bits .xor .u32 (rotr y2 17) (rotr y2 19)) (y2 / 1024) = t1
          have HS0 := Lib.hid hs0
          have HS1 := Lib.hid hs1
          clear hs0 hs1
          have u1 : IntKind.u32.wrap (y16 + t0) = add32 y16 t0 := IntKind.wrap_u32 _
          have u2 : IntKind.u32.wrap (add32 y16 t0 + y7) = add32 (add32 y16 t0) y7 := IntKind.wrap_u32 _
          have u3 : IntKind.u32.wrap (add32 (add32 y16 t0) y7 + t1) = add32 (add32 (add32 y16 t0) y7) t1 := IntKind.wrap_u32 _
          have c16q : (wr.drewN nq).cell? ⟨w.heap.size, i - 16, none⟩ = some (.int .u32 y16) := c16
          have c7q : (wr.drewN nq).cell? ⟨w.heap.size, i - 7, none⟩ = some (.int .u32 y7) := c7
          have ciq : (wr.drewN nq).cell? ⟨w.heap.size, i, none⟩ = some (.int .u32 yi) := ci
          have fiq : (wr.drewN nq).frozen? ⟨w.heap.size, i, none⟩ = false := fi
          have HNBq := Lib.hid (show NumBlk (wr.drewN nq) w.heap.size _ _ _ from HNB.out)
          have HBLq := Lib.hid (HBL.out.drewN nq)
          clear c16 c7 ci fi HNB HBL c15 c2
          generalize wr.drewN nq = wq at *
          go_still_tail 15, (by kernel_rfl)
          change wpList _ _ _ _ _ wq.drew
          go_wp2
          go_roundw
          case rel =>
            refine ⟨i + 1, by go_num, by omega, by omega, ?_, (HBLq.out.drew).setCell (Nat.le_refl _) _⟩
            have := (show NumBlk wq.drew w.heap.size _ _ _ from HNBq.out).set_ i (add32 (add32 (add32 y16 t0) y7) t1)
            rw [wGo_set' b i hi1 hlt _ (by rw [HN.out, ← HS0.out, ← HS1.out]; rfl)] at this
            exact this
          case measure => simp [intOf]; omega
        · have hi64 : i = 64 := by omega
          rw [hi64] at hnb
          have hwl : wGo (64 - 16) (w16 b) ++ List.replicate (64 - 64) 0 = sched b := by simp [sched]
          rw [hwl] at hnb
          have hge2 : (64 : Int) ≤ (i : Int) := by omega
          have hdi : decide ((i : Int) < 64) = false := by simp; omega
          have HNB := Lib.hid hnb
          have HBL := Lib.hid hbel
          have hs2 := hbel.block g (blk_lt HS.out)
          rw [HS.out] at hs2
          have q0 := cell_of_row _ _ 0 _ _ _ hs2
          have q1 := cell_of_row _ _ 1 _ _ _ hs2
          have q2 := cell_of_row _ _ 2 _ _ _ hs2
          have q3 := cell_of_row _ _ 3 _ _ _ hs2
          have q4 := cell_of_row _ _ 4 _ _ _ hs2
          have q5 := cell_of_row _ _ 5 _ _ _ hs2
          have q6 := cell_of_row _ _ 6 _ _ _ hs2
          have q7 := cell_of_row _ _ 7 _ _ _ hs2
          simp only [St.cells] at q0 q1 q2 q3 q4 q5 q6 q7
          have HS2 := Lib.hid hs2
          clear hnb hbel hlt hi64 hs2 hwl
          have HT2 := Lib.hid (HT.out.below HBL.out)
          go_wp2
          go_loopw [103] (fun i wr3 => Rel3 w w.heap.size wr.heap.size ks b s i wr3) (fun i _ => 64 - (intOf i).toNat)
          case atStart =>
            refine ⟨0, rfl, by omega, heap_alloc_new wr _, ?_, ?_⟩
            · exact HNB.out.keeps (S := fun _ => False) ((Keeps.refl _ _).alloc _) (fun h => h)
            · exact HBL.out.alloc HBL.out.size _
          case round =>
            have hwlt := HBL.out.size
            have hgw := HNB.out.lt
            clear HNB HBL q0 q1 q2 q3 q4 q5 q6 q7 HT2
            obtain ⟨j, rfl, hj, hv, hnb, hbel⟩ := hrel
            by_cases hlt : j < 64
            · have hlt' : (j : Int) < 64 := by omega
              have j0 : (0 : Int) ≤ (j : Int) := by omega
              have hT2 := HT.out.below hbel
              have ck := hT2.ks j hlt
              have cw := hnb.cell j (by simp [sched, wGo_length, w16]; omega)
              have HRN := Lib.hid (show rnds ks (sched b) s (j + 1) = rnd (rnds ks (sched b) s j) (ks.getD j 0) ((sched b).getD j 0) from rfl)
              have hVW := rnds_W (ks := ks) (ws := sched b) hW j
              have q0 := cell_of_row _ _ 0 _ _ _ hv
              have q1 := cell_of_row _ _ 1 _ _ _ hv
              have q2 := cell_of_row _ _ 2 _ _ _ hv
              have q3 := cell_of_row _ _ 3 _ _ _ hv
              have q4 := cell_of_row _ _ 4 _ _ _ hv
              have q5 := cell_of_row _ _ 5 _ _ _ hv
              have q6 := cell_of_row _ _ 6 _ _ _ hv
              have q7 := cell_of_row _ _ 7 _ _ _ hv
              have f0 := frozen_of_row _ _ 0 _ _ hv
              have f1 := frozen_of_row _ _ 1 _ _ hv
              have f2 := frozen_of_row _ _ 2 _ _ hv
              have f3 := frozen_of_row _ _ 3 _ _ hv
              have f4 := frozen_of_row _ _ 4 _ _ hv
              have f5 := frozen_of_row _ _ 5 _ _ hv
              have f6 := frozen_of_row _ _ 6 _ _ hv
              have f7 := frozen_of_row _ _ 7 _ _ hv
              have HV := Lib.hid hv
              have HNB := Lib.hid hnb
              have HBL := Lib.hid hbel
              clear hv hnb hbel hT2
              generalize rnds ks (sched b) s j = v at *
              generalize ks.getD j 0 = kj at *
              generalize (sched b).getD j 0 = wj at *
              obtain ⟨va, vb, vc, vd, ve, vf, vg, vh⟩ := v
              simp only [St.cells] at q0 q1 q2 q3 q4 q5 q6 q7
              obtain ⟨⟨xa, xb, xc, xd⟩, xe, xf, xg, xh⟩ := hVW
              simp only at xa xe
              go_wp2
              go_quiet (fail)
              go_wp2
              go_quiet ((first | (go_at_call_of 26 (@Neg.neg Int Int.instNegInt (@OfNat.ofNat Int (nat_lit 6) (@instOfNat (nat_lit 6)))); exact rot_quiet _ xe (-6) 6 (by decide) (by omega) (by omega) _ ⟨_, rfl⟩) | (go_at_call_of 26 (@Neg.neg Int Int.instNegInt (@OfNat.ofNat Int (nat_lit 11) (@instOfNat (nat_lit 11)))); exact rot_quiet _ xe (-11) 11 (by decide) (by omega) (by omega) _ ⟨_, rfl⟩) | (go_at_call_of 26 (@Neg.neg Int Int.instNegInt (@OfNat.ofNat Int (nat_lit 25) (@instOfNat (nat_lit 25)))); exact rot_quiet _ xe (-25) 25 (by decide) (by omega) (by omega) _ ⟨_, rfl⟩)))
              go_wp2_with fail
              generalize ht1 : (vh + bits .xor .u32 (bits .xor .u32 (rotr ve 6) (rotr ve 11)) (rotr ve 25) + bits .xor .u32 (bits .and .u32 ve vf) (bits .and .u32 (bits .xor .u32 IntKind.u32.max ve) vg) + kj + wj) % 4294967296 = T1
              have HT1 := Lib.hid ht1
              clear ht1
              go_quiet ((first | (go_at_call_of 26 (@Neg.neg Int Int.instNegInt (@OfNat.ofNat Int (nat_lit 2) (@instOfNat (nat_lit 2)))); exact rot_quiet _ xa (-2) 2 (by decide) (by omega) (by omega) _ ⟨_, rfl⟩) | (go_at_call_of 26 (@Neg.neg Int Int.instNegInt (@OfNat.ofNat Int (nat_lit 13) (@instOfNat (nat_lit 13)))); exact rot_quiet _ xa (-13) 13 (by decide) (by omega) (by omega) _ ⟨_, rfl⟩) | (go_at_call_of 26 (@Neg.neg Int Int.instNegInt (@OfNat.ofNat Int (nat_lit 22) (@instOfNat (nat_lit 22)))); exact rot_quiet _ xa (-22) 22 (by decide) (by omega) (by omega) _ ⟨_, rfl⟩)))
              go_wp2
              have hT : tOne ⟨va, vb, vc, vd, ve, vf, vg, vh⟩ kj wj = T1 := HT1.out
              refine ⟨?_, by simp [intOf]; omega⟩
              have hr : rnd ⟨va, vb, vc, vd, ve, vf, vg, vh⟩ kj wj = ⟨(T1 + (big0 va + majF va vb vc)) % 4294967296, va, vb, vc, (vd + T1) % 4294967296, ve, vf, vg⟩ := by simp only [rnd, hT]
              change Rel3 w w.heap.size _ ks b s _ (put8 (World.drewN _ _) _ ⟨(T1 + (big0 va + majF va vb vc)) % 4294967296, va, vb, vc, (vd + T1) % 4294967296, ve, vf, vg⟩)
              rw [← hr]
              generalize rnd ⟨va, vb, vc, vd, ve, vf, vg, vh⟩ kj wj = v' at *
              have hdr := fun m => HBL.out.drewN m
              refine ⟨j + 1, by go_num, by omega, ?_, ?_, ?_⟩
              · rw [HRN.out]
                exact put8_blk _ _ _ _ _ HV.out
              · exact NumBlk.keeps (show NumBlk (World.drewN _ _) _ _ _ _ from HNB.out) (put8_keeps _ _ _) (by omega)
              · exact (hdr _).trans ((put8_keeps _ _ _).below (hdr _).size (by rintro i rfl; exact hwlt))
            · have hj64 : j = 64 := by omega
              rw [hj64] at hv
              have hge3 : (64 : Int) ≤ (j : Int) := by omega
              have hdj : decide ((j : Int) < 64) = false := by simp; omega
              have hs3 := hbel.block g (blk_lt HS.out)
              rw [HS.out] at hs3
              have hgl := blk_lt HS.out
              generalize hV : rnds ks (sched b) s 64 = v at *
              have HVe := Lib.hid (show compress ks s b = addSt s v by unfold compress; rw [hV])
              have HVS := Lib.hid (show Rel4 w g _ s v (.int .i64 (0 : Nat)) wr from ⟨0, rfl, by omega, hs3, hv, Keeps.of_below hbel _⟩)
              clear hv hnb hbel hlt hj64 hs3 hV
              go_wp2
              have hgne : g < _ := Nat.lt_of_lt_of_le hgl hwlt
              have hgne2 := Nat.ne_of_lt hgne
              clear hgne hwlt hgw
              go_loopw [183] (fun i wr4 => Rel4 w g _ s v i wr4) (fun i _ => 8 - (intOf i).toNat)
              case atStart => exact HVS.out
              case round =>
                clear HVS
                obtain ⟨i, rfl, hi, hsb, hvb, hkp⟩ := hrel
                by_cases hlt : i < 8
                · have hlt' : (i : Int) < 8 := by omega
                  have i0 : (0 : Int) ≤ (i : Int) := by omega
                  have cs := hsb.cell i (by simp [St.ws]; omega)
                  rw [mix_getD _ _ _ (by simp [St.ws]; omega) (by simp [St.ws]; omega)] at cs
                  have cv := St.get v _ _ _ hvb i hlt
                  have fs := hsb.free i
                  have HX := Lib.hid (St.add_ws s v i hlt)
                  have HSB := Lib.hid hsb
                  have HVB := Lib.hid hvb
                  have HK := Lib.hid hkp
                  clear hsb hvb hkp
                  generalize s.ws.getD i 0 = y1 at *
                  generalize v.ws.getD i 0 = y2 at *
                  have u1 : IntKind.u32.wrap (y1 + y2) = add32 y1 y2 := IntKind.wrap_u32 _
                  go_wp2
                  go_still_tail 11, (by kernel_rfl)
                  change wpList _ _ _ _ _ (World.drew _)
                  go_wp2
                  go_roundw
                  case rel =>
                    refine ⟨i + 1, by go_num, by omega, ?_, ?_, (HK.out.drew).setCell _ _ (fun _ => rfl)⟩
                    · have := (show NumBlk (World.drew _) g _ _ _ from HSB.out).set_ i (add32 y1 y2)
                      rw [HX.out, mix_set _ _ i (by simp [St.ws]; omega) (by simp [St.ws]; omega)] at this
                      rw [HX.out]
                      exact this
                    · change (World.setCell _ _ _).heap[_]? = _
                      rw [heap_setCell_other _ _ _ _ (fun h => hgne2 h.symm)]
                      exact HVB.out
                  case measure => simp [intOf]; omega
                · have hi8 : i = 8 := by omega
                  rw [hi8] at hsb
                  have hdi8 : decide ((i : Int) < 8) = false := by simp; omega
                  have hge8 : (8 : Int) ≤ (i : Int) := by omega
                  have HSB := Lib.hid hsb
                  have HK := Lib.hid hkp
                  clear hsb hvb hkp
                  go_wp2
                  refine bodyPost_end (results_none rfl _ _ _) rfl ⟨rfl, ?_, HK.out⟩
                  rw [HVe.out]
                  exact HSB.out
end Go.Proofs.YtimdbnhgoekflaaDoor
