/- Joined: Blk, Blk2. -/
import Derived.Test.YtolflieiipnndaaDoorKd
import Derived.Laws.CopyOwn
/- A block of numbers of 64 bits: reads of it, stores into it, copies over it. -/
namespace Go.Proofs.YtolflieiipnndaaDoor.X
open Go.RowKit Go.Proofs.YtolflieiipnndaaDoor
set_option linter.unusedVariables false
/-- Block g holds the numbers B. -/
def Blk (w : World) (g : Nat) (B : List Int) : Prop := w.heap[g]? = some (.cells (numv .u64 B).toArray 40 (0, 0))
theorem Blk.keeps {S : Nat → Prop} {w w' : World} {g : Nat} {B : List Int} (h : Blk w g B) (hk : Keeps S w w') (hg : ¬ S g) : Blk w' g B := hk.blk h hg
theorem Blk.below {w w' : World} {g : Nat} {B : List Int} (h : Blk w g B) (hk : Below w.heap.size w w') : Blk w' g B := (Keeps.of_below hk (fun _ => False)).blk h id
theorem Blk.cell {w : World} {g : Nat} {B : List Int} (h : Blk w g B) (p : Nat) (hp : p < B.length) : w.cell? ⟨g, p, none⟩ = some (.int .u64 (B.getD p 0)) := by
  unfold Blk at h
  have := numv_get .u64 B p hp
  simp [World.cell?, h, this]
theorem Blk.free {w : World} {g : Nat} {B : List Int} (h : Blk w g B) (j : Nat) : w.frozen? ⟨g, j, none⟩ = false := frozen_of_row _ _ _ _ _ h
theorem Blk.set {w : World} {g : Nat} {B : List Int} (h : Blk w g B) (p : Nat) (v : Int) : Blk (w.setCell ⟨g, p, none⟩ (.int .u64 v)) g (B.set p v) := by
  unfold Blk at *
  have e1 : (numv .u64 (B.set p v)).toArray = (numv .u64 B).toArray.setIfInBounds p (.int .u64 v) := by
    simp [numv, List.map_set]
  rw [e1]
  show (w.heap.modify g _)[g]? = _
  rw [Array.getElem?_modify, if_pos rfl, h]
  rfl
theorem Blk.lt {w : World} {g : Nat} {B : List Int} (h : Blk w g B) : g < w.heap.size := blkLt h
/-- A window of it, read. -/
theorem Blk.rd {w : World} {g : Nat} {B : List Int} (h : Blk w g B) (o m c : Nat) (hm : o + m ≤ B.length) (hc : m ≤ c) (hB : B.length ≤ 4611686018427387904) : Rd w (.slice (some ⟨g, o, none⟩) m c) (numv .u64 ((B.drop o).take m)) := by
  have hl : (numv .u64 ((B.drop o).take m)).length = m := by rw [numv_length, List.length_take, List.length_drop]; omega
  refine ⟨_, c, by rw [hl], by rw [hl]; exact hc, by rw [hl]; omega, fun _ => ⟨_, rfl, h.lt, fun j u hj => ?_⟩⟩
  rw [addp]
  have hjm : j < m := by
    rcases Nat.lt_or_ge j m with h1 | h1
    · exact h1
    · rw [List.getElem?_eq_none (by omega)] at hj; cases hj
  rw [h.cell (o + j) (by omega), ← hj, numv_get _ _ _ (by rw [List.length_take, List.length_drop]; omega)]
  congr 2
  rw [List.getD_eq_getElem?_getD, List.getD_eq_getElem?_getD, List.getElem?_take, if_pos hjm, List.getElem?_drop]
/-- A copy over a window. -/
theorem wpList_copyW {w : World} {ops : Array Oper} {rest : List Oper} {o : Oper} {a : Act} {Q : Exit → Act → World → Prop} (hgd : o.guard = none) (d s : Operand) (T1 T2 : TypeId)
    (ho : o.op = .call { callee := .builtin .copy, args := #[d, s], argTypes := #[T1, T2] }) (hu : Tryd.prog.underlying T1 = some (.slice 40))
    (g off m dCap : Nat) (B : List Int) (hd : a.eval d = .slice (some ⟨g, off, none⟩) m dCap) (hg : Blk w g B) (hm : off + m ≤ B.length) (h1 : 0 < m)
    (sv : Value) (ys : List Int) (hs : a.eval s = sv) (hr : Rd w sv (numv .u64 ys)) (hy : ys.length = m)
    (h : ∀ w', Hid (Blk w' g (B.take off ++ (ys ++ B.drop (off + m)))) → Hid (Keeps (fun i => i = g) w w') → wpList Tryd.prog ops Q rest (a.put o.dst (goInt m)) w') :
    wpList Tryd.prog ops Q (o :: rest) a w := by
  obtain ⟨A, c, rfl, h2, h3, h4⟩ := hr
  rw [numv_length] at *
  have hsz : (Tryd.prog.info? 40).map (·.size) = some 1 := by kernel_rfl
  obtain ⟨ad, rfl, hb, hc⟩ := h4 (by omega)
  have hl : (numv .u64 ys).length = Nat.min ys.length m := by rw [numv_length, hy]; exact (Nat.min_self _).symm
  refine wpList_copy_own hgd d s _ _ ho 40 hu hsz g off m dCap ad ys.length c hd hs (numv .u64 B).toArray _ hg (numv .u64 ys) hl hc (by rw [numv_length]; simp [numv]; omega) (numv_one _ _) ?_
  rw [numv_length, hy]
  refine h _ (Lib.hid ?_) (Lib.hid ⟨rfl, rfl, rfl, by simp [World.setRow], fun k hk hn => setRow_other w g k _ hn⟩)
  unfold Blk
  rw [setRow_heap w g _ _ _ _ hg]
  simp [numv]
end Go.Proofs.YtolflieiipnndaaDoor.X

/- A window of a block of numbers: what stands before it, in it, behind it. -/
namespace Go.Proofs.YtolflieiipnndaaDoor.X
open Go.RowKit Go.Proofs.YtolflieiipnndaaDoor
set_option linter.unusedVariables false
/-- Block g: the numbers P, the window U, and what stands behind it. -/
def Win (w : World) (g : Nat) (P U : List Int) (S : List Value) : Prop := w.heap[g]? = some (.cells (numv .u64 P ++ (numv .u64 U ++ S)).toArray 40 (0, 0))
theorem win_at (P U : List Int) (S : List Value) (k : Nat) (hk : k < U.length) : (numv .u64 P ++ (numv .u64 U ++ S))[P.length + k]? = some (.int .u64 (U.getD k 0)) := by
  rw [List.getElem?_append_right (by rw [numv_length]; omega), numv_length, Nat.add_sub_cancel_left, List.getElem?_append_left (by rw [numv_length]; exact hk), numv_get _ _ _ hk]
section
variable {w w' : World} {g : Nat} {P U : List Int} {S : List Value}
theorem Win.keeps {Q : Nat → Prop} (h : Win w g P U S) (hk : Keeps Q w w') (hg : ¬ Q g) : Win w' g P U S := hk.blk h hg
theorem Win.below (h : Win w g P U S) (hk : Below w.heap.size w w') : Win w' g P U S := (Keeps.of_below hk (fun _ => False)).blk h id
theorem Win.lt (h : Win w g P U S) : g < w.heap.size := blkLt h
theorem Win.free (h : Win w g P U S) (j : Nat) : w.frozen? ⟨g, j, none⟩ = false := frozen_of_row _ _ _ _ _ h
theorem Win.drewN (h : Win w g P U S) (n : Nat) : Win (w.drewN n) g P U S := h
theorem Win.cell (h : Win w g P U S) (k : Nat) (hk : k < U.length) : w.cell? ⟨g, P.length + k, none⟩ = some (.int .u64 (U.getD k 0)) := by
  rw [cell_of_row _ _ _ _ _ _ h, List.getElem?_toArray, win_at _ _ _ _ hk]
theorem Win.set (h : Win w g P U S) (k : Nat) (hk : k < U.length) (v : Int) : Win (w.setCell ⟨g, P.length + k, none⟩ (.int .u64 v)) g P (U.set k v) S := by
  unfold Win at *
  have e1 : (numv .u64 P ++ (numv .u64 (U.set k v) ++ S)).toArray = (numv .u64 P ++ (numv .u64 U ++ S)).toArray.setIfInBounds (P.length + k) (.int .u64 v) := by
    rw [List.setIfInBounds_toArray, List.set_append_right _ _ (by rw [numv_length]; omega), numv_length, Nat.add_sub_cancel_left, List.set_append_left _ _ (by rw [numv_length]; exact hk)]
    simp [numv, List.map_set]
  rw [e1]
  show (w.heap.modify g _)[g]? = _
  rw [Array.getElem?_modify, if_pos rfl, h]
  rfl
theorem Win.rd (h : Win w g P U S) (c : Nat) (hc : U.length ≤ c) (hB : U.length ≤ 4611686018427387904) : Rd w (.slice (some ⟨g, P.length, none⟩) U.length c) (numv .u64 U) := by
  refine ⟨_, c, by rw [numv_length], by rw [numv_length]; exact hc, by rw [numv_length]; omega, fun _ => ⟨_, rfl, h.lt, fun j u hj => ?_⟩⟩
  have hjm : j < U.length := by
    have := (List.getElem?_eq_some_iff.1 hj).1
    rwa [numv_length] at this
  rw [addp, h.cell j hjm, ← hj, numv_get _ _ _ hjm]
end
/-- A copy over a window. -/
theorem wpList_copyWin {w : World} {ops : Array Oper} {rest : List Oper} {o : Oper} {a : Act} {Q : Exit → Act → World → Prop} (hgd : o.guard = none) (d s : Operand) (T1 T2 : TypeId)
    (ho : o.op = .call { callee := .builtin .copy, args := #[d, s], argTypes := #[T1, T2] }) (hu : Tryd.prog.underlying T1 = some (.slice 40))
    (g off m dCap : Nat) (P U : List Int) (S : List Value) (hd : a.eval d = .slice (some ⟨g, off, none⟩) m dCap) (hg : Win w g P U S) (hp : P.length = off) (hm : U.length = m) (h1 : 0 < m)
    (sv : Value) (ys : List Int) (hs : a.eval s = sv) (hr : Rd w sv (numv .u64 ys)) (hy : ys.length = m)
    (h : ∀ w', Hid (Win w' g P ys S) → Hid (Keeps (fun i => i = g) w w') → wpList Tryd.prog ops Q rest (a.put o.dst (goInt m)) w') :
    wpList Tryd.prog ops Q (o :: rest) a w := by
  obtain ⟨A, c, rfl, h2, h3, h4⟩ := hr
  rw [numv_length] at *
  have hsz : (Tryd.prog.info? 40).map (·.size) = some 1 := by kernel_rfl
  obtain ⟨ad, rfl, hb, hc⟩ := h4 (by omega)
  have hl : (numv .u64 ys).length = Nat.min ys.length m := by rw [numv_length, hy]; exact (Nat.min_self _).symm
  refine wpList_copy_own hgd d s _ _ ho 40 hu hsz g off m dCap ad ys.length c hd hs _ _ hg (numv .u64 ys) hl hc (by rw [numv_length]; simp [numv]; omega) (numv_one _ _) ?_
  rw [numv_length, hy]
  refine h _ (Lib.hid ?_) (Lib.hid ⟨rfl, rfl, rfl, by simp [World.setRow], fun k hk hn => setRow_other w g k _ hn⟩)
  unfold Win
  rw [setRow_heap w g _ _ _ _ hg]
  subst hp hm
  have e1 : (numv .u64 P ++ (numv .u64 U ++ S)).take P.length = numv .u64 P := by rw [List.take_append_of_le_length (by rw [numv_length]; omega), List.take_of_length_le (by rw [numv_length]; omega)]
  have e2 : (numv .u64 P ++ (numv .u64 U ++ S)).drop (P.length + U.length) = S := by
    rw [List.drop_append, numv_length, List.drop_of_length_le (by rw [numv_length]; omega), List.nil_append, Nat.add_sub_cancel_left, List.drop_append, numv_length, List.drop_of_length_le (by rw [numv_length]; omega)]
    simp
  simp only [e1, e2]
end Go.Proofs.YtolflieiipnndaaDoor.X
