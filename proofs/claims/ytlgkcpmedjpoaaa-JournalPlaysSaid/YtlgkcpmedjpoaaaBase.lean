/- Words that the walks of this seat share: a slice that reads as a list, what a call keeps, append onto a row of the call's own. -/
import Derived.WalkKit
import Derived.ProofKit
import Derived.OpenShut
import Derived.Lib.Hide
import Derived.Deep.Draws
import Derived.Deep.AppendLies
import Derived.Maps.AppendAt
import Derived.Laws.Rows
import Derived.KernelRfl
import Derived.Test.YtlgkcpmedjpoaaaRows
namespace Go.Proofs.Ytlgkcpmedjpoaaa
open Go.RowKit
set_option linter.unusedVariables false

/-- The values of whole numbers of one kind. -/
def numv (k : IntKind) (xs : List Int) : List Value := xs.map fun x => .int k x
theorem numv_length (k : IntKind) (xs : List Int) : (numv k xs).length = xs.length := by simp [numv]
theorem numv_append (k : IntKind) (xs ys : List Int) : numv k (xs ++ ys) = numv k xs ++ numv k ys := by simp [numv]
theorem numv_one (k : IntKind) (xs : List Int) : ∀ u ∈ numv k xs, u.oneCell' = true := by
  intro u hu
  simp only [numv, List.mem_map] at hu
  obtain ⟨x, _, rfl⟩ := hu
  rfl
theorem numv_get (k : IntKind) (xs : List Int) (j : Nat) (h : j < xs.length) : (numv k xs)[j]? = some (.int k (xs.getD j 0)) := by
  simp [numv, List.getElem?_eq_getElem h, List.getD_eq_getElem?_getD]
theorem numv_take (k : IntKind) (xs : List Int) (n : Nat) : numv k (xs.take n) = (numv k xs).take n := by simp [numv]
theorem numv_drop (k : IntKind) (xs : List Int) (n : Nat) : numv k (xs.drop n) = (numv k xs).drop n := by simp [numv]

/-- What a call keeps: all blocks that were there, but those of S. -/
structure Keeps (S : Nat → Prop) (w w' : World) : Prop where
  os : w'.os = w.os
  tape : w'.tape = w.tape
  output : w'.output = w.output
  size : w.heap.size ≤ w'.heap.size
  block : ∀ k, k < w.heap.size → ¬ S k → w'.heap[k]? = w.heap[k]?
theorem Keeps.refl (S : Nat → Prop) (w : World) : Keeps S w w := ⟨rfl, rfl, rfl, Nat.le_refl _, fun _ _ _ => rfl⟩
theorem Keeps.trans {S T U : Nat → Prop} {a b c : World} (h : Keeps S a b) (k : Keeps T b c) (hS : ∀ i, S i → U i) (hT : ∀ i, i < a.heap.size → T i → U i) : Keeps U a c :=
  ⟨k.os.trans h.os, k.tape.trans h.tape, k.output.trans h.output, Nat.le_trans h.size k.size, fun i hi hn =>
    (k.block i (Nat.lt_of_lt_of_le hi h.size) (fun ht => hn (hT i hi ht))).trans (h.block i hi (fun hs => hn (hS i hs)))⟩
theorem Keeps.mono {S T : Nat → Prop} {a b : World} (h : Keeps S a b) (hS : ∀ i, S i → T i) : Keeps T a b :=
  ⟨h.os, h.tape, h.output, h.size, fun i hi hn => h.block i hi (fun hs => hn (hS i hs))⟩
theorem Keeps.of_below {w w' : World} (h : Below w.heap.size w w') (S : Nat → Prop) : Keeps S w w' := ⟨h.os, h.tape, h.output, h.size, fun i hi _ => h.block i hi⟩
theorem Keeps.below {S : Nat → Prop} {w w' : World} {B : Nat} (h : Keeps S w w') (hB : B ≤ w.heap.size) (hS : ∀ i, S i → B ≤ i) : Below B w w' :=
  ⟨h.os, h.tape, h.output, h.size, fun i hi => h.block i (by omega) (fun hs => by have := hS i hs; omega)⟩
theorem Keeps.of_grown {w w' : World} {row : Option Nat} (h : w.grownBy w' row) : Keeps (fun k => some k = row) w w' := ⟨h.os, h.tape, h.output, h.size, fun i hi hn => h.block i hi hn⟩
theorem Keeps.grown {S : Nat → Prop} {a w w' : World} {row : Option Nat} (h : Keeps S a w) (hg : w.grownBy w' row) (hr : ∀ k, k < a.heap.size → row = some k → S k) : Keeps S a w' :=
  h.trans (Keeps.of_grown hg) (fun _ h => h) (fun i hi he => hr i hi he.symm)
theorem Keeps.alloc {S : Nat → Prop} {a w : World} (h : Keeps S a w) (o : Obj) : Keeps S a (w.alloc o) :=
  h.trans (Keeps.of_below ((Below.refl _ _).alloc (Nat.le_refl _) o) (fun _ => False)) (fun _ h => h) (fun _ _ h => h.elim)
theorem Keeps.drew {S : Nat → Prop} {a w : World} (h : Keeps S a w) : Keeps S a w.drew := ⟨h.os, h.tape, h.output, h.size, h.block⟩
theorem Keeps.drewN {S : Nat → Prop} {a w : World} (h : Keeps S a w) (n : Nat) : Keeps S a (w.drewN n) := ⟨h.os, h.tape, h.output, h.size, h.block⟩
theorem Keeps.setCell {S : Nat → Prop} {a w : World} (h : Keeps S a w) (p : Addr) (u : Value) (hp : p.block < a.heap.size → S p.block) : Keeps S a (w.setCell p u) :=
  ⟨h.os, h.tape, h.output, by simpa [World.setCell] using h.size, fun i hi hn => by
    rw [heap_setCell_other _ _ _ _ (by rintro rfl; exact hn (hp hi))]
    exact h.block i hi hn⟩
theorem blkLt {w : World} {g : Nat} {o : Obj} (h : w.heap[g]? = some o) : g < w.heap.size := (Array.getElem?_eq_some_iff.1 h).1
theorem Keeps.blk {S : Nat → Prop} {w w' : World} {g : Nat} {o : Obj} (h : Keeps S w w') (hb : w.heap[g]? = some o) (hg : ¬ S g) : w'.heap[g]? = some o :=
  (h.block g (blkLt hb) hg).trans hb
theorem Keeps.cell {S : Nat → Prop} {w w' : World} {a : Addr} {v : Value} (h : Keeps S w w') (hc : w.cell? a = some v) (hg : ¬ S a.block) : w'.cell? a = some v := by
  rw [World.cell?_of_block (w := w) (h.block a.block (World.block_lt_of_cell? w a hc) hg)]
  exact hc

theorem _root_.Go.RowKit.Below.drewN {B : Nat} {w W : World} (h : Below B w W) (n : Nat) : Below B w (W.drewN n) := ⟨h.os, h.tape, h.output, h.size, h.block⟩
/-- A slice value that reads as a list of cells (elements of one cell). -/
def Rd (w : World) (v : Value) (xs : List Value) : Prop :=
  ∃ A c, v = .slice A xs.length c ∧ xs.length ≤ c ∧ xs.length ≤ 9223372036854775807 ∧ (0 < xs.length → ∃ ad, A = some ad ∧ ad.block < w.heap.size ∧ ∀ j u, xs[j]? = some u → w.cell? (ad.add j) = some u)
theorem add_blk (a : Addr) (n : Nat) : (a.add n).block = a.block := by unfold Addr.add; split <;> rfl
theorem add_pos (a : Addr) (n : Nat) (h : 0 < n) : a.add n = ⟨a.block, a.off + n, none⟩ := by unfold Addr.add; rw [if_neg (by omega)]
theorem addp (g o j : Nat) : (⟨g, o, none⟩ : Addr).add j = ⟨g, o + j, none⟩ := by unfold Addr.add; split <;> simp_all
theorem Rd.nil (w : World) : Rd w (.slice none 0 0) [] := ⟨none, 0, rfl, Nat.le_refl _, by simp, fun h => absurd h (Nat.lt_irrefl 0)⟩
theorem Rd.move {w w' : World} {v : Value} {xs : List Value} (h : Rd w v xs) (hs : w.heap.size ≤ w'.heap.size) (hm : ∀ k, v.ownBlock = some k → k < w.heap.size → w'.heap[k]? = w.heap[k]?) : Rd w' v xs := by
  obtain ⟨A, c, rfl, h1, h2, h3⟩ := h
  refine ⟨A, c, rfl, h1, h2, fun hp => ?_⟩
  obtain ⟨ad, rfl, hb, hc⟩ := h3 hp
  refine ⟨ad, rfl, Nat.lt_of_lt_of_le hb hs, fun j u hu => ?_⟩
  rw [World.cell?_of_block (w := w) (by rw [add_blk]; exact hm _ rfl hb)]
  exact hc j u hu
theorem Rd.keeps {S : Nat → Prop} {w w' : World} {v : Value} {xs : List Value} (h : Rd w v xs) (hk : Keeps S w w') (hS : ∀ k, v.ownBlock = some k → ¬ S k) : Rd w' v xs :=
  h.move hk.size (fun k hv hlt => hk.block k hlt (hS k hv))
theorem Rd.keeps0 {S : Nat → Prop} {w w' : World} {v : Value} {xs : List Value} (h : Rd w v xs) (hk : Keeps S w w') (hS : 0 < xs.length → ∀ k, v.ownBlock = some k → ¬ S k) : Rd w' v xs := by
  rcases Nat.eq_zero_or_pos xs.length with h0 | h0
  · obtain ⟨A, c, rfl, h1, h2, h3⟩ := h
    exact ⟨A, c, rfl, h1, h2, fun hp => by omega⟩
  · exact h.keeps hk (hS h0)
theorem Rd.below {w w' : World} {v : Value} {xs : List Value} (h : Rd w v xs) (hb : Below w.heap.size w w') : Rd w' v xs :=
  h.move hb.size (fun k _ hlt => hb.block k hlt)
theorem Rd.drewN {w : World} {v : Value} {xs : List Value} (h : Rd w v xs) (n : Nat) : Rd (w.drewN n) v xs := h.move (Nat.le_refl _) (fun _ _ _ => rfl)
theorem Rd.len {w : World} {v : Value} {xs : List Value} (h : Rd w v xs) : ∃ A c, v = .slice A xs.length c := by
  obtain ⟨A, c, rfl, _⟩ := h
  exact ⟨A, c, rfl⟩
theorem Rd.of_own {w : World} {base n : Nat} {e : TypeId} {v : Value} {xs : List Value} (h : w.ownsRow base e 1 v n xs) : Rd w v xs := by
  have hl : xs.length = n := by rw [h.1, Nat.mul_one]
  rcases h.2 with ⟨rfl, h0⟩ | ⟨g, cap, cur, rfl, hb, hg, h1, h2, h3, h4⟩
  · have : xs = [] := List.eq_nil_of_length_eq_zero (by omega)
    subst this
    subst h0
    exact Rd.nil w
  · refine ⟨some ⟨g, 0, none⟩, cap, by rw [hl], by omega, by simp only [maxLen] at h2; omega, fun _ => ⟨⟨g, 0, none⟩, rfl, blkLt hg, fun j u hu => h.cells (g := g) rfl j u hu⟩⟩
theorem Rd.at_ {w : World} {A : Option Addr} {n c : Nat} {k : IntKind} {xs : List Int} (h : Rd w (.slice A n c) (numv k xs)) (j : Nat) (hj : j < xs.length) : ∃ ad, A = some ad ∧ w.cell? (ad.add j) = some (.int k (xs.getD j 0)) := by
  obtain ⟨A', c', he, h1, h2, h3⟩ := h
  injection he with e1 e2 e3
  subst e1
  obtain ⟨ad, e, _, hc⟩ := h3 (by rw [numv_length]; omega)
  exact ⟨ad, e, hc j _ (numv_get k xs j hj)⟩
theorem own_blk_ne {w : World} {base : Nat} {e t : TypeId} {size n g : Nat} {v : Value} {xs : List Value} {cs : Array Value} (h : w.ownsRow base e size v n xs) (hg : w.heap[g]? = some (.cells cs t (0, 0))) (hne : e ≠ t) : v.ownBlock ≠ some g := by
  rcases h.2 with ⟨rfl, _⟩ | ⟨g', cap, cur, rfl, _, hh, _⟩
  · simp [Value.ownBlock]
  · intro he
    have : g' = g := by simpa [Value.ownBlock] using he
    subst this
    rw [hh] at hg
    injection hg with hg
    injection hg with _ ht
    exact hne ht
theorem own_keeps {S : Nat → Prop} {w w' : World} {base n : Nat} {e : TypeId} {size : Nat} {v : Value} {xs : List Value} (h : w.ownsRow base e size v n xs) (hk : Keeps S w w') (hS : ∀ k, v.ownBlock = some k → ¬ S k) : w'.ownsRow base e size v n xs := by
  refine ⟨h.1, ?_⟩
  rcases h.2 with hn | ⟨g, cap, cur, rfl, hb, hg, r⟩
  · exact .inl hn
  · exact .inr ⟨g, cap, cur, rfl, hb, hk.blk hg (hS g rfl), r⟩
theorem ownTake {w : World} {base n m c size : Nat} {e : TypeId} {A : Option Addr} {xs : List Value} (h : w.ownsRow base e size (.slice A n c) n xs) (hm : m ≤ n) : w.ownsRow base e size (.slice A m c) m (xs.take (m * size)) := by
  obtain ⟨hl, h2⟩ := h
  refine ⟨by rw [List.length_take, hl]; exact Nat.min_eq_left (Nat.mul_le_mul_right _ hm), ?_⟩
  rcases h2 with ⟨hv, h0⟩ | ⟨g, cap, cur, hv, hb, hg, h1, h3, h4, h5⟩
  · injection hv with e1 e2 e3
    subst e1 e3
    left
    exact ⟨by rw [show m = 0 from by omega], by omega⟩
  · injection hv with e1 e2 e3
    subst e1 e3
    refine .inr ⟨g, c, cur, rfl, hb, hg, by omega, h3, h4, ?_⟩
    rw [← h5, List.take_take]
    congr 1
    exact (Nat.min_eq_left (Nat.mul_le_mul_right _ hm)).symm
theorem ownSlice {w : World} {base n : Nat} {e : TypeId} {size : Nat} {v : Value} {xs : List Value} (h : w.ownsRow base e size v n xs) : ∃ A c, v = .slice A n c := by
  rcases h.2 with ⟨rfl, rfl⟩ | ⟨g, cap, cur, rfl, _⟩
  · exact ⟨none, 0, rfl⟩
  · exact ⟨some ⟨g, 0, none⟩, cap, rfl⟩
theorem own_lo {w : World} {base n : Nat} {e : TypeId} {size : Nat} {v : Value} {xs : List Value} (h : w.ownsRow base e size v n xs) (k : Nat) (hk : v.ownBlock = some k) : base ≤ k ∧ k < w.heap.size := h.lt k hk

/-! ### append onto a row of the call's own, the source whatever reads -/
section
variable {P : Program} (w : World)
theorem run_append_of_nil (base : Nat) (t ty e : TypeId) (i : TypeInfo) (size : Nat) (ht : P.underlying t = some (.slice e)) (hi : P.info? e = some i)
    (v : Value) (n : Nat) (xs : List Value) (hown : w.ownsRow base e size v n xs) (c : Nat) : (Builtin.append_ #[t, t] ty #[v, .slice none 0 c]).run P w = .ok v w := by
  rcases hown.2 with ⟨rfl, rfl⟩ | ⟨g, cap, cur, rfl, _, _, hnc, _⟩
  · simp [Builtin.append_, run_underlying ht, sizeOf, typeInfo, hi, Builtin.lenOf, Builtin.firstCells]
  · simp [Builtin.append_, run_underlying ht, sizeOf, typeInfo, hi, Builtin.lenOf, Builtin.firstCells, hnc, storeCells]

theorem run_app (base : Nat) (t ty e : TypeId) (z : Value) (bytes : Nat) (ht : P.underlying t = some (.slice e)) (hinfo : (P.info? e).map (fun i => (i.zero, i.size, i.bytes)) = some (some z, 1, bytes)) (hzs : z.cells.size = 1)
    (v : Value) (n : Nat) (xs : List Value) (hown : w.ownsRow base e 1 v n xs) (sv : Value) (ys : List Value) (hr : Rd w sv ys) (h1 : ∀ u ∈ ys, u.oneCell' = true)
    (hbytes : (n + ys.length) * bytes ≤ 140737488355328) (hb0 : 0 < bytes) (hbase : base ≤ w.heap.size) :
    ∃ v' w', (Builtin.append_ #[t, t] ty #[v, sv]).run P w = .ok v' w' ∧ w'.ownsRow base e 1 v' (n + ys.length) (xs ++ ys) ∧ w.grownBy w' v.ownBlock ∧
      (v'.ownBlock = v.ownBlock ∨ v'.ownBlock = some w.heap.size) := by
  obtain ⟨i, hi, hz, hsize, hby⟩ := info_parts hinfo
  obtain ⟨A, c, rfl, hc, hm, hcells⟩ := hr
  have h63 : n + ys.length ≤ maxLen := by
    have : (n + ys.length) * 1 ≤ (n + ys.length) * bytes := Nat.mul_le_mul_left _ hb0
    simp only [maxLen]; omega
  rcases A with _ | ad
  · have hm0 : ys.length = 0 := by
      rcases Nat.eq_zero_or_pos ys.length with h0 | h0
      · exact h0
      · obtain ⟨ad, h, _⟩ := hcells h0
        cases h
    have hn : ys = [] := List.eq_nil_of_length_eq_zero hm0
    subst hn
    exact ⟨v, w, run_append_of_nil w base t ty e i 1 ht hi v n xs hown c, by simpa using hown, World.grownBy.refl w _, .inl rfl⟩
  · have hcl : ∀ j u, ys[j]? = some u → w.cell? (ad.add j) = some u := by
      intro j u hu
      have hp : 0 < ys.length := by have := (List.getElem?_eq_some_iff.1 hu).1; omega
      obtain ⟨ad', h, _, hq⟩ := hcells hp
      injection h with h
      subst h
      exact hq j u hu
    obtain ⟨v', w', hrun, h2, h3, _, h5⟩ := run_append_own_at (P := P) w base t ty e i z 1 bytes ht hi hz hsize hby hzs (by omega) v n xs hown ad ys.length c ys (by simp) hcl h1 h63 hbytes hbase
    exact ⟨v', w', hrun, h2, h3, h5⟩

theorem wp_app {o : Oper} {a : Act} {K : Act → World → Prop} {Q : Exit → Act → World → Prop} (s x : Operand) (t : TypeId)
    (ho : o.op = .call { callee := .builtin .append, args := #[s, x], argTypes := #[t, t] })
    (base : Nat) (e : TypeId) (z : Value) (bytes : Nat) (ht : P.underlying t = some (.slice e)) (hinfo : (P.info? e).map (fun i => (i.zero, i.size, i.bytes)) = some (some z, 1, bytes)) (hzs : z.cells.size = 1)
    (v : Value) (n : Nat) (xs : List Value) (hs : a.eval s = v) (hown : w.ownsRow base e 1 v n xs) (sv : Value) (ys : List Value) (hx : a.eval x = sv) (hr : Rd w sv ys) (h1 : ∀ u ∈ ys, u.oneCell' = true)
    (hbytes : (n + ys.length) * bytes ≤ 140737488355328) (hb0 : 0 < bytes) (hbase : base ≤ w.heap.size)
    (h : ∀ A c w', w'.ownsRow base e 1 (.slice A (n + ys.length) c) (n + ys.length) (xs ++ ys) → w.grownBy w' v.ownBlock → ((Value.slice A (n + ys.length) c).ownBlock = v.ownBlock ∨ (Value.slice A (n + ys.length) c).ownBlock = some w.heap.size) → K (a.put o.dst (.slice A (n + ys.length) c)) w') : o.wp P a w K Q := by
  obtain ⟨v', w', hrun, h2, h3, h4⟩ := run_app (P := P) w base t o.type e z bytes ht hinfo hzs v n xs hown sv ys hr h1 hbytes hb0 hbase
  obtain ⟨A, c, rfl⟩ := ownSlice h2
  unfold Oper.wp execOp
  simp only [ho, resolve, invoke, builtin, Sem.run_bind, Sem.run_pure, Result.andThen_ok, List.map_toArray, List.map_cons, List.map_nil, hs, hx, hrun]
  exact h A c w' h2 h3 h4

/-- In a plain region, behind 'at_builtin'. -/
theorem wpList_app {ops : Array Oper} {rest : List Oper} {o : Oper} {a : Act} {Q : Exit → Act → World → Prop} (hgd : o.guard = none) (s x : Operand) (t : TypeId)
    (ho : o.op = .call { callee := .builtin .append, args := #[s, x], argTypes := #[t, t] })
    (base : Nat) (e : TypeId) (z : Value) (bytes : Nat) (ht : P.underlying t = some (.slice e)) (hinfo : (P.info? e).map (fun i => (i.zero, i.size, i.bytes)) = some (some z, 1, bytes)) (hzs : z.cells.size = 1)
    (v : Value) (n : Nat) (xs : List Value) (hs : a.eval s = v) (hown : w.ownsRow base e 1 v n xs) (sv : Value) (ys : List Value) (hx : a.eval x = sv) (hr : Rd w sv ys) (h1 : ∀ u ∈ ys, u.oneCell' = true)
    (hbytes : (n + ys.length) * bytes ≤ 140737488355328) (hb0 : 0 < bytes) (hbase : base ≤ w.heap.size)
    (h : ∀ A c w', w'.ownsRow base e 1 (.slice A (n + ys.length) c) (n + ys.length) (xs ++ ys) → w.grownBy w' v.ownBlock → ((Value.slice A (n + ys.length) c).ownBlock = v.ownBlock ∨ (Value.slice A (n + ys.length) c).ownBlock = some w.heap.size) → wpList P ops Q rest (a.put o.dst (.slice A (n + ys.length) c)) w') : wpList P ops Q (o :: rest) a w :=
  wpList_plain hgd fun _ hK => wp_app w s x t ho base e z bytes ht hinfo hzs v n xs hs hown sv ys hx hr h1 hbytes hb0 hbase fun A c w' h2 h3 h4 => hK _ _ (h A c w' h2 h3 h4)
end

/-! ### string(b), literals, comparison of errors -/
theorem Rd.string {P : Program} {w : World} {src e : TypeId} (hs : P.underlying src = some (.slice e)) (he : P.underlying e = some (.int .u8)) {v : Value} {xs : List Int} (h : Rd w v (numv .u8 xs)) :
    ∀ dst, P.underlying dst = some .string → (convert src dst v).run P w = .ok (.string (strOfNums xs)) w := by
  intro dst hd
  obtain ⟨A, c, rfl, h1, h2, h3⟩ := h
  rw [numv_length] at *
  rcases A with _ | ad
  · have hx : xs = [] := by
      rcases Nat.eq_zero_or_pos xs.length with h0 | h0
      · exact List.eq_nil_of_length_eq_zero h0
      · obtain ⟨ad, ha, _⟩ := h3 h0
        cases ha
    subst hx
    exact run_convert_bytes_nil w src e hs he 0 c dst hd
  · have hl : (loadCells ad xs.length).run P w = .ok (xs.map (Value.int .u8)).toArray w := by
      have := run_loadCells_list (P := P) w ad (xs.map (Value.int .u8)) (fun j u hj => by
        have hp : 0 < xs.length := by have := (List.getElem?_eq_some_iff.1 hj).1; simp at this; omega
        obtain ⟨ad', ha, _, hc⟩ := h3 hp
        injection ha with ha
        subst ha
        exact hc j u hj)
      simpa using this
    rw [run_convert_bytes_string w src dst e _ xs.length c hs he hd, run_bytesToString w _ xs.length c xs hl, foldl_push_bytes]
    simp [strOfNums, ByteArray.empty, ByteArray.emptyWithCapacity]
    rfl
theorem Rd.lit (w : World) (k : IntKind) (e : TypeId) (xs : List Int) (hm : xs.length ≤ 9223372036854775807) : Rd (w.alloc (.cells (numv k xs).toArray e)) (.slice (some ⟨w.heap.size, 0, none⟩) xs.length xs.length) (numv k xs) := by
  refine ⟨some ⟨w.heap.size, 0, none⟩, xs.length, by rw [numv_length], by rw [numv_length]; exact Nat.le_refl _, by rw [numv_length]; exact hm, fun _ => ⟨_, rfl, by simp, fun j u hu => ?_⟩⟩
  rw [addp, cell_of_row _ _ _ _ _ _ (heap_alloc_new w _)]
  simpa using hu

theorem run_equalIn_iface_int {P : Program} (w : World) (d : Nat) {ti tn : TypeId} {ms : Array (String × TypeId)} {i : TypeInfo} {k : IntKind} (a b : Int)
    (hi : P.underlying ti = some (.interface ms)) (hn : P.underlying tn = some (.int k)) (hinfo : P.info? tn = some i) (hcomp : i.comparable = true) :
    (Op.equalIn (d + 2) ti (.iface tn (.int k a)) (.iface tn (.int k b))).run P w = .ok (a == b) w := by
  simp [Op.equalIn, run_underlying hi, run_underlying hn, typeInfo, hinfo, hcomp]
/-- 'x == y', both interface values of one integer type: as the numbers are. -/
theorem run_eql_iface_int {P : Program} (w : World) {ti tn : TypeId} {ms : Array (String × TypeId)} {i : TypeInfo} {k : IntKind} (a b : Int)
    (hi : P.underlying ti = some (.interface ms)) (hn : P.underlying tn = some (.int k)) (hinfo : P.info? tn = some i) (hcomp : i.comparable = true) :
    (binOp .eql ti (.iface tn (.int k a)) (.iface tn (.int k b))).run P w = .ok (.bool (a == b)) w := by
  simp only [binOp]
  simp [Op.equal, Op.maxDepth, run_equalIn_iface_int w 9998 a b hi hn hinfo hcomp]
theorem run_neq_iface_int {P : Program} (w : World) {ti tn : TypeId} {ms : Array (String × TypeId)} {i : TypeInfo} {k : IntKind} (a b : Int)
    (hi : P.underlying ti = some (.interface ms)) (hn : P.underlying tn = some (.int k)) (hinfo : P.info? tn = some i) (hcomp : i.comparable = true) :
    (binOp .neq ti (.iface tn (.int k a)) (.iface tn (.int k b))).run P w = .ok (.bool (!(a == b))) w := by
  simp only [binOp]
  simp [Op.equal, Op.maxDepth, run_equalIn_iface_int w 9998 a b hi hn hinfo hcomp]
end Go.Proofs.Ytlgkcpmedjpoaaa
