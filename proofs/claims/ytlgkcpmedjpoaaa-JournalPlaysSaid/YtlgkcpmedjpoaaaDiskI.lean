/- A disk beside other rows of the call's own: what a sequence of calls keeps. -/
import Derived.Test.YtlgkcpmedjpoaaaMg38
namespace Go.Proofs.Ytlgkcpmedjpoaaa
open Go.RowKit
set_option linter.unusedVariables false

/-- Block g is the disk S, made since w (whose blocks below B stand); the blocks of T are none of its own. -/
def DInv (w : World) (B g : Nat) (S : DS) (T : Nat → Prop) (wr : World) : Prop :=
  ∃ v, DiskAt wr B g v S ∧ Below B w wr ∧ ∀ k, T k → k < wr.heap.size ∧ k ≠ g ∧ v.ownBlock ≠ some k
/-- The blocks of T stand. -/
def Stay (T : Nat → Prop) (wr w' : World) : Prop := wr.heap.size ≤ w'.heap.size ∧ ∀ k, T k → w'.heap[k]? = wr.heap[k]?

theorem DInv.lt {w : World} {B g : Nat} {S : DS} {T : Nat → Prop} {wr : World} (h : DInv w B g S T wr) : B ≤ g ∧ g < wr.heap.size := by
  obtain ⟨v, hd, hb, ht⟩ := h
  exact ⟨hd.lo, blkLt hd.blk⟩
theorem DInv.below {w : World} {B g : Nat} {S : DS} {T : Nat → Prop} {wr : World} (h : DInv w B g S T wr) : Below B w wr := by
  obtain ⟨v, hd, hb, ht⟩ := h
  exact hb
theorem DInv.left {w : World} {B g : Nat} {S S' : DS} {T : Nat → Prop} {wr w' : World} {v : Value} (hd : DiskAt wr B g v S) (hb : Below B w wr) (ht : ∀ k, T k → k < wr.heap.size ∧ k ≠ g ∧ v.ownBlock ≠ some k) (hl : DiskLeft B g v wr S' w') : DInv w B g S' T w' ∧ Stay T wr w' := by
  obtain ⟨v', hd', hk, hv⟩ := hl
  refine ⟨⟨v', hd', hb.trans (hk.below (Nat.le_of_lt (Nat.lt_of_le_of_lt hd.lo (blkLt hd.blk))) ?_), fun k hT => ?_⟩, hk.size, fun k hT => ?_⟩
  · rintro i (rfl | hi)
    · exact hd.lo
    · exact (own_lo hd.own i hi.symm).1
  · obtain ⟨h1, h2, h3⟩ := ht k hT
    refine ⟨Nat.lt_of_lt_of_le h1 hk.size, h2, fun e => ?_⟩
    rcases hv with hv | ⟨j, hj, hlt⟩
    · exact h3 (hv.symm.trans e)
    · rw [hj] at e
      injection e with e
      omega
  · obtain ⟨h1, h2, h3⟩ := ht k hT
    exact hk.block k h1 (fun h => h.elim h2 (fun h => h3 h.symm))
theorem DInv.kept {w : World} {B g : Nat} {S S' : DS} {T : Nat → Prop} {wr w' : World} {v : Value} (hd : DiskAt wr B g v S) (hb : Below B w wr) (ht : ∀ k, T k → k < wr.heap.size ∧ k ≠ g ∧ v.ownBlock ≠ some k) (hd' : DiskAt w' B g v S') (hk : Keeps (fun k => k = g) wr w') : DInv w B g S' T w' ∧ Stay T wr w' :=
  DInv.left hd hb ht ⟨v, hd', keeps_left hk, .inl rfl⟩

theorem new_inv (w0 w : World) (B : Nat) (hb : Below B w0 w) (hB : B ≤ w.heap.size) (T : Nat → Prop) (hT : ∀ k, T k → k < w.heap.size) :
    Calls Try.prog 18 #[] w fun e w' => e = .returned (.pointer (some ⟨w.heap.size, 0, none⟩)) ∧ DInv w0 B w.heap.size .new T w' ∧ Stay T w w' := by
  refine (new_calls w).mono ?_
  rintro e w' ⟨rfl, hd, hk⟩
  refine ⟨rfl, ⟨_, ⟨hd.blk, World.ownsRow_nil _ _ _ _, hB⟩, hb.trans (hk.below hB (fun _ h => h.elim)), fun k h => ⟨Nat.lt_of_lt_of_le (hT k h) hk.size, Nat.ne_of_lt (hT k h), by simp [Value.ownBlock]⟩⟩, hk.size, fun k h => hk.block k (hT k h) (fun h => h)⟩

theorem append_inv {w : World} {B g : Nat} {S : DS} {T : Nat → Prop} {wr : World} (h : DInv w B g S T wr) (ho : S.ok) (A : Option Addr) (n c : Nat) (ys : List Int) (hr : Rd wr (.slice A n c) (numv .u8 ys)) (hn : n = ys.length) (hne : 0 < ys.length → (Value.slice A n c).ownBlock ≠ some g) (hm : n ≤ 140737488351232) :
    Calls Try.prog 22 #[.pointer (some ⟨g, 0, none⟩), .slice A n c] wr fun e w' => e = .returned (errV (S.appE ys)) ∧ DInv w B g (S.app ys) T w' ∧ Stay T wr w' := by
  have hg := h.lt
  obtain ⟨v, hd, hb, ht⟩ := h
  refine (append_calls B g v S wr hd ho (by omega) A n c ys hr hn hne hm).mono ?_
  rintro e w' ⟨rfl, hl⟩
  exact ⟨rfl, DInv.left hd hb ht hl⟩
theorem sync_inv {w : World} {B g : Nat} {S : DS} {T : Nat → Prop} {wr : World} (h : DInv w B g S T wr) (ho : S.ok) :
    Calls Try.prog 23 #[.pointer (some ⟨g, 0, none⟩)] wr fun e w' => e = .returned (errV S.syncE) ∧ DInv w B g S.sync T w' ∧ Stay T wr w' := by
  obtain ⟨v, hd, hb, ht⟩ := h
  refine (sync_calls B g v S wr hd ho).mono ?_
  rintro e w' ⟨rfl, hd', hk⟩
  exact ⟨rfl, DInv.kept hd hb ht hd' hk⟩
theorem cut_inv {w : World} {B g : Nat} {S : DS} {T : Nat → Prop} {wr : World} (h : DInv w B g S T wr) (n : Int) (hn : n < 1000000) :
    Calls Try.prog 28 #[.pointer (some ⟨g, 0, none⟩), .int .i64 n] wr fun e w' => e = .returned (errV (S.cutE n)) ∧ DInv w B g (S.cut n) T w' ∧ Stay T wr w' := by
  obtain ⟨v, hd, hb, ht⟩ := h
  refine (cut_calls B g v S wr hd n hn).mono ?_
  rintro e w' ⟨rfl, hd', hk⟩
  exact ⟨rfl, DInv.kept hd hb ht hd' hk⟩
theorem on_inv {w : World} {B g : Nat} {S : DS} {T : Nat → Prop} {wr : World} (h : DInv w B g S T wr) :
    Calls Try.prog 33 #[.pointer (some ⟨g, 0, none⟩)] wr fun e w' => e = .returned (.bool (!S.off)) ∧ wr = w' := by
  obtain ⟨v, hd, hb, ht⟩ := h
  exact on_calls B g v S wr hd
theorem trim_inv {w : World} {B g : Nat} {S : DS} {T : Nat → Prop} {wr : World} (h : DInv w B g S T wr) (ho : S.ok) (n : Int) : Calls Try.prog 40 #[.pointer (some ⟨g, 0, none⟩), .int .i64 n] wr fun e w' => e = .returned (errV (S.trimE n)) ∧ DInv w B g (S.trim n) T w' ∧ Stay T wr w' := by obtain ⟨v, hd, hb, ht⟩ := h; refine (trim_calls B g v S wr hd ho n).mono ?_; rintro e w' ⟨rfl, hl⟩; exact ⟨rfl, DInv.left hd hb ht hl⟩
theorem power_inv {w : World} {B g : Nat} {S : DS} {T : Nat → Prop} {wr : World} (h : DInv w B g S T wr) (ho : S.ok) (k : Int) (hk : -9223372036854775808 ≤ k ∧ k ≤ 9223372036854775807) :
    Calls Try.prog 30 #[.pointer (some ⟨g, 0, none⟩), .int .i64 k] wr fun e w' => e = .returned (.tuple #[]) ∧ DInv w B g (S.power k) T w' ∧ Stay T wr w' := by
  obtain ⟨v, hd, hb, ht⟩ := h
  cases hf : S.off
  · refine (power_on B g v S wr hd hf k).mono ?_
    rintro e w' ⟨rfl, rfl⟩
    have e1 : S.power k = S := by rw [DS.power, if_neg (by simp [hf])]
    rw [e1]
    exact ⟨rfl, ⟨v, hd, hb, ht⟩, Nat.le_refl _, fun _ _ => rfl⟩
  · refine (power_off B g v S wr hd ho hf k hk).mono ?_
    rintro e w' ⟨rfl, hl⟩
    exact ⟨rfl, DInv.left hd hb ht hl⟩
/-- The world moves on, the disk's blocks stand. -/
theorem DInv.move {w : World} {B g : Nat} {S : DS} {T T' : Nat → Prop} {wr w' : World} {S' : Nat → Prop} (h : DInv w B g S T wr) (hk : Keeps S' wr w') (hS : ∀ k, S' k → T k) (hT : ∀ k, T' k → (T k ∨ wr.heap.size ≤ k) ∧ k < w'.heap.size) (hB : ∀ k, S' k → B ≤ k) : DInv w B g S T' w' := by
  obtain ⟨v, hd, hb, ht⟩ := h
  have hg := blkLt hd.blk
  refine ⟨v, hd.keeps hk (fun h => (ht g (hS g h)).2.1 rfl) (fun k hv h => (ht k (hS k h)).2.2 hv), hb.trans (hk.below (by have := hd.lo; omega) hB), fun k h => ?_⟩
  obtain ⟨h1, h2⟩ := hT k h
  refine ⟨h2, ?_⟩
  rcases h1 with h1 | h1
  · exact (ht k h1).2
  · refine ⟨by omega, fun e => ?_⟩
    have := (own_lo hd.own k e).2
    omega
theorem read_inv {w : World} {B g : Nat} {S : DS} {T : Nat → Prop} {wr : World} (h : DInv w B g S T wr) (hf : S.off = false) (ho : S.ok) :
    Calls Try.prog 32 #[.pointer (some ⟨g, 0, none⟩)] wr (Returns2 (fun v w' => Rd w' v (numv .u8 S.b) ∧ (∀ k, v.ownBlock = some k → wr.heap.size ≤ k) ∧ DInv w B g S (fun k => T k ∨ v.ownBlock = some k) w' ∧ Stay T wr w') .nilIface) := by
  have h0 := h
  obtain ⟨v, hd, hb, ht⟩ := h
  refine (read_on B g v S wr hd hf ho).mono ?_
  rintro e w' ⟨u, rfl, hu, hbl⟩
  refine ⟨u, rfl, Rd.of_own hu, fun k hk => (own_lo hu k hk).1, ?_, hbl.size, fun k hT => hbl.block k (ht k hT).1⟩
  exact h0.move (Keeps.of_below hbl (fun _ => False)) (fun _ h => h.elim) (fun k hk => by
    rcases hk with hk | hk
    · exact ⟨.inl hk, Nat.lt_of_lt_of_le (ht k hk).1 hbl.size⟩
    · exact ⟨.inr (own_lo hu k hk).1, (own_lo hu k hk).2⟩) (fun _ h => h.elim)
theorem Rd.stay {T : Nat → Prop} {w w' : World} {v : Value} {xs : List Value} (h : Rd w v xs) (hs : Stay T w w') (hT : ∀ k, v.ownBlock = some k → T k) : Rd w' v xs :=
  h.move hs.1 (fun k hk _ => hs.2 k (hT k hk))
theorem DInv.alloc {w : World} {B g : Nat} {S : DS} {T : Nat → Prop} {wr : World} (h : DInv w B g S T wr) (o : Obj) : DInv w B g S T (wr.alloc o) := by
  refine h.move (S' := fun _ => False) ((Keeps.refl _ _).alloc o) (fun _ h => h.elim) (fun k hk => ⟨.inl hk, ?_⟩) (fun _ h => h.elim)
  obtain ⟨v, hd, hb, ht⟩ := h
  have := (ht k hk).1
  simp
  omega
/-- A new block is none of the disk's. -/
theorem DInv.alloc_at {w : World} {B g : Nat} {S : DS} {T : Nat → Prop} {wr : World} (h : DInv w B g S T wr) (o : Obj) : DInv w B g S (fun k => k = wr.heap.size) (wr.alloc o) := by
  refine h.move (S' := fun _ => False) ((Keeps.refl _ _).alloc o) (fun _ h => h.elim) (fun k hk => ⟨.inr (by omega), ?_⟩) (fun _ h => h.elim)
  simp
  omega
theorem code_info : (Try.prog.info? 45).map (fun i => i.comparable) = some true := by kernel_rfl
theorem eql_code (w : World) (a b : Int) : (binOp .eql 25 (.iface 45 (.int .i64 a)) (.iface 45 (.int .i64 b))).run Try.prog w = .ok (.bool (a == b)) w := by
  obtain ⟨i, hi, hc⟩ := Option.map_eq_some_iff.1 code_info
  exact run_eql_iface_int w a b Try.underlying25 Try.underlying45 hi hc
end Go.Proofs.Ytlgkcpmedjpoaaa
