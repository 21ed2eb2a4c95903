/- Bytes appended, slices of what reads. -/
import Derived.Test.YtlgkcpmedjpoaaaBase
import Derived.Laws.CopyOwn
import Derived.Lib.SlBytesConst
namespace Go.Proofs.Ytlgkcpmedjpoaaa
open Go.RowKit
set_option linter.unusedVariables false

theorem app_u8_info : (Try.prog.info? 5).map (fun i => (i.zero, i.size, i.bytes)) = some (some (.int .u8 0), 1, 1) := by kernel_rfl
theorem app_u8_und : Try.prog.underlying 22 = some (.slice 5) := Try.underlying22
/-- A row of bytes of the call's own. -/
def Own (w : World) (base : Nat) (v : Value) (xs : List Int) : Prop := w.ownsRow base 5 1 v xs.length (numv .u8 xs)
theorem Own.rd {w : World} {base : Nat} {v : Value} {xs : List Int} (h : Own w base v xs) : Rd w v (numv .u8 xs) := Rd.of_own h
theorem Own.nil (w : World) (base : Nat) : Own w base (.slice none 0 0) [] := World.ownsRow_nil _ _ _ _
theorem Own.made (w : World) (base : Nat) (hb : base ≤ w.heap.size) : Own (w.alloc (.cells #[] 5)) base (.slice (some ⟨w.heap.size, 0, none⟩) 0 0) [] :=
  World.ownsRow_made (e := 5) (size := 1) w #[] 0 hb (by simp [maxLen]) (by simp)
theorem Own.slice {w : World} {base : Nat} {v : Value} {xs : List Int} (h : Own w base v xs) : ∃ A c, v = .slice A xs.length c := ownSlice h
theorem Own.keeps {S : Nat → Prop} {w w' : World} {base : Nat} {v : Value} {xs : List Int} (h : Own w base v xs) (hk : Keeps S w w') (hS : ∀ k, v.ownBlock = some k → ¬ S k) : Own w' base v xs := own_keeps h hk hS
theorem Own.below {w w' : World} {base : Nat} {v : Value} {xs : List Int} (h : Own w base v xs) (hk : Below w.heap.size w w') : Own w' base v xs := h.keeps (S := fun _ => False) (Keeps.of_below hk _) (fun _ _ h => h)
theorem Own.alloc {w : World} {base : Nat} {v : Value} {xs : List Int} (h : Own w base v xs) (o : Obj) : Own (w.alloc o) base v xs := h.below ((Below.refl _ _).alloc (Nat.le_refl _) o)
theorem Own.lo {w : World} {base : Nat} {v : Value} {xs : List Int} (h : Own w base v xs) (k : Nat) (hk : v.ownBlock = some k) : base ≤ k ∧ k < w.heap.size := own_lo h k hk
theorem Own.mono {w : World} {base base' : Nat} {v : Value} {xs : List Int} (h : Own w base v xs) (hb : base' ≤ base) : Own w base' v xs := by
  refine ⟨h.1, ?_⟩
  rcases h.2 with ⟨hv, h0⟩ | ⟨g, cap, cur, hv, hg, r⟩
  · exact .inl ⟨hv, h0⟩
  · exact .inr ⟨g, cap, cur, hv, by omega, r⟩
theorem Own.lit (w : World) (base : Nat) (hb : base ≤ w.heap.size) (xs : List Int) (hm : xs.length ≤ 9223372036854775807) : Own (w.alloc (.cells (numv .u8 xs).toArray 5)) base (.slice (some ⟨w.heap.size, 0, none⟩) xs.length xs.length) xs :=
  ⟨by simp [numv], .inr ⟨w.heap.size, xs.length, (numv .u8 xs).toArray, rfl, hb, heap_alloc_new w _, Nat.le_refl _, by simp [maxLen]; omega, by simp [numv], by rw [Nat.mul_one]; exact List.take_of_length_le (by simp [numv])⟩⟩
theorem Own.len {w : World} {base m c : Nat} {A : Option Addr} {xs : List Int} (h : Own w base (.slice A m c) xs) : m = xs.length := by
  obtain ⟨A', c', he⟩ := h.slice
  injection he
/-- What an append leaves. -/
theorem Own.app {w' : World} {base m : Nat} {v : Value} {xs ys : List Int} (h : w'.ownsRow base 5 1 v m (numv .u8 xs ++ numv .u8 ys)) : Own w' base v (xs ++ ys) := by
  have hm : m = (xs ++ ys).length := by
    have := h.1
    simp [numv] at this
    simp; omega
  unfold Own
  rw [← hm, numv_append]
  exact h

theorem wpList_app8 {w : World} {ops : Array Oper} {rest : List Oper} {o : Oper} {a : Act} {Q : Exit → Act → World → Prop} (hgd : o.guard = none) (s x : Operand)
    (ho : o.op = .call { callee := .builtin .append, args := #[s, x], argTypes := #[22, 22] })
    (base : Nat) (v : Value) (xs : List Int) (hs : a.eval s = v) (hown : Own w base v xs) (sv : Value) (ys : List Int) (hx : a.eval x = sv) (hr : Rd w sv (numv .u8 ys))
    (hsz : xs.length + ys.length ≤ 140737488355328) (hbase : base ≤ w.heap.size)
    (h : ∀ A m c w', m = xs.length + ys.length → Own w' base (.slice A m c) (xs ++ ys) → (∀ B u, B ≤ base → Below B u w → Below B u w') → w.grownBy w' v.ownBlock → ((Value.slice A m c).ownBlock = v.ownBlock ∨ (Value.slice A m c).ownBlock = some w.heap.size) → wpList Try.prog ops Q rest (a.put o.dst (.slice A m c)) w') : wpList Try.prog ops Q (o :: rest) a w :=
  wpList_app w hgd s x _ ho base 5 (.int .u8 0) 1 app_u8_und app_u8_info rfl v xs.length _ hs hown sv _ hx hr (numv_one _ _) (by rw [numv_length]; omega) (by omega) hbase fun A c w' h2 h3 h4 =>
    h A _ c w' (by rw [numv_length]) (Own.app h2) (fun B u hB hb => hb.grown h3 (Nat.le_trans hB hbase) (fun k hk => Nat.le_trans hB (hown.lo k hk).1)) h3 h4

theorem Rd.litc (w : World) (k : IntKind) (e : TypeId) (f : Nat × Nat) (xs : List Int) (hm : xs.length ≤ 9223372036854775807) : Rd (w.alloc (.cells (numv k xs).toArray e f)) (.slice (some ⟨w.heap.size, 0, none⟩) xs.length xs.length) (numv k xs) := by
  refine ⟨some ⟨w.heap.size, 0, none⟩, xs.length, by rw [numv_length], by rw [numv_length]; exact Nat.le_refl _, by rw [numv_length]; exact hm, fun _ => ⟨_, rfl, by simp, fun j u hu => ?_⟩⟩
  rw [addp, cell_of_row _ _ _ _ _ _ (heap_alloc_new w _)]
  simpa using hu
theorem drop_take_get (xs : List Value) (l k j : Nat) (u : Value) (h : ((xs.drop l).take k)[j]? = some u) : xs[l + j]? = some u := by
  rw [List.getElem?_take] at h
  split at h
  · rw [List.getElem?_drop] at h; exact h
  · cases h
theorem Rd.sliced {w : World} {A : Option Addr} {n c l h m : Nat} {xs : List Value} (hr : Rd w (.slice A n c) xs) (hl : l ≤ h) (hh : h ≤ n) (hm : h ≤ m) : Rd w (Go.sliced A l h m 1) ((xs.drop l).take (h - l)) := by
  obtain ⟨A', c', he, h1, h2, h3⟩ := hr
  injection he with e1 e2 e3
  subst e1 e2
  have hlen : ((xs.drop l).take (h - l)).length = h - l := by rw [List.length_take, List.length_drop]; omega
  refine ⟨if m = l then A else A.map (·.add (l * 1)), m - l, by rw [hlen]; rfl, by rw [hlen]; omega, by rw [hlen]; omega, fun hp => ?_⟩
  rw [hlen] at hp
  obtain ⟨ad, rfl, hb, hc⟩ := h3 (by omega)
  refine ⟨ad.add l, by rw [if_neg (by omega), Nat.mul_one]; rfl, by rw [add_blk]; exact hb, fun j u hu => ?_⟩
  have := hc (l + j) u (drop_take_get _ _ _ _ _ hu)
  rcases Nat.eq_zero_or_pos l with h0 | h0
  · subst h0
    have e0 : ad.add 0 = ad := by simp [Addr.add]
    rw [e0]
    rwa [Nat.zero_add] at this
  · rcases Nat.eq_zero_or_pos j with hj | hj
    · subst hj
      have e0 : ∀ x : Addr, x.add 0 = x := by intro x; simp [Addr.add]
      rw [e0]
      exact this
    · rw [add_pos _ _ h0, add_pos _ _ hj]
      rw [add_pos _ _ (by omega)] at this
      simpa [Nat.add_assoc] using this
theorem Rd.take {w : World} {A : Option Addr} {n c k c' : Nat} {xs : List Value} (hr : Rd w (.slice A n c) xs) (hk : k ≤ n) (hc : k ≤ c') : Rd w (.slice A k c') (xs.take k) := by
  obtain ⟨A', c1, he, h1, h2, h3⟩ := hr
  injection he with e1 e2 e3
  subst e1 e2
  have hlen : (xs.take k).length = k := by rw [List.length_take]; omega
  refine ⟨A, c', by rw [hlen], by omega, by omega, fun hp => ?_⟩
  obtain ⟨ad, rfl, hb, hcl⟩ := h3 (by omega)
  refine ⟨ad, rfl, hb, fun j u hu => hcl j u ?_⟩
  rw [List.getElem?_take] at hu
  split at hu
  · exact hu
  · cases hu
theorem sliced_own {A : Option Addr} {l h m n c : Nat} (k : Nat) (hk : (Go.sliced A l h m 1).ownBlock = some k) : (Value.slice A n c).ownBlock = some k := by
  cases A with
  | none => unfold Go.sliced at hk; split at hk <;> simp [Value.ownBlock] at hk
  | some ad => unfold Go.sliced at hk; split at hk <;> simpa [Value.ownBlock, add_blk] using hk
/-- x[l:h] of bytes that read. -/
theorem run_slice8 (w : World) (A : Option Addr) (n c : Nat) (xs : List Int) (hr : Rd w (.slice A n c) (numv .u8 xs)) (li hi : Int) (l h : Nat) (e1 : li = l) (e2 : hi = h) (hl : l ≤ h) (hh : h ≤ n) :
    ∃ A' c', (∀ W, (Instr.slice 22 (.slice A n c) (some (.int .i64 li)) (some (.int .i64 hi)) none).run Try.prog W = .ok (.slice A' (h - l) c') W) ∧ Rd w (.slice A' (h - l) c') (numv .u8 ((xs.drop l).take (h - l))) := by
  subst e1 e2
  have hnc : n ≤ c := by
    obtain ⟨A', c', he, h1, _⟩ := hr
    injection he with _ e2 e3
    omega
  refine ⟨if c = l then A else A.map (·.add (l * 1)), c - l, fun W => ?_, ?_⟩
  · have hs : (sizeOf 5).run Try.prog W = .ok 1 W := by kernel_rfl
    have he : Try.prog.elem 22 = 5 := by kernel_rfl
    rw [run_slice_lh (P := Try.prog) (w := W) 22 A n c (by rw [he]; exact app_u8_und) .i64 .i64 _ _ (by omega) (by omega) (by omega), he, hs]
    simp [Result.andThen, Go.sliced]
  · have := Rd.sliced hr (l := l) (h := h) (m := c) hl hh (by omega)
    rw [numv_take, numv_drop]
    exact this
/-- What a function that makes bytes leaves: new bytes, the rest as it was. -/
def Made1 (w : World) (xs : List Int) (e : Ending) (w' : World) : Prop := ∃ v, e = .returned v ∧ Own w' w.heap.size v xs ∧ Below w.heap.size w w'
theorem Made1.of {w w1 w2 : World} {xs : List Int} {e : Ending} (h : Made1 w1 xs e w2) (hb : Below w.heap.size w w1) : Made1 w xs e w2 := by
  obtain ⟨v, rfl, ho, hb2⟩ := h
  exact ⟨v, rfl, ho.mono hb.size, hb.trans (hb2.mono hb.size)⟩
/-- One byte of an own row: it reads, it may be written. -/
theorem Own.set {w : World} {base n c : Nat} {A : Option Addr} {xs : List Int} (h : Own w base (.slice A n c) xs) (j : Nat) (hj : j < n) :
    ∃ g, A = some ⟨g, 0, none⟩ ∧ base ≤ g ∧ w.cell? ⟨g, j, none⟩ = some (.int .u8 (xs.getD j 0)) ∧ w.frozen? ⟨g, j, none⟩ = false ∧ ∀ v : Int, Own (w.setCell ⟨g, j, none⟩ (.int .u8 v)) base (.slice A n c) (xs.set j v) := by
  have hn := h.len
  obtain ⟨h0, h1⟩ := h
  rcases h1 with ⟨hv, hz⟩ | ⟨g, cap, cur, hv, hb, hg, h2, h3, h4, h5⟩
  · omega
  · injection hv with e1 e2 e3
    subst e1
    have hcur : cur[j]? = some (.int .u8 (xs.getD j 0)) := by
      have h6 := numv_get .u8 xs j (by omega)
      rw [← h5, List.getElem?_take] at h6
      split at h6
      · simpa using h6
      · cases h6
    refine ⟨g, rfl, hb, ?_, frozen_of_row _ _ _ _ _ hg, fun v => ⟨by simp [numv], .inr ⟨g, cap, cur.setIfInBounds j (.int .u8 v), by rw [e2, e3, List.length_set], hb, ?_, by rw [List.length_set]; exact h2, h3, by simpa using h4, ?_⟩⟩⟩
    · rw [cell_of_row _ _ _ _ _ _ hg]; exact hcur
    · exact heap_setCell_same _ _ _ _ _ _ hg
    · rw [Nat.mul_one] at h5 ⊢
      rw [List.length_set, Array.toList_setIfInBounds, List.take_set, h5]
      simp [numv, List.map_set]
/-- A slice of byte slices. -/
def RdL (w : World) (v : Value) (ps : List (List Int)) : Prop :=
  ∃ us : List Value, us.length = ps.length ∧ Rd w v us ∧ ∀ (j : Nat) (p : List Int), ps[j]? = some p → ∃ u, us[j]? = some u ∧ Rd w u (numv .u8 p)
theorem RdL.below {w w' : World} {v : Value} {ps : List (List Int)} (h : RdL w v ps) (hb : Below w.heap.size w w') : RdL w' v ps := by
  obtain ⟨us, hl, hr, hj⟩ := h
  refine ⟨us, hl, hr.below hb, fun j p hp => ?_⟩
  obtain ⟨u, hu, hr⟩ := hj j p hp
  exact ⟨u, hu, hr.below hb⟩
theorem RdL.len {w : World} {v : Value} {ps : List (List Int)} (h : RdL w v ps) : ∃ A c, v = .slice A ps.length c := by
  obtain ⟨us, hl, hr, _⟩ := h
  rw [← hl]
  exact hr.len
theorem RdL.at_ {w : World} {A : Option Addr} {n c : Nat} {ps : List (List Int)} (h : RdL w (.slice A n c) ps) (j : Nat) (hj : j < ps.length) :
    ∃ ad A2 n2 c2, A = some ad ∧ w.cell? (ad.add j) = some (.slice A2 n2 c2) ∧ n2 = (ps.getD j []).length ∧ Rd w (.slice A2 n2 c2) (numv .u8 (ps.getD j [])) := by
  obtain ⟨us, hl, ⟨A', c', he, h1, h2, h3⟩, hu⟩ := h
  injection he with e1 e2 e3
  subst e1
  obtain ⟨ad, e, _, hc⟩ := h3 (by omega)
  have hp : ps[j]? = some (ps.getD j []) := by simp [List.getD_eq_getElem?_getD, hj]
  obtain ⟨u, hu, hr⟩ := hu j _ hp
  obtain ⟨A2, c2, hv⟩ := hr.len
  rw [numv_length] at hv
  subst hv
  exact ⟨ad, A2, _, c2, e, hc j _ hu, rfl, hr⟩

/-- A block of whole numbers of one kind. -/
def NumBlk (w : World) (g : Nat) (t : TypeId) (k : IntKind) (xs : List Int) : Prop := w.heap[g]? = some (.cells (numv k xs).toArray t (0, 0))
theorem NumBlk.cell {w : World} {g : Nat} {t : TypeId} {k : IntKind} {xs : List Int} (h : NumBlk w g t k xs) (j : Nat) (hj : j < xs.length) : w.cell? ⟨g, j, none⟩ = some (.int k (xs.getD j 0)) := by
  rw [cell_of_row _ _ _ _ _ _ h]
  have := numv_get k xs j hj
  simpa using this
theorem NumBlk.free {w : World} {g : Nat} {t : TypeId} {k : IntKind} {xs : List Int} (h : NumBlk w g t k xs) (j : Nat) : w.frozen? ⟨g, j, none⟩ = false := frozen_of_row _ _ _ _ _ h
theorem NumBlk.set_ {w : World} {g : Nat} {t : TypeId} {k : IntKind} {xs : List Int} (h : NumBlk w g t k xs) (j : Nat) (v : Int) : NumBlk (w.setCell ⟨g, j, none⟩ (.int k v)) g t k (xs.set j v) := by
  unfold NumBlk
  rw [heap_setCell_same _ _ _ _ _ _ h]
  simp [numv, List.map_set]
theorem NumBlk.keeps {S : Nat → Prop} {w w' : World} {g : Nat} {t : TypeId} {k : IntKind} {xs : List Int} (h : NumBlk w g t k xs) (hk : Keeps S w w') (hg : ¬ S g) : NumBlk w' g t k xs := hk.blk h hg
theorem NumBlk.lt {w : World} {g : Nat} {t : TypeId} {k : IntKind} {xs : List Int} (h : NumBlk w g t k xs) : g < w.heap.size := blkLt h

theorem NumBlk.own {w : World} {g base : Nat} {xs : List Int} (h : NumBlk w g 5 .u8 xs) (hb : base ≤ g) (hm : xs.length ≤ 9223372036854775807) : Own w base (.slice (some ⟨g, 0, none⟩) xs.length xs.length) xs :=
  ⟨by simp [numv], .inr ⟨g, xs.length, (numv .u8 xs).toArray, rfl, hb, h, Nat.le_refl _, by simp [maxLen]; omega, by simp [numv], by rw [Nat.mul_one]; exact List.take_of_length_le (by simp [numv])⟩⟩
/-- copy into a row of whole numbers that is known whole, at its head. -/
theorem wpList_copy8 {w : World} {ops : Array Oper} {rest : List Oper} {o : Oper} {a : Act} {Q : Exit → Act → World → Prop} (hgd : o.guard = none) (d s : Operand)
    (ho : o.op = .call { callee := .builtin .copy, args := #[d, s], argTypes := #[22, 22] })
    (g dCap : Nat) (xs : List Int) (hd : a.eval d = .slice (some ⟨g, 0, none⟩) xs.length dCap) (hg : NumBlk w g 5 .u8 xs)
    (sv : Value) (ys : List Int) (hs : a.eval s = sv) (hr : Rd w sv (numv .u8 ys))
    (h : ∀ w' k, Hid (k = Nat.min ys.length xs.length) → Hid (NumBlk w' g 5 .u8 (ys.take k ++ xs.drop k)) → Hid (Keeps (fun i => i = g) w w') → wpList Try.prog ops Q rest (a.put o.dst (goInt k)) w') :
    wpList Try.prog ops Q (o :: rest) a w := by
  obtain ⟨A, c, rfl, h1, h2, h3⟩ := hr
  rw [numv_length] at *
  have hsz : (Try.prog.info? 5).map (·.size) = some 1 := by kernel_rfl
  by_cases h0 : Nat.min ys.length xs.length = 0
  · refine wpList_copy_nothing hgd d s _ _ ho 5 app_u8_und hsz _ A xs.length dCap ys.length c hd hs h0 ?_
    exact h w 0 (Lib.hid h0.symm) (Lib.hid (by simpa using hg)) (Lib.hid (Keeps.refl _ _))
  · have hmin : Nat.min ys.length xs.length ≤ ys.length := Nat.min_le_left _ _
    have hmin2 : Nat.min ys.length xs.length ≤ xs.length := Nat.min_le_right _ _
    obtain ⟨ad, rfl, hb, hc⟩ := h3 (by omega)
    have hl : (numv .u8 (ys.take (Nat.min ys.length xs.length))).length = Nat.min ys.length xs.length := by rw [numv_length, List.length_take]; omega
    refine wpList_copy_own hgd d s _ _ ho 5 app_u8_und hsz g 0 xs.length dCap ad ys.length c hd hs (numv .u8 xs).toArray _ hg (numv .u8 (ys.take (Nat.min ys.length xs.length))) hl (fun j v hv => ?_) (by rw [hl]; simp [numv]; omega) (numv_one _ _) ?_
    · refine hc j v ?_
      rw [numv_take, List.getElem?_take] at hv
      split at hv
      · exact hv
      · cases hv
    · rw [hl]
      refine h _ _ (Lib.hid rfl) (Lib.hid ?_) (Lib.hid ⟨rfl, rfl, rfl, by simp [World.setRow], fun k hk hn => setRow_other w g k _ hn⟩)
      unfold NumBlk
      rw [setRow_heap w g _ _ _ _ hg]
      simp [numv]
end Go.Proofs.Ytlgkcpmedjpoaaa
