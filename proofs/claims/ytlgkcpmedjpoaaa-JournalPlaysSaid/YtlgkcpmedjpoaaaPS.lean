/- Both disks side by side, a journal on the program's. -/
import Derived.Test.YtlgkcpmedjpoaaaRO
namespace Go.Proofs.Ytlgkcpmedjpoaaa.X
open Go.RowKit Go.Proofs.Ytlgkcpmedjpoaaa Go.Proofs.YtlgkcpmedjpoaaaW.PrintWords Go.Proofs.YtlgkcpmedjpoaaaW.PrintLast Go.Proofs.YtlgkcpmedjpoaaaW.PrintMore
set_option linter.unusedVariables false
set_option linter.unusedSimpArgs false
/-- The journal's pointer: none, or one on the disk g. -/
def JPtr (wr : World) (g : Nat) (v8 : Value) : Prop := v8 = .pointer none ∨ ∃ jb, v8 = .pointer (some ⟨jb, 0, none⟩) ∧ JBox wr jb g
/-- The disk g is S, the document's disk gm is SR (its bytes the row vr), the journal v8; the blocks of U are none of theirs. -/
structure PSv (w : World) (g gm : Nat) (S SR : DS) (v8 : Value) (U : Nat → Prop) (vr : Value) (wr : World) : Prop where
  ref : RefAt wr w.heap.size gm vr SR
  disk : DInv w w.heap.size g S (fun k => k = gm ∨ vr.ownBlock = some k ∨ v8 = .pointer (some ⟨k, 0, none⟩) ∨ U k) wr
  jp : JPtr wr g v8
  far : ∀ k, U k → k ≠ gm ∧ vr.ownBlock ≠ some k
theorem RefAt.stay {base g : Nat} {v : Value} {S : DS} {w w' : World} {T : Nat → Prop} (h : RefAt w base g v S) (hs : Stay T w w') (h1 : T g) (h2 : ∀ k, v.ownBlock = some k → T k) : RefAt w' base g v S := by
  obtain ⟨⟨bud, hb, h3⟩, ho, hl⟩ := h
  refine ⟨⟨bud, (hs.2 g h1).trans hb, h3⟩, ⟨ho.1, ?_⟩, hl⟩
  rcases ho.2 with hn | ⟨k, cap, cur, rfl, hk, hg, r⟩
  · exact .inl hn
  · exact .inr ⟨k, cap, cur, rfl, hk, (hs.2 k (h2 k rfl)).trans hg, r⟩
theorem JPtr.stay {w w' : World} {g : Nat} {v8 : Value} {T : Nat → Prop} (h : JPtr w g v8) (hs : Stay T w w') (hT : ∀ k, v8 = .pointer (some ⟨k, 0, none⟩) → T k) : JPtr w' g v8 := by
  rcases h with h | ⟨jb, h, hj⟩
  · exact .inl h
  · exact .inr ⟨jb, h, hj.stay hs (hT jb h)⟩
theorem PSv.below {w : World} {g gm : Nat} {S SR : DS} {v8 : Value} {U : Nat → Prop} {vr : Value} {wr : World} (h : PSv w g gm S SR v8 U vr wr) : Below w.heap.size w wr := h.disk.below
theorem PSv.refLt {w : World} {g gm : Nat} {S SR : DS} {v8 : Value} {U : Nat → Prop} {vr : Value} {wr : World} (h : PSv w g gm S SR v8 U vr wr) : gm < wr.heap.size ∧ ∀ k, vr.ownBlock = some k → k < wr.heap.size :=
  ⟨h.ref.lt, fun k hk => (own_lo h.ref.own k hk).2⟩
theorem PSv.uLt {w : World} {g gm : Nat} {S SR : DS} {v8 : Value} {U : Nat → Prop} {vr : Value} {wr : World} (h : PSv w g gm S SR v8 U vr wr) : ∀ k, U k → k < wr.heap.size := fun k hk => h.disk.lts k (.inr (.inr (.inr hk)))
/-- Memory that is made. -/
theorem PSv.made {w : World} {g gm : Nat} {S SR : DS} {v8 : Value} {U : Nat → Prop} {vr : Value} {wr w' : World} (h : PSv w g gm S SR v8 U vr wr) (hb : Below wr.heap.size wr w') : PSv w g gm S SR v8 (fun k => U k ∨ (wr.heap.size ≤ k ∧ k < w'.heap.size)) vr w' := by
  refine ⟨h.ref.below hb, (h.disk.made hb).mono (fun k hk => ?_), ?_, fun k hk => ?_⟩
  · rcases hk with hk | hk | hk | hk | hk
    · exact .inl (.inl hk)
    · exact .inl (.inr (.inl hk))
    · exact .inl (.inr (.inr (.inl hk)))
    · exact .inl (.inr (.inr (.inr hk)))
    · exact .inr hk
  · exact h.jp.stay (Stay.of_below (T := fun k => v8 = .pointer (some ⟨k, 0, none⟩)) hb (fun k hk => h.disk.lts k (.inr (.inr (.inl hk))))) (fun k hk => hk)
  · rcases hk with hk | hk
    · exact h.far k hk
    · have h1 := h.refLt
      exact ⟨by have := h1.1; omega, fun e => by have := h1.2 k e; omega⟩
theorem PSv.mono {w : World} {g gm : Nat} {S SR : DS} {v8 : Value} {U U' : Nat → Prop} {vr : Value} {wr : World} (h : PSv w g gm S SR v8 U vr wr) (hU : ∀ k, U' k → U k) : PSv w g gm S SR v8 U' vr wr := by
  refine ⟨h.ref, h.disk.mono (fun k hk => ?_), h.jp, fun k hk => h.far k (hU k hk)⟩
  rcases hk with hk | hk | hk | hk
  · exact .inl hk
  · exact .inr (.inl hk)
  · exact .inr (.inr (.inl hk))
  · exact .inr (.inr (.inr (hU k hk)))
/-- Behind a call of the program's disk. -/
theorem PSv.of_d {w : World} {g gm : Nat} {S S' SR : DS} {v8 : Value} {U : Nat → Prop} {vr : Value} {wr w' : World} (h : PSv w g gm S SR v8 U vr wr) (hd : DInv w w.heap.size g S' (fun k => k = gm ∨ vr.ownBlock = some k ∨ v8 = .pointer (some ⟨k, 0, none⟩) ∨ U k) w') (hs : Stay (fun k => k = gm ∨ vr.ownBlock = some k ∨ v8 = .pointer (some ⟨k, 0, none⟩) ∨ U k) wr w') :
    PSv w g gm S' SR v8 U vr w' ∧ Stay U wr w' :=
  ⟨⟨h.ref.stay hs (.inl rfl) (fun k hk => .inr (.inl hk)), hd, h.jp.stay hs (fun k hk => .inr (.inr (.inl hk))), h.far⟩, hs.1, fun k hk => hs.2 k (.inr (.inr (.inr hk)))⟩
/-- Behind a call of the document's disk. -/
theorem PSv.of_r {w : World} {g gm : Nat} {S SR SR' : DS} {v8 : Value} {U : Nat → Prop} {vr : Value} {wr w' : World} (h : PSv w g gm S SR v8 U vr wr) (hl : RefLeft w.heap.size gm vr wr SR' w') :
    ∃ vr', PSv w g gm S SR' v8 U vr' w' ∧ Stay U wr w' ∧ Keeps (fun k => k = gm ∨ some k = vr.ownBlock) wr w' := by
  obtain ⟨vr', hr, hk, hv⟩ := hl
  have hj : ∀ k, v8 = .pointer (some ⟨k, 0, none⟩) → k ≠ gm ∧ some k ≠ vr.ownBlock := by
    intro k hk8
    rcases h.jp with e | ⟨jb, e, hj⟩
    · rw [e] at hk8; cases hk8
    · rw [e] at hk8
      injection hk8 with hk8
      injection hk8 with hk8
      injection hk8 with hk8
      subst hk8
      obtain ⟨bud, hb, _⟩ := h.ref.blk
      refine ⟨fun e => ?_, fun e => ?_⟩
      · subst e
        have : some _ = some _ := hj.symm.trans hb
        injection this with this
        injection this with _ ht
        exact absurd ht (by decide)
      · exact own_blk_ne h.ref.own hj (by decide) e.symm
  refine ⟨vr', ⟨hr, ?_, ?_, fun k hU => ?_⟩, ⟨hk.size, fun k hU => hk.block k (h.uLt k hU) (fun e => ?_)⟩, hk⟩
  · refine h.disk.move hk (fun k e => ?_) (fun k e => ?_) (fun k e => ?_)
    · rcases e with e | e
      · exact .inl e
      · exact .inr (.inl e.symm)
    · rcases e with e | e | e | e
      · subst e; exact ⟨.inl (.inl rfl), hr.lt⟩
      · refine ⟨?_, (own_lo hr.own k e).2⟩
        rcases hv with e' | ⟨j, e', hj'⟩
        · exact .inl (.inr (.inl (e'.symm.trans e)))
        · rw [e'] at e
          injection e with e
          exact .inr (by omega)
      · exact ⟨.inl (.inr (.inr (.inl e))), Nat.lt_of_lt_of_le (h.disk.lts k (.inr (.inr (.inl e)))) hk.size⟩
      · exact ⟨.inl (.inr (.inr (.inr e))), Nat.lt_of_lt_of_le (h.uLt k e) hk.size⟩
    · rcases e with e | e
      · subst e; exact h.ref.lo
      · exact (own_lo h.ref.own k e.symm).1
  · rcases h.jp with e | ⟨jb, e, hj'⟩
    · exact .inl e
    · have hne := hj jb e
      exact .inr ⟨jb, e, hk.blk hj' (fun e' => e'.elim hne.1 hne.2)⟩
  · refine ⟨(h.far k hU).1, fun e => ?_⟩
    rcases hv with e' | ⟨j, e', hj'⟩
    · exact (h.far k hU).2 (e'.symm.trans e)
    · rw [e'] at e
      injection e with e
      have := h.uLt k hU
      omega
  · exact e.elim (h.far k hU).1 (fun e => (h.far k hU).2 e.symm)
section
variable {w : World} {g gm : Nat} {S SR : DS} {v8 : Value} {U : Nat → Prop} {vr : Value} {wr : World}
theorem pd_append (h : PSv w g gm S SR v8 U vr wr) (ho : S.ok) (A : Option Addr) (n c : Nat) (ys : List Int) (hr : Rd wr (.slice A n c) (numv .u8 ys)) (hn : n = ys.length) (hne : 0 < ys.length → (Value.slice A n c).ownBlock ≠ some g) (hm : n ≤ 140737488351232) :
    Calls Try.prog 22 #[.pointer (some ⟨g, 0, none⟩), .slice A n c] wr fun e w' => e = .returned (errV (S.appE ys)) ∧ PSv w g gm (S.app ys) SR v8 U vr w' ∧ Stay U wr w' :=
  (append_inv h.disk ho A n c ys hr hn hne hm).mono fun e w' ⟨he, hd, hs⟩ => ⟨he, h.of_d hd hs⟩
theorem pd_sync (h : PSv w g gm S SR v8 U vr wr) (ho : S.ok) :
    Calls Try.prog 23 #[.pointer (some ⟨g, 0, none⟩)] wr fun e w' => e = .returned (errV S.syncE) ∧ PSv w g gm S.sync SR v8 U vr w' ∧ Stay U wr w' :=
  (sync_inv h.disk ho).mono fun e w' ⟨he, hd, hs⟩ => ⟨he, h.of_d hd hs⟩
theorem pd_cut (h : PSv w g gm S SR v8 U vr wr) (n : Int) (hn : n < 1000000) :
    Calls Try.prog 28 #[.pointer (some ⟨g, 0, none⟩), .int .i64 n] wr fun e w' => e = .returned (errV (S.cutE n)) ∧ PSv w g gm (S.cut n) SR v8 U vr w' ∧ Stay U wr w' :=
  (cut_inv h.disk n hn).mono fun e w' ⟨he, hd, hs⟩ => ⟨he, h.of_d hd hs⟩
theorem pd_power (h : PSv w g gm S SR v8 U vr wr) (ho : S.ok) (k : Int) (hk : -9223372036854775808 ≤ k ∧ k ≤ 9223372036854775807) :
    Calls Try.prog 30 #[.pointer (some ⟨g, 0, none⟩), .int .i64 k] wr fun e w' => e = .returned (.tuple #[]) ∧ PSv w g gm (S.power k) SR v8 U vr w' ∧ Stay U wr w' :=
  (power_inv h.disk ho k hk).mono fun e w' ⟨he, hd, hs⟩ => ⟨he, h.of_d hd hs⟩
theorem pd_write {jb : Nat} (h : PSv w g gm S SR (.pointer (some ⟨jb, 0, none⟩)) U vr wr) (ho : S.ok) (hst : S.steps < 999999990) (A : Option Addr) (n c : Nat) (ys : List Int) (hr : Rd wr (.slice A n c) (numv .u8 ys)) (h8 : B8 ys) :
    Calls Try.prog 20 #[.pointer (some ⟨jb, 0, none⟩), .slice A n c] wr fun e w' => e = .returned (errV (wrE S ys)) ∧ PSv w g gm (wrS S ys) SR (.pointer (some ⟨jb, 0, none⟩)) U vr w' ∧ Stay U wr w' := by
  have hj : JBox wr jb g := by
    rcases h.jp with e | ⟨j, e, hj⟩
    · cases e
    · injection e with e; injection e with e; injection e with e; subst e; exact hj
  exact (write_calls h.disk ho hst hj (.inr (.inr (.inl rfl))) A n c ys hr h8).mono fun e w' ⟨he, hd, hs⟩ => ⟨he, h.of_d hd hs⟩
theorem pd_open (h : PSv w g gm S SR v8 U vr wr) (ho : S.ok) (hst : S.steps < 999999990) (h8 : B8 S.b) (hl : S.b.length ≤ 1000000) :
    Calls Try.prog 19 #[.pointer (some ⟨g, 0, none⟩)] wr fun e w' => ∃ jp rows, e = .returned (.tuple #[jp, rows, errV (opE S)]) ∧ PSv w g gm (opS S) SR jp U vr w' ∧ Stay U wr w' ∧
      ((opE S ≠ 0 ∧ jp = .pointer none ∧ rows = .slice none 0 0) ∨ (opE S = 0 ∧ (∃ jb, jp = .pointer (some ⟨jb, 0, none⟩)) ∧ OutL wr.heap.size w' rows (jl S.b))) := by
  refine (open_calls h.disk ho hst h8 hl).mono ?_
  rintro e w' ⟨jp, rows, he, hs, hc⟩
  have hsU : Stay U wr w' := ⟨hs.1, fun k hk => hs.2 k (.inr (.inr (.inr hk)))⟩
  have href := h.ref.stay hs (.inl rfl) (fun k hk => .inr (.inl hk))
  rcases hc with ⟨h1, rfl, rfl, hd⟩ | ⟨h1, jb, rfl, h2, h3, h4, hd⟩
  · refine ⟨_, _, he, ⟨href, hd.mono (fun k hk => ?_), .inl rfl, h.far⟩, hsU, .inl ⟨h1, rfl, rfl⟩⟩
    rcases hk with hk | hk | hk | hk
    · exact .inl hk
    · exact .inr (.inl hk)
    · cases hk
    · exact .inr (.inr (.inr hk))
  · refine ⟨_, _, he, ⟨href, hd.mono (fun k hk => ?_), .inr ⟨jb, rfl, h3⟩, h.far⟩, hsU, .inr ⟨h1, ⟨jb, rfl⟩, h4⟩⟩
    rcases hk with hk | hk | hk | hk
    · exact .inl (.inl hk)
    · exact .inl (.inr (.inl hk))
    · injection hk with hk; injection hk with hk; injection hk with hk; exact .inr hk.symm
    · exact .inl (.inr (.inr (.inr hk)))
theorem pr_append (h : PSv w g gm S SR v8 U vr wr) (ho : SR.ok) (A : Option Addr) (n c : Nat) (ys : List Int) (hr : Rd wr (.slice A n c) (numv .u8 ys)) (hn : n = ys.length) (hne : 0 < ys.length → (Value.slice A n c).ownBlock ≠ some gm) (hm : n ≤ 140737488351232) :
    Calls Try.prog 24 #[.pointer (some ⟨gm, 0, none⟩), .slice A n c] wr fun e w' => e = .returned (.int .i64 (SR.appE ys)) ∧ ∃ vr', PSv w g gm S (SR.app ys) v8 U vr' w' ∧ Stay U wr w' :=
  (rappend_calls _ gm vr SR wr h.ref ho h.below.size A n c ys hr hn hne hm).mono fun e w' ⟨he, hl⟩ => ⟨he, by obtain ⟨vr', a, b, _⟩ := h.of_r hl; exact ⟨vr', a, b⟩⟩
theorem pr_sync (h : PSv w g gm S SR v8 U vr wr) (ho : SR.ok) :
    Calls Try.prog 25 #[.pointer (some ⟨gm, 0, none⟩)] wr fun e w' => e = .returned (.int .i64 SR.syncE) ∧ ∃ vr', PSv w g gm S SR.sync v8 U vr' w' ∧ Stay U wr w' :=
  (rsync_calls _ gm vr SR wr h.ref ho).mono fun e w' ⟨he, hl⟩ => ⟨he, by obtain ⟨vr', a, b, _⟩ := h.of_r hl; exact ⟨vr', a, b⟩⟩
theorem pr_cut (h : PSv w g gm S SR v8 U vr wr) (n : Int) (hn : n < 1000000) :
    Calls Try.prog 29 #[.pointer (some ⟨gm, 0, none⟩), .int .i64 n] wr fun e w' => e = .returned (.int .i64 (SR.cutE n)) ∧ ∃ vr', PSv w g gm S (SR.cut n) v8 U vr' w' ∧ Stay U wr w' :=
  (rcut_calls _ gm vr SR wr h.ref n hn).mono fun e w' ⟨he, hl⟩ => ⟨he, by obtain ⟨vr', a, b, _⟩ := h.of_r hl; exact ⟨vr', a, b⟩⟩
theorem pr_power (h : PSv w g gm S SR v8 U vr wr) (ho : SR.ok) (k : Int) :
    Calls Try.prog 31 #[.pointer (some ⟨gm, 0, none⟩), .int .i64 k] wr fun e w' => e = .returned (.tuple #[]) ∧ ∃ vr', PSv w g gm S (SR.power k) v8 U vr' w' ∧ Stay U wr w' :=
  (rpower_calls _ gm vr SR wr h.ref ho h.below.size k).mono fun e w' ⟨he, hl⟩ => ⟨he, by obtain ⟨vr', a, b, _⟩ := h.of_r hl; exact ⟨vr', a, b⟩⟩
theorem pr_open (h : PSv w g gm S SR v8 U vr wr) (ho : SR.ok) (hst : SR.steps < 999999990) (h8 : B8 SR.b) (hl : SR.b.length ≤ 1000000) :
    Calls Try.prog 26 #[.pointer (some ⟨gm, 0, none⟩)] wr fun e w' => ∃ rows, e = .returned (.tuple #[rows, .int .i64 (opE SR)]) ∧ (∃ vr', PSv w g gm S (opS SR) v8 U vr' w') ∧ Stay U wr w' ∧ Keeps (fun k => k = gm ∨ some k = vr.ownBlock) wr w' ∧
      ((opE SR ≠ 0 ∧ rows = .slice none 0 0) ∨ (opE SR = 0 ∧ OutL wr.heap.size w' rows (jl SR.b))) :=
  (ropen_calls _ gm vr SR wr h.ref ho hst h.below.size h8 hl).mono fun e w' ⟨rows, he, hl, hc⟩ => ⟨rows, he, by obtain ⟨vr', a, b, c⟩ := h.of_r hl; exact ⟨⟨vr', a⟩, b, c, hc⟩⟩
end
end Go.Proofs.Ytlgkcpmedjpoaaa.X
