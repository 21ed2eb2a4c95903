/- JournalPlays: the law's walk. -/
import Derived.Test.YtlgkcpmedjpoaaaPS
import Derived.Deep.DeepCutAuto
import Derived.Deep.CutBlock
namespace Go.Proofs.Ytlgkcpmedjpoaaa.X
open Go.RowKit Go.Proofs.Ytlgkcpmedjpoaaa Go.Proofs.YtlgkcpmedjpoaaaW.PrintWords Go.Proofs.YtlgkcpmedjpoaaaW.PrintLast Go.Proofs.YtlgkcpmedjpoaaaW.PrintMore
set_option linter.unusedVariables false
set_option linter.unusedSimpArgs false
/-- Bounds of a disk on the way. -/
structure PN (st : Int) (len : Nat) (S : DS) : Prop where
  s0 : 0 ≤ S.steps
  s1 : S.steps ≤ st
  l0 : 0 ≤ S.left
  l1 : S.left ≤ 8
  bl : S.b.length ≤ len
  y0 : 0 ≤ S.synced
  y1 : S.synced ≤ S.b.length
  b8 : B8 S.b
theorem PN.mono {st st' : Int} {len len' : Nat} {S : DS} (h : PN st len S) (h1 : st ≤ st') (h2 : len ≤ len') : PN st' len' S :=
  ⟨h.s0, Int.le_trans h.s1 h1, h.l0, h.l1, Nat.le_trans h.bl h2, h.y0, h.y1, h.b8⟩
theorem PN.ok {st : Int} {len : Nat} {S : DS} (h : PN st len S) (h1 : st < 1000000000) (h2 : len ≤ 67108864) : S.ok :=
  ⟨⟨h.s0, by have := h.s1; omega⟩, ⟨h.l0, by have := h.l1; omega⟩, by have := h.bl; omega, h.y0, h.y1⟩
theorem PN.step {st : Int} {len : Nat} {S : DS} (h : PN st len S) : PN (st + 1) len S.step := by
  have hl := step_left S h.l0
  have e1 := step_steps S
  have e2 := step_b S
  have e3 := step_synced S
  have := h.s0; have := h.s1; have := h.l1
  exact ⟨by omega, by omega, hl.1, by omega, by rw [e2]; exact h.bl, by rw [e3]; exact h.y0, by rw [e3, e2]; exact h.y1, by rw [e2]; exact h.b8⟩
theorem PN.app {st : Int} {len n : Nat} {S : DS} (h : PN st len S) {ys : List Int} (hn : ys.length ≤ n) (h8 : B8 ys) : PN (st + 1) (len + n) (S.app ys) := by
  unfold DS.app
  split
  · exact h.mono (by omega) (by omega)
  · split
    · exact h.mono (by omega) (by omega)
    · have hs := h.step
      have e3 := step_synced S
      exact ⟨hs.s0, hs.s1, hs.l0, hs.l1, by simp only [List.length_append]; have := h.bl; omega, hs.y0, by simp only [List.length_append, e3]; have := h.y1; omega, h.b8.app h8⟩
theorem PN.sync {st : Int} {len : Nat} {S : DS} (h : PN st len S) : PN (st + 1) len S.sync := by
  have hs := h.step
  have e2 := step_b S
  unfold DS.sync
  split
  · exact h.mono (by omega) (by omega)
  · split
    · exact ⟨hs.s0, hs.s1, hs.l0, hs.l1, hs.bl, by simp only; omega, by simp only [e2]; omega, hs.b8⟩
    · exact hs
theorem PN.trim {st : Int} {len : Nat} {S : DS} (h : PN st len S) (n : Nat) : PN (st + 1) len (S.trim n) := by
  have hs := h.step
  unfold DS.trim
  split
  · exact h.mono (by omega) (by omega)
  · split
    · exact h.mono (by omega) (by omega)
    · split
      · have := h.bl; have := h.y0; have := h.y1
        exact ⟨hs.s0, hs.s1, hs.l0, hs.l1, by simp only [List.length_take]; omega, by simp only; omega, by simp only [List.length_take, Int.toNat_natCast]; omega, h.b8.take _⟩
      · exact hs
theorem PN.cut {st : Int} {len : Nat} {S : DS} (h : PN st len S) (n : Int) (h1 : n < 8) : PN st len (S.cut n) := by
  unfold DS.cut
  split
  · exact h
  · split
    · exact h
    · exact ⟨h.s0, h.s1, by simp only; omega, by simp only; omega, h.bl, h.y0, h.y1, h.b8⟩
theorem PN.power {st : Int} {len : Nat} {S : DS} (h : PN st len S) (k : Int) : PN st len (S.power k) := by
  unfold DS.power
  split
  · have h1 := h.bl; have h2 := h.y0; have h3 := h.y1
    have hm : 0 ≤ mnI (max k 0) (S.b.length - S.synced) ∧ mnI (max k 0) (S.b.length - S.synced) ≤ S.b.length - S.synced := by unfold mnI; split <;> omega
    exact ⟨h.s0, h.s1, by simp, by simp, by simp only [List.length_take]; omega, by simp only; omega, by simp only [List.length_take]; omega, h.b8.take _⟩
  · exact h
theorem PN.wr {st : Int} {len : Nat} {S : DS} (h : PN st len S) {ys : List Int} (hn : ys.length ≤ 500) (h8 : B8 ys) : PN (st + 2) (len + 508) (wrS S ys) := by
  unfold wrS
  have ha := h.app (n := 508) (ys := fr ys) (by rw [frame_len]; omega) (fr_b8 h8)
  split
  · exact h.mono (by omega) (by omega)
  · split
    · exact ha.sync.mono (by omega) (Nat.le_refl _)
    · exact ha.mono (by omega) (Nat.le_refl _)
theorem PN.op {st : Int} {len : Nat} {S : DS} (h : PN st len S) : PN (st + 2) len (opS S) := by
  unfold opS
  split
  · exact h.mono (by omega) (Nat.le_refl _)
  · split
    · split
      · exact (h.trim _).sync.mono (by omega) (Nat.le_refl _)
      · exact (h.trim _).mono (by omega) (Nat.le_refl _)
    · exact h.mono (by omega) (Nat.le_refl _)
theorem syncE_bd (S : DS) : 0 ≤ S.syncE ∧ S.syncE ≤ 15 := by
  unfold DS.syncE
  split
  · decide
  · split <;> decide
theorem trimE_bd (S : DS) (n : Int) : 0 ≤ S.trimE n ∧ S.trimE n ≤ 15 := by
  unfold DS.trimE
  split
  · decide
  · split
    · decide
    · split <;> decide
theorem appE_bd (S : DS) (ys : List Int) : 0 ≤ S.appE ys ∧ S.appE ys ≤ 15 := by
  unfold DS.appE
  split
  · decide
  · split
    · decide
    · split <;> decide
theorem opE_bd (S : DS) : 0 ≤ opE S ∧ opE S ≤ 15 := by
  unfold opE
  split
  · decide
  · split
    · split
      · exact syncE_bd _
      · exact trimE_bd _ _
    · decide
theorem wrE_bd (S : DS) (ys : List Int) : 0 ≤ wrE S ys ∧ wrE S ys ≤ 15 := by
  unfold wrE
  split
  · decide
  · split
    · exact syncE_bd _
    · exact appE_bd _ _
/-- A deed that is handed in. -/
structure Deed where
  what : Int
  n : Int
  A : Option Addr
  len : Nat
  cap : Nat
  b : List Int
def DeedAt (w : World) (ad : Addr) (i : Nat) (d : Deed) : Prop :=
  w.cell? (ad.add (i * 3)) = some (.int .i64 d.what) ∧ w.cell? ⟨(ad.add (i * 3)).block, (ad.add (i * 3)).off + 1, none⟩ = some (.int .i64 d.n) ∧ w.cell? ⟨(ad.add (i * 3)).block, (ad.add (i * 3)).off + 2, none⟩ = some (.slice d.A d.len d.cap) ∧
  Rd w (.slice d.A d.len d.cap) (numv .u8 d.b) ∧ B8 d.b ∧ (-9223372036854775808 ≤ d.what ∧ d.what ≤ 9223372036854775807) ∧ (-9223372036854775808 ≤ d.n ∧ d.n ≤ 9223372036854775807)
def RdDeeds (w : World) (A : Option Addr) (n : Nat) : Prop := n ≤ 9223372036854775807 ∧ ∀ i, i < n → ∃ ad d, A = some ad ∧ DeedAt w ad i d
/-- At the loop's head. -/
def RelP (w : World) (g gm n : Nat) (v8 i : Value) (wr : World) : Prop :=
  ∃ (k : Nat) (S : DS) (vr : Value), i = .int .i64 (k : Int) ∧ k ≤ n ∧ k ≤ 30 ∧ PN (10 + 4 * k) (5000 + 600 * k) S ∧ PSv w g gm S S v8 (fun _ => False) vr wr
theorem rows_two {S : DS} {wa wb wc : World} {jp r1 r2 vr : Value} {gm : Nat} (h8 : B8 S.b) (hc1 : (opE S ≠ 0 ∧ jp = .pointer none ∧ r1 = .slice none 0 0) ∨ (opE S = 0 ∧ (∃ jb, jp = .pointer (some ⟨jb, 0, none⟩)) ∧ OutL wa.heap.size wb r1 (jl S.b)))
    (hk : Keeps (fun k => k = gm ∨ some k = vr.ownBlock) wb wc) (hlt : gm < wa.heap.size ∧ ∀ k, vr.ownBlock = some k → k < wa.heap.size) (hc2 : (opE S ≠ 0 ∧ r2 = .slice none 0 0) ∨ (opE S = 0 ∧ OutL wb.heap.size wc r2 (jl S.b))) :
    ∃ L, BB8 L ∧ RdRows .u8 wc r1 L ∧ RdRows .u8 wc r2 L := by
  rcases hc1 with ⟨a1, _, rfl⟩ | ⟨a1, _, o1⟩
  · rcases hc2 with ⟨_, rfl⟩ | ⟨b1, _⟩
    · exact ⟨[], by intro x hx; simp at hx, (OutL.nil 0 wc).rows, (OutL.nil 0 wc).rows⟩
    · exact absurd b1 a1
  · rcases hc2 with ⟨b1, _⟩ | ⟨_, o2⟩
    · exact absurd a1 b1
    · exact ⟨jl S.b, jl_b8 h8, (o1.keeps hk (fun k h1 h2 h => by
        rcases h with h | h
        · have := hlt.1; omega
        · have := hlt.2 k h.symm; omega)).rows, o2.rows⟩
theorem PSv.drawn {w : World} {g gm : Nat} {S SR : DS} {v8 : Value} {U : Nat → Prop} {vr : Value} {wr w' : World} (h : PSv w g gm S SR v8 U vr wr) (hd : Drawn0 wr w') : PSv w g gm S SR v8 U vr w' := by
  obtain ⟨n, rfl⟩ := hd.out
  exact (h.made ((Below.refl _ _).drewN n)).mono (fun _ h => .inl h)
theorem rframe_own {A : Option Addr} {n c : Nat} {l : List Int} (w : World) (ha : Rd w (.slice A n c) (numv .u8 l)) (h : B8 l) (hl : l.length ≤ 1000000) :
    Calls Try.prog 16 #[.slice A n c] w fun e w' => ∃ A' c', e = .returned (.slice A' (fr l).length c') ∧ Own w' w.heap.size (.slice A' (fr l).length c') (fr l) ∧ Below w.heap.size w w' := by
  obtain ⟨h1, h2, h3⟩ := C_of_rd ha
  subst h3
  refine (treenailref13_Frame.calls 40000000 A c l (fr l) w h1 h2 (rframe_spec l h (by omega) _ (by omega))).mono ?_
  rintro e w' ⟨v, rfl, g, hb⟩
  obtain ⟨A', c', rfl⟩ := ownSlice (own_of_RN g)
  exact ⟨A', c', rfl, own_of_RN g, hb⟩
/-- The deed's own copy. -/
def XB (wx : World) (bx : Nat) (x y : Int) (B : Option Addr) (len d : Nat) : Prop := wx.heap[bx]? = some (.cells #[.int .i64 x, .int .i64 y, .slice B len d] 57 (0, 0))
theorem XB.cell {wx : World} {bx : Nat} {x y : Int} {B : Option Addr} {len d : Nat} (h : XB wx bx x y B len d) : wx.cell? ⟨bx, 0, none⟩ = some (.int .i64 x) ∧ wx.cell? ⟨bx, 1, none⟩ = some (.int .i64 y) ∧ wx.cell? ⟨bx, 2, none⟩ = some (.slice B len d) := by
  refine ⟨?_, ?_, ?_⟩ <;> (rw [cell_of_row _ _ _ _ _ _ h]; rfl)
theorem XB.stay {wx w' : World} {bx : Nat} {x y : Int} {B : Option Addr} {len d : Nat} {U : Nat → Prop} (h : XB wx bx x y B len d) (hs : Stay U wx w') (hU : U bx) : XB w' bx x y B len d := (hs.2 bx hU).trans h
theorem neq_code_ (w : World) (a b : Int) : (binOp .neq 25 (.iface 45 (.int .i64 a)) (.iface 45 (.int .i64 b))).run Try.prog w = .ok (.bool (!(a == b))) w := by
  obtain ⟨i, hi, hc⟩ := Option.map_eq_some_iff.1 code_info
  exact run_neq_iface_int w a b Try.underlying25 Try.underlying45 hi hc
set_option maxHeartbeats 8000000 in
set_option maxRecDepth 100000 in
theorem plays_calls (w : World) (A : Option Addr) (c : Nat) (l : List Int) (A1 : Option Addr) (n c1 : Nat) (ha : Rd w (.slice A l.length c) (numv .u8 l)) (h8 : B8 l) (hd : RdDeeds w A1 n) :
    Calls Try.prog 7 #[.slice A l.length c, .slice A1 n c1] w fun e w' => e = .returned (.bool true) ∧ Below w.heap.size w w' := by
  have HA := Lib.hid ha
  have HU := Lib.hid (up13_calls w)
  have HDD := Lib.hid hd
  have hn9 : n ≤ 9223372036854775807 := hd.1
  clear ha hd
  by_cases hl : 5000 < l.length
  · have hl' : (5000 : Int) < (l.length : Int) := by omega
    clear hl h8
    go_enter Try.func7, Try.ntmps7
    go_wp2_with fail
    refine HU.out.mono ?_
    rintro e w1 ⟨rfl, hb1⟩
    have HB := Lib.hid hb1
    clear hb1
    go_wp2
    go_ret
    exact ⟨rfl, HB.out⟩
  have hl' : (l.length : Int) ≤ 5000 := by omega
  have H8 := Lib.hid h8
  clear hl h8
  go_enter Try.func7, Try.ntmps7
  go_wp2_with fail
  refine HU.out.mono ?_
  rintro e w1 ⟨rfl, hb1⟩
  have HB1 := Lib.hid hb1
  clear hb1 HU
  go_wp2_with fail
  refine (new_inv w w1 w.heap.size HB1.out HB1.out.size (fun k => False) (fun k h => h.elim)).mono ?_
  rintro e w3 ⟨rfl, hd3, hs3⟩
  have HD3 := Lib.hid hd3
  have hg3 : w1.heap.size < w3.heap.size := hd3.lt.2
  generalize hg : w1.heap.size = g at *
  clear hd3 hs3 hg
  go_wp2_with fail
  have HP0 := Lib.hid (show PSv w g w3.heap.size DS.new DS.new (.pointer none) (fun _ => False) (.slice none 0 0) (w3.alloc (.cells #[.slice none 0 0, .int .i64 0, .bool false, .int .i64 0, .bool false, .int .i64 0] 51)) from by
    refine ⟨⟨⟨0, heap_alloc_new _ _, fun h => absurd rfl h⟩, World.ownsRow_nil _ _ _ _, HD3.out.below.size⟩, (HD3.out.made ((Below.refl _ _).alloc (Nat.le_refl _) _)).mono (fun k hk => ?_), .inl rfl, fun k hk => hk.elim⟩
    rcases hk with hk | hk | hk | hk
    · subst hk; exact .inr ⟨Nat.le_refl _, by simp⟩
    · simp [Value.ownBlock] at hk
    · cases hk
    · exact hk.elim)
  have HG := Lib.hid (show w.heap.size ≤ g ∧ w.heap.size ≤ w3.heap.size from ⟨HD3.out.lt.1, HD3.out.below.size⟩)
  have HLT := Lib.hid (fun (h0 : 0 < l.length) k (hk : (Value.slice A l.length c).ownBlock = some k) => rd_lt HA.out (by rw [numv_length]; exact h0) k hk)
  have HA4 := Lib.hid (HA.out.below HP0.out.below)
  generalize hw4 : (w3.alloc (.cells #[.slice none 0 0, .int .i64 0, .bool false, .int .i64 0, .bool false, .int .i64 0] 51)) = w4 at *
  generalize hgm : w3.heap.size = gm at *
  clear hw4 hgm HD3 HB1 hg3
  have HPN := Lib.hid (show PN 0 0 DS.new from ⟨by decide, by decide, by decide, by decide, by decide, by decide, by decide, by intro x hx; simp [DS.new] at hx⟩)
  have HPN1 := Lib.hid (HPN.out.app (n := 5000) (ys := l) (by omega) H8.out)
  have HPN2 := Lib.hid HPN1.out.sync
  refine (pd_append HP0.out (HPN.out.ok (by omega) (by omega)) _ _ _ l HA4.out rfl (fun h0 e => by have h1 := HLT.out h0 g e; have h2 := HG.out.1; omega) (by omega)).mono ?_
  rintro e w5 ⟨rfl, hp5, _⟩
  have HP5 := Lib.hid hp5
  clear hp5 HP0 HA4
  go_wp2_with fail
  refine (pd_sync HP5.out (HPN1.out.ok (by omega) (by omega))).mono ?_
  rintro e w6 ⟨rfl, hp6, _⟩
  have HP6 := Lib.hid hp6
  have HA6 := Lib.hid (HA.out.below hp6.below)
  clear hp6 HP5
  go_wp2_with fail
  refine (pr_append HP6.out (HPN.out.ok (by omega) (by omega)) _ _ _ l HA6.out rfl (fun h0 e => by have h1 := HLT.out h0 gm e; have h2 := HG.out.2; omega) (by omega)).mono ?_
  rintro e w7 ⟨rfl, vr7, hp7, _⟩
  have HP7 := Lib.hid hp7
  clear hp7 HP6 HA6
  go_wp2_with fail
  refine (pr_sync HP7.out (HPN1.out.ok (by omega) (by omega))).mono ?_
  rintro e w8 ⟨rfl, vr8, hp8, _⟩
  have HP8 := Lib.hid hp8
  clear hp8 HP7
  obtain ⟨S, hS⟩ : ∃ S, S = (DS.new.app l).sync := ⟨_, rfl⟩
  rw [← hS] at HP8 HPN2
  clear HPN HPN1 hS
  have HBD := Lib.hid (opE_bd S)
  go_wp2_with fail
  refine (pd_open HP8.out (HPN2.out.ok (by omega) (by omega)) (by have := HPN2.out.s1; omega) HPN2.out.b8 (by have := HPN2.out.bl; omega)).mono ?_
  rintro e w9 ⟨jp, rows, rfl, hp9, _, hc9⟩
  have HP9 := Lib.hid hp9
  have HC9 := Lib.hid hc9
  have HRL := Lib.hid HP8.out.refLt
  obtain ⟨AR, nR, cR, rfl⟩ : ∃ A n c, rows = .slice A n c := by
    rcases hc9 with ⟨_, _, rfl⟩ | ⟨_, _, h⟩
    · exact ⟨_, _, _, rfl⟩
    · obtain ⟨A, c, e⟩ := RdRows.len_ h.rows
      exact ⟨_, _, _, e⟩
  have hjp : jp = .pointer none ∨ ∃ jb, jp = .pointer (some ⟨jb, 0, none⟩) := by
    rcases hc9 with ⟨_, h, _⟩ | ⟨_, h, _⟩
    · exact .inl h
    · exact .inr h
  clear hp9 hc9
  go_wp2_with fail
  refine (pr_open HP9.out (HPN2.out.ok (by omega) (by omega)) (by have := HPN2.out.s1; omega) HPN2.out.b8 (by have := HPN2.out.bl; omega)).mono ?_
  rintro e w10 ⟨rows2, rfl, ⟨vr10, hp10⟩, _, hk10, hc10⟩
  obtain ⟨L, hL8, hL1, hL2⟩ := rows_two HPN2.out.b8 HC9.out hk10 HRL.out hc10
  obtain ⟨AQ, cQ, rfl⟩ := RdRows.len_ hL2
  have HP10 := Lib.hid hp10
  have HSM := Lib.hid (same_refl _ _ L w10 hL1 hL2 hL8)
  clear hp10 hk10 hc10 hL8 hL1 hL2
  go_wp2_with fail
  refine HSM.out.mono ?_
  rintro e w11 ⟨rfl, hd11⟩
  have HP11 := Lib.hid (HP10.out.drawn hd11)
  clear hd11 HP10 HSM HP9
  have HPN3 := Lib.hid HPN2.out.op
  have hcase : (opE S = 0 ∧ ∃ jb, jp = .pointer (some ⟨jb, 0, none⟩)) ∨ (opE S ≠ 0 ∧ jp = .pointer none) := by
    rcases HC9.out with ⟨a, b, _⟩ | ⟨a, b, _⟩
    · exact .inr ⟨a, b⟩
    · exact .inl ⟨a, b⟩
  clear HC9 hjp HRL HPN2 HP8
  generalize opS S = S1 at *
  generalize hE : opE S = E at *
  clear hE
  have HR0 := Lib.hid (show RelP w g gm n jp (.int .i64 ((0 : Nat) : Int)) w11 from ⟨0, S1, vr10, rfl, Nat.zero_le _, Nat.zero_le _, HPN3.out.mono (by omega) (by omega), HP11.out⟩)
  have HCS := Lib.hid hcase
  clear hcase
  go_upto_region 15 with fail
  go_cut [75] (fun v wx => v = .bool false ∧ wx = w11)
  case first =>
    go_wp2_with fail
    refine (code_calls E HBD.out.1 HBD.out.2 w11).mono ?_
    rintro e w12 ⟨rfl, rfl⟩
    rcases HCS.out with ⟨rfl, jb, rfl⟩ | ⟨hE0, rfl⟩
    · rw [show errV 0 = .nilIface from rfl]
      go_wp2
      go_meet
      exact ⟨rfl, rfl⟩
    · have HEV := Lib.hid (show errV E = .iface 45 (.int .i64 E) from by rw [errV, if_neg hE0])
      rw [HEV.out]
      clear hE0
      go_wp2
      rw [← HEV.out]
      go_meet
      exact ⟨rfl, rfl⟩
  case rest =>
    obtain ⟨rfl, rfl⟩ := hcut
    go_wp2_with fail
    go_loopw [8, 14] (fun v8 i wr => RelP w g gm n v8 i wr) (fun _ i _ => 30 - (intOf i).toNat)
    case atStart => exact HR0.out
    case round =>
      clear HR0 HP11
      obtain ⟨k, S, vr, rfl, hk, hk30, hpn, hps⟩ := hrel
      rename World => wr
      have HPN := Lib.hid hpn
      have HPS := Lib.hid hps
      have HB := Lib.hid hps.below
      clear hpn hps
      by_cases hin : k < n ∧ k < 30
      · obtain ⟨hk1, hk2⟩ := hin
        obtain ⟨ad, ⟨x, y, B, len, d, bs⟩, rfl, e0, e1, e2, hrd, hb8, hx, hy⟩ := HDD.out.2 k hk1
        simp only at e0 e1 e2 hrd hb8 hx hy
        have k1 : (k : Int) < (n : Int) := by omega
        have k2 : (k : Int) < 30 := by omega
        have hc0 : wr.cell? (ad.add (k * 3)) = some (.int .i64 x) := by rw [HB.out.cell (World.block_lt_of_cell? w _ e0)]; exact e0
        have hc1 : wr.cell? ⟨(ad.add (k * 3)).block, (ad.add (k * 3)).off + 1, none⟩ = some (.int .i64 y) := by rw [HB.out.cell (World.block_lt_of_cell? w _ e1)]; exact e1
        have hc2 : wr.cell? ⟨(ad.add (k * 3)).block, (ad.add (k * 3)).off + 2, none⟩ = some (.slice B len d) := by rw [HB.out.cell (World.block_lt_of_cell? w _ e2)]; exact e2
        clear e0 e1 e2
        have HRW := Lib.hid hrd
        have HB8 := Lib.hid hb8
        have HX := Lib.hid hx
        have HY := Lib.hid hy
        have hlb : len = bs.length := by
          obtain ⟨A', c', he, _⟩ := hrd
          injection he with _ he _
          rw [he, numv_length]
        have HLB := Lib.hid hlb
        clear hlb
        go_upto_if 93 with fail
        go_cut [] (fun wx => ∃ (By : Option Addr) (ly dy : Nat) (yb : List Int), XB wx wr.heap.size x y By ly dy ∧ Below wr.heap.size wr wx ∧ Rd w (.slice By ly dy) (numv .u8 yb) ∧ ly = yb.length ∧ yb.length ≤ 500 ∧ B8 yb)
        case first =>
          by_cases hlen : 500 < len
          · have hl5 : (500 : Int) < (len : Int) := by omega
            obtain ⟨By, dy, hst, hry⟩ := run_to8 w B len d bs hrd 500 500 rfl (by omega)
            have HRY0 := Lib.hid hry
            have HYL0 := Lib.hid (show (bs.take 500).length = 500 by have := HLB.out; rw [List.length_take]; omega)
            clear hrd hb8 hx hy hlen hry
            go_wp2
            go_meet
            exact ⟨By, 500, dy, bs.take 500, heap_alloc_new _ _, (Below.refl _ _).alloc (Nat.le_refl _) _, HRY0.out, HYL0.out.symm, by rw [HYL0.out]; exact Nat.le_refl _, HB8.out.take 500⟩
          · have hl5 : (len : Int) ≤ 500 := by omega
            have HYL0 := Lib.hid (show len = bs.length ∧ bs.length ≤ 500 from ⟨HLB.out, by have := HLB.out; omega⟩)
            clear hrd hb8 hx hy hlen
            go_wp2
            go_meet
            exact ⟨B, len, d, bs, heap_alloc_new _ _, (Below.refl _ _).alloc (Nat.le_refl _) _, HRW.out, HYL0.out.1, HYL0.out.2, HB8.out⟩
        case rest =>
          obtain ⟨By, ly, dy, yb, hxb, hbw, hry, hyl1, hyl2, hy8⟩ := hcut
          rename World => wx
          have HRY := Lib.hid hry
          have HYL := Lib.hid (show ly = yb.length ∧ yb.length ≤ 500 from ⟨hyl1, hyl2⟩)
          have HY8 := Lib.hid hy8
          have hsz : wr.heap.size < wx.heap.size := blkLt hxb
          clear hry hyl1 hyl2 hy8 hrd hb8 hx hy
          have HPX := Lib.hid ((HPS.out.made hbw).mono (U' := fun k => k = wr.heap.size) (fun k hk => .inr ⟨by omega, by omega⟩))
          have HXB := Lib.hid hxb
          generalize wr.heap.size = bx at *
          clear hc0 hc1 hc2 hxb hbw hsz HRW HB8 HLB HPS
          have HPF := Lib.hid (pickF_range x 6 (by omega))
          obtain ⟨x0, x1, x2⟩ := HXB.out.cell
          go_wp2_with fail
          refine (pick_calls x 6 HX.out (by omega) wx).mono ?_
          rintro e wx' ⟨rfl, rfl⟩
          have hp : (pickF x 6 = 0 ∨ pickF x 6 = 1 ∨ pickF x 6 = 2) ∨ pickF x 6 = 3 ∨ pickF x 6 = 4 ∨ pickF x 6 = 5 := by have := HPF.out; omega
          have HPQ := Lib.hid (fun W => pick_calls x 6 HX.out (by omega) W)
          have HPY := Lib.hid (fun W => pick_calls y 8 HY.out (by omega) W)
          have HPYR := Lib.hid (pickF_range y 8 (by omega))
          have HOK := Lib.hid (HPN.out.ok (by omega) (by omega))
          have hst9 : S.steps < 999999990 := by have := HPN.out.s1; omega
          have HRYx := Lib.hid (HRY.out.below HPX.out.below)
          clear HPF
          generalize pickF x 6 = px at *
          generalize pickF y 8 = py at *
          have hcp : ((px = 0 ∨ px = 1 ∨ px = 2) ∧ u8 = .pointer none) ∨ (((px = 0 ∨ px = 1 ∨ px = 2) ∧ ∃ jb, u8 = .pointer (some ⟨jb, 0, none⟩)) ∨ px = 3 ∨ px = 4 ∨ px = 5) := by
            rcases hp with hp | hp
            · rcases HPX.out.jp with h | ⟨jb, h, _⟩
              · exact .inl ⟨hp, h⟩
              · exact .inr (.inl ⟨hp, jb, h⟩)
            · exact .inr (.inr hp)
          clear hp
          rcases hcp with ⟨hp, hj0⟩ | hp
          · as_aux_lemma =>
              subst hj0
              rcases hp with rfl | rfl | rfl
              all_goals
                go_wp2
                go_roundw
                case rel => exact ⟨k + 1, S, vr, by go_num, by omega, by omega, HPN.out.mono (by omega) (by omega), HPX.out.mono (fun _ h => h.elim)⟩
                case measure => simp [intOf]; omega
          have HPC := Lib.hid hp
          clear hp
          go_upto_block 2 with (fail)
          go_cut [8] (fun v8' wz => ∃ (S' : DS) (vr' : Value), PN (10 + 4 * ((k + 1 : Nat) : Int)) (5000 + 600 * (k + 1)) S' ∧ PSv w g gm S' S' v8' (fun _ => False) vr' wz)
          case first =>
            rcases HPC.out with ⟨hp, jb, hj0⟩ | rfl | hp
            · as_aux_lemma =>
                subst hj0
                have HP3 := Lib.hid hp
                clear hp
                have HW := Lib.hid (pd_write HPX.out HOK.out hst9 By ly dy yb HRYx.out HY8.out)
                have HWB := Lib.hid (wrE_bd S yb)
                have HLN := Lib.hid (show wrE S yb = (if S.appE (fr yb) = 0 then (S.app (fr yb)).syncE else S.appE (fr yb)) ∧ wrS S yb = (if S.appE (fr yb) = 0 then (S.app (fr yb)).sync else S.app (fr yb)) from by
                  have hnl : ¬ 2097152 < yb.length := by have := HYL.out; omega
                  exact ⟨by rw [wrE, if_neg hnl], by rw [wrS, if_neg hnl]⟩)
                have HPNT := Lib.hid (show PN (10 + 4 * ((k + 1 : Nat) : Int)) (5000 + 600 * (k + 1)) (wrS S yb) from (HPN.out.wr (ys := yb) HYL.out.2 HY8.out).mono (by omega) (by omega))
                have HAO := Lib.hid (app_ok HOK.out (by omega) (fr yb))
                have HFL := Lib.hid (show (fr yb).length ≤ 508 from by rw [frame_len]; have := HYL.out; omega)
                clear HPQ HPY HPYR hst9
                go_upto_if 143 with (fail)
                go_cut [143] (fun v wz => v = .bool true ∧ wz = wx)
                case first =>
                  rcases HP3.out with rfl | rfl | rfl
                  all_goals
                    go_wp2
                    go_meet
                    exact ⟨rfl, rfl⟩
                case rest =>
                  obtain ⟨rfl, rfl⟩ := hcut
                  obtain ⟨x0, x1, x2⟩ := HXB.out.cell
                  go_wp2_with fail
                  refine HW.out.mono ?_
                  rintro e w2 ⟨rfl, hp2, hs2⟩
                  have HP2 := Lib.hid hp2
                  have HXB2 := Lib.hid (HXB.out.stay hs2 rfl)
                  obtain ⟨x0, x1, x2⟩ := HXB2.out.cell
                  have HRY2 := Lib.hid (HRY.out.below hp2.below)
                  clear hp2 hs2
                  go_wp2_with fail
                  refine (rframe_own w2 HRY2.out HY8.out (by have := HYL.out; omega)).mono ?_
                  rintro e w3 ⟨A3, c3, rfl, ho3, hb3⟩
                  have HP3b := Lib.hid ((HP2.out.made hb3).mono (U' := fun k => k = bx) (fun _ h => .inl h))
                  have HAP := Lib.hid (pr_append HP3b.out HOK.out A3 (fr yb).length c3 (fr yb) ho3.rd rfl (fun _ e => by have h1 := (ho3.lo gm e).1; have h2 := HP2.out.refLt.1; omega) (by have := HFL.out; omega))
                  clear ho3 hb3 x0 x1 x2
                  go_wp2_with fail
                  refine HAP.out.mono ?_
                  rintro e w4 ⟨rfl, vr4, hp4, _⟩
                  have HP4 := Lib.hid hp4
                  clear hp4
                  generalize hae : S.appE (fr yb) = ae at *
                  have HAE := Lib.hid hae
                  clear hae
                  go_upto_if 159 with (fail)
                  go_cut [17] (fun v wz => v = .int .i64 (wrE S yb) ∧ ∃ vr5, PSv w g gm (wrS S yb) (wrS S yb) (.pointer (some ⟨jb, 0, none⟩)) (fun k => k = bx) vr5 wz)
                  case first =>
                    by_cases ha0 : ae = 0
                    · subst ha0
                      have HE := Lib.hid (show wrE S yb = (S.app (fr yb)).syncE by rw [HLN.out.1, if_pos rfl])
                      have HSS := Lib.hid (show wrS S yb = (S.app (fr yb)).sync by rw [HLN.out.2, if_pos rfl])
                      go_wp2_with fail
                      refine (pr_sync HP4.out HAO.out).mono ?_
                      rintro e w5 ⟨rfl, vr5, hp5, _⟩
                      have HP5 := Lib.hid hp5
                      clear hp5
                      go_wp2
                      go_meet
                      rw [HE.out]
                      refine ⟨rfl, vr5, ?_⟩
                      have := HP5.out
                      rw [← HSS.out] at this
                      exact this
                    · have HE := Lib.hid (show wrE S yb = ae by rw [HLN.out.1, if_neg ha0])
                      have HSS := Lib.hid (show wrS S yb = S.app (fr yb) by rw [HLN.out.2, if_neg ha0])
                      have hb0 : (ae == 0) = false := by simpa using ha0
                      clear ha0
                      go_wp2
                      go_meet
                      rw [HE.out]
                      refine ⟨rfl, vr4, ?_⟩
                      have := HP4.out
                      rw [← HSS.out] at this
                      exact this
                  case rest =>
                    obtain ⟨rfl, vr5, hp5⟩ := hcut
                    rename World => w5
                    have HP5 := Lib.hid hp5
                    clear hp5
                    go_wp2_with fail
                    refine (code_calls (wrE S yb) HWB.out.1 HWB.out.2 w5).mono ?_
                    rintro e wt ⟨rfl, rfl⟩
                    go_wp2
                    go_meet
                    exact ⟨wrS S yb, vr5, HPNT.out, HP5.out.mono (fun _ h => h.elim)⟩
            · as_aux_lemma =>
                have HPNT := Lib.hid (show PN (10 + 4 * ((k + 1 : Nat) : Int)) (5000 + 600 * (k + 1)) (S.cut py) from (HPN.out.cut py HPYR.out.2).mono (by omega) (by omega))
                have hpy : py < 1000000 := by have := HPYR.out.2; omega
                clear hst9
                go_wp2_with fail
                refine (HPY.out _).mono ?_
                rintro e wx' ⟨rfl, rfl⟩
                go_wp2_with fail
                refine (pd_cut HPX.out py hpy).mono ?_
                rintro e w2 ⟨rfl, hp2, hs2⟩
                have HP2 := Lib.hid hp2
                have HXB2 := Lib.hid (HXB.out.stay hs2 rfl)
                clear x0 x1 x2
                obtain ⟨x0, x1, x2⟩ := HXB2.out.cell
                clear hp2 hs2
                go_wp2_with fail
                refine (HPY.out _).mono ?_
                rintro e wx' ⟨rfl, rfl⟩
                go_wp2_with fail
                refine (pr_cut HP2.out py hpy).mono ?_
                rintro e w5 ⟨rfl, vr5, hp5, _⟩
                have HPT := Lib.hid hp5
                clear hp5 hpy
                go_wp2
                go_meet
                exact ⟨S.cut py, vr5, HPNT.out, HPT.out.mono (fun _ h => h.elim)⟩
            · as_aux_lemma =>
                have hp3 : ((px == 3) : Bool) = false := by rw [beq_eq_false_iff_ne]; omega
                have hp0 : ((px == 0) : Bool) = false := by rw [beq_eq_false_iff_ne]; omega
                have hp1 : ((px == 1) : Bool) = false := by rw [beq_eq_false_iff_ne]; omega
                have hp2 : ((px == 2) : Bool) = false := by rw [beq_eq_false_iff_ne]; omega
                have HPC2 := Lib.hid hp
                clear hst9 hp
                go_wp2_with fail
                refine (HPQ.out _).mono ?_
                rintro e wx' ⟨rfl, rfl⟩
                clear hp0 hp1 hp2 hp3
                go_upto_if 104 with (fail)
                go_cut [] (fun wz => ∃ (S0 : DS) (vr3 : Value), PN (10 + 4 * (k : Int)) (5000 + 600 * k) S0 ∧ PSv w g gm S0 S0 u8 (fun k => k = bx) vr3 wz)
                case first =>
                  rcases HPC2.out with rfl | rfl
                  · go_wp2_with fail
                    refine (pd_power HPX.out HOK.out y HY.out).mono ?_
                    rintro e w2 ⟨rfl, hp2, hs2⟩
                    have HP2 := Lib.hid hp2
                    have HXB2 := Lib.hid (HXB.out.stay hs2 rfl)
                    clear x0 x1 x2
                    obtain ⟨x0, x1, x2⟩ := HXB2.out.cell
                    clear hp2 hs2
                    go_wp2_with fail
                    refine (pr_power HP2.out HOK.out y).mono ?_
                    rintro e w3 ⟨rfl, vr3, hp3, _⟩
                    have HP3 := Lib.hid hp3
                    clear hp3
                    go_wp2
                    go_meet
                    exact ⟨S.power y, vr3, HPN.out.power y, HP3.out⟩
                  · go_wp2
                    go_meet
                    exact ⟨S, vr, HPN.out, HPX.out⟩
                case rest =>
                  obtain ⟨S0, vr3, hpn0, hp3⟩ := hcut
                  rename World => w3
                  have HPN0 := Lib.hid hpn0
                  have HP3 := Lib.hid hp3
                  clear hpn0 hp3 x0 x1 x2 HPX HXB HPN HPQ HPY HPYR HOK HRYx HRY
                  have HOK0 := Lib.hid (HPN0.out.ok (by omega) (by omega))
                  have HBD0 := Lib.hid (opE_bd S0)
                  go_wp2_with fail
                  refine (pd_open HP3.out HOK0.out (by have := HPN0.out.s1; omega) HPN0.out.b8 (by have := HPN0.out.bl; omega)).mono ?_
                  rintro e w5 ⟨jp, rows, rfl, hp5, _, hc5⟩
                  have HP5 := Lib.hid hp5
                  have HC5 := Lib.hid hc5
                  have HRL := Lib.hid HP3.out.refLt
                  obtain ⟨AR5, nR5, cR5, rfl⟩ : ∃ A n c, rows = .slice A n c := by
                    rcases hc5 with ⟨_, _, rfl⟩ | ⟨_, _, h⟩
                    · exact ⟨_, _, _, rfl⟩
                    · obtain ⟨A, c, e⟩ := RdRows.len_ h.rows
                      exact ⟨_, _, _, e⟩
                  clear hp5 hc5
                  go_wp2_with fail
                  refine (pr_open HP5.out HOK0.out (by have := HPN0.out.s1; omega) HPN0.out.b8 (by have := HPN0.out.bl; omega)).mono ?_
                  rintro e w6 ⟨rows2, rfl, ⟨vr5, hp6⟩, _, hk6, hc6⟩
                  obtain ⟨L6, hL8, hL1, hL2⟩ := rows_two HPN0.out.b8 HC5.out hk6 HRL.out hc6
                  obtain ⟨AQ6, cQ6, rfl⟩ := RdRows.len_ hL2
                  have HP6 := Lib.hid hp6
                  have HSM := Lib.hid (same_refl _ _ L6 w6 hL1 hL2 hL8)
                  clear hp6 hk6 hc6 hL8 hL1 hL2
                  go_wp2_with fail
                  refine HSM.out.mono ?_
                  rintro e w7 ⟨rfl, hd7⟩
                  have HP7 := Lib.hid (HP6.out.drawn hd7)
                  clear hd7 HP6 HSM HP5
                  have hcase : (opE S0 = 0 ∧ ∃ jb, jp = .pointer (some ⟨jb, 0, none⟩)) ∨ (opE S0 ≠ 0 ∧ jp = .pointer none) := by
                    rcases HC5.out with ⟨a, b, _⟩ | ⟨a, b, _⟩
                    · exact .inr ⟨a, b⟩
                    · exact .inl ⟨a, b⟩
                  have HCS5 := Lib.hid hcase
                  have HPNT := Lib.hid (show PN (10 + 4 * ((k + 1 : Nat) : Int)) (5000 + 600 * (k + 1)) (opS S0) from HPN0.out.op.mono (by omega) (by omega))
                  clear HC5 HRL hcase HP3 HPN0
                  generalize opS S0 = S' at *
                  generalize hE : opE S0 = E5 at *
                  clear hE
                  go_upto_region 30 with fail
                  go_cut [141] (fun v wz => v = .bool false ∧ wz = w7)
                  case first =>
                    go_wp2_with fail
                    refine (code_calls E5 HBD0.out.1 HBD0.out.2 w7).mono ?_
                    rintro e w8 ⟨rfl, rfl⟩
                    rcases HCS5.out with ⟨rfl, jb5, rfl⟩ | ⟨hE0, rfl⟩
                    · rw [show errV 0 = .nilIface from rfl]
                      go_wp2
                      go_meet
                      exact ⟨rfl, rfl⟩
                    · have HEV := Lib.hid (show errV E5 = .iface 45 (.int .i64 E5) from by rw [errV, if_neg hE0])
                      rw [HEV.out]
                      clear hE0
                      go_wp2
                      rw [← HEV.out]
                      go_meet
                      exact ⟨rfl, rfl⟩
                  case rest =>
                    obtain ⟨rfl, rfl⟩ := hcut
                    go_wp2
                    go_meet
                    exact ⟨S', vr5, HPNT.out, HP7.out.mono (fun _ h => h.elim)⟩
          case rest =>
            obtain ⟨S', vr', hpn', hps'⟩ := hcut
            rename World => wt
            have HPN' := Lib.hid hpn'
            have HPS' := Lib.hid hps'
            clear hpn' hps' HPX HXB HPN HPQ HPY HPYR HOK HRYx HPC x0 x1 x2 HRY HYL HY8
            by_cases hoff : S'.off = true
            · as_aux_lemma =>
                obtain ⟨v, hd, hb, ht⟩ := HPS'.out.disk
                have HRD := Lib.hid (read_off _ g v S' wt hd hoff)
                obtain ⟨bud, hbk, _⟩ := HPS'.out.ref.blk
                obtain ⟨c0, c1, c2, c3, c4, c5⟩ := hbk.cell
                rw [hoff] at c2
                have ec := neq_code_
                clear hd hb ht hbk hoff
                go_wp2_with fail
                refine HRD.out.mono ?_
                rintro e w9 ⟨rfl, rfl⟩
                unfold cut12
                go_wp2_with fail
                go_quiet (fail)
                go_wp2
                go_roundw
                case rel => exact ⟨k + 1, S', vr', by go_num, by omega, by omega, HPN'.out, HPS'.out.drawn ⟨⟨_, rfl⟩⟩⟩
                case measure => simp [intOf]; omega
            · as_aux_lemma =>
                have hoff' : S'.off = false := by simpa using hoff
                have HRD := Lib.hid (read_inv HPS'.out.disk hoff' (HPN'.out.ok (by omega) (by omega)))
                have HOF := Lib.hid hoff'
                clear hoff hoff'
                go_wp2_with fail
                refine HRD.out.mono ?_
                rintro e w9 ⟨v9, rfl, hr9, _, hd9, hs9⟩
                have hp9 := (HPS'.out.of_d (hd9.mono (fun _ h => .inl h)) hs9).1
                have HP9 := Lib.hid hp9
                obtain ⟨A9, c9, rfl⟩ := hr9.len
                rw [numv_length] at hr9 ⊢
                obtain ⟨bud, hbk, _⟩ := hp9.ref.blk
                have hro := Rd.of_own hp9.ref.own
                obtain ⟨Av, cv, hvv⟩ := ownSlice hp9.ref.own
                rw [hvv] at hbk hro
                obtain ⟨c0, c1, c2, c3, c4, c5⟩ := hbk.cell
                rw [HOF.out] at c2
                have hs1 : ∀ q, (convert 22 9 (.slice A9 S'.b.length c9)).run Try.prog (w9.drewN q) = .ok (.string (strOfNums S'.b)) (w9.drewN q) := fun q => Rd.str_ (hr9.drewN q)
                have hs2 : ∀ q, (convert 22 9 (.slice Av S'.b.length cv)).run Try.prog (w9.drewN q) = .ok (.string (strOfNums S'.b)) (w9.drewN q) := fun q => Rd.str_ (hro.drewN q)
                have ec := neq_code_
                clear hd9 hs9 hp9 hr9 hro hbk hvv
                generalize S'.b.length = nb at *
                generalize strOfNums S'.b = sb at *
                go_wp2_with fail
                go_quiet (fail)
                go_wp2
                go_roundw
                case rel => exact ⟨k + 1, S', vr', by go_num, by omega, by omega, HPN'.out, HP9.out.drawn ⟨⟨_, rfl⟩⟩⟩
                case measure => simp [intOf]; omega
      · have hor : ((n : Int) ≤ (k : Int)) ∨ ((k : Int) < (n : Int) ∧ (30 : Int) ≤ (k : Int)) := by omega
        clear hin
        rcases hor with h1 | ⟨h1, h2⟩
        · go_wp2
          go_ret
          exact ⟨rfl, HB.out⟩
        · go_wp2
          go_ret
          exact ⟨rfl, HB.out⟩
end Go.Proofs.Ytlgkcpmedjpoaaa.X
