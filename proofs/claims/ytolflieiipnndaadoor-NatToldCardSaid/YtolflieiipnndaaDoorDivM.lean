/- nat.Div where the divisor has two digits or more: the walk. -/
import Derived.Test.YtolflieiipnndaaDoorMg41
import Derived.Test.YtolflieiipnndaaDoorDivR
import Derived.Test.YtolflieiipnndaaDoorDivT
import Derived.Test.YtolflieiipnndaaDoorDigit
import Derived.Deep.RegionHeld3
import Derived.StillTailTactics
import Derived.IntWalk
namespace Go.Proofs.YtolflieiipnndaaDoor.X
open Go.RowKit Go.Proofs.YtolflieiipnndaaDoor Go.Proofs.YtolflieiipnndaaDoorW.PrintWords Go.Proofs.YtolflieiipnndaaDoorW.PrintLast Go.Proofs.YtolflieiipnndaaDoorW.PrintMore Go.Proofs.YtolflieiipnndaaDoor.Num
set_option linter.unusedVariables false
/-- A row of numbers that is made: its block. -/
def MadeN (W0 W : World) (xs : List Int) (m : Nat) (e : Ending) (w' : World) : Prop :=
  ∃ g c, e = .returned (.slice (some ⟨g, 0, none⟩) m c) ∧ m ≤ c ∧ (∃ E, Win w' g [] xs E) ∧ W.heap.size ≤ g ∧ W0.heap.size ≤ g ∧ g < w'.heap.size ∧ Below W0.heap.size W0 w' ∧ Below W.heap.size W w'
theorem V_any {α : Type} {d : Kd α} {e b b' : Nat} {W : World} {ok : Nat → Prop} {v : Value} {xs : List α} (h : Kd.V d e W b ok v xs) : Kd.V d e W b' ok v xs := h
theorem madeN_of_own {W0 W w' : World} {xs : List Int} {m : Nat} {v : Value} (h : w'.ownsRow W.heap.size 40 1 v m (numv .u64 xs)) (hm : 0 < m) (hb0 : Below W0.heap.size W0 W) (hb : Below W.heap.size W w') : MadeN W0 W xs m (.returned v) w' := by
  have hl : xs.length = m := by have := h.1; rwa [numv_length, Nat.mul_one] at this
  rcases h.2 with ⟨_, h0⟩ | ⟨g, cap, cur, rfl, hg, hh, h1, h2, h3, h4⟩
  · omega
  · refine ⟨g, cap, rfl, h1, ⟨cur.toList.drop m, ?_⟩, hg, Nat.le_trans hb0.size hg, blkLt hh, hb0.trans (hb.mono hb0.size), hb⟩
    unfold Win
    rw [Nat.mul_one] at h4
    rw [show numv .u64 [] = [] from rfl, List.nil_append, ← h4, List.take_append_drop]
    simpa using hh
theorem shift_made (A : Option Addr) (c : Nat) (l : List Int) (s : Nat) (W0 W : World) (hr : Rd W (.slice A l.length c) (numv .u64 l)) (hd : D64 l) (hl : l.length ≤ 4096) (hs : s ≤ 63) (hb0 : Below W0.heap.size W0 W) :
    Calls Tryd.prog 23 #[.slice A l.length c, .int .i64 (s : Int)] W (MadeN W0 W (pad 18446744073709551616 (l.length + 1) (v64 l * 2 ^ s)) (l.length + 1)) := by
  obtain ⟨hC, hc, _⟩ := C_of_rd hr
  refine (nat_shift.calls 5001 A c l (s : Int) _ W hC hc (shift_spec l hd hl s hs 5001 (by omega))).mono ?_
  rintro e w' ⟨v, rfl, hR, hb⟩
  have ho := own_of_RN hR
  rw [pad_len] at ho
  exact madeN_of_own ho (by omega) hb0 hb
/-- Both numbers, shifted. -/
def Made2 (W0 : World) (u V : List Int) (m n : Nat) (x y : Value) (wc : World) : Prop :=
  ∃ g cu A cv E, x = .slice (some ⟨g, 0, none⟩) m cu ∧ m ≤ cu ∧ Win wc g [] u E ∧ y = .slice A n cv ∧ Rd wc y (numv .u64 V) ∧ (∀ a, A = some a → a.block ≠ g ∧ a.block < wc.heap.size) ∧ W0.heap.size ≤ g ∧ g < wc.heap.size ∧ Below W0.heap.size W0 wc
theorem made2_mk {W0 wc : World} {u v : List Int} {m n g cu g2 cv : Nat} {E E2 : List Value} (hx : m ≤ cu) (hW : Win wc g [] u E) (hW2 : Win wc g2 [] v E2) (hn : n ≤ v.length) (hv : v.length ≤ cv) (hvm : v.length ≤ 4096) (hne : g2 ≠ g) (h0 : W0.heap.size ≤ g) (hb : Below W0.heap.size W0 wc) :
    Made2 W0 u (v.take n) m n (.slice (some ⟨g, 0, none⟩) m cu) (.slice (some ⟨g2, 0, none⟩) n cv) wc := by
  have h2 : Win wc g2 [] (v.take n) (numv .u64 (v.drop n) ++ E2) := by
    have h := hW2
    unfold Win at *
    rw [← List.append_assoc, ← List.append_assoc, List.append_assoc (numv .u64 []), ← numv_append, List.take_append_drop, List.append_assoc]
    exact h
  have hl : (v.take n).length = n := by rw [List.length_take]; omega
  have hr := h2.rd cv (by omega) (by omega)
  rw [hl] at hr
  exact ⟨g, cu, _, cv, E, rfl, hx, hW, rfl, hr, fun a ha => by injection ha with ha; subst ha; exact ⟨hne, h2.lt⟩, h0, hW.lt, hb⟩
theorem Win.cut {w : World} {g : Nat} {X P U R : List Int} {E : List Value} (h : Win w g [] X E) (hx : X = P ++ (U ++ R)) : Win w g P U (numv .u64 R ++ E) := by
  subst hx
  unfold Win at *
  rw [numv_append, numv_append, List.append_assoc, List.append_assoc] at h
  exact h
theorem Win.join {w : World} {g : Nat} {P U R : List Int} {E : List Value} (h : Win w g P U (numv .u64 R ++ E)) : Win w g [] (P ++ (U ++ R)) E := by
  unfold Win at *
  rw [numv_append, numv_append, List.append_assoc, List.append_assoc]
  exact h
theorem Win.cell0 {w : World} {g : Nat} {U : List Int} {S : List Value} (h : Win w g [] U S) (k : Nat) (hk : k < U.length) : w.cell? ⟨g, k, none⟩ = some (.int .u64 (U.getD k 0)) := by
  have := h.cell k hk
  rwa [List.length_nil, Nat.zero_add] at this
theorem Win.set0 {w : World} {g : Nat} {U : List Int} {S : List Value} (h : Win w g [] U S) (k : Nat) (hk : k < U.length) (v : Int) : Win (w.setCell ⟨g, k, none⟩ (.int .u64 v)) g [] (U.set k v) S := by
  have := h.set k hk v
  rwa [List.length_nil, Nat.zero_add] at this
theorem Win.of_make (W : World) (m : Nat) : Win (W.alloc (.cells (numv .u64 (List.replicate m 0)).toArray 40)) W.heap.size [] (List.replicate m 0) [] := by
  unfold Win
  rw [show numv .u64 [] = [] from rfl, List.nil_append, List.append_nil]
  exact heap_alloc_new W _
theorem val_take_small {X : List Int} (h : Dig 18446744073709551616 X) {n : Nat} (hlt : val 18446744073709551616 X < (18446744073709551616 : Int) ^ n) : val 18446744073709551616 (X.take n) = val 18446744073709551616 X := by
  rcases Nat.lt_or_ge X.length n with hl | hl
  · rw [List.take_of_length_le (by omega)]
  · have sp := val_split 18446744073709551616 X n hl
    have z := val_nonneg (h.drop n)
    have z0 := val_nonneg (h.take n)
    rw [show ((18446744073709551616 : Nat) : Int) = 18446744073709551616 from rfl] at sp
    rcases Int.lt_or_le 0 (val 18446744073709551616 (X.drop n)) with hh | hh
    · exfalso
      have := Int.mul_le_mul_of_nonneg_left (show 1 ≤ val 18446744073709551616 (X.drop n) by omega) (show 0 ≤ (18446744073709551616 : Int) ^ n from Int.le_of_lt (Int.pow_pos (by decide)))
      rw [Int.mul_one] at this
      omega
    · have : val 18446744073709551616 (X.drop n) = 0 := by omega
      rw [this, Int.mul_zero, Int.add_zero] at sp
      exact sp.symm
theorem u64_info3 : (Tryd.prog.info? 40).map (fun i => (i.zero, i.size, i.bytes)) = some (some (.int .u64 0), 1, 8) := by kernel_rfl
/-- make, of so many numbers. -/
theorem run_make64 (W : World) (x : Int) (m : Nat) (hx : x = (m : Int)) (hm : m ≤ 1000000) : (Instr.makeSlice 23 (.int .i64 x) (.int .i64 x)).run Tryd.prog W = .ok (.slice (some ⟨W.heap.size, 0, none⟩) m m) (W.alloc (.cells (numv .u64 (List.replicate m 0)).toArray 40)) := by
  subst hx
  obtain ⟨i, hi, hz, hs, hb⟩ := info_parts u64_info3
  rw [run_make W 23 40 i (.int .u64 0) Tryd.underlying23 hi hz .i64 .i64 (m : Int) (m : Int) (by omega) (Int.le_refl _) (by rw [hb]; omega) (by omega)]
  rw [Int.toNat_natCast, hs, Nat.mul_one]
  refine congrArg (fun x => Result.ok _ (W.alloc (.cells x 40))) ?_
  apply Array.ext_getElem?
  intro j
  simp [madeCells, numv, Value.cells]
  by_cases hj : j < m <;> simp [hj, Nat.mod_one]
def RelM (w3 : World) (g gq la n m cu cv : Nat) (A : Option Addr) (U V : List Int) (E : List Value) (D : Int) (x : Value) (wr : World) : Prop :=
  ∃ (j : Nat) (X Q : List Int), x = .int .i64 ((j : Int) - 1) ∧ LD D j U X Q ∧ X.length = la + 1 ∧ Q.length = m ∧ j ≤ m ∧ Win wr g [] X E ∧ Win wr gq [] Q [] ∧ Rd wr (.slice A n cv) (numv .u64 V) ∧ Below w3.heap.size w3 wr
def RelO (w3 : World) (gq go rl c5 : Nat) (A5 : Option Addr) (Q Rl : List Int) (p q : Int) (x : Value) (wr : World) : Prop :=
  ∃ i : Nat, x = .int .i64 (i : Int) ∧ i ≤ rl ∧ Win wr go [] ((dgl p q Rl).take i ++ List.replicate (rl - i) 0) [] ∧ Rd wr (.slice A5 rl c5) (numv .u64 Rl) ∧ Win wr gq [] Q [] ∧ Below w3.heap.size w3 wr
theorem relO_next {w3 wr W' : World} {gq go rl c5 i : Nat} {A5 : Option Addr} {Q Rl : List Int} {p q v : Int} (hlt : i < rl) (hL : Rl.length = rl) (ho : Win W' go [] (((dgl p q Rl).take i ++ List.replicate (rl - i) 0).set i v) []) (hv : v = (dgl p q Rl).getD i 0)
    (hk : Keeps (fun k => k = go) wr W') (hr : Rd wr (.slice A5 rl c5) (numv .u64 Rl)) (hw : Win wr gq [] Q []) (hb : Below w3.heap.size w3 wr) (hne : go ≠ gq) (hA : ∀ a, A5 = some a → a.block ≠ go) (hgo : w3.heap.size ≤ go) : RelO w3 gq go rl c5 A5 Q Rl p q (.int .i64 ((i + 1 : Nat) : Int)) W' := by
  subst hv
  obtain ⟨m, hm⟩ : ∃ m, rl - i = m + 1 := ⟨rl - i - 1, by omega⟩
  rw [hm, take_zeros_set _ _ _ (by rw [dgl_len]; omega)] at ho
  refine ⟨i + 1, rfl, hlt, ?_, hr.keeps hk ?_, hw.keeps hk (fun e => hne e.symm), hb.trans (hk.below (B := w3.heap.size) hb.size (fun k hk => by omega))⟩
  · rw [show rl - (i + 1) = m from by omega]; exact ho
  · intro k hk e
    cases A5 with
    | none => simp [Value.ownBlock] at hk
    | some a => exact hA a rfl (by simp [Value.ownBlock] at hk; omega)
theorem dgl_word (x y : Int) (s : Nat) (hx : 0 ≤ x ∧ x < 18446744073709551616) (hy : 0 ≤ y ∧ y < 18446744073709551616) (h1 : 1 ≤ s) (hs : s ≤ 63) : bits .or .u64 (x / 2 ^ s) (IntKind.u64.wrap (y * 2 ^ (64 - s))) = x / 2 ^ s + y % 2 ^ s * 2 ^ (64 - s) := by
  obtain ⟨a, rfl⟩ := Int.eq_ofNat_of_zero_le hx.1
  obtain ⟨b, rfl⟩ := Int.eq_ofNat_of_zero_le hy.1
  have ha : a < 18446744073709551616 := by omega
  have hb : b < 18446744073709551616 := by omega
  have pp := pow_split s hs
  have hh : a / 2 ^ s < 2 ^ (64 - s) := Nat.div_lt_of_lt_mul (by rw [pp]; exact ha)
  obtain ⟨g1, _, _⟩ := shift_word (a / 2 ^ s) b (64 - s) (by omega) hh hb
  rw [shl_any _ _ (by omega)] at g1
  have e1 : b * 2 ^ (64 - s) % 18446744073709551616 = b % 2 ^ s * 2 ^ (64 - s) := by rw [← pp, Nat.mul_comm (2 ^ s), Nat.mul_comm b, Nat.mul_mod_mul_left, Nat.mul_comm]
  rw [e1] at g1
  have e2 : IntKind.u64.wrap ((b : Int) * 2 ^ (64 - s)) = ((b % 2 ^ s * 2 ^ (64 - s) : Nat) : Int) := by
    rw [IntKind.wrap_u64, ← e1, Int.natCast_emod, Int.natCast_mul, Int.natCast_pow]; rfl
  rw [e2, show (a : Int) / 2 ^ s = ((a / 2 ^ s : Nat) : Int) from by rw [Int.natCast_ediv, Int.natCast_pow]; rfl, g1, Int.natCast_add, Int.natCast_mul, Int.natCast_emod, Int.natCast_pow, Int.natCast_pow]
  rfl
set_option maxHeartbeats 8000000 in
set_option maxRecDepth 100000 in
/-- By two digits or more, of a number that isn't less. -/
theorem div_many (k : Nat) (P0 P1 : Nat → Prop) (A0 A1 : Option Addr) (c0 c1 la n : Nat) (l0 l1 t0 t1 : List Int) (c : Int) (w : World)
    (hs0 : Kd.V (Kd.int .u64) 40 w w.heap.size P0 (.slice A0 l0.length c0) l0) (hs1 : Kd.V (Kd.int .u64) 40 w w.heap.size P1 (.slice A1 l1.length c1) l1) (h : nat_both.f k l0 l1 = some (t0, t1, none))
    (hc : nat_Cmp.f k t0 t1 = some c) (hc0 : 0 ≤ c) (d0 : D64 t0) (d1 : D64 t1) (h0 : t0.length = la) (h1 : t1.length = n) (hn2 : 2 ≤ n) (hna : n ≤ la) (hla : la ≤ 64) (htop : t1.getD (n - 1) 0 ≠ 0) :
    Calls Tryd.prog 8 #[.slice A0 l0.length c0, .slice A1 l1.length c1] w fun e w' => ∃ v0 v1 : Value, e = .returned (.tuple #[v0, v1, errW none]) ∧ Kd.V (Kd.int .u64) 40 w' w.heap.size (fun k_ => w.heap.size ≤ k_) v0 (digs 18446744073709551616 (v64 t0 / v64 t1)) ∧ Kd.V (Kd.int .u64) 40 w' w.heap.size (fun k_ => w.heap.size ≤ k_) v1 (digs 18446744073709551616 (v64 t0 % v64 t1)) ∧ Below w.heap.size w w' := by
  have HC := Lib.hid (nat_both.calls k P0 A0 c0 l0 P1 A1 c1 l1 t0 t1 none w hs0 hs1 h)
  have HCM := Lib.hid hc
  have HD0 := Lib.hid d0
  have HD1 := Lib.hid d1
  have HL0 := Lib.hid h0
  have HL1 := Lib.hid h1
  have hd : decide (c < 0) = false := by simpa using hc0
  have ht := d64 d1 (n - 1)
  obtain ⟨s, hs, hlead, hs1', hs2'⟩ := lead_bounds (t1.getD (n - 1) 0).toNat (by omega) (by omega)
  rw [Int.toNat_of_nonneg ht.1] at hlead
  have HLEAD := Lib.hid hlead
  have HS1 := Lib.hid hs1'
  have HS2 := Lib.hid hs2'
  have en0 : ((n : Int) == 0) = false := by simp; omega
  have en1 : ((n : Int) == 1) = false := by simp; omega
  have HT := Lib.hid htop
  clear hs0 hs1 h hc d0 d1 h0 h1 hlead hs1' hs2' htop
  have hu := Tryd.underlying27
  have hc := Tryd.underlying41
  go_enter Tryd.func8, Tryd.ntmps8
  go_wp2_with fail
  refine HC.out.mono ?_
  rintro e w2 ⟨v0, v1, rfl, h0, h1, hb⟩
  obtain ⟨A2, c2, rfl⟩ := Kd.V_slice h0
  obtain ⟨A3, c3, rfl⟩ := Kd.V_slice h1
  have HB := Lib.hid hb
  have H0 := Lib.hid h0
  have H1 := Lib.hid h1
  clear HC hb h0 h1
  rw [HL0.out, HL1.out]
  simp only [errW_none]
  go_wp2_with fail
  have hcmp := nat_Cmp.calls k A2 c2 t0 A3 c3 t1 c w2 (V_C H0.out).2.2 (V_C H0.out).2.1 (V_C H1.out).2.2 (V_C H1.out).2.1 HCM.out
  rw [HL0.out, HL1.out] at hcmp
  refine hcmp.mono ?_
  rintro e w3 ⟨rfl, hb3⟩
  have HB3 := Lib.hid (HB.out.trans (hb3.mono HB.out.size))
  have hr0 := rd_of_V (V_below' H0.out hb3)
  have hr1 := rd_of_V (V_below' H1.out hb3)
  rw [HL0.out] at hr0
  rw [HL1.out] at hr1
  obtain ⟨ad, rfl, hcell⟩ := hr1.at_ (n - 1) (by have := HL1.out; omega)
  have HR0 := Lib.hid hr0
  have HR1 := Lib.hid hr1
  have b1 : (0 : Int) ≤ (n : Int) - 1 := by omega
  have b2 : (n : Int) - 1 < (n : Int) := by omega
  have b3 : ((n : Int) - 1).toNat = n - 1 := by omega
  generalize hTop : t1.getD (n - 1) 0 = top at *
  have HTOP := Lib.hid hTop
  clear hTop
  clear hb3 H0 H1 HB hcmp hr0 hr1
  go_upto_region 12 with (first | (go_at_call 22; refine (bits_LeadingZeros64.calls _ _ _ HLEAD.out).mono ?_; rintro e w4 ⟨rfl, ⟨nd, rfl⟩⟩))
  have HSA := Lib.hid (fun (W : World) (h : Below w3.heap.size w3 W) => HL0.out ▸ shift_made A2 c2 t0 s w3 W (HL0.out ▸ HR0.out.below h) HD0.out (by have := HL0.out; omega) hs h)
  have HSB := Lib.hid (fun (W : World) (h : Below w3.heap.size w3 W) => HL1.out ▸ shift_made (some ad) c3 t1 s w3 W (HL1.out ▸ HR1.out.below h) HD1.out (by have := HL1.out; omega) hs h)
  have hB3 : Below w3.heap.size w3 (w3.drewN nd).drew := ((Below.refl _ _).drewN nd).drew
  go_cut [11, 12] (fun x y wc => Made2 w3 (pad 18446744073709551616 (la + 1) (v64 t0 * 2 ^ s)) ((pad 18446744073709551616 (n + 1) (v64 t1 * 2 ^ s)).take n) (la + 1) n x y wc)
  case first =>
    go_region_held3 (fun W => Below w3.heap.size w3 W)
      (first | assumption)
      (first
      | (go_at_call 23; go_fit (HSA.out _ (by assumption)); rintro e wA ⟨gA, cA, rfl, hcA, hWA, hgA, hgA0, hltA, hbA, hbbA⟩)
      | (go_at_call 23; go_fit (HSB.out _ (by assumption)); rintro e wB ⟨gB, cB, rfl, hcB, hWB, hgB, hgB0, hltB, hbB, hbbB⟩; have hn0 : (0 : Int) ≤ (n : Int) := Int.natCast_nonneg _; have hcB1 : (n : Int) ≤ (cB : Int) := (by omega); have hcB2 : n ≤ cB := (by omega)))
    all_goals (go_wp2_with fail; go_meet)
    all_goals
      obtain ⟨EA, hWA⟩ := hWA
      obtain ⟨EB, hWB⟩ := hWB
      have pl := pad_len 18446744073709551616 (n + 1) (v64 t1 * 2 ^ s)
      first
        | exact made2_mk hcA (hWA.below hbbB) hWB (by omega) (by omega) (by omega) (by omega) hgA0 hbB
        | exact made2_mk hcA hWA (hWB.below hbbA) (by omega) (by omega) (by omega) (by omega) hgA0 hbA
  case rest =>
    obtain ⟨g, cu, A, cv, E, rfl, hcu, hW, rfl, hrv, hA, hg0, hglt, hbc⟩ := hcut
    obtain ⟨U, V, eU, eV, lU, lV, dU, dV, vU, vV, hVn, hlt, hv1⟩ := div_setup HD0.out HD1.out HL0.out HL1.out (by omega) hna hs (by rw [HTOP.out]; exact HS1.out) (by rw [HTOP.out]; exact HS2.out)
    rw [show v64 t0 = val 18446744073709551616 t0 from rfl, ← eU] at hW
    rw [show v64 t1 = val 18446744073709551616 t1 from rfl, ← eV] at hrv
    obtain ⟨m, hm⟩ : ∃ m, m = la - n + 1 := ⟨_, rfl⟩
    have hmI : (la : Int) - (n : Int) + 1 = (m : Int) := by omega
    have hmJ : (la : Int) - (n : Int) = (m : Int) - 1 := by omega
    have hmk := fun W => run_make64 W (m : Int) m rfl (by omega)
    have f1 : (0 : Int) ≤ (la : Int) - (n : Int) := by omega
    have f2 : (la : Int) - (n : Int) ≤ 64 := by omega
    have HW := Lib.hid hW
    have HRV := Lib.hid hrv
    have HBC := Lib.hid hbc
    have HLD := Lib.hid (LD.start (val 18446744073709551616 V) U m m dU (by rw [hm]; exact hlt) (Nat.le_refl _))
    have HA := Lib.hid hA
    have HVN := Lib.hid hVn
    have HDV := Lib.hid dV
    have HLV := Lib.hid lV
    have HLU := Lib.hid lU
    have HVU := Lib.hid vU
    have HVV := Lib.hid vV
    have HV1 := Lib.hid hv1
    have HM := Lib.hid hm
    have hg3 : w3.heap.size ≤ wc.heap.size := by omega
    clear hmI hW hrv hbc hA hVn dV lV lU vU vV hv1 eU eV hm hlt dU HSA HSB hB3 HLEAD HS1 HS2 HR0 HR1
    rename World => wc
    go_wp2
    have HG := Lib.hid (show wc.heap.size ≠ g by omega)
    go_loopw [15] (fun x wr => RelM w3 g wc.heap.size la n m cu cv A U V E (val 18446744073709551616 V) x wr) (fun x _ => (intOf x + 1).toNat)
    case atStart => exact ⟨m, U, List.replicate m 0, rfl, HLD.out, HLU.out, by simp, Nat.le_refl _, HW.out.below ((Below.refl _ _).alloc (Nat.le_refl _) _), Win.of_make wc m, HRV.out.below ((Below.refl _ _).alloc (Nat.le_refl _) _), HBC.out.alloc hg3 _⟩
    case round =>
      obtain ⟨j, X, Q, rfl, hld, hX, hQ, hj, hw1, hw2, hr1, hb1⟩ := hrel
      rcases Nat.eq_zero_or_pos j with hj0 | hj0
      · subst hj0
        obtain ⟨vq, vx⟩ := hld.quot
        have hRl : val 18446744073709551616 (X.take n) = val 18446744073709551616 X := val_take_small hld.dX (by rw [vx]; exact Int.lt_trans (Int.emod_lt_of_pos _ (by have := HV1.out; rw [HVV.out]; exact Int.mul_pos this (Int.pow_pos (by decide)))) HVN.out)
        have hXn : (X.take n).length = n := by rw [List.length_take]; omega
        have htr := trim_spec (X.take n) (hld.dX.take n) (by omega) 100 (by omega)
        rw [hRl] at htr
        have hwx := (hw1.cut (P := []) (U := X.take n) (R := X.drop n) (by simp)).rd cu (by omega) (by omega)
        rw [hXn, List.length_nil] at hwx
        have hrl : (digs 18446744073709551616 (val 18446744073709551616 X)).length ≤ n := (digs_len (by decide) n _ (val_nonneg hld.dX)).2 (by rw [← hRl]; have := val_lt (hld.dX.take n); rwa [hXn] at this)
        have hdR := digs_dig (B := 18446744073709551616) (by decide) (val 18446744073709551616 X)
        have hvR := val_digs (B := 18446744073709551616) (by decide) (val 18446744073709551616 X) (val_nonneg hld.dX)
        generalize digs 18446744073709551616 (val 18446744073709551616 X) = Rl at *
        obtain ⟨rl, hrl2⟩ : ∃ rl, Rl.length = rl := ⟨_, rfl⟩
        have i1 : (0 : Int) ≤ (n : Int) := by omega
        have i2 : (n : Int) ≤ (cu : Int) := by omega
        have i3 : n ≤ cu := by omega
        have htc := nat_trim.calls 100 (fun k => w3.heap.size ≤ k) (some ⟨g, 0, none⟩) cu (X.take n) Rl wr (by rw [hXn]; exact V_of_rd hwx (fun b hb => by simp [Value.ownBlock] at hb; omega)) htr
        rw [hXn] at htc
        have HTC := Lib.hid htc
        have HW2 := Lib.hid hw2
        have HB1 := Lib.hid hb1
        have HVQ := Lib.hid vq
        have HVX := Lib.hid vx
        have HDR := Lib.hid hdR
        have HVR := Lib.hid hvR
        have HRL := Lib.hid hrl2
        have HDQ := Lib.hid hld.dQ
        have hrl' : rl ≤ n := by omega
        clear htc hw1 hw2 hb1 vq vx hdR hvR hrl2 hld hRl htr hwx hr1 hXn hrl
        have hmk := fun W => run_make64 W (rl : Int) rl rfl (by omega)
        go_wp2_with fail
        refine HTC.out.mono ?_
        rintro e w5 ⟨v5, rfl, h5, hb5⟩
        obtain ⟨A5, c5, rfl⟩ := Kd.V_slice h5
        rw [HRL.out] at h5
        have HR5 := Lib.hid (rd_of_V h5)
        rw [HRL.out]
        clear h5
        have hw5 := HW2.out.below hb5
        have HGO := Lib.hid (show w5.heap.size ≠ wc.heap.size from fun e => by have := hw5.lt; omega)
        have hb35 := HB1.out.trans (hb5.mono HB1.out.size)
        have HW25 := Lib.hid hw5
        have HB35 := Lib.hid hb35
        clear hw5 hb35 hb5 HTC HW2 HB1
        go_wp2
        go_loopw [109] (fun x wr => RelO w3 wc.heap.size w5.heap.size rl c5 A5 Q Rl (2 ^ s) (2 ^ (64 - s)) x wr) (fun x _ => rl - (intOf x).toNat)
        case atStart => exact ⟨0, rfl, Nat.zero_le _, by simpa using Win.of_make w5 rl, HR5.out.below ((Below.refl _ _).alloc (Nat.le_refl _) _), HW25.out.below ((Below.refl _ _).alloc (Nat.le_refl _) _), HB35.out.alloc HB35.out.size _⟩
        case round =>
          obtain ⟨i, rfl, hi, ho1, hr1, hw1, hb1⟩ := hrel
          by_cases hlt : i < rl
          · obtain ⟨ad5, e5, hc5⟩ := hr1.at_ i (by have := HRL.out; omega)
            subst e5
            have hx := d64 HDR.out i
            have hol : ((dgl (2 ^ s) (2 ^ (64 - s)) Rl).take i ++ List.replicate (rl - i) 0).length = rl := by rw [List.length_append, List.length_take, dgl_len, List.length_replicate, HRL.out]; omega
            have co := ho1.cell0 i (by omega)
            have fo := ho1.free i
            have j1 : (i : Int) < (rl : Int) := by omega
            have j2 : (0 : Int) ≤ (i : Int) := by omega
            have j3 : ((i : Int)).toNat = i := by omega
            have j4 : (0 : Int) ≤ (s : Int) := by omega
            have HOL := Lib.hid hol
            have HO1 := Lib.hid ho1
            have HR1' := Lib.hid hr1
            have HW1 := Lib.hid hw1
            have HB1 := Lib.hid hb1
            clear ho1 hr1 hw1 hb1 hol
            generalize hxd : Rl.getD i 0 = x at *
            have HAD := Lib.hid (show ∀ a, some ad5 = some a → a.block ≠ w5.heap.size from fun a ha => by
              injection ha with ha
              subst ha
              obtain ⟨A', c', he, _, _, h4⟩ := HR5.out
              obtain ⟨ad', hA', hb', _⟩ := h4 (by rw [numv_length]; have := HRL.out; omega)
              injection he with he
              rw [hA'] at he
              injection he with he
              subst he
              omega)
            have HVAL := Lib.hid (dgl_at (2 ^ s) (2 ^ (64 - s)) Rl i (by have := HRL.out; omega))
            have HX := Lib.hid (show Rl.getD i 0 = x from hxd)
            rw [HX.out] at HVAL
            clear hxd
            have hg35 := HB35.out.size
            have HST := fun v => HO1.out.set0 i (by have := HOL.out; omega) v
            have HKS : ∀ v, Keeps (fun k => k = w5.heap.size) wr (wr.setCell ⟨w5.heap.size, i, none⟩ v) := fun v => (Keeps.refl _ _).setCell _ _ (fun _ => rfl)
            have HST := Lib.hid HST
            have HKS := Lib.hid HKS
            by_cases hs0 : s = 0
            · subst hs0
              have hs1 : decide ((0 : Int) < ((0 : Nat) : Int)) = false := by decide
              go_wp2
              go_round
              case rel => exact relO_next hlt HRL.out (HST.out _) (by rw [HVAL.out]; simp) (HKS.out _) HR1'.out HW1.out HB1.out HGO.out HAD.out hg35
              case measure => simp [intOf]; omega
            · have hs1 : decide ((0 : Int) < (s : Int)) = true := by simp; omega
              by_cases hl2 : i + 1 < rl
              · have hl2b : decide ((i : Int) + 1 < (rl : Int)) = true := by simp; omega
                obtain ⟨ad6, e6, hc6⟩ := HR1'.out.at_ (i + 1) (by have := HRL.out; omega)
                injection e6 with e6
                subst e6
                have hy := d64 HDR.out (i + 1)
                rw [add_pos _ _ (Nat.succ_pos i)] at hc6
                have hw2 := HST.out (x / 2 ^ s)
                have hq1 := hw2.cell0 i (by rw [List.length_set]; have := HOL.out; omega)
                rw [getD_set _ _ _ (by have := HOL.out; omega)] at hq1
                have hq2 := (HKS.out (.int .u64 (x / 2 ^ s))).cell hc6 (HAD.out ad5 rfl)
                have hq3 := hw2.free i
                have Q1 := Lib.hid hq1
                have Q2 := Lib.hid hq2
                have Q3 := Lib.hid hq3
                have HW2 := Lib.hid (fun v => hw2.set0 i (by rw [List.length_set]; have := HOL.out; omega) v)
                clear hq1 hq2 hq3 hc6 hw2
                go_wp2
                generalize Rl.getD (i + 1) 0 = y at *
                have HDW := Lib.hid (dgl_word x y s hx hy (by omega) hs)
                have hq1 := Q1.out
                have hq2 := Q2.out
                have hq3 := Q3.out
                have HKQ := Lib.hid (HKS.out (.int .u64 (x / 2 ^ s)))
                clear Q1 Q2 Q3
                generalize wr.setCell ⟨w5.heap.size, i, none⟩ (.int .u64 (x / 2 ^ s)) = wq at *
                have k1 : (i : Int) + 1 < (rl : Int) := by omega
                have k2 : (0 : Int) ≤ (i : Int) + 1 := by omega
                have k3 : ((i : Int) + 1).toNat = i + 1 := by omega
                have k4 : IntKind.i64.wrap ((i : Int) + 1) = (i : Int) + 1 := IntWalk.i64_in _ (by omega)
                have k5 : IntKind.i64.wrap (64 - (s : Int)) = 64 - (s : Int) := IntWalk.i64_in _ (by omega)
                have k6 : (0 : Int) ≤ 64 - (s : Int) := by omega
                have k7 : (64 - (s : Int)).toNat = 64 - s := by omega
                go_region
                go_wp2
                go_round
                case rel =>
                  refine relO_next (v := bits .or .u64 (x / 2 ^ s) (IntKind.u64.wrap (y * 2 ^ (64 - s)))) hlt HRL.out ?_ (by rw [HDW.out, HVAL.out]) ((HKQ.out.setCell _ _ (fun _ => rfl)).drew) HR1'.out HW1.out HB1.out HGO.out HAD.out hg35
                  have := HW2.out (bits .or .u64 (x / 2 ^ s) (IntKind.u64.wrap (y * 2 ^ (64 - s))))
                  rw [List.set_set] at this
                  exact this
                case measure => simp [intOf]; omega
              · have hl2b : decide ((i : Int) + 1 < (rl : Int)) = false := by simp; omega
                have HY := Lib.hid (show Rl.getD (i + 1) 0 = 0 from by rw [List.getD_eq_getElem?_getD, List.getElem?_eq_none (by have := HRL.out; omega)]; rfl)
                rw [HY.out] at HVAL
                go_wp2
                go_round
                case rel => exact relO_next hlt HRL.out (HST.out _) (by rw [HVAL.out]; simp) (HKS.out _) HR1'.out HW1.out HB1.out HGO.out HAD.out hg35
                case measure => simp [intOf]; omega
          · have hie : i = rl := by omega
            subst hie
            rw [Nat.sub_self, List.replicate_zero, List.append_nil, List.take_of_length_le (by rw [dgl_len]; have := HRL.out; omega)] at ho1
            have hp : (0 : Int) < 2 ^ s := Int.pow_pos (by decide)
            have hpq : (2 : Int) ^ s * 2 ^ (64 - s) = 18446744073709551616 := by rw [← Int.pow_add, show s + (64 - s) = 64 from by omega]; rfl
            have hdL := dgl_dig hp hpq (Int.pow_pos (by decide)) HDR.out
            have hvL := dgl_div hp hpq Rl
            have hlL := dgl_len (2 ^ s) (2 ^ (64 - s)) Rl
            have hq2 : val 18446744073709551616 Q = v64 t0 / v64 t1 := by
              rw [HVQ.out, HVU.out, HVV.out]
              exact Int.mul_ediv_mul_of_pos_left _ _ hp
            have hx2 : val 18446744073709551616 (dgl (2 ^ s) (2 ^ (64 - s)) Rl) = v64 t0 % v64 t1 := by
              rw [hvL, HVR.out, HVX.out, HVU.out, HVV.out, Int.mul_comm (val 18446744073709551616 t0), Int.mul_comm (val 18446744073709551616 t1), Int.mul_emod_mul_of_pos _ _ hp, Int.mul_ediv_cancel_left _ (by omega)]
            have ht1 := trim_spec Q HDQ.out (by omega) 100 (by have := HM.out; omega)
            have ht2 := trim_spec _ hdL (by rw [hlL, HRL.out]; omega) 100 (by rw [hlL, HRL.out]; omega)
            rw [hq2] at ht1
            rw [hx2] at ht2
            generalize dgl (2 ^ s) (2 ^ (64 - s)) Rl = L at *
            have hrq := hw1.rd m (by omega) (by omega)
            have hro := ho1.rd i (by rw [hlL, HRL.out]; omega) (by rw [hlL, HRL.out]; omega)
            rw [hQ] at hrq
            rw [hlL, HRL.out] at hro
            have hc1 := nat_trim.calls 100 (fun k => w3.heap.size ≤ k) (some ⟨wc.heap.size, 0, none⟩) m Q _ wr (by rw [hQ]; exact V_of_rd hrq (fun b hb => by simp [Value.ownBlock] at hb; omega)) ht1
            rw [hQ] at hc1
            have hg35 := HB35.out.size
            have hll : L.length = i := by rw [hlL, HRL.out]
            have hc2 := fun (W : World) (hW : Below wr.heap.size wr W) => nat_trim.calls 100 (fun k => w3.heap.size ≤ k) (some ⟨w5.heap.size, 0, none⟩) i L _ W (by rw [hll]; exact V_of_rd (hro.below hW) (fun b hb => by simp [Value.ownBlock] at hb; omega)) ht2
            rw [hll] at hc2
            have HC1 := Lib.hid hc1
            have HC2 := Lib.hid hc2
            have HB1 := Lib.hid hb1
            clear hc1 hc2 hb1 hrq hro ht1 ht2 hq2 hx2 hdL hvL hlL hr1 hw1 ho1 hll hp hpq
            go_wp2_with fail
            refine HC1.out.mono ?_
            rintro e w8 ⟨v8, rfl, h8, hb8⟩
            have HC2' := Lib.hid (HC2.out w8 hb8)
            have H8 := Lib.hid h8
            have HB8 := Lib.hid (HB1.out.trans (hb8.mono HB1.out.size))
            clear h8 hb8
            go_wp2_with fail
            refine HC2'.out.mono ?_
            rintro e w9 ⟨v9, rfl, h9, hb9⟩
            have H9 := Lib.hid h9
            have H89 := Lib.hid (V_below' (V_any (b' := 0) H8.out) hb9)
            have HB9 := Lib.hid (HB8.out.trans (hb9.mono HB8.out.size))
            clear h9 hb9
            go_wp2
            go_ret3
            refine ⟨v8, v9, rfl, V_any (Kd.V_mono H89.out ?_), V_any (Kd.V_mono H9.out ?_), HB3.out.trans (HB9.out.mono HB3.out.size)⟩
            · rintro k (hk | hk)
              · exact Nat.le_trans HB3.out.size hk
              · exact Nat.le_trans (HB3.out.trans (HB1.out.mono HB3.out.size)).size hk
            · rintro k (hk | hk)
              · exact Nat.le_trans HB3.out.size hk
              · exact Nat.le_trans (HB3.out.trans (HB8.out.mono HB3.out.size)).size hk
      · obtain ⟨i, rfl⟩ : ∃ i, j = i + 1 := ⟨j - 1, by omega⟩
        rw [show ((i + 1 : Nat) : Int) - 1 = (i : Int) from by omega]
        have hil : i + (n + 1) ≤ X.length := by have := HM.out; omega
        obtain ⟨q1, q2, q3, q4, q5, q6, q7⟩ := hld.window HVN.out hil
        obtain ⟨q8, q9⟩ := hld.round HVN.out hil (by omega)
        have hPl : (X.take i).length = i := by rw [List.length_take]; omega
        have hdg := digit_calls g (cu - i) cv i n (X.take i) (win X i n) V (numv .u64 (X.drop (i + (n + 1))) ++ E) A wr (hw1.cut q5) hPl HLV.out q2 (by omega) (by omega) hr1 hn2 q3 HDV.out q1 (fun a ha => (HA.out a ha).1)
        have i1 : (0 : Int) ≤ (i : Int) := by omega
        have i2 : (i : Int) ≤ (i : Int) + (n : Int) + 1 := by omega
        have i3 : (i : Int) + (n : Int) + 1 ≤ (cu : Int) := by have := HM.out; omega
        have i4 : (i : Int) ≤ 64 := by omega
        have i5 : ((i : Int) + (n : Int) + 1).toNat = i + n + 1 := by omega
        have HDG := Lib.hid hdg
        have HW1 := Lib.hid hw1
        have HW2 := Lib.hid hw2
        have HQ9 := Lib.hid q9
        have HR1' := Lib.hid hr1
        have HB1 := Lib.hid hb1
        clear hdg hw1 hw2 q9 q1 q2 q3 q5 q6 q7 hr1 hb1 hld hil
        go_wp2_with fail
        rw [show i + n + 1 - i = n + 1 from by omega]
        refine HDG.out.mono ?_
        rintro e w5 ⟨rfl, hwin, hk5⟩
        have hw25 := HW2.out.keeps hk5 HG.out
        have cq := hw25.cell0 i (by omega)
        have fq := hw25.free i
        have hw15 := hwin.join
        have hr5 := HR1'.out.keeps hk5 (fun k hk e => by
          cases A with
          | none => simp [Value.ownBlock] at hk
          | some a => exact (HA.out a rfl).1 (by simp [Value.ownBlock] at hk; omega))
        have hb5 := HB1.out.trans (hk5.below (B := w3.heap.size) HB1.out.size (fun k hk => by omega))
        have im : (i : Int) < (m : Int) := by omega
        have it : ((i : Int)).toNat = i := by omega
        generalize val 18446744073709551616 (win X i n) / val 18446744073709551616 V = qd at *
        have HW25 := Lib.hid hw25
        have HW15 := Lib.hid hw15
        have HR5 := Lib.hid hr5
        have HB5 := Lib.hid hb5
        clear hw25 hw15 hr5 hb5 hwin hk5 HW1 HW2 HR1' HB1 HDG
        go_wp2
        go_round
        case rel =>
          have kq : Keeps (fun k => k = wc.heap.size) w5 (w5.setCell ⟨wc.heap.size, i, none⟩ (.int .u64 qd)) := (Keeps.refl _ _).setCell _ _ (fun _ => rfl)
          refine ⟨i, _, Q.set i qd, rfl, HQ9.out, ?_, by rw [List.length_set]; exact hQ, by omega, HW15.out.keeps kq (fun e => HG.out e.symm), HW25.out.set0 i (by omega) _, HR5.out.keeps kq ?_, ?_⟩
          · rw [HQ9.out.len]; exact HLU.out
          · intro k hk e
            cases A with
            | none => simp [Value.ownBlock] at hk
            | some a => have := (HA.out a rfl).2; simp [Value.ownBlock] at hk; omega
          · exact HB5.out.trans (kq.below (B := w3.heap.size) HB5.out.size (fun k hk => by omega))
        case measure => simp [intOf]
end Go.Proofs.YtolflieiipnndaaDoor.X
