/- The law DiskLasts: its walk. -/
import Derived.Test.YtimdbnhgoekflaaUp12
import Derived.Test.YtimdbnhgoekflaaOpen
namespace Go.Proofs.Ytimdbnhgoekflaa
open Go.RowKit
set_option linter.unusedVariables false

def pickF (c n : Int) : Int := if c < 0 then -(c + 1).tmod n else c % n
theorem pickF_range (c n : Int) (hn : 1 ≤ n) : 0 ≤ pickF c n ∧ pickF c n < n := by
  unfold pickF
  split
  · rw [← Int.neg_tmod, Int.tmod_eq_emod_of_nonneg (by omega)]
    exact ⟨Int.emod_nonneg _ (by omega), Int.emod_lt_of_pos _ (by omega)⟩
  · exact ⟨Int.emod_nonneg _ (by omega), Int.emod_lt_of_pos _ (by omega)⟩
theorem ret_int {k : IntKind} {a b : Int} (h : a = b) : Ending.returned (.int k a) = .returned (.int k b) := by rw [h]
theorem pick_calls (c n : Int) (hc : -9223372036854775808 ≤ c ∧ c ≤ 9223372036854775807) (hn : 1 ≤ n ∧ n ≤ 1000000) (w : World) :
    Calls Try.prog 9 #[.int .i64 c, .int .i64 n] w fun e w' => e = .returned (.int .i64 (pickF c n)) ∧ w = w' := by
  by_cases h : c < 0
  · have hz : (n == 0) = false := by simp; omega
    have he := Lib.hid (show pickF c n = -(c + 1).tmod n from if_pos h)
    go_enter Try.func9, Try.ntmps9
    go_wp2
    go_ret
    exact ⟨ret_int he.out.symm, rfl⟩
  · have h0 : 0 ≤ c := by omega
    have hz : (n == 0) = false := by simp; omega
    have he := Lib.hid (show pickF c n = c % n from if_neg h)
    go_enter Try.func9, Try.ntmps9
    go_wp2
    go_ret
    exact ⟨ret_int he.out.symm, rfl⟩

theorem RdRows.at_ {w : World} {A : Option Addr} {n c : Nat} {ls : List (List Int)} (h : RdRows .u8 w (.slice A n c) ls) (j : Nat) (hj : j < n) :
    ∃ ad Aj cj, A = some ad ∧ w.cell? (ad.add j) = some (.slice Aj (ls.getD j []).length cj) ∧ Rd w (.slice Aj (ls.getD j []).length cj) (nums .u8 (ls.getD j [])) ∧ j < ls.length := by
  obtain ⟨vs, h1, h2, h3⟩ := h
  obtain ⟨A', c', he, _, _, hc⟩ := h2
  injection he with e1 e2 e3
  subst e1
  have hj' : j < ls.length := by omega
  obtain ⟨u, hu, hr⟩ := h3 j hj'
  obtain ⟨ad, rfl, _, hcell⟩ := hc (by omega)
  obtain ⟨Aj, cj, hv⟩ := hr.len
  rw [nums_length] at hv
  subst hv
  exact ⟨ad, Aj, cj, rfl, hcell j _ hu, hr, hj'⟩

/-- What holds at the head of round k of the first loop. -/
def LInv (n0 : Nat) (k : Nat) (S : DS) : Prop :=
  (0 ≤ S.steps ∧ S.steps ≤ 2 + 2 * k) ∧ (1 ≤ S.left ∧ S.left ≤ 20) ∧ S.b.length ≤ 10000 + 1000 * k ∧ (n0 : Int) ≤ S.synced ∧ S.synced ≤ S.b.length
theorem LInv.ok {n0 k : Nat} {S : DS} (h : LInv n0 k S) (hk : k ≤ 30) : S.ok := by
  obtain ⟨h1, h2, h3, h4, h5⟩ := h
  refine ⟨⟨by omega, by omega⟩, ⟨by omega, by omega⟩, by omega, by omega, by omega⟩
theorem LInv.step {n0 k : Nat} {S : DS} (h : LInv n0 k S) (hf : S.off = false) : (0 ≤ S.step.steps ∧ S.step.steps = S.steps + 1) ∧ (1 ≤ S.step.left ∧ S.step.left ≤ 20) ∧ S.step.b = S.b ∧ S.step.synced = S.synced ∧ (S.step.off = true ∨ S.step.left = S.left - 1) := by
  obtain ⟨h1, h2, h3, h4, h5⟩ := h
  refine ⟨?_, ?_, step_b S, step_synced S, ?_⟩
  · rw [step_steps]; omega
  · unfold DS.step
    rw [if_neg (by omega)]
    split
    · exact h2
    · simp only; omega
  · unfold DS.step
    rw [if_neg (by omega)]
    split
    · exact .inl rfl
    · exact .inr rfl
theorem LInv.app {n0 k : Nat} {S : DS} (h : LInv n0 k S) (hf : S.off = false) (hk : k < 30) {ys : List Int} (hy : ys.length ≤ 1000) : S.app ys = ⟨S.b ++ ys, S.synced, S.step.off, S.steps + 1, S.step.left⟩ := by
  obtain ⟨h1, h2, h3, h4, h5⟩ := h
  rw [DS.app, if_neg (by simp [hf]), if_neg (by omega), ← step_steps S, ← step_synced S]
theorem DS.ok_mk {b : List Int} {sy st le : Int} {f : Bool} (h1 : 0 ≤ st) (h2 : st < 1000000000) (h3 : 0 ≤ le) (h4 : le < 1000000000) (h5 : b.length ≤ 67108864) (h6 : 0 ≤ sy) (h7 : sy ≤ b.length) : DS.ok ⟨b, sy, f, st, le⟩ := by
  simp only [DS.ok]
  exact ⟨⟨h1, h2⟩, ⟨h3, h4⟩, h5, h6, h7⟩
theorem LInv.mk_ {n0 k : Nat} {b : List Int} {sy st le : Int} {f : Bool} (h1 : 0 ≤ st) (h2 : st ≤ 2 + 2 * k) (h3 : 1 ≤ le) (h4 : le ≤ 20) (h5 : b.length ≤ 10000 + 1000 * k) (h6 : (n0 : Int) ≤ sy) (h7 : sy ≤ b.length) : LInv n0 k ⟨b, sy, f, st, le⟩ := by
  simp only [LInv]
  exact ⟨⟨h1, h2⟩, ⟨h3, h4⟩, h5, h6, h7⟩
theorem LInv.app_ok {n0 k : Nat} {S : DS} (h : LInv n0 k S) (hf : S.off = false) (hk : k < 30) {ys : List Int} (hy : ys.length ≤ 1000) : (S.app ys).ok := by
  rw [h.app hf hk hy]
  obtain ⟨g1, g2, g3, g4, g5⟩ := h.step hf
  obtain ⟨h1, h2, h3, h4, h5⟩ := h
  have hl : (S.b ++ ys).length ≤ 10000 + 1000 * (k + 1) := by rw [List.length_append]; omega
  have hl2 : S.b.length ≤ (S.b ++ ys).length := by rw [List.length_append]; omega
  have hl3 : (S.b ++ ys).length ≤ 67108864 := Nat.le_trans hl (Nat.le_trans (Nat.add_le_add_left (Nat.mul_le_mul_left _ (show k + 1 ≤ 30 by omega)) _) (by decide))
  exact DS.ok_mk (by omega) (by omega) (by omega) (by omega) hl3 (by omega) (by omega)
/-- What a round does to the disk. -/
def Rnd (S : DS) (ys : List Int) (k : Nat) : DS := if k % 3 = 1 then (S.app ys).sync else S.app ys
theorem sync_b (S : DS) : S.sync.b = S.b := by
  unfold DS.sync
  split
  · rfl
  · split
    · exact step_b S
    · exact step_b S
theorem LInv.sync {n0 k : Nat} {S : DS} (h : LInv n0 k S) (hs : S.steps + 1 ≤ 2 + 2 * k) : LInv n0 k S.sync := by
  by_cases hf : S.off = true
  · rw [DS.sync, if_pos hf]; exact h
  · have hf2 : S.off = false := by simpa using hf
    obtain ⟨g1, g2, g3, g4, g5⟩ := h.step hf2
    obtain ⟨h1, h2, h3, h4, h5⟩ := h
    rw [DS.sync, if_neg hf]
    have e : S.step = ⟨S.b, S.synced, S.step.off, S.steps + 1, S.step.left⟩ := by
      rw [← step_steps S, ← step_synced S, ← step_b S]
    rw [e]
    split
    · exact LInv.mk_ (by simp only; omega) (by simp only; omega) (by simp only; omega) (by simp only; omega) h3 (by omega) (by simp only; omega)
    · exact LInv.mk_ (by omega) (by omega) (by omega) (by omega) (by omega) (by omega) (by omega)
theorem LInv.rnd {n0 k : Nat} {S : DS} (h : LInv n0 k S) (hf : S.off = false) (hk : k < 30) {ys : List Int} (hy : ys.length ≤ 1000) : LInv n0 (k + 1) (Rnd S ys k) ∧ (Rnd S ys k).b = S.b ++ ys := by
  have ha := h.app hf hk hy
  obtain ⟨g1, g2, g3, g4, g5⟩ := h.step hf
  have h0 := h
  obtain ⟨h1, h2, h3, h4, h5⟩ := h
  have hb : (S.app ys).b = S.b ++ ys := by rw [ha]
  have hl : (S.b ++ ys).length ≤ 10000 + 1000 * (k + 1) := by rw [List.length_append]; omega
  have hl2 : S.b.length ≤ (S.b ++ ys).length := by rw [List.length_append]; omega
  have h6 : LInv n0 (k + 1) (S.app ys) := by
    rw [ha]
    exact LInv.mk_ (by omega) (by omega) (by omega) (by omega) (by omega) (by omega) (by omega)
  have h7 : (S.app ys).steps = S.steps + 1 := by rw [ha]
  unfold Rnd
  split
  · exact ⟨h6.sync (by omega), (sync_b _).trans hb⟩
  · exact ⟨h6, hb⟩

theorem row_lt {w : World} {ad : Addr} {n c k : Nat} {ls : List (List Int)} (h : RdRows .u8 w (.slice (some ad) n c) ls) (hk : k < n) : ad.block < w.heap.size := by
  obtain ⟨ad', Aj, cj, e, hc, _⟩ := h.at_ k hk
  injection e with e
  subst e
  have := World.block_lt_of_cell? w _ hc
  rwa [add_blk] at this
/-- The bytes that were said go on; the disk stands beside them. -/
theorem said_move {w : World} {B g : Nat} {S : DS} {T : Nat → Prop} {wr w' : World} {v' : Value} {row : Option Nat} {n : Nat} {xs : List Value} {e : TypeId} (h : DInv w B g S T wr) (hg : wr.grownBy w' row) (hat : v'.ownBlock = row ∨ v'.ownBlock = some wr.heap.size)
    (hB : ∀ k, row = some k → B ≤ k) (ho : w'.ownsRow B e 1 v' n xs) (hT : ∀ k, row = some k → T k) : DInv w B g S (fun j => v'.ownBlock = some j) w' := by
  refine h.move (Keeps.of_grown hg) (fun k hk => hT k hk.symm) (fun k hk => ⟨?_, (own_lo ho k hk).2⟩) (fun k hk => hB k hk.symm)
  rcases hat with e | e
  · exact .inl (hT k (e.symm.trans hk))
  · rw [e] at hk
    injection hk with hk
    exact .inr (by omega)

/-- What was there ahead of a disk is none of it. -/
theorem rd_ne {w : World} {v : Value} {ys : List Int} (h : Rd w v (nums .u8 ys)) {g h1 : Nat} (hg : w.heap.size ≤ g ∧ g < h1) : 0 < ys.length → v.ownBlock ≠ some g := by
  intro h0
  obtain ⟨A, c, rfl, _, _, hc⟩ := h
  obtain ⟨ad, rfl, hlt, _⟩ := hc (by rwa [nums_length])
  intro e
  simp [Value.ownBlock] at e
  omega

theorem RdRows.below {w w' : World} {v : Value} {ls : List (List Int)} (h : RdRows .u8 w v ls) (hb : Below w.heap.size w w') : RdRows .u8 w' v ls := by
  obtain ⟨vs, h1, h2, h3⟩ := h
  refine ⟨vs, h1, h2.below hb, fun j hj => ?_⟩
  obtain ⟨u, hu, hr⟩ := h3 j hj
  exact ⟨u, hu, hr.below hb⟩

/-- What holds at the head of round j of the second loop. -/
def LInv2 (n0 : Nat) (j : Nat) (S : DS) : Prop :=
  (0 ≤ S.steps ∧ S.steps ≤ 100 + j) ∧ (1 ≤ S.left ∧ S.left ≤ 20) ∧ S.b.length ≤ 40000 ∧ (n0 : Int) ≤ S.synced ∧ S.synced ≤ S.b.length ∧ (S.off = true ∨ S.left + j ≤ 20)
theorem LInv.two {n0 k : Nat} {S : DS} (h : LInv n0 k S) (hk : k ≤ 30) : LInv2 n0 0 S := by
  obtain ⟨h1, h2, h3, h4, h5⟩ := h
  refine ⟨⟨h1.1, by omega⟩, h2, by omega, h4, h5, .inr (by omega)⟩
theorem LInv2.ok {n0 j : Nat} {S : DS} (h : LInv2 n0 j S) (hj : j ≤ 25) : S.ok := by
  obtain ⟨h1, h2, h3, h4, h5, h6⟩ := h
  refine ⟨⟨by omega, by omega⟩, ⟨by omega, by omega⟩, by omega, by omega, by omega⟩
theorem LInv2.sync {n0 j : Nat} {S : DS} (h : LInv2 n0 j S) (hf : S.off = false) : LInv2 n0 (j + 1) S.sync := by
  obtain ⟨h1, h2, h3, h4, h5, h6⟩ := h
  have h7 : S.left + j ≤ 20 := by
    rcases h6 with h6 | h6
    · rw [hf] at h6; cases h6
    · exact h6
  rw [DS.sync, if_neg (by simp [hf])]
  by_cases hl : S.left = 1
  · have e : S.step = ⟨S.b, S.synced, true, S.steps + 1, S.left⟩ := by rw [DS.step, if_neg (by omega), if_pos hl]
    have e2 : S.on = false := by simp [DS.on, hl]
    rw [if_neg (by simp [e2]), e]
    exact ⟨⟨by simp only; omega, by simp only; omega⟩, h2, h3, h4, h5, .inl rfl⟩
  · have e : S.step = ⟨S.b, S.synced, S.off, S.steps + 1, S.left - 1⟩ := by rw [DS.step, if_neg (by omega), if_neg hl]
    have e2 : S.on = true := by simp [DS.on, hl]
    rw [if_pos e2, e]
    exact ⟨⟨by simp only; omega, by simp only; omega⟩, ⟨by simp only; omega, by simp only; omega⟩, h3, by simp only; omega, by simp only; omega, .inr (by simp only; omega)⟩
def Rel2 (w : World) (g n0 : Nat) (sv : Value) (b : List Int) (i : Value) (wr : World) : Prop :=
  ∃ (j : Nat) (S : DS), i = .int .i64 j ∧ j ≤ 25 ∧ LInv2 n0 j S ∧ S.b = b ∧ wr.ownsRow w.heap.size 5 1 sv b.length (nums .u8 b) ∧ DInv w w.heap.size g S (fun j => sv.ownBlock = some j) wr
theorem own_stay {T : Nat → Prop} {w w' : World} {base n : Nat} {e : TypeId} {size : Nat} {v : Value} {xs : List Value} (h : w.ownsRow base e size v n xs) (hs : Stay T w w') (hT : ∀ k, v.ownBlock = some k → T k) : w'.ownsRow base e size v n xs := by
  refine ⟨h.1, ?_⟩
  rcases h.2 with hn | ⟨g, cap, cur, rfl, hb, hg, r⟩
  · exact .inl hn
  · exact .inr ⟨g, cap, cur, rfl, hb, (hs.2 g (hT g rfl)).trans hg, r⟩

/-- What the power's coming back leaves: some of the bytes, all that were synced among them. -/
theorem power_take {n0 j : Nat} {S : DS} (h : LInv2 n0 j S) (hf : S.off = true) (k : Int) : ∃ y : Nat, n0 ≤ y ∧ y ≤ S.b.length ∧ S.power k = ⟨S.b.take y, y, false, S.steps, 0⟩ := by
  obtain ⟨h1, h2, h3, h4, h5, h6⟩ := h
  have hx : 0 ≤ mnI (max k 0) (S.b.length - S.synced) ∧ mnI (max k 0) (S.b.length - S.synced) ≤ S.b.length - S.synced := by
    unfold mnI
    split <;> omega
  obtain ⟨y, hy⟩ := Int.eq_ofNat_of_zero_le (show 0 ≤ S.synced + mnI (max k 0) (S.b.length - S.synced) by omega)
  refine ⟨y, by omega, by omega, ?_⟩
  rw [DS.power, if_pos hf, hy, Int.toNat_natCast]

theorem take_ok {n0 j y : Nat} {S : DS} (h : LInv2 n0 j S) (hj : j ≤ 25) (hy1 : n0 ≤ y) (hy2 : y ≤ S.b.length) : DS.ok ⟨S.b.take y, y, false, S.steps, 0⟩ := by
  obtain ⟨h1, h2, h3, h4, h5, h6⟩ := h
  have h7 : (S.b.take y).length = y := by rw [List.length_take]; omega
  have h8 : (S.b.take y).length ≤ 67108864 := by omega
  exact DS.ok_mk h1.1 (by omega) (by omega) (by omega) h8 (by omega) (by omega)
/-- What the loops carry: the disk S, the bytes that were said (a row of the call's own). -/
def Rel1 (w : World) (g n0 : Nat) (sv i : Value) (wr : World) : Prop :=
  ∃ (k : Nat) (S : DS), i = .int .i64 k ∧ k ≤ 30 ∧ LInv n0 k S ∧ wr.ownsRow w.heap.size 5 1 sv S.b.length (nums .u8 S.b) ∧ DInv w w.heap.size g S (fun j => sv.ownBlock = some j) wr

set_option maxHeartbeats 2000000 in
theorem lasts_calls (w : World) (A0 At : Option Addr) (n0 c0 nt ct : Nat) (xs : List Int) (ls : List (List Int)) (budget keep : Int)
    (hx : Rd w (.slice A0 n0 c0) (nums .u8 xs)) (hn0 : n0 = xs.length) (hl : RdRows .u8 w (.slice At nt ct) ls) (hnt : nt ≤ 9223372036854775807)
    (hb : -9223372036854775808 ≤ budget ∧ budget ≤ 9223372036854775807) (hk : -9223372036854775808 ≤ keep ∧ keep ≤ 9223372036854775807) :
    Calls Try.prog 3 #[.slice A0 n0 c0, .slice At nt ct, .int .i64 budget, .int .i64 keep] w fun e w' => e = .returned (.bool true) ∧ Below w.heap.size w w' := by
  have HX := Lib.hid hx
  have HN := Lib.hid hn0
  have HL := Lib.hid hl
  clear hx hn0 hl
  by_cases hbig : (10000 : Int) < (n0 : Int)
  · go_enter Try.func3, Try.ntmps3
    go_wp2_with fail
    refine (up_calls w).mono ?_
    rintro e w1 ⟨rfl, h1⟩
    have H1 := Lib.hid h1
    clear h1
    go_wp2_with fail
    refine (new_inv w w1 w.heap.size H1.out H1.out.size (fun _ => False) (fun _ h => h.elim)).mono ?_
    rintro e w2 ⟨rfl, hd, _⟩
    have HB := Lib.hid hd.below
    clear hd
    go_wp2
    go_ret
    exact ⟨rfl, HB.out⟩
  have hle : (n0 : Int) ≤ 10000 := by omega
  have hbb : decide ((10000 : Int) < (n0 : Int)) = false := by simp; omega
  go_enter Try.func3, Try.ntmps3
  go_wp2_with fail
  refine (up_calls w).mono ?_
  rintro e w1 ⟨rfl, h1⟩
  have H1 := Lib.hid h1
  clear h1
  go_wp2_with fail
  refine (new_inv w w1 w.heap.size H1.out H1.out.size (fun _ => False) (fun _ h => h.elim)).mono ?_
  rintro e w2 ⟨rfl, hd, _⟩
  generalize w1.heap.size = g at *
  have HX2 := Lib.hid (HX.out.below hd.below)
  have HD := Lib.hid hd
  clear hd H1
  go_wp2_with fail
  refine (append_inv HD.out (by simp [DS.ok, DS.new]) _ _ _ xs HX2.out HN.out (rd_ne HX.out HD.out.lt) (by omega)).mono ?_
  rintro e w3 ⟨he, hd, _⟩
  have q1 : DS.new.app xs = ⟨xs, 0, false, 1, 0⟩ := by
    rw [DS.app, if_neg (by simp [DS.new]), if_neg (by simp [DS.new]; have := HN.out; omega)]; rfl
  have q2 : errV (DS.new.appE xs) = .nilIface := by
    rw [DS.appE, if_neg (by simp [DS.new]), if_neg (by simp [DS.new]; have := HN.out; omega)]; rfl
  rw [q1] at hd
  rw [q2] at he
  subst he
  clear q1 q2
  have HD := Lib.hid hd
  clear hd HX2
  go_wp2_with fail
  refine (sync_inv HD.out (DS.ok_mk (by omega) (by omega) (by omega) (by omega) (by have := HN.out; omega) (by omega) (by omega))).mono ?_
  rintro e w4 ⟨he, hd, _⟩
  rw [show DS.sync ⟨xs, 0, false, 1, 0⟩ = ⟨xs, xs.length, false, 2, 0⟩ from rfl] at hd
  rw [show errV (DS.syncE ⟨xs, 0, false, 1, 0⟩) = .nilIface from rfl] at he
  subst he
  have HD := Lib.hid hd
  clear hd
  go_wp2_with fail
  refine (pick_calls budget 20 hb (by omega) _).mono ?_
  rintro e w5 ⟨rfl, rfl⟩
  have hp := pickF_range budget 20 (by omega)
  generalize pickF budget 20 = p at *
  go_wp2_with fail
  refine (cut_inv HD.out p (by omega)).mono ?_
  rintro e w5 ⟨he, hd, _⟩
  rw [show DS.cut ⟨xs, xs.length, false, 2, 0⟩ p = ⟨xs, xs.length, false, 2, p + 1⟩ from by rw [DS.cut, if_neg (by omega)]; rfl] at hd
  rw [show errV (DS.cutE ⟨xs, xs.length, false, 2, 0⟩ p) = .nilIface from by rw [DS.cutE, if_neg (by omega)]; rfl] at he
  subst he
  have hbel := hd.below
  have HD := Lib.hid (hd.alloc_at (.cells #[] 5))
  have HR := Lib.hid ((HX.out.below hbel).below ((Below.refl _ _).alloc (Nat.le_refl _) (.cells #[] 5)))
  have hsz : w.heap.size ≤ w5.heap.size := hbel.size
  have HO := Lib.hid (World.ownsRow_made (base := w.heap.size) (e := 5) (size := 1) w5 #[] 0 hsz (by simp [maxLen]) (by simp))
  have HB0 := Lib.hid (show (0 + (nums .u8 xs).length) * 1 ≤ 140737488355328 by rw [nums_length]; have := HN.out; omega)
  have hsz1 : w.heap.size ≤ (w5.alloc (.cells #[] 5)).heap.size := by simp; omega
  have HS := Lib.hid hsz1
  clear hd hbel hsz1
  go_wp2_with (at_builtin; refine wpList_app _ rfl _ _ _ rfl w.heap.size 5 (.int .u8 0) 1 Try.underlying22 u8_info rfl _ _ _ (by rfl) HO.out _ _ (by rfl) HR.out (nums_one _ _) HB0.out (by omega) HS.out ?_)
  intro A' c' w6 hown hg hat
  have hq : (nums .u8 xs).length = xs.length := nums_length _ _
  generalize (nums .u8 xs).length = m at *
  have HM := Lib.hid hq.symm
  clear hq
  have hd6 : DInv w w.heap.size g ⟨xs, xs.length, false, 2, p + 1⟩ (fun j => (Value.slice A' m c').ownBlock = some j) w6 := said_move HD.out hg (by simpa using hat) (fun k hk => by simp [Value.ownBlock] at hk; omega) hown (fun k hk => by simp [Value.ownBlock] at hk; omega)
  have HD6 := Lib.hid hd6
  have HO6 := Lib.hid hown
  clear hg hat hown hd6
  go_wp2
  go_loopw [14, 15] (fun sv i wr => Rel1 w g n0 sv i wr) (fun _ i _ => 30 - (intOf i).toNat)
  case atStart =>
    refine ⟨0, ⟨xs, xs.length, false, 2, p + 1⟩, rfl, by omega, LInv.mk_ (by omega) (by omega) (by omega) (by omega) (by have := HN.out; omega) (by have := HN.out; omega) (by omega), ?_, HD6.out⟩
    have := HO6.out
    simp only [HM.out]
    exact this
  case round =>
    clear HD6 HO6
    obtain ⟨k, S, rfl, hk30, hinv, hown, hd⟩ := hrel
    obtain ⟨As, cs, hsv⟩ := own_slice hown
    subst hsv
    have HI := Lib.hid hinv
    have HD := Lib.hid hd
    have HO := Lib.hid hown
    have hbel := hd.below
    have HBL := Lib.hid hbel
    have hwr := hbel.size
    have hsb : S.b.length ≤ 40000 := by have := hinv.2.2.1; omega
    clear hinv hd hown
    by_cases hc : k < nt ∧ k < 30 ∧ S.off = false
    · obtain ⟨hlt, h30, hoff⟩ := hc
      obtain ⟨ad, Aj, cj, hAt, hcell0, hrd0, hj⟩ := HL.out.at_ k hlt
      have hcell : wr.cell? (ad.add k) = some (.slice Aj (ls.getD k []).length cj) := (hbel.cell (World.block_lt_of_cell? w _ hcell0)).trans hcell0
      have hrd := hrd0.below hbel
      subst hAt
      have HRD := Lib.hid hrd
      have HRD0 := Lib.hid (hrd0 : Rd w (.slice Aj (ls.getD k []).length cj) (nums .u8 (ls.getD k [])))
      generalize hys : ls.getD k [] = ys at *
      clear hys hrd hrd0 hcell0
      by_cases hy : 1000 < ys.length
      · have hy' : (1000 : Int) < (ys.length : Int) := by omega
        clear hy hbel
        have h30' : (k : Int) < 30 := by omega
        have hlt' : (k : Int) < (nt : Int) := by omega
        go_wp2_with fail
        refine (on_inv HD.out).mono ?_
        rintro e wr' ⟨rfl, rfl⟩
        go_wp2
        go_ret
        exact ⟨rfl, HBL.out⟩
      have hy' : (ys.length : Int) ≤ 1000 := by omega
      have hy1 : ys.length ≤ 1000 := by omega
      have HBY := Lib.hid (show (S.b.length + (nums .u8 ys).length) * 1 ≤ 140737488355328 by rw [nums_length]; omega)
      have h30' : (k : Int) < 30 := by omega
      have hlt' : (k : Int) < (nt : Int) := by omega
      clear hbel
      go_wp2_with fail
      refine (on_inv HD.out).mono ?_
      rintro e wr' ⟨rfl, rfl⟩
      go_wp2_with (at_builtin; refine wpList_app _ rfl _ _ _ rfl w.heap.size 5 (.int .u8 0) 1 Try.underlying22 u8_info rfl _ _ _ (by rfl) HO.out _ _ (by rfl) HRD.out (nums_one _ _) HBY.out (by omega) hwr ?_)
      intro A2 c2 w7 hown hg hat
      have hq : S.b.length + (nums .u8 ys).length = S.b.length + ys.length := by rw [nums_length]
      generalize S.b.length + (nums .u8 ys).length = m2 at *
      have hd7 : DInv w w.heap.size g S (fun j => (Value.slice A2 m2 c2).ownBlock = some j) w7 := said_move HD.out hg hat (fun k hk => (own_lo HO.out k hk).1) hown (fun k hk => hk)
      have hb7 := hd7.below
      have hk7 := (hd7.below).cell (p := ad.add k) (by rw [add_blk]; exact row_lt HL.out hlt)
      have hcell7 : w7.cell? (ad.add k) = some (.slice Aj ys.length cj) := by
        rw [← hcell, hk7]
        exact (HBL.out.cell (by rw [add_blk]; exact row_lt HL.out hlt)).symm
      have hrd7 := HRD0.out.below hb7
      have HRD7 := Lib.hid hrd7
      have HD7 := Lib.hid hd7
      have HO7 := Lib.hid hown
      have HQ := Lib.hid hq
      clear hown hg hat hq hd7 hb7 hk7 hrd7
      go_wp2_with fail
      refine (append_inv HD7.out (HI.out.ok hk30) _ _ _ ys HRD7.out rfl (rd_ne HRD0.out HD7.out.lt) (by omega)).mono ?_
      rintro e w8 ⟨rfl, hd, hs⟩
      have HO8 := Lib.hid (own_stay HO7.out hs (fun _ h => h))
      have HD8 := Lib.hid hd
      have HE := Lib.hid (HI.out.rnd hoff h30 hy1)
      have HK := Lib.hid (HI.out.app_ok hoff h30 hy1)
      clear hd hs
      by_cases h3 : k % 3 = 1
      · have h3' : ((k : Int) % 3 == 1) = true := by simp; omega
        have HR3 := Lib.hid (show Rnd S ys k = (S.app ys).sync from if_pos h3)
        clear h3 hoff
        go_wp2_with fail
        refine (sync_inv HD8.out HK.out).mono ?_
        rintro e w9 ⟨rfl, hd, hs⟩
        have HO9 := Lib.hid (own_stay HO8.out hs (fun _ h => h))
        have HD9 := Lib.hid hd
        clear hd hs
        go_wp2
        go_roundw
        case rel =>
          refine ⟨k + 1, Rnd S ys k, by go_num, by omega, HE.out.1, ?_, by rw [HR3.out]; exact HD9.out⟩
          rw [HE.out.2, nums_append, List.length_append, ← HQ.out]
          exact HO9.out
        case measure => simp [intOf]; omega
      · have h3' : ((k : Int) % 3 == 1) = false := by simp; omega
        have HR3 := Lib.hid (show Rnd S ys k = S.app ys from if_neg h3)
        clear h3 hoff
        go_wp2
        go_roundw
        case rel =>
          refine ⟨k + 1, Rnd S ys k, by go_num, by omega, HE.out.1, ?_, by rw [HR3.out]; exact HD8.out⟩
          rw [HE.out.2, nums_append, List.length_append, ← HQ.out]
          exact HO8.out
        case measure => simp [intOf]; omega
    · have hend : nt ≤ k ∨ (k < nt ∧ 30 ≤ k) ∨ (k < nt ∧ k < 30 ∧ S.off = true) := by
        cases hf : S.off
        · simp [hf] at hc; omega
        · simp; omega
      have HI2 := Lib.hid (HI.out.two hk30)
      clear hc hbel
      rcases hend with hend | ⟨hend1, hend2⟩ | ⟨hend1, hend2, hend3⟩
      case' inl =>
        have e1 : (nt : Int) ≤ (k : Int) := by omega
        clear hend
        go_wp2
      case' inr.inl =>
        have e1 : (k : Int) < (nt : Int) := by omega
        have e2 : (30 : Int) ≤ (k : Int) := by omega
        clear hend1 hend2
        go_wp2
      case' inr.inr =>
        have e1 : (k : Int) < (nt : Int) := by omega
        have e2 : (k : Int) < 30 := by omega
        clear hend1 hend2
        go_wp2_with fail
        refine (on_inv HD.out).mono ?_
        rintro e wr' ⟨rfl, rfl⟩
        go_wp2
        clear hend3
      all_goals
        go_loopw [16] (fun i wr2 => Rel2 w g n0 (.slice As S.b.length cs) S.b i wr2) (fun i _ => 25 - (intOf i).toNat)
        case atStart => exact ⟨0, S, rfl, by omega, HI2.out, rfl, HO.out, HD.out⟩
        case round =>
          clear HD HO HI HI2 HBL
          obtain ⟨j, S2, rfl, hj, hinv, hSb, hown, hd⟩ := hrel
          have HI := Lib.hid hinv
          have HS := Lib.hid hSb
          have HO := Lib.hid hown
          have HD := Lib.hid hd
          clear hinv hSb hown hd
          by_cases hc : j < 25 ∧ S2.off = false
          · obtain ⟨hj2, hoff⟩ := hc
            have hj3 : (j : Int) < 25 := by omega
            have HN := Lib.hid (HI.out.sync hoff)
            go_wp2_with fail
            refine (on_inv HD.out).mono ?_
            rintro e wr' ⟨rfl, rfl⟩
            go_wp2_with fail
            refine (sync_inv HD.out (HI.out.ok hj)).mono ?_
            rintro e w9 ⟨rfl, hd, hs⟩
            have HO9 := Lib.hid (own_stay HO.out hs (fun _ h => h))
            have HD9 := Lib.hid hd
            clear hd hs hoff
            go_wp2
            go_roundw
            case rel => exact ⟨j + 1, S2.sync, by go_num, by omega, HN.out, (sync_b S2).trans HS.out, HO9.out, HD9.out⟩
            case measure => simp [intOf]; omega
          · have hoff : S2.off = true := by
              obtain ⟨_, h2, _, _, _, h6⟩ := HI.out
              rcases h6 with h6 | h6
              · exact h6
              · cases hf : S2.off
                · simp [hf] at hc; omega
                · rfl
            clear hc
            have hend : 25 ≤ j ∨ j < 25 := by omega
            rcases hend with hend | hend
            case' inl =>
              have e1 : (25 : Int) ≤ (j : Int) := by omega
              clear hend
              go_wp2_with fail
            case' inr =>
              have e1 : (j : Int) < 25 := by omega
              clear hend
              go_wp2_with fail
              refine (on_inv HD.out).mono ?_
              rintro e wr' ⟨rfl, rfl⟩
              go_wp2_with fail
            all_goals
              clear e1
              refine (on_inv HD.out).mono ?_
              rintro e wr' ⟨rfl, rfl⟩
              go_wp2_with fail
              refine (power_inv HD.out (HI.out.ok hj) keep hk).mono ?_
              rintro e w9 ⟨rfl, hd, hs⟩
              have HO9 := Lib.hid (own_stay HO.out hs (fun _ h => h))
              obtain ⟨y, hy1, hy2, hpe⟩ := power_take HI.out hoff keep
              rw [hpe] at hd
              have HD9 := Lib.hid hd
              clear hd hs hpe
              go_wp2_with fail
              refine (read_inv HD9.out rfl (take_ok HI.out hj hy1 hy2)).mono ?_
              rintro e w10 ⟨x, rfl, hx, _, hd, hs⟩
              have hsb2 := HS.out
              simp only [hsb2] at hx
              rw [hsb2] at hy2
              have HB10 := Lib.hid hd.below
              have HO10 := own_stay HO9.out hs (fun _ h => h)
              have hcy : y ≤ cs := Nat.le_trans hy2 (own_cap HO10)
              have hty := Rd.of_own (own_take HO10 hy2)
              rw [Nat.mul_one, ← nums_take] at hty
              have hly : (nums .u8 (S.b.take y)).length = y := by rw [nums_length, List.length_take]; omega
              obtain ⟨Ax, cx, hxe⟩ := hx.len
              rw [hly] at hxe
              subst hxe
              have hstr1 := fun nq => (hx.drewN nq).string (P := Try.prog) Try.underlying22 Try.underlying5 9 Try.underlying9
              have hstr2 := fun nq => (hty.drewN nq).string (P := Try.prog) Try.underlying22 Try.underlying5 9 Try.underlying9
              generalize strOfNums (S.b.take y) = str at *
              have g1 : (n0 : Int) ≤ (y : Int) := by omega
              have g2 : (y : Int) ≤ (S.b.length : Int) := by omega
              clear hd hs hx hty hly HO10 hsb2 hoff
              go_wp2
              go_quiet (fail)
              go_wp2
              go_ret
              exact ⟨rfl, HB10.out.drewN nq⟩
end Go.Proofs.Ytimdbnhgoekflaa
