/- Joined: DiskB, DiskC. -/
import Derived.Test.YtlgkcpmedjpoaaaDisk
import Derived.WalkSpells
import Derived.Deep.QuietTactic
import Derived.BigQuiet
import Derived.StillTailTactics
/- The disk's other methods: what each leaves. -/
namespace Go.Proofs.Ytlgkcpmedjpoaaa
open Go.RowKit
set_option linter.unusedVariables false

def DS.new : DS := ⟨[], 0, false, 0, 0⟩
set_option maxHeartbeats 400000 in
theorem new_calls (w : World) : Calls Try.prog 18 #[] w fun e w' => e = .returned (.pointer (some ⟨w.heap.size, 0, none⟩)) ∧ DiskAt w' w.heap.size w.heap.size (.slice none 0 0) .new ∧ Keeps (fun _ => False) w w' := by
  go_enter Try.func18, Try.ntmps18
  go_wp2
  go_ret
  exact ⟨rfl, ⟨heap_alloc_new w _, World.ownsRow_nil _ _ _ _, Nat.le_refl _⟩, (Keeps.refl _ _).alloc _⟩

set_option maxHeartbeats 400000 in
theorem on_calls (base g : Nat) (v : Value) (S : DS) (w : World) (h : DiskAt w base g v S) :
    Calls Try.prog 33 #[.pointer (some ⟨g, 0, none⟩)] w fun e w' => e = .returned (.bool (!S.off)) ∧ w = w' := by
  obtain ⟨c0, c1, c2, c3, c4⟩ := h.cell
  clear h
  go_enter Try.func33, Try.ntmps33
  go_wp2
  go_ret
  exact ⟨rfl, rfl⟩

def DS.cut (S : DS) (n : Int) : DS := if n < 0 then S else if S.off then S else { S with left := n + 1 }
def DS.cutE (S : DS) (n : Int) : Int := if n < 0 then 1 else if S.off then 12 else 0
set_option maxHeartbeats 400000 in
theorem cut_calls (base g : Nat) (v : Value) (S : DS) (w : World) (h : DiskAt w base g v S) (n : Int) (hn : n < 1000000) :
    Calls Try.prog 28 #[.pointer (some ⟨g, 0, none⟩), .int .i64 n] w fun e w' => e = .returned (errV (S.cutE n)) ∧ DiskAt w' base g v (S.cut n) ∧ Keeps (fun k => k = g) w w' := by
  obtain ⟨c0, c1, c2, c3, c4⟩ := h.cell
  have f4 := h.free 4
  have H := Lib.hid h
  clear h
  by_cases hneg : n < 0
  · have e1 : S.cut n = S := by simp [DS.cut, hneg]
    have e2 : errV (S.cutE n) = .iface 45 (.int .i64 1) := by simp [DS.cutE, errV, hneg]
    have E1 := Lib.hid e1
    have E2 := Lib.hid e2
    clear e1 e2
    go_enter Try.func28, Try.ntmps28
    go_wp2
    go_ret
    rw [E1.out, E2.out]
    exact ⟨rfl, H.out, Keeps.refl _ _⟩
  · have hnn : 0 ≤ n := by omega
    cases hf : S.off
    · have e1 : S.cut n = { S with left := n + 1 } := by simp [DS.cut, hneg, hf]
      have e2 : errV (S.cutE n) = .nilIface := by simp [DS.cutE, errV, hneg, hf]
      have E1 := Lib.hid e1
      have E2 := Lib.hid e2
      rw [hf] at c2
      clear e1 e2 hneg hf
      go_enter Try.func28, Try.ntmps28
      go_wp2
      go_ret
      rw [E1.out, E2.out]
      exact ⟨rfl, H.out.set4 _, keeps_g _ _ _ _⟩
    · have e1 : S.cut n = S := by simp [DS.cut, hneg, hf]
      have e2 : errV (S.cutE n) = cut12 := by simp [DS.cutE, errV, cut12, hneg, hf]
      have E1 := Lib.hid e1
      have E2 := Lib.hid e2
      rw [hf] at c2
      clear e1 e2 hneg hf
      go_enter Try.func28, Try.ntmps28
      go_wp2
      go_ret
      rw [E1.out, E2.out]
      exact ⟨rfl, H.out, Keeps.refl _ _⟩

/-- What a copy of bytes leaves: new bytes. -/
def BytesLeft (w : World) (xs : List Int) (v : Value) (w' : World) : Prop :=
  w'.ownsRow w.heap.size 5 1 v xs.length (numv .u8 xs) ∧ Below w.heap.size w w'
def Returns1 (R : Value → World → Prop) (e : Ending) (w' : World) : Prop := ∃ v, e = .returned v ∧ R v w'

set_option maxHeartbeats 400000 in
theorem clone_calls (A : Option Addr) (n c : Nat) (xs : List Int) (w : World) (hr : Rd w (.slice A n c) (numv .u8 xs)) (hm : n ≤ 140737488351232) :
    Calls Try.prog 37 #[.slice A n c] w (Returns1 (BytesLeft w xs)) := by
  have hl : n = xs.length := by
    obtain ⟨A', c', he, _⟩ := hr
    injection he with _ he _
    rw [he, numv_length]
  have HR := Lib.hid hr
  have HL := Lib.hid hl
  clear hr hl
  cases A with
  | none =>
    have hx : xs = [] := by
      rcases Nat.eq_zero_or_pos xs.length with h0 | h0
      · exact List.eq_nil_of_length_eq_zero h0
      · obtain ⟨A', c', he, _, _, h⟩ := HR.out
        obtain ⟨ad, ha, _⟩ := h (by rw [numv_length]; exact h0)
        injection he with he _ _
        rw [ha] at he
        cases he
    have HX := Lib.hid hx
    clear hx
    have hq := fun (w : World) => Lib.run_eql_slice_nil (P := Try.prog) w 22 5 none n c 0 0 Try.underlying22
    go_enter Try.func37, Try.ntmps37
    go_wp2
    go_ret
    rw [HX.out]
    exact ⟨_, rfl, World.ownsRow_nil _ _ _ _, Below.refl _ _⟩
  | some ad =>
    have hq := fun (w : World) => Lib.run_eql_slice_nil (P := Try.prog) w 22 5 (some ad) n c 0 0 Try.underlying22
    have hb : (0 + (numv .u8 xs).length) * 1 ≤ 140737488355328 := by rw [numv_length, ← HL.out]; omega
    have HB := Lib.hid hb
    have hbel : Below w.heap.size w (w.alloc (.cells #[] 5)) := (Below.refl _ _).alloc (Nat.le_refl _) _
    have HBEL := Lib.hid hbel
    have HR1 := Lib.hid (HR.out.below hbel)
    have HO := Lib.hid (World.ownsRow_made (e := 5) (size := 1) w #[] 0 (Nat.le_refl _) (by simp [maxLen]) (by simp))
    clear hb hbel
    go_enter Try.func37, Try.ntmps37
    go_wp2_with (at_builtin; refine wpList_app _ rfl _ _ _ rfl w.heap.size 5 (.int .u8 0) 1 Try.underlying22 u8_info rfl _ _ _ (by rfl) HO.out _ _ (by rfl) HR1.out (numv_one _ _) HB.out (by omega) (by simp) ?_)
    intro A' c' w2 hown hg hat
    have hbw : Below w.heap.size w w2 := HBEL.out.grown hg (by simp) (fun k hk => by simp [Value.ownBlock] at hk; omega)
    have HO2 := Lib.hid hown
    have HW := Lib.hid hbw
    clear hown hg hat hbw
    go_wp2
    go_ret
    refine ⟨_, rfl, ?_, HW.out⟩
    have := HO2.out
    simpa [numv_length] using this
end Go.Proofs.Ytlgkcpmedjpoaaa

/- The disk's Read, Trim, Power: what each leaves. -/
namespace Go.Proofs.Ytlgkcpmedjpoaaa
open Go.RowKit
set_option linter.unusedVariables false

/-- What a method that answers bytes and an error leaves. -/
def Returns2 (R : Value → World → Prop) (er : Value) (e : Ending) (w' : World) : Prop := ∃ v, e = .returned (.tuple #[v, er]) ∧ R v w'

theorem ownCap {w : World} {base n c : Nat} {e : TypeId} {size : Nat} {A : Option Addr} {xs : List Value} (h : w.ownsRow base e size (.slice A n c) n xs) : n ≤ c := by
  rcases h.2 with ⟨hv, h0⟩ | ⟨g, cap, cur, hv, hb, hg, h1, h3, h4, h5⟩
  · injection hv; omega
  · injection hv; omega

set_option maxHeartbeats 400000 in
theorem read_on (base g : Nat) (v : Value) (S : DS) (w : World) (h : DiskAt w base g v S) (hf : S.off = false) (ho : S.ok) :
    Calls Try.prog 32 #[.pointer (some ⟨g, 0, none⟩)] w (Returns2 (BytesLeft w S.b) .nilIface) := by
  obtain ⟨c0, c1, c2, c3, c4⟩ := h.cell
  obtain ⟨Av, cv, rfl⟩ := ownSlice h.own
  have HR := Lib.hid (Rd.of_own h.own)
  have hm : S.b.length ≤ 140737488351232 := by have := ho.2.2.1; omega
  rw [hf] at c2
  clear h hf ho
  go_enter Try.func32, Try.ntmps32
  go_wp2_with fail
  refine (clone_calls _ _ _ S.b _ HR.out hm).mono ?_
  rintro e w1 ⟨v, rfl, hv⟩
  obtain ⟨A1, c1', rfl⟩ := ownSlice hv.1
  have HV := Lib.hid hv
  clear hv
  go_wp2
  go_ret2
  exact ⟨_, rfl, HV.out⟩

set_option maxHeartbeats 400000 in
theorem read_off (base g : Nat) (v : Value) (S : DS) (w : World) (h : DiskAt w base g v S) (hf : S.off = true) :
    Calls Try.prog 32 #[.pointer (some ⟨g, 0, none⟩)] w fun e w' => e = .returned (.tuple #[.slice none 0 0, cut12]) ∧ w = w' := by
  obtain ⟨c0, c1, c2, c3, c4⟩ := h.cell
  rw [hf] at c2
  clear h hf
  go_enter Try.func32, Try.ntmps32
  go_wp2
  go_ret2
  exact ⟨rfl, rfl⟩

def DS.trim (S : DS) (n : Int) : DS := if S.off then S else if n < 0 ∨ S.b.length < n then S else if S.on then { S.step with b := S.b.take n.toNat, synced := min S.synced n } else S.step
def DS.trimE (S : DS) (n : Int) : Int := if S.off then 12 else if n < 0 ∨ S.b.length < n then 1 else if S.on then 0 else 12

set_option maxHeartbeats 400000 in
theorem trim_calls (base g : Nat) (v : Value) (S : DS) (w : World) (h : DiskAt w base g v S) (ho : S.ok) (n : Int) :
    Calls Try.prog 40 #[.pointer (some ⟨g, 0, none⟩), .int .i64 n] w fun e w' => e = .returned (errV (S.trimE n)) ∧ DiskLeft base g v w (S.trim n) w' := by
  obtain ⟨Av, cv, rfl⟩ := ownSlice h.own
  obtain ⟨c0, c1, c2, c3, c4⟩ := h.cell
  obtain ⟨ho1, ho2, ho3, ho4, ho5⟩ := ho
  have hcap : S.b.length ≤ cv := ownCap h.own
  have H := Lib.hid h
  clear h
  by_cases hf : S.off = true
  · have E1 := Lib.hid (show S.trim n = S by simp [DS.trim, hf])
    have E2 := Lib.hid (show errV (S.trimE n) = cut12 by simp [DS.trimE, errV, cut12, hf])
    rw [hf] at c2
    clear hf
    go_enter Try.func40, Try.ntmps40
    go_wp2
    go_ret
    rw [E1.out, E2.out]
    exact ⟨rfl, _, H.out, Keeps.refl _ _, .inl rfl⟩
  have hf' : S.off = false := by simpa using hf
  rw [hf'] at c2
  by_cases hneg : n < 0
  · have E1 := Lib.hid (show S.trim n = S by simp [DS.trim, hf', hneg])
    have E2 := Lib.hid (show errV (S.trimE n) = .iface 45 (.int .i64 1) by simp [DS.trimE, errV, hf', hneg])
    clear hf hf'
    go_enter Try.func40, Try.ntmps40
    go_wp2
    go_ret
    rw [E1.out, E2.out]
    exact ⟨rfl, _, H.out, Keeps.refl _ _, .inl rfl⟩
  obtain ⟨m, rfl⟩ := Int.eq_ofNat_of_zero_le (show 0 ≤ n by omega)
  clear hneg
  by_cases hbig : S.b.length < m
  · have E1 := Lib.hid (show S.trim m = S by simp [DS.trim, hf', hbig])
    have E2 := Lib.hid (show errV (S.trimE m) = .iface 45 (.int .i64 1) by simp [DS.trimE, errV, hf', hbig])
    have hlt : (S.b.length : Int) < (m : Int) := by omega
    clear hf hf' hbig
    go_enter Try.func40, Try.ntmps40
    go_wp2
    go_ret
    rw [E1.out, E2.out]
    exact ⟨rfl, _, H.out, Keeps.refl _ _, .inl rfl⟩
  have hle : m ≤ S.b.length := by omega
  have hlt : (m : Int) ≤ (S.b.length : Int) := by omega
  by_cases hon : S.on = true
  · have E1 := Lib.hid (show S.trim m = { S.step with b := S.b.take m, synced := min S.synced m } by rw [DS.trim, if_neg (by simp [hf']), if_neg (by omega), if_pos hon]; rfl)
    have E2 := Lib.hid (show errV (S.trimE m) = .nilIface by rw [DS.trimE, if_neg (by simp [hf']), if_neg (by omega), if_pos hon]; rfl)
    have E3 := Lib.hid (step_b S)
    have E4 := Lib.hid (step_synced S)
    clear hf hf' hbig
    go_enter Try.func40, Try.ntmps40
    go_wp2_with fail
    refine (step_calls base g _ S _ H.out ho1 ho2).mono ?_
    rintro e w1 ⟨rfl, hd, hk⟩
    obtain ⟨d0, d1, d2, d3, d4⟩ := hd.cell
    rw [E4.out] at d1
    have f0 := hd.free 0
    have f1 := hd.free 1
    have HD := Lib.hid hd
    have HK := Lib.hid hk
    clear hd hk
    have hmc : m ≤ cv := by omega
    have HO := HD.out.own
    rw [E3.out] at HO
    have HO1 := ownTake HO hle
    rw [Nat.mul_one, ← numv_take] at HO1
    have HL := Lib.hid (show m = (S.b.take m).length by rw [List.length_take]; omega)
    have HO2 := Lib.hid HO1
    clear HO HO1
    go_wp2
    all_goals
      go_ret
      rw [E1.out, E2.out]
      refine ⟨rfl, .slice Av m cv, ?_, keeps_left (keeps_gg HK.out (keeps_gg (keeps_g _ _ _ _) (keeps_g _ _ _ _))), .inl (by cases Av <;> rfl)⟩
      first
        | (rw [Int.min_eq_left (show S.synced ≤ (m : Int) by omega), ← E4.out]
           exact (DiskAt.put0 HD.out.blk HD.out.lo _ HL.out HO2.out).set1 _)
        | (rw [Int.min_eq_right (show (m : Int) ≤ S.synced by omega)]
           exact (DiskAt.put0 HD.out.blk HD.out.lo _ HL.out HO2.out).set1 _)
  · have hon' : S.on = false := by simpa using hon
    have E1 := Lib.hid (show S.trim m = S.step by rw [DS.trim, if_neg (by simp [hf']), if_neg (by omega), if_neg hon])
    have E2 := Lib.hid (show errV (S.trimE m) = cut12 by rw [DS.trimE, if_neg (by simp [hf']), if_neg (by omega), if_neg hon]; rfl)
    clear hf hf' hbig hon
    go_enter Try.func40, Try.ntmps40
    go_wp2_with fail
    refine (step_calls base g _ S _ H.out ho1 ho2).mono ?_
    rintro e w1 ⟨rfl, hd, hk⟩
    have HD := Lib.hid hd
    have HK := Lib.hid hk
    clear hd hk
    go_wp2
    go_ret
    rw [E1.out, E2.out]
    exact ⟨rfl, _, HD.out, keeps_left HK.out, .inl rfl⟩

def mnI (a b : Int) : Int := if a ≤ b then a else b
def DS.power (S : DS) (k : Int) : DS :=
  if S.off then { S with b := S.b.take (S.synced + mnI (max k 0) (S.b.length - S.synced)).toNat, synced := S.synced + mnI (max k 0) (S.b.length - S.synced), off := false, left := 0 } else S

set_option maxHeartbeats 400000 in
theorem power_on (base g : Nat) (v : Value) (S : DS) (w : World) (h : DiskAt w base g v S) (hf : S.off = false) (k : Int) :
    Calls Try.prog 30 #[.pointer (some ⟨g, 0, none⟩), .int .i64 k] w fun e w' => e = .returned (.tuple #[]) ∧ w = w' := by
  obtain ⟨c0, c1, c2, c3, c4⟩ := h.cell
  rw [hf] at c2
  clear h hf
  go_enter Try.func30, Try.ntmps30
  go_wp2
  refine bodyPost_ret (results_none rfl _ _ _) rfl ?_
  exact ⟨rfl, rfl⟩

theorem DiskAt.drewN {w : World} {base g : Nat} {v : Value} {S : DS} (h : DiskAt w base g v S) (n : Nat) : DiskAt (w.drewN n) base g v S := ⟨h.blk, h.own, h.lo⟩
theorem power_end {base g : Nat} {Av : Option Addr} {n cv : Nat} {S : DS} {w : World} (h : DiskAt w base g (.slice Av n cv) S) (hf : S.off = true) (k x : Int) (hx : mnI (max k 0) (S.b.length - S.synced) = x) (h0 : 0 ≤ S.synced + x) (h1 : S.synced + x ≤ S.b.length)
    (z : Int) (hz : z = S.synced + x) {y : Nat} (hy : (y : Int) = S.synced + x) (m : Nat) :
    DiskLeft base g (.slice Av n cv) w (S.power k) (((((w.drewN m).setCell ⟨g, 0, none⟩ (.slice Av y cv)).setCell ⟨g, 1, none⟩ (.int .i64 z)).setCell ⟨g, 2, none⟩ (.bool false)).setCell ⟨g, 4, none⟩ (.int .i64 0)) := by
  have hn : n = S.b.length := by
    obtain ⟨A', c', he⟩ := ownSlice h.own
    injection he
  subst hn
  have e : S.power k = { S with b := S.b.take y, synced := z, off := false, left := 0 } := by
    rw [DS.power, if_pos hf, hx, ← hz, show z.toNat = y by omega]
  rw [e]
  have ho := ownTake h.own (show y ≤ S.b.length by omega)
  rw [Nat.mul_one, ← numv_take] at ho
  refine ⟨.slice Av y cv, ((((DiskAt.put0 (h.drewN m).blk h.lo (S.b.take y) (by rw [List.length_take]; omega) ho).set1 z).set2 false).set4 0), ?_, .inl (by cases Av <;> rfl)⟩
  exact keeps_left (keeps_gg (keeps_gg (keeps_gg (keeps_gg ((Keeps.refl _ w).drewN m) (keeps_g _ _ _ _)) (keeps_g _ _ _ _)) (keeps_g _ _ _ _)) (keeps_g _ _ _ _))

set_option maxHeartbeats 800000 in
theorem power_off (base g : Nat) (v : Value) (S : DS) (w : World) (h : DiskAt w base g v S) (ho : S.ok) (hf : S.off = true) (k : Int) (hk : -9223372036854775808 ≤ k ∧ k ≤ 9223372036854775807) :
    Calls Try.prog 30 #[.pointer (some ⟨g, 0, none⟩), .int .i64 k] w fun e w' => e = .returned (.tuple #[]) ∧ DiskLeft base g v w (S.power k) w' := by
  obtain ⟨Av, cv, rfl⟩ := ownSlice h.own
  obtain ⟨c0, c1, c2, c3, c4⟩ := h.cell
  obtain ⟨ho1, ho2, ho3, ho4, ho5⟩ := ho
  have hcap : S.b.length ≤ cv := ownCap h.own
  have H := Lib.hid h
  have f0 := h.free 0
  have f1 := h.free 1
  have f2 := h.free 2
  have f4 := h.free 4
  rw [hf] at c2
  have hf0 := Lib.hid hf
  clear h hf
  go_enter Try.func30, Try.ntmps30
  go_wp2
  go_quiet (fail)
  all_goals go_wp2
  all_goals go_region
  all_goals go_wp2
  all_goals
    refine bodyPost_end (results_none rfl _ _ _) rfl ⟨rfl, ?_⟩
  · exact power_end H.out hf0.out k (S.b.length - S.synced) (by unfold mnI; split <;> omega) (by omega) (by omega) _ (by omega) (by omega) _
  · exact power_end H.out hf0.out k 0 (by unfold mnI; split <;> omega) (by omega) (by omega) _ (by omega) (by omega) _
  · exact power_end H.out hf0.out k k (by unfold mnI; split <;> omega) (by omega) (by omega) _ (by omega) (by omega) _
end Go.Proofs.Ytlgkcpmedjpoaaa
