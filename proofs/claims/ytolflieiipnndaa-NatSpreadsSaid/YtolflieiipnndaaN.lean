/- Leaves: the contracts of Go's library's functions (bits, slices.Clone) and of treenaillaw00.Code, in the printed texts' form. -/
import Derived.Test.YtolflieiipnndaaKd
import Derived.Test.YtolflieiipnndaaShelf
import Derived.Test.YtolflieiipnndaaErr
import Derived.Shelf.Spec.BitsCarry
import Derived.Handy
import Derived.Lib.LazyBuf
namespace Go.Proofs.Ytolflieiipnndaa.X
open Go.RowKit Go.Proofs.Ytolflieiipnndaa Go.Proofs.YtolflieiipnndaaW.PrintWords Go.Proofs.YtolflieiipnndaaW.PrintLast Go.Proofs.YtolflieiipnndaaW.PrintMore
set_option linter.unusedVariables false

def bits_Add64.f (a b c : Int) : Option (Int × Int) := if (0 ≤ a ∧ 0 ≤ b) ∧ 0 ≤ c ∧ c ≤ 1 then some ((a + b + c) % 18446744073709551616, (a + b + c) / 18446744073709551616) else none
theorem bits_Add64.calls (a b c r1 r2 : Int) (w : World) (h : bits_Add64.f a b c = some (r1, r2)) :
    CallsE Try.prog 39 #[.int .u64 a, .int .u64 b, .int .u64 c] w fun e w' => e = .returned (.tuple #[.int .u64 r1, .int .u64 r2]) ∧ Drawn0 w w' := by
  unfold bits_Add64.f at h
  split at h
  case isFalse => cases h
  case isTrue hc =>
    obtain ⟨⟨h0, h1⟩, h2, h3⟩ := hc
    injection h with h
    injection h with e1 e2
    subst e1 e2
    refine ⟨_, ?_, rfl, Drawn0.refl _⟩
    rw [run_callFunc_extern Try.func39 (by kernel_rfl) (by kernel_rfl) (by kernel_rfl) (e := add64Entry) (by kernel_rfl), run_add64 a b c h0 h1 h2 h3]
    rfl
def bits_Sub64.f (a b c : Int) : Option (Int × Int) := if ((0 ≤ a ∧ a < 18446744073709551616) ∧ 0 ≤ b ∧ b < 18446744073709551616) ∧ 0 ≤ c ∧ c ≤ 1 then some ((a - b - c) % 18446744073709551616, if a < b + c then 1 else 0) else none
theorem bits_Sub64.calls (a b c r1 r2 : Int) (w : World) (h : bits_Sub64.f a b c = some (r1, r2)) :
    CallsE Try.prog 41 #[.int .u64 a, .int .u64 b, .int .u64 c] w fun e w' => e = .returned (.tuple #[.int .u64 r1, .int .u64 r2]) ∧ Drawn0 w w' := by
  unfold bits_Sub64.f at h
  split at h
  case isFalse => cases h
  case isTrue hc =>
    obtain ⟨⟨⟨h0, h0'⟩, h1, h1'⟩, h2, h3⟩ := hc
    injection h with h
    injection h with e1 e2
    obtain ⟨x, rfl⟩ := Int.eq_ofNat_of_zero_le h0
    obtain ⟨y, rfl⟩ := Int.eq_ofNat_of_zero_le h1
    obtain ⟨z, rfl⟩ := Int.eq_ofNat_of_zero_le h2
    refine ⟨.tuple #[.int .u64 r1, .int .u64 r2], ?_, rfl, Drawn0.refl _⟩
    rw [run_callFunc_extern Try.func41 (by kernel_rfl) (by kernel_rfl) (by kernel_rfl) (e := sub64Entry) (by kernel_rfl), run_sub64 x y z (by omega)]
    have g1 : (((x + 18446744073709551616 - y - z) % 18446744073709551616 : Nat) : Int) = r1 := by rw [← e1]; omega
    have g2 : ((if x < y + z then 1 else 0 : Nat) : Int) = r2 := by
      rw [← e2]
      by_cases hh : x < y + z
      · rw [if_pos hh, if_pos (by omega)]; rfl
      · rw [if_neg hh, if_neg (by omega)]; rfl
    rw [g1, g2]
    rfl
def bits_Mul64.f (a b : Int) : Option (Int × Int) := if (0 ≤ a ∧ a < 18446744073709551616) ∧ 0 ≤ b ∧ b < 18446744073709551616 then some (a * b / 18446744073709551616, a * b % 18446744073709551616) else none
theorem bits_Mul64.calls (a b r1 r2 : Int) (w : World) (h : bits_Mul64.f a b = some (r1, r2)) :
    Calls Try.prog 46 #[.int .u64 a, .int .u64 b] w fun e w' => e = .returned (.tuple #[.int .u64 r1, .int .u64 r2]) ∧ Drawn0 w w' := by
  unfold bits_Mul64.f at h
  split at h
  case isFalse => cases h
  case isTrue hc =>
    obtain ⟨⟨h0, h0'⟩, h1, h1'⟩ := hc
    injection h with h
    injection h with e1 e2
    subst e1 e2
    obtain ⟨x, rfl⟩ := Int.eq_ofNat_of_zero_le h0
    obtain ⟨y, rfl⟩ := Int.eq_ofNat_of_zero_le h1
    refine (Try.bits_Mul64 x y (by omega) (by omega) w).mono ?_
    rintro e w' ⟨rfl, rfl⟩
    refine ⟨?_, Drawn0.refl _⟩
    rw [Int.natCast_ediv, Int.natCast_emod, Int.natCast_mul]
    rfl
def bits_Len64.f (a : Int) : Option Int := if 0 ≤ a ∧ a ≤ 18446744073709551615 then some (Lib.bitLen a.toNat : Int) else none
theorem bits_Len64.calls (a r : Int) (w : World) (h : bits_Len64.f a = some r) :
    Calls Try.prog 45 #[.int .u64 a] w fun e w' => e = .returned (.int .i64 r) ∧ Drawn0 w w' := by
  unfold bits_Len64.f at h
  split at h
  case isFalse => cases h
  case isTrue hc =>
    injection h with e1
    subst e1
    refine (Try.bits_Len64 a w hc.1 hc.2).mono ?_
    rintro e w' ⟨rfl, rfl⟩
    exact ⟨rfl, Drawn0.refl _⟩
def codeOf (e : Option Int) : Int := match e with | none => 0 | some c => if 1 ≤ c ∧ c ≤ 15 then c else -1
def treenaillaw00_Code.f (e : Option Int) : Option Int := some (codeOf e)
theorem codeOf_at (c : Int) : codeOf (some c) = if 1 ≤ c ∧ c ≤ 15 then c else -1 := rfl
set_option maxHeartbeats 1000000 in
theorem treenaillaw00_Code.calls (a : Option Int) (r : Int) (w : World) (h : treenaillaw00_Code.f a = some r) :
    Calls Try.prog 30 #[errW a] w fun e w' => e = .returned (.int .i64 r) ∧ Drawn0 w w' := by
  injection h with h
  subst h
  have hu := Try.underlying27
  have hc := Try.underlying32
  have ec := eql_code
  rcases a with _ | c
  · simp only [errW_none]
    go_enter Try.func30, Try.ntmps30
    go_wp2
    go_ret
    exact ⟨rfl, Drawn0.refl _⟩
  · simp only [errW_some]
    go_enter Try.func30, Try.ntmps30
    go_wp2
    go_loop [3] (fun i => ∃ k : Nat, i = .int .i64 (k : Nat) ∧ 1 ≤ k ∧ k ≤ 16 ∧ ∀ j : Nat, 1 ≤ j → j < k → c ≠ (j : Int)) (fun i => 16 - (intOf i).toNat)
    case atStart => exact ⟨1, rfl, by omega, by omega, fun j h1 h2 => by omega⟩
    case round =>
      obtain ⟨k, rfl, h1, h2, h3⟩ := hrel
      have H3 := Lib.hid h3
      clear h3
      by_cases hk : k ≤ 15
      · have hk' : (k : Int) ≤ 15 := by omega
        by_cases he : c = (k : Int)
        · have hb : (c == (k : Int)) = true := by simpa using he
          have HE := Lib.hid he
          clear he
          go_wp2
          go_ret
          refine ⟨?_, Drawn0.refl _⟩
          rw [codeOf_at, HE.out, if_pos (by omega)]
          rfl
        · have hb : (c == (k : Int)) = false := by simpa using he
          go_wp2
          go_round
          case rel =>
            refine ⟨k + 1, by go_num, by omega, by omega, fun j h1 h2 => ?_⟩
            by_cases hjk : j = k
            · subst hjk; exact he
            · exact H3.out j h1 (by omega)
          case measure => simp [intOf]; omega
      · have hk' : (15 : Int) < (k : Int) := by omega
        have HC := Lib.hid (show codeOf (some c) = -1 by
          rw [codeOf_at, if_neg]
          rintro ⟨g1, g2⟩
          exact H3.out c.toNat (by omega) (by omega) (by omega))
        go_wp2
        go_ret
        rw [HC.out]
        exact ⟨rfl, Drawn0.refl _⟩
theorem app_u64_info : (Try.prog.info? 46).map (fun i => (i.zero, i.size, i.bytes)) = some (some (.int .u64 0), 1, 8) := by kernel_rfl
def api_Nat_uint64.f (l : List Int) : Option (List Int) := if l.length ≤ 17592186044415 then some l else none
theorem api_Nat_uint64.calls (A0 : Option Addr) (c0 : Nat) (l0 : List Int) (r : List Int) (w : World) (hr0 : Kd.C (Kd.int .u64) w A0 l0.length l0) (hc0 : l0.length ≤ c0) (h : api_Nat_uint64.f l0 = some r) :
    Calls Try.prog 44 #[.slice A0 l0.length c0] w fun e w' => ∃ v0_ : Value, e = .returned (v0_) ∧ Kd.R (Kd.int .u64) 46 w' w.heap.size (fun _ => True) v0_ r ∧ Below w.heap.size w w' := by
  unfold api_Nat_uint64.f at h
  split at h
  case isFalse => cases h
  case isTrue hc =>
  injection h with h
  subst h
  have hn := rd_of_C hr0 hc0
  rcases A0 with _ | ad
  · have h0 : l0 = [] := by
      rcases Nat.eq_zero_or_pos l0.length with h0 | h0
      · exact List.eq_nil_of_length_eq_zero h0
      · obtain ⟨ad, ha, _⟩ := hr0.2.2 h0
        cases ha
    subst h0
    have hq := fun (W : World) => Go.run_eql_slice_nil (P := Try.prog) W 23 46 none 0 c0 Try.underlying23
    go_enter Try.func44, Try.ntmps44
    go_wp2
    go_ret
    exact ⟨_, rfl, Kd.R_nil _ _ _ _ _, Below.refl _ _⟩
  · have hq := fun (W : World) => Go.run_eql_slice_nil (P := Try.prog) W 23 46 (some ad) l0.length c0 Try.underlying23
    have HN := Lib.hid hn
    have HL := Lib.hid hc
    clear hn hr0 hc0 hc
    have HB := Lib.hid ((Below.refl w.heap.size w).alloc (Nat.le_refl _) (.cells #[] 46))
    have HR := Lib.hid (HN.out.below HB.out)
    have HO0 := Lib.hid (World.ownsRow_made (e := 46) (size := 1) w #[] 0 (Nat.le_refl _) (by simp [maxLen]) (by simp))
    have HI := Lib.hid app_u64_info
    have HLB := Lib.hid (show (0 + (numv .u64 l0).length) * 8 ≤ 140737488355328 by rw [numv_length]; have := HL.out; omega)
    go_enter Try.func44, Try.ntmps44
    go_wp2_with (at_builtin; refine wpList_app _ rfl _ _ _ rfl w.heap.size 46 (.int .u64 0) 8 Try.underlying23 HI.out rfl _ 0 [] (by rfl) HO0.out _ (numv .u64 l0) (by rfl) HR.out (numv_one _ _) HLB.out (by omega) HB.out.size ?_)
    intro A c w2 hown hg hat
    have HO := Lib.hid hown
    have HB2 := Lib.hid (HB.out.grown hg (by simp) (by intro k hk; simp [Value.ownBlock] at hk; omega))
    clear hown hg hat
    go_wp2
    go_ret
    exact ⟨_, rfl, R_of_ownN HO.out (by simp [numv_length]) (fun _ _ => trivial), HB2.out⟩
end Go.Proofs.Ytolflieiipnndaa.X
