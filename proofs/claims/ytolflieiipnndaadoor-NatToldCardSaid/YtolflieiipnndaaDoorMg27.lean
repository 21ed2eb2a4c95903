/- Joined: Shelf, N. -/
import Derived.Shelf.Small.Bits
import Derived.Shelf.Strconv.Itoa0
import Derived.Shelf.Bits.Mul64
import Derived.Test.YtolflieiipnndaaDoorProg
import Derived.Test.YtolflieiipnndaaDoorKd
import Derived.Test.YtolflieiipnndaaDoorMg25
import Derived.Shelf.Spec.BitsCarry
import Derived.Handy
import Derived.Lib.LazyBuf
/-
  DERIVED: THE SHELF's CONTRACTS AT THIS DUMP, IN PLAIN WORDS (tools/lay-plain.mjs out of 'TrydShelf.lean', which tools/lay-shelf.mjs wrote): THE SAME DECLARATIONS UNDER THE SAME NAMES: 'import', 'namespace', 'open', 'def', 'theorem' AND NOTHING ELSE: no command of the shelf's: FOR A HAND-IN. Each laying: the table of numbers ('.._ren') and one theorem, a field a fact of the dump's own or the kernel's comparison; each contract: ONE APPLICATION.
-/
namespace Go.Proofs
open Go.Shelf
def Tryd.lays134_ren : Go.Shelf.Ren := ⟨fun | 134 => 22 | 129 => 28 | n => n, fun | 53 => 40 | 3 => 3 | 4 => 4 | 46 => 57 | 5 => 5 | 9 => 9 | n => n, fun | n => n⟩
theorem Tryd.lays134 : Go.Proofs.Lays.n134 Tryd.prog Tryd.lays134_ren := {
  mixed := by kernel_rfl
  f129 := Tryd.func28.trans (congrArg some (by kernel_rfl))
  f134 := Tryd.func22.trans (congrArg some (by kernel_rfl))
  t3 := Tryd.underlying3
  a3 := Tryd.isAgg3
  z3 := Tryd.sizeOf3
  v3 := Tryd.zeroValue3
  t4 := Tryd.underlying4
  a4 := Tryd.isAgg4
  z4 := Tryd.sizeOf4
  v4 := Tryd.zeroValue4
  t5 := Tryd.underlying5
  a5 := Tryd.isAgg5
  z5 := Tryd.sizeOf5
  v5 := Tryd.zeroValue5
  t9 := Tryd.underlying9
  a9 := Tryd.isAgg9
  z9 := Tryd.sizeOf9
  v9 := Tryd.zeroValue9
  t46 := Tryd.underlying57
  a46 := Tryd.isAgg57
  z46 := Tryd.sizeOf57
  v46 := Tryd.zeroValue57
  t53 := Tryd.underlying40
  a53 := Tryd.isAgg40
  z53 := Tryd.sizeOf40
  v53 := Tryd.zeroValue40 }
/-- bits.LeadingZeros64: "LeadingZeros64 returns the number of leading zero bits in x; the result is 64 for x == 0.": IT RETURNS '64 - Lib.bitLen x'; the world is as it was. ITS CALLEE bits.Len64 IS MET BY ITS OWN CONTRACT OFF THE SHELF (lay that first): entered in place it sends the kernel out of memory. (LAID: no walk: one application.) -/
theorem Tryd.bits_LeadingZeros64 (x : Int) (w : World) (h0 : 0 ≤ x) (h1 : x ≤ 18446744073709551615) :
    Calls Tryd.prog 22 #[.int .u64 x] w fun e w' => e = .returned (.int .i64 (64 - (Lib.bitLen x.toNat : Int))) ∧ w' = w := Any.bits_LeadingZeros64 Tryd.lays134 x w h0 h1
def Tryd.lays129_ren : Go.Shelf.Ren := ⟨fun | 129 => 28 | n => n, fun | 53 => 40 | 3 => 3 | 4 => 4 | 46 => 57 | 5 => 5 | 9 => 9 | n => n, fun | n => n⟩
theorem Tryd.lays129 : Go.Proofs.Lays.n129 Tryd.prog Tryd.lays129_ren := {
  mixed := by kernel_rfl
  f129 := Tryd.func28.trans (congrArg some (by kernel_rfl))
  t3 := Tryd.underlying3
  a3 := Tryd.isAgg3
  z3 := Tryd.sizeOf3
  v3 := Tryd.zeroValue3
  t4 := Tryd.underlying4
  a4 := Tryd.isAgg4
  z4 := Tryd.sizeOf4
  v4 := Tryd.zeroValue4
  t5 := Tryd.underlying5
  a5 := Tryd.isAgg5
  z5 := Tryd.sizeOf5
  v5 := Tryd.zeroValue5
  t9 := Tryd.underlying9
  a9 := Tryd.isAgg9
  z9 := Tryd.sizeOf9
  v9 := Tryd.zeroValue9
  t46 := Tryd.underlying57
  a46 := Tryd.isAgg57
  z46 := Tryd.sizeOf57
  v46 := Tryd.zeroValue57
  t53 := Tryd.underlying40
  a53 := Tryd.isAgg40
  z53 := Tryd.sizeOf40
  v53 := Tryd.zeroValue40 }
/-- bits.Len64: "Len64 returns the minimum number of bits required to represent x; the result is 0 for x == 0.": IT RETURNS 'Lib.bitLen x'; the world is as it was. ('h0', 'h1': x is a uint64.) (LAID: no walk: one application.) -/
theorem Tryd.bits_Len64 (x : Int) (w : World) (h0 : 0 ≤ x) (h1 : x ≤ 18446744073709551615) :
    Calls Tryd.prog 28 #[.int .u64 x] w fun e w' => e = .returned (.int .i64 (Lib.bitLen x.toNat)) ∧ w' = w := Any.bits_Len64 Tryd.lays129 x w h0 h1
def Tryd.lays264_ren : Go.Shelf.Ren := ⟨fun | 264 => 19 | n => n, fun | 53 => 40 | 46 => 57 | n => n, fun | n => n⟩
theorem Tryd.lays264 : Go.Proofs.Lays.n264 Tryd.prog Tryd.lays264_ren := {
  mixed := by kernel_rfl
  f264 := Tryd.func19.trans (congrArg some (by kernel_rfl))
  t46 := Tryd.underlying57
  a46 := Tryd.isAgg57
  z46 := Tryd.sizeOf57
  v46 := Tryd.zeroValue57
  t53 := Tryd.underlying40
  a53 := Tryd.isAgg40
  z53 := Tryd.sizeOf40
  v53 := Tryd.zeroValue40 }
open Go.RowKit Go.Lib in
theorem Tryd.bits_Mul64 (x y : Nat) (hx : x < 18446744073709551616) (hy : y < 18446744073709551616) (w : World) :
    Calls Tryd.prog 19 #[.int .u64 x, .int .u64 y] w fun e w' => e = .returned (.tuple #[.int .u64 ((x * y / 18446744073709551616 : Nat) : Int), .int .u64 ((x * y % 18446744073709551616 : Nat) : Int)]) ∧ w' = w := Any.bits_Mul64 Tryd.lays264 x y hx hy w
end Go.Proofs

/- Leaves: the contracts of Go's library's functions (bits, slices.Clone) and of treenaillaw00.Code, in the printed texts' form. -/
namespace Go.Proofs.YtolflieiipnndaaDoor.X
open Go.RowKit Go.Proofs.YtolflieiipnndaaDoor Go.Proofs.YtolflieiipnndaaDoorW.PrintWords Go.Proofs.YtolflieiipnndaaDoorW.PrintLast Go.Proofs.YtolflieiipnndaaDoorW.PrintMore
set_option linter.unusedVariables false

def bits_Add64.f (a b c : Int) : Option (Int × Int) := if (0 ≤ a ∧ 0 ≤ b) ∧ 0 ≤ c ∧ c ≤ 1 then some ((a + b + c) % 18446744073709551616, (a + b + c) / 18446744073709551616) else none
theorem bits_Add64.calls (a b c r1 r2 : Int) (w : World) (h : bits_Add64.f a b c = some (r1, r2)) :
    CallsE Tryd.prog 17 #[.int .u64 a, .int .u64 b, .int .u64 c] w fun e w' => e = .returned (.tuple #[.int .u64 r1, .int .u64 r2]) ∧ Drawn0 w w' := by
  unfold bits_Add64.f at h
  split at h
  case isFalse => cases h
  case isTrue hc =>
    obtain ⟨⟨h0, h1⟩, h2, h3⟩ := hc
    injection h with h
    injection h with e1 e2
    subst e1 e2
    refine ⟨_, ?_, rfl, Drawn0.refl _⟩
    rw [run_callFunc_extern Tryd.func17 (by kernel_rfl) (by kernel_rfl) (by kernel_rfl) (e := add64Entry) (by kernel_rfl), run_add64 a b c h0 h1 h2 h3]
    rfl
def bits_Sub64.f (a b c : Int) : Option (Int × Int) := if ((0 ≤ a ∧ a < 18446744073709551616) ∧ 0 ≤ b ∧ b < 18446744073709551616) ∧ 0 ≤ c ∧ c ≤ 1 then some ((a - b - c) % 18446744073709551616, if a < b + c then 1 else 0) else none
theorem bits_Sub64.calls (a b c r1 r2 : Int) (w : World) (h : bits_Sub64.f a b c = some (r1, r2)) :
    CallsE Tryd.prog 29 #[.int .u64 a, .int .u64 b, .int .u64 c] w fun e w' => e = .returned (.tuple #[.int .u64 r1, .int .u64 r2]) ∧ Drawn0 w w' := by
  unfold bits_Sub64.f at h
  split at h
  case isFalse => cases h
  case isTrue hc =>
    obtain ⟨⟨⟨h0, h0'⟩, h1, h1'⟩, h2, h3⟩ := hc
    injection h with h
    injection h with e1 e2
    obtain ⟨x, rfl⟩ := Int.eq_ofNat_of_zero_le h0
    obtain ⟨y, rfl⟩ := Int.eq_ofNat_of_zero_le h1
    obtain ⟨z, rfl⟩ := Int.eq_ofNat_of_zero_le h2
    refine ⟨.tuple #[.int .u64 r1, .int .u64 r2], ?_, rfl, Drawn0.refl _⟩
    rw [run_callFunc_extern Tryd.func29 (by kernel_rfl) (by kernel_rfl) (by kernel_rfl) (e := sub64Entry) (by kernel_rfl), run_sub64 x y z (by omega)]
    have g1 : (((x + 18446744073709551616 - y - z) % 18446744073709551616 : Nat) : Int) = r1 := by rw [← e1]; omega
    have g2 : ((if x < y + z then 1 else 0 : Nat) : Int) = r2 := by
      rw [← e2]
      by_cases hh : x < y + z
      · rw [if_pos hh, if_pos (by omega)]; rfl
      · rw [if_neg hh, if_neg (by omega)]; rfl
    rw [g1, g2]
    rfl
def bits_Mul64.f (a b : Int) : Option (Int × Int) := if (0 ≤ a ∧ a < 18446744073709551616) ∧ 0 ≤ b ∧ b < 18446744073709551616 then some (a * b / 18446744073709551616, a * b % 18446744073709551616) else none
theorem bits_Mul64.calls (a b r1 r2 : Int) (w : World) (h : bits_Mul64.f a b = some (r1, r2)) :
    Calls Tryd.prog 19 #[.int .u64 a, .int .u64 b] w fun e w' => e = .returned (.tuple #[.int .u64 r1, .int .u64 r2]) ∧ Drawn0 w w' := by
  unfold bits_Mul64.f at h
  split at h
  case isFalse => cases h
  case isTrue hc =>
    obtain ⟨⟨h0, h0'⟩, h1, h1'⟩ := hc
    injection h with h
    injection h with e1 e2
    subst e1 e2
    obtain ⟨x, rfl⟩ := Int.eq_ofNat_of_zero_le h0
    obtain ⟨y, rfl⟩ := Int.eq_ofNat_of_zero_le h1
    refine (Tryd.bits_Mul64 x y (by omega) (by omega) w).mono ?_
    rintro e w' ⟨rfl, rfl⟩
    refine ⟨?_, Drawn0.refl _⟩
    rw [Int.natCast_ediv, Int.natCast_emod, Int.natCast_mul]
    rfl
def bits_Len64.f (a : Int) : Option Int := if 0 ≤ a ∧ a ≤ 18446744073709551615 then some (Lib.bitLen a.toNat : Int) else none
theorem bits_Len64.calls (a r : Int) (w : World) (h : bits_Len64.f a = some r) :
    Calls Tryd.prog 28 #[.int .u64 a] w fun e w' => e = .returned (.int .i64 r) ∧ Drawn0 w w' := by
  unfold bits_Len64.f at h
  split at h
  case isFalse => cases h
  case isTrue hc =>
    injection h with e1
    subst e1
    refine (Tryd.bits_Len64 a w hc.1 hc.2).mono ?_
    rintro e w' ⟨rfl, rfl⟩
    exact ⟨rfl, Drawn0.refl _⟩
def codeOf (e : Option Int) : Int := match e with | none => 0 | some c => if 1 ≤ c ∧ c ≤ 15 then c else -1
def treenaillaw00_Code.f (e : Option Int) : Option Int := some (codeOf e)
theorem codeOf_at (c : Int) : codeOf (some c) = if 1 ≤ c ∧ c ≤ 15 then c else -1 := rfl
set_option maxRecDepth 100000 in
set_option maxHeartbeats 1000000 in
theorem treenaillaw00_Code.calls (a : Option Int) (r : Int) (w : World) (h : treenaillaw00_Code.f a = some r) :
    Calls Tryd.prog 27 #[errW a] w fun e w' => e = .returned (.int .i64 r) ∧ Drawn0 w w' := by
  injection h with h
  subst h
  have hu := Tryd.underlying27
  have hc := Tryd.underlying41
  have ec := eql_code
  rcases a with _ | c
  · simp only [errW_none]
    go_enter Tryd.func27, Tryd.ntmps27
    go_wp2
    go_ret
    exact ⟨rfl, Drawn0.refl _⟩
  · simp only [errW_some]
    go_enter Tryd.func27, Tryd.ntmps27
    go_wp2
    go_loop [3] (fun i => ∃ k : Nat, i = .int .i64 (k : Nat) ∧ 1 ≤ k ∧ k ≤ 16 ∧ ∀ j : Nat, 1 ≤ j → j < k → c ≠ (j : Int)) (fun i => 16 - (intOf i).toNat)
    case atStart => exact ⟨1, rfl, by omega, by omega, fun j h1 h2 => by omega⟩
    case round =>
      obtain ⟨k, rfl, h1, h2, h3⟩ := hrel
      have H3 := Lib.hid h3
      clear h3
      by_cases hk : k ≤ 15
      · have hk' : (k : Int) ≤ 15 := by omega
        by_cases he : c = (k : Int)
        · have hb : (c == (k : Int)) = true := by simpa using he
          have HE := Lib.hid he
          clear he
          go_wp2
          go_ret
          refine ⟨?_, Drawn0.refl _⟩
          rw [codeOf_at, HE.out, if_pos (by omega)]
          rfl
        · have hb : (c == (k : Int)) = false := by simpa using he
          go_wp2
          go_round
          case rel =>
            refine ⟨k + 1, by go_num, by omega, by omega, fun j h1 h2 => ?_⟩
            by_cases hjk : j = k
            · subst hjk; exact he
            · exact H3.out j h1 (by omega)
          case measure => simp [intOf]; omega
      · have hk' : (15 : Int) < (k : Int) := by omega
        have HC := Lib.hid (show codeOf (some c) = -1 by
          rw [codeOf_at, if_neg]
          rintro ⟨g1, g2⟩
          exact H3.out c.toNat (by omega) (by omega) (by omega))
        go_wp2
        go_ret
        rw [HC.out]
        exact ⟨rfl, Drawn0.refl _⟩
theorem app_u64_info : (Tryd.prog.info? 40).map (fun i => (i.zero, i.size, i.bytes)) = some (some (.int .u64 0), 1, 8) := by kernel_rfl
def api_Nat_uint64.f (l : List Int) : Option (List Int) := if l.length ≤ 17592186044415 then some l else none
theorem api_Nat_uint64.calls (A0 : Option Addr) (c0 : Nat) (l0 : List Int) (r : List Int) (w : World) (hr0 : Kd.C (Kd.int .u64) w A0 l0.length l0) (hc0 : l0.length ≤ c0) (h : api_Nat_uint64.f l0 = some r) :
    Calls Tryd.prog 20 #[.slice A0 l0.length c0] w fun e w' => ∃ v0_ : Value, e = .returned (v0_) ∧ Kd.R (Kd.int .u64) 40 w' w.heap.size (fun _ => True) v0_ r ∧ Below w.heap.size w w' := by
  unfold api_Nat_uint64.f at h
  split at h
  case isFalse => cases h
  case isTrue hc =>
  injection h with h
  subst h
  have hn := rd_of_C hr0 hc0
  rcases A0 with _ | ad
  · have h0 : l0 = [] := by
      rcases Nat.eq_zero_or_pos l0.length with h0 | h0
      · exact List.eq_nil_of_length_eq_zero h0
      · obtain ⟨ad, ha, _⟩ := hr0.2.2 h0
        cases ha
    subst h0
    have hq := fun (W : World) => Go.run_eql_slice_nil (P := Tryd.prog) W 23 40 none 0 c0 Tryd.underlying23
    go_enter Tryd.func20, Tryd.ntmps20
    go_wp2
    go_ret
    exact ⟨_, rfl, Kd.R_nil _ _ _ _ _, Below.refl _ _⟩
  · have hq := fun (W : World) => Go.run_eql_slice_nil (P := Tryd.prog) W 23 40 (some ad) l0.length c0 Tryd.underlying23
    have HN := Lib.hid hn
    have HL := Lib.hid hc
    clear hn hr0 hc0 hc
    have HB := Lib.hid ((Below.refl w.heap.size w).alloc (Nat.le_refl _) (.cells #[] 40))
    have HR := Lib.hid (HN.out.below HB.out)
    have HO0 := Lib.hid (World.ownsRow_made (e := 40) (size := 1) w #[] 0 (Nat.le_refl _) (by simp [maxLen]) (by simp))
    have HI := Lib.hid app_u64_info
    have HLB := Lib.hid (show (0 + (numv .u64 l0).length) * 8 ≤ 140737488355328 by rw [numv_length]; have := HL.out; omega)
    go_enter Tryd.func20, Tryd.ntmps20
    go_wp2_with (at_builtin; refine wpList_app _ rfl _ _ _ rfl w.heap.size 40 (.int .u64 0) 8 Tryd.underlying23 HI.out rfl _ 0 [] (by rfl) HO0.out _ (numv .u64 l0) (by rfl) HR.out (numv_one _ _) HLB.out (by omega) HB.out.size ?_)
    intro A c w2 hown hg hat
    have HO := Lib.hid hown
    have HB2 := Lib.hid (HB.out.grown hg (by simp) (by intro k hk; simp [Value.ownBlock] at hk; omega))
    clear hown hg hat
    go_wp2
    go_ret
    exact ⟨_, rfl, R_of_ownN HO.out (by simp [numv_length]) (fun _ _ => trivial), HB2.out⟩
end Go.Proofs.YtolflieiipnndaaDoor.X
