/- The document's tables. -/
import Derived.Test.YtimdbnhgoekflaaDoorPMadeB
import Derived.Test.YtimdbnhgoekflaaDoorApp
import Derived.Test.YtimdbnhgoekflaaDoorShaP
namespace Go.Proofs.YtimdbnhgoekflaaDoor
open Go.RowKit Go.Proofs.YtimdbnhgoekflaaDoor.PHashShas Go.Proofs.YtimdbnhgoekflaaDoorW.PrintWords
set_option linter.unusedVariables false
def ks256 : List Int := [1116352408, 1899447441, 3049323471, 3921009573, 961987163, 1508970993, 2453635748, 2870763221, 3624381080, 310598401, 607225278, 1426881987, 1925078388, 2162078206, 2614888103, 3248222580, 3835390401, 4022224774, 264347078, 604807628, 770255983, 1249150122, 1555081692, 1996064986, 2554220882, 2821834349, 2952996808, 3210313671, 3336571891, 3584528711, 113926993, 338241895, 666307205, 773529912, 1294757372, 1396182291, 1695183700, 1986661051, 2177026350, 2456956037, 2730485921, 2820302411, 3259730800, 3345764771, 3516065817, 3600352804, 4094571909, 275423344, 430227734, 506948616, 659060556, 883997877, 958139571, 1322822218, 1537002063, 1747873779, 1955562222, 2024104815, 2227730452, 2361852424, 2428436474, 2756734187, 3204031479, 3329325298]
def hs256 : List Int := [1779033703, 3144134277, 1013904242, 2773480762, 1359893119, 2600822924, 528734635, 1541459225]
def prs : List Int := [2, 3, 5, 7, 11, 13, 17, 19, 23, 29, 31, 37, 41, 43, 47, 53, 59, 61, 67, 71, 73, 79, 83, 89, 97, 101, 103, 107, 109, 113, 127, 131, 137, 139, 149, 151, 157, 163, 167, 173, 179, 181, 191, 193, 197, 199, 211, 223, 227, 229, 233, 239, 241, 251, 257, 263, 269, 271, 277, 281, 283, 293, 307, 311]
set_option maxRecDepth 1000000 in
theorem primes_eq : treenailref05_primes.f 20000 64 = some prs := by kernel_rfl
set_option maxRecDepth 1000000 in
theorem made_eq : treenailref05_Made.f 20000 = some (ks256, hs256) := by kernel_rfl
theorem rd_of_R {k : IntKind} {e : Nat} {w : World} {base : Nat} {ok : Nat → Prop} {v : Value} {xs : List Int} (h : (Kd.int k).R e w base ok v xs) : Rd w v (nums k xs) :=
  Rd.of_own (Kd.own_of_R h)
def st256 : St := ⟨0x6a09e667, 0xbb67ae85, 0x3c6ef372, 0xa54ff53a, 0x510e527f, 0x9b05688c, 0x1f83d9ab, 0x5be0cd19⟩
theorem st256_ws : st256.ws = hs256 := rfl
theorem st256_W : st256.W := by unfold St.W W32 st256; decide
theorem made_calls (w : World) : Calls Tryd.prog 10 #[] w fun e w' => ∃ A1 c1 A2 c2, e = .returned (.agg #[.slice A1 64 c1, .slice A2 8 c2]) ∧ Rd w' (.slice A1 64 c1) (nums .u32 ks256) ∧ Rd w' (.slice A2 8 c2) (nums .u32 hs256) ∧ Below w.heap.size w w' := by
  refine (treenailref05_Made.calls 20000 ks256 hs256 w made_eq).mono ?_
  rintro e w' ⟨v0, v1, rfl, h0, h1, hb⟩
  have r0 := rd_of_R h0
  have r1 := rd_of_R h1
  obtain ⟨A1, c1, rfl⟩ := r0.len
  obtain ⟨A2, c2, rfl⟩ := r1.len
  exact ⟨A1, c1, A2, c2, rfl, r0, r1, hb⟩
end Go.Proofs.YtimdbnhgoekflaaDoor
