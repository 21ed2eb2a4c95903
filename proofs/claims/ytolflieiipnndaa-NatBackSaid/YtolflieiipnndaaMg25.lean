/- Joined: Err, Kd, Shelf, N. -/
import Derived.Test.YtolflieiipnndaaBase
import Derived.Test.YtolflieiipnndaaMg23
import Derived.Laws.Externs
import Derived.Shelf.Small.Bits
import Derived.Shelf.Strconv.Itoa0
import Derived.Shelf.Bits.Mul64
import Derived.Test.YtolflieiipnndaaProg
import Derived.Shelf.Spec.BitsCarry
import Derived.Handy
import Derived.Lib.LazyBuf
/- Errors that are codes: compared. -/
namespace Go.Proofs.Ytolflieiipnndaa
open Go.RowKit
theorem code_info : (Try.prog.info? 32).map (fun i => i.comparable) = some true := by kernel_rfl
theorem eql_code (w : World) (a b : Int) : (binOp .eql 27 (.iface 32 (.int .i64 a)) (.iface 32 (.int .i64 b))).run Try.prog w = .ok (.bool (a == b)) w := by
  obtain ⟨i, hi, hc⟩ := Option.map_eq_some_iff.1 code_info
  exact run_eql_iface_int w a b Try.underlying27 Try.underlying32 hi hc
theorem neq_code (w : World) (a b : Int) : (binOp .neq 27 (.iface 32 (.int .i64 a)) (.iface 32 (.int .i64 b))).run Try.prog w = .ok (.bool (!(a == b))) w := by
  obtain ⟨i, hi, hc⟩ := Option.map_eq_some_iff.1 code_info
  exact run_neq_iface_int w a b Try.underlying27 Try.underlying32 hi hc
theorem eql_nil_code (w : World) (b : Int) : (binOp .eql 27 .nilIface (.iface 32 (.int .i64 b))).run Try.prog w = .ok (.bool false) w := by
  have h : ∀ d : Nat, (Op.equalIn (d + 1) 27 .nilIface (.iface 32 (.int .i64 b))).run Try.prog w = .ok false w := fun d => by simp [Op.equalIn, run_underlying Try.underlying27]
  simp only [binOp]
  simp [Op.equal, Op.maxDepth, h 9999]
theorem eql_code_nil (w : World) (b : Int) : (binOp .eql 27 (.iface 32 (.int .i64 b)) .nilIface).run Try.prog w = .ok (.bool false) w := by
  have h : ∀ d : Nat, (Op.equalIn (d + 1) 27 (.iface 32 (.int .i64 b)) .nilIface).run Try.prog w = .ok false w := fun d => by simp [Op.equalIn, run_underlying Try.underlying27]
  simp only [binOp]
  simp [Op.equal, Op.maxDepth, h 9999]
theorem neq_nil_code (w : World) (b : Int) : (binOp .neq 27 .nilIface (.iface 32 (.int .i64 b))).run Try.prog w = .ok (.bool true) w := by
  have h : ∀ d : Nat, (Op.equalIn (d + 1) 27 .nilIface (.iface 32 (.int .i64 b))).run Try.prog w = .ok false w := fun d => by simp [Op.equalIn, run_underlying Try.underlying27]
  simp only [binOp]
  simp [Op.equal, Op.maxDepth, h 9999]
end Go.Proofs.Ytolflieiipnndaa

/- Between our own words (rows that read, rows of the call's own) and the printed texts'; calls of functions without a body. -/
namespace Go.Proofs.Ytolflieiipnndaa.X
open Go.RowKit Go.Proofs.Ytolflieiipnndaa Go.Proofs.YtolflieiipnndaaW.PrintWords Go.Proofs.YtolflieiipnndaaW.PrintLast Go.Proofs.YtolflieiipnndaaW.PrintMore
set_option linter.unusedVariables false

theorem mapA {α β : Type} {f : α → β} {l : List α} : l.toArray.map f = (l.map f).toArray := List.map_toArray ..
theorem mapB {α β : Type} {f : α → β} {a : α} {l : List α} : (a :: l).map f = f a :: l.map f := rfl
theorem mapC {α β : Type} {f : α → β} : ([] : List α).map f = [] := rfl
theorem rd_of_C {k : IntKind} {w : World} {A : Option Addr} {n c : Nat} {l : List Int} (h : Kd.C (Kd.int k) w A n l) (hc : n ≤ c) : Rd w (.slice A n c) (numv k l) := by
  have hl : l.length = n := h.1
  have hm : n ≤ 9223372036854775807 := h.2.1
  refine ⟨A, c, by rw [numv_length, hl], by rw [numv_length, hl]; exact hc, by rw [numv_length, hl]; exact hm, fun hp => ?_⟩
  rw [numv_length, hl] at hp
  obtain ⟨ad, e, hg⟩ := h.2.2 hp
  have hcell : ∀ j, j < n → w.cell? (ad.add j) = some (.int k (l.getD j 0)) := by
    intro j hj
    obtain ⟨c', hc1, hc2, hc3⟩ := hg j (l.getD j 0) (by simp [List.getD_eq_getElem?_getD, show j < l.length by omega])
    have hc2' : c' = [.int k (l.getD j 0)] := hc2
    have := hc3 0 (.int k (l.getD j 0)) (by rw [hc2']; rfl)
    have hz : (Kd.int k).sz = 1 := rfl
    rw [hz, Nat.mul_one, Nat.add_zero] at this
    exact this
  refine ⟨ad, e, ?_, fun j u hu => ?_⟩
  · have := World.block_lt_of_cell? w _ (hcell 0 hp)
    rwa [add_blk] at this
  · have hj : j < n := by have := (List.getElem?_eq_some_iff.1 hu).1; rw [numv_length] at this; omega
    rw [numv_get k l j (by omega)] at hu
    injection hu with hu
    subst hu
    exact hcell j hj
theorem C_of_rd {k : IntKind} {w : World} {A : Option Addr} {n c : Nat} {l : List Int} (h : Rd w (.slice A n c) (numv k l)) : Kd.C (Kd.int k) w A n l ∧ n ≤ c ∧ n = l.length := by
  obtain ⟨A', c', he, h1, h2, h3⟩ := h
  injection he with e1 e2 e3
  rw [numv_length] at *
  subst e1 e3
  refine ⟨Kd.C_of_reads (d := (0 : Int)) (h1 := fun _ => rfl) ⟨e2.symm, by omega, fun hp => ?_⟩, by omega, e2⟩
  obtain ⟨ad, e, _, hc⟩ := h3 (by omega)
  exact ⟨ad, e, fun j hj => hc j _ (numv_get k l j (by omega))⟩
theorem R_of_ownN {k : IntKind} {e base n : Nat} {w : World} {v : Value} {l : List Int} {ok : Nat → Prop} (h : w.ownsRow base e 1 v n (numv k l)) (hn : n = l.length) (hok : ∀ k, v.ownBlock = some k → ok k) : Kd.R (Kd.int k) e w base ok v l := by
  subst hn
  exact Kd.R_of_own h hok
theorem own_of_RN {k : IntKind} {e base : Nat} {w : World} {v : Value} {l : List Int} {ok : Nat → Prop} (h : Kd.R (Kd.int k) e w base ok v l) : w.ownsRow base e 1 v l.length (numv k l) := Kd.own_of_R h
theorem rd_of_RN {k : IntKind} {e base : Nat} {w : World} {v : Value} {l : List Int} {ok : Nat → Prop} (h : Kd.R (Kd.int k) e w base ok v l) : Rd w v (numv k l) := Rd.of_own (own_of_RN h)
theorem rd_of_V {k : IntKind} {e base : Nat} {w : World} {v : Value} {l : List Int} {ok : Nat → Prop} (h : Kd.V (Kd.int k) e w base ok v l) : Rd w v (numv k l) := by
  obtain ⟨A, c, rfl, hc, hf⟩ := h
  exact rd_of_C (Kd.F_now hf) hc
/-- What reads, and lies in blocks of ok, is shared. -/
theorem V_of_rd {k : IntKind} {e base : Nat} {w : World} {v : Value} {l : List Int} {ok : Nat → Prop} (h : Rd w v (numv k l)) (hok : ∀ b, v.ownBlock = some b → ok b) : Kd.V (Kd.int k) e w base ok v l := by
  obtain ⟨A, c, he, h1, h2, h3⟩ := h
  rw [numv_length] at *
  subst he
  refine ⟨A, c, rfl, h1, fun W' hW => ?_⟩
  refine (C_of_rd (c := c) ⟨A, c, by rw [numv_length], by rw [numv_length]; exact h1, by rw [numv_length]; exact h2, fun hp => ?_⟩).1
  rw [numv_length] at hp
  obtain ⟨ad, rfl, hb, hc⟩ := h3 hp
  have hbk : W'.heap[ad.block]? = w.heap[ad.block]? := hW ad.block (hok _ rfl) hb
  refine ⟨ad, rfl, ?_, fun j u hu => ?_⟩
  · obtain ⟨o, ho⟩ : ∃ o, w.heap[ad.block]? = some o := ⟨_, Array.getElem?_eq_getElem hb⟩
    rw [ho] at hbk
    exact blkLt hbk
  · rw [World.cell?_of_block (w := w) (by rw [add_blk]; exact hbk)]
    exact hc j u hu

/-! Short names, for the printed texts' sake. -/
theorem vA {α : Type} {d : Kd α} {e base : Nat} {ok : Nat → Prop} {w : World} {v : Value} {xs : List α} (h : Kd.V d e w base ok v xs) (o : Obj) : Kd.V d e (w.alloc o) base ok v xs := Kd.V_alloc h o
theorem vN {α : Type} {d : Kd α} {e base : Nat} {ok : Nat → Prop} {w : World} {v : Value} {xs : List α} (h : Kd.V d e w base ok v xs) (m : Nat) : Kd.V d e (w.drewN m) base ok v xs := Kd.V_drewN h m
theorem vD {α : Type} {d : Kd α} {e base : Nat} {ok : Nat → Prop} {w : World} {v : Value} {xs : List α} (h : Kd.V d e w base ok v xs) : Kd.V d e w.drew base ok v xs := Kd.V_drew h
theorem rA {α : Type} {d : Kd α} {e base : Nat} {ok : Nat → Prop} {w : World} {v : Value} {xs : List α} (h : Kd.R d e w base ok v xs) (o : Obj) : Kd.R d e (w.alloc o) base ok v xs := Kd.R_alloc h o
theorem rN {α : Type} {d : Kd α} {e base : Nat} {ok : Nat → Prop} {w : World} {v : Value} {xs : List α} (h : Kd.R d e w base ok v xs) (m : Nat) : Kd.R d e (w.drewN m) base ok v xs := Kd.R_drewN h m
theorem rD {α : Type} {d : Kd α} {e base : Nat} {ok : Nat → Prop} {w : World} {v : Value} {xs : List α} (h : Kd.R d e w base ok v xs) : Kd.R d e w.drew base ok v xs := Kd.R_drew h
theorem sA {α : Type} {d : Kd α} {e base : Nat} {ok : Nat → Prop} {w : World} {v : Value} {xs : List α} (h : Kd.S d e w base ok v xs) (o : Obj) : Kd.S d e (w.alloc o) base ok v xs := Kd.S_alloc h o
theorem sN {α : Type} {d : Kd α} {e base : Nat} {ok : Nat → Prop} {w : World} {v : Value} {xs : List α} (h : Kd.S d e w base ok v xs) (m : Nat) : Kd.S d e (w.drewN m) base ok v xs := Kd.S_drewN h m
theorem sD {α : Type} {d : Kd α} {e base : Nat} {ok : Nat → Prop} {w : World} {v : Value} {xs : List α} (h : Kd.S d e w base ok v xs) : Kd.S d e w.drew base ok v xs := Kd.S_drew h
theorem qA {α : Type} {d : Kd α} {e base : Nat} {ok : Nat → Prop} {w : World} {v : Value} {xs : List α} (h : Kd.Q d e w base ok v xs) (o : Obj) : Kd.Q d e (w.alloc o) base ok v xs := Kd.Q_alloc h o
theorem qN {α : Type} {d : Kd α} {e base : Nat} {ok : Nat → Prop} {w : World} {v : Value} {xs : List α} (h : Kd.Q d e w base ok v xs) (m : Nat) : Kd.Q d e (w.drewN m) base ok v xs := Kd.Q_drewN h m
theorem qD {α : Type} {d : Kd α} {e base : Nat} {ok : Nat → Prop} {w : World} {v : Value} {xs : List α} (h : Kd.Q d e w base ok v xs) : Kd.Q d e w.drew base ok v xs := Kd.Q_drew h
theorem nA {α : Type} {d : Kd α} {e base : Nat} {ok : Nat → Prop} {w : World} {v : Value} {xs : List α} (h : Kd.N d e w base ok v xs) (o : Obj) : Kd.N d e (w.alloc o) base ok v xs := Kd.N_alloc h o
theorem nN {α : Type} {d : Kd α} {e base : Nat} {ok : Nat → Prop} {w : World} {v : Value} {xs : List α} (h : Kd.N d e w base ok v xs) (m : Nat) : Kd.N d e (w.drewN m) base ok v xs := Kd.N_drewN h m
theorem nD {α : Type} {d : Kd α} {e base : Nat} {ok : Nat → Prop} {w : World} {v : Value} {xs : List α} (h : Kd.N d e w base ok v xs) : Kd.N d e w.drew base ok v xs := Kd.N_drew h
theorem bA {w W : World} (h : Below w.heap.size w W) (o : Obj) : Below w.heap.size w (W.alloc o) := below_alloc h o
theorem bN {B : Nat} {w W : World} (h : Below B w W) (n : Nat) : Below B w (W.drewN n) := pw_below_drewN h n
theorem bD {B : Nat} {w W : World} (h : Below B w W) : Below B w W.drew := below_drew1 h
theorem lD {α : Type} {i : Nat} {l : List α} : (l.drop i).length = l.length - i := List.length_drop ..
theorem lT {α : Type} {i : Nat} {l : List α} : (l.take i).length = min i l.length := List.length_take ..
theorem aM {p : Prop} (h : p) : Aside0 p := ⟨h⟩
/-- A call of a function that has no body: the model answers here and now. -/
def CallsE (P : Program) (f : FuncId) (args : Array Value) (w : World) (R : Ending → World → Prop) : Prop := ∃ v, (callFunc f args).run P w = .ok (.value v) w ∧ R (.returned v) w
theorem CallsE.mono {P : Program} {f : FuncId} {args : Array Value} {w : World} {R R' : Ending → World → Prop} (h : CallsE P f args w R) (hr : ∀ e w', R e w' → R' e w') : CallsE P f args w R' := by
  obtain ⟨v, h1, h2⟩ := h
  exact ⟨v, h1, hr _ _ h2⟩
theorem goesE_ {P : Program} {ops : Array Oper} {Q : Exit → Act → World → Prop} {rest : List Oper} {oi : Oper} {a : Act} {w : World} (N : Option Tmp) (hd : oi.dst = N) (hg : oi.guard = none) {f : FuncId} {fn : Func} {oas : Array Operand} {ts : Array TypeId} (hf : P.funcs[f]? = some fn) (hname : (fn.name == "runtime.NumGoroutine") = false) (hb : fn.body.isNone = true) (args : Array Value)
    (hop : oi.op = .call { callee := .value (.func f), args := oas, argTypes := ts }) (hargs : oas.map a.eval = args)
    (h : CallsE P f args w fun e w' => ∃ v, e = .returned v ∧ wpList P ops Q rest (a.put N v) w') : wpList P ops Q (oi :: rest) a w := by
  refine wpList_plain hg fun K hK => ?_
  obtain ⟨v, hrun, v', he, hk⟩ := h
  injection he with he
  subst he
  subst hd
  have hr2 : (execOp a.eval oi).run P w = .ok (.value v) w := by
    unfold execOp
    simp [hop, resolve, Deferred.ofValue, invoke, Act.eval, hargs, hrun]
  unfold Oper.wp
  rw [hr2]
  exact hK _ _ hk
end Go.Proofs.Ytolflieiipnndaa.X

/-
  DERIVED: THE SHELF's CONTRACTS AT THIS DUMP, IN PLAIN WORDS (tools/lay-plain.mjs out of 'TryShelf.lean', which tools/lay-shelf.mjs wrote): THE SAME DECLARATIONS UNDER THE SAME NAMES: 'import', 'namespace', 'open', 'def', 'theorem' AND NOTHING ELSE: no command of the shelf's: FOR A HAND-IN. Each laying: the table of numbers ('.._ren') and one theorem, a field a fact of the dump's own or the kernel's comparison; each contract: ONE APPLICATION.
-/
namespace Go.Proofs
open Go.Shelf
def Try.lays134_ren : Go.Shelf.Ren := ⟨fun | 134 => 48 | 129 => 45 | n => n, fun | 53 => 46 | 3 => 3 | 4 => 4 | 46 => 73 | 5 => 5 | 9 => 9 | n => n, fun | n => n⟩
theorem Try.lays134 : Go.Proofs.Lays.n134 Try.prog Try.lays134_ren := {
  mixed := by kernel_rfl
  f129 := Try.func45.trans (congrArg some (by kernel_rfl))
  f134 := Try.func48.trans (congrArg some (by kernel_rfl))
  t3 := Try.underlying3
  a3 := Try.isAgg3
  z3 := Try.sizeOf3
  v3 := Try.zeroValue3
  t4 := Try.underlying4
  a4 := Try.isAgg4
  z4 := Try.sizeOf4
  v4 := Try.zeroValue4
  t5 := Try.underlying5
  a5 := Try.isAgg5
  z5 := Try.sizeOf5
  v5 := Try.zeroValue5
  t9 := Try.underlying9
  a9 := Try.isAgg9
  z9 := Try.sizeOf9
  v9 := Try.zeroValue9
  t46 := Try.underlying73
  a46 := Try.isAgg73
  z46 := Try.sizeOf73
  v46 := Try.zeroValue73
  t53 := Try.underlying46
  a53 := Try.isAgg46
  z53 := Try.sizeOf46
  v53 := Try.zeroValue46 }
/-- bits.LeadingZeros64: "LeadingZeros64 returns the number of leading zero bits in x; the result is 64 for x == 0.": IT RETURNS '64 - Lib.bitLen x'; the world is as it was. ITS CALLEE bits.Len64 IS MET BY ITS OWN CONTRACT OFF THE SHELF (lay that first): entered in place it sends the kernel out of memory. (LAID: no walk: one application.) -/
theorem Try.bits_LeadingZeros64 (x : Int) (w : World) (h0 : 0 ≤ x) (h1 : x ≤ 18446744073709551615) :
    Calls Try.prog 48 #[.int .u64 x] w fun e w' => e = .returned (.int .i64 (64 - (Lib.bitLen x.toNat : Int))) ∧ w' = w := Any.bits_LeadingZeros64 Try.lays134 x w h0 h1
def Try.lays129_ren : Go.Shelf.Ren := ⟨fun | 129 => 45 | n => n, fun | 53 => 46 | 3 => 3 | 4 => 4 | 46 => 73 | 5 => 5 | 9 => 9 | n => n, fun | n => n⟩
theorem Try.lays129 : Go.Proofs.Lays.n129 Try.prog Try.lays129_ren := {
  mixed := by kernel_rfl
  f129 := Try.func45.trans (congrArg some (by kernel_rfl))
  t3 := Try.underlying3
  a3 := Try.isAgg3
  z3 := Try.sizeOf3
  v3 := Try.zeroValue3
  t4 := Try.underlying4
  a4 := Try.isAgg4
  z4 := Try.sizeOf4
  v4 := Try.zeroValue4
  t5 := Try.underlying5
  a5 := Try.isAgg5
  z5 := Try.sizeOf5
  v5 := Try.zeroValue5
  t9 := Try.underlying9
  a9 := Try.isAgg9
  z9 := Try.sizeOf9
  v9 := Try.zeroValue9
  t46 := Try.underlying73
  a46 := Try.isAgg73
  z46 := Try.sizeOf73
  v46 := Try.zeroValue73
  t53 := Try.underlying46
  a53 := Try.isAgg46
  z53 := Try.sizeOf46
  v53 := Try.zeroValue46 }
/-- bits.Len64: "Len64 returns the minimum number of bits required to represent x; the result is 0 for x == 0.": IT RETURNS 'Lib.bitLen x'; the world is as it was. ('h0', 'h1': x is a uint64.) (LAID: no walk: one application.) -/
theorem Try.bits_Len64 (x : Int) (w : World) (h0 : 0 ≤ x) (h1 : x ≤ 18446744073709551615) :
    Calls Try.prog 45 #[.int .u64 x] w fun e w' => e = .returned (.int .i64 (Lib.bitLen x.toNat)) ∧ w' = w := Any.bits_Len64 Try.lays129 x w h0 h1
def Try.lays264_ren : Go.Shelf.Ren := ⟨fun | 264 => 46 | n => n, fun | 53 => 46 | 46 => 73 | n => n, fun | n => n⟩
theorem Try.lays264 : Go.Proofs.Lays.n264 Try.prog Try.lays264_ren := {
  mixed := by kernel_rfl
  f264 := Try.func46.trans (congrArg some (by kernel_rfl))
  t46 := Try.underlying73
  a46 := Try.isAgg73
  z46 := Try.sizeOf73
  v46 := Try.zeroValue73
  t53 := Try.underlying46
  a53 := Try.isAgg46
  z53 := Try.sizeOf46
  v53 := Try.zeroValue46 }
open Go.RowKit Go.Lib in
theorem Try.bits_Mul64 (x y : Nat) (hx : x < 18446744073709551616) (hy : y < 18446744073709551616) (w : World) :
    Calls Try.prog 46 #[.int .u64 x, .int .u64 y] w fun e w' => e = .returned (.tuple #[.int .u64 ((x * y / 18446744073709551616 : Nat) : Int), .int .u64 ((x * y % 18446744073709551616 : Nat) : Int)]) ∧ w' = w := Any.bits_Mul64 Try.lays264 x y hx hy w
end Go.Proofs

/- Leaves: the contracts of Go's library's functions (bits, slices.Clone) and of treenaillaw00.Code, in the printed texts' form. -/
namespace Go.Proofs.Ytolflieiipnndaa.X
open Go.RowKit Go.Proofs.Ytolflieiipnndaa Go.Proofs.YtolflieiipnndaaW.PrintWords Go.Proofs.YtolflieiipnndaaW.PrintLast Go.Proofs.YtolflieiipnndaaW.PrintMore
set_option linter.unusedVariables false

def bits_Add64.f (a b c : Int) : Option (Int × Int) := if (0 ≤ a ∧ 0 ≤ b) ∧ 0 ≤ c ∧ c ≤ 1 then some ((a + b + c) % 18446744073709551616, (a + b + c) / 18446744073709551616) else none
theorem bits_Add64.calls (a b c r1 r2 : Int) (w : World) (h : bits_Add64.f a b c = some (r1, r2)) :
    CallsE Try.prog 39 #[.int .u64 a, .int .u64 b, .int .u64 c] w fun e w' => e = .returned (.tuple #[.int .u64 r1, .int .u64 r2]) ∧ Drawn0 w w' := by
  unfold bits_Add64.f at h
  split at h
  case isFalse => cases h
  case isTrue hc =>
    obtain ⟨⟨h0, h1⟩, h2, h3⟩ := hc
    injection h with h
    injection h with e1 e2
    subst e1 e2
    refine ⟨_, ?_, rfl, Drawn0.refl _⟩
    rw [run_callFunc_extern Try.func39 (by kernel_rfl) (by kernel_rfl) (by kernel_rfl) (e := add64Entry) (by kernel_rfl), run_add64 a b c h0 h1 h2 h3]
    rfl
def bits_Sub64.f (a b c : Int) : Option (Int × Int) := if ((0 ≤ a ∧ a < 18446744073709551616) ∧ 0 ≤ b ∧ b < 18446744073709551616) ∧ 0 ≤ c ∧ c ≤ 1 then some ((a - b - c) % 18446744073709551616, if a < b + c then 1 else 0) else none
theorem bits_Sub64.calls (a b c r1 r2 : Int) (w : World) (h : bits_Sub64.f a b c = some (r1, r2)) :
    CallsE Try.prog 41 #[.int .u64 a, .int .u64 b, .int .u64 c] w fun e w' => e = .returned (.tuple #[.int .u64 r1, .int .u64 r2]) ∧ Drawn0 w w' := by
  unfold bits_Sub64.f at h
  split at h
  case isFalse => cases h
  case isTrue hc =>
    obtain ⟨⟨⟨h0, h0'⟩, h1, h1'⟩, h2, h3⟩ := hc
    injection h with h
    injection h with e1 e2
    obtain ⟨x, rfl⟩ := Int.eq_ofNat_of_zero_le h0
    obtain ⟨y, rfl⟩ := Int.eq_ofNat_of_zero_le h1
    obtain ⟨z, rfl⟩ := Int.eq_ofNat_of_zero_le h2
    refine ⟨.tuple #[.int .u64 r1, .int .u64 r2], ?_, rfl, Drawn0.refl _⟩
    rw [run_callFunc_extern Try.func41 (by kernel_rfl) (by kernel_rfl) (by kernel_rfl) (e := sub64Entry) (by kernel_rfl), run_sub64 x y z (by omega)]
    have g1 : (((x + 18446744073709551616 - y - z) % 18446744073709551616 : Nat) : Int) = r1 := by rw [← e1]; omega
    have g2 : ((if x < y + z then 1 else 0 : Nat) : Int) = r2 := by
      rw [← e2]
      by_cases hh : x < y + z
      · rw [if_pos hh, if_pos (by omega)]; rfl
      · rw [if_neg hh, if_neg (by omega)]; rfl
    rw [g1, g2]
    rfl
def bits_Mul64.f (a b : Int) : Option (Int × Int) := if (0 ≤ a ∧ a < 18446744073709551616) ∧ 0 ≤ b ∧ b < 18446744073709551616 then some (a * b / 18446744073709551616, a * b % 18446744073709551616) else none
theorem bits_Mul64.calls (a b r1 r2 : Int) (w : World) (h : bits_Mul64.f a b = some (r1, r2)) :
    Calls Try.prog 46 #[.int .u64 a, .int .u64 b] w fun e w' => e = .returned (.tuple #[.int .u64 r1, .int .u64 r2]) ∧ Drawn0 w w' := by
  unfold bits_Mul64.f at h
  split at h
  case isFalse => cases h
  case isTrue hc =>
    obtain ⟨⟨h0, h0'⟩, h1, h1'⟩ := hc
    injection h with h
    injection h with e1 e2
    subst e1 e2
    obtain ⟨x, rfl⟩ := Int.eq_ofNat_of_zero_le h0
    obtain ⟨y, rfl⟩ := Int.eq_ofNat_of_zero_le h1
    refine (Try.bits_Mul64 x y (by omega) (by omega) w).mono ?_
    rintro e w' ⟨rfl, rfl⟩
    refine ⟨?_, Drawn0.refl _⟩
    rw [Int.natCast_ediv, Int.natCast_emod, Int.natCast_mul]
    rfl
def bits_Len64.f (a : Int) : Option Int := if 0 ≤ a ∧ a ≤ 18446744073709551615 then some (Lib.bitLen a.toNat : Int) else none
theorem bits_Len64.calls (a r : Int) (w : World) (h : bits_Len64.f a = some r) :
    Calls Try.prog 45 #[.int .u64 a] w fun e w' => e = .returned (.int .i64 r) ∧ Drawn0 w w' := by
  unfold bits_Len64.f at h
  split at h
  case isFalse => cases h
  case isTrue hc =>
    injection h with e1
    subst e1
    refine (Try.bits_Len64 a w hc.1 hc.2).mono ?_
    rintro e w' ⟨rfl, rfl⟩
    exact ⟨rfl, Drawn0.refl _⟩
def codeOf (e : Option Int) : Int := match e with | none => 0 | some c => if 1 ≤ c ∧ c ≤ 15 then c else -1
def treenaillaw00_Code.f (e : Option Int) : Option Int := some (codeOf e)
theorem codeOf_at (c : Int) : codeOf (some c) = if 1 ≤ c ∧ c ≤ 15 then c else -1 := rfl
set_option maxHeartbeats 1000000 in
theorem treenaillaw00_Code.calls (a : Option Int) (r : Int) (w : World) (h : treenaillaw00_Code.f a = some r) :
    Calls Try.prog 30 #[errW a] w fun e w' => e = .returned (.int .i64 r) ∧ Drawn0 w w' := by
  injection h with h
  subst h
  have hu := Try.underlying27
  have hc := Try.underlying32
  have ec := eql_code
  rcases a with _ | c
  · simp only [errW_none]
    go_enter Try.func30, Try.ntmps30
    go_wp2
    go_ret
    exact ⟨rfl, Drawn0.refl _⟩
  · simp only [errW_some]
    go_enter Try.func30, Try.ntmps30
    go_wp2
    go_loop [3] (fun i => ∃ k : Nat, i = .int .i64 (k : Nat) ∧ 1 ≤ k ∧ k ≤ 16 ∧ ∀ j : Nat, 1 ≤ j → j < k → c ≠ (j : Int)) (fun i => 16 - (intOf i).toNat)
    case atStart => exact ⟨1, rfl, by omega, by omega, fun j h1 h2 => by omega⟩
    case round =>
      obtain ⟨k, rfl, h1, h2, h3⟩ := hrel
      have H3 := Lib.hid h3
      clear h3
      by_cases hk : k ≤ 15
      · have hk' : (k : Int) ≤ 15 := by omega
        by_cases he : c = (k : Int)
        · have hb : (c == (k : Int)) = true := by simpa using he
          have HE := Lib.hid he
          clear he
          go_wp2
          go_ret
          refine ⟨?_, Drawn0.refl _⟩
          rw [codeOf_at, HE.out, if_pos (by omega)]
          rfl
        · have hb : (c == (k : Int)) = false := by simpa using he
          go_wp2
          go_round
          case rel =>
            refine ⟨k + 1, by go_num, by omega, by omega, fun j h1 h2 => ?_⟩
            by_cases hjk : j = k
            · subst hjk; exact he
            · exact H3.out j h1 (by omega)
          case measure => simp [intOf]; omega
      · have hk' : (15 : Int) < (k : Int) := by omega
        have HC := Lib.hid (show codeOf (some c) = -1 by
          rw [codeOf_at, if_neg]
          rintro ⟨g1, g2⟩
          exact H3.out c.toNat (by omega) (by omega) (by omega))
        go_wp2
        go_ret
        rw [HC.out]
        exact ⟨rfl, Drawn0.refl _⟩
theorem app_u64_info : (Try.prog.info? 46).map (fun i => (i.zero, i.size, i.bytes)) = some (some (.int .u64 0), 1, 8) := by kernel_rfl
def api_Nat_uint64.f (l : List Int) : Option (List Int) := if l.length ≤ 17592186044415 then some l else none
theorem api_Nat_uint64.calls (A0 : Option Addr) (c0 : Nat) (l0 : List Int) (r : List Int) (w : World) (hr0 : Kd.C (Kd.int .u64) w A0 l0.length l0) (hc0 : l0.length ≤ c0) (h : api_Nat_uint64.f l0 = some r) :
    Calls Try.prog 44 #[.slice A0 l0.length c0] w fun e w' => ∃ v0_ : Value, e = .returned (v0_) ∧ Kd.R (Kd.int .u64) 46 w' w.heap.size (fun _ => True) v0_ r ∧ Below w.heap.size w w' := by
  unfold api_Nat_uint64.f at h
  split at h
  case isFalse => cases h
  case isTrue hc =>
  injection h with h
  subst h
  have hn := rd_of_C hr0 hc0
  rcases A0 with _ | ad
  · have h0 : l0 = [] := by
      rcases Nat.eq_zero_or_pos l0.length with h0 | h0
      · exact List.eq_nil_of_length_eq_zero h0
      · obtain ⟨ad, ha, _⟩ := hr0.2.2 h0
        cases ha
    subst h0
    have hq := fun (W : World) => Go.run_eql_slice_nil (P := Try.prog) W 23 46 none 0 c0 Try.underlying23
    go_enter Try.func44, Try.ntmps44
    go_wp2
    go_ret
    exact ⟨_, rfl, Kd.R_nil _ _ _ _ _, Below.refl _ _⟩
  · have hq := fun (W : World) => Go.run_eql_slice_nil (P := Try.prog) W 23 46 (some ad) l0.length c0 Try.underlying23
    have HN := Lib.hid hn
    have HL := Lib.hid hc
    clear hn hr0 hc0 hc
    have HB := Lib.hid ((Below.refl w.heap.size w).alloc (Nat.le_refl _) (.cells #[] 46))
    have HR := Lib.hid (HN.out.below HB.out)
    have HO0 := Lib.hid (World.ownsRow_made (e := 46) (size := 1) w #[] 0 (Nat.le_refl _) (by simp [maxLen]) (by simp))
    have HI := Lib.hid app_u64_info
    have HLB := Lib.hid (show (0 + (numv .u64 l0).length) * 8 ≤ 140737488355328 by rw [numv_length]; have := HL.out; omega)
    go_enter Try.func44, Try.ntmps44
    go_wp2_with (at_builtin; refine wpList_app _ rfl _ _ _ rfl w.heap.size 46 (.int .u64 0) 8 Try.underlying23 HI.out rfl _ 0 [] (by rfl) HO0.out _ (numv .u64 l0) (by rfl) HR.out (numv_one _ _) HLB.out (by omega) HB.out.size ?_)
    intro A c w2 hown hg hat
    have HO := Lib.hid hown
    have HB2 := Lib.hid (HB.out.grown hg (by simp) (by intro k hk; simp [Value.ownBlock] at hk; omega))
    clear hown hg hat
    go_wp2
    go_ret
    exact ⟨_, rfl, R_of_ownN HO.out (by simp [numv_length]) (fun _ _ => trivial), HB2.out⟩
end Go.Proofs.Ytolflieiipnndaa.X
