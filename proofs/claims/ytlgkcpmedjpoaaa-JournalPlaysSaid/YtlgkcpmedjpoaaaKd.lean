/- Between our own words (rows that read, rows of the call's own) and the printed texts'; calls of functions without a body. -/
import Derived.Test.YtlgkcpmedjpoaaaXP0
import Derived.Test.YtlgkcpmedjpoaaaBase
import Derived.Laws.Externs
namespace Go.Proofs.Ytlgkcpmedjpoaaa.X
open Go.RowKit Go.Proofs.Ytlgkcpmedjpoaaa Go.Proofs.YtlgkcpmedjpoaaaW.PrintWords Go.Proofs.YtlgkcpmedjpoaaaW.PrintLast Go.Proofs.YtlgkcpmedjpoaaaW.PrintMore
set_option linter.unusedVariables false

theorem mapA {α β : Type} {f : α → β} {l : List α} : l.toArray.map f = (l.map f).toArray := List.map_toArray ..
theorem mapB {α β : Type} {f : α → β} {a : α} {l : List α} : (a :: l).map f = f a :: l.map f := rfl
theorem mapC {α β : Type} {f : α → β} : ([] : List α).map f = [] := rfl
theorem rd_of_C {k : IntKind} {w : World} {A : Option Addr} {n c : Nat} {l : List Int} (h : Kd.C (Kd.int k) w A n l) (hc : n ≤ c) : Rd w (.slice A n c) (numv k l) := by
  have hl : l.length = n := h.1
  have hm : n ≤ 9223372036854775807 := h.2.1
  refine ⟨A, c, by rw [numv_length, hl], by rw [numv_length, hl]; exact hc, by rw [numv_length, hl]; exact hm, fun hp => ?_⟩
  rw [numv_length, hl] at hp
  obtain ⟨ad, e, hg⟩ := h.2.2 hp
  have hcell : ∀ j, j < n → w.cell? (ad.add j) = some (.int k (l.getD j 0)) := by
    intro j hj
    obtain ⟨c', hc1, hc2, hc3⟩ := hg j (l.getD j 0) (by simp [List.getD_eq_getElem?_getD, show j < l.length by omega])
    have hc2' : c' = [.int k (l.getD j 0)] := hc2
    have := hc3 0 (.int k (l.getD j 0)) (by rw [hc2']; rfl)
    have hz : (Kd.int k).sz = 1 := rfl
    rw [hz, Nat.mul_one, Nat.add_zero] at this
    exact this
  refine ⟨ad, e, ?_, fun j u hu => ?_⟩
  · have := World.block_lt_of_cell? w _ (hcell 0 hp)
    rwa [add_blk] at this
  · have hj : j < n := by have := (List.getElem?_eq_some_iff.1 hu).1; rw [numv_length] at this; omega
    rw [numv_get k l j (by omega)] at hu
    injection hu with hu
    subst hu
    exact hcell j hj
theorem C_of_rd {k : IntKind} {w : World} {A : Option Addr} {n c : Nat} {l : List Int} (h : Rd w (.slice A n c) (numv k l)) : Kd.C (Kd.int k) w A n l ∧ n ≤ c ∧ n = l.length := by
  obtain ⟨A', c', he, h1, h2, h3⟩ := h
  injection he with e1 e2 e3
  rw [numv_length] at *
  subst e1 e3
  refine ⟨Kd.C_of_reads (d := (0 : Int)) (h1 := fun _ => rfl) ⟨e2.symm, by omega, fun hp => ?_⟩, by omega, e2⟩
  obtain ⟨ad, e, _, hc⟩ := h3 (by omega)
  exact ⟨ad, e, fun j hj => hc j _ (numv_get k l j (by omega))⟩
theorem R_of_ownN {k : IntKind} {e base n : Nat} {w : World} {v : Value} {l : List Int} {ok : Nat → Prop} (h : w.ownsRow base e 1 v n (numv k l)) (hn : n = l.length) (hok : ∀ k, v.ownBlock = some k → ok k) : Kd.R (Kd.int k) e w base ok v l := by
  subst hn
  exact Kd.R_of_own h hok
theorem own_of_RN {k : IntKind} {e base : Nat} {w : World} {v : Value} {l : List Int} {ok : Nat → Prop} (h : Kd.R (Kd.int k) e w base ok v l) : w.ownsRow base e 1 v l.length (numv k l) := Kd.own_of_R h
theorem rd_of_RN {k : IntKind} {e base : Nat} {w : World} {v : Value} {l : List Int} {ok : Nat → Prop} (h : Kd.R (Kd.int k) e w base ok v l) : Rd w v (numv k l) := Rd.of_own (own_of_RN h)
theorem rd_of_V {k : IntKind} {e base : Nat} {w : World} {v : Value} {l : List Int} {ok : Nat → Prop} (h : Kd.V (Kd.int k) e w base ok v l) : Rd w v (numv k l) := by
  obtain ⟨A, c, rfl, hc, hf⟩ := h
  exact rd_of_C (Kd.F_now hf) hc
/-- What reads, and lies in blocks of ok, is shared. -/
theorem V_of_rd {k : IntKind} {e base : Nat} {w : World} {v : Value} {l : List Int} {ok : Nat → Prop} (h : Rd w v (numv k l)) (hok : ∀ b, v.ownBlock = some b → ok b) : Kd.V (Kd.int k) e w base ok v l := by
  obtain ⟨A, c, he, h1, h2, h3⟩ := h
  rw [numv_length] at *
  subst he
  refine ⟨A, c, rfl, h1, fun W' hW => ?_⟩
  refine (C_of_rd (c := c) ⟨A, c, by rw [numv_length], by rw [numv_length]; exact h1, by rw [numv_length]; exact h2, fun hp => ?_⟩).1
  rw [numv_length] at hp
  obtain ⟨ad, rfl, hb, hc⟩ := h3 hp
  have hbk : W'.heap[ad.block]? = w.heap[ad.block]? := hW ad.block (hok _ rfl) hb
  refine ⟨ad, rfl, ?_, fun j u hu => ?_⟩
  · obtain ⟨o, ho⟩ : ∃ o, w.heap[ad.block]? = some o := ⟨_, Array.getElem?_eq_getElem hb⟩
    rw [ho] at hbk
    exact blkLt hbk
  · rw [World.cell?_of_block (w := w) (by rw [add_blk]; exact hbk)]
    exact hc j u hu

/-! Short names, for the printed texts' sake. -/
theorem vA {α : Type} {d : Kd α} {e base : Nat} {ok : Nat → Prop} {w : World} {v : Value} {xs : List α} (h : Kd.V d e w base ok v xs) (o : Obj) : Kd.V d e (w.alloc o) base ok v xs := Kd.V_alloc h o
theorem vN {α : Type} {d : Kd α} {e base : Nat} {ok : Nat → Prop} {w : World} {v : Value} {xs : List α} (h : Kd.V d e w base ok v xs) (m : Nat) : Kd.V d e (w.drewN m) base ok v xs := Kd.V_drewN h m
theorem vD {α : Type} {d : Kd α} {e base : Nat} {ok : Nat → Prop} {w : World} {v : Value} {xs : List α} (h : Kd.V d e w base ok v xs) : Kd.V d e w.drew base ok v xs := Kd.V_drew h
theorem rA {α : Type} {d : Kd α} {e base : Nat} {ok : Nat → Prop} {w : World} {v : Value} {xs : List α} (h : Kd.R d e w base ok v xs) (o : Obj) : Kd.R d e (w.alloc o) base ok v xs := Kd.R_alloc h o
theorem rN {α : Type} {d : Kd α} {e base : Nat} {ok : Nat → Prop} {w : World} {v : Value} {xs : List α} (h : Kd.R d e w base ok v xs) (m : Nat) : Kd.R d e (w.drewN m) base ok v xs := Kd.R_drewN h m
theorem rD {α : Type} {d : Kd α} {e base : Nat} {ok : Nat → Prop} {w : World} {v : Value} {xs : List α} (h : Kd.R d e w base ok v xs) : Kd.R d e w.drew base ok v xs := Kd.R_drew h
theorem sA {α : Type} {d : Kd α} {e base : Nat} {ok : Nat → Prop} {w : World} {v : Value} {xs : List α} (h : Kd.S d e w base ok v xs) (o : Obj) : Kd.S d e (w.alloc o) base ok v xs := Kd.S_alloc h o
theorem sN {α : Type} {d : Kd α} {e base : Nat} {ok : Nat → Prop} {w : World} {v : Value} {xs : List α} (h : Kd.S d e w base ok v xs) (m : Nat) : Kd.S d e (w.drewN m) base ok v xs := Kd.S_drewN h m
theorem sD {α : Type} {d : Kd α} {e base : Nat} {ok : Nat → Prop} {w : World} {v : Value} {xs : List α} (h : Kd.S d e w base ok v xs) : Kd.S d e w.drew base ok v xs := Kd.S_drew h
theorem qA {α : Type} {d : Kd α} {e base : Nat} {ok : Nat → Prop} {w : World} {v : Value} {xs : List α} (h : Kd.Q d e w base ok v xs) (o : Obj) : Kd.Q d e (w.alloc o) base ok v xs := Kd.Q_alloc h o
theorem qN {α : Type} {d : Kd α} {e base : Nat} {ok : Nat → Prop} {w : World} {v : Value} {xs : List α} (h : Kd.Q d e w base ok v xs) (m : Nat) : Kd.Q d e (w.drewN m) base ok v xs := Kd.Q_drewN h m
theorem qD {α : Type} {d : Kd α} {e base : Nat} {ok : Nat → Prop} {w : World} {v : Value} {xs : List α} (h : Kd.Q d e w base ok v xs) : Kd.Q d e w.drew base ok v xs := Kd.Q_drew h
theorem nA {α : Type} {d : Kd α} {e base : Nat} {ok : Nat → Prop} {w : World} {v : Value} {xs : List α} (h : Kd.N d e w base ok v xs) (o : Obj) : Kd.N d e (w.alloc o) base ok v xs := Kd.N_alloc h o
theorem nN {α : Type} {d : Kd α} {e base : Nat} {ok : Nat → Prop} {w : World} {v : Value} {xs : List α} (h : Kd.N d e w base ok v xs) (m : Nat) : Kd.N d e (w.drewN m) base ok v xs := Kd.N_drewN h m
theorem nD {α : Type} {d : Kd α} {e base : Nat} {ok : Nat → Prop} {w : World} {v : Value} {xs : List α} (h : Kd.N d e w base ok v xs) : Kd.N d e w.drew base ok v xs := Kd.N_drew h
theorem bA {w W : World} (h : Below w.heap.size w W) (o : Obj) : Below w.heap.size w (W.alloc o) := below_alloc h o
theorem bN {B : Nat} {w W : World} (h : Below B w W) (n : Nat) : Below B w (W.drewN n) := pw_below_drewN h n
theorem bD {B : Nat} {w W : World} (h : Below B w W) : Below B w W.drew := below_drew1 h
theorem lD {α : Type} {i : Nat} {l : List α} : (l.drop i).length = l.length - i := List.length_drop ..
theorem lT {α : Type} {i : Nat} {l : List α} : (l.take i).length = min i l.length := List.length_take ..
theorem aM {p : Prop} (h : p) : Aside0 p := ⟨h⟩
/-- A call of a function that has no body: the model answers here and now. -/
def CallsE (P : Program) (f : FuncId) (args : Array Value) (w : World) (R : Ending → World → Prop) : Prop := ∃ v, (callFunc f args).run P w = .ok (.value v) w ∧ R (.returned v) w
theorem CallsE.mono {P : Program} {f : FuncId} {args : Array Value} {w : World} {R R' : Ending → World → Prop} (h : CallsE P f args w R) (hr : ∀ e w', R e w' → R' e w') : CallsE P f args w R' := by
  obtain ⟨v, h1, h2⟩ := h
  exact ⟨v, h1, hr _ _ h2⟩
theorem goesE_ {P : Program} {ops : Array Oper} {Q : Exit → Act → World → Prop} {rest : List Oper} {oi : Oper} {a : Act} {w : World} (N : Option Tmp) (hd : oi.dst = N) (hg : oi.guard = none) {f : FuncId} {fn : Func} {oas : Array Operand} {ts : Array TypeId} (hf : P.funcs[f]? = some fn) (hname : (fn.name == "runtime.NumGoroutine") = false) (hb : fn.body.isNone = true) (args : Array Value)
    (hop : oi.op = .call { callee := .value (.func f), args := oas, argTypes := ts }) (hargs : oas.map a.eval = args)
    (h : CallsE P f args w fun e w' => ∃ v, e = .returned v ∧ wpList P ops Q rest (a.put N v) w') : wpList P ops Q (oi :: rest) a w := by
  refine wpList_plain hg fun K hK => ?_
  obtain ⟨v, hrun, v', he, hk⟩ := h
  injection he with he
  subst he
  subst hd
  have hr2 : (execOp a.eval oi).run P w = .ok (.value v) w := by
    unfold execOp
    simp [hop, resolve, Deferred.ofValue, invoke, Act.eval, hargs, hrun]
  unfold Oper.wp
  rw [hr2]
  exact hK _ _ hk
end Go.Proofs.Ytlgkcpmedjpoaaa.X
