/- Joined: As, AsB. -/
import Derived.Test.YtolflieiipnndaaDoorMg25
import Derived.Test.YtolflieiipnndaaDoorMg27
import Derived.Stop.Asserts
import Derived.RowKitTokens
/- errors.As at the target **api.Spot: whose error is a Code: false. (After the kit's worked example ToyasAs.) And the comparison of two errors by treenaillaw00.Same: both none; both one Code. The fuel 222 of 'Go.method' is 100 more than this dump's types. -/
namespace Go.Proofs.YtolflieiipnndaaDoor
open Go.RowKit Go.Extern.Stop Go.Stop Go.Extern
set_option linter.unusedVariables false
theorem Z.valueOf (t : Addr) (w : World) : (ReflectliteValue.unpack (.iface 52 (.pointer (some t)))).run Tryd.prog w
    = .ok (.agg #[.pointer (some ⟨3, 52, none⟩), .pointer (some ⟨w.heap.size, 0, none⟩), .int .u64 150]) (w.alloc (.cells #[.pointer (some t)] 52)) := by kernel_rfl
theorem Z.type (a : Addr) (w : World) : (ReflectliteValue.methodAny (ReflectliteValue.valueError "reflectlite.Value.Type" 0) (fun t _ _ _ => ReflectliteType.toType t) #[.agg #[.pointer (some ⟨3, 52, none⟩), .pointer (some a), .int .u64 150]]).run Tryd.prog w
    = .ok (.iface 72 (.agg #[.pointer (some ⟨3, 52, none⟩)])) w := by kernel_rfl
theorem Z.methodKind (h : Value) (w : World) : (Go.method 222 72 (.agg #[h]) "Kind").run Tryd.prog w = .ok (55, h) w := by kernel_rfl
theorem Z.kindPP (w : World) : ((ReflectliteType.abiMethod fun t => (fun a : Nat => Value.int IntKind.u8 (a : Int)) <$> Rtype.kind t) #[.pointer (some ⟨3, 52, none⟩)]).run Tryd.prog w = .ok (.int .u8 22) w := by kernel_rfl
theorem Z.kindP (w : World) : ((ReflectliteType.abiMethod fun t => (fun a : Nat => Value.int IntKind.u8 (a : Int)) <$> Rtype.kind t) #[.pointer (some ⟨3, 50, none⟩)]).run Tryd.prog w = .ok (.int .u8 22) w := by kernel_rfl
theorem Z.rlm (z : Sem Value) (f : TypeId → Addr → Nat → Nat → Sem Value) (v : Value) :
    ReflectliteValue.method z f #[v] = (do match ← ReflectliteValue.parts v with | none => z | some (t, a, fl) => f t a fl (fl % 32)) := rfl
theorem Z.parts (a : Addr) (w : World) : (ReflectliteValue.parts (.agg #[.pointer (some ⟨3, 52, none⟩), .pointer (some a), .int .u64 150])).run Tryd.prog w = .ok (some (52, a, 150)) w := by kernel_rfl
theorem Z.isNil (a p : Addr) (W : World) (ha : W.cell? a = some (.pointer (some p))) :
    (ReflectliteValue.method (ReflectliteValue.valueError "reflectlite.Value.IsNil" 0) ReflectliteValue.isNil #[.agg #[.pointer (some ⟨3, 52, none⟩), .pointer (some a), .int .u64 150]]).run Tryd.prog W = .ok (.bool false) W := by
  rw [Z.rlm]
  simp only [Sem.run_bind, Z.parts, Result.andThen]
  simp [ReflectliteValue.isNil, loadVar, isAgg, underlying, Tryd.underlying52, ha, Result.andThen]
theorem Z.methodElem (h : Value) (w : World) : (Go.method 222 72 (.agg #[h]) "Elem").run Tryd.prog w = .ok (67, .agg #[h]) w := by kernel_rfl
theorem Z.methodImplements (h : Value) (w : World) : (Go.method 222 72 (.agg #[h]) "Implements").run Tryd.prog w = .ok (68, .agg #[h]) w := by kernel_rfl
theorem Z.methodAssignableTo (h : Value) (w : World) : (Go.method 222 72 (.agg #[h]) "AssignableTo").run Tryd.prog w = .ok (65, .agg #[h]) w := by kernel_rfl
theorem Z.elem (w : World) : (ReflectliteType.method ReflectliteType.elem #[.agg #[.pointer (some ⟨3, 52, none⟩)]]).run Tryd.prog w = .ok (.iface 72 (.agg #[.pointer (some ⟨3, 50, none⟩)])) w := by kernel_rfl
theorem Z.implements (w : World) : (ReflectliteType.relation "Implements" ReflectliteType.implements_ #[.agg #[.pointer (some ⟨3, 50, none⟩)], .iface 72 (.agg #[.pointer (some ⟨3, 27, none⟩)])]).run Tryd.prog w = .ok (.bool true) w := by kernel_rfl
theorem Z.typeOf (v : Value) (w : World) : (ReflectliteType.typeOf #[.iface 41 v]).run Tryd.prog w = .ok (.iface 72 (.agg #[.pointer (some ⟨3, 41, none⟩)])) w := by kernel_rfl
theorem Z.assignable (w : World) : (ReflectliteType.relation "AssignableTo" ReflectliteType.assignableTo #[.agg #[.pointer (some ⟨3, 41, none⟩)], .iface 72 (.agg #[.pointer (some ⟨3, 50, none⟩)])]).run Tryd.prog w = .ok (.bool false) w := by kernel_rfl
theorem Z.noAs (v : Value) (xT : TypeId) (w : World) : (Instr.typeAssert (.iface 41 v) xT 77 true).run Tryd.prog w = .ok (.tuple #[.nilIface, .bool false]) w :=
  run_typeAssert_lacksB Tryd.underlying77 (by kernel_rfl) (by kernel_rfl) v xT w
theorem Z.noUnwrap (v : Value) (xT : TypeId) (w : World) : (Instr.typeAssert (.iface 41 v) xT 80 true).run Tryd.prog w = .ok (.tuple #[.nilIface, .bool false]) w :=
  run_typeAssert_lacksB Tryd.underlying80 (by kernel_rfl) (by kernel_rfl) v xT w
theorem Z.noUnwraps (v : Value) (xT : TypeId) (w : World) : (Instr.typeAssert (.iface 41 v) xT 82 true).run Tryd.prog w = .ok (.tuple #[.nilIface, .bool false]) w :=
  run_typeAssert_lacksB Tryd.underlying82 (by kernel_rfl) (by kernel_rfl) v xT w

/-- errors.As at a Code and a target **api.Spot. -/
def Z.wAs (t : Addr) (w : World) : World :=
  ((w.alloc (.cells #[.pointer (some t)] 52)).alloc (.cells #[.pointer (some ⟨3, 52, none⟩), .pointer (some ⟨w.heap.size, 0, none⟩), .int .u64 150] 62)).alloc (.cells #[.pointer (some ⟨3, 52, none⟩), .pointer (some ⟨w.heap.size, 0, none⟩), .int .u64 150] 62)
set_option maxHeartbeats 4000000 in
theorem Z.as_miss (v : Value) (t : Addr) (w : World) (hg : w.cell? ⟨0, 0, none⟩ = some (.iface 72 (.agg #[.pointer (some ⟨3, 27, none⟩)]))) :
    Calls Tryd.prog 25 #[.iface 41 v, .iface 52 (.pointer (some t))] w fun ev w' => ev = .returned (.bool false) ∧ w' = Z.wAs t w := by
  have h6 := @run_callFunc_extern Tryd.prog 32 _ (fun args => ReflectliteValue.unpack (args.getD 0 (.tuple #[]))) Tryd.func32 (by kernel_rfl) (by kernel_rfl) (by kernel_rfl) (by kernel_rfl)
  have h7 := @run_callFunc_extern Tryd.prog 33 _ (ReflectliteValue.methodAny (ReflectliteValue.valueError "reflectlite.Value.Type" 0) (fun t _ _ _ => ReflectliteType.toType t)) Tryd.func33 (by kernel_rfl) (by kernel_rfl) (by kernel_rfl) (by kernel_rfl)
  have h8 := @run_callFunc_extern Tryd.prog 34 _ (ReflectliteValue.method (ReflectliteValue.valueError "reflectlite.Value.IsNil" 0) ReflectliteValue.isNil) Tryd.func34 (by kernel_rfl) (by kernel_rfl) (by kernel_rfl) (by kernel_rfl)
  have h27 := @run_callFunc_extern Tryd.prog 55 _ (ReflectliteType.abiMethod fun t => do pure (.int .u8 (← Rtype.kind t))) Tryd.func55 (by kernel_rfl) (by kernel_rfl) (by kernel_rfl) (by kernel_rfl)
  have h37 := @run_callFunc_extern Tryd.prog 67 _ (ReflectliteType.method ReflectliteType.elem) Tryd.func67 (by kernel_rfl) (by kernel_rfl) (by kernel_rfl) (by kernel_rfl)
  have h38 := @run_callFunc_extern Tryd.prog 68 _ (ReflectliteType.relation "Implements" ReflectliteType.implements_) Tryd.func68 (by kernel_rfl) (by kernel_rfl) (by kernel_rfl) (by kernel_rfl)
  have h10 := @run_callFunc_extern Tryd.prog 37 _ ReflectliteType.typeOf Tryd.func37 (by kernel_rfl) (by kernel_rfl) (by kernel_rfl) (by kernel_rfl)
  have h35 := @run_callFunc_extern Tryd.prog 65 _ (ReflectliteType.relation "AssignableTo" ReflectliteType.assignableTo) Tryd.func65 (by kernel_rfl) (by kernel_rfl) (by kernel_rfl) (by kernel_rfl)
  have tO := Z.typeOf
  have mA := Z.methodAssignableTo
  have a25 := Z.assignable
  have f6 := Z.valueOf
  have f7 := Z.type
  have mK := Z.methodKind
  have mE := Z.methodElem
  have mI := Z.methodImplements
  have k27 := Z.kindPP
  have k25 := Z.kindP
  have e27 := Z.elem
  have i25 := Z.implements
  have nA := Z.noAs
  have nU := Z.noUnwrap
  have nV := Z.noUnwraps
  have n8 := Z.isNil ⟨w.heap.size, 0, none⟩ t ((w.alloc (.cells #[.pointer (some t)] 52)).alloc (.cells #[.pointer (some ⟨3, 52, none⟩), .pointer (some ⟨w.heap.size, 0, none⟩), .int .u64 150] 62)) (by simp)
  have hlt : 0 < w.heap.size := by
    rcases Nat.eq_zero_or_pos w.heap.size with h0 | h
    · simp [World.cell?, h0] at hg
    · exact h
  have hg2 : ((w.alloc (.cells #[.pointer (some t)] 52)).alloc (.cells #[.pointer (some ⟨3, 52, none⟩), .pointer (some ⟨w.heap.size, 0, none⟩), .int .u64 150] 62)).cell? ⟨0, 0, none⟩ = some (.iface 72 (.agg #[.pointer (some ⟨3, 27, none⟩)])) := by
    rw [World.cell?_alloc_lt _ _ ⟨0, 0, none⟩ (by simp), World.cell?_alloc_lt _ _ ⟨0, 0, none⟩ hlt]; exact hg
  go_enter Tryd.func25, Tryd.ntmps25
  go_wp2
  refine wp_loop_rounds 1 ?_
  rw [rounds_succ]
  go_wp2
  go_ret
  exact ⟨rfl, rfl⟩
end Go.Proofs.YtolflieiipnndaaDoor

/- Two errors alike by treenaillaw00.Same: none, or one Code of api's. -/
namespace Go.Proofs.YtolflieiipnndaaDoor
open Go.RowKit Go.Extern.Stop Go.Stop Go.Extern Go.Proofs.YtolflieiipnndaaDoorW.PrintWords Go.Proofs.YtolflieiipnndaaDoorW.PrintLast Go.Proofs.YtolflieiipnndaaDoorW.PrintMore
set_option linter.unusedVariables false
/-- The variable errors.errorType, as the row lists it. -/
def Handle (w : World) : Prop := w.cell? ⟨0, 0, none⟩ = some (.iface 72 (.agg #[.pointer (some ⟨3, 27, none⟩)]))
theorem Handle.lt {w : World} (h : Handle w) : 0 < w.heap.size := by
  rcases Nat.eq_zero_or_pos w.heap.size with h0 | h1
  · simp [Handle, World.cell?, h0] at h
  · exact h1
theorem Handle.below {w w' : World} (h : Handle w) (hb : Below w.heap.size w w') : Handle w' := by
  have := hb.cell (p := ⟨0, 0, none⟩) h.lt
  unfold Handle at *
  rw [this]
  exact h
theorem Handle.alloc {w : World} (h : Handle w) (o : Obj) : Handle (w.alloc o) := h.below ((Below.refl _ _).alloc (Nat.le_refl _) o)
theorem Z.as_miss' (v : Value) (t : Addr) (w : World) (hg : Handle w) :
    Calls Tryd.prog 25 #[.iface 41 v, .iface 52 (.pointer (some t))] w fun ev w' => ev = .returned (.bool false) ∧ w' = Z.wAs t w := Z.as_miss v t w hg
theorem Z.as_below (t : Addr) (w : World) : Below w.heap.size w (Z.wAs t w) := by
  unfold Z.wAs
  exact (((Below.refl _ _).alloc (Nat.le_refl _) _).alloc (by simp) _).alloc (by simp; omega) _
namespace X
set_option maxHeartbeats 2000000 in
/-- Two errors alike: none, or one Code of api's. -/
theorem Z.same (c : Option Int) (h : ∀ x, c = some x → 1 ≤ x ∧ x ≤ 15) (w : World) (hg : Handle w) :
    Calls Tryd.prog 12 #[errW c, errW c] w fun e w' => e = .returned (.bool true) ∧ Below w.heap.size w w' := by
  have hu := Tryd.underlying27
  have hc := Tryd.underlying41
  have ec := eql_code
  have en := eql_code_nil
  rcases c with _ | c
  · simp only [errW_none]
    go_enter Tryd.func12, Tryd.ntmps12
    go_wp2
    go_ret
    exact ⟨rfl, Below.refl _ _⟩
  · obtain ⟨c1, c2⟩ := h c rfl
    have h1 := Lib.hid (hg.alloc (.cells #[.pointer none] 50))
    have k := Lib.hid (show ∀ W : World, Calls Tryd.prog 27 #[.iface 41 (.int .i64 c)] W fun e w' => e = .returned (.int .i64 c) ∧ Below W.heap.size W w' from fun W =>
      (treenaillaw00_Code.calls (some c) c W (by unfold treenaillaw00_Code.f; rw [codeOf_at, if_pos ⟨c1, c2⟩])).mono fun e w' ⟨h, n, hn⟩ => ⟨h, by subst hn; exact (Below.refl _ _).drewN n⟩)
    have e1 : (c == c) = true := by simp
    have e2 : decide (0 < c) = true := by simp; omega
    have e3 : c > 0 := by omega
    clear h hg
    simp only [errW_some]
    have HA : Below w.heap.size w (w.alloc (.cells #[.pointer none] 50)) := (Below.refl w.heap.size w).alloc (Nat.le_refl _) (.cells #[.pointer none] 50)
    have HB := Lib.hid (HA.trans ((Z.as_below ⟨w.heap.size, 0, none⟩ (w.alloc (.cells #[.pointer none] 50))).mono HA.size))
    clear HA
    go_enter Tryd.func12, Tryd.ntmps12
    go_wp2_with (first
      | (go_at_call 25; (with_reducible refine (Z.as_miss' _ _ _ h1.out).mono ?_); rintro e w2 ⟨rfl, rfl⟩)
      | (go_at_call 27; (with_reducible refine (k.out _).mono ?_); rintro e w2 ⟨rfl, hb⟩; replace HB := Lib.hid (HB.out.trans (hb.mono HB.out.size)); clear hb))
    go_ret
    exact ⟨rfl, HB.out⟩
theorem Z.same_nil (w : World) (hg : Handle w) :
    Calls Tryd.prog 12 #[.nilIface, .nilIface] w fun e w' => e = .returned (.bool true) ∧ Below w.heap.size w w' := Z.same none (fun x h => by cases h) w hg
end X
end Go.Proofs.YtolflieiipnndaaDoor
