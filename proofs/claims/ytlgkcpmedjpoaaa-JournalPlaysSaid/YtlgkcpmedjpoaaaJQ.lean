/- treenailref13.Same, walked: are two lists of rows of bytes alike. -/
import Derived.Test.YtlgkcpmedjpoaaaJK
namespace Go.Proofs.Ytlgkcpmedjpoaaa.X
open Go.RowKit Go.Proofs.Ytlgkcpmedjpoaaa Go.Proofs.YtlgkcpmedjpoaaaW.PrintWords Go.Proofs.YtlgkcpmedjpoaaaW.PrintLast Go.Proofs.YtlgkcpmedjpoaaaW.PrintMore
set_option linter.unusedVariables false
set_option linter.unusedSimpArgs false
theorem _root_.Go.Proofs.Ytlgkcpmedjpoaaa.RdRows.len_ {w : World} {v : Value} {ls : List (List Int)} (h : RdRows .u8 w v ls) : ∃ A c, v = .slice A ls.length c := by
  obtain ⟨vs, h1, h2, _⟩ := h
  obtain ⟨A, c, e⟩ := h2.len
  exact ⟨A, c, by rw [e, h1]⟩
theorem _root_.Go.Proofs.Ytlgkcpmedjpoaaa.RdRows.at_ {w : World} {A : Option Addr} {n c : Nat} {ls : List (List Int)} (h : RdRows .u8 w (.slice A n c) ls) (j : Nat) (hj : j < ls.length) :
    ∃ ad B d, A = some ad ∧ w.cell? (ad.add j) = some (.slice B (ls.getD j []).length d) ∧ Rd w (.slice B (ls.getD j []).length d) (numv .u8 (ls.getD j [])) := by
  obtain ⟨vs, hl, ⟨A', c', he, h1, h2, h3⟩, hu⟩ := h
  injection he with e1 e2 e3
  subst e1
  obtain ⟨ad, e, _, hc⟩ := h3 (by omega)
  obtain ⟨u, hu, hr⟩ := hu j hj
  obtain ⟨B, d, hv⟩ := hr.len
  rw [numv_length] at hv
  subst hv
  exact ⟨ad, B, d, e, hc j _ hu, hr⟩
theorem _root_.Go.Proofs.Ytlgkcpmedjpoaaa.RdRows.drewN {w : World} {v : Value} {ls : List (List Int)} (h : RdRows .u8 w v ls) (n : Nat) : RdRows .u8 (w.drewN n) v ls := by
  obtain ⟨vs, h1, h2, h3⟩ := h
  exact ⟨vs, h1, h2.drewN n, fun j hj => by
    obtain ⟨u, e, hr⟩ := h3 j hj
    exact ⟨u, e, hr.drewN n⟩⟩
theorem _root_.Go.Proofs.Ytlgkcpmedjpoaaa.RdRows.below {w w' : World} {v : Value} {ls : List (List Int)} (h : RdRows .u8 w v ls) (hb : Below w.heap.size w w') : RdRows .u8 w' v ls := by
  obtain ⟨vs, h1, h2, h3⟩ := h
  exact ⟨vs, h1, h2.below hb, fun j hj => by
    obtain ⟨u, e, hr⟩ := h3 j hj
    exact ⟨u, e, hr.below hb⟩⟩
/-- Rows of bytes. -/
def BB8 (ls : List (List Int)) : Prop := ∀ l ∈ ls, B8 l
theorem BB8.at_ {ls : List (List Int)} (h : BB8 ls) (j : Nat) : B8 (ls.getD j []) := by
  rcases Nat.lt_or_ge j ls.length with hj | hj
  · rw [List.getD_eq_getElem?_getD, List.getElem?_eq_getElem hj]
    exact h _ (List.getElem_mem hj)
  · rw [List.getD_eq_getElem?_getD, List.getElem?_eq_none hj]
    intro x hx
    simp at hx
theorem take_next_eq (l1 l2 : List (List Int)) (j : Nat) (h1 : j < l1.length) (h2 : j < l2.length) (h : l1.take j = l2.take j) (e : l1.getD j [] = l2.getD j []) : l1.take (j + 1) = l2.take (j + 1) := by
  rw [List.take_succ_eq_append_getElem h1, List.take_succ_eq_append_getElem h2, h]
  congr 2
  rw [List.getD_eq_getElem?_getD, List.getD_eq_getElem?_getD, List.getElem?_eq_getElem h1, List.getElem?_eq_getElem h2] at e
  simpa using e
def RelSame (w : World) (l1 l2 : List (List Int)) (i : Value) (wr : World) : Prop := ∃ j : Nat, i = .int .i64 (j : Int) ∧ j ≤ l1.length ∧ l1.take j = l2.take j ∧ Drawn0 w wr
set_option maxHeartbeats 4000000 in
set_option maxRecDepth 100000 in
theorem same_calls (v1 v2 : Value) (l1 l2 : List (List Int)) (w : World) (h1 : RdRows .u8 w v1 l1) (h2 : RdRows .u8 w v2 l2) (b1 : BB8 l1) (b2 : BB8 l2) :
    Calls Try.prog 13 #[v1, v2] w fun e w' => e = .returned (.bool (decide (l1 = l2))) ∧ Drawn0 w w' := by
  obtain ⟨A1, c1, rfl⟩ := h1.len_
  obtain ⟨A2, c2, rfl⟩ := h2.len_
  have hm1 : l1.length ≤ 9223372036854775807 := by
    obtain ⟨vs, e, ⟨A, c, e2, _, h3, _⟩, _⟩ := h1
    omega
  have HM1 := Lib.hid hm1
  by_cases hl : l1.length = l2.length
  · obtain ⟨n, hn⟩ : ∃ n, n = l1.length := ⟨_, rfl⟩
    have HN := Lib.hid hn
    have HN2 := Lib.hid (hn.trans hl)
    have H1 := Lib.hid h1
    have H2 := Lib.hid h2
    have B1 := Lib.hid b1
    have B2 := Lib.hid b2
    rw [← hn] at hm1 ⊢
    rw [← hl, ← hn]
    rw [← hn] at H1
    rw [← hl, ← hn] at H2
    clear h1 h2 b1 b2 hl hn
    go_enter Try.func13, Try.ntmps13
    go_wp2
    go_loopw [5] (fun i wr => RelSame w l1 l2 i wr) (fun i _ => n - (intOf i).toNat)
    case atStart => exact ⟨0, rfl, Nat.zero_le _, rfl, Drawn0.refl _⟩
    case round =>
      obtain ⟨j, rfl, hj, ht, hd⟩ := hrel
      rename World => wr
      have HT := Lib.hid ht
      have HQ := Lib.hid hd
      obtain ⟨q, hq⟩ := hd.out
      rw [← HN.out] at hj
      have H1r := Lib.hid (show RdRows .u8 wr (.slice A1 n c1) l1 by rw [hq]; exact H1.out.drewN q)
      have H2r := Lib.hid (show RdRows .u8 wr (.slice A2 n c2) l2 by rw [hq]; exact H2.out.drewN q)
      clear ht hq hd
      by_cases hlt : j < n
      · obtain ⟨a1, B1', d1, e1, hc1, hr1⟩ := RdRows.at_ H1r.out j (by rw [← HN.out]; exact hlt)
        obtain ⟨a2, B2', d2, e2, hc2, hr2⟩ := RdRows.at_ H2r.out j (by rw [← HN2.out]; exact hlt)
        subst e1 e2
        have hx1 := B1.out.at_ j
        have hx2 := B2.out.at_ j
        have HTN := Lib.hid (take_next_eq l1 l2 j (by rw [← HN.out]; exact hlt) (by rw [← HN2.out]; exact hlt) HT.out)
        have HTE := Lib.hid (show l1 = l2 → l1.getD j [] = l2.getD j [] from fun h => by rw [h])
        generalize l1.getD j [] = x at *
        generalize l2.getD j [] = y at *
        have hv1 : ∀ q, (convert 22 9 (.slice B1' x.length d1)).run Try.prog (wr.drewN q) = .ok (.string (strOfNums x)) (wr.drewN q) := fun q => Rd.str_ (hr1.drewN q)
        have hv2 : ∀ q, (convert 22 9 (.slice B2' y.length d2)).run Try.prog (wr.drewN q) = .ok (.string (strOfNums y)) (wr.drewN q) := fun q => Rd.str_ (hr2.drewN q)
        have k1 : (j : Int) < (n : Int) := by omega
        have k0 : (0 : Int) ≤ (j : Int) := by omega
        by_cases hxy : x = y
        · have HXY := Lib.hid (HTN.out hxy)
          subst hxy
          clear hr1 hr2 hx1 hx2
          go_wp2_with fail
          go_quiet (fail)
          go_wp2
          go_roundw
          case rel => exact ⟨j + 1, by go_num, by rw [← HN.out]; omega, HXY.out, HQ.out.step _⟩
          case measure => simp [intOf]; omega
        · have hne := str_ne hx1 hx2 hxy
          have HF := Lib.hid (show decide (l1 = l2) = false from decide_eq_false (fun h => hxy (HTE.out h)))
          clear hr1 hr2 hx1 hx2
          go_wp2_with fail
          go_quiet (fail)
          go_wp2
          go_ret
          rw [HF.out]
          exact ⟨rfl, HQ.out.step _⟩
      · have hjn : j = n := by omega
        have HF := Lib.hid (show decide (l1 = l2) = true from decide_eq_true (by
          have := HT.out
          rwa [List.take_of_length_le (by rw [← HN.out]; omega), List.take_of_length_le (by rw [← HN2.out]; omega)] at this))
        have k1 : (n : Int) ≤ (j : Int) := by omega
        clear hjn
        go_wp2
        go_ret
        rw [HF.out]
        exact ⟨rfl, HQ.out⟩
  · have hne : (l1.length : Int) ≠ (l2.length : Int) := by omega
    have hq1 : ((l1.length : Int) == (l2.length : Int)) = false := by rw [beq_eq_false_iff_ne]; exact hne
    have hq2 : ((l1.length : Int) != (l2.length : Int)) = true := by rw [bne_iff_ne]; exact hne
    have HF := Lib.hid (show decide (l1 = l2) = false from decide_eq_false (fun h => hl (by rw [h])))
    clear h1 h2 b1 b2 hne hl
    generalize l1.length = n1 at *
    generalize l2.length = n2 at *
    go_enter Try.func13, Try.ntmps13
    go_wp2
    go_ret
    rw [HF.out]
    exact ⟨rfl, Drawn0.refl _⟩
end Go.Proofs.Ytlgkcpmedjpoaaa.X
