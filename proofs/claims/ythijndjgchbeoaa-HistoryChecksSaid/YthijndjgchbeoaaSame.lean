/-
  simproofref20.Same answers whether two lists of operations are equal.
-/
import Derived.Test.YthijndjgchbeoaaTypes
namespace Go.Proofs.Ythijndjgchbeoaa
set_option linter.unusedVariables false
open Go.RowKit

theorem take_succ_eq {α : Type} {x y : List α} {k : Nat} (h : x.take k = y.take k) (hx : k < x.length) (hy : k < y.length) (he : x[k] = y[k]) : x.take (k + 1) = y.take (k + 1) := by
  rw [List.take_succ_eq_append_getElem hx, List.take_succ_eq_append_getElem hy, h, he]

set_option maxHeartbeats 400000 in
set_option maxRecDepth 100000 in
theorem same_any (A1 A2 : Option Addr) (c1 c2 : Nat) (x y : List OpV) (w : World) (h1 : Sl OpV.vals w w.heap.size A1 x) (h2 : Sl OpV.vals w w.heap.size A2 y) (hx : x.length ≤ 1000000000) (hy : y.length ≤ 1000000000) :
    Calls Try.prog 16 #[.slice A1 x.length c1, .slice A2 y.length c2] w fun e w' => e = .returned (.bool (decide (x = y))) ∧ Below w.heap.size w w' := by
  by_cases hl : x.length = y.length
  · go_enter Try.func16, Try.ntmps16
    go_wp2
    go_loopw [5] (fun i wr => ∃ k : Nat, k ≤ x.length ∧ i = .int .i64 k ∧ Below w.heap.size w wr ∧ x.take k = y.take k) (fun i _ => x.length - (intOf i).toNat)
    case atStart => exact ⟨0, by omega, rfl, Below.refl _ _, rfl⟩
    case round =>
      obtain ⟨k, hk, rfl, hb, ht⟩ := hrel
      have Ht := Lib.hid ht
      clear ht
      by_cases hlt : k < x.length
      · have hlt2 : k < y.length := by omega
        obtain ⟨b1, o1, rfl, -, p0, p1, p2, p3, p4, p5, p6, p7⟩ := (h1.below hb).op hlt
        obtain ⟨b2, o2, rfl, -, q0, q1, q2, q3, q4, q5, q6, q7⟩ := (h2.below hb).op hlt2
        clear h1 h2
        go_wp2
        go_quiet (fail)
        go_wp2
        · have he : (!opEq (nth x k) (nth y k)) = true := by assumption
          go_ret
          exact ⟨by simp [show ¬ x = y from fun h => by subst h; simp [opEq] at he], bdrewN hb _⟩
        · have he : (!opEq (nth x k) (nth y k)) = false := by assumption
          go_roundw
          case rel => exact ⟨k + 1, by omega, by go_num, bdrewN hb _, take_succ_eq Ht.out hlt hlt2 (by rw [← nth_eq hlt, ← nth_eq hlt2]; exact opEq_true.1 (by simpa using he))⟩
          case measure => simp [intOf]; omega
      · go_wp2
        go_ret
        have e : x = y := by have := Ht.out; rwa [List.take_of_length_le (by omega), List.take_of_length_le (by omega)] at this
        exact ⟨by simp [e], hb⟩
  · go_enter Try.func16, Try.ntmps16
    have hne : ((x.length : Int) != y.length) = true := by rw [bne_iff_ne]; omega
    go_wp2
    go_ret
    exact ⟨by simp [show ¬ x = y from fun h => hl (by rw [h])], Below.refl _ _⟩
end Go.Proofs.Ythijndjgchbeoaa
