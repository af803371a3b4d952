/-
  simproofref01.Around: a number reduced below a bound.
-/
import Derived.Test.YthijndjgchbeoaaTypes
namespace Go.Proofs.Ythijndjgchbeoaa
set_option linter.unusedVariables false
open Go.RowKit

def around (n most : Int) : Int := (if n < 0 then -(n + 1) else n) % most
theorem around_lo {n most : Int} (h : 0 < most) : 0 ≤ around n most := Int.emod_nonneg _ (by omega)
theorem around_hi {n most : Int} (h : 0 < most) : around n most < most := Int.emod_lt_of_pos _ h
set_option maxHeartbeats 400000 in
theorem around_any (n most : Int) (w : World) (hn : I64 n) (h1 : 1 ≤ most) (h2 : most ≤ 4611686018427387904) :
    Calls Try.prog 23 #[.int .i64 n, .int .i64 most] w fun e w' => e = .returned (.int .i64 (around n most)) ∧ w = w' := by
  unfold I64 at hn
  obtain ⟨g1, g2⟩ := hn
  by_cases hneg : n < 0
  · have e : around n most = (-(n + 1)) % most := by simp [around, hneg]
    rw [e]
    clear e
    go_enter Try.func23, Try.ntmps23
    go_wp2
    go_ret
    have e2 : -(n + 1).tmod most = (-(n + 1)) % most := by rw [← Int.neg_tmod, Int.tmod_eq_emod_of_nonneg (by omega)]
    exact ⟨by simp [e2], rfl⟩
  · have e : around n most = n % most := by simp [around, hneg]
    rw [e]
    clear e
    go_enter Try.func23, Try.ntmps23
    go_wp2
    go_ret
    exact ⟨rfl, rfl⟩
end Go.Proofs.Ythijndjgchbeoaa
