/-
  Arrays of two numbers, compared.
-/
import Derived.Test.YthjplkjpehdpfaaZD
namespace Go.Proofs.Ythjplkjpehdpfaa
set_option linter.unusedVariables false
open Go.RowKit

theorem zbU (a b c d : Int) : zcG Try.prog 34 [.int .i64 a, .int .i64 b] [.int .i64 c, .int .i64 d] (decide (a = c ∧ b = d)) := by
 refine ⟨by kernel_rfl, fun w => ?_⟩
 show (Op.equalIn 10000 34 (.agg #[.int .i64 a, .int .i64 b]) (.agg #[.int .i64 c, .int .i64 d])).run Try.prog w = _
 have hu := Try.underlying34
 have hi := Try.underlying3
 have he : ∀ (x y : Int) (w : World), (Op.equalIn 9999 3 (.int .i64 x) (.int .i64 y)).run Try.prog w = .ok (decide (x = y)) w := fun x y w => by
  show (Op.equalIn (9998 + 1) 3 (.int .i64 x) (.int .i64 y)).run Try.prog w = _
  unfold Op.equalIn
  simp [run_underlying hi, go_sem]
  rfl
 rw [show (10000 : Nat) = 9999 + 1 from rfl]
 unfold Op.equalIn
 simp [run_underlying hu, go_sem]
 rw [show List.range' 0 2 = [0, 1] from rfl]
 simp [isAgg, run_underlying hi, go_sem, he]
 by_cases h1 : a = c <;> by_cases h2 : b = d <;> simp [h1, h2, isAgg, run_underlying hi, go_sem, he]
end Go.Proofs.Ythjplkjpehdpfaa
