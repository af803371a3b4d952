/-
  The contracts of Around and history.Check, at plain values.
-/
import Derived.Test.YthijndjgchbeoaaFmO
import Derived.Test.YthijndjgchbeoaaCheckBase
import Derived.Test.YthijndjgchbeoaaAround
namespace Go.Proofs.Ythijndjgchbeoaa
set_option linter.unusedVariables false
open Go.RowKit

theorem around_spec (n most : Int) (hn : I64 n) (h1 : 1 ≤ most) (h2 : most ≤ 4611686018427387904) : Spec Try.prog 23 [.int .i64 n, .int .i64 most] .fr (.int .i64 (around n most)) where
  go := by kernel_rfl
  hand := rfl
  calls w I vs hI hv := by
    obtain ⟨_, _, rfl, e1, e2⟩ := hv.inv2
    rw [e1.int_inv, e2.int_inv]
    refine (around_any n most w hn h1 h2).mono ?_
    rintro e w' ⟨rfl, rfl⟩
    exact ⟨_, rfl, Below.refl _ _, .int _ _⟩
theorem hCheck_spec (l : List OpV) (hin : ∀ o ∈ l, OpIn o) (hlen : l.length ≤ 1000000000) : Spec Try.prog 20 [.list 8 (l.map OpV.fv)] .fr (.int .i64 (hCheck l)) where
  go := by kernel_rfl
  hand := rfl
  calls w I vs hI hv := by
    obtain ⟨_, rfl, e1⟩ := hv.inv1
    obtain ⟨A, c, rfl, _, hs⟩ := opT.of e1 hI
    refine (hCheck_any A c l w hs hin hlen).mono ?_
    rintro e w' ⟨rfl, hb⟩
    exact ⟨_, rfl, hb, .int _ _⟩
end Go.Proofs.Ythijndjgchbeoaa
