/-
  The contracts of layer 20, at plain values.
-/
import Derived.Test.YthijndjgchbeoaaFmO
import Derived.Test.YthijndjgchbeoaaCheckPlain
import Derived.Test.YthijndjgchbeoaaBentWalk
import Derived.Test.YthijndjgchbeoaaLives20
namespace Go.Proofs.Ythijndjgchbeoaa
set_option linter.unusedVariables false
open Go.RowKit

theorem around_spec (n most : Int) (hn : I64 n) (h1 : 1 ≤ most) (h2 : most ≤ 4611686018427387904) : Spec Try.prog 23 [.int .i64 n, .int .i64 most] .fr (.int .i64 (around n most)) where
  go := by kernel_rfl
  hand := rfl
  calls w I vs hI hv := by
    obtain ⟨_, _, rfl, e1, e2⟩ := hv.inv2
    rw [e1.int_inv, e2.int_inv]
    refine (around_any n most w hn h1 h2).mono ?_
    rintro e w' ⟨rfl, rfl⟩
    exact ⟨_, rfl, Below.refl _ _, .int _ _⟩
theorem mixed_spec (l : List Int) (which : Int) (hl : ∀ x ∈ l, I64 x) (hlen : l.length ≤ 9223372036854775807) (hw : I64 which) : Spec Try.prog 21 [.list 1 (l.map intf), .int .i64 which] (.ow 33 8) (.list 8 ((mixed l which).map OpV.fv)) where
  go := by kernel_rfl
  hand := rfl
  calls w I vs hI hv := by
    obtain ⟨_, _, rfl, e1, e2⟩ := hv.inv2
    obtain ⟨A, c, rfl, _, hs⟩ := intT.of e1 hI
    rw [e2.int_inv]
    refine (mixed_any A c l which w hs hl hlen hw).mono ?_
    rintro e w' ⟨A1, c1, rfl, ho, hb⟩
    exact ⟨_, rfl, hb, opT.res ho⟩
theorem bent20_spec (l : List OpV) (at_ how v : Int) (hlen : l.length ≤ 1000000) (ha : I64 at_) (hh : I64 how) : Spec Try.prog 22 [.list 8 (l.map OpV.fv), .int .i64 at_, .int .i64 how, .int .i64 v] (.ow 33 8) (.list 8 ((bent20 l at_ how v).map OpV.fv)) where
  go := by kernel_rfl
  hand := rfl
  calls w I vs hI hv := by
    obtain ⟨_, _, _, _, rfl, e1, e2, e3, e4⟩ := hv.inv4
    obtain ⟨A, c, rfl, _, hs⟩ := opT.of e1 hI
    rw [e2.int_inv, e3.int_inv, e4.int_inv]
    refine (bent20_any A c l at_ how v w hs hlen ha hh).mono ?_
    rintro e w' ⟨A1, c1, rfl, ho, hb⟩
    exact ⟨_, rfl, hb, opT.res ho⟩
theorem hCheck_spec (l : List OpV) (hin : ∀ o ∈ l, OpIn o) (hlen : l.length ≤ 1000000000) : Spec Try.prog 20 [.list 8 (l.map OpV.fv)] .fr (.int .i64 (hCheck l)) where
  go := by kernel_rfl
  hand := rfl
  calls w I vs hI hv := by
    obtain ⟨_, rfl, e1⟩ := hv.inv1
    obtain ⟨A, c, rfl, _, hs⟩ := opT.of e1 hI
    refine (hCheck_any A c l w hs hin hlen).mono ?_
    rintro e w' ⟨rfl, hb⟩
    exact ⟨_, rfl, hb, .int _ _⟩
theorem rCheck_spec (l : List OpV) (hlen : l.length ≤ 1000000000) : Spec Try.prog 24 [.list 8 (l.map OpV.fv)] .fr (.int .i64 (rCheck l)) where
  go := by kernel_rfl
  hand := rfl
  calls w I vs hI hv := by
    obtain ⟨_, rfl, e1⟩ := hv.inv1
    obtain ⟨A, c, rfl, _, hs⟩ := opT.of e1 hI
    refine (rCheck_any A c l w hs hlen).mono ?_
    rintro e w' ⟨rfl, hb⟩
    exact ⟨_, rfl, hb, .int _ _⟩
theorem lives20_spec : Spec Try.prog 19 [] .fr (.bool true) where
  go := by kernel_rfl
  hand := rfl
  calls w I vs hI hv := by
    obtain rfl := hv.nil_inv
    refine (lives20_any w).mono ?_
    rintro e w' ⟨rfl, hb⟩
    exact ⟨_, rfl, hb, .bool _⟩
end Go.Proofs.Ythijndjgchbeoaa
