/-
  Some texts as one: Row, RowOps, RowFm.
-/
import Derived.Test.YthjplkjpehdpfaaZD
import Derived.ProofKit
import Derived.OpenShut
import Derived.ShutString
import Derived.ChangeOld
import Derived.Below
import Derived.Deep.Slices
import Derived.Deep.Fields
import Derived.ChangeSame
/-
 How the arguments of a law read: slices of numbers, numbers, arrays of three numbers, slices of operations.
-/
namespace Go.Proofs.Ythjplkjpehdpfaa
set_option linter.unusedVariables false
set_option maxRecDepth 100000
open Go.ChangeShapes Go.WideShapes Go.ChangeAt Go.RowKit Go.Deep

theorem zap {x : Int} (h : (Lit.int .i64 x).wf = true) : I64 x := by
 simp [Lit.wf, IntKind.min, IntKind.max, IntKind.signed, IntKind.bits] at h
 unfold I64
 omega

section
variable {H : Type} {enc : TypeId × Value → H} {W : World} {base : Nat} {spare : Nat → Bool} {held : Bool} {v : Value} {d : DataW H} {p : List MemPlace} {r : Reach} {b0 : Nat}

theorem zeo {w : World} {a : Addr} {u : Value} (h : w.cell? a = some u) : a = ⟨a.block, a.off, none⟩ := by
 obtain ⟨b, o, s⟩ := a
 cases s with
 | none => rfl
 | some s =>
  unfold World.cell? at h
  simp only [Option.isSome_some, if_true] at h
  split at h <;> cases h
theorem zeE (a : Addr) (h : a = ⟨a.block, a.off, none⟩) (n : Nat) : a.add n = ⟨a.block, a.off + n, none⟩ := by
 obtain ⟨b, o, s⟩ := a
 obtain rfl : s = none := by injection h
 unfold Addr.add
 split
 ·subst n; rfl
 ·rfl

theorem ze1 (ht : Try.prog.underlying 3 = some (.int .i64)) (hv : Value.okWide Try.prog W r b0 3 v) (h : DataW.Trod enc Try.prog W base spare held 3 v d p) : ∃ x, v = .int .i64 x ∧ I64 x := by
 obtain ⟨x, rfl, _, _, wx⟩ := open_int ht hv h
 exact ⟨x, rfl, zap wx⟩

theorem zd6 (hv : Value.okWide Try.prog W r b0 22 v) (h : DataW.Trod enc Try.prog W base spare held 22 v d p) :
  ∃ A c l, v = .slice A l.length c ∧ Sl zfA W W.heap.size A l ∧ (∀ x ∈ l, I64 x) ∧ l.length ≤ 9223372036854775807 := by
 obtain ⟨a0, len0, cap0, rfl⟩ := okWide_slice Try.underlying22 hv
 obtain ⟨fuel, hf⟩ := h
 rcases open_ints Try.underlying22 Try.underlying3 (by kernel_rfl) hf with ⟨hcs, _⟩ | ⟨x, l, c, zs, hcs, _, hl, hm, hz, _, hcell, hwz⟩
 ·simp [Value.cells] at hcs
  obtain ⟨rfl, rfl, rfl⟩ := hcs
  exact ⟨none, 0, [], rfl, Sl.nil_ _ _ _ _, by simp, Nat.zero_le _⟩
 ·simp [Value.cells] at hcs
  obtain ⟨rfl, rfl, rfl⟩ := hcs
  have hlz : len0 ≤ zs.length := by rw [hz]; split <;> omega
  have hlen : (zs.take len0).length = len0 := by simp; omega
  refine ⟨some x, cap0, zs.take len0, by rw [hlen], fun hne => ?_, fun y hy => zap (hwz y (List.mem_of_mem_take hy)), by unfold maxLen at hm; omega⟩
  have h0 : 0 < len0 := by
   rcases Nat.eq_zero_or_pos len0 with e | e
   ·subst e; simp at hne
   ·exact e
  have hc0 := hcell 0 (by omega)
  rw [show x.add 0 = x by simp [Addr.add]] at hc0
  have hs := zeo hc0
  refine ⟨x.block, x.off, by rw [← hs], World.block_lt_of_cell? W x hc0, fun j u hu => ?_⟩
  rw [xU, List.getElem?_map, List.getElem?_take] at hu
  split at hu
  ·have hj : j < zs.length := by omega
   have := hcell j hj
   rw [zeE x hs] at this
   rw [this]
   simpa [hj] using hu
  ·simp at hu

end
end Go.Proofs.Ythjplkjpehdpfaa
/-
 How two more kinds of argument read: slices of operations, arrays of three numbers.
-/
namespace Go.Proofs.Ythjplkjpehdpfaa
set_option linter.unusedVariables false
set_option maxRecDepth 100000
open Go.ChangeShapes Go.WideShapes Go.ChangeAt Go.RowKit Go.Deep
section
variable {H : Type} {enc : TypeId × Value → H} {W : World} {base : Nat} {spare : Nat → Bool} {held : Bool} {v : Value} {d : DataW H} {p : List MemPlace} {r : Reach} {b0 : Nat}

end
end Go.Proofs.Ythjplkjpehdpfaa
/-
 How the arguments of a law read, as plain values.
-/
namespace Go.Proofs.Ythjplkjpehdpfaa
set_option linter.unusedVariables false
set_option maxRecDepth 100000
open Go.ChangeShapes Go.WideShapes Go.ChangeAt Go.RowKit Go.Deep

section
variable {H : Type} {enc : TypeId × Value → H} {W : World} {base : Nat} {spare : Nat → Bool} {held : Bool} {v : Value} {d : DataW H} {p : List MemPlace} {r : Reach} {b0 : Nat}
theorem zfU (hv : Value.okWide Try.prog W r b0 22 v) (h : DataW.Trod enc Try.prog W base spare held 22 v d p) :
  ∃ l : List Int, Rd W (fun b => b < W.heap.size) v (.list 1 (l.map zt)) ∧ (∀ x ∈ l, I64 x) ∧ l.length ≤ 9223372036854775807 := by
 have h' := h
 obtain ⟨A, c, l, rfl, s, i, m⟩ := zd6 hv h
 refine ⟨l, ?_, i, m⟩
 obtain ⟨fuel, hf⟩ := h'
 rcases open_ints Try.underlying22 Try.underlying3 (by kernel_rfl) hf with ⟨hcs, _⟩ | ⟨x, l', c', zs, hcs, _, hl, hm, hz, _, hcell, hwz⟩
 ·simp [Value.cells] at hcs
  obtain ⟨rfl, h0, rfl⟩ := hcs
  exact zeA.to s (by simp [h0])
 ·simp [Value.cells] at hcs
  obtain ⟨rfl, h0, rfl⟩ := hcs
  exact zeA.to s (by omega)
theorem zfw (hv : Value.okWide Try.prog W r b0 3 v) (h : DataW.Trod enc Try.prog W base spare held 3 v d p) : ∃ x : Int, Rd W (fun b => b < W.heap.size) v (.int .i64 x) ∧ I64 x := by
 obtain ⟨x, rfl, i⟩ := ze1 Try.underlying3 hv h
 exact ⟨x, .int _ _, i⟩
end
end Go.Proofs.Ythjplkjpehdpfaa
