/-
  Some texts as one: Row, RowOps, RowFm.
-/
import Derived.Test.YtbeebjdnapkhhaaZD
import Derived.ProofKit
import Derived.OpenShut
import Derived.ShutString
import Derived.ChangeOld
import Derived.Below
import Derived.Deep.Slices
import Derived.Deep.Fields
import Derived.ChangeSame
/-
 How the arguments of a law read: slices of numbers, numbers, arrays of three numbers, slices of operations.
-/
namespace Go.Proofs.Ytbeebjdnapkhhaa
set_option linter.unusedVariables false
set_option maxRecDepth 100000
open Go.ChangeShapes Go.WideShapes Go.ChangeAt Go.RowKit Go.Deep

theorem Wd {x : Int} (h : (Lit.int .i64 x).wf = true) : I64 x := by
 simp [Lit.wf, IntKind.min, IntKind.max, IntKind.signed, IntKind.bits] at h
 unfold I64
 omega

section
variable {H : Type} {enc : TypeId × Value → H} {W : World} {base : Nat} {spare : Nat → Bool} {held : Bool} {v : Value} {d : DataW H} {p : List MemPlace} {r : Reach} {b0 : Nat}

theorem zhB {w : World} {a : Addr} {u : Value} (h : w.cell? a = some u) : a = ⟨a.block, a.off, none⟩ := by
 obtain ⟨b, o, s⟩ := a
 cases s with
 | none => rfl
 | some s =>
  unfold World.cell? at h
  simp only [Option.isSome_some, if_true] at h
  split at h <;> cases h
theorem zhQ (a : Addr) (h : a = ⟨a.block, a.off, none⟩) (n : Nat) : a.add n = ⟨a.block, a.off + n, none⟩ := by
 obtain ⟨b, o, s⟩ := a
 obtain rfl : s = none := by injection h
 unfold Addr.add
 split
 ·subst n; rfl
 ·rfl

theorem zhd (hv : Value.okWide Try.prog W r b0 22 v) (h : DataW.Trod enc Try.prog W base spare held 22 v d p) :
  ∃ A c l, v = .slice A l.length c ∧ Sl zi7 W W.heap.size A l ∧ (∀ x ∈ l, I64 x) ∧ l.length ≤ 9223372036854775807 := by
 obtain ⟨a0, len0, cap0, rfl⟩ := okWide_slice Try.underlying22 hv
 obtain ⟨fuel, hf⟩ := h
 rcases open_ints Try.underlying22 Try.underlying3 (by kernel_rfl) hf with ⟨hcs, _⟩ | ⟨x, l, c, zs, hcs, _, hl, hm, hz, _, hcell, hwz⟩
 ·simp [Value.cells] at hcs
  obtain ⟨rfl, rfl, rfl⟩ := hcs
  exact ⟨none, 0, [], rfl, Sl.nil_ _ _ _ _, by simp, Nat.zero_le _⟩
 ·simp [Value.cells] at hcs
  obtain ⟨rfl, rfl, rfl⟩ := hcs
  have hlz : len0 ≤ zs.length := by rw [hz]; split <;> omega
  have hlen : (zs.take len0).length = len0 := by simp; omega
  refine ⟨some x, cap0, zs.take len0, by rw [hlen], fun hne => ?_, fun y hy => Wd (hwz y (List.mem_of_mem_take hy)), by unfold maxLen at hm; omega⟩
  have h0 : 0 < len0 := by
   rcases Nat.eq_zero_or_pos len0 with e | e
   ·subst e; simp at hne
   ·exact e
  have hc0 := hcell 0 (by omega)
  rw [show x.add 0 = x by simp [Addr.add]] at hc0
  have hs := zhB hc0
  refine ⟨x.block, x.off, by rw [← hs], World.block_lt_of_cell? W x hc0, fun j u hu => ?_⟩
  rw [ZN, List.getElem?_map, List.getElem?_take] at hu
  split at hu
  ·have hj : j < zs.length := by omega
   have := hcell j hj
   rw [zhQ x hs] at this
   rw [this]
   simpa [hj] using hu
  ·simp at hu

end
end Go.Proofs.Ytbeebjdnapkhhaa
/-
 How two more kinds of argument read: slices of operations, arrays of three numbers.
-/
namespace Go.Proofs.Ytbeebjdnapkhhaa
set_option linter.unusedVariables false
set_option maxRecDepth 100000
open Go.ChangeShapes Go.WideShapes Go.ChangeAt Go.RowKit Go.Deep
section
variable {H : Type} {enc : TypeId × Value → H} {W : World} {base : Nat} {spare : Nat → Bool} {held : Bool} {v : Value} {d : DataW H} {p : List MemPlace} {r : Reach} {b0 : Nat}

theorem zcQ {t e : TypeId} {n : Nat} (ht : Try.prog.underlying t = some (.array n e)) (h : Value.okWide Try.prog W r b0 t v) : ∃ cs, v = .agg cs ∧ cs.size = Try.prog.cellsOf t := by
 simp only [Value.okWide, ht] at h
 obtain ⟨cs, h1, h2, _⟩ := h
 exact ⟨cs, h1, h2⟩

set_option maxRecDepth 10000 in
theorem zhc (hv : Value.okWide Try.prog W r b0 23 v) (h : DataW.Trod enc Try.prog W base spare held 23 v d p) :
  ∃ x y z, v = .agg #[.int .i64 x, .int .i64 y, .int .i64 z] ∧ I64 x ∧ I64 y ∧ I64 z := by
 obtain ⟨cs, rfl, hsz⟩ := zcQ Try.underlying23 hv
 have hC : Try.prog.cellsOf 23 = 3 := by kernel_rfl
 have k1 : Try.prog.cellsOf 3 = 1 := by kernel_rfl
 rw [hC] at hsz
 obtain ⟨cs⟩ := cs
 match cs, hsz with
 | [c0, c1, c2], _ =>
  obtain ⟨fuel, hf⟩ := h
  obtain ⟨xs, m, _, _, _, hxl, hg⟩ := DataW.trod_array Try.underlying23 hf
  match xs, hxl with
  | [y0, y1, y2], _ =>
   have g0 : DataW.trod enc Try.prog W base spare held m 3 [c0] = some y0 := by simpa [Value.cells, k1] using hg 0 (by omega)
   have g1 : DataW.trod enc Try.prog W base spare held m 3 [c1] = some y1 := by simpa [Value.cells, k1] using hg 1 (by omega)
   have g2 : DataW.trod enc Try.prog W base spare held m 3 [c2] = some y2 := by simpa [Value.cells, k1] using hg 2 (by omega)
   obtain ⟨n0, e0, _, w0⟩ := DataW.trod_int Try.underlying3 g0
   obtain ⟨n1, e1, _, w1⟩ := DataW.trod_int Try.underlying3 g1
   obtain ⟨n2, e2, _, w2⟩ := DataW.trod_int Try.underlying3 g2
   injection e0 with e0; injection e1 with e1; injection e2 with e2
   subst e0 e1 e2
   exact ⟨n0, n1, n2, rfl, Wd w0, Wd w1, Wd w2⟩
end
end Go.Proofs.Ytbeebjdnapkhhaa
/-
 How the arguments of a law read, as plain values.
-/
namespace Go.Proofs.Ytbeebjdnapkhhaa
set_option linter.unusedVariables false
set_option maxRecDepth 100000
open Go.ChangeShapes Go.WideShapes Go.ChangeAt Go.RowKit Go.Deep

section
variable {H : Type} {enc : TypeId × Value → H} {W : World} {base : Nat} {spare : Nat → Bool} {held : Bool} {v : Value} {d : DataW H} {p : List MemPlace} {r : Reach} {b0 : Nat}
theorem zjv (hv : Value.okWide Try.prog W r b0 22 v) (h : DataW.Trod enc Try.prog W base spare held 22 v d p) :
  ∃ l : List Int, Rd W (fun b => b < W.heap.size) v (.list 1 (l.map zF)) ∧ (∀ x ∈ l, I64 x) ∧ l.length ≤ 9223372036854775807 := by
 have h' := h
 obtain ⟨A, c, l, rfl, s, i, m⟩ := zhd hv h
 refine ⟨l, ?_, i, m⟩
 obtain ⟨fuel, hf⟩ := h'
 rcases open_ints Try.underlying22 Try.underlying3 (by kernel_rfl) hf with ⟨hcs, _⟩ | ⟨x, l', c', zs, hcs, _, hl, hm, hz, _, hcell, hwz⟩
 ·simp [Value.cells] at hcs
  obtain ⟨rfl, h0, rfl⟩ := hcs
  exact zfi.to s (by simp [h0])
 ·simp [Value.cells] at hcs
  obtain ⟨rfl, h0, rfl⟩ := hcs
  exact zfi.to s (by omega)
theorem zjt (hv : Value.okWide Try.prog W r b0 23 v) (h : DataW.Trod enc Try.prog W base spare held 23 v d p) :
  ∃ x y z : Int, Rd W (fun b => b < W.heap.size) v (.agg [.int .i64 x, .int .i64 y, .int .i64 z]) ∧ I64 x ∧ I64 y ∧ I64 z := by
 obtain ⟨x, y, z, rfl, i, j, k⟩ := zhc hv h
 have := (RdL.cons (Rd.int .i64 x) <| RdL.cons (Rd.int .i64 y) <| RdL.cons (Rd.int .i64 z) RdL.nil : RdL W (fun b => b < W.heap.size) [.int .i64 x, .int .i64 y, .int .i64 z] _)
 exact ⟨x, y, z, .agg _ _ this.1 this.2, i, j, k⟩
end
end Go.Proofs.Ytbeebjdnapkhhaa
