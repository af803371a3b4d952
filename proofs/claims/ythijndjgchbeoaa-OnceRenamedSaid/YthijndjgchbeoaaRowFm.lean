/-
  How the arguments of a law read, as plain values.
-/
import Derived.Test.YthijndjgchbeoaaRowOps
import Derived.Test.YthijndjgchbeoaaFmO
namespace Go.Proofs.Ythijndjgchbeoaa
set_option linter.unusedVariables false
open Go.ChangeShapes Go.WideShapes Go.ChangeAt Go.RowKit Go.Deep

section
variable {H : Type} {enc : TypeId × Value → H} {W : World} {base : Nat} {spare : Nat → Bool} {held : Bool} {v : Value} {d : DataW H} {p : List MemPlace} {r : Reach} {b0 : Nat}
theorem fm_ints (hv : Value.okWide Try.prog W r b0 22 v) (h : DataW.Trod enc Try.prog W base spare held 22 v d p) :
    ∃ l : List Int, Rd W (fun b => b < W.heap.size) v (.list 1 (l.map intf)) ∧ (∀ x ∈ l, I64 x) ∧ l.length ≤ 9223372036854775807 := by
  have h' := h
  obtain ⟨A, c, l, rfl, s, i, m⟩ := read_ints hv h
  refine ⟨l, ?_, i, m⟩
  obtain ⟨fuel, hf⟩ := h'
  rcases open_ints Try.underlying22 Try.underlying3 (by kernel_rfl) hf with ⟨hcs, _⟩ | ⟨x, l', c', zs, hcs, _, hl, hm, hz, _, hcell, hwz⟩
  · simp [Value.cells] at hcs
    obtain ⟨rfl, h0, rfl⟩ := hcs
    exact intT.to s (by simp [h0])
  · simp [Value.cells] at hcs
    obtain ⟨rfl, h0, rfl⟩ := hcs
    exact intT.to s (by omega)
theorem fm_ops (hv : Value.okWide Try.prog W r b0 28 v) (h : DataW.Trod enc Try.prog W base spare held 28 v d p) :
    ∃ l : List OpV, Rd W (fun b => b < W.heap.size) v (.list 8 (l.map OpV.fv)) ∧ (∀ o ∈ l, OpIn o) ∧ l.length ≤ 9223372036854775807 := by
  obtain ⟨A, c, l, rfl, s, i, j, m⟩ := read_ops hv h
  exact ⟨l, opT.to s j, i, by omega⟩
theorem fm_int (hv : Value.okWide Try.prog W r b0 3 v) (h : DataW.Trod enc Try.prog W base spare held 3 v d p) : ∃ x : Int, Rd W (fun b => b < W.heap.size) v (.int .i64 x) ∧ I64 x := by
  obtain ⟨x, rfl, i⟩ := read_int Try.underlying3 hv h
  exact ⟨x, .int _ _, i⟩
theorem fm_arr3 (hv : Value.okWide Try.prog W r b0 46 v) (h : DataW.Trod enc Try.prog W base spare held 46 v d p) :
    ∃ x y z : Int, Rd W (fun b => b < W.heap.size) v (.agg [.int .i64 x, .int .i64 y, .int .i64 z]) ∧ I64 x ∧ I64 y ∧ I64 z := by
  obtain ⟨x, y, z, rfl, i, j, k⟩ := read_arr3 hv h
  have := (RdL.cons (Rd.int .i64 x) <| RdL.cons (Rd.int .i64 y) <| RdL.cons (Rd.int .i64 z) RdL.nil : RdL W (fun b => b < W.heap.size) [.int .i64 x, .int .i64 y, .int .i64 z] _)
  exact ⟨x, y, z, .agg _ _ this.1 this.2, i, j, k⟩
end
end Go.Proofs.Ythijndjgchbeoaa
