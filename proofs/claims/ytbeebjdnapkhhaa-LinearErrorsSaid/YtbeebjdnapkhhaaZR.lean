/-
  Some texts as one: Row, RowOps, RowFm.
-/
import Derived.Test.YtbeebjdnapkhhaaZD
import Derived.ProofKit
import Derived.OpenShut
import Derived.ShutString
import Derived.ChangeOld
import Derived.Below
import Derived.Deep.Slices
import Derived.Deep.Fields
import Derived.ChangeSame
/-
 How the arguments of a law read: slices of numbers, numbers, arrays of three numbers, slices of operations.
-/
namespace Go.Proofs.Ytbeebjdnapkhhaa
set_option linter.unusedVariables false
set_option maxRecDepth 100000
open Go.ChangeShapes Go.WideShapes Go.ChangeAt Go.RowKit Go.Deep

theorem i64_of_wf {x : Int} (h : (Lit.int .i64 x).wf = true) : I64 x := by
 simp [Lit.wf, IntKind.min, IntKind.max, IntKind.signed, IntKind.bits] at h
 unfold I64
 omega

section
variable {H : Type} {enc : TypeId × Value → H} {W : World} {base : Nat} {spare : Nat → Bool} {held : Bool} {v : Value} {d : DataW H} {p : List MemPlace} {r : Reach} {b0 : Nat}

theorem spot_none {w : World} {a : Addr} {u : Value} (h : w.cell? a = some u) : a = ⟨a.block, a.off, none⟩ := by
 obtain ⟨b, o, s⟩ := a
 cases s with
 | none => rfl
 | some s =>
  unfold World.cell? at h
  simp only [Option.isSome_some, if_true] at h
  split at h <;> cases h
theorem add_flat (a : Addr) (h : a = ⟨a.block, a.off, none⟩) (n : Nat) : a.add n = ⟨a.block, a.off + n, none⟩ := by
 obtain ⟨b, o, s⟩ := a
 obtain rfl : s = none := by injection h
 unfold Addr.add
 split
 ·subst n; rfl
 ·rfl

theorem read_int (ht : Try.prog.underlying 3 = some (.int .i64)) (hv : Value.okWide Try.prog W r b0 3 v) (h : DataW.Trod enc Try.prog W base spare held 3 v d p) : ∃ x, v = .int .i64 x ∧ I64 x := by
 obtain ⟨x, rfl, _, _, wx⟩ := open_int ht hv h
 exact ⟨x, rfl, i64_of_wf wx⟩

theorem read_ints (hv : Value.okWide Try.prog W r b0 22 v) (h : DataW.Trod enc Try.prog W base spare held 22 v d p) :
  ∃ A c l, v = .slice A l.length c ∧ Sl intv W W.heap.size A l ∧ (∀ x ∈ l, I64 x) ∧ l.length ≤ 9223372036854775807 := by
 obtain ⟨a0, len0, cap0, rfl⟩ := okWide_slice Try.underlying22 hv
 obtain ⟨fuel, hf⟩ := h
 rcases open_ints Try.underlying22 Try.underlying3 (by kernel_rfl) hf with ⟨hcs, _⟩ | ⟨x, l, c, zs, hcs, _, hl, hm, hz, _, hcell, hwz⟩
 ·simp [Value.cells] at hcs
  obtain ⟨rfl, rfl, rfl⟩ := hcs
  exact ⟨none, 0, [], rfl, Sl.nil_ _ _ _ _, by simp, Nat.zero_le _⟩
 ·simp [Value.cells] at hcs
  obtain ⟨rfl, rfl, rfl⟩ := hcs
  have hlz : len0 ≤ zs.length := by rw [hz]; split <;> omega
  have hlen : (zs.take len0).length = len0 := by simp; omega
  refine ⟨some x, cap0, zs.take len0, by rw [hlen], fun hne => ?_, fun y hy => i64_of_wf (hwz y (List.mem_of_mem_take hy)), by unfold maxLen at hm; omega⟩
  have h0 : 0 < len0 := by
   rcases Nat.eq_zero_or_pos len0 with e | e
   ·subst e; simp at hne
   ·exact e
  have hc0 := hcell 0 (by omega)
  rw [show x.add 0 = x by simp [Addr.add]] at hc0
  have hs := spot_none hc0
  refine ⟨x.block, x.off, by rw [← hs], World.block_lt_of_cell? W x hc0, fun j u hu => ?_⟩
  rw [flat_intv, List.getElem?_map, List.getElem?_take] at hu
  split at hu
  ·have hj : j < zs.length := by omega
   have := hcell j hj
   rw [add_flat x hs] at this
   rw [this]
   simpa [hj] using hu
  ·simp at hu

end
end Go.Proofs.Ytbeebjdnapkhhaa
/-
 How two more kinds of argument read: slices of operations, arrays of three numbers.
-/
namespace Go.Proofs.Ytbeebjdnapkhhaa
set_option linter.unusedVariables false
set_option maxRecDepth 100000
open Go.ChangeShapes Go.WideShapes Go.ChangeAt Go.RowKit Go.Deep
section
variable {H : Type} {enc : TypeId × Value → H} {W : World} {base : Nat} {spare : Nat → Bool} {held : Bool} {v : Value} {d : DataW H} {p : List MemPlace} {r : Reach} {b0 : Nat}

theorem op_of_cells {n : Nat} {cs : List Value} {x : DataW H × List MemPlace} (h : DataW.trod enc Try.prog W base spare held n 41 cs = some x) : ∃ o : OpV, cs = o.vals ∧ OpIn o := by
 obtain ⟨xs, m, _, _, hlen, hxl, hf⟩ := DataW.trod_struct Try.underlying41 h
 have hC : Try.prog.cellsOf 41 = 8 := by kernel_rfl
 have k1 : Try.prog.cellsOf 3 = 1 := by kernel_rfl
 have k2 : Try.prog.cellsOf 4 = 1 := by kernel_rfl
 rw [hC] at hlen
 match cs, hlen with
 | [c0, c1, c2, c3, c4, c5, c6, c7], _ =>
  match xs, hxl with
  | [y0, y1, y2, y3, y4, y5, y6, y7], _ =>
   have g0 : DataW.trod enc Try.prog W base spare held m 3 [c0] = some y0 := by simpa [k1] using hf 0 _ rfl
   have g1 : DataW.trod enc Try.prog W base spare held m 3 [c1] = some y1 := by simpa [k1] using hf 1 _ rfl
   have g2 : DataW.trod enc Try.prog W base spare held m 3 [c2] = some y2 := by simpa [k1] using hf 2 _ rfl
   have g3 : DataW.trod enc Try.prog W base spare held m 3 [c3] = some y3 := by simpa [k1] using hf 3 _ rfl
   have g4 : DataW.trod enc Try.prog W base spare held m 3 [c4] = some y4 := by simpa [k1] using hf 4 _ rfl
   have g5 : DataW.trod enc Try.prog W base spare held m 3 [c5] = some y5 := by simpa [k1] using hf 5 _ rfl
   have g6 : DataW.trod enc Try.prog W base spare held m 3 [c6] = some y6 := by simpa [k1] using hf 6 _ rfl
   have g7 : DataW.trod enc Try.prog W base spare held m 4 [c7] = some y7 := by simpa [k2] using hf 7 _ rfl
   obtain ⟨n0, e0, _, w0⟩ := DataW.trod_int Try.underlying3 g0
   obtain ⟨n1, e1, _, w1⟩ := DataW.trod_int Try.underlying3 g1
   obtain ⟨n2, e2, _, w2⟩ := DataW.trod_int Try.underlying3 g2
   obtain ⟨n3, e3, _, w3⟩ := DataW.trod_int Try.underlying3 g3
   obtain ⟨n4, e4, _, w4⟩ := DataW.trod_int Try.underlying3 g4
   obtain ⟨n5, e5, _, w5⟩ := DataW.trod_int Try.underlying3 g5
   obtain ⟨n6, e6, _, w6⟩ := DataW.trod_int Try.underlying3 g6
   obtain ⟨b7, e7, _⟩ := DataW.trod_bool Try.underlying4 g7
   injection e0 with e0; injection e1 with e1; injection e2 with e2; injection e3 with e3; injection e4 with e4; injection e5 with e5; injection e6 with e6; injection e7 with e7
   subst e0 e1 e2 e3 e4 e5 e6 e7
   exact ⟨⟨n0, n1, n2, n3, n4, n5, n6, b7⟩, rfl, i64_of_wf w0, i64_of_wf w1, i64_of_wf w2, i64_of_wf w3, i64_of_wf w4, i64_of_wf w5, i64_of_wf w6⟩

theorem read_ops (hv : Value.okWide Try.prog W r b0 24 v) (h : DataW.Trod enc Try.prog W base spare held 24 v d p) :
  ∃ A c l, v = .slice A l.length c ∧ Sl OpV.vals W W.heap.size A l ∧ (∀ o ∈ l, OpIn o) ∧ l.length ≤ c ∧ c ≤ 9223372036854775807 := by
 obtain ⟨a0, len0, cap0, rfl⟩ := okWide_slice Try.underlying24 hv
 obtain ⟨fuel, hf⟩ := h
 rcases open_slice Try.underlying24 hf with ⟨hcs, _⟩ | ⟨a, len, cap, m, n, D, Pl, hcs, hb, hl, hm, hmm, hx, hi⟩
 ·simp [Value.cells] at hcs
  obtain ⟨rfl, rfl, rfl⟩ := hcs
  exact ⟨none, 0, [], rfl, Sl.nil_ _ _ _ _, by simp, Nat.zero_le _, Nat.zero_le _⟩
 ·simp [Value.cells] at hcs
  obtain ⟨rfl, rfl, rfl⟩ := hcs
  have hC : Try.prog.cellsOf 41 = 8 := by kernel_rfl
  have hlm : len0 ≤ m := by rw [hmm]; split <;> omega
  have key : ∀ i, i < len0 → ∃ o : OpV, OpIn o ∧ ∀ j, j < 8 → W.cell? (a.add (i * 8 + j)) = o.vals[j]? := by
   intro i hil
   obtain ⟨cs', h1, h2⟩ := hi i (by omega)
   rw [hC] at h1
   obtain ⟨_, hcl, hat⟩ := World.cells?_some h1
   obtain ⟨o, rfl, ho⟩ := op_of_cells h2
   exact ⟨o, ho, fun j hj => by rw [← Go.Deep.add_add]; exact hat j hj⟩
  obtain ⟨f, hfun⟩ : ∃ f : Nat → OpV, ∀ i, i < len0 → OpIn (f i) ∧ ∀ j, j < 8 → W.cell? (a.add (i * 8 + j)) = (f i).vals[j]? :=
   ⟨fun i => if hh : i < len0 then (key i hh).choose else default, fun i hh => by dsimp only; rw [dif_pos hh]; exact (key i hh).choose_spec⟩
  have hlen : ((List.range len0).map f).length = len0 := by simp
  refine ⟨some a, cap0, (List.range len0).map f, by rw [hlen], fun hne => ?_, fun o ho => ?_, by rw [hlen]; exact hl, by unfold maxLen at hm; omega⟩
  ·have h0 : 0 < len0 := by
    rcases Nat.eq_zero_or_pos len0 with e | e
    ·subst e; simp at hne
    ·exact e
   have hc0 := (hfun 0 h0).2 0 (by omega)
   rw [show a.add (0 * 8 + 0) = a by simp [Addr.add]] at hc0
   have hs := spot_none (hc0.trans (show (f 0).vals[0]? = some (.int .i64 (f 0).p) from rfl))
   refine ⟨a.block, a.off, by rw [← hs], World.block_lt_of_cell? W a (hc0.trans (show (f 0).vals[0]? = some (.int .i64 (f 0).p) from rfl)), fun j u hu => ?_⟩
   have hj : j < len0 * 8 := by
    have := (List.getElem?_eq_some_iff.1 hu).1
    rw [flat_len OpV.wide, hlen] at this
    exact this
   have hq : j / 8 < len0 := by omega
   have hj2 : j / 8 * 8 + j % 8 = j := by omega
   have h3 := (hfun (j / 8) hq).2 (j % 8) (by omega)
   rw [hj2, add_flat a hs] at h3
   rw [h3]
   have h4 := flat_get OpV.wide ((List.range len0).map f) (j / 8) (j % 8) (by rw [hlen]; exact hq) (by omega)
   rw [hj2, hu] at h4
   rw [h4]
   simp
  ·obtain ⟨i, hi2, rfl⟩ := List.mem_map.1 ho
   exact (hfun i (by simpa using hi2)).1

end
end Go.Proofs.Ytbeebjdnapkhhaa
/-
 How the arguments of a law read, as plain values.
-/
namespace Go.Proofs.Ytbeebjdnapkhhaa
set_option linter.unusedVariables false
set_option maxRecDepth 100000
open Go.ChangeShapes Go.WideShapes Go.ChangeAt Go.RowKit Go.Deep

section
variable {H : Type} {enc : TypeId × Value → H} {W : World} {base : Nat} {spare : Nat → Bool} {held : Bool} {v : Value} {d : DataW H} {p : List MemPlace} {r : Reach} {b0 : Nat}
theorem fm_ints (hv : Value.okWide Try.prog W r b0 22 v) (h : DataW.Trod enc Try.prog W base spare held 22 v d p) :
  ∃ l : List Int, Rd W (fun b => b < W.heap.size) v (.list 1 (l.map intf)) ∧ (∀ x ∈ l, I64 x) ∧ l.length ≤ 9223372036854775807 := by
 have h' := h
 obtain ⟨A, c, l, rfl, s, i, m⟩ := read_ints hv h
 refine ⟨l, ?_, i, m⟩
 obtain ⟨fuel, hf⟩ := h'
 rcases open_ints Try.underlying22 Try.underlying3 (by kernel_rfl) hf with ⟨hcs, _⟩ | ⟨x, l', c', zs, hcs, _, hl, hm, hz, _, hcell, hwz⟩
 ·simp [Value.cells] at hcs
  obtain ⟨rfl, h0, rfl⟩ := hcs
  exact intT.to s (by simp [h0])
 ·simp [Value.cells] at hcs
  obtain ⟨rfl, h0, rfl⟩ := hcs
  exact intT.to s (by omega)
theorem fm_ops (hv : Value.okWide Try.prog W r b0 24 v) (h : DataW.Trod enc Try.prog W base spare held 24 v d p) :
  ∃ l : List OpV, Rd W (fun b => b < W.heap.size) v (.list 8 (l.map OpV.fv)) ∧ (∀ o ∈ l, OpIn o) ∧ l.length ≤ 9223372036854775807 := by
 obtain ⟨A, c, l, rfl, s, i, j, m⟩ := read_ops hv h
 exact ⟨l, opT.to s j, i, by omega⟩
theorem fm_int (hv : Value.okWide Try.prog W r b0 3 v) (h : DataW.Trod enc Try.prog W base spare held 3 v d p) : ∃ x : Int, Rd W (fun b => b < W.heap.size) v (.int .i64 x) ∧ I64 x := by
 obtain ⟨x, rfl, i⟩ := read_int Try.underlying3 hv h
 exact ⟨x, .int _ _, i⟩
end
end Go.Proofs.Ytbeebjdnapkhhaa
